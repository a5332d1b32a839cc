/-
  EffectBack: the law, by its walk.
-/
import Derived.Test.YtkilkcgnfhlfiaaEffJ
import Derived.Test.YtkilkcgnfhlfiaaEffF
namespace Go.Proofs.Ytkilkcgnfhlfiaa
open Go.RowKit
set_option linter.unusedVariables false
set_option linter.unusedSimpArgs false

theorem den_slen (Δ : Tab) (ρ : List Dat) (a : Tm) : den Δ ρ (.slen a) = .int .i64 (strD (den Δ ρ a)).size := rfl
theorem den_sof (Δ : Tab) (ρ : List Dat) (a : Tm) : den Δ ρ (.sof a) = .val (.string (bytesOf (den Δ ρ a).xs)) := rfl
theorem den_seq (Δ : Tab) (ρ : List Dat) (a b : Tm) : den Δ ρ (.seq a b) = .bool ((strD (den Δ ρ a)).toList == (strD (den Δ ρ b)).toList) := rfl
theorem strD_size {l : List Nat} : (strD (.val (.string (bytesOf (u8R l))))).size = l.length := by
  rw [bytesOf_u8R, strD]; simp [ByteArray.size]
theorem xs_cut_u8 {A : Option Addr} {n c l h : Nat} {m : List Nat} (h1 : l ≤ h) (h2 : h ≤ m.length) : (cutD l h (.list (.slice A n c) (E0.Δ.row 5).length (u8R m))).xs = u8R ((m.take h).drop l) := by
  have hall : (u8R m).all (fun r' => r'.length == (E0.Δ.row 5).length) = true := List.all_eq_true.2 fun row hr => by
    obtain ⟨x, _, rfl⟩ := List.mem_map.1 hr; rfl
  simp only [cutD]
  rw [if_pos ⟨h1, by rw [u8R_len]; exact h2, hall⟩]
  simp only [xs_list, u8R, List.map_take, List.map_drop]
def k_lback6 : Nat := 6
def sg_lback6 : Sig := ⟨[(true, List.replicate 4 (.int .i64) ++ [.list 24]), (false, [.int .i64]), (false, [.list 5])], [(false, [.bool])], false, false, false⟩
def tr_lback6 : Tree := (.call k_alive [] [.bool]
(.ite (.not (.var 7))
 (.ret [(.bool false)])
 (.call k_Large [(.var 0), (.var 1), (.var 2), (.var 3), (.var 4)] [.bool]
 (.ite (.var 8)
  (.ret [(.bool true)])
  (.ite (.cmp .gt (.len (.var 6)) (.int .i64 200))
   (.ret [(.bool true)])
   (.call k_eCheck [(.var 0), (.var 1), (.var 2), (.var 3), (.var 4), (.var 5)] [.err]
   (.ite (.not (.isnil (.var 9)))
    (.ret [(.bool true)])
    (.call k_eBytes [(.var 0), (.var 1), (.var 2), (.var 3), (.var 4)] [(.rows 5)]
    (.ob (.cmp .le (.len (.app (.app .emp (.var 10)) (.var 6))) (.int .i64 140737488355328))
    (.share 5 (.app (.app .emp (.var 10)) (.var 6))
    (.call k_eTake [(.var 11)] [(.int .i64), (.int .i64), (.int .i64), (.int .i64), (.list 24), (.list 5), .err]
    (.ite (.not (.isnil (.var 18)))
     (.ret [(.bool false)])
     (.call k_effSame [(.var 12), (.var 13), (.var 14), (.var 15), (.var 16), (.var 0), (.var 1), (.var 2), (.var 3), (.var 4)] [.bool]
     (.ite (.not (.var 19))
      (.ret [(.bool false)])
      (.call k_sameB [(.var 17), (.var 6)] [.bool]
      (.ite (.not (.var 20))
       (.ret [(.bool false)])
       (.call k_eDepth [(.var 0), (.var 1), (.var 2), (.var 3), (.var 4)] [(.int .i64)]
       (.ite (.cmp .gt (.var 21) (.int .i64 8))
        (.ret [(.bool false)])
        (.ite (.cmp .gt (.len (.var 4)) (.int .i64 8))
         (.ret [(.bool false)])
         (.call k_rBytes2 [(.var 0)] [(.rows 5)]
         (.call k_eBytes [(.var 0), (.var 1), (.var 2), (.var 3), (.var 4)] [(.rows 5)]
         (.share 5 (.app .emp (.var 23))
         (.ob (.cmp .ge (.slen (.sof (.app .emp (.var 22)))) (.int .i64 0))
         (.ob (.cmp .le (.slen (.sof (.app .emp (.var 22)))) (.len (.var 24)))
         (.ret [(.seq (.sof (.cut (.var 24) (.int .i64 0) (.slen (.sof (.app .emp (.var 22)))))) (.sof (.app .emp (.var 22))))])))))))))))))))))))))))))
theorem wk_lback6 : walk E0.cx (sgsN [(7, sg_alive), (8, sg_Large), (11, sg_eCheck), (25, sg_eBytes), (23, sg_eTake), (19, sg_effSame), (22, sg_sameB), (14, sg_eDepth), (26, sg_rBytes2)]) 0 6 sg_lback6 = tr_lback6 := by kernel_rfl
theorem bo_lback6 : ∃ x, bodyOf E0.P 6 = some x := bo_of (by kernel_rfl)
theorem sp_lback6_alive : specC [con_alive, con_Large, con_eCheck, con_eBytes, con_eTake, con_effSame, con_sameB, con_eDepth, con_rBytes2] k_alive = alive_s := rfl
theorem sp_lback6_Large : specC [con_alive, con_Large, con_eCheck, con_eBytes, con_eTake, con_effSame, con_sameB, con_eDepth, con_rBytes2] k_Large = Large_s := rfl
theorem sp_lback6_eCheck : specC [con_alive, con_Large, con_eCheck, con_eBytes, con_eTake, con_effSame, con_sameB, con_eDepth, con_rBytes2] k_eCheck = eCheck_s := rfl
theorem sp_lback6_eBytes : specC [con_alive, con_Large, con_eCheck, con_eBytes, con_eTake, con_effSame, con_sameB, con_eDepth, con_rBytes2] k_eBytes = eBytes_s := rfl
theorem sp_lback6_eTake : specC [con_alive, con_Large, con_eCheck, con_eBytes, con_eTake, con_effSame, con_sameB, con_eDepth, con_rBytes2] k_eTake = eTake_s := rfl
theorem sp_lback6_effSame : specC [con_alive, con_Large, con_eCheck, con_eBytes, con_eTake, con_effSame, con_sameB, con_eDepth, con_rBytes2] k_effSame = effSame_s := rfl
theorem sp_lback6_sameB : specC [con_alive, con_Large, con_eCheck, con_eBytes, con_eTake, con_effSame, con_sameB, con_eDepth, con_rBytes2] k_sameB = sameB_s := rfl
theorem sp_lback6_eDepth : specC [con_alive, con_Large, con_eCheck, con_eBytes, con_eTake, con_effSame, con_sameB, con_eDepth, con_rBytes2] k_eDepth = eDepth_s := rfl
theorem sp_lback6_rBytes2 : specC [con_alive, con_Large, con_eCheck, con_eBytes, con_eTake, con_effSame, con_sameB, con_eDepth, con_rBytes2] k_rBytes2 = rBytes2_s := rfl
theorem lback6_h : Holds E0 k_lback6 sg_lback6 (fun ds Q => InL ds ∧ Q [.bool true]) := con_fn wf0 mix0 g0 [con_alive, con_Large, con_eCheck, con_eBytes, con_eTake, con_effSame, con_sameB, con_eDepth, con_rBytes2] rfl wk_lback6 rfl (by
  intro Φ hΦ ds Q hs ⟨hi, h⟩
  have hl : ds.length = 7 := hs.length.symm
  have s1 : Φ k_alive = alive_s := by rw [hΦ]; rfl
  have s2 : Φ k_Large = Large_s := by rw [hΦ]; rfl
  have s3 : Φ k_eCheck = eCheck_s := by rw [hΦ]; rfl
  have s4 : Φ k_eBytes = eBytes_s := by rw [hΦ]; rfl
  have s5 : Φ k_eTake = eTake_s := by rw [hΦ]; rfl
  have s6 : Φ k_effSame = eqE_s := by rw [hΦ]; rfl
  have s7 : Φ k_sameB = sameB_s := by rw [hΦ]; rfl
  have s8 : Φ k_eDepth = eDepth_s := by rw [hΦ]; rfl
  have s9 : Φ k_rBytes2 = rBytes2_s := by rw [hΦ]; rfl
  clear hΦ
  have e5 : ∀ e, argE (ds.getD 0 (.bool false) :: ds.getD 1 (.bool false) :: ds.getD 2 (.bool false) :: ds.getD 3 (.bool false) :: ds.getD 4 (.bool false) :: e) = argE ds := fun e => by
    match ds, hl with
    | [_, _, _, _, _, _, _], _ => rfl
  have hok : (argE ds).ok := argE_ok (ss := [.int .i64, .list 5]) hs hi
  have hb5 : Has E0.Δ (.list 5) (ds.getD 6 (.bool false)) := all2_get hs (i := 6) rfl
  obtain ⟨l, hx, hb, hmx⟩ := byte_has hb5 (hi _ (by rw [List.getD_eq_getElem?_getD, List.getElem?_eq_getElem (by omega)]; exact List.getElem_mem _))
  have hx0 := hx
  rw [argL_fold] at hx
  have hfull : [ds.getD 0 (.bool false), ds.getD 1 (.bool false), ds.getD 2 (.bool false), ds.getD 3 (.bool false), ds.getD 4 (.bool false)] = ds.take 5 := by
    match ds, hl with
    | [_, _, _, _, _, _, _], _ => rfl
  simp only [tr_lback6, wp, den_int, den_bool, den_nili, den_ar, den_cmp, den_not, den_len, den_elem, den_isnil, den_errI, den_ifc, den_rep, den_push, den_app, den_emp, den_upd, row0_econs, row0_enil, den_and, den_beq, den_nil, toInt_int, toBool_bool, xs_rows, xs_list, dflt_int, dflt_bool, of_eq, of_ne, of_lt, of_le, of_gt, of_ge, of_add, of_sub, of_rem, List.map_cons, List.map_nil, Dat.bool.injEq, decide_eq_true_eq, decide_eq_false_iff_not, Bool.not_eq_true', Bool.not_eq_false', beq_iff_eq, bne_iff_ne, beq_eq_false_iff_ne, bne_eq_false_iff_eq, ne_eq, List.append_assoc, List.cons_append, List.nil_append, allS, s1, s2, s3, s4, s5, s6, s7, s8, s9, alive_s, Large_s, eTake_s, eCheck_s, eBytes_s, eDepth_s, rBytes2_s, sameB_s, eqE_s, den_cutT, den_slen, den_sof, den_seq, @den_var0 E0.Δ ds, den_varA, den_varB, hl, Nat.reduceLT, Nat.reduceLeDiff, Nat.reduceSub, List.getD_cons_zero, List.getD_cons_succ, argL_fold ds, argI_fold ds, List.append_assoc, List.cons_append, List.nil_append, toInt_int, toBool_bool, xs_rows, xs_list, Int.toNat_natCast, Dat.bool.injEq, e5, argI_c0, argI_c1, argL_c0, argL_c1, hx, u8R_len]
  refine ⟨fun hx => Bool.noConfusion hx, fun _ b hbl => ⟨fun _ => h, fun hf => ⟨fun _ => h, fun hlen => ?_⟩⟩⟩
  have hsz := hbl hf
  have hln : l.length ≤ 200 := by omega
  by_cases hc : (if argI ds 5 < 0 ∨ 5 < argI ds 5 then 6 else Eff.chk (argI ds 5) 1 (argE ds)) = 0
  case neg => exact ⟨fun _ => h, fun hx => by rw [errV_nil, decide_eq_true_eq] at hx; exact absurd hx hc⟩
  rw [hc]
  refine ⟨fun hx => Bool.noConfusion hx, fun _ => ⟨by omega, hok, ?_, fun A c => ?_⟩⟩
  · have := (argE ds).enc_len
    simp only [List.length_append, u8R_len]
    omega
  have hchk : Eff.chk (argI ds 5) 1 (argE ds) = 0 := by
    split at hc
    · cases hc
    · exact hc
  obtain ⟨t1, t2, t3⟩ := Eff.back (argE ds) (argI ds 5) 1 8 l hok (by decide) hchk
  have hlen2 := (argE ds).enc_len
  have hby : ∀ c ∈ (argE ds).enc ++ l, c < 256 := fun c hc => by
    rcases List.mem_append.1 hc with hc | hc
    · exact Eff.enc_byte hok (by omega) c hc
    · exact hb c hc
  refine ⟨(argE ds).enc ++ l, (u8R_app _ _).symm, hby, by rw [List.length_append]; omega, fun r rest hr he hrest => ?_⟩
  rw [t1] at he hrest ⊢
  simp only [if_true, List.drop_left] at he hrest
  obtain ⟨r0, r1, r2, r3, r4, rfl⟩ : ∃ a b c d e, r = [a, b, c, d, e] := by
    match r, hr with
    | [a, b, c, d, e], _ => exact ⟨a, b, c, d, e, rfl⟩
  have hE : argE [r0, r1, r2, r3, r4, ds.getD 0 (.bool false), ds.getD 1 (.bool false), ds.getD 2 (.bool false), ds.getD 3 (.bool false), ds.getD 4 (.bool false)] = argE ds := (argE_row (r := [r0, r1, r2, r3, r4]) (e := [ds.getD 0 (.bool false), ds.getD 1 (.bool false), ds.getD 2 (.bool false), ds.getD 3 (.bool false), ds.getD 4 (.bool false)]) rfl).trans he
  have hE2 : argE2 [r0, r1, r2, r3, r4, ds.getD 0 (.bool false), ds.getD 1 (.bool false), ds.getD 2 (.bool false), ds.getD 3 (.bool false), ds.getD 4 (.bool false)] = argE ds := (argE2_row (r := [r0, r1, r2, r3, r4]) (s := [ds.getD 0 (.bool false), ds.getD 1 (.bool false), ds.getD 2 (.bool false), ds.getD 3 (.bool false), ds.getD 4 (.bool false)]) rfl rfl).trans (by rw [hfull]; rfl)
  simp only [List.cons_append, List.nil_append, List.getD_cons_zero, List.getD_cons_succ, hE, hE2, toBool_bool, toInt_int, xs_list, xs_rows]
  refine ⟨fun hx => Bool.noConfusion hx, fun _ => ⟨by omega, fun b2 hb2 => ⟨fun hf => ?_, fun _ => ⟨l, l, hrest, rfl, hb, hb, fun hx => absurd hx (by simp), fun _ => ⟨by omega, fun hx => by omega, fun _ => ⟨fun hx => ?_, fun _ => ?_⟩⟩⟩⟩⟩⟩
  · rw [hf] at hb2; exact absurd (hb2.2 trivial) (by simp)
  · have hsub := argE_subs ds
    rw [hsub, List.length_map] at t3
    omega
  have hop : in64 (argI ds 0) := by
    have := (Eff.ok_eq _).1 hok
    rw [argE_opI] at this
    exact this.1
  refine ⟨hop.1, hop.2, by omega, hok, fun A2 c2 => ?_⟩
  have hpre : mth.encI (argI ds 0) <+: (argE ds).enc := by
    rw [Eff.enc_eq, argE_opI]
    simp only [List.append_assoc]
    exact List.prefix_append _ _
  rw [strD_size, u8R_len]
  refine ⟨by omega, by exact_mod_cast hpre.length_le, ?_⟩
  have hz : Int.toNat 0 = 0 := rfl
  have hcut := xs_cut_u8 (A := A2) (n := (argE ds).enc.length) (c := c2) (Nat.zero_le (mth.encI (argI ds 0)).length) hpre.length_le
  rw [hz, hcut, List.drop_zero, ← List.prefix_iff_eq_take.1 hpre, beq_self_eq_true]
  exact h)
end Go.Proofs.Ytkilkcgnfhlfiaa
