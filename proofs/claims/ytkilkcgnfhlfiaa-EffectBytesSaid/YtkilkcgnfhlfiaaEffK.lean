/-
  EffectBytes: the law, by its walk.
-/
import Derived.Test.YtkilkcgnfhlfiaaEffJ
import Derived.Test.YtkilkcgnfhlfiaaEffF
namespace Go.Proofs.Ytkilkcgnfhlfiaa
open Go.RowKit
set_option linter.unusedVariables false
set_option linter.unusedSimpArgs false

def k_lbytes6 : Nat := 5
def sg_lbytes6 : Sig := ⟨[(true, List.replicate 4 (.int .i64) ++ [.list 24]), (false, [.list 5])], [(false, [.bool])], false, false, false⟩
def tr_lbytes6 : Tree := (.call k_alive [] [.bool]
(.ite (.not (.var 6))
 (.ret [(.bool false)])
 (.call k_Large [(.var 0), (.var 1), (.var 2), (.var 3), (.var 4)] [.bool]
 (.ite (.var 7)
  (.ret [(.bool true)])
  (.ite (.cmp .gt (.len (.var 5)) (.int .i64 2000))
   (.ret [(.bool true)])
   (.call k_eTake [(.var 5)] [(.int .i64), (.int .i64), (.int .i64), (.int .i64), (.list 24), (.list 5), .err]
   (.call k_rTake6 [(.var 5), (.int .i64 1)] [(.int .i64), (.int .i64), (.int .i64), (.int .i64), (.list 24), (.int .i64), (.int .i64)]
   (.call k_eBytes [(.var 0), (.var 1), (.var 2), (.var 3), (.var 4)] [(.rows 5)]
   (.call k_rBytes6 [(.var 0), (.var 1), (.var 2), (.var 3), (.var 4)] [(.rows 5)]
   (.share 5 (.app .emp (.var 22))
   (.share 5 (.app .emp (.var 23))
   (.call k_sameB [(.var 24), (.var 25)] [.bool]
   (.ite (.not (.var 26))
    (.ret [(.bool false)])
    (.call k_Num [(.var 14)] [(.int .i64)]
    (.ite (.cmp .ne (.var 27) (.var 21))
     (.ret [(.bool false)])
     (.call k_numEffects [(.var 8), (.var 9), (.var 10), (.var 11), (.var 12), (.var 15), (.var 16), (.var 17), (.var 18), (.var 19)] [.bool]
     (.ite (.not (.var 28))
      (.ret [(.bool false)])
      (.ite (.cmp .ne (.var 21) (.int .i64 0))
       (.ite (.cmp .eq (.len (.var 13)) (.int .i64 0))
        (.ret [(.bool true)])
        (.ret [(.bool false)]))
       (.ob (.cmp .ge (.var 20) (.int .i64 0))
       (.ob (.cmp .le (.var 20) (.len (.var 5)))
       (.call k_sameB [(.var 13), (.cut (.var 5) (.var 20) (.len (.var 5)))] [.bool]
       (.ret [(.var 29)]))))))))))))))))))))))
theorem wk_lbytes6 : walk E0.cx (sgsN [(7, sg_alive), (8, sg_Large), (23, sg_eTake), (24, sg_rTake6), (25, sg_eBytes), (18, sg_rBytes6), (22, sg_sameB), (10, sg_Num), (20, sg_numEffects)]) 0 5 sg_lbytes6 = tr_lbytes6 := by kernel_rfl
theorem bo_lbytes6 : ∃ x, bodyOf E0.P 5 = some x := bo_of (by kernel_rfl)
theorem sp_lbytes6_alive : specC [con_alive, con_Large, con_eTake, con_rTake6, con_eBytes, con_rBytes6, con_sameB, con_Num, con_numEffects] k_alive = alive_s := rfl
theorem sp_lbytes6_Large : specC [con_alive, con_Large, con_eTake, con_rTake6, con_eBytes, con_rBytes6, con_sameB, con_Num, con_numEffects] k_Large = Large_s := rfl
theorem sp_lbytes6_eTake : specC [con_alive, con_Large, con_eTake, con_rTake6, con_eBytes, con_rBytes6, con_sameB, con_Num, con_numEffects] k_eTake = eTake_s := rfl
theorem sp_lbytes6_rTake6 : specC [con_alive, con_Large, con_eTake, con_rTake6, con_eBytes, con_rBytes6, con_sameB, con_Num, con_numEffects] k_rTake6 = rTake6_s := rfl
theorem sp_lbytes6_eBytes : specC [con_alive, con_Large, con_eTake, con_rTake6, con_eBytes, con_rBytes6, con_sameB, con_Num, con_numEffects] k_eBytes = eBytes_s := rfl
theorem sp_lbytes6_rBytes6 : specC [con_alive, con_Large, con_eTake, con_rTake6, con_eBytes, con_rBytes6, con_sameB, con_Num, con_numEffects] k_rBytes6 = rBytes6_s := rfl
theorem sp_lbytes6_sameB : specC [con_alive, con_Large, con_eTake, con_rTake6, con_eBytes, con_rBytes6, con_sameB, con_Num, con_numEffects] k_sameB = sameB_s := rfl
theorem sp_lbytes6_Num : specC [con_alive, con_Large, con_eTake, con_rTake6, con_eBytes, con_rBytes6, con_sameB, con_Num, con_numEffects] k_Num = Num_s := rfl
theorem sp_lbytes6_numEffects : specC [con_alive, con_Large, con_eTake, con_rTake6, con_eBytes, con_rBytes6, con_sameB, con_Num, con_numEffects] k_numEffects = numEffects_s := rfl
theorem drop_len_of {l : List Nat} {k : Nat} (h : k ≤ l.length) : (l.drop k).length = l.length - k := List.length_drop
theorem lbytes6_h : Holds E0 k_lbytes6 sg_lbytes6 (fun ds Q => InL ds ∧ Q [.bool true]) := con_fn wf0 mix0 g0 [con_alive, con_Large, con_eTake, con_rTake6, con_eBytes, con_rBytes6, con_sameB, con_Num, con_numEffects] rfl wk_lbytes6 rfl (by
  intro Φ hΦ ds Q hs ⟨hi, h⟩
  have hl : ds.length = 6 := hs.length.symm
  have s1 : Φ k_alive = alive_s := by rw [hΦ]; rfl
  have s2 : Φ k_Large = Large_s := by rw [hΦ]; rfl
  have s3 : Φ k_eTake = eTake_s := by rw [hΦ]; rfl
  have s4 : Φ k_rTake6 = rTake6_s := by rw [hΦ]; rfl
  have s5 : Φ k_eBytes = eBytes_s := by rw [hΦ]; rfl
  have s6 : Φ k_rBytes6 = rBytes6_s := by rw [hΦ]; rfl
  have s7 : Φ k_sameB = sameB_s := by rw [hΦ]; rfl
  have s8 : Φ k_Num = Num_s := by rw [hΦ]; rfl
  have s9 : Φ k_numEffects = eqE_s := by rw [hΦ]; rfl
  clear hΦ
  have e5 : ∀ e, argE (ds.getD 0 (.bool false) :: ds.getD 1 (.bool false) :: ds.getD 2 (.bool false) :: ds.getD 3 (.bool false) :: ds.getD 4 (.bool false) :: e) = argE ds := fun e => by
    match ds, hl with
    | [_, _, _, _, _, _], _ => rfl
  have hok : (argE ds).ok := argE_ok (ss := [.list 5]) hs hi
  have hb5 : Has E0.Δ (.list 5) (ds.getD 5 (.bool false)) := all2_get hs (i := 5) rfl
  obtain ⟨l, hx, hb, hmx⟩ := byte_has hb5 (hi _ (by rw [List.getD_eq_getElem?_getD, List.getElem?_eq_getElem (by omega)]; exact List.getElem_mem _))
  have hx0 := hx
  rw [argL_fold] at hx
  have hcan := tkE_can 8 l hb
  have hle := tkE_le 8 l hb
  simp only [tr_lbytes6, wp, den_int, den_bool, den_nili, den_ar, den_cmp, den_not, den_len, den_elem, den_isnil, den_errI, den_ifc, den_rep, den_push, den_app, den_emp, den_upd, row0_econs, row0_enil, den_and, den_beq, den_nil, toInt_int, toBool_bool, xs_rows, xs_list, dflt_int, dflt_bool, of_eq, of_ne, of_lt, of_le, of_gt, of_ge, of_add, of_sub, of_rem, List.map_cons, List.map_nil, Dat.bool.injEq, decide_eq_true_eq, decide_eq_false_iff_not, Bool.not_eq_true', Bool.not_eq_false', beq_iff_eq, bne_iff_ne, beq_eq_false_iff_ne, bne_eq_false_iff_eq, ne_eq, List.append_assoc, List.cons_append, List.nil_append, allS, s1, s2, s3, s4, s5, s6, s7, s8, s9, alive_s, Large_s, eTake_s, rTake6_s, eBytes_s, rBytes6_s, sameB_s, Num_s, eqE_s, den_cutT, @den_var0 E0.Δ ds, den_varA, den_varB, hl, Nat.reduceLT, Nat.reduceLeDiff, Nat.reduceSub, List.getD_cons_zero, List.getD_cons_succ, argL_fold ds, argI_fold ds, List.append_assoc, List.cons_append, List.nil_append, toInt_int, toBool_bool, xs_rows, xs_list, Int.toNat_natCast, Dat.bool.injEq, e5, argI_c0, argI_c1, argL_c0, argL_c1, hx, u8R_len]
  refine ⟨fun hx => Bool.noConfusion hx, fun _ b hbl => ⟨fun _ => h, fun hf => ⟨fun _ => h, fun hlen => ?_⟩⟩⟩
  have hsz := hbl hf
  have hln : l.length ≤ 2000 := by omega
  refine ⟨l, rfl, hb, by omega, fun r rest hr he hrest => ?_⟩
  refine ⟨l, 8, rfl, hb, by omega, by omega, by omega, fun r' hr' he' => ⟨by omega, hok, by omega, hok, ?_⟩⟩
  obtain ⟨r0, r1, r2, r3, r4, rfl⟩ : ∃ a b c d e, r = [a, b, c, d, e] := by
    match r, hr with
    | [a, b, c, d, e], _ => exact ⟨a, b, c, d, e, rfl⟩
  obtain ⟨q0, q1, q2, q3, q4, rfl⟩ : ∃ a b c d e, r' = [a, b, c, d, e] := by
    match r', hr' with
    | [a, b, c, d, e], _ => exact ⟨a, b, c, d, e, rfl⟩
  simp only [List.cons_append, List.nil_append, List.getD_cons_zero, List.getD_cons_succ, argL_c0, argL_c1, xs_list, xs_rows, toBool_bool, toInt_int]
  intro A c A' c'
  obtain ⟨x, k, e, ht⟩ : ∃ x k e, tkE 8 l = (x, k, e) := ⟨_, _, _, rfl⟩
  simp only [ht] at hcan hle he he' hrest ⊢
  refine ⟨_, _, rfl, rfl, Eff.enc_byte hok (by omega), Eff.enc_byte hok (by omega), fun hx => absurd hx (by simp), fun _ => ⟨_, rfl, ?_⟩⟩
  have hE : argE [r0, r1, r2, r3, r4, q0, q1, q2, q3, q4] = x := (argE_row (r := [r0, r1, r2, r3, r4]) (e := [q0, q1, q2, q3, q4]) rfl).trans he
  have hE2 : argE2 [r0, r1, r2, r3, r4, q0, q1, q2, q3, q4] = x := (argE2_row (r := [r0, r1, r2, r3, r4]) (s := [q0, q1, q2, q3, q4]) rfl rfl).trans he'
  have hxs : x.size ≤ 1000 := by
    by_cases h0 : e = 0
    · obtain ⟨c1, c2, c3⟩ := hcan.1 h0
      have := x.enc_ge
      have c2' : k = x.enc.length := c2
      have hle' : k ≤ l.length := hle
      omega
    · have := hcan.2 h0
      simp only [Prod.mk.injEq] at this
      rw [this.1]; decide
  refine ⟨fun hx => absurd rfl hx, fun _ => ?_⟩
  rw [hE, hE2]
  refine ⟨hxs, fun b2 hb2 => ⟨fun hf => ?_, fun _ => ⟨fun he0 => ?_, fun he0 => ?_⟩⟩⟩
  · rw [hf] at hb2; exact absurd (hb2.2 rfl) (by simp)
  · rw [if_neg he0] at hrest
    rw [hrest]
    exact ⟨fun _ => h, fun hx => absurd rfl hx⟩
  · rw [if_pos he0] at hrest
    refine ⟨by omega, by exact_mod_cast hle, _, _, hrest, (congrArg (fun n => (cutD (k : Int).toNat n (ds.getD 5 (.bool false))).xs) (by rw [hx0, u8R_len])).trans (xs_cutN hb5 hx0 hle rfl), drop_bytes hb _, drop_bytes hb _, ?_⟩
    rw [decide_eq_true rfl]
    exact h)
end Go.Proofs.Ytkilkcgnfhlfiaa
