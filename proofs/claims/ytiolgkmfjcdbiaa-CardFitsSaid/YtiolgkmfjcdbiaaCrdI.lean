/-
  CardFits: the law.
-/
import Derived.Test.YtiolgkmfjcdbiaaCrdH
namespace Go.Proofs.Ytiolgkmfjcdbiaa
open Go.RowKit
set_option linter.unusedVariables false
set_option linter.unusedSimpArgs false

theorem firstErr_0 : ∀ {l : List (List Dat)}, firstErr l = 0 → ∀ r ∈ l, ablA r = 0
  | [], _, _, h => (by cases h)
  | a :: l, h, r, hr => by
    rw [firstErr] at h
    by_cases ha : ablA a = 0
    · rw [if_neg (not_not_intro ha)] at h
      rcases List.mem_cons.1 hr with rfl | hr
      · exact ha
      · exact firstErr_0 h r hr
    · rw [if_pos ha] at h; exact absurd h ha
theorem ablA_0 {r : List Dat} (h : ablA r = 0) : (argE (r.drop 9)).chk (argI r 8) 1 = 0 ∧ (0 ≤ argI r 8 ∧ argI r 8 ≤ 5) ∧ (argI r 0 = 5 → (argE (r.drop 9)).op = 20) := by
  unfold ablA ablErr at h
  split at h
  · cases h
  split at h
  · cases h
  split at h
  · cases h
  split at h
  · cases h
  split at h
  · exact absurd h (by assumption)
  split at h
  · cases h
  split at h
  · cases h
  rename_i h0 h1 h2 h3
  exact ⟨Decidable.not_not.1 h1, by omega, fun h5 => Decidable.byContradiction fun hn => h3 ⟨h5, fun hs => hn hs.1⟩⟩
theorem crdErr_0 {ds : List Dat} (h : crdErr ds = 0) : ((spells (argL ds 12) = 1) ↔ argI ds 0 = 2) ∧ ∀ r ∈ argL ds 12, ablA r = 0 := by
  unfold crdErr at h
  split at h
  · cases h
  split at h
  · cases h
  split at h
  · cases h
  split at h
  · cases h
  rename_i h1
  have h1 := Decidable.not_not.1 h1
  refine ⟨?_, firstErr_0 h⟩
  unfold formedP at h1
  split at h1 <;> omega
def k_lfits7 : Nat := 4
def sg_lfits7 : Sig := ⟨[(true, [.int .i64, .int .i64] ++ [.bool] ++ List.replicate 9 (.int .i64) ++ [.list 38])], [(false, [.bool])], false, false, false⟩
def tr_lfits7 : Tree := (.call k_alive7 [] [.bool]
(.ite (.not (.var 13))
 (.ret [(.bool false)])
 (.call k_clarge [(.var 0), (.var 1), (.var 2), (.var 3), (.var 4), (.var 5), (.var 6), (.var 7), (.var 8), (.var 9), (.var 10), (.var 11), (.var 12)] [.bool]
 (.ite (.var 14)
  (.ret [(.bool true)])
  (.call k_cCheck [(.var 0), (.var 1), (.var 2), (.var 3), (.var 4), (.var 5), (.var 6), (.var 7), (.var 8), (.var 9), (.var 10), (.var 11), (.var 12)] [.err]
  (.ite (.not (.isnil (.var 15)))
   (.ret [(.bool true)])
   (.loop [(.bool false), (.int .i64 0)] [.bool, (.int .i64)]
    (.ite (.cmp .lt (.var 17) (.len (.var 12)))
     (.ob (.cmp .ge (.var 17) (.int .i64 0))
     (.call k_eCheck [(.elem (.var 12) (.var 17) 9 (.int .i64)), (.elem (.var 12) (.var 17) 10 (.int .i64)), (.elem (.var 12) (.var 17) 11 (.int .i64)), (.elem (.var 12) (.var 17) 12 (.int .i64)), (.elem (.var 12) (.var 17) 13 (.list 36)), (.elem (.var 12) (.var 17) 8 (.int .i64))] [.err]
     (.ite (.not (.isnil (.var 18)))
      (.ret [(.bool false)])
      (.ite (.cmp .eq (.elem (.var 12) (.var 17) 0 (.int .i64)) (.int .i64 5))
       (.ite (.cmp .ne (.elem (.var 12) (.var 17) 9 (.int .i64)) (.int .i64 20))
        (.ret [(.bool false)])
        (.again 0 [(.var 16), (.ar .add .i64 (.var 17) (.int .i64 1))]))
       (.again 0 [(.var 16), (.ar .add .i64 (.var 17) (.int .i64 1))])))))
     (.call k_cUses [(.var 0), (.var 1), (.var 2), (.var 3), (.var 4), (.var 5), (.var 6), (.var 7), (.var 8), (.var 9), (.var 10), (.var 11), (.var 12), (.int .i64 0)] [(.rows 3)]
     (.ret [(.beq (.cmp .eq (.len (.app .emp (.var 18))) (.int .i64 1)) (.cmp .eq (.var 0) (.int .i64 2)))]))))))))))
theorem wk_lfits7 : walk E0.cx (sgsN [(7, sg_alive7), (8, sg_clarge), (10, sg_cCheck), (12, sg_eCheck), (13, sg_cUses)]) 0 4 sg_lfits7 = tr_lfits7 := by kernel_rfl
theorem bo_lfits7 : ∃ x, bodyOf E0.P 4 = some x := bo_of (by kernel_rfl)
theorem sp_lfits7_alive7 : specC [con_alive7, con_clarge, con_cCheck, con_eCheck, con_cUses] k_alive7 = alive7_s := rfl
theorem sp_lfits7_clarge : specC [con_alive7, con_clarge, con_cCheck, con_eCheck, con_cUses] k_clarge = clarge_s := rfl
theorem sp_lfits7_cCheck : specC [con_alive7, con_clarge, con_cCheck, con_eCheck, con_cUses] k_cCheck = cCheck_s := rfl
theorem sp_lfits7_eCheck : specC [con_alive7, con_clarge, con_cCheck, con_eCheck, con_cUses] k_eCheck = eCheck_s := rfl
theorem sp_lfits7_cUses : specC [con_alive7, con_clarge, con_cCheck, con_eCheck, con_cUses] k_cUses = cUses_s := rfl
theorem lfits7_h : Holds E0 k_lfits7 sg_lfits7 true_s := con_fn wf0 mix0 g0 [con_alive7, con_clarge, con_cCheck, con_eCheck, con_cUses] rfl wk_lfits7 rfl (by
  intro Φ hΦ ds Q hs h
  have hl : ds.length = 13 := hs.length.symm
  have s1 : Φ k_alive7 = alive7_s := by rw [hΦ]; rfl
  have s2 : Φ k_clarge = clarge_s := by rw [hΦ]; rfl
  have s3 : Φ k_cCheck = cCheck_s := by rw [hΦ]; rfl
  have s4 : Φ k_eCheck = eCheck_s := by rw [hΦ]; rfl
  have s5 : Φ k_cUses = cUses_s := by rw [hΦ]; rfl
  clear hΦ
  have hrow := abl_len (all2_get hs (i := 12) rfl)
  rw [argL_fold] at hrow
  simp only [tr_lfits7, wp, den_int, den_bool, den_nili, den_ar, den_cmp, den_not, den_len, den_elem, den_isnil, den_errI, den_ifc, den_rep, den_push, den_app, den_emp, den_upd, row0_econs, row0_enil, den_and, den_beq, den_nil, toInt_int, toBool_bool, xs_rows, xs_list, dflt_int, dflt_bool, of_eq, of_ne, of_lt, of_le, of_gt, of_ge, of_add, of_sub, of_rem, List.map_cons, List.map_nil, Dat.bool.injEq, decide_eq_true_eq, decide_eq_false_iff_not, Bool.not_eq_true', Bool.not_eq_false', beq_iff_eq, bne_iff_ne, beq_eq_false_iff_ne, bne_eq_false_iff_eq, ne_eq, List.append_assoc, List.cons_append, List.nil_append, allS, s1, s2, s3, s4, s5, alive7_s, clarge_s, cCheck_s, eCheck_s, cUses_s, uses_s, @den_var0 E0.Δ ds, den_varA, den_varB, hl, Nat.reduceLT, Nat.reduceLeDiff, Nat.reduceSub, List.getD_cons_zero, List.getD_cons_succ, argL_fold ds, argI_fold ds, List.append_assoc, List.cons_append, List.nil_append, toInt_int, toBool_bool, xs_rows, xs_list, Int.toNat_natCast, Dat.bool.injEq, fold13 hl]
  have e12 : argL [ds.getD 0 (.bool false), ds.getD 1 (.bool false), ds.getD 2 (.bool false), ds.getD 3 (.bool false), ds.getD 4 (.bool false), ds.getD 5 (.bool false), ds.getD 6 (.bool false), ds.getD 7 (.bool false), ds.getD 8 (.bool false), ds.getD 9 (.bool false), ds.getD 10 (.bool false), ds.getD 11 (.bool false), ds.getD 12 (.bool false), .int .i64 0] 12 = argL ds 12 := rfl
  have e13 : argI [ds.getD 0 (.bool false), ds.getD 1 (.bool false), ds.getD 2 (.bool false), ds.getD 3 (.bool false), ds.getD 4 (.bool false), ds.getD 5 (.bool false), ds.getD 6 (.bool false), ds.getD 7 (.bool false), ds.getD 8 (.bool false), ds.getD 9 (.bool false), ds.getD 10 (.bool false), ds.getD 11 (.bool false), ds.getD 12 (.bool false), .int .i64 0] 13 = 0 := rfl
  rw [e12, e13]
  refine ⟨fun hx => Bool.noConfusion hx, fun _ b hb => ⟨fun _ => h, fun hf => ?_⟩⟩
  have h9 : (argL ds 12).length ≤ 9 := (hb hf).1
  rw [errV_nil]
  refine ⟨by omega, fun _ => h, fun hc => ?_⟩
  obtain ⟨hsp, hall⟩ := crdErr_0 (of_decide_eq_true hc)
  refine ⟨fun xs m => ∃ i : Nat, i ≤ (argL ds 12).length ∧ m = (argL ds 12).length - i ∧ xs = [.bool false, .int .i64 i], ⟨_, 0, by omega, rfl, rfl⟩, ?_⟩
  rintro b' n m ⟨i, hi, hmi, e⟩
  cases e
  refine ⟨fun hlt => ⟨by omega, ?_⟩, fun hge => ⟨by omega, ?_⟩⟩
  · have hi2 : i < (argL ds 12).length := by omega
    have hmem := getD_memL (d := []) hi2
    have hr := hrow _ hmem
    rw [Int.toNat_natCast]
    have hA := ablA_0 (hall _ hmem)
    generalize (argL ds 12).getD i [] = r at hr hA ⊢
    have eE : argE [r.getD 9 (.int .i64 0), r.getD 10 (.int .i64 0), r.getD 11 (.int .i64 0), r.getD 12 (.int .i64 0), r.getD 13 (dflt E0.Δ (Srt.list 36)), r.getD 8 (.int .i64 0)] = argE (r.drop 9) := by
      match r, hr with
      | [_, _, _, _, _, _, _, _, _, _, _, _, _, _], _ => rfl
    have eT : argI [r.getD 9 (.int .i64 0), r.getD 10 (.int .i64 0), r.getD 11 (.int .i64 0), r.getD 12 (.int .i64 0), r.getD 13 (dflt E0.Δ (Srt.list 36)), r.getD 8 (.int .i64 0)] 5 = argI r 8 := by
      match r, hr with
      | [_, _, _, _, _, _, _, _, _, _, _, _, _, _], _ => rfl
    have eW : (r.getD 0 (.int .i64 0)).toInt = argI r 0 := by
      match r, hr with
      | [_, _, _, _, _, _, _, _, _, _, _, _, _, _], _ => rfl
    have eO : (r.getD 9 (.int .i64 0)).toInt = (argE (r.drop 9)).op := by
      rw [argE_opI, argI_drop]
      match r, hr with
      | [_, _, _, _, _, _, _, _, _, _, _, _, _, _], _ => rfl
    rw [eE, eT, eW, eO, errV_nil]
    have hz : (if argI r 8 < 0 ∨ 5 < argI r 8 then 6 else Eff.chk (argI r 8) 1 (argE (r.drop 9))) = 0 := by
      rw [if_neg (by have := hA.2.1; omega)]; exact hA.1
    rw [hz]
    have hnext : ∃ m', m' < m ∧ ∃ i' : Nat, i' ≤ (argL ds 12).length ∧ m' = (argL ds 12).length - i' ∧ [Dat.bool false, .int .i64 (IntKind.i64.wrap ((i : Int) + 1))] = [.bool false, .int .i64 i'] :=
      ⟨(argL ds 12).length - (i + 1), by omega, i + 1, by omega, rfl, by rw [wrap64 (by omega) (by omega)]; rfl⟩
    refine ⟨fun hx => absurd hx (by decide), fun _ => ⟨fun h5 => ⟨fun hn => absurd (hA.2.2 h5) hn, fun _ => hnext⟩, fun _ => hnext⟩⟩
  · rw [i64R_len]
    have hsp' : (usesK (argL ds 12) 0 (argL ds 12).length).length = 1 ↔ argI ds 0 = 2 := hsp
    generalize (usesK (argL ds 12) 0 (argL ds 12).length).length = u at hsp' ⊢
    have e : (((u : Nat) : Int) == 1) = (argI ds 0 == 2) := by
      rw [Bool.eq_iff_iff, beq_iff_eq, beq_iff_eq, ← hsp']; omega
    rw [e, beq_self_eq_true]; exact h)
end Go.Proofs.Ytiolgkmfjcdbiaa
