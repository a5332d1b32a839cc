/-
  Costs, strengths and the places of abilities: program and checker.
-/
import Derived.Test.YtiolgkmfjcdbiaaEffE
namespace Go.Proofs.Ytiolgkmfjcdbiaa
open Go.RowKit
set_option linter.unusedVariables false
set_option linter.unusedSimpArgs false

/-- what may be a cost; free: it must be nothing -/
def costP (a b c d e f : Int) (free : Bool) : Prop := (0 ≤ a ∧ a ≤ 1000 ∧ 0 ≤ b ∧ b ≤ 1000 ∧ 0 ≤ c ∧ c ≤ 1000 ∧ 0 ≤ d ∧ d ≤ 1000 ∧ 0 ≤ e ∧ e ≤ 1000 ∧ 0 ≤ f ∧ f ≤ 1000) ∧ a + b + c + d + e + f ≤ 20 ∧ (free = true → a + b + c + d + e + f = 0)
instance (a b c d e f : Int) (free : Bool) : Decidable (costP a b c d e f free) := by unfold costP; infer_instance
def argB (ds : List Dat) (i : Nat) : Bool := (ds.getD i (.bool false)).toBool
def cost_s : Spec := fun ds Q => Q [.bool (decide (costP (argI ds 0) (argI ds 1) (argI ds 2) (argI ds 3) (argI ds 4) (argI ds 5) (argB ds 6)))]
def paid_s : Spec := cost_s
def rcost7_s : Spec := cost_s
def k_paid : Nat := 23
def sg_paid : Sig := ⟨[(true, List.replicate 6 (.int .i64)), (false, [.bool])], [(false, [.bool])], false, true, true⟩
def tr_paid : Tree := (.ite (.var 6)
 (.ret [(.and (.cmp .eq (.var 0) (.int .i64 0)) (.and (.cmp .eq (.var 1) (.int .i64 0)) (.and (.cmp .eq (.var 2) (.int .i64 0)) (.and (.cmp .eq (.var 3) (.int .i64 0)) (.and (.cmp .eq (.var 4) (.int .i64 0)) (.cmp .eq (.var 5) (.int .i64 0)))))))])
 (.ite (.or (.cmp .lt (.var 0) (.int .i64 0)) (.cmp .gt (.var 0) (.int .i64 1000)))
  (.ret [(.bool false)])
  (.ite (.or (.cmp .lt (.var 1) (.int .i64 0)) (.cmp .gt (.var 1) (.int .i64 1000)))
   (.ret [(.bool false)])
   (.ite (.or (.cmp .lt (.var 2) (.int .i64 0)) (.cmp .gt (.var 2) (.int .i64 1000)))
    (.ret [(.bool false)])
    (.ite (.or (.cmp .lt (.var 3) (.int .i64 0)) (.cmp .gt (.var 3) (.int .i64 1000)))
     (.ret [(.bool false)])
     (.ite (.or (.cmp .lt (.var 4) (.int .i64 0)) (.cmp .gt (.var 4) (.int .i64 1000)))
      (.ret [(.bool false)])
      (.ite (.or (.cmp .lt (.var 5) (.int .i64 0)) (.cmp .gt (.var 5) (.int .i64 1000)))
       (.ret [(.bool false)])
       (.ret [(.cmp .le (.ar .add .i64 (.ar .add .i64 (.ar .add .i64 (.ar .add .i64 (.ar .add .i64 (.ar .add .i64 (.int .i64 0) (.var 0)) (.var 1)) (.var 2)) (.var 3)) (.var 4)) (.var 5)) (.int .i64 20))]))))))))
theorem wk_paid : walk E0.cx (sgsN []) 0 23 sg_paid = tr_paid := by kernel_rfl
theorem bo_paid : ∃ x, bodyOf E0.P 23 = some x := bo_of (by kernel_rfl)
theorem paid_h : Holds E0 k_paid sg_paid paid_s := con_fn wf0 mix0 g0 [] rfl wk_paid rfl (by
  intro Φ hΦ ds Q hs h
  have hl : ds.length = 7 := hs.length.symm
  clear hΦ
  simp only [tr_paid, wp, den_int, den_bool, den_nili, den_ar, den_cmp, den_not, den_len, den_elem, den_isnil, den_errI, den_ifc, den_rep, den_push, den_app, den_emp, den_upd, row0_econs, row0_enil, den_and, den_beq, den_nil, toInt_int, toBool_bool, xs_rows, xs_list, dflt_int, dflt_bool, of_eq, of_ne, of_lt, of_le, of_gt, of_ge, of_add, of_sub, of_rem, List.map_cons, List.map_nil, Dat.bool.injEq, decide_eq_true_eq, decide_eq_false_iff_not, Bool.not_eq_true', Bool.not_eq_false', beq_iff_eq, bne_iff_ne, beq_eq_false_iff_ne, bne_eq_false_iff_eq, ne_eq, List.append_assoc, List.cons_append, List.nil_append, allS, @den_var0 E0.Δ ds, den_varA, den_varB, hl, Nat.reduceLT, Nat.reduceLeDiff, Nat.reduceSub, List.getD_cons_zero, List.getD_cons_succ, argL_fold ds, argI_fold ds, List.append_assoc, List.cons_append, List.nil_append, toInt_int, toBool_bool, xs_rows, xs_list, Int.toNat_natCast, Dat.bool.injEq, den_or]
  simp only [paid_s, rcost7_s, cost_s, argB] at h
  generalize argI ds 0 = a, argI ds 1 = b', argI ds 2 = c, argI ds 3 = d, argI ds 4 = e, argI ds 5 = f at h ⊢
  have fin : ∀ b : Bool, (b = true ↔ costP a b' c d e f (ds.getD 6 (Dat.bool false)).toBool) → Q [.bool b] := fun b hb => by
    rw [show b = decide (costP a b' c d e f (ds.getD 6 (Dat.bool false)).toBool) by rw [Bool.eq_iff_iff, hb, decide_eq_true_eq]]
    exact h
  simp only [Bool.or_eq_true, Bool.or_eq_false_iff, decide_eq_true_eq, decide_eq_false_iff_not]
  refine ⟨fun hf => fin _ ?_, fun hf => ⟨fun h1 => fin _ ?_, fun h1 => ⟨fun h2 => fin _ ?_, fun h2 => ⟨fun h3 => fin _ ?_, fun h3 => ⟨fun h4 => fin _ ?_, fun h4 => ⟨fun h5 => fin _ ?_, fun h5 => ⟨fun h6 => fin _ ?_, fun h6 => fin _ ?_⟩⟩⟩⟩⟩⟩⟩
  · rw [hf]; simp only [Bool.and_eq_true, beq_iff_eq, costP, toBool_bool, true_imp_iff]; omega
  all_goals first
    | (simp only [Bool.false_eq_true, false_iff, costP]; omega)
    | skip
  rw [hf, wrap64 (x := 0 + a) (by omega) (by omega), wrap64 (x := 0 + a + b') (by omega) (by omega), wrap64 (x := 0 + a + b' + c) (by omega) (by omega), wrap64 (x := 0 + a + b' + c + d) (by omega) (by omega), wrap64 (x := 0 + a + b' + c + d + e) (by omega) (by omega), wrap64 (by omega) (by omega)]
  simp only [decide_eq_true_eq, costP, toBool_bool, Bool.false_eq_true, false_imp_iff, and_true]
  omega)
noncomputable def con_paid : Con E0 := ⟨k_paid, sg_paid, paid_s, rfl, bo_paid, paid_h⟩
def k_rcost7 : Nat := 27
def sg_rcost7 : Sig := ⟨[(true, List.replicate 6 (.int .i64)), (false, [.bool])], [(false, [.bool])], false, true, true⟩
def tr_rcost7 : Tree := (.ite (.or (.cmp .lt (.var 0) (.int .i64 0)) (.cmp .gt (.var 0) (.int .i64 1000)))
 (.ret [(.bool false)])
 (.ite (.or (.cmp .lt (.var 1) (.int .i64 0)) (.cmp .gt (.var 1) (.int .i64 1000)))
  (.ret [(.bool false)])
  (.ite (.or (.cmp .lt (.var 2) (.int .i64 0)) (.cmp .gt (.var 2) (.int .i64 1000)))
   (.ret [(.bool false)])
   (.ite (.or (.cmp .lt (.var 3) (.int .i64 0)) (.cmp .gt (.var 3) (.int .i64 1000)))
    (.ret [(.bool false)])
    (.ite (.or (.cmp .lt (.var 4) (.int .i64 0)) (.cmp .gt (.var 4) (.int .i64 1000)))
     (.ret [(.bool false)])
     (.ite (.or (.cmp .lt (.var 5) (.int .i64 0)) (.cmp .gt (.var 5) (.int .i64 1000)))
      (.ret [(.bool false)])
      (.ret [(.and (.cmp .le (.ar .add .i64 (.ar .add .i64 (.ar .add .i64 (.ar .add .i64 (.ar .add .i64 (.var 0) (.var 1)) (.var 2)) (.var 3)) (.var 4)) (.var 5)) (.int .i64 20)) (.or (.not (.var 6)) (.cmp .eq (.ar .add .i64 (.ar .add .i64 (.ar .add .i64 (.ar .add .i64 (.ar .add .i64 (.var 0) (.var 1)) (.var 2)) (.var 3)) (.var 4)) (.var 5)) (.int .i64 0))))])))))))
theorem wk_rcost7 : walk E0.cx (sgsN []) 0 27 sg_rcost7 = tr_rcost7 := by kernel_rfl
theorem bo_rcost7 : ∃ x, bodyOf E0.P 27 = some x := bo_of (by kernel_rfl)
theorem rcost7_h : Holds E0 k_rcost7 sg_rcost7 rcost7_s := con_fn wf0 mix0 g0 [] rfl wk_rcost7 rfl (by
  intro Φ hΦ ds Q hs h
  have hl : ds.length = 7 := hs.length.symm
  clear hΦ
  simp only [tr_rcost7, wp, den_int, den_bool, den_nili, den_ar, den_cmp, den_not, den_len, den_elem, den_isnil, den_errI, den_ifc, den_rep, den_push, den_app, den_emp, den_upd, row0_econs, row0_enil, den_and, den_beq, den_nil, toInt_int, toBool_bool, xs_rows, xs_list, dflt_int, dflt_bool, of_eq, of_ne, of_lt, of_le, of_gt, of_ge, of_add, of_sub, of_rem, List.map_cons, List.map_nil, Dat.bool.injEq, decide_eq_true_eq, decide_eq_false_iff_not, Bool.not_eq_true', Bool.not_eq_false', beq_iff_eq, bne_iff_ne, beq_eq_false_iff_ne, bne_eq_false_iff_eq, ne_eq, List.append_assoc, List.cons_append, List.nil_append, allS, @den_var0 E0.Δ ds, den_varA, den_varB, hl, Nat.reduceLT, Nat.reduceLeDiff, Nat.reduceSub, List.getD_cons_zero, List.getD_cons_succ, argL_fold ds, argI_fold ds, List.append_assoc, List.cons_append, List.nil_append, toInt_int, toBool_bool, xs_rows, xs_list, Int.toNat_natCast, Dat.bool.injEq, den_or]
  simp only [paid_s, rcost7_s, cost_s, argB] at h
  generalize argI ds 0 = a, argI ds 1 = b', argI ds 2 = c, argI ds 3 = d, argI ds 4 = e, argI ds 5 = f at h ⊢
  have fin : ∀ b : Bool, (b = true ↔ costP a b' c d e f (ds.getD 6 (Dat.bool false)).toBool) → Q [.bool b] := fun b hb => by
    rw [show b = decide (costP a b' c d e f (ds.getD 6 (Dat.bool false)).toBool) by rw [Bool.eq_iff_iff, hb, decide_eq_true_eq]]
    exact h
  simp only [Bool.or_eq_true, Bool.or_eq_false_iff, decide_eq_true_eq, decide_eq_false_iff_not]
  refine ⟨fun h1 => fin _ ?_, fun h1 => ⟨fun h2 => fin _ ?_, fun h2 => ⟨fun h3 => fin _ ?_, fun h3 => ⟨fun h4 => fin _ ?_, fun h4 => ⟨fun h5 => fin _ ?_, fun h5 => ⟨fun h6 => fin _ ?_, fun h6 => fin _ ?_⟩⟩⟩⟩⟩⟩
  all_goals first
    | (simp only [Bool.false_eq_true, false_iff, costP]; omega)
    | skip
  rw [wrap64 (x := a + b') (by omega) (by omega), wrap64 (x := a + b' + c) (by omega) (by omega), wrap64 (x := a + b' + c + d) (by omega) (by omega), wrap64 (x := a + b' + c + d + e) (by omega) (by omega), wrap64 (by omega) (by omega)]
  cases (ds.getD 6 (Dat.bool false)).toBool with
  | false => simp only [Bool.and_eq_true, Bool.or_eq_true, decide_eq_true_eq, costP, Bool.false_eq_true, false_imp_iff, and_true, Bool.not_false, true_or]; omega
  | true => simp only [Bool.and_eq_true, Bool.or_eq_true, decide_eq_true_eq, costP, true_imp_iff, Bool.not_true, Bool.false_eq_true, false_or, beq_iff_eq]; omega)
noncomputable def con_rcost7 : Con E0 := ⟨k_rcost7, sg_rcost7, rcost7_s, rfl, bo_rcost7, rcost7_h⟩
end Go.Proofs.Ytiolgkmfjcdbiaa
