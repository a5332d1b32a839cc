/-
  The places of abilities: program and checker.
-/
import Derived.Test.YtiolgkmfjcdbiaaCrdA
namespace Go.Proofs.Ytiolgkmfjcdbiaa
open Go.RowKit
set_option linter.unusedVariables false
set_option linter.unusedSimpArgs false

/-- which of the first k abilities count then -/
def usesK (l : List (List Dat)) (w : Int) (k : Nat) : List Nat := (List.range k).filter fun i => rowI (l.getD i []) 0 == w
def i64R (l : List Nat) : List (List Dat) := l.map fun i : Nat => [.int .i64 (i : Int)]
theorem i64R_len (l : List Nat) : (i64R l).length = l.length := List.length_map _
theorem i64R_app (a b : List Nat) : i64R (a ++ b) = i64R a ++ i64R b := List.map_append
theorem usesK_len (l : List (List Dat)) (w : Int) (k : Nat) : (usesK l w k).length ≤ k := Nat.le_trans (List.length_filter_le _ _) (Nat.le_of_eq List.length_range)
theorem usesK_yes {l : List (List Dat)} {w : Int} {k : Nat} (h : rowI (l.getD k []) 0 = w) : usesK l w (k + 1) = usesK l w k ++ [k] := by
  rw [usesK, List.range_succ, List.filter_append, List.filter_cons, if_pos (by rw [h, beq_self_eq_true])]; rfl
theorem usesK_no {l : List (List Dat)} {w : Int} {k : Nat} (h : rowI (l.getD k []) 0 ≠ w) : usesK l w (k + 1) = usesK l w k := by
  rw [usesK, List.range_succ, List.filter_append, List.filter_cons, if_neg (by simpa using h), List.filter_nil, List.append_nil]; rfl
def uses_s : Spec := fun ds Q => (argL ds 12).length ≤ 1000 ∧ Q [.rows (i64R (usesK (argL ds 12) (argI ds 13) (argL ds 12).length))]
def cUses_s : Spec := uses_s
def rUses_s : Spec := uses_s
def k_cUses : Nat := 13
def sg_cUses : Sig := ⟨[(true, [.int .i64, .int .i64] ++ [.bool] ++ List.replicate 9 (.int .i64) ++ [.list 38]), (false, [.int .i64])], [(false, [.rows 3])], true, false, false⟩
def tr_cUses : Tree := (.loop [.emp, (.int .i64 0)] [(.rows 3), (.int .i64)]
 (.ite (.cmp .lt (.var 15) (.len (.var 12)))
  (.ob (.cmp .ge (.var 15) (.int .i64 0))
  (.ite (.cmp .eq (.elem (.var 12) (.var 15) 0 (.int .i64)) (.var 13))
   (.ob (.cmp .le (.len (.push (.var 14) (.econs (.var 15) .enil))) (.int .i64 17592186044416))
   (.again 0 [(.push (.var 14) (.econs (.var 15) .enil)), (.ar .add .i64 (.var 15) (.int .i64 1))]))
   (.again 0 [(.var 14), (.ar .add .i64 (.var 15) (.int .i64 1))])))
  (.ret [(.var 14)])))
theorem wk_cUses : walk E0.cx (sgsN []) 0 13 sg_cUses = tr_cUses := by kernel_rfl
theorem bo_cUses : ∃ x, bodyOf E0.P 13 = some x := bo_of (by kernel_rfl)
theorem cUses_h : Holds E0 k_cUses sg_cUses cUses_s := con_fn wf0 mix0 g0 [] rfl wk_cUses rfl (by
  intro Φ hΦ ds Q hs ⟨hlen, h⟩
  have hl : ds.length = 14 := hs.length.symm
  clear hΦ
  simp only [tr_cUses, wp, den_int, den_bool, den_nili, den_ar, den_cmp, den_not, den_len, den_elem, den_isnil, den_errI, den_ifc, den_rep, den_push, den_app, den_emp, den_upd, row0_econs, row0_enil, den_and, den_beq, den_nil, toInt_int, toBool_bool, xs_rows, xs_list, dflt_int, dflt_bool, of_eq, of_ne, of_lt, of_le, of_gt, of_ge, of_add, of_sub, of_rem, List.map_cons, List.map_nil, Dat.bool.injEq, decide_eq_true_eq, decide_eq_false_iff_not, Bool.not_eq_true', Bool.not_eq_false', beq_iff_eq, bne_iff_ne, beq_eq_false_iff_ne, bne_eq_false_iff_eq, ne_eq, List.append_assoc, List.cons_append, List.nil_append, allS, @den_var0 E0.Δ ds, den_varA, den_varB, hl, Nat.reduceLT, Nat.reduceLeDiff, Nat.reduceSub, List.getD_cons_zero, List.getD_cons_succ, argL_fold ds, argI_fold ds, List.append_assoc, List.cons_append, List.nil_append, toInt_int, toBool_bool, xs_rows, xs_list, Int.toNat_natCast, Dat.bool.injEq]
  refine ⟨fun xs m => ∃ i : Nat, i ≤ (argL ds 12).length ∧ m = (argL ds 12).length - i ∧ xs = [.rows (i64R (usesK (argL ds 12) (argI ds 13) i)), .int .i64 i], ⟨_, 0, by omega, rfl, rfl⟩, ?_⟩
  rintro d _ i' m ⟨i, hi, hmi, e⟩
  cases e
  refine ⟨fun hlt => ⟨by omega, fun he => ⟨?_, ?_⟩, fun he => ?_⟩, fun hge => ?_⟩
  · have := usesK_len (argL ds 12) (argI ds 13) i
    simp only [xs_rows, List.length_append, i64R_len, List.length_cons, List.length_nil]
    omega
  · refine ⟨(argL ds 12).length - (i + 1), by omega, i + 1, by omega, rfl, ?_⟩
    have he' : rowI ((argL ds 12).getD i []) 0 = argI ds 13 := he
    rw [usesK_yes he', i64R_app, wrap64 (by omega) (by omega)]
    rfl
  · refine ⟨(argL ds 12).length - (i + 1), by omega, i + 1, by omega, rfl, ?_⟩
    have he' : rowI ((argL ds 12).getD i []) 0 ≠ argI ds 13 := he
    rw [usesK_no he', wrap64 (by omega) (by omega)]
    rfl
  · rw [show i = (argL ds 12).length by omega]; exact h)
noncomputable def con_cUses : Con E0 := ⟨k_cUses, sg_cUses, cUses_s, rfl, bo_cUses, cUses_h⟩
def k_rUses : Nat := 15
def sg_rUses : Sig := ⟨[(true, [.int .i64, .int .i64] ++ [.bool] ++ List.replicate 9 (.int .i64) ++ [.list 38]), (false, [.int .i64])], [(false, [.rows 3])], true, false, false⟩
def tr_rUses : Tree := (.loop [.emp, (.int .i64 0)] [(.rows 3), (.int .i64)]
 (.ite (.cmp .lt (.var 15) (.len (.var 12)))
  (.ob (.cmp .ge (.var 15) (.int .i64 0))
  (.ite (.cmp .eq (.elem (.var 12) (.var 15) 0 (.int .i64)) (.var 13))
   (.ob (.cmp .le (.len (.push (.var 14) (.econs (.var 15) .enil))) (.int .i64 17592186044416))
   (.again 0 [(.push (.var 14) (.econs (.var 15) .enil)), (.ar .add .i64 (.var 15) (.int .i64 1))]))
   (.again 0 [(.var 14), (.ar .add .i64 (.var 15) (.int .i64 1))])))
  (.ret [(.var 14)])))
theorem wk_rUses : walk E0.cx (sgsN []) 0 15 sg_rUses = tr_rUses := by kernel_rfl
theorem bo_rUses : ∃ x, bodyOf E0.P 15 = some x := bo_of (by kernel_rfl)
theorem rUses_h : Holds E0 k_rUses sg_rUses rUses_s := con_fn wf0 mix0 g0 [] rfl wk_rUses rfl (by
  intro Φ hΦ ds Q hs ⟨hlen, h⟩
  have hl : ds.length = 14 := hs.length.symm
  clear hΦ
  simp only [tr_rUses, wp, den_int, den_bool, den_nili, den_ar, den_cmp, den_not, den_len, den_elem, den_isnil, den_errI, den_ifc, den_rep, den_push, den_app, den_emp, den_upd, row0_econs, row0_enil, den_and, den_beq, den_nil, toInt_int, toBool_bool, xs_rows, xs_list, dflt_int, dflt_bool, of_eq, of_ne, of_lt, of_le, of_gt, of_ge, of_add, of_sub, of_rem, List.map_cons, List.map_nil, Dat.bool.injEq, decide_eq_true_eq, decide_eq_false_iff_not, Bool.not_eq_true', Bool.not_eq_false', beq_iff_eq, bne_iff_ne, beq_eq_false_iff_ne, bne_eq_false_iff_eq, ne_eq, List.append_assoc, List.cons_append, List.nil_append, allS, @den_var0 E0.Δ ds, den_varA, den_varB, hl, Nat.reduceLT, Nat.reduceLeDiff, Nat.reduceSub, List.getD_cons_zero, List.getD_cons_succ, argL_fold ds, argI_fold ds, List.append_assoc, List.cons_append, List.nil_append, toInt_int, toBool_bool, xs_rows, xs_list, Int.toNat_natCast, Dat.bool.injEq]
  refine ⟨fun xs m => ∃ i : Nat, i ≤ (argL ds 12).length ∧ m = (argL ds 12).length - i ∧ xs = [.rows (i64R (usesK (argL ds 12) (argI ds 13) i)), .int .i64 i], ⟨_, 0, by omega, rfl, rfl⟩, ?_⟩
  rintro d _ i' m ⟨i, hi, hmi, e⟩
  cases e
  refine ⟨fun hlt => ⟨by omega, fun he => ⟨?_, ?_⟩, fun he => ?_⟩, fun hge => ?_⟩
  · have := usesK_len (argL ds 12) (argI ds 13) i
    simp only [xs_rows, List.length_append, i64R_len, List.length_cons, List.length_nil]
    omega
  · refine ⟨(argL ds 12).length - (i + 1), by omega, i + 1, by omega, rfl, ?_⟩
    have he' : rowI ((argL ds 12).getD i []) 0 = argI ds 13 := he
    rw [usesK_yes he', i64R_app, wrap64 (by omega) (by omega)]
    rfl
  · refine ⟨(argL ds 12).length - (i + 1), by omega, i + 1, by omega, rfl, ?_⟩
    have he' : rowI ((argL ds 12).getD i []) 0 ≠ argI ds 13 := he
    rw [usesK_no he', wrap64 (by omega) (by omega)]
    rfl
  · rw [show i = (argL ds 12).length by omega]; exact h)
noncomputable def con_rUses : Con E0 := ⟨k_rUses, sg_rUses, rUses_s, rfl, bo_rUses, rUses_h⟩
end Go.Proofs.Ytiolgkmfjcdbiaa
