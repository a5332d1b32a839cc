/-
  mulligannum.Is.
-/
import Derived.Test.YtlgfnimahmmgeaaDoorSymU
namespace Go.Proofs.YtlgfnimahmmgeaaDoor
open Go.RowKit
set_option linter.unusedVariables false
set_option linter.unusedSimpArgs false
def k_Is : Nat := 12
def sg_Is : Sig := ⟨[(false, [.err]), (false, [.int .i64])], [(false, [.bool])], false, false, false⟩
def tr_Is : Tree := (.call k_Num [(.var 0)] [(.int .i64)]
(.ret [(.cmp .eq (.var 2) (.var 1))]))
theorem wk_Is : walk E0.cx (sgsN [(11, sg_Num)]) 0 12 sg_Is = tr_Is := by kernel_rfl
theorem bo_Is : ∃ x, bodyOf E0.P 12 = some x := bo_of (by kernel_rfl)
theorem sp_Is_Num : specC [con_Num] k_Num = Num_s := rfl
def Is_s : Spec := fun ds Q => ∃ n m : Int, ds = [errV n, .int .i64 m] ∧ Q [.bool (n == m)]
theorem Is_h : Holds E0 k_Is sg_Is Is_s := con_by wf0 mix0 g0 [con_Num] rfl wk_Is rfl (by
  intro ds Q hs ⟨n, m, e, h⟩
  subst e
  simp only [tr_Is, wp, den_int, den_bool, den_nili, den_ar, den_cmp, den_not, den_len, den_elem, den_isnil, den_errI, den_ifc, den_rep, den_push, den_app, den_emp, den_upd, row0_econs, row0_enil, den_and, den_beq, den_nil, toInt_int, toBool_bool, xs_rows, xs_list, dflt_int, dflt_bool, of_eq, of_ne, of_lt, of_le, of_gt, of_ge, of_add, of_sub, of_rem, List.map_cons, List.map_nil, Dat.bool.injEq, decide_eq_true_eq, decide_eq_false_iff_not, Bool.not_eq_true', Bool.not_eq_false', beq_iff_eq, bne_iff_ne, beq_eq_false_iff_ne, bne_eq_false_iff_eq, ne_eq, List.append_assoc, List.cons_append, List.nil_append, allS, sp_Is_Num, Num_s, den_var0, List.getD_cons_zero]
  exact ⟨n, rfl, h⟩)
noncomputable def con_Is : Con E0 := ⟨k_Is, sg_Is, Is_s, rfl, bo_Is, Is_h⟩
end Go.Proofs.YtlgfnimahmmgeaaDoor
