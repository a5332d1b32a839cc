import Derived.Test.YtilpkfjajnlaoaaDoorM11
import Derived.Test.YtilpkfjajnlaoaaDoorM9

set_option linter.unusedVariables false
set_option linter.unusedSimpArgs false

section
namespace Go.Proofs.YtilpkfjajnlaoaaDoor
open Go.RowKit
set_option linter.unusedVariables false
set_option linter.unusedSimpArgs false

def k_iEq : Nat := 30
def sg_iEq : Sig := ⟨[(false, [.list 3]), (false, [.list 3])], [(false, [.bool])], false, false, false, false, false⟩
def tr_iEq : Tree := (.ite (.cmp .ne (.len (.var 0)) (.len (.var 1)))
 (.ret [(.bool false)])
 (.loop [(.bool false), (.int .i64 0)] [.bool, (.int .i64)]
  (.ite (.cmp .lt (.var 3) (.len (.var 0)))
   (.ob (.cmp .ge (.var 3) (.int .i64 0))
   (.ob (.cmp .ge (.var 3) (.int .i64 0))
   (.ob (.cmp .lt (.var 3) (.len (.var 1)))
   (.ite (.cmp .ne (.elem (.var 0) (.var 3) 0 (.int .i64)) (.elem (.var 1) (.var 3) 0 (.int .i64)))
    (.ret [(.bool false)])
    (.again 0 [(.var 2), (.ar .add .i64 (.var 3) (.int .i64 1))])))))
   (.ret [(.bool true)]))))
theorem wk_iEq : walk E0.cx (sgsN []) 0 30 sg_iEq = tr_iEq := by kernel_rfl
theorem bo_iEq : ∃ x, bodyOf E0.P 30 = some x := bo_of (by kernel_rfl)
def iEq_s : Spec := fun ds Q => (argL ds 0).length ≤ 1000000 ∧ Q [.bool (decide (nums (argL ds 0) = nums (argL ds 1)))]
theorem iEq_h : Holds E0 k_iEq sg_iEq iEq_s := con_fn wf0 mix0 g0 [] rfl wk_iEq rfl (by
  intro Φ hΦ ds Q hs ⟨hlen, h⟩
  have hl : ds.length = 2 := hs.length.symm
  clear hΦ
  simp only [tr_iEq, wp, den_int, den_bool, den_nili, den_ar, den_cmp, den_not, den_len, den_elem, den_isnil, den_errI, den_ifc, den_rep, den_push, den_app, den_emp, den_upd, row0_econs, row0_enil, den_and, den_beq, den_nil, toInt_int, toBool_bool, xs_rows, xs_list, dflt_int, dflt_bool, of_eq, of_ne, of_lt, of_le, of_gt, of_ge, of_add, of_sub, of_rem, List.map_cons, List.map_nil, Dat.bool.injEq, decide_eq_true_eq, decide_eq_false_iff_not, Bool.not_eq_true', Bool.not_eq_false', beq_iff_eq, bne_iff_ne, beq_eq_false_iff_ne, bne_eq_false_iff_eq, ne_eq, List.append_assoc, List.cons_append, List.nil_append, allS, @den_var0 E0.Δ ds, den_varA, den_varB, hl, Nat.reduceLT, Nat.reduceLeDiff, Nat.reduceSub, List.getD_cons_zero, List.getD_cons_succ, argL_fold ds, argI_fold ds, List.append_assoc, List.cons_append, List.nil_append, toInt_int, toBool_bool, xs_rows, xs_list, Int.toNat_natCast, Dat.bool.injEq]
  have fin : ∀ b : Bool, (b = true ↔ nums (argL ds 0) = nums (argL ds 1)) → Q [.bool b] := fun b hb => by
    rw [show b = decide (nums (argL ds 0) = nums (argL ds 1)) by rw [Bool.eq_iff_iff, hb, decide_eq_true_eq]]
    exact h
  refine ⟨fun hne => fin _ ⟨fun hx => Bool.noConfusion hx, fun he => ?_⟩, fun hne => ?_⟩
  · have := congrArg List.length he
    rw [nums_len, nums_len] at this
    omega
  have hll : (argL ds 0).length = (argL ds 1).length := by omega
  refine ⟨fun xs m => ∃ (i : Nat) (b : Bool), i ≤ (argL ds 0).length ∧ m = (argL ds 0).length - i ∧ xs = [.bool b, .int .i64 i] ∧ ∀ k < i, (nums (argL ds 0))[k]? = (nums (argL ds 1))[k]?, ⟨_, 0, _, by omega, rfl, rfl, by omega⟩, ?_⟩
  rintro b i' m ⟨i, _, hi, hmi, e, hall⟩
  cases e
  refine ⟨fun hlt => ⟨by omega, by omega, by omega, fun h9 => fin _ ⟨fun hx => Bool.noConfusion hx, fun he => ?_⟩, fun h9 => ?_⟩, fun hge => fin _ ⟨fun _ => ?_, fun _ => rfl⟩⟩
  · have hi2 : i < (argL ds 0).length := by omega
    have h1 := nums_get hi2
    have h2 := nums_get (l := argL ds 1) (i := i) (by omega)
    rw [he, h2] at h1
    exact absurd (Option.some.inj h1).symm h9
  · have hi2 : i < (argL ds 0).length := by omega
    refine ⟨(argL ds 0).length - (i + 1), by omega, i + 1, b, by omega, by omega, ?_, fun k hk => ?_⟩
    · rw [wrap64 (by omega) (by omega)]; rfl
    · rcases Nat.lt_succ_iff_lt_or_eq.1 hk with hk | rfl
      · exact hall k hk
      · rw [nums_get hi2, nums_get (l := argL ds 1) (by omega)]
        exact congrArg some h9
  · refine List.ext_getElem? fun k => ?_
    by_cases hk : k < i
    · exact hall k hk
    · rw [List.getElem?_eq_none (by rw [nums_len]; omega), List.getElem?_eq_none (by rw [nums_len]; omega)])
noncomputable def con_iEq : Con E0 := ⟨k_iEq, sg_iEq, iEq_s, rfl, bo_iEq, iEq_h⟩
def SameO (l m : List (List Dat)) : Prop := l.length = m.length ∧ ∀ k, k < l.length → ∀ c, c < 18 → rowI (l.getD k []) c = rowI (m.getD k []) c
def k_oEq : Nat := 31
def sg_oEq : Sig := ⟨[(false, [.list 36]), (false, [.list 36])], [(false, [.bool])], false, false, true, false, false⟩
def tr_oEq : Tree := (.ite (.cmp .ne (.len (.var 0)) (.len (.var 1)))
 (.ret [(.bool false)])
 (.loop [(.bool false), (.int .i64 0)] [.bool, (.int .i64)]
  (.ite (.cmp .lt (.var 3) (.len (.var 0)))
   (.ob (.cmp .ge (.var 3) (.int .i64 0))
   (.ob (.cmp .ge (.var 3) (.int .i64 0))
   (.ob (.cmp .lt (.var 3) (.len (.var 1)))
   (.ite (.not (.and (.cmp .eq (.elem (.var 0) (.var 3) 0 (.int .i64)) (.elem (.var 1) (.var 3) 0 (.int .i64))) (.and (.cmp .eq (.elem (.var 0) (.var 3) 1 (.int .i64)) (.elem (.var 1) (.var 3) 1 (.int .i64))) (.and (.cmp .eq (.elem (.var 0) (.var 3) 2 (.int .i64)) (.elem (.var 1) (.var 3) 2 (.int .i64))) (.and (.cmp .eq (.elem (.var 0) (.var 3) 3 (.int .i64)) (.elem (.var 1) (.var 3) 3 (.int .i64))) (.and (.cmp .eq (.elem (.var 0) (.var 3) 4 (.int .i64)) (.elem (.var 1) (.var 3) 4 (.int .i64))) (.and (.cmp .eq (.elem (.var 0) (.var 3) 5 (.int .i64)) (.elem (.var 1) (.var 3) 5 (.int .i64))) (.and (.cmp .eq (.elem (.var 0) (.var 3) 6 (.int .i64)) (.elem (.var 1) (.var 3) 6 (.int .i64))) (.and (.cmp .eq (.elem (.var 0) (.var 3) 7 (.int .i64)) (.elem (.var 1) (.var 3) 7 (.int .i64))) (.and (.cmp .eq (.elem (.var 0) (.var 3) 8 (.int .i64)) (.elem (.var 1) (.var 3) 8 (.int .i64))) (.and (.cmp .eq (.elem (.var 0) (.var 3) 9 (.int .i64)) (.elem (.var 1) (.var 3) 9 (.int .i64))) (.and (.cmp .eq (.elem (.var 0) (.var 3) 10 (.int .i64)) (.elem (.var 1) (.var 3) 10 (.int .i64))) (.and (.cmp .eq (.elem (.var 0) (.var 3) 11 (.int .i64)) (.elem (.var 1) (.var 3) 11 (.int .i64))) (.and (.cmp .eq (.elem (.var 0) (.var 3) 12 (.int .i64)) (.elem (.var 1) (.var 3) 12 (.int .i64))) (.and (.cmp .eq (.elem (.var 0) (.var 3) 13 (.int .i64)) (.elem (.var 1) (.var 3) 13 (.int .i64))) (.and (.cmp .eq (.elem (.var 0) (.var 3) 14 (.int .i64)) (.elem (.var 1) (.var 3) 14 (.int .i64))) (.and (.cmp .eq (.elem (.var 0) (.var 3) 15 (.int .i64)) (.elem (.var 1) (.var 3) 15 (.int .i64))) (.and (.cmp .eq (.elem (.var 0) (.var 3) 16 (.int .i64)) (.elem (.var 1) (.var 3) 16 (.int .i64))) (.cmp .eq (.elem (.var 0) (.var 3) 17 (.int .i64)) (.elem (.var 1) (.var 3) 17 (.int .i64)))))))))))))))))))))
    (.ret [(.bool false)])
    (.again 0 [(.var 2), (.ar .add .i64 (.var 3) (.int .i64 1))])))))
   (.ret [(.bool true)]))))
theorem wk_oEq : walk E0.cx (sgsN []) 0 31 sg_oEq = tr_oEq := by kernel_rfl
theorem bo_oEq : ∃ x, bodyOf E0.P 31 = some x := bo_of (by kernel_rfl)
def oEq_s : Spec := fun ds Q => (argL ds 0).length ≤ 1000000 ∧ ∀ b : Bool, (b = true ↔ SameO (argL ds 0) (argL ds 1)) → Q [.bool b]
theorem oEq_h : Holds E0 k_oEq sg_oEq oEq_s := con_fn wf0 mix0 g0 [] rfl wk_oEq rfl (by
  intro Φ hΦ ds Q hs ⟨hlen, h⟩
  have hl : ds.length = 2 := hs.length.symm
  clear hΦ
  simp only [tr_oEq, wp, den_int, den_bool, den_nili, den_ar, den_cmp, den_not, den_len, den_elem, den_isnil, den_errI, den_ifc, den_rep, den_push, den_app, den_emp, den_upd, row0_econs, row0_enil, den_and, den_beq, den_nil, toInt_int, toBool_bool, xs_rows, xs_list, dflt_int, dflt_bool, of_eq, of_ne, of_lt, of_le, of_gt, of_ge, of_add, of_sub, of_rem, List.map_cons, List.map_nil, Dat.bool.injEq, decide_eq_true_eq, decide_eq_false_iff_not, Bool.not_eq_true', Bool.not_eq_false', beq_iff_eq, bne_iff_ne, beq_eq_false_iff_ne, bne_eq_false_iff_eq, ne_eq, List.append_assoc, List.cons_append, List.nil_append, allS, @den_var0 E0.Δ ds, den_varA, den_varB, hl, Nat.reduceLT, Nat.reduceLeDiff, Nat.reduceSub, List.getD_cons_zero, List.getD_cons_succ, argL_fold ds, argI_fold ds, List.append_assoc, List.cons_append, List.nil_append, toInt_int, toBool_bool, xs_rows, xs_list, Int.toNat_natCast, Dat.bool.injEq, den_or]
  have no : ¬ SameO (argL ds 0) (argL ds 1) → Q [.bool false] := fun hn => h _ (by simp only [Bool.false_eq_true, false_iff]; exact hn)
  refine ⟨fun hne => no fun hS => hne (by rw [hS.1]), fun hlen2 => ?_⟩
  refine ⟨fun xs m => ∃ i : Nat, i ≤ (argL ds 0).length ∧ m = (argL ds 0).length - i ∧ xs = [.bool false, .int .i64 i] ∧ ∀ k, k < i → ∀ c, c < 18 → rowI ((argL ds 0).getD k []) c = rowI ((argL ds 1).getD k []) c, ⟨_, 0, by omega, rfl, rfl, fun k hk => absurd hk (by omega)⟩, ?_⟩
  rintro b n m ⟨i, hi, hm, e, hall⟩
  cases e
  refine ⟨fun hlt => ⟨by omega, by omega, by omega, ?_⟩, fun hge => h _ ?_⟩
  · have e3 := eq18 (fun c => (((argL ds 0).getD i []).getD c (Dat.int .i64 0)).toInt) (fun c => (((argL ds 1).getD i []).getD c (Dat.int .i64 0)).toInt)
    rw [Int.toNat_natCast, e3]
    refine ⟨fun hne => no fun hS => odf hne (hS.2 i (by omega)), fun he0 => have he := odt he0; ⟨(argL ds 0).length - (i + 1), by omega, i + 1, by omega, rfl, by rw [wrap64 (by omega) (by omega)]; rfl, fun k hk => ?_⟩⟩
    by_cases hki : k = i
    · subst hki; exact he
    · exact hall k (by omega)
  · simp only [true_iff]
    exact ⟨by omega, fun k hk => hall k (by omega)⟩)
noncomputable def con_oEq : Con E0 := ⟨k_oEq, sg_oEq, oEq_s, rfl, bo_oEq, oEq_h⟩
def k_sClone : Nat := 29
def sg_sClone : Sig := ⟨[(false, [.list 3])], [(false, [.rows 3])], true, false, false, false, false⟩
def tr_sClone : Tree := (.ite (.isnil (.var 0))
 (.ret [.emp])
 (.ob (.cmp .le (.len (.app .emp (.var 0))) (.int .i64 17592186044416))
 (.ret [(.app .emp (.var 0))])))
theorem wk_sClone : walk E0.cx (sgsN []) 0 29 sg_sClone = tr_sClone := by kernel_rfl
theorem bo_sClone : ∃ x, bodyOf E0.P 29 = some x := bo_of (by kernel_rfl)
def sClone_s : Spec := fun ds Q => (argL ds 0).length ≤ 100000000 ∧ Q [.rows (argL ds 0)]
theorem sClone_h : Holds E0 k_sClone sg_sClone sClone_s := con_fnN wf0 mix0 g0 [] rfl wk_sClone rfl (by
  intro Φ hΦ ds Q hs hnil ⟨hn, h⟩
  have hl : ds.length = 1 := hs.length.symm
  simp only [tr_sClone, wp, den_int, den_bool, den_nili, den_ar, den_cmp, den_not, den_len, den_elem, den_isnil, den_errI, den_ifc, den_rep, den_push, den_app, den_emp, den_upd, row0_econs, row0_enil, den_and, den_beq, den_nil, toInt_int, toBool_bool, xs_rows, xs_list, dflt_int, dflt_bool, of_eq, of_ne, of_lt, of_le, of_gt, of_ge, of_add, of_sub, of_rem, List.map_cons, List.map_nil, Dat.bool.injEq, decide_eq_true_eq, decide_eq_false_iff_not, Bool.not_eq_true', Bool.not_eq_false', beq_iff_eq, bne_iff_ne, beq_eq_false_iff_ne, bne_eq_false_iff_eq, ne_eq, List.append_assoc, List.cons_append, List.nil_append, @den_var0 E0.Δ ds, den_varA, den_varB, hl, Nat.reduceLT, Nat.reduceLeDiff, Nat.reduceSub, List.getD_cons_zero, List.getD_cons_succ, argL_fold ds, argI_fold ds, List.append_assoc, List.cons_append, List.nil_append, toInt_int, toBool_bool, xs_rows, xs_list, Int.toNat_natCast, Dat.bool.injEq]
  refine ⟨fun h0 => ?_, fun _ => ⟨by omega, h⟩⟩
  have : argL ds 0 = [] := by
    rw [← argL_fold]
    exact hnil _ (getD_memL (by omega)) h0
  rw [this] at h; exact h)
noncomputable def con_sClone : Con E0 := ⟨k_sClone, sg_sClone, sClone_s, rfl, bo_sClone, sClone_h⟩
def k_oClone : Nat := 28
def sg_oClone : Sig := ⟨[(false, [.list 36])], [(false, [.rows 36])], true, false, false, false, false⟩
def tr_oClone : Tree := (.ite (.isnil (.var 0))
 (.ret [.emp])
 (.ob (.cmp .le (.len (.app .emp (.var 0))) (.int .i64 977343669134))
 (.ret [(.app .emp (.var 0))])))
theorem wk_oClone : walk E0.cx (sgsN []) 0 28 sg_oClone = tr_oClone := by kernel_rfl
theorem bo_oClone : ∃ x, bodyOf E0.P 28 = some x := bo_of (by kernel_rfl)
def oClone_s : Spec := fun ds Q => (argL ds 0).length ≤ 100000000 ∧ Q [.rows (argL ds 0)]
theorem oClone_h : Holds E0 k_oClone sg_oClone oClone_s := con_fnN wf0 mix0 g0 [] rfl wk_oClone rfl (by
  intro Φ hΦ ds Q hs hnil ⟨hn, h⟩
  have hl : ds.length = 1 := hs.length.symm
  simp only [tr_oClone, wp, den_int, den_bool, den_nili, den_ar, den_cmp, den_not, den_len, den_elem, den_isnil, den_errI, den_ifc, den_rep, den_push, den_app, den_emp, den_upd, row0_econs, row0_enil, den_and, den_beq, den_nil, toInt_int, toBool_bool, xs_rows, xs_list, dflt_int, dflt_bool, of_eq, of_ne, of_lt, of_le, of_gt, of_ge, of_add, of_sub, of_rem, List.map_cons, List.map_nil, Dat.bool.injEq, decide_eq_true_eq, decide_eq_false_iff_not, Bool.not_eq_true', Bool.not_eq_false', beq_iff_eq, bne_iff_ne, beq_eq_false_iff_ne, bne_eq_false_iff_eq, ne_eq, List.append_assoc, List.cons_append, List.nil_append, @den_var0 E0.Δ ds, den_varA, den_varB, hl, Nat.reduceLT, Nat.reduceLeDiff, Nat.reduceSub, List.getD_cons_zero, List.getD_cons_succ, argL_fold ds, argI_fold ds, List.append_assoc, List.cons_append, List.nil_append, toInt_int, toBool_bool, xs_rows, xs_list, Int.toNat_natCast, Dat.bool.injEq]
  refine ⟨fun h0 => ?_, fun _ => ⟨by omega, h⟩⟩
  have : argL ds 0 = [] := by
    rw [← argL_fold]
    exact hnil _ (getD_memL (by omega)) h0
  rw [this] at h; exact h)
noncomputable def con_oClone : Con E0 := ⟨k_oClone, sg_oClone, oClone_s, rfl, bo_oClone, oClone_h⟩
def k_tSame : Nat := 12
def sg_tSame : Sig := ⟨[(true, [.list 36] ++ List.replicate 11 (.list 3) ++ List.replicate 25 (.int .i64)), (true, [.list 36] ++ List.replicate 11 (.list 3) ++ List.replicate 25 (.int .i64))], [(false, [.bool])], false, false, true, false, false⟩
def tr_tSame : Tree := (.loop [(.bool false), (.int .i64 0)] [.bool, (.int .i64)] (.ite (.cmp .lt (.var 75) (.int .i64 11)) (.ob (.cmp .ge (.var 75) (.int .i64 0)) (.ob (.cmp .ge (.var 75) (.int .i64 0)) (.call k_iEq [(.sel (.econs (.var 1) (.econs (.var 2) (.econs (.var 3) (.econs (.var 4) (.econs (.var 5) (.econs (.var 6) (.econs (.var 7) (.econs (.var 8) (.econs (.var 9) (.econs (.var 10) (.econs (.var 11) .enil))))))))))) (.var 75) (.list 3)), (.sel (.econs (.var 38) (.econs (.var 39) (.econs (.var 40) (.econs (.var 41) (.econs (.var 42) (.econs (.var 43) (.econs (.var 44) (.econs (.var 45) (.econs (.var 46) (.econs (.var 47) (.econs (.var 48) .enil))))))))))) (.var 75) (.list 3))] [.bool] (.ite (.not (.var 76)) (.ret [(.bool false)]) (.again 0 [(.var 74), (.ar .add .i64 (.var 75) (.int .i64 1))]))))) (.ite (.and (.cmp .eq (.var 12) (.var 49)) (.and (.cmp .eq (.var 13) (.var 50)) (.and (.cmp .eq (.var 14) (.var 51)) (.and (.cmp .eq (.var 15) (.var 52)) (.and (.cmp .eq (.var 16) (.var 53)) (.and (.cmp .eq (.var 17) (.var 54)) (.and (.cmp .eq (.var 18) (.var 55)) (.and (.cmp .eq (.var 19) (.var 56)) (.and (.cmp .eq (.var 20) (.var 57)) (.and (.cmp .eq (.var 21) (.var 58)) (.and (.cmp .eq (.var 22) (.var 59)) (.and (.cmp .eq (.var 23) (.var 60)) (.and (.cmp .eq (.var 24) (.var 61)) (.and (.cmp .eq (.var 25) (.var 62)) (.and (.cmp .eq (.var 26) (.var 63)) (.and (.cmp .eq (.var 27) (.var 64)) (.and (.cmp .eq (.var 28) (.var 65)) (.cmp .eq (.var 29) (.var 66))))))))))))))))))) (.ite (.and (.cmp .eq (.var 30) (.var 67)) (.and (.cmp .eq (.var 31) (.var 68)) (.and (.cmp .eq (.var 32) (.var 69)) (.and (.cmp .eq (.var 33) (.var 70)) (.and (.cmp .eq (.var 34) (.var 71)) (.and (.cmp .eq (.var 35) (.var 72)) (.cmp .eq (.var 36) (.var 73)))))))) (.call k_oEq [(.var 0), (.var 37)] [.bool] (.ret [(.var 76)])) (.ret [(.bool false)])) (.ret [(.bool false)]))))
theorem wk_tSame : walk E0.cx (sgsN [(30, sg_iEq), (31, sg_oEq)]) 0 12 sg_tSame = tr_tSame := by kernel_rfl
theorem bo_tSame : ∃ x, bodyOf E0.P 12 = some x := bo_of (by kernel_rfl)
theorem sp_tSame_iEq : specC [con_iEq, con_oEq] k_iEq = iEq_s := rfl
theorem sp_tSame_oEq : specC [con_iEq, con_oEq] k_oEq = oEq_s := rfl
def tSame_s : Spec := nStates_s
theorem tSame_h : Holds E0 k_tSame sg_tSame tSame_s := con_fn wf0 mix0 g0 [con_iEq, con_oEq] rfl wk_tSame rfl (by
  intro Φ hΦ ds Q hs ⟨hsm, hsm2, h⟩
  have hl : ds.length = 74 := hs.length.symm
  have s1 : Φ k_iEq = iEq_s := by rw [hΦ]; rfl
  have s2 : Φ k_oEq = oEq_s := by rw [hΦ]; rfl
  clear hΦ
  simp only [tr_tSame, wp, den_int, den_bool, den_nili, den_ar, den_cmp, den_not, den_len, den_elem, den_isnil, den_errI, den_ifc, den_rep, den_push, den_app, den_emp, den_upd, row0_econs, row0_enil, den_and, den_beq, den_nil, toInt_int, toBool_bool, xs_rows, xs_list, dflt_int, dflt_bool, of_eq, of_ne, of_lt, of_le, of_gt, of_ge, of_add, of_sub, of_rem, List.map_cons, List.map_nil, Dat.bool.injEq, decide_eq_true_eq, decide_eq_false_iff_not, Bool.not_eq_true', Bool.not_eq_false', beq_iff_eq, bne_iff_ne, beq_eq_false_iff_ne, bne_eq_false_iff_eq, ne_eq, List.append_assoc, List.cons_append, List.nil_append, allS, s1, s2, iEq_s, oEq_s, @den_var0 E0.Δ ds, den_varA, den_varB, hl, Nat.reduceLT, Nat.reduceLeDiff, Nat.reduceSub, List.getD_cons_zero, List.getD_cons_succ, argL_fold ds, argI_fold ds, List.append_assoc, List.cons_append, List.nil_append, toInt_int, toBool_bool, xs_rows, xs_list, Int.toNat_natCast, Dat.bool.injEq, den_or]
  have no : ¬ SameS ds → Q [.bool false] := fun hn => h _ (by simp only [Bool.false_eq_true, false_iff]; exact hn)
  have hn0 := hsm 0 (by omega)
  refine ⟨fun xs m => ∃ z : Nat, z ≤ 11 ∧ m = 11 - z ∧ xs = [.bool false, .int .i64 z] ∧ ∀ y, y < z → nums (argL ds (y + 1)) = nums (argL ds (y + 38)), ⟨_, 0, by omega, rfl, rfl, fun k hk => absurd hk (by omega)⟩, ?_⟩
  rintro b1 n1 m1 ⟨z, hz, hm1, e, hnum⟩
  cases e
  refine ⟨fun hlt => ?_, fun hge2 => ?_⟩
  · have hz11 : z < 11 := by omega
    have g1 : ∀ s, den E0.Δ (ds ++ [.bool false, .int .i64 z]) (.sel (.econs (.var 1) (.econs (.var 2) (.econs (.var 3) (.econs (.var 4) (.econs (.var 5) (.econs (.var 6) (.econs (.var 7) (.econs (.var 8) (.econs (.var 9) (.econs (.var 10) (.econs (.var 11) .enil))))))))))) (.var 75) s) = ds.getD (z + 1) (.bool false) := fun s => den_listsG (by omega) (by simp only [@den_var0 E0.Δ ds, den_varA, den_varB, hl, Nat.reduceLT, Nat.reduceLeDiff, Nat.reduceSub, List.getD_cons_zero, List.getD_cons_succ, argL_fold ds, argI_fold ds, List.append_assoc, List.cons_append, List.nil_append, toInt_int, toBool_bool, xs_rows, xs_list, Int.toNat_natCast, Dat.bool.injEq]) hz11
    have g2 : ∀ s, den E0.Δ (ds ++ [.bool false, .int .i64 z]) (.sel (.econs (.var 38) (.econs (.var 39) (.econs (.var 40) (.econs (.var 41) (.econs (.var 42) (.econs (.var 43) (.econs (.var 44) (.econs (.var 45) (.econs (.var 46) (.econs (.var 47) (.econs (.var 48) .enil))))))))))) (.var 75) s) = ds.getD (z + 38) (.bool false) := fun s => den_listsH (by omega) (by simp only [@den_var0 E0.Δ ds, den_varA, den_varB, hl, Nat.reduceLT, Nat.reduceLeDiff, Nat.reduceSub, List.getD_cons_zero, List.getD_cons_succ, argL_fold ds, argI_fold ds, List.append_assoc, List.cons_append, List.nil_append, toInt_int, toBool_bool, xs_rows, xs_list, Int.toNat_natCast, Dat.bool.injEq]) hz11
    simp only [g1, g2, argL_c0, argL_c1, argL_fold ds]
    have hz1 := hsm (z + 1) (by omega)
    refine ⟨by omega, by omega, hz1, fun hne => no fun hS => hne (hS.2.2.2 z hz11), fun he => ⟨11 - (z + 1), by omega, z + 1, by omega, rfl, by rw [wrap64 (by omega) (by omega)]; rfl, fun y hy => ?_⟩⟩
    by_cases hyz : y = z
    · subst hyz; exact he
    · exact hnum y (by omega)
  · have e1 := eq18 (fun c => argI ds (12 + c)) (fun c => argI ds (49 + c))
    have e2 := eq7 (fun c => argI ds (30 + c)) (fun c => argI ds (67 + c))
    simp only [Nat.reduceAdd] at e1 e2
    simp only [e1, e2]
    simp only [argL_c0, argL_c1, argL_fold ds]
    refine ⟨fun p1 => ⟨fun p2 => ⟨hn0, fun b hb => h b (hb.trans ⟨fun hO => ⟨hO.1, fun i hi => ?_, fun k hk => hO.2 k hk, fun z hz => hnum z (by omega)⟩, fun hS => ⟨hS.1, fun k hk => hS.2.2.1 k hk⟩⟩)⟩, fun p2 => no fun hS => odf p2 fun c hc => ?_⟩, fun p1 => no fun hS => odf p1 fun c hc => hS.2.1 c (by omega)⟩
    · have h1 := odt p1
      have h2 := odt p2
      by_cases hc : i < 18
      · exact h1 i hc
      · have := h2 (i - 18) (by omega)
        rwa [show 30 + (i - 18) = 12 + i by omega, show 67 + (i - 18) = 49 + i by omega] at this
    · have := hS.2.1 (18 + c) (by omega)
      rwa [show 12 + (18 + c) = 30 + c by omega, show 49 + (18 + c) = 67 + c by omega] at this)
noncomputable def con_tSame : Con E0 := ⟨k_tSame, sg_tSame, tSame_s, rfl, bo_tSame, tSame_h⟩
end Go.Proofs.YtilpkfjajnlaoaaDoor
end

section
namespace Go.Proofs.YtilpkfjajnlaoaaDoor
open Go.RowKit
set_option linter.unusedVariables false
set_option linter.unusedSimpArgs false
def k_Is : Nat := 27
def sg_Is : Sig := ⟨[(false, [.err]), (false, [.int .i64])], [(false, [.bool])], false, false, false, false, false⟩
def tr_Is : Tree := (.call k_Num [(.var 0)] [(.int .i64)]
(.ret [(.cmp .eq (.var 2) (.var 1))]))
theorem wk_Is : walk E0.cx (sgsN [(22, sg_Num)]) 0 27 sg_Is = tr_Is := by kernel_rfl
theorem bo_Is : ∃ x, bodyOf E0.P 27 = some x := bo_of (by kernel_rfl)
theorem sp_Is_Num : specC [con_Num] k_Num = Num_s := rfl
def Is_s : Spec := fun ds Q => ∃ n m : Int, ds = [errV n, .int .i64 m] ∧ Q [.bool (n == m)]
theorem Is_h : Holds E0 k_Is sg_Is Is_s := con_by wf0 mix0 g0 [con_Num] rfl wk_Is rfl (by
  intro ds Q hs ⟨n, m, e, h⟩
  subst e
  simp only [tr_Is, wp, den_int, den_bool, den_nili, den_ar, den_cmp, den_not, den_len, den_elem, den_isnil, den_errI, den_ifc, den_rep, den_push, den_app, den_emp, den_upd, row0_econs, row0_enil, den_and, den_beq, den_nil, toInt_int, toBool_bool, xs_rows, xs_list, dflt_int, dflt_bool, of_eq, of_ne, of_lt, of_le, of_gt, of_ge, of_add, of_sub, of_rem, List.map_cons, List.map_nil, Dat.bool.injEq, decide_eq_true_eq, decide_eq_false_iff_not, Bool.not_eq_true', Bool.not_eq_false', beq_iff_eq, bne_iff_ne, beq_eq_false_iff_ne, bne_eq_false_iff_eq, ne_eq, List.append_assoc, List.cons_append, List.nil_append, allS, sp_Is_Num, Num_s, den_var0, List.getD_cons_zero]
  exact ⟨n, rfl, h⟩)
noncomputable def con_Is : Con E0 := ⟨k_Is, sg_Is, Is_s, rfl, bo_Is, Is_h⟩
end Go.Proofs.YtilpkfjajnlaoaaDoor
end

section
namespace Go.Proofs.YtilpkfjajnlaoaaDoor
open Go.RowKit
set_option linter.unusedVariables false
set_option linter.unusedSimpArgs false

def k_New : Nat := 14
def sg_New : Sig := ⟨[], [(true, [.list 36] ++ List.replicate 11 (.list 3) ++ List.replicate 25 (.int .i64))], false, false, false, false, false⟩
def tr_New : Tree := (.ret [(.nil 36), (.nil 3), (.nil 3), (.nil 3), (.nil 3), (.nil 3), (.nil 3), (.nil 3), (.nil 3), (.nil 3), (.nil 3), (.nil 3), (.int .i64 0), (.int .i64 0), (.int .i64 0), (.int .i64 0), (.int .i64 0), (.int .i64 0), (.int .i64 0), (.int .i64 0), (.int .i64 0), (.int .i64 0), (.int .i64 0), (.int .i64 0), (.int .i64 0), (.int .i64 0), (.int .i64 0), (.int .i64 0), (.int .i64 0), (.int .i64 0), (.int .i64 0), (.int .i64 0), (.int .i64 0), (.int .i64 0), (.int .i64 0), (.int .i64 0), (.int .i64 0)])
theorem wk_New : walk E0.cx (sgsN []) 0 14 sg_New = tr_New := by kernel_rfl
theorem bo_New : ∃ x, bodyOf E0.P 14 = some x := bo_of (by kernel_rfl)
def st0 : List Dat := [.list (.slice none 0 0) 18 [], .list (.slice none 0 0) 1 [], .list (.slice none 0 0) 1 [], .list (.slice none 0 0) 1 [], .list (.slice none 0 0) 1 [], .list (.slice none 0 0) 1 [], .list (.slice none 0 0) 1 [], .list (.slice none 0 0) 1 [], .list (.slice none 0 0) 1 [], .list (.slice none 0 0) 1 [], .list (.slice none 0 0) 1 [], .list (.slice none 0 0) 1 []] ++ List.replicate 25 (.int .i64 0)
def New_s : Spec := fun ds Q => Q st0
theorem New_h : Holds E0 k_New sg_New New_s := con_each wf0 mix0 g0 [] rfl wk_New rfl (by
  intro Q h
  exact h)
noncomputable def con_New : Con E0 := ⟨k_New, sg_New, New_s, rfl, bo_New, New_h⟩

theorem sm0 : Sm st0 := fun i hi => by
  match i, hi with
  | 0, _ | 1, _ | 2, _ | 3, _ | 4, _ | 5, _ | 6, _ | 7, _ | 8, _ | 9, _ | 10, _ | 11, _ => exact Nat.zero_le _
theorem pl0 (d : Dat) : plP (d :: st0.tail) := (plP_iff _).2 fun i hi f hf => by
  match i, hi with
  | 0, _ =>
    match f, hf with
    | 0, _ | 1, _ | 2, _ | 3, _ | 4, _ | 5, _ | 6, _ | 7, _ | 8, _ => rfl
  | 1, _ =>
    match f, hf with
    | 0, _ | 1, _ | 2, _ | 3, _ | 4, _ | 5, _ | 6, _ | 7, _ | 8, _ => rfl
theorem gm0 (d : Dat) : gmP (d :: st0.tail) := ⟨rfl, rfl, rfl, rfl, rfl, rfl, rfl⟩
theorem ids0 (d : Dat) : ids (d :: st0.tail) 11 = [] := rfl
theorem err0 : errP st0 0 := by
  unfold errP
  rw [if_neg (by decide)]
  exact .inr (.inr (.inr ⟨⟨fun o ho => absurd ho (List.not_mem_nil), pl0 _, gm0 _⟩, ⟨fun p hp => absurd hp List.not_mem_nil, List.nodup_nil, rfl⟩, fun o ho => absurd ho List.not_mem_nil, rfl⟩))
theorem err1 {d : Dat} (hd : d.xs = [List.replicate 18 (.int .i64 0)]) : errP (d :: st0.tail) 12 := by
  have hl : (argL (d :: st0.tail) 0) = [List.replicate 18 (.int .i64 0)] := hd
  unfold errP
  rw [if_neg (by rw [hl]; decide)]
  refine .inr (.inl ⟨⟨fun o ho => ?_, pl0 _, gm0 _⟩, fun hP => ?_, rfl⟩)
  · rw [hl] at ho ⊢
    rw [List.mem_singleton.1 ho]; rfl
  · have := hP.2.2
    rw [hl, ids0] at this
    cases this
def k_alive : Nat := 8
def sg_alive : Sig := ⟨[], [(false, [.bool])], false, false, false, false, false⟩
def tr_alive : Tree := (.call k_New [] [(.list 36), (.list 3), (.list 3), (.list 3), (.list 3), (.list 3), (.list 3), (.list 3), (.list 3), (.list 3), (.list 3), (.list 3), (.int .i64), (.int .i64), (.int .i64), (.int .i64), (.int .i64), (.int .i64), (.int .i64), (.int .i64), (.int .i64), (.int .i64), (.int .i64), (.int .i64), (.int .i64), (.int .i64), (.int .i64), (.int .i64), (.int .i64), (.int .i64), (.int .i64), (.int .i64), (.int .i64), (.int .i64), (.int .i64), (.int .i64), (.int .i64)]
(.call k_Check [(.var 0), (.var 1), (.var 2), (.var 3), (.var 4), (.var 5), (.var 6), (.var 7), (.var 8), (.var 9), (.var 10), (.var 11), (.var 12), (.var 13), (.var 14), (.var 15), (.var 16), (.var 17), (.var 18), (.var 19), (.var 20), (.var 21), (.var 22), (.var 23), (.var 24), (.var 25), (.var 26), (.var 27), (.var 28), (.var 29), (.var 30), (.var 31), (.var 32), (.var 33), (.var 34), (.var 35), (.var 36)] [.err]
(.ite (.isnil (.var 37))
 (.share 36 (.push .emp (.econs (.int .i64 0) (.econs (.int .i64 0) (.econs (.int .i64 0) (.econs (.int .i64 0) (.econs (.int .i64 0) (.econs (.int .i64 0) (.econs (.int .i64 0) (.econs (.int .i64 0) (.econs (.int .i64 0) (.econs (.int .i64 0) (.econs (.int .i64 0) (.econs (.int .i64 0) (.econs (.int .i64 0) (.econs (.int .i64 0) (.econs (.int .i64 0) (.econs (.int .i64 0) (.econs (.int .i64 0) (.econs (.int .i64 0) .enil)))))))))))))))))))
 (.call k_Check [(.var 38), (.nil 3), (.nil 3), (.nil 3), (.nil 3), (.nil 3), (.nil 3), (.nil 3), (.nil 3), (.nil 3), (.nil 3), (.nil 3), (.int .i64 0), (.int .i64 0), (.int .i64 0), (.int .i64 0), (.int .i64 0), (.int .i64 0), (.int .i64 0), (.int .i64 0), (.int .i64 0), (.int .i64 0), (.int .i64 0), (.int .i64 0), (.int .i64 0), (.int .i64 0), (.int .i64 0), (.int .i64 0), (.int .i64 0), (.int .i64 0), (.int .i64 0), (.int .i64 0), (.int .i64 0), (.int .i64 0), (.int .i64 0), (.int .i64 0), (.int .i64 0)] [.err]
 (.call k_Is [(.var 39), (.int .i64 12)] [.bool]
 (.ret [(.var 40)]))))
 (.ret [(.bool false)]))))
theorem wk_alive : walk E0.cx (sgsN [(26, sg_Check), (27, sg_Is), (14, sg_New)]) 0 8 sg_alive = tr_alive := by kernel_rfl
theorem bo_alive : ∃ x, bodyOf E0.P 8 = some x := bo_of (by kernel_rfl)
theorem sp_alive_Check : specC [con_Check, con_Is, con_New] k_Check = Check_s := rfl
theorem sp_alive_Is : specC [con_Check, con_Is, con_New] k_Is = Is_s := rfl
theorem sp_alive_New : specC [con_Check, con_Is, con_New] k_New = New_s := rfl
def alive_s : Spec := fun ds Q => Q [.bool true]
theorem alive_h : Holds E0 k_alive sg_alive alive_s := con_by wf0 mix0 g0 [con_Check, con_Is, con_New] rfl wk_alive rfl (by
  intro ds Q hs h
  have hl : ds.length = 0 := hs.length.symm
  obtain rfl := List.length_eq_zero_iff.1 hl
  simp only [tr_alive, wp, den_int, den_bool, den_nili, den_ar, den_cmp, den_not, den_len, den_elem, den_isnil, den_errI, den_ifc, den_rep, den_push, den_app, den_emp, den_upd, row0_econs, row0_enil, den_and, den_beq, den_nil, toInt_int, toBool_bool, xs_rows, xs_list, dflt_int, dflt_bool, of_eq, of_ne, of_lt, of_le, of_gt, of_ge, of_add, of_sub, of_rem, List.map_cons, List.map_nil, Dat.bool.injEq, decide_eq_true_eq, decide_eq_false_iff_not, Bool.not_eq_true', Bool.not_eq_false', beq_iff_eq, bne_iff_ne, beq_eq_false_iff_ne, bne_eq_false_iff_eq, ne_eq, List.append_assoc, List.cons_append, List.nil_append, allS, sp_alive_Check, sp_alive_Is, sp_alive_New, New_s, Check_s, Is_s]
  have e0 : ∀ n, errP st0 n → n = 0 := fun n hn => errP_inj hn err0
  refine ⟨sm0, fun n hn => ?_⟩
  obtain rfl := e0 n hn
  refine ⟨fun _ A c => ?_, fun hx => Bool.noConfusion hx⟩
  refine ⟨?_, fun n hn => ?_⟩
  · intro i hi
    match i, hi with
    | 0, _ => exact Nat.le_of_ble_eq_true rfl
    | 1, _ | 2, _ | 3, _ | 4, _ | 5, _ | 6, _ | 7, _ | 8, _ | 9, _ | 10, _ | 11, _ => exact Nat.zero_le _
  · obtain rfl : n = 12 := errP_inj hn (err1 rfl)
    exact ⟨12, 12, rfl, h⟩)
noncomputable def con_alive : Con E0 := ⟨k_alive, sg_alive, alive_s, rfl, bo_alive, alive_h⟩
end Go.Proofs.YtilpkfjajnlaoaaDoor
end

section
namespace Go.Proofs.YtilpkfjajnlaoaaDoor
open Go.RowKit
set_option linter.unusedVariables false

/-- data without the places where they stand -/
inductive PD where
  | int (n : Int)
  | bool (b : Bool)
  | nil
  | err (n : Int)
  | str (l : List Nat)
  | list (sz : Nat) (xs : List (List PD))
  | rows (xs : List (List PD))
  | odd
mutual
def PD.same : PD → PD → Bool
  | .int a, .int b => decide (a = b)
  | .bool a, .bool b => decide (a = b)
  | .nil, .nil => true
  | .err a, .err b => decide (a = b)
  | .str a, .str b => decide (a = b)
  | .list s a, .list t b => decide (s = t) && sameRs a b
  | .rows a, .rows b => sameRs a b
  | .odd, .odd => true
  | _, _ => false
def sameRs : List (List PD) → List (List PD) → Bool
  | [], [] => true
  | a :: l, b :: m => sameR a b && sameRs l m
  | _, _ => false
def sameR : List PD → List PD → Bool
  | [], [] => true
  | a :: l, b :: m => PD.same a b && sameR l m
  | _, _ => false
end
mutual
theorem PD.same_ok : ∀ {a b : PD}, PD.same a b = true → a = b
  | .int a, b, h => by
    cases b <;> first | (simp [PD.same] at h; done) | (simp [PD.same] at h; rw [h])
  | .bool a, b, h => by
    cases b <;> first | (simp [PD.same] at h; done) | (simp [PD.same] at h; rw [h])
  | .nil, b, h => by
    cases b <;> first | (simp [PD.same] at h; done) | rfl
  | .err a, b, h => by
    cases b <;> first | (simp [PD.same] at h; done) | (simp [PD.same] at h; rw [h])
  | .str a, b, h => by
    cases b <;> first | (simp [PD.same] at h; done) | (simp [PD.same] at h; rw [h])
  | .odd, b, h => by
    cases b <;> first | (simp [PD.same] at h; done) | rfl
  | .list s a, .list t b, h => by
    simp only [PD.same, Bool.and_eq_true, decide_eq_true_eq] at h
    rw [h.1, sameRs_ok h.2]
  | .rows a, .rows b, h => by
    simp only [PD.same] at h
    rw [sameRs_ok h]
  | .list s a, .int _, h | .list s a, .bool _, h | .list s a, .nil, h | .list s a, .err _, h | .list s a, .str _, h | .list s a, .rows _, h | .list s a, .odd, h => by simp [PD.same] at h
  | .rows a, .int _, h | .rows a, .bool _, h | .rows a, .nil, h | .rows a, .err _, h | .rows a, .str _, h | .rows a, .list _ _, h | .rows a, .odd, h => by simp [PD.same] at h
theorem sameRs_ok : ∀ {a b : List (List PD)}, sameRs a b = true → a = b
  | [], [], _ => rfl
  | a :: l, b :: m, h => by
    simp only [sameRs, Bool.and_eq_true] at h
    rw [sameR_ok h.1, sameRs_ok h.2]
  | [], _ :: _, h => by simp [sameRs] at h
  | _ :: _, [], h => by simp [sameRs] at h
theorem sameR_ok : ∀ {a b : List PD}, sameR a b = true → a = b
  | [], [], _ => rfl
  | a :: l, b :: m, h => by
    simp only [sameR, Bool.and_eq_true] at h
    rw [PD.same_ok h.1, sameR_ok h.2]
  | [], _ :: _, h => by simp [sameR] at h
  | _ :: _, [], h => by simp [sameR] at h
end
def stripV : Value → PD
  | .nilIface => .nil
  | .iface _ (.int _ n) => .err n
  | .string s => .str (s.data.toList.map UInt8.toNat)
  | _ => .odd
mutual
def strip : Dat → PD
  | .int _ n => .int n
  | .bool b => .bool b
  | .val v => stripV v
  | .list _ sz xs => .list sz (stripRs xs)
  | .rows xs => .rows (stripRs xs)
def stripRs : List (List Dat) → List (List PD)
  | [] => []
  | r :: l => stripR r :: stripRs l
def stripR : List Dat → List PD
  | [] => []
  | d :: l => strip d :: stripR l
end
theorem stripR_map : ∀ l : List Dat, stripR l = l.map strip
  | [] => by rw [stripR]; rfl
  | d :: l => by rw [stripR, stripR_map l]; rfl
theorem stripRs_map : ∀ l : List (List Dat), stripRs l = l.map fun r => r.map strip
  | [] => by rw [stripRs]; rfl
  | d :: l => by rw [stripRs, stripRs_map l, stripR_map]; rfl
theorem strip_int (k : IntKind) (n : Int) : strip (.int k n) = .int n := by rw [strip]
theorem strip_bool (b : Bool) : strip (.bool b) = .bool b := by rw [strip]
theorem strip_val (v : Value) : strip (.val v) = stripV v := by rw [strip]
theorem strip_list (v : Value) (sz : Nat) (xs : List (List Dat)) : strip (.list v sz xs) = .list sz (xs.map fun r => r.map strip) := by rw [strip, stripRs_map]
theorem strip_rows (xs : List (List Dat)) : strip (.rows xs) = .rows (xs.map fun r => r.map strip) := by rw [strip, stripRs_map]
theorem stripV_ne (v : Value) : (∀ n, stripV v ≠ .int n) ∧ (∀ b, stripV v ≠ .bool b) ∧ (∀ s l, stripV v ≠ .list s l) ∧ (∀ l, stripV v ≠ .rows l) := by
  unfold stripV
  split <;> exact ⟨by simp, by simp, by simp, by simp⟩
theorem strip_isInt {d : Dat} {n : Int} (h : strip d = .int n) : d.toInt = n := by
  cases d with
  | int k m => rw [strip_int] at h; cases h; rfl
  | bool b => rw [strip_bool] at h; cases h
  | val v => rw [strip_val] at h; exact absurd h ((stripV_ne v).1 n)
  | list v sz xs => rw [strip_list] at h; cases h
  | rows xs => rw [strip_rows] at h; cases h
theorem strip_isBool {d : Dat} {b : Bool} (h : strip d = .bool b) : d = .bool b := by
  cases d with
  | int k m => rw [strip_int] at h; cases h
  | bool b => rw [strip_bool] at h; cases h; rfl
  | val v => rw [strip_val] at h; exact absurd h ((stripV_ne v).2.1 b)
  | list v sz xs => rw [strip_list] at h; cases h
  | rows xs => rw [strip_rows] at h; cases h
theorem strip_isList {d : Dat} {s : Nat} {l : List (List PD)} (h : strip d = .list s l) : ∃ v xs, d = .list v s xs ∧ l = xs.map fun r => r.map strip := by
  cases d with
  | int k m => rw [strip_int] at h; cases h
  | bool b => rw [strip_bool] at h; cases h
  | val v => rw [strip_val] at h; exact absurd h ((stripV_ne v).2.2.1 s l)
  | list v sz xs => rw [strip_list] at h; cases h; exact ⟨v, xs, rfl, rfl⟩
  | rows xs => rw [strip_rows] at h; cases h
theorem strip_isRows {d : Dat} {l : List (List PD)} (h : strip d = .rows l) : ∃ xs, d = .rows xs ∧ l = xs.map fun r => r.map strip := by
  cases d with
  | int k m => rw [strip_int] at h; cases h
  | bool b => rw [strip_bool] at h; cases h
  | val v => rw [strip_val] at h; exact absurd h ((stripV_ne v).2.2.2 l)
  | list v sz xs => rw [strip_list] at h; cases h
  | rows xs => rw [strip_rows] at h; cases h; exact ⟨xs, rfl, rfl⟩

/-! What a term stands for, without places. -/
def PD.xs? : PD → Option (List (List PD))
  | .list _ l => some l
  | .rows l => some l
  | _ => none
def PD.int? : PD → Option Int
  | .int n => some n
  | _ => none
def PD.bool? : PD → Option Bool
  | .bool b => some b
  | _ => none
def PD.row? : PD → Option (List PD)
  | .rows (r :: _) => some r
  | _ => none
def sev (Δ : Tab) (env : List PD) : Tm → Option PD
  | .var i => env[i]?
  | .int _ n => some (.int n)
  | .bool b => some (.bool b)
  | .nili => some .nil
  | .ifc a => ((sev Δ env a).bind PD.int?).map .err
  | .str l => some (.str (l.map (· % 256)))
  | .nil r => some (.list (Δ.row r).length [])
  | .ar o k a b => ((sev Δ env a).bind PD.int?).bind fun x => ((sev Δ env b).bind PD.int?).map fun y => .int (o.of k x y)
  | .cmp c a b => ((sev Δ env a).bind PD.int?).bind fun x => ((sev Δ env b).bind PD.int?).map fun y => .bool (c.of x y)
  | .not a => ((sev Δ env a).bind PD.bool?).map fun x => .bool (!x)
  | .beq a b => ((sev Δ env a).bind PD.bool?).bind fun x => ((sev Δ env b).bind PD.bool?).map fun y => .bool (x == y)
  | .and a b => ((sev Δ env a).bind PD.bool?).bind fun x => ((sev Δ env b).bind PD.bool?).map fun y => .bool (x && y)
  | .or a b => ((sev Δ env a).bind PD.bool?).bind fun x => ((sev Δ env b).bind PD.bool?).map fun y => .bool (x || y)
  | .conv k a => ((sev Δ env a).bind PD.int?).map fun x => .int (k.wrap x)
  | .len a => ((sev Δ env a).bind PD.xs?).map fun x => .int x.length
  | .elem s i c _ => ((sev Δ env s).bind PD.xs?).bind fun x => ((sev Δ env i).bind PD.int?).bind fun n => (x[n.toNat]?).bind fun r => r[c]?
  | .sel cs i _ => ((sev Δ env cs).bind PD.row?).bind fun r => ((sev Δ env i).bind PD.int?).bind fun n => r[n.toNat]?
  | .ite c a b => match (sev Δ env c).bind PD.bool? with
    | some true => sev Δ env a
    | some false => sev Δ env b
    | none => none
  | .isnil a => match sev Δ env a with
    | some .nil => some (.bool true)
    | some (.err _) => some (.bool false)
    | _ => none
  | .errI a => match sev Δ env a with
    | some (.err n) => some (.int n)
    | _ => none
  | .cut a l h => match sev Δ env a, (sev Δ env l).bind PD.int?, (sev Δ env h).bind PD.int? with
    | some (.list sz xs), some l, some h => if l.toNat ≤ h.toNat ∧ h.toNat ≤ xs.length ∧ xs.all (fun r => r.length == sz) = true then some (.list sz ((xs.take h.toNat).drop l.toNat)) else none
    | _, _, _ => none
  | .rep n row => ((sev Δ env n).bind PD.int?).bind fun k => ((sev Δ env row).bind PD.row?).map fun r => .rows (List.replicate k.toNat r)
  | .enil => some (.rows [[]])
  | .econs a b => (sev Δ env a).bind fun x => ((sev Δ env b).bind PD.row?).map fun r => .rows [x :: r]
  | .emp => some (.rows [])
  | .push a row => ((sev Δ env a).bind PD.xs?).bind fun x => ((sev Δ env row).bind PD.row?).map fun r => .rows (x ++ [r])
  | .app a b => ((sev Δ env a).bind PD.xs?).bind fun x => ((sev Δ env b).bind PD.xs?).map fun y => .rows (x ++ y)
  | .upd a i c v => ((sev Δ env a).bind PD.xs?).bind fun x => ((sev Δ env i).bind PD.int?).bind fun n => (sev Δ env v).map fun v => .rows (x.set n.toNat ((x.getD n.toNat []).set c v))
  | _ => none
section
variable {Δ : Tab} {ρ : List Dat} {env : List PD}
theorem xs_strip {d : Dat} {p : PD} {l : List (List PD)} (h : strip d = p) (hl : p.xs? = some l) : d.xs.map (fun r => r.map strip) = l := by
  cases p <;> first | (cases hl; done) | skip
  · cases hl
    obtain ⟨v, xs, rfl, e⟩ := strip_isList h
    exact e.symm
  · cases hl
    obtain ⟨xs, rfl, e⟩ := strip_isRows h
    exact e.symm
theorem row_strip {d : Dat} {p : PD} {l : List PD} (h : strip d = p) (hl : p.row? = some l) : d.row0.map strip = l := by
  cases p <;> first | (cases hl; done) | skip
  rename_i ys
  obtain ⟨xs, rfl, e⟩ := strip_isRows h
  cases xs with
  | nil => subst e; cases hl
  | cons r xs =>
    subst e
    cases hl
    rfl
theorem int_strip {d : Dat} {p : PD} {n : Int} (h : strip d = p) (hl : p.int? = some n) : d.toInt = n := by
  cases p <;> first | (cases hl; done) | skip
  cases hl
  exact strip_isInt h
theorem bool_strip {d : Dat} {p : PD} {n : Bool} (h : strip d = p) (hl : p.bool? = some n) : d = .bool n := by
  cases p <;> first | (cases hl; done) | skip
  cases hl
  exact strip_isBool h
theorem getD_strip {α β : Type} {f : α → β} {l : List α} {m : List β} (h : l.map f = m) {i : Nat} {y : β} (hy : m[i]? = some y) (e : α) : f (l.getD i e) = y := by
  subst h
  rw [List.getElem?_map, Option.map_eq_some_iff] at hy
  obtain ⟨x, hx, rfl⟩ := hy
  rw [List.getD_eq_getElem?_getD, hx]; rfl
theorem strB_strip (l : List Nat) : strip (.val (strB l)) = .str (l.map (· % 256)) := by
  rw [strip_val]
  unfold strB stripV
  simp only [List.map_map]
  congr 1
theorem sev_ok (he : ρ.map strip = env) : ∀ {t : Tm} {p : PD}, sev Δ env t = some p → strip (den Δ ρ t) = p
  | .var i, p, h => by
    simp only [sev] at h
    exact getD_strip he h _
  | .int k n, p, h => by simp only [sev, Option.some.injEq] at h; subst h; exact strip_int _ _
  | .bool b, p, h => by simp only [sev, Option.some.injEq] at h; subst h; exact strip_bool _
  | .nili, p, h => by simp only [sev, Option.some.injEq] at h; subst h; rw [den, strip_val]; rfl
  | .ifc a, p, h => by
    simp only [sev, Option.map_eq_some_iff, Option.bind_eq_some_iff] at h
    obtain ⟨n, ⟨q, h1, h2⟩, rfl⟩ := h
    rw [den, int_strip (sev_ok he h1) h2, strip_val]; rfl
  | .str l, p, h => by simp only [sev, Option.some.injEq] at h; subst h; exact strB_strip l
  | .nil r, p, h => by simp only [sev, Option.some.injEq] at h; subst h; rw [den, strip_list]; rfl
  | .ar o k a b, p, h => by
    simp only [sev, Option.map_eq_some_iff, Option.bind_eq_some_iff] at h
    obtain ⟨n, ⟨q, h1, h2⟩, m, ⟨q', h3, h4⟩, rfl⟩ := h
    rw [den, int_strip (sev_ok he h1) h2, int_strip (sev_ok he h3) h4, strip_int]
  | .cmp c a b, p, h => by
    simp only [sev, Option.map_eq_some_iff, Option.bind_eq_some_iff] at h
    obtain ⟨n, ⟨q, h1, h2⟩, m, ⟨q', h3, h4⟩, rfl⟩ := h
    rw [den, int_strip (sev_ok he h1) h2, int_strip (sev_ok he h3) h4, strip_bool]
  | .not a, p, h => by
    simp only [sev, Option.map_eq_some_iff, Option.bind_eq_some_iff] at h
    obtain ⟨n, ⟨q, h1, h2⟩, rfl⟩ := h
    rw [den, bool_strip (sev_ok he h1) h2, strip_bool]; rfl
  | .beq a b, p, h => by
    simp only [sev, Option.map_eq_some_iff, Option.bind_eq_some_iff] at h
    obtain ⟨n, ⟨q, h1, h2⟩, m, ⟨q', h3, h4⟩, rfl⟩ := h
    rw [den, bool_strip (sev_ok he h1) h2, bool_strip (sev_ok he h3) h4, strip_bool]; rfl
  | .and a b, p, h => by
    simp only [sev, Option.map_eq_some_iff, Option.bind_eq_some_iff] at h
    obtain ⟨n, ⟨q, h1, h2⟩, m, ⟨q', h3, h4⟩, rfl⟩ := h
    rw [den, bool_strip (sev_ok he h1) h2, bool_strip (sev_ok he h3) h4, strip_bool]; rfl
  | .or a b, p, h => by
    simp only [sev, Option.map_eq_some_iff, Option.bind_eq_some_iff] at h
    obtain ⟨n, ⟨q, h1, h2⟩, m, ⟨q', h3, h4⟩, rfl⟩ := h
    rw [den, bool_strip (sev_ok he h1) h2, bool_strip (sev_ok he h3) h4, strip_bool]; rfl
  | .conv k a, p, h => by
    simp only [sev, Option.map_eq_some_iff, Option.bind_eq_some_iff] at h
    obtain ⟨n, ⟨q, h1, h2⟩, rfl⟩ := h
    rw [den, int_strip (sev_ok he h1) h2, strip_int]
  | .len a, p, h => by
    simp only [sev, Option.map_eq_some_iff, Option.bind_eq_some_iff] at h
    obtain ⟨n, ⟨q, h1, h2⟩, rfl⟩ := h
    have := xs_strip (sev_ok he h1) h2
    rw [den, strip_int, ← this, List.length_map]
  | .elem s i c t, p, h => by
    simp only [sev, Option.bind_eq_some_iff] at h
    obtain ⟨x, ⟨q, h1, h2⟩, n, ⟨q', h3, h4⟩, r, h5, h6⟩ := h
    rw [den, int_strip (sev_ok he h3) h4]
    have e := getD_strip (f := fun r : List Dat => r.map strip) (xs_strip (sev_ok he h1) h2) h5 []
    exact getD_strip e h6 _
  | .sel cs i t, p, h => by
    simp only [sev, Option.bind_eq_some_iff] at h
    obtain ⟨x, ⟨q, h1, h2⟩, n, ⟨q', h3, h4⟩, h5⟩ := h
    rw [den, int_strip (sev_ok he h3) h4]
    exact getD_strip (row_strip (sev_ok he h1) h2) h5 _
  | .ite c a b, p, h => by
    simp only [sev] at h
    split at h
    · rename_i hc
      rw [Option.bind_eq_some_iff] at hc
      obtain ⟨q, h1, h2⟩ := hc
      rw [den, bool_strip (sev_ok he h1) h2]
      exact sev_ok he h
    · rename_i hc
      rw [Option.bind_eq_some_iff] at hc
      obtain ⟨q, h1, h2⟩ := hc
      rw [den, bool_strip (sev_ok he h1) h2]
      exact sev_ok he h
    · cases h
  | .isnil a, p, h => by
    simp only [sev] at h
    split at h
    · rename_i h1
      cases h
      have := sev_ok he h1
      rw [den, strip_bool]
      generalize den Δ ρ a = d at this
      cases d with
      | int k m => rw [strip_int] at this; cases this
      | bool b => rw [strip_bool] at this; cases this
      | list v sz xs => rw [strip_list] at this; cases this
      | rows xs => rw [strip_rows] at this; cases this
      | val v =>
        rw [strip_val] at this
        unfold stripV at this
        split at this <;> first | (cases this; done) | rfl
    · rename_i n h1
      cases h
      have := sev_ok he h1
      rw [den, strip_bool]
      generalize den Δ ρ a = d at this
      cases d with
      | int k m => rw [strip_int] at this; cases this
      | bool b => rw [strip_bool] at this; cases this
      | list v sz xs => rw [strip_list] at this; cases this
      | rows xs => rw [strip_rows] at this; cases this
      | val v =>
        rw [strip_val] at this
        unfold stripV at this
        split at this <;> first | (cases this; done) | rfl
    · cases h
  | .errI a, p, h => by
    simp only [sev] at h
    split at h
    · rename_i n h1
      cases h
      have := sev_ok he h1
      rw [den, strip_int]
      generalize den Δ ρ a = d at this
      cases d with
      | int k m => rw [strip_int] at this; cases this
      | bool b => rw [strip_bool] at this; cases this
      | list v sz xs => rw [strip_list] at this; cases this
      | rows xs => rw [strip_rows] at this; cases this
      | val v =>
        rw [strip_val] at this
        unfold stripV at this
        split at this <;> first | (cases this; done) | (cases this; rfl)
    · cases h
  | .cut a l u, p, h => by
    simp only [sev] at h
    split at h
    · rename_i sz xs lo hi h1 h2 h3
      rw [Option.bind_eq_some_iff] at h2 h3
      obtain ⟨q2, h2, h4⟩ := h2
      obtain ⟨q3, h3, h5⟩ := h3
      split at h
      case isFalse => cases h
      rename_i hc
      cases h
      obtain ⟨v, ys, hd, rfl⟩ := strip_isList (sev_ok he h1)
      rw [den, int_strip (sev_ok he h2) h4, int_strip (sev_ok he h3) h5, hd]
      simp only [cutD]
      rw [if_pos, strip_list]
      · simp only [List.map_drop, List.map_take]
      · refine ⟨hc.1, by simpa using hc.2.1, ?_⟩
        have := hc.2.2
        rw [List.all_map] at this
        simpa [Function.comp] using this
    · cases h
  | .rep n row, p, h => by
    simp only [sev, Option.map_eq_some_iff, Option.bind_eq_some_iff] at h
    obtain ⟨k, ⟨q, h1, h2⟩, r, ⟨q', h3, h4⟩, rfl⟩ := h
    rw [den, int_strip (sev_ok he h1) h2, strip_rows, List.map_replicate, row_strip (sev_ok he h3) h4]
  | .enil, p, h => by simp only [sev, Option.some.injEq] at h; subst h; rw [den, strip_rows]; rfl
  | .econs a b, p, h => by
    simp only [sev, Option.map_eq_some_iff, Option.bind_eq_some_iff] at h
    obtain ⟨x, h1, r, ⟨q', h3, h4⟩, rfl⟩ := h
    rw [den, strip_rows, List.map_cons, List.map_nil, List.map_cons, sev_ok he h1, row_strip (sev_ok he h3) h4]
  | .emp, p, h => by simp only [sev, Option.some.injEq] at h; subst h; rw [den, strip_rows]; rfl
  | .push a row, p, h => by
    simp only [sev, Option.map_eq_some_iff, Option.bind_eq_some_iff] at h
    obtain ⟨x, ⟨q, h1, h2⟩, r, ⟨q', h3, h4⟩, rfl⟩ := h
    rw [den, strip_rows, List.map_append, xs_strip (sev_ok he h1) h2, List.map_cons, List.map_nil, row_strip (sev_ok he h3) h4]
  | .app a b, p, h => by
    simp only [sev, Option.map_eq_some_iff, Option.bind_eq_some_iff] at h
    obtain ⟨x, ⟨q, h1, h2⟩, r, ⟨q', h3, h4⟩, rfl⟩ := h
    rw [den, strip_rows, List.map_append, xs_strip (sev_ok he h1) h2, xs_strip (sev_ok he h3) h4]
  | .upd a i c v, p, h => by
    simp only [sev, Option.map_eq_some_iff, Option.bind_eq_some_iff] at h
    obtain ⟨x, ⟨q, h1, h2⟩, n, ⟨q', h3, h4⟩, r, h5, rfl⟩ := h
    rw [den, strip_rows, int_strip (sev_ok he h3) h4, List.map_set, xs_strip (sev_ok he h1) h2, List.map_set, sev_ok he h5]
    congr 2
    rw [← xs_strip (sev_ok he h1) h2, List.getD_eq_getElem?_getD, List.getD_eq_getElem?_getD, List.getElem?_map]
    cases (den Δ ρ a).xs[n.toNat]? <;> rfl
  | .seq _ _, p, h | .slen _, p, h | .sidx _ _, p, h | .scut _ _ _, p, h | .sapp _ _, p, h | .sof _, p, h | .sbytes _, p, h | .cap _, p, h => by simp [sev] at h
def sevs (Δ : Tab) (env : List PD) : List Tm → Option (List PD)
  | [] => some []
  | t :: l => (sev Δ env t).bind fun x => (sevs Δ env l).map (x :: ·)
theorem sevs_ok (he : ρ.map strip = env) : ∀ {ts : List Tm} {ps : List PD}, sevs Δ env ts = some ps → (ts.map (den Δ ρ)).map strip = ps
  | [], ps, h => by cases h; rfl
  | t :: l, ps, h => by
    simp only [sevs, Option.map_eq_some_iff, Option.bind_eq_some_iff] at h
    obtain ⟨x, h1, r, h2, rfl⟩ := h
    rw [List.map_cons, List.map_cons, sev_ok he h1, sevs_ok he h2]
/-- callees whose results, places aside, are told by their arguments, places aside -/
abbrev PFun := Nat → List PD → Option (List PD)
def PFun.fits (cs : PFun) (Φ : Nat → Spec) : Prop := ∀ f args rs, cs f args = some rs → ∀ ds W, ds.map strip = args → (∀ rs', rs'.map strip = rs → W rs') → Φ f ds W
/-- the slices that are lent, places aside -/
def lentE (Δ : Tab) (env : List PD) : List (Nat × Tm) → Option (List PD)
  | [] => some []
  | x :: l => ((sev Δ env x.2).bind PD.xs?).bind fun xs => (lentE Δ env l).map (.list (Δ.row x.1).length xs :: ·)
abbrev Stk := List (List PD × Tree)
/-- a tree, reckoned through: what it ends with -/
def evB (Δ : Tab) (cs : PFun) (ag : Stk → Nat → List PD → Option (List PD)) : Tree → Stk → List PD → Option (List PD)
  | .ret ts, _, env => sevs Δ env ts
  | .ite c a b, stk, env => match sev Δ env c with
    | some (.bool true) => evB Δ cs ag a stk env
    | some (.bool false) => evB Δ cs ag b stk env
    | _ => none
  | .ob c k, stk, env => match sev Δ env c with
    | some (.bool true) => evB Δ cs ag k stk env
    | _ => none
  | .loop ts _ b, stk, env => (sevs Δ env ts).bind fun vs => evB Δ cs ag b (stk ++ [(env, b)]) (env ++ vs)
  | .again l ts, stk, env => (sevs Δ env ts).bind fun vs => ag stk l vs
  | .call f ts _ k, stk, env => (sevs Δ env ts).bind fun ps => (cs f ps).bind fun rs => evB Δ cs ag k stk (env ++ rs)
  | .lend f l ts _ k, stk, env => (lentE Δ env l).bind fun e => (sevs Δ (env ++ e) ts).bind fun ps => (cs f ps).bind fun rs => evB Δ cs ag k stk (env ++ rs)
  | .share r t k, stk, env => ((sev Δ env t).bind PD.xs?).bind fun l => evB Δ cs ag k stk (env ++ [.list (Δ.row r).length l])
  | .lit r t k, stk, env => ((sev Δ env t).bind PD.xs?).bind fun l => evB Δ cs ag k stk (env ++ [.list (Δ.row r).length l])
  | .both a b, stk, env => (evB Δ cs ag a stk env).bind fun x => (evB Δ cs ag b stk env).bind fun y => if sameR x y then some x else none
  | .fail _, _, _ => none
def evL (Δ : Tab) (cs : PFun) : Nat → Stk → Tree → List PD → Option (List PD)
  | 0 => fun stk tr env => evB Δ cs (fun _ _ _ => none) tr stk env
  | n + 1 => fun stk tr env => evB Δ cs (fun stk l vs => match stk[l]? with
    | some x => evL Δ cs n (stk.take (l + 1)) x.2 (x.1 ++ vs)
    | none => none) tr stk env
def agL (Δ : Tab) (cs : PFun) : Nat → Stk → Nat → List PD → Option (List PD)
  | 0 => fun _ _ _ => none
  | n + 1 => fun stk l vs => match stk[l]? with
    | some x => evL Δ cs n (stk.take (l + 1)) x.2 (x.1 ++ vs)
    | none => none
theorem evL_eq (cs : PFun) : ∀ (n : Nat) (stk : Stk) (tr : Tree) (env : List PD), evL Δ cs n stk tr env = evB Δ cs (agL Δ cs n) tr stk env
  | 0, _, _, _ => rfl
  | n + 1, _, _, _ => rfl
theorem allS_of {Δ : Tab} : ∀ {ss : List Srt} {p : List Dat → Prop}, (∀ l, p l) → allS Δ ss p
  | [], p, h => h []
  | s :: ss, p, h => by
    cases s <;> first | exact fun n => allS_of fun l => h _ | exact fun d _ => allS_of fun l => h _
theorem lentE_ok (he : ρ.map strip = env) : ∀ {l : List (Nat × Tm)} {e : List PD} {p : List Dat → Prop}, lentE Δ env l = some e → (∀ e', e'.map strip = e → p e') → lendW Δ ρ l p
  | [], e, p, h, hp => by cases h; exact hp [] rfl
  | x :: l, e, p, h, hp => by
    simp only [lentE, Option.map_eq_some_iff, Option.bind_eq_some_iff] at h
    obtain ⟨xs, ⟨q, h1, h2⟩, r, h3, rfl⟩ := h
    intro A c
    refine lentE_ok he (p := fun e => p (_ :: e)) h3 fun e' h' => hp _ ?_
    rw [List.map_cons, h', strip_list, xs_strip (sev_ok he h1) h2]
/-- the loops around stand where the reckoning has them -/
def Fits (Δ : Tab) (cs : PFun) (rs : List PD) (n : Nat) (stk : Stk) (X : List (Inv × Nat)) : Prop :=
  stk.length = X.length ∧ ∀ (l : Nat) (x : List PD × Tree), stk[l]? = some x → ∃ I : Inv × Nat, X[l]? = some I ∧ n ≤ I.2 ∧ ∀ vs n', n' < n → evL Δ cs n' (stk.take (l + 1)) x.2 (x.1 ++ vs.map strip) = some rs → I.1 vs n'
theorem evB_ok {cs : PFun} {Φ : Nat → Spec} (hcs : cs.fits Φ) {rs : List PD} {Post : List Dat → Prop} (hP : ∀ rs', rs'.map strip = rs → Post rs') : ∀ {tr : Tree} {n : Nat} {stk : Stk} {ρ : List Dat} {env : List PD} {X : List (Inv × Nat)}, ρ.map strip = env → Fits Δ cs rs n stk X → evB Δ cs (agL Δ cs n) tr stk env = some rs → wp Δ Φ Post tr ρ X
  | .ret ts, n, stk, ρ, env, X, he, hf, h => by
    simp only [evB] at h
    exact hP _ (sevs_ok he h)
  | .ite c a b, n, stk, ρ, env, X, he, hf, h => by
    simp only [evB] at h
    split at h
    · rename_i hc
      have := strip_isBool (sev_ok he hc)
      exact ⟨fun _ => evB_ok hcs hP he hf h, fun e => (by rw [this] at e; cases e)⟩
    · rename_i hc
      have := strip_isBool (sev_ok he hc)
      exact ⟨fun e => (by rw [this] at e; cases e), fun _ => evB_ok hcs hP he hf h⟩
    · cases h
  | .ob c k, n, stk, ρ, env, X, he, hf, h => by
    simp only [evB] at h
    split at h
    · rename_i hc
      exact ⟨strip_isBool (sev_ok he hc), evB_ok hcs hP he hf h⟩
    · cases h
  | .loop ts ss b, n, stk, ρ, env, X, he, hf, h => by
    simp only [evB, Option.bind_eq_some_iff] at h
    obtain ⟨vs, h1, h2⟩ := h
    refine ⟨fun xs m => m ≤ n ∧ evL Δ cs m (stk ++ [(env, b)]) b (env ++ xs.map strip) = some rs, ⟨n, Nat.le_refl _, ?_⟩, allS_of fun xs m ⟨hm, hI⟩ => ?_⟩
    · rw [evL_eq, sevs_ok he h1]; exact h2
    · rw [evL_eq] at hI
      refine evB_ok hcs hP (by rw [List.map_append, he]) ⟨by simp [hf.1], fun l x hx => ?_⟩ hI
      rcases Nat.lt_or_ge l stk.length with hl | hl
      · rw [List.getElem?_append_left hl] at hx
        obtain ⟨I, i1, i2, i3⟩ := hf.2 l x hx
        refine ⟨I, by rw [List.getElem?_append_left (by rw [← hf.1]; exact hl)]; exact i1, Nat.le_trans hm i2, fun vs n' hn' hv => i3 vs n' (Nat.lt_of_lt_of_le hn' hm) ?_⟩
        rw [List.take_append_of_le_length (by omega)] at hv
        exact hv
      · rw [List.getElem?_append_right hl] at hx
        have hl0 : l - stk.length = 0 := by
          have := (List.getElem?_eq_some_iff.1 hx).1
          simp at this; omega
        have hle : l = stk.length := by omega
        subst hle
        simp only [Nat.sub_self, List.getElem?_cons_zero, Option.some.injEq] at hx
        subst hx
        refine ⟨((fun xs m => m ≤ n ∧ evL Δ cs m (stk ++ [(env, b)]) b (env ++ xs.map strip) = some rs), m), by rw [List.getElem?_append_right (by rw [hf.1]; exact Nat.le_refl _), hf.1, Nat.sub_self]; rfl, Nat.le_refl _, fun vs n' hn' hv => ⟨by omega, ?_⟩⟩
        rw [List.take_of_length_le (by simp)] at hv
        exact hv
  | .again l ts, n, stk, ρ, env, X, he, hf, h => by
    simp only [evB, Option.bind_eq_some_iff] at h
    obtain ⟨vs, h1, h2⟩ := h
    cases n with
    | zero => cases h2
    | succ n =>
    simp only [agL] at h2
    split at h2
    · rename_i x hx
      obtain ⟨I, i1, i2, i3⟩ := hf.2 l x hx
      simp only [wp, i1]
      refine ⟨n, by omega, i3 _ n (Nat.lt_succ_self _) ?_⟩
      rw [sevs_ok he h1]; exact h2
    · cases h2
  | .call f ts ss k, n, stk, ρ, env, X, he, hf, h => by
    simp only [evB, Option.bind_eq_some_iff] at h
    obtain ⟨ps, h1, qs, h2, h3⟩ := h
    exact hcs f ps qs h2 _ _ (sevs_ok he h1) fun rs' hrs => evB_ok hcs hP (by rw [List.map_append, he, hrs]) hf h3
  | .lend f l ts ss k, n, stk, ρ, env, X, he, hf, h => by
    simp only [evB, Option.bind_eq_some_iff] at h
    obtain ⟨e, h0, ps, h1, qs, h2, h3⟩ := h
    refine lentE_ok he h0 fun e' h' => ?_
    exact hcs f ps qs h2 _ _ (sevs_ok (by rw [List.map_append, he, h']) h1) fun rs' hrs => evB_ok hcs hP (by rw [List.map_append, he, hrs]) hf h3
  | .share r t k, n, stk, ρ, env, X, he, hf, h => by
    simp only [evB, Option.bind_eq_some_iff] at h
    obtain ⟨l, ⟨p, h1, h2⟩, h3⟩ := h
    intro A c
    refine evB_ok hcs hP ?_ hf h3
    rw [List.map_append, he, List.map_cons, List.map_nil, strip_list, xs_strip (sev_ok he h1) h2]
  | .lit r t k, n, stk, ρ, env, X, he, hf, h => by
    simp only [evB, Option.bind_eq_some_iff] at h
    obtain ⟨l, ⟨p, h1, h2⟩, h3⟩ := h
    intro A
    refine evB_ok hcs hP ?_ hf h3
    rw [List.map_append, he, List.map_cons, List.map_nil, strip_list, xs_strip (sev_ok he h1) h2]
  | .both a b, n, stk, ρ, env, X, he, hf, h => by
    simp only [evB, Option.bind_eq_some_iff] at h
    obtain ⟨x, h1, y, h2, h3⟩ := h
    split at h3
    · rename_i hs
      cases h3
      have := sameR_ok hs
      subst this
      exact ⟨evB_ok hcs hP he hf h1, evB_ok hcs hP he hf h2⟩
    · cases h3
  | .fail _, n, stk, ρ, env, X, he, hf, h => by cases h
end
/-- what a function answers, places aside, hangs on its arguments, places aside -/
def psp (g : List PD → Option (List PD)) : Spec := fun ds Q => ∃ rs, g (ds.map strip) = some rs ∧ ∀ rs', rs'.map strip = rs → Q rs'
def pfun : List (Nat × (List PD → Option (List PD))) → PFun
  | [], _, _ => none
  | x :: l, f, ps => if x.1 = f then x.2 ps else pfun l f ps
theorem pfun_fits {Φ : Nat → Spec} : ∀ {l : List (Nat × (List PD → Option (List PD)))}, (∀ x ∈ l, Φ x.1 = psp x.2) → (pfun l).fits Φ
  | [], _ => fun f args rs h => by cases h
  | x :: l, hl => fun f args rs h ds W hd hW => by
    simp only [pfun] at h
    split at h
    · rename_i e
      subst e
      rw [hl x (by simp)]
      exact ⟨rs, by rw [hd]; exact h, hW⟩
    · exact pfun_fits (fun y hy => hl y (by simp [hy])) f args rs h ds W hd hW
/-- a function that is reckoned through -/
theorem con_ev {E : Env} (hW : E.Wf) (hmix : E.P.follows .mixedOrders = true) (hγ : E.γ = []) (T : List (Con E)) {ns : List (Nat × Sig)} (hn : names T = ns) {f : Nat} {sg : Sig} {tr : Tree} (hT : walk E.cx (sgsN ns) 0 f sg = tr) (hsg : sg.ok = true) {cs : PFun} (hcs : cs.fits (specC T)) (fuel : Nat) :
    Holds E f sg (psp fun ps => evL E.Δ cs fuel [] tr ps) := by
  subst hn
  have hT' : walk E.cx (sgsN (names T)) E.γ.length f sg = tr := by rw [hγ]; exact hT
  refine walk_ok hW hmix (sgsN_con T) hT' hsg fun ds Q hs ⟨rs, h1, h2⟩ => ?_
  rw [hγ]
  replace h1 : evL E.Δ cs fuel [] tr (ds.map strip) = some rs := h1
  rw [evL_eq] at h1
  exact evB_ok hcs h2 rfl ⟨rfl, fun l x h => by cases h⟩ h1
theorem fits_cons {Φ : Nat → Spec} {k : Nat} {g : List PD → Option (List PD)} {l : List (Nat × (List PD → Option (List PD)))} (h : Φ k = psp g) (t : (pfun l).fits Φ) : (pfun ((k, g) :: l)).fits Φ := fun f args rs h' ds W hd hW => by
  simp only [pfun] at h'
  split at h'
  · rename_i e
    subst e
    rw [h]
    exact ⟨rs, by rw [hd]; exact h', hW⟩
  · exact t f args rs h' ds W hd hW
theorem fits_nil {Φ : Nat → Spec} : (pfun []).fits Φ := fun f args rs h => by cases h
theorem holds_or {E : Env} {f : FuncId} {sg : Sig} {Φ Ψ : Spec} (h1 : Holds E f sg Φ) (h2 : Holds E f sg Ψ) : Holds E f sg (fun ds Q => Φ ds Q ∨ Ψ ds Q) := fun w ds Q a b c d h => h.elim (h1 w ds Q a b c d) (h2 w ds Q a b c d)
theorem holds_mono {E : Env} {f : FuncId} {sg : Sig} {Φ Ψ : Spec} (h1 : Holds E f sg Φ) (h2 : ∀ ds Q, All2 (Has E.Δ) (Sig.sorts sg.params) ds → Ψ ds Q → Φ ds Q) : Holds E f sg Ψ := fun w ds Q a b c d h => h1 w ds Q a b c d (h2 ds Q a h)
/-- arguments that are known -/
theorem con_at {E : Env} (hW : E.Wf) (hmix : E.P.follows .mixedOrders = true) (hγ : E.γ = []) (T : List (Con E)) {ns : List (Nat × Sig)} (hn : names T = ns) {f : Nat} {sg : Sig} (hsg : sg.ok = true) {Ψ : Spec}
    (h : ∀ Φ : Nat → Spec, Φ = specC T → ∀ ds Q, All2 (Has E.Δ) (Sig.sorts sg.params) ds → Ψ ds Q → ∃ ps : List (Tm × Srt), sg.params = (ps.map fun p => (false, [p.2])) ∧ (∀ p ∈ ps, Has E.Δ p.2 (den E.Δ [] p.1) ∧ p.1.bnd 0 = true ∧ p.2.one = true) ∧ ds = (ps.map fun p => den E.Δ [] p.1) ∧ wp E.Δ Φ Q (walkAt E.cx (sgsN ns) 0 f sg ps) ds []) : Holds E f sg Ψ := by
  subst hn
  intro w ds Q hs hok hγ' hG hΨ
  obtain ⟨ps, h1, h2, h3, h4⟩ := h _ rfl ds Q hs hΨ
  refine walkAt_ok hW hmix (sgsN_con T) hsg h1 h2 h3 ?_ hok hγ' hG
  rw [hγ]; exact h4
end Go.Proofs.YtilpkfjajnlaoaaDoor
end

section
namespace Go.Proofs.YtilpkfjajnlaoaaDoor
open Go.RowKit
set_option linter.unusedVariables false
set_option linter.unusedSimpArgs false

theorem getD_end {ρ e : List Dat} {i k : Nat} (hi : ρ.length = i) (d : Dat) : (ρ ++ e).getD (i + k) d = e.getD k d := by
  rw [List.getD_eq_getElem?_getD, List.getD_eq_getElem?_getD, List.getElem?_append_right (by omega), hi, Nat.add_sub_cancel_left]
theorem getD_old {ρ e : List Dat} {i : Nat} (hi : i < ρ.length) (d : Dat) : (ρ ++ e).getD i d = ρ.getD i d := by
  rw [List.getD_eq_getElem?_getD, List.getD_eq_getElem?_getD, List.getElem?_append_left hi]
/-- a loop that writes into each element of a slice of the call's own -/
theorem wp_bump {Φ : Nat → Spec} {Q : List Dat → Prop} {ρ : List Dat} {X : List (Inv × Nat)} {a i J r3 : Nat} {K : Tree} {V x1 y1 x2 y2 : Tm} {c1 c2 : Cmp} (hi : ρ.length = i) (hJ : X.length = J) (ha : a < i) (hL : (ρ.getD a (.bool false)).xs.length ≤ 1000000)
    (hK : ∀ n b R Im, wp E0.Δ Φ Q K (ρ ++ [.int .i64 n, .bool b, .rows R]) (X ++ [Im])) :
    wp E0.Δ Φ Q (.loop [.int .i64 0, .cmp c1 x1 y1, .app .emp (.var a)] [.int .i64, .bool, .rows r3]
      (.ite (.cmp .lt (.var i) (.len (.app .emp (.var a)))) (.ob (.cmp .ge (.var i) (.int .i64 0)) (.ob (.cmp .lt (.var i) (.len (.var (i + 2)))) (.ob (.cmp .ge (.var i) (.int .i64 0)) (.ob (.cmp .lt (.var i) (.len (.var (i + 2)))) (.again J [.ar .add .i64 (.var i) (.int .i64 1), .cmp c2 x2 y2, .upd (.var (i + 2)) (.var i) 0 V]))))) K)) ρ X := by
  generalize hLd : (ρ.getD a (.bool false)).xs = L at hL
  refine ⟨fun xs m => ∃ (k : Nat) (b : Bool) (R : List (List Dat)), xs = [.int .i64 k, .bool b, .rows R] ∧ k ≤ L.length ∧ R.length = L.length ∧ m = L.length - k, ⟨L.length, 0, c1.of (den E0.Δ ρ x1).toInt (den E0.Δ ρ y1).toInt, L, ?_, by omega, rfl, rfl⟩, allS_of fun xs m ⟨k, b, R, e, hk, hR, hm⟩ => ?_⟩
  · show [Dat.int .i64 0, .bool _, .rows ([] ++ (ρ.getD a (.bool false)).xs)] = _
    rw [hLd]; rfl
  subst e hm
  have g0 : ∀ d, (ρ ++ [Dat.int .i64 (k : Int), .bool b, .rows R]).getD i d = .int .i64 k := fun d => getD_end (k := 0) hi d
  have g2 : ∀ d, (ρ ++ [Dat.int .i64 (k : Int), .bool b, .rows R]).getD (i + 2) d = .rows R := fun d => getD_end (k := 2) hi d
  have ga : (ρ ++ [Dat.int .i64 (k : Int), .bool b, .rows R]).getD a (.bool false) = ρ.getD a (.bool false) := getD_old (by omega) _
  have v0 : den E0.Δ (ρ ++ [Dat.int .i64 (k : Int), .bool b, .rows R]) (.var i) = .int .i64 k := g0 _
  have v2 : den E0.Δ (ρ ++ [Dat.int .i64 (k : Int), .bool b, .rows R]) (.var (i + 2)) = .rows R := g2 _
  have va : (den E0.Δ (ρ ++ [Dat.int .i64 (k : Int), .bool b, .rows R]) (.var a)).xs = L := by
    rw [← hLd, ← ga]; rfl
  simp only [wp, den_cmp, den_len, den_app, den_emp, den_int, v0, v2, va, toInt_int, xs_rows, of_lt, of_ge, List.nil_append, Dat.bool.injEq, decide_eq_true_eq, decide_eq_false_iff_not]
  refine ⟨fun hlt => ⟨by omega, by omega, by omega, by omega, ?_⟩, fun _ => hK _ _ _ _⟩
  rw [List.getElem?_append_right (by omega), hJ, Nat.sub_self]
  have hw : IntKind.i64.wrap ((k : Int) + 1) = ((k + 1 : Nat) : Int) := by rw [wrap64 (by omega) (by omega)]; rfl
  refine ⟨L.length - (k + 1), by omega, k + 1, c2.of (den E0.Δ (ρ ++ [Dat.int .i64 (k : Int), .bool b, .rows R]) x2).toInt (den E0.Δ (ρ ++ [Dat.int .i64 (k : Int), .bool b, .rows R]) y2).toInt, R.set k ((R.getD k []).set 0 (den E0.Δ (ρ ++ [Dat.int .i64 (k : Int), .bool b, .rows R]) V)), ?_, by omega, by rw [List.length_set]; exact hR, rfl⟩
  simp only [List.map_cons, List.map_nil, den_ar, den_cmp, den_upd, den_int, v0, v2, toInt_int, xs_rows, of_add, hw, Int.toNat_natCast]
theorem wp_bump0 {Φ : Nat → Spec} {Q : List Dat → Prop} {ρ : List Dat} {X : List (Inv × Nat)} {a i J r3 : Nat} {K : Tree} {V : Tm} (hi : ρ.length = i) (hJ : X.length = J) (ha : a < i) (hL : (ρ.getD a (.bool false)).xs.length ≤ 1000000)
    (hK : ∀ n R Im, wp E0.Δ Φ Q K (ρ ++ [.int .i64 n, .rows R]) (X ++ [Im])) :
    wp E0.Δ Φ Q (.loop [.int .i64 0, .app .emp (.var a)] [.int .i64, .rows r3]
      (.ite (.cmp .lt (.var i) (.len (.app .emp (.var a)))) (.ob (.cmp .ge (.var i) (.int .i64 0)) (.ob (.cmp .lt (.var i) (.len (.var (i + 1)))) (.ob (.cmp .ge (.var i) (.int .i64 0)) (.ob (.cmp .lt (.var i) (.len (.var (i + 1)))) (.again J [.ar .add .i64 (.var i) (.int .i64 1), .upd (.var (i + 1)) (.var i) 0 V]))))) K)) ρ X := by
  generalize hLd : (ρ.getD a (.bool false)).xs = L at hL
  refine ⟨fun xs m => ∃ (k : Nat) (R : List (List Dat)), xs = [.int .i64 k, .rows R] ∧ k ≤ L.length ∧ R.length = L.length ∧ m = L.length - k, ⟨L.length, 0, L, ?_, by omega, rfl, rfl⟩, allS_of fun xs m ⟨k, R, e, hk, hR, hm⟩ => ?_⟩
  · show [Dat.int .i64 0, .rows ([] ++ (ρ.getD a (.bool false)).xs)] = _
    rw [hLd]; rfl
  subst e hm
  have g0 : ∀ d, (ρ ++ [Dat.int .i64 (k : Int), .rows R]).getD i d = .int .i64 k := fun d => getD_end (k := 0) hi d
  have g2 : ∀ d, (ρ ++ [Dat.int .i64 (k : Int), .rows R]).getD (i + 1) d = .rows R := fun d => getD_end (k := 1) hi d
  have ga : (ρ ++ [Dat.int .i64 (k : Int), .rows R]).getD a (.bool false) = ρ.getD a (.bool false) := getD_old (by omega) _
  have v0 : den E0.Δ (ρ ++ [Dat.int .i64 (k : Int), .rows R]) (.var i) = .int .i64 k := g0 _
  have v2 : den E0.Δ (ρ ++ [Dat.int .i64 (k : Int), .rows R]) (.var (i + 1)) = .rows R := g2 _
  have va : (den E0.Δ (ρ ++ [Dat.int .i64 (k : Int), .rows R]) (.var a)).xs = L := by
    rw [← hLd, ← ga]; rfl
  simp only [wp, den_cmp, den_len, den_app, den_emp, den_int, v0, v2, va, toInt_int, xs_rows, of_lt, of_ge, List.nil_append, Dat.bool.injEq, decide_eq_true_eq, decide_eq_false_iff_not]
  refine ⟨fun hlt => ⟨by omega, by omega, by omega, by omega, ?_⟩, fun _ => hK _ _ _⟩
  rw [List.getElem?_append_right (by omega), hJ, Nat.sub_self]
  have hw : IntKind.i64.wrap ((k : Int) + 1) = ((k + 1 : Nat) : Int) := by rw [wrap64 (by omega) (by omega)]; rfl
  refine ⟨L.length - (k + 1), by omega, k + 1, R.set k ((R.getD k []).set 0 (den E0.Δ (ρ ++ [Dat.int .i64 (k : Int), .rows R]) V)), ?_, by omega, by rw [List.length_set]; exact hR, rfl⟩
  simp only [List.map_cons, List.map_nil, den_ar, den_cmp, den_upd, den_int, v0, v2, toInt_int, xs_rows, of_add, hw, Int.toNat_natCast]
end Go.Proofs.YtilpkfjajnlaoaaDoor
end
