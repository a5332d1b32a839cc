/-
  The law on which effects are right.
-/
import Derived.Test.YtkilkcgnfhlfiaaEffE
import Derived.Test.YtkilkcgnfhlfiaaEffB
namespace Go.Proofs.Ytkilkcgnfhlfiaa
open Go.RowKit
set_option linter.unusedVariables false
set_option linter.unusedSimpArgs false

theorem argE_lit {op n m who : Int} {v : Value} {sz : Nat} {e : List Dat} : argE (.int .i64 op :: .int .i64 n :: .int .i64 m :: .int .i64 who :: .list v sz [] :: e) = .mk op n m who [] := by
  have h := argE_row (r := [.int .i64 op, .int .i64 n, .int .i64 m, .int .i64 who, .list v sz []]) (e := e) rfl
  refine h.trans ?_
  rw [effOf_eq]; rfl
def k_alive : Nat := 7
def sg_alive : Sig := ⟨[], [(false, [.bool])], false, false, false⟩
def tr_alive : Tree := (.call k_eCheck [(.int .i64 1), (.int .i64 3), (.int .i64 0), (.int .i64 2), (.nil 24), (.int .i64 3)] [.err]
(.ite (.isnil (.var 0))
 (.call k_eCheck [(.int .i64 1), (.int .i64 3), (.int .i64 0), (.int .i64 2), (.nil 24), (.int .i64 0)] [.err]
 (.call k_Is [(.var 1), (.int .i64 11)] [.bool]
 (.ret [(.var 2)])))
 (.ret [(.bool false)])))
theorem wk_alive : walk E0.cx (sgsN [(11, sg_eCheck), (27, sg_Is)]) 0 7 sg_alive = tr_alive := by kernel_rfl
theorem bo_alive : ∃ x, bodyOf E0.P 7 = some x := bo_of (by kernel_rfl)
theorem sp_alive_eCheck : specC [con_eCheck, con_Is] k_eCheck = eCheck_s := rfl
theorem sp_alive_Is : specC [con_eCheck, con_Is] k_Is = Is_s := rfl
def alive_s : Spec := fun ds Q => Q [.bool true]
theorem alive_h : Holds E0 k_alive sg_alive alive_s := con_fn wf0 mix0 g0 [con_eCheck, con_Is] rfl wk_alive rfl (by
  intro Φ hΦ ds Q hs h
  have sp : Φ k_eCheck = eCheck_s := by rw [hΦ]; rfl
  have sp2 : Φ k_Is = Is_s := by rw [hΦ]; rfl
  clear hΦ
  have e1 : Eff.chk 3 1 (.mk 1 3 0 2 []) = 0 := by decide +kernel
  have e2 : Eff.chk 0 1 (.mk 1 3 0 2 []) = 11 := by decide +kernel
  simp only [tr_alive, wp, allS, den_nil, sp, eCheck_s, List.map_cons, List.map_nil, den_int, argE_lit, argI_c0, argI_c1, toInt_int, Int.reduceLT, if_false, or_self, e1, e2, errV_0, den_isnil, den_bool]
  simp only [den, errV_0, isNilI, Dat.bool.injEq, Bool.true_eq_false, true_imp_iff, false_imp_iff, and_true, sp2, Is_s]
  obtain rfl := List.length_eq_zero_iff.1 (show ds.length = 0 from hs.length.symm)
  exact ⟨fun _ => ⟨11, 11, rfl, h⟩, fun hx => Bool.noConfusion hx⟩)
noncomputable def con_alive : Con E0 := ⟨k_alive, sg_alive, alive_s, rfl, bo_alive, alive_h⟩
def k_lchecks6 : Nat := 3
def sg_lchecks6 : Sig := ⟨[(true, List.replicate 4 (.int .i64) ++ [.list 24]), (false, [.int .i64]), (false, [.int .i64])], [(false, [.bool])], false, false, false⟩
def tr_lchecks6 : Tree := (.call k_alive [] [.bool]
(.ite (.not (.var 7))
 (.ret [(.bool false)])
 (.call k_Large [(.var 0), (.var 1), (.var 2), (.var 3), (.var 4)] [.bool]
 (.ite (.var 8)
  (.ret [(.bool true)])
  (.call k_rSize [(.var 0), (.var 1), (.var 2), (.var 3), (.var 4)] [(.int .i64), (.int .i64)]
  (.call k_eCheck [(.var 0), (.var 1), (.var 2), (.var 3), (.var 4), (.var 5)] [.err]
  (.call k_Num [(.var 11)] [(.int .i64)]
  (.call k_rCheck6 [(.var 0), (.var 1), (.var 2), (.var 3), (.var 4), (.var 5)] [(.int .i64)]
  (.ite (.cmp .eq (.var 12) (.var 13))
   (.call k_eSize [(.var 0), (.var 1), (.var 2), (.var 3), (.var 4)] [(.int .i64)]
   (.ite (.cmp .eq (.var 14) (.var 9))
    (.call k_eDepth [(.var 0), (.var 1), (.var 2), (.var 3), (.var 4)] [(.int .i64)]
    (.ite (.cmp .eq (.var 15) (.var 10))
     (.call k_eHas [(.var 0), (.var 1), (.var 2), (.var 3), (.var 4), (.var 6)] [.bool]
     (.call k_rHas [(.var 0), (.var 1), (.var 2), (.var 3), (.var 4), (.var 6)] [.bool]
     (.ret [(.beq (.var 16) (.var 17))])))
     (.ret [(.bool false)])))
    (.ret [(.bool false)])))
   (.ret [(.bool false)]))))))))))
theorem wk_lchecks6 : walk E0.cx (sgsN [(7, sg_alive), (8, sg_Large), (9, sg_rSize), (11, sg_eCheck), (10, sg_Num), (12, sg_rCheck6), (13, sg_eSize), (14, sg_eDepth), (15, sg_eHas), (16, sg_rHas)]) 0 3 sg_lchecks6 = tr_lchecks6 := by kernel_rfl
theorem bo_lchecks6 : ∃ x, bodyOf E0.P 3 = some x := bo_of (by kernel_rfl)
theorem sp_lchecks6_alive : specC [con_alive, con_Large, con_rSize, con_eCheck, con_Num, con_rCheck6, con_eSize, con_eDepth, con_eHas, con_rHas] k_alive = alive_s := rfl
theorem sp_lchecks6_Large : specC [con_alive, con_Large, con_rSize, con_eCheck, con_Num, con_rCheck6, con_eSize, con_eDepth, con_eHas, con_rHas] k_Large = Large_s := rfl
theorem sp_lchecks6_rSize : specC [con_alive, con_Large, con_rSize, con_eCheck, con_Num, con_rCheck6, con_eSize, con_eDepth, con_eHas, con_rHas] k_rSize = rSize_s := rfl
theorem sp_lchecks6_eCheck : specC [con_alive, con_Large, con_rSize, con_eCheck, con_Num, con_rCheck6, con_eSize, con_eDepth, con_eHas, con_rHas] k_eCheck = eCheck_s := rfl
theorem sp_lchecks6_Num : specC [con_alive, con_Large, con_rSize, con_eCheck, con_Num, con_rCheck6, con_eSize, con_eDepth, con_eHas, con_rHas] k_Num = Num_s := rfl
theorem sp_lchecks6_rCheck6 : specC [con_alive, con_Large, con_rSize, con_eCheck, con_Num, con_rCheck6, con_eSize, con_eDepth, con_eHas, con_rHas] k_rCheck6 = rCheck6_s := rfl
theorem sp_lchecks6_eSize : specC [con_alive, con_Large, con_rSize, con_eCheck, con_Num, con_rCheck6, con_eSize, con_eDepth, con_eHas, con_rHas] k_eSize = eSize_s := rfl
theorem sp_lchecks6_eDepth : specC [con_alive, con_Large, con_rSize, con_eCheck, con_Num, con_rCheck6, con_eSize, con_eDepth, con_eHas, con_rHas] k_eDepth = eDepth_s := rfl
theorem sp_lchecks6_eHas : specC [con_alive, con_Large, con_rSize, con_eCheck, con_Num, con_rCheck6, con_eSize, con_eDepth, con_eHas, con_rHas] k_eHas = eHas_s := rfl
theorem sp_lchecks6_rHas : specC [con_alive, con_Large, con_rSize, con_eCheck, con_Num, con_rCheck6, con_eSize, con_eDepth, con_eHas, con_rHas] k_rHas = rHas_s := rfl
theorem lchecks6_h : Holds E0 k_lchecks6 sg_lchecks6 true_s := con_fn wf0 mix0 g0 [con_alive, con_Large, con_rSize, con_eCheck, con_Num, con_rCheck6, con_eSize, con_eDepth, con_eHas, con_rHas] rfl wk_lchecks6 rfl (by
  intro Φ hΦ ds Q hs h
  have hl : ds.length = 7 := hs.length.symm
  have s1 : Φ k_alive = alive_s := by rw [hΦ]; rfl
  have s2 : Φ k_Large = Large_s := by rw [hΦ]; rfl
  have s3 : Φ k_rSize = rSize_s := by rw [hΦ]; rfl
  have s4 : Φ k_eCheck = eCheck_s := by rw [hΦ]; rfl
  have s5 : Φ k_Num = Num_s := by rw [hΦ]; rfl
  have s6 : Φ k_rCheck6 = rCheck6_s := by rw [hΦ]; rfl
  have s7 : Φ k_eSize = eSize_s := by rw [hΦ]; rfl
  have s8 : Φ k_eDepth = eDepth_s := by rw [hΦ]; rfl
  have s9 : Φ k_eHas = eHas_s := by rw [hΦ]; rfl
  have s10 : Φ k_rHas = rHas_s := by rw [hΦ]; rfl
  clear hΦ
  have e5 : ∀ e, argE (ds.getD 0 (.bool false) :: ds.getD 1 (.bool false) :: ds.getD 2 (.bool false) :: ds.getD 3 (.bool false) :: ds.getD 4 (.bool false) :: e) = argE ds := fun e => by
    match ds, hl with
    | [_, _, _, _, _, _, _], _ => rfl
  simp only [tr_lchecks6, wp, den_int, den_bool, den_nili, den_ar, den_cmp, den_not, den_len, den_elem, den_isnil, den_errI, den_ifc, den_rep, den_push, den_app, den_emp, den_upd, row0_econs, row0_enil, den_and, den_beq, den_nil, toInt_int, toBool_bool, xs_rows, xs_list, dflt_int, dflt_bool, of_eq, of_ne, of_lt, of_le, of_gt, of_ge, of_add, of_sub, of_rem, List.map_cons, List.map_nil, Dat.bool.injEq, decide_eq_true_eq, decide_eq_false_iff_not, Bool.not_eq_true', Bool.not_eq_false', beq_iff_eq, bne_iff_ne, beq_eq_false_iff_ne, bne_eq_false_iff_eq, ne_eq, List.append_assoc, List.cons_append, List.nil_append, allS, s1, s2, s3, s4, s5, s6, s7, s8, s9, s10, alive_s, Large_s, rSize_s, eCheck_s, Num_s, rCheck6_s, eSize_s, eDepth_s, eHas_s, rHas_s, @den_var0 E0.Δ ds, den_varA, den_varB, hl, Nat.reduceLT, Nat.reduceLeDiff, Nat.reduceSub, List.getD_cons_zero, List.getD_cons_succ, argL_fold ds, argI_fold ds, List.append_assoc, List.cons_append, List.nil_append, toInt_int, toBool_bool, xs_rows, xs_list, Int.toNat_natCast, Dat.bool.injEq, e5, argI_c0, argI_c1]
  refine ⟨fun hx => Bool.noConfusion hx, fun _ b hb => ⟨fun _ => h, fun hf => ?_⟩⟩
  have := hb hf
  refine ⟨by omega, _, rfl, by omega, fun _ => ⟨by omega, fun _ => ⟨by omega, fun _ => ⟨by omega, by omega, ?_⟩, fun hx => absurd trivial hx⟩, fun hx => absurd trivial hx⟩, fun hx => absurd rfl hx⟩
  rw [beq_self_eq_true]; exact h)
end Go.Proofs.Ytkilkcgnfhlfiaa
