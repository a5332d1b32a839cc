/-
  Cards that are larger than is looked at, and the fixed fact; CardChecks: the law.
-/
import Derived.Test.YtiolgkmfjcdbiaaCrdF
namespace Go.Proofs.Ytiolgkmfjcdbiaa
open Go.RowKit
set_option linter.unusedVariables false
set_option linter.unusedSimpArgs false

def k_clarge : Nat := 8
def sg_clarge : Sig := ⟨[(true, [.int .i64, .int .i64] ++ [.bool] ++ List.replicate 9 (.int .i64) ++ [.list 38])], [(false, [.bool])], false, false, false⟩
def tr_clarge : Tree := (.loop [(.bool false), (.int .i64 0)] [.bool, (.int .i64)]
 (.ite (.cmp .lt (.var 14) (.len (.var 12)))
  (.ob (.cmp .ge (.var 14) (.int .i64 0))
  (.ite (.cmp .gt (.var 14) (.int .i64 8))
   (.ret [(.bool true)])
   (.call k_Large [(.elem (.var 12) (.var 14) 9 (.int .i64)), (.elem (.var 12) (.var 14) 10 (.int .i64)), (.elem (.var 12) (.var 14) 11 (.int .i64)), (.elem (.var 12) (.var 14) 12 (.int .i64)), (.elem (.var 12) (.var 14) 13 (.list 36))] [.bool]
   (.ite (.var 15)
    (.ret [(.bool true)])
    (.again 0 [(.var 13), (.ar .add .i64 (.var 14) (.int .i64 1))])))))
  (.ret [(.bool false)])))
theorem wk_clarge : walk E0.cx (sgsN [(22, sg_Large)]) 0 8 sg_clarge = tr_clarge := by kernel_rfl
theorem bo_clarge : ∃ x, bodyOf E0.P 8 = some x := bo_of (by kernel_rfl)
theorem sp_clarge_Large : specC [con_Large] k_Large = Large_s := rfl
def clarge_s : Spec := fun ds Q => ∀ b : Bool, (b = false → (argL ds 12).length ≤ 9 ∧ ∀ r ∈ argL ds 12, (argE (r.drop 9)).size ≤ 300) → Q [.bool b]
theorem clarge_h : Holds E0 k_clarge sg_clarge clarge_s := con_fn wf0 mix0 g0 [con_Large] rfl wk_clarge rfl (by
  intro Φ hΦ ds Q hs h
  have hl : ds.length = 13 := hs.length.symm
  have s1 : Φ k_Large = Large_s := by rw [hΦ]; rfl
  clear hΦ
  have hrow := abl_len (all2_get hs (i := 12) rfl)
  rw [argL_fold] at hrow
  simp only [tr_clarge, wp, den_int, den_bool, den_nili, den_ar, den_cmp, den_not, den_len, den_elem, den_isnil, den_errI, den_ifc, den_rep, den_push, den_app, den_emp, den_upd, row0_econs, row0_enil, den_and, den_beq, den_nil, toInt_int, toBool_bool, xs_rows, xs_list, dflt_int, dflt_bool, of_eq, of_ne, of_lt, of_le, of_gt, of_ge, of_add, of_sub, of_rem, List.map_cons, List.map_nil, Dat.bool.injEq, decide_eq_true_eq, decide_eq_false_iff_not, Bool.not_eq_true', Bool.not_eq_false', beq_iff_eq, bne_iff_ne, beq_eq_false_iff_ne, bne_eq_false_iff_eq, ne_eq, List.append_assoc, List.cons_append, List.nil_append, allS, s1, Large_s, @den_var0 E0.Δ ds, den_varA, den_varB, hl, Nat.reduceLT, Nat.reduceLeDiff, Nat.reduceSub, List.getD_cons_zero, List.getD_cons_succ, argL_fold ds, argI_fold ds, List.append_assoc, List.cons_append, List.nil_append, toInt_int, toBool_bool, xs_rows, xs_list, Int.toNat_natCast, Dat.bool.injEq]
  refine ⟨fun xs m => ∃ (i : Nat) (b : Bool), i ≤ (argL ds 12).length ∧ i ≤ 9 ∧ m = (argL ds 12).length - i ∧ xs = [.bool b, .int .i64 i] ∧ ∀ r ∈ (argL ds 12).take i, (argE (r.drop 9)).size ≤ 300, ⟨_, 0, _, by omega, by omega, rfl, rfl, by simp⟩, ?_⟩
  rintro b i' m ⟨i, _, hi, hi9, hmi, e, hall⟩
  cases e
  refine ⟨fun hlt => ⟨by omega, fun h9 => h _ (fun hx => by cases hx), fun h9 => ?_⟩, fun hge => h _ fun _ => ?_⟩
  · intro b2 hb2
    have hi2 : i < (argL ds 12).length := by omega
    have hr := hrow _ (getD_memL (d := []) hi2)
    refine ⟨fun _ => h _ (fun hx => by cases hx), fun hf => ⟨(argL ds 12).length - (i + 1), by omega, i + 1, b, by omega, by omega, rfl, ?_, fun r hr2 => ?_⟩⟩
    · rw [wrap64 (by omega) (by omega)]; rfl
    · rw [take_succ_getD (d := []) hi2] at hr2
      rcases List.mem_append.1 hr2 with hr2 | hr2
      · exact hall r hr2
      · rw [List.mem_singleton] at hr2
        subst hr2
        have := hb2 hf
        rw [Int.toNat_natCast] at this
        generalize (argL ds 12).getD i [] = r at this hr
        match r, hr with
        | [_, _, _, _, _, _, _, _, _, _, _, _, _, _], _ => exact this
  · rw [List.take_of_length_le (by omega)] at hall
    exact ⟨by omega, hall⟩)
noncomputable def con_clarge : Con E0 := ⟨k_clarge, sg_clarge, clarge_s, rfl, bo_clarge, clarge_h⟩
theorem crd_bare {ds : List Dat} (t : Int) (h0 : argI ds 0 = 1) (h1 : argI ds 1 = 0) (h2 : argB ds 2 = false) (h3 : argI ds 3 = 0) (h4 : argI ds 4 = 0) (h5 : argI ds 5 = 0) (h6 : argI ds 6 = 0) (h7 : argI ds 7 = 0) (h8 : argI ds 8 = 0) (h9 : argI ds 9 = 1) (h10 : argI ds 10 = t) (h11 : argI ds 11 = 0) (h12 : argL ds 12 = []) (ht : t = 0 ∨ t = 1) : crdErr ds = if t = 1 then 0 else 1 := by
  unfold crdErr
  rw [h0, h1, h2, h3, h4, h5, h6, h7, h8, h9, h10, h11, h12]
  rcases ht with rfl | rfl <;> decide +kernel
def k_alive7 : Nat := 7
def sg_alive7 : Sig := ⟨[], [(false, [.bool])], false, false, false⟩
def tr_alive7 : Tree := (.call k_cCheck [(.int .i64 1), (.int .i64 0), (.bool false), (.int .i64 0), (.int .i64 0), (.int .i64 0), (.int .i64 0), (.int .i64 0), (.int .i64 0), (.int .i64 1), (.int .i64 1), (.int .i64 0), (.nil 38)] [.err]
(.ite (.not (.isnil (.var 0)))
 (.ret [(.bool false)])
 (.call k_cCheck [(.int .i64 1), (.int .i64 0), (.bool false), (.int .i64 0), (.int .i64 0), (.int .i64 0), (.int .i64 0), (.int .i64 0), (.int .i64 0), (.int .i64 1), (.int .i64 0), (.int .i64 0), (.nil 38)] [.err]
 (.call k_Is [(.var 1), (.int .i64 1)] [.bool]
 (.ret [(.var 2)])))))
theorem wk_alive7 : walk E0.cx (sgsN [(10, sg_cCheck), (21, sg_Is)]) 0 7 sg_alive7 = tr_alive7 := by kernel_rfl
theorem bo_alive7 : ∃ x, bodyOf E0.P 7 = some x := bo_of (by kernel_rfl)
theorem sp_alive7_cCheck : specC [con_cCheck, con_Is] k_cCheck = cCheck_s := rfl
theorem sp_alive7_Is : specC [con_cCheck, con_Is] k_Is = Is_s := rfl
def alive7_s : Spec := fun ds Q => Q [.bool true]
theorem alive7_h : Holds E0 k_alive7 sg_alive7 alive7_s := con_fn wf0 mix0 g0 [con_cCheck, con_Is] rfl wk_alive7 rfl (by
  intro Φ hΦ ds Q hs h
  have sp : Φ k_cCheck = cCheck_s := by rw [hΦ]; rfl
  have sp2 : Φ k_Is = Is_s := by rw [hΦ]; rfl
  clear hΦ
  obtain rfl := List.length_eq_zero_iff.1 (show ds.length = 0 from hs.length.symm)
  simp only [tr_alive7, wp, allS, den_nil, sp, sp2, cCheck_s, List.map_cons, List.map_nil, den_int, den_bool]
  have e1 := crd_bare (ds := [Dat.int IntKind.i64 1, Dat.int IntKind.i64 0, Dat.bool false, Dat.int IntKind.i64 0, Dat.int IntKind.i64 0, Dat.int IntKind.i64 0, Dat.int IntKind.i64 0, Dat.int IntKind.i64 0, Dat.int IntKind.i64 0, Dat.int IntKind.i64 1, Dat.int IntKind.i64 1, Dat.int IntKind.i64 0, Dat.list (Value.slice none 0 0) (E0.Δ.row 38).length []]) 1 rfl rfl rfl rfl rfl rfl rfl rfl rfl rfl rfl rfl rfl (Or.inr rfl)
  have e2 := crd_bare (ds := [Dat.int IntKind.i64 1, Dat.int IntKind.i64 0, Dat.bool false, Dat.int IntKind.i64 0, Dat.int IntKind.i64 0, Dat.int IntKind.i64 0, Dat.int IntKind.i64 0, Dat.int IntKind.i64 0, Dat.int IntKind.i64 0, Dat.int IntKind.i64 1, Dat.int IntKind.i64 0, Dat.int IntKind.i64 0, Dat.list (Value.slice none 0 0) (E0.Δ.row 38).length []]) 0 rfl rfl rfl rfl rfl rfl rfl rfl rfl rfl rfl rfl rfl (Or.inl rfl)
  rw [if_pos rfl] at e1
  rw [if_neg (by decide)] at e2
  rw [e1, e2]
  exact ⟨Nat.zero_le _, fun hx => Bool.noConfusion (Dat.bool.inj hx), fun _ => ⟨Nat.zero_le _, 1, 1, rfl, h⟩⟩)
noncomputable def con_alive7 : Con E0 := ⟨k_alive7, sg_alive7, alive7_s, rfl, bo_alive7, alive7_h⟩
def k_lchecks7 : Nat := 3
def sg_lchecks7 : Sig := ⟨[(true, [.int .i64, .int .i64] ++ [.bool] ++ List.replicate 9 (.int .i64) ++ [.list 38])], [(false, [.bool])], false, false, false⟩
def tr_lchecks7 : Tree := (.call k_alive7 [] [.bool]
(.ite (.not (.var 13))
 (.ret [(.bool false)])
 (.call k_clarge [(.var 0), (.var 1), (.var 2), (.var 3), (.var 4), (.var 5), (.var 6), (.var 7), (.var 8), (.var 9), (.var 10), (.var 11), (.var 12)] [.bool]
 (.ite (.var 14)
  (.ret [(.bool true)])
  (.call k_cCheck [(.var 0), (.var 1), (.var 2), (.var 3), (.var 4), (.var 5), (.var 6), (.var 7), (.var 8), (.var 9), (.var 10), (.var 11), (.var 12)] [.err]
  (.call k_Num [(.var 15)] [(.int .i64)]
  (.call k_rCheck7 [(.var 0), (.var 1), (.var 2), (.var 3), (.var 4), (.var 5), (.var 6), (.var 7), (.var 8), (.var 9), (.var 10), (.var 11), (.var 12)] [(.int .i64)]
  (.ret [(.cmp .eq (.var 16) (.var 17))]))))))))
theorem wk_lchecks7 : walk E0.cx (sgsN [(7, sg_alive7), (8, sg_clarge), (10, sg_cCheck), (9, sg_Num), (11, sg_rCheck7)]) 0 3 sg_lchecks7 = tr_lchecks7 := by kernel_rfl
theorem bo_lchecks7 : ∃ x, bodyOf E0.P 3 = some x := bo_of (by kernel_rfl)
theorem sp_lchecks7_alive7 : specC [con_alive7, con_clarge, con_cCheck, con_Num, con_rCheck7] k_alive7 = alive7_s := rfl
theorem sp_lchecks7_clarge : specC [con_alive7, con_clarge, con_cCheck, con_Num, con_rCheck7] k_clarge = clarge_s := rfl
theorem sp_lchecks7_cCheck : specC [con_alive7, con_clarge, con_cCheck, con_Num, con_rCheck7] k_cCheck = cCheck_s := rfl
theorem sp_lchecks7_Num : specC [con_alive7, con_clarge, con_cCheck, con_Num, con_rCheck7] k_Num = Num_s := rfl
theorem sp_lchecks7_rCheck7 : specC [con_alive7, con_clarge, con_cCheck, con_Num, con_rCheck7] k_rCheck7 = rCheck7_s := rfl
theorem lchecks7_h : Holds E0 k_lchecks7 sg_lchecks7 true_s := con_fn wf0 mix0 g0 [con_alive7, con_clarge, con_cCheck, con_Num, con_rCheck7] rfl wk_lchecks7 rfl (by
  intro Φ hΦ ds Q hs h
  have hl : ds.length = 13 := hs.length.symm
  have s1 : Φ k_alive7 = alive7_s := by rw [hΦ]; rfl
  have s2 : Φ k_clarge = clarge_s := by rw [hΦ]; rfl
  have s3 : Φ k_cCheck = cCheck_s := by rw [hΦ]; rfl
  have s4 : Φ k_Num = Num_s := by rw [hΦ]; rfl
  have s5 : Φ k_rCheck7 = rCheck7_s := by rw [hΦ]; rfl
  clear hΦ
  simp only [tr_lchecks7, wp, den_int, den_bool, den_nili, den_ar, den_cmp, den_not, den_len, den_elem, den_isnil, den_errI, den_ifc, den_rep, den_push, den_app, den_emp, den_upd, row0_econs, row0_enil, den_and, den_beq, den_nil, toInt_int, toBool_bool, xs_rows, xs_list, dflt_int, dflt_bool, of_eq, of_ne, of_lt, of_le, of_gt, of_ge, of_add, of_sub, of_rem, List.map_cons, List.map_nil, Dat.bool.injEq, decide_eq_true_eq, decide_eq_false_iff_not, Bool.not_eq_true', Bool.not_eq_false', beq_iff_eq, bne_iff_ne, beq_eq_false_iff_ne, bne_eq_false_iff_eq, ne_eq, List.append_assoc, List.cons_append, List.nil_append, allS, s1, s2, s3, s4, s5, alive7_s, clarge_s, cCheck_s, Num_s, rCheck7_s, @den_var0 E0.Δ ds, den_varA, den_varB, hl, Nat.reduceLT, Nat.reduceLeDiff, Nat.reduceSub, List.getD_cons_zero, List.getD_cons_succ, argL_fold ds, argI_fold ds, List.append_assoc, List.cons_append, List.nil_append, toInt_int, toBool_bool, xs_rows, xs_list, Int.toNat_natCast, Dat.bool.injEq, fold13 hl]
  exact ⟨fun hx => Bool.noConfusion hx, fun _ b hb => ⟨fun _ => h, fun hf => ⟨by have := (hb hf).1; omega, _, rfl, by have := (hb hf).1; omega, fun r hr => by have := (hb hf).2 r hr; omega, by rw [beq_self_eq_true]; exact h⟩⟩⟩)
end Go.Proofs.Ytiolgkmfjcdbiaa
