/-
  An ability's error: program.
-/
import Derived.Test.YtiolgkmfjcdbiaaCrdB
import Derived.Test.YtiolgkmfjcdbiaaEffI
namespace Go.Proofs.Ytiolgkmfjcdbiaa
open Go.RowKit
set_option linter.unusedVariables false
set_option linter.unusedSimpArgs false

def stillP (e : Eff) : Prop := e.op = 20 ∧ (headOp e.subs = 10 ∨ headOp e.subs = 23 ∨ headOp e.subs = 24 ∨ headOp e.subs = 25)
instance (e : Eff) : Decidable (stillP e) := by unfold stillP; infer_instance
/-- an ability's error -/
def ablErr (w a b c d e f : Int) (tap : Bool) (t : Int) (x : Eff) : Int :=
  if w < 0 ∨ 7 ≤ w then 6
  else if ¬ costP a b c d e f (decide (w ≠ 1)) then 10
  else if (w = 6 ∧ tap = false) ∨ (w ≠ 6 ∧ w ≠ 1 ∧ tap = true) then 2
  else if t < 0 ∨ 6 ≤ t ∨ (t ≠ 0 ∧ w ≠ 0 ∧ w ≠ 1) then 11
  else if x.chk t 1 ≠ 0 then x.chk t 1
  else if w = 6 ∧ (x.op ≠ 15 ∨ x.who ≠ 0) then 2
  else if w = 5 ∧ ¬ stillP x then 2 else 0
/-- .. of a call's arguments -/
def ablA (ds : List Dat) : Int := ablErr (argI ds 0) (argI ds 1) (argI ds 2) (argI ds 3) (argI ds 4) (argI ds 5) (argI ds 6) (argB ds 7) (argI ds 8) (argE (ds.drop 9))
def cability_s : Spec := fun ds Q => Q [errV (ablA ds)]
def k_cability : Nat := 26
def sg_cability : Sig := ⟨[(true, List.replicate 7 (.int .i64) ++ [.bool] ++ List.replicate 5 (.int .i64) ++ [.list 36])], [(false, [.err])], false, false, true⟩
def tr_cability : Tree := (.ite (.or (.cmp .lt (.var 0) (.int .i64 0)) (.cmp .ge (.var 0) (.int .i64 7)))
 (.ret [(.ifc (.int .i64 6))])
 (.call k_paid [(.var 1), (.var 2), (.var 3), (.var 4), (.var 5), (.var 6), (.not (.cmp .eq (.var 0) (.int .i64 1)))] [.bool]
 (.ite (.not (.var 14))
  (.ret [(.ifc (.int .i64 10))])
  (.ite (.and (.not (.cmp .eq (.var 0) (.int .i64 1))) (.not (.beq (.var 7) (.cmp .eq (.var 0) (.int .i64 6)))))
   (.ret [(.ifc (.int .i64 2))])
   (.ite (.or (.cmp .lt (.var 8) (.int .i64 0)) (.or (.cmp .ge (.var 8) (.int .i64 6)) (.and (.not (.cmp .eq (.var 0) (.int .i64 1))) (.and (.cmp .ne (.var 0) (.int .i64 0)) (.cmp .ne (.var 8) (.int .i64 0))))))
    (.ret [(.ifc (.int .i64 11))])
    (.call k_eCheck [(.var 9), (.var 10), (.var 11), (.var 12), (.var 13), (.var 8)] [.err]
    (.ite (.not (.isnil (.var 15)))
     (.ret [(.var 15)])
     (.ite (.and (.cmp .eq (.var 0) (.int .i64 6)) (.or (.cmp .ne (.var 9) (.int .i64 15)) (.cmp .ne (.var 12) (.int .i64 0))))
      (.ret [(.ifc (.int .i64 2))])
      (.ite (.cmp .eq (.var 0) (.int .i64 5))
       (.ite (.cmp .ne (.var 9) (.int .i64 20))
        (.ret [(.ifc (.int .i64 2))])
        (.ob (.cmp .lt (.int .i64 0) (.len (.var 13)))
        (.ite (.or (.cmp .eq (.elem (.var 13) (.int .i64 0) 0 (.int .i64)) (.int .i64 10)) (.or (.cmp .eq (.elem (.var 13) (.int .i64 0) 0 (.int .i64)) (.int .i64 23)) (.or (.cmp .eq (.elem (.var 13) (.int .i64 0) 0 (.int .i64)) (.int .i64 24)) (.cmp .eq (.elem (.var 13) (.int .i64 0) 0 (.int .i64)) (.int .i64 25)))))
         (.ret [.nili])
         (.ret [(.ifc (.int .i64 2))]))))
       (.ret [.nili]))))))))))
theorem wk_cability : walk E0.cx (sgsN [(23, sg_paid), (12, sg_eCheck)]) 0 26 sg_cability = tr_cability := by kernel_rfl
theorem bo_cability : ∃ x, bodyOf E0.P 26 = some x := bo_of (by kernel_rfl)
theorem sp_cability_paid : specC [con_paid, con_eCheck] k_paid = paid_s := rfl
theorem sp_cability_eCheck : specC [con_paid, con_eCheck] k_eCheck = eCheck_s := rfl
theorem cability_h : Holds E0 k_cability sg_cability cability_s := con_fn wf0 mix0 g0 [con_paid, con_eCheck] rfl wk_cability rfl (by
  intro Φ hΦ ds Q hs h
  have h : Q [errV (ablA ds)] := h
  have hl : ds.length = 14 := hs.length.symm
  have s1 : Φ k_paid = paid_s := by rw [hΦ]; rfl
  have s2 : Φ k_eCheck = eCheck_s := by rw [hΦ]; rfl
  clear hΦ
  have hE : argE [ds.getD 9 (.bool false), ds.getD 10 (.bool false), ds.getD 11 (.bool false), ds.getD 12 (.bool false), ds.getD 13 (.bool false), ds.getD 8 (.bool false)] = argE (ds.drop 9) := by
    match ds, hl with
    | [_, _, _, _, _, _, _, _, _, _, _, _, _, _], _ => rfl
  simp only [tr_cability, wp, den_int, den_bool, den_nili, den_ar, den_cmp, den_not, den_len, den_elem, den_isnil, den_errI, den_ifc, den_rep, den_push, den_app, den_emp, den_upd, row0_econs, row0_enil, den_and, den_beq, den_nil, toInt_int, toBool_bool, xs_rows, xs_list, dflt_int, dflt_bool, of_eq, of_ne, of_lt, of_le, of_gt, of_ge, of_add, of_sub, of_rem, List.map_cons, List.map_nil, Dat.bool.injEq, decide_eq_true_eq, decide_eq_false_iff_not, Bool.not_eq_true', Bool.not_eq_false', beq_iff_eq, bne_iff_ne, beq_eq_false_iff_ne, bne_eq_false_iff_eq, ne_eq, List.append_assoc, List.cons_append, List.nil_append, allS, s1, s2, paid_s, cost_s, eCheck_s, @den_var0 E0.Δ ds, den_varA, den_varB, hl, Nat.reduceLT, Nat.reduceLeDiff, Nat.reduceSub, List.getD_cons_zero, List.getD_cons_succ, argL_fold ds, argI_fold ds, List.append_assoc, List.cons_append, List.nil_append, toInt_int, toBool_bool, xs_rows, xs_list, Int.toNat_natCast, Dat.bool.injEq, den_or, hE, argI_c0, argI_c1]
  have hop : (argE (ds.drop 9)).op = argI ds 9 := by rw [argE_opI, argI_drop]
  have hwho : (argE (ds.drop 9)).who = argI ds 12 := by rw [argE_who, argI_drop]
  have hsub : (argE (ds.drop 9)).subs = (argL ds 13).map effOf := by rw [argE_subs, argL_drop]
  have hw : argB [ds.getD 1 (.bool false), ds.getD 2 (.bool false), ds.getD 3 (.bool false), ds.getD 4 (.bool false), ds.getD 5 (.bool false), ds.getD 6 (.bool false), .bool !(argI ds 0 == 1)] 6 = decide (argI ds 0 ≠ 1) := by
    show (!(argI ds 0 == 1)) = _
    rw [Bool.eq_iff_iff]; simp
  rw [hw]
  have fe : ∀ n : Int, n ≠ 0 → ablA ds = n → Q [.val (.iface 47 (.int .i64 n))] := fun n hn e => by rw [← errV_n hn, ← e]; exact h
  have f0 : ablA ds = 0 → Q [.val .nilIface] := fun e => by rw [← errV_0, ← e]; exact h
  unfold ablA ablErr at fe f0 h
  rw [show argB ds 7 = (ds.getD 7 (Dat.bool false)).toBool from rfl, hop, hwho] at fe f0 h
  generalize htap : (ds.getD 7 (Dat.bool false)).toBool = tap at fe f0 h ⊢
  refine ⟨fun h1 => ?_, fun h1 => ?_⟩
  · simp only [Bool.or_eq_true, decide_eq_true_eq] at h1
    exact fe 6 (by decide) (if_pos h1)
  have c1 : ¬ (argI ds 0 < 0 ∨ 7 ≤ argI ds 0) := by simp only [Bool.or_eq_false_iff, decide_eq_false_iff_not] at h1; omega
  simp only [if_neg c1] at fe f0 h
  refine ⟨fun h2 => fe 10 (by decide) (if_pos h2), fun h2 => ?_⟩
  have c2 := not_not_intro h2
  simp only [if_neg c2] at fe f0 h
  have e3 : (!(argI ds 0 == 1) && !(tap == (argI ds 0 == 6))) = decide ((argI ds 0 = 6 ∧ tap = false) ∨ (argI ds 0 ≠ 6 ∧ argI ds 0 ≠ 1 ∧ tap = true)) := by
    rw [Bool.eq_iff_iff, decide_eq_true_eq]
    by_cases a : argI ds 0 = 1
    · simp [a]
    · by_cases b : argI ds 0 = 6
      · cases tap <;> simp [b]
      · cases tap <;> simp [a, b]
  rw [e3]
  simp only [decide_eq_true_eq, decide_eq_false_iff_not]
  refine ⟨fun h3 => fe 2 (by decide) (if_pos h3), fun c3 => ?_⟩
  simp only [if_neg c3] at fe f0 h
  have e4 : (decide (argI ds 8 < 0) || (decide (6 ≤ argI ds 8) || !(argI ds 0 == 1) && (argI ds 0 != 0 && argI ds 8 != 0))) = decide (argI ds 8 < 0 ∨ 6 ≤ argI ds 8 ∨ (argI ds 8 ≠ 0 ∧ argI ds 0 ≠ 0 ∧ argI ds 0 ≠ 1)) := by
    rw [Bool.eq_iff_iff, decide_eq_true_eq]
    simp only [Bool.or_eq_true, Bool.and_eq_true, decide_eq_true_eq, Bool.not_eq_true', beq_eq_false_iff_ne, bne_iff_ne]
    omega
  rw [e4]
  simp only [decide_eq_true_eq, decide_eq_false_iff_not]
  refine ⟨fun h4 => fe 11 (by decide) (if_pos h4), fun c4 => ?_⟩
  simp only [if_neg c4] at fe f0 h
  rw [if_neg (show ¬ (argI ds 8 < 0 ∨ 5 < argI ds 8) by omega), errV_nil, decide_eq_false_iff_not, decide_eq_true_eq]
  refine ⟨fun h5 => by rw [if_pos h5] at h; exact h, fun h5 => ?_⟩
  have c5 := not_not_intro h5
  simp only [if_neg c5] at fe f0 h
  have e6 : (argI ds 0 == 6 && (argI ds 9 != 15 || argI ds 12 != 0)) = decide (argI ds 0 = 6 ∧ (argI ds 9 ≠ 15 ∨ argI ds 12 ≠ 0)) := by
    rw [Bool.eq_iff_iff, decide_eq_true_eq]
    simp only [Bool.or_eq_true, Bool.and_eq_true, beq_iff_eq, bne_iff_ne]
  rw [e6]
  simp only [decide_eq_true_eq, decide_eq_false_iff_not]
  refine ⟨fun h6 => fe 2 (by decide) (if_pos h6), fun c6 => ?_⟩
  simp only [if_neg c6] at fe f0 h
  refine ⟨fun h7 => ⟨fun h8 => fe 2 (by decide) (if_pos ⟨h7, fun hs => h8 (hop ▸ hs.1)⟩), fun h8 => ?_⟩, fun h7 => f0 (if_neg fun hs => h7 hs.1)⟩
  have hlen1 : 0 < (argL ds 13).length := by
    have hc := Eff.chk_eq (argE (ds.drop 9)) (argI ds 8) 1
    rw [h5] at hc
    by_cases hz : headE (argE (ds.drop 9)).op (argE (ds.drop 9)).n (argE (ds.drop 9)).m (argE (ds.drop 9)).who (argI ds 8) 1 (argE (ds.drop 9)).subs.length (headOp (argE (ds.drop 9)).subs) = 0
    case neg => rw [if_pos hz] at hc; exact absurd hc.symm hz
    unfold headE at hz
    split at hz
    · cases hz
    split at hz
    · cases hz
    split at hz
    · cases hz
    split at hz
    · cases hz
    split at hz
    · cases hz
    rename_i hf
    have := ((Decidable.of_not_not hf).1 (hop.trans h8)).1
    rw [hsub, List.length_map] at this
    omega
  have hho : headOp (argE (ds.drop 9)).subs = (((argL ds 13).getD (Int.toNat 0) []).getD 0 (Dat.int IntKind.i64 0)).toInt := by
    rw [hsub]; exact headOp_map hlen1
  rw [← hho]
  refine ⟨by omega, fun h9 => f0 (if_neg fun hs => hs.2 ⟨hop.trans h8, ?_⟩), fun h9 => fe 2 (by decide) (if_pos ⟨h7, fun hs => ?_⟩)⟩
  · simpa only [Bool.or_eq_true, beq_iff_eq] using h9
  · simp only [Bool.or_eq_false_iff, beq_eq_false_iff_ne] at h9
    have := hs.2
    omega)
noncomputable def con_cability : Con E0 := ⟨k_cability, sg_cability, cability_s, rfl, bo_cability, cability_h⟩
end Go.Proofs.Ytiolgkmfjcdbiaa
