/-
  A card's error: program.
-/
import Derived.Test.YtiolgkmfjcdbiaaCrdC
namespace Go.Proofs.Ytiolgkmfjcdbiaa
open Go.RowKit
set_option linter.unusedVariables false
set_option linter.unusedSimpArgs false

def strongP (k p t s : Int) : Prop := if k = 1 then 0 ≤ p ∧ p ≤ 99 ∧ 1 ≤ t ∧ t ≤ 99 ∧ 0 ≤ s ∧ s ≤ 255 else p = 0 ∧ t = 0 ∧ s = 0
instance (k p t s : Int) : Decidable (strongP k p t s) := by unfold strongP; infer_instance
def formedP (k : Int) (n u : Nat) (fast : Bool) : Prop := if k = 2 then n = 1 ∧ u = 1 else n ≤ 4 ∧ u = 0 ∧ (fast = true → k = 1)
instance (k : Int) (n u : Nat) (fast : Bool) : Decidable (formedP k n u fast) := by unfold formedP; infer_instance
def firstErr : List (List Dat) → Int
  | [] => 0
  | r :: l => if ablA r ≠ 0 then ablA r else firstErr l
def spells (l : List (List Dat)) : Nat := (usesK l 0 l.length).length
def crdErr (ds : List Dat) : Int :=
  if argI ds 0 < 0 ∨ 4 ≤ argI ds 0 ∨ argI ds 1 < 0 ∨ 5 < argI ds 1 then 6
  else if ¬ costP (argI ds 3) (argI ds 4) (argI ds 5) (argI ds 6) (argI ds 7) (argI ds 8) (decide (argI ds 0 = 0)) then 10
  else if ¬ strongP (argI ds 0) (argI ds 9) (argI ds 10) (argI ds 11) then 1
  else if ¬ formedP (argI ds 0) (argL ds 12).length (spells (argL ds 12)) (argB ds 2) then 2
  else firstErr (argL ds 12)
def strong_s : Spec := fun ds Q => Q [.bool (decide (strongP (argI ds 0) (argI ds 9) (argI ds 10) (argI ds 11)))]
def k_strong : Nat := 24
def sg_strong : Sig := ⟨[(true, [.int .i64, .int .i64] ++ [.bool] ++ List.replicate 9 (.int .i64) ++ [.list 38])], [(false, [.bool])], false, false, true⟩
def tr_strong : Tree := (.ite (.cmp .ne (.var 0) (.int .i64 1))
 (.ret [(.and (.cmp .eq (.var 9) (.int .i64 0)) (.and (.cmp .eq (.var 10) (.int .i64 0)) (.cmp .eq (.var 11) (.int .i64 0))))])
 (.ret [(.and (.cmp .ge (.var 9) (.int .i64 0)) (.and (.cmp .le (.var 9) (.int .i64 99)) (.and (.cmp .ge (.var 10) (.int .i64 1)) (.and (.cmp .le (.var 10) (.int .i64 99)) (.and (.cmp .ge (.var 11) (.int .i64 0)) (.cmp .le (.var 11) (.int .i64 255)))))))]))
theorem wk_strong : walk E0.cx (sgsN []) 0 24 sg_strong = tr_strong := by kernel_rfl
theorem bo_strong : ∃ x, bodyOf E0.P 24 = some x := bo_of (by kernel_rfl)
theorem strong_h : Holds E0 k_strong sg_strong strong_s := con_fn wf0 mix0 g0 [] rfl wk_strong rfl (by
  intro Φ hΦ ds Q hs h
  have h : Q [.bool (decide (strongP (argI ds 0) (argI ds 9) (argI ds 10) (argI ds 11)))] := h
  have hl : ds.length = 13 := hs.length.symm
  clear hΦ
  simp only [tr_strong, wp, den_int, den_bool, den_nili, den_ar, den_cmp, den_not, den_len, den_elem, den_isnil, den_errI, den_ifc, den_rep, den_push, den_app, den_emp, den_upd, row0_econs, row0_enil, den_and, den_beq, den_nil, toInt_int, toBool_bool, xs_rows, xs_list, dflt_int, dflt_bool, of_eq, of_ne, of_lt, of_le, of_gt, of_ge, of_add, of_sub, of_rem, List.map_cons, List.map_nil, Dat.bool.injEq, decide_eq_true_eq, decide_eq_false_iff_not, Bool.not_eq_true', Bool.not_eq_false', beq_iff_eq, bne_iff_ne, beq_eq_false_iff_ne, bne_eq_false_iff_eq, ne_eq, List.append_assoc, List.cons_append, List.nil_append, allS, @den_var0 E0.Δ ds, den_varA, den_varB, hl, Nat.reduceLT, Nat.reduceLeDiff, Nat.reduceSub, List.getD_cons_zero, List.getD_cons_succ, argL_fold ds, argI_fold ds, List.append_assoc, List.cons_append, List.nil_append, toInt_int, toBool_bool, xs_rows, xs_list, Int.toNat_natCast, Dat.bool.injEq, den_or]
  have fin : ∀ b : Bool, (b = true ↔ strongP (argI ds 0) (argI ds 9) (argI ds 10) (argI ds 11)) → Q [.bool b] := fun b hb => by
    rw [show b = decide (strongP (argI ds 0) (argI ds 9) (argI ds 10) (argI ds 11)) by rw [Bool.eq_iff_iff, hb, decide_eq_true_eq]]
    exact h
  refine ⟨fun h1 => fin _ ?_, fun h1 => fin _ ?_⟩
  · unfold strongP
    rw [if_neg h1]
    simp only [Bool.and_eq_true, beq_iff_eq]
  · unfold strongP
    rw [if_pos (by omega)]
    simp only [Bool.and_eq_true, decide_eq_true_eq])
noncomputable def con_strong : Con E0 := ⟨k_strong, sg_strong, strong_s, rfl, bo_strong, strong_h⟩
def cformed_s : Spec := fun ds Q => (argL ds 12).length ≤ 1000 ∧ Q [.bool (decide (formedP (argI ds 0) (argL ds 12).length (spells (argL ds 12)) (argB ds 2)))]
def k_cformed : Nat := 25
def sg_cformed : Sig := ⟨[(true, [.int .i64, .int .i64] ++ [.bool] ++ List.replicate 9 (.int .i64) ++ [.list 38])], [(false, [.bool])], false, false, false⟩
def tr_cformed : Tree := (.call k_cUses [(.var 0), (.var 1), (.var 2), (.var 3), (.var 4), (.var 5), (.var 6), (.var 7), (.var 8), (.var 9), (.var 10), (.var 11), (.var 12), (.int .i64 0)] [(.rows 3)]
(.ite (.cmp .eq (.var 0) (.int .i64 2))
 (.ite (.cmp .eq (.len (.var 12)) (.int .i64 1))
  (.ret [(.cmp .eq (.len (.app .emp (.var 13))) (.int .i64 1))])
  (.ret [(.bool false)]))
 (.ite (.cmp .le (.len (.var 12)) (.int .i64 4))
  (.ite (.cmp .eq (.len (.app .emp (.var 13))) (.int .i64 0))
   (.ite (.not (.var 2))
    (.ret [(.bool true)])
    (.ret [(.cmp .eq (.var 0) (.int .i64 1))]))
   (.ret [(.bool false)]))
  (.ret [(.bool false)]))))
theorem wk_cformed : walk E0.cx (sgsN [(13, sg_cUses)]) 0 25 sg_cformed = tr_cformed := by kernel_rfl
theorem bo_cformed : ∃ x, bodyOf E0.P 25 = some x := bo_of (by kernel_rfl)
theorem sp_cformed_cUses : specC [con_cUses] k_cUses = cUses_s := rfl
theorem cformed_h : Holds E0 k_cformed sg_cformed cformed_s := con_fn wf0 mix0 g0 [con_cUses] rfl wk_cformed rfl (by
  intro Φ hΦ ds Q hs ⟨hlen, h⟩
  have hl : ds.length = 13 := hs.length.symm
  have s1 : Φ k_cUses = cUses_s := by rw [hΦ]; rfl
  clear hΦ
  simp only [tr_cformed, wp, den_int, den_bool, den_nili, den_ar, den_cmp, den_not, den_len, den_elem, den_isnil, den_errI, den_ifc, den_rep, den_push, den_app, den_emp, den_upd, row0_econs, row0_enil, den_and, den_beq, den_nil, toInt_int, toBool_bool, xs_rows, xs_list, dflt_int, dflt_bool, of_eq, of_ne, of_lt, of_le, of_gt, of_ge, of_add, of_sub, of_rem, List.map_cons, List.map_nil, Dat.bool.injEq, decide_eq_true_eq, decide_eq_false_iff_not, Bool.not_eq_true', Bool.not_eq_false', beq_iff_eq, bne_iff_ne, beq_eq_false_iff_ne, bne_eq_false_iff_eq, ne_eq, List.append_assoc, List.cons_append, List.nil_append, allS, s1, cUses_s, uses_s, @den_var0 E0.Δ ds, den_varA, den_varB, hl, Nat.reduceLT, Nat.reduceLeDiff, Nat.reduceSub, List.getD_cons_zero, List.getD_cons_succ, argL_fold ds, argI_fold ds, List.append_assoc, List.cons_append, List.nil_append, toInt_int, toBool_bool, xs_rows, xs_list, Int.toNat_natCast, Dat.bool.injEq, den_or]
  have e12 : ∀ a, argL [ds.getD 0 (.bool false), ds.getD 1 (.bool false), ds.getD 2 (.bool false), ds.getD 3 (.bool false), ds.getD 4 (.bool false), ds.getD 5 (.bool false), ds.getD 6 (.bool false), ds.getD 7 (.bool false), ds.getD 8 (.bool false), ds.getD 9 (.bool false), ds.getD 10 (.bool false), ds.getD 11 (.bool false), ds.getD 12 (.bool false), a] 12 = argL ds 12 := fun _ => rfl
  have e13 : ∀ x, argI [ds.getD 0 (.bool false), ds.getD 1 (.bool false), ds.getD 2 (.bool false), ds.getD 3 (.bool false), ds.getD 4 (.bool false), ds.getD 5 (.bool false), ds.getD 6 (.bool false), ds.getD 7 (.bool false), ds.getD 8 (.bool false), ds.getD 9 (.bool false), ds.getD 10 (.bool false), ds.getD 11 (.bool false), ds.getD 12 (.bool false), .int .i64 x] 13 = x := fun _ => rfl
  simp only [e12, e13]
  have fin : ∀ b : Bool, (b = true ↔ formedP (argI ds 0) (argL ds 12).length (spells (argL ds 12)) (argB ds 2)) → Q [.bool b] := fun b hb => by
    rw [show b = decide (formedP (argI ds 0) (argL ds 12).length (spells (argL ds 12)) (argB ds 2)) by rw [Bool.eq_iff_iff, hb, decide_eq_true_eq]]
    exact h
  have hu : (i64R (usesK (argL ds 12) 0 (argL ds 12).length)).length = spells (argL ds 12) := i64R_len _
  rw [hu]
  unfold formedP at fin
  refine ⟨hlen, fun h1 => ⟨fun h2 => fin _ ?_, fun h2 => fin _ ?_⟩, fun h1 => ⟨fun h2 => ⟨fun h3 => ⟨fun h4 => fin _ ?_, fun h4 => fin _ ?_⟩, fun h3 => fin _ ?_⟩, fun h2 => fin _ ?_⟩⟩
  · rw [if_pos h1, beq_iff_eq]; omega
  · rw [if_pos h1]; simp only [Bool.false_eq_true, false_iff]; omega
  · rw [if_neg h1]; exact ⟨fun _ => ⟨by omega, by omega, fun hf => absurd ((show argB ds 2 = (ds.getD 2 (Dat.bool false)).toBool from rfl).symm.trans hf) (by rw [h4]; decide)⟩, fun _ => rfl⟩
  · rw [if_neg h1, beq_iff_eq]; exact ⟨fun he => ⟨by omega, by omega, fun _ => he⟩, fun he => he.2.2 h4⟩
  · rw [if_neg h1]; simp only [Bool.false_eq_true, false_iff]; omega
  · rw [if_neg h1]; simp only [Bool.false_eq_true, false_iff]; omega)
noncomputable def con_cformed : Con E0 := ⟨k_cformed, sg_cformed, cformed_s, rfl, bo_cformed, cformed_h⟩
def cCheck_s : Spec := fun ds Q => (argL ds 12).length ≤ 1000 ∧ Q [errV (crdErr ds)]
theorem abl_len {d : Dat} (h : Has E0.Δ (.list 38) d) : ∀ r ∈ d.xs, r.length = 14 := by
  cases h with
  | list _ A n c xs hl _ => exact fun r hr => hl r hr
theorem fold14 {r : List Dat} (h : r.length = 14) (a b c d e f g h' i j k l m n : Dat) : [r.getD 0 a, r.getD 1 b, r.getD 2 c, r.getD 3 d, r.getD 4 e, r.getD 5 f, r.getD 6 g, r.getD 7 h', r.getD 8 i, r.getD 9 j, r.getD 10 k, r.getD 11 l, r.getD 12 m, r.getD 13 n] = r := by
  match r, h with
  | [_, _, _, _, _, _, _, _, _, _, _, _, _, _], _ => rfl
theorem fold13 {r : List Dat} (h : r.length = 13) (d : Dat) : [r.getD 0 d, r.getD 1 d, r.getD 2 d, r.getD 3 d, r.getD 4 d, r.getD 5 d, r.getD 6 d, r.getD 7 d, r.getD 8 d, r.getD 9 d, r.getD 10 d, r.getD 11 d, r.getD 12 d] = r := by
  match r, h with
  | [_, _, _, _, _, _, _, _, _, _, _, _, _], _ => rfl
def k_cCheck : Nat := 10
def sg_cCheck : Sig := ⟨[(true, [.int .i64, .int .i64] ++ [.bool] ++ List.replicate 9 (.int .i64) ++ [.list 38])], [(false, [.err])], false, false, false⟩
def tr_cCheck : Tree := (.ite (.cmp .lt (.var 0) (.int .i64 0))
 (.ret [(.ifc (.int .i64 6))])
 (.ite (.cmp .ge (.var 0) (.int .i64 4))
  (.ret [(.ifc (.int .i64 6))])
  (.ite (.cmp .lt (.var 1) (.int .i64 0))
   (.ret [(.ifc (.int .i64 6))])
   (.ite (.cmp .gt (.var 1) (.int .i64 5))
    (.ret [(.ifc (.int .i64 6))])
    (.call k_paid [(.var 3), (.var 4), (.var 5), (.var 6), (.var 7), (.var 8), (.cmp .eq (.var 0) (.int .i64 0))] [.bool]
    (.ite (.not (.var 13))
     (.ret [(.ifc (.int .i64 10))])
     (.call k_strong [(.var 0), (.var 1), (.var 2), (.var 3), (.var 4), (.var 5), (.var 6), (.var 7), (.var 8), (.var 9), (.var 10), (.var 11), (.var 12)] [.bool]
     (.ite (.not (.var 14))
      (.ret [(.ifc (.int .i64 1))])
      (.call k_cformed [(.var 0), (.var 1), (.var 2), (.var 3), (.var 4), (.var 5), (.var 6), (.var 7), (.var 8), (.var 9), (.var 10), (.var 11), (.var 12)] [.bool]
      (.ite (.not (.var 15))
       (.ret [(.ifc (.int .i64 2))])
       (.loop [.nili, (.int .i64 0)] [.err, (.int .i64)]
        (.ite (.cmp .lt (.var 17) (.len (.var 12)))
         (.ob (.cmp .ge (.var 17) (.int .i64 0))
         (.call k_cability [(.elem (.var 12) (.var 17) 0 (.int .i64)), (.elem (.var 12) (.var 17) 1 (.int .i64)), (.elem (.var 12) (.var 17) 2 (.int .i64)), (.elem (.var 12) (.var 17) 3 (.int .i64)), (.elem (.var 12) (.var 17) 4 (.int .i64)), (.elem (.var 12) (.var 17) 5 (.int .i64)), (.elem (.var 12) (.var 17) 6 (.int .i64)), (.elem (.var 12) (.var 17) 7 .bool), (.elem (.var 12) (.var 17) 8 (.int .i64)), (.elem (.var 12) (.var 17) 9 (.int .i64)), (.elem (.var 12) (.var 17) 10 (.int .i64)), (.elem (.var 12) (.var 17) 11 (.int .i64)), (.elem (.var 12) (.var 17) 12 (.int .i64)), (.elem (.var 12) (.var 17) 13 (.list 36))] [.err]
         (.ite (.not (.isnil (.var 18)))
          (.ret [(.var 18)])
          (.again 0 [(.var 16), (.ar .add .i64 (.var 17) (.int .i64 1))]))))
         (.ret [.nili])))))))))))))
theorem wk_cCheck : walk E0.cx (sgsN [(23, sg_paid), (24, sg_strong), (25, sg_cformed), (26, sg_cability)]) 0 10 sg_cCheck = tr_cCheck := by kernel_rfl
theorem bo_cCheck : ∃ x, bodyOf E0.P 10 = some x := bo_of (by kernel_rfl)
theorem sp_cCheck_paid : specC [con_paid, con_strong, con_cformed, con_cability] k_paid = paid_s := rfl
theorem sp_cCheck_strong : specC [con_paid, con_strong, con_cformed, con_cability] k_strong = strong_s := rfl
theorem sp_cCheck_cformed : specC [con_paid, con_strong, con_cformed, con_cability] k_cformed = cformed_s := rfl
theorem sp_cCheck_cability : specC [con_paid, con_strong, con_cformed, con_cability] k_cability = cability_s := rfl
theorem cCheck_h : Holds E0 k_cCheck sg_cCheck cCheck_s := con_fn wf0 mix0 g0 [con_paid, con_strong, con_cformed, con_cability] rfl wk_cCheck rfl (by
  intro Φ hΦ ds Q hs ⟨hlen, h⟩
  have hl : ds.length = 13 := hs.length.symm
  have s1 : Φ k_paid = paid_s := by rw [hΦ]; rfl
  have s2 : Φ k_strong = strong_s := by rw [hΦ]; rfl
  have s3 : Φ k_cformed = cformed_s := by rw [hΦ]; rfl
  have s4 : Φ k_cability = cability_s := by rw [hΦ]; rfl
  clear hΦ
  have hrow := abl_len (all2_get hs (i := 12) rfl)
  rw [argL_fold] at hrow
  simp only [tr_cCheck, wp, den_int, den_bool, den_nili, den_ar, den_cmp, den_not, den_len, den_elem, den_isnil, den_errI, den_ifc, den_rep, den_push, den_app, den_emp, den_upd, row0_econs, row0_enil, den_and, den_beq, den_nil, toInt_int, toBool_bool, xs_rows, xs_list, dflt_int, dflt_bool, of_eq, of_ne, of_lt, of_le, of_gt, of_ge, of_add, of_sub, of_rem, List.map_cons, List.map_nil, Dat.bool.injEq, decide_eq_true_eq, decide_eq_false_iff_not, Bool.not_eq_true', Bool.not_eq_false', beq_iff_eq, bne_iff_ne, beq_eq_false_iff_ne, bne_eq_false_iff_eq, ne_eq, List.append_assoc, List.cons_append, List.nil_append, allS, s1, s2, s3, s4, paid_s, cost_s, strong_s, cformed_s, cability_s, @den_var0 E0.Δ ds, den_varA, den_varB, hl, Nat.reduceLT, Nat.reduceLeDiff, Nat.reduceSub, List.getD_cons_zero, List.getD_cons_succ, argL_fold ds, argI_fold ds, List.append_assoc, List.cons_append, List.nil_append, toInt_int, toBool_bool, xs_rows, xs_list, Int.toNat_natCast, Dat.bool.injEq, den_or, fold13 hl, argI_c0, argI_c1]
  have hw : argB [ds.getD 3 (.bool false), ds.getD 4 (.bool false), ds.getD 5 (.bool false), ds.getD 6 (.bool false), ds.getD 7 (.bool false), ds.getD 8 (.bool false), .bool (argI ds 0 == 0)] 6 = decide (argI ds 0 = 0) := by
    show (argI ds 0 == 0) = _
    rw [Bool.eq_iff_iff]; simp
  rw [hw]
  have fe : ∀ n : Int, n ≠ 0 → crdErr ds = n → Q [.val (.iface 47 (.int .i64 n))] := fun n hn e => by rw [← errV_n hn, ← e]; exact h
  have f0 : crdErr ds = firstErr (argL ds 12) → Q [errV (firstErr (argL ds 12))] := fun e => by rw [← e]; exact h
  unfold crdErr at fe f0
  refine ⟨fun h1 => fe 6 (by decide) (if_pos (by omega)), fun h1 => ⟨fun h2 => fe 6 (by decide) (if_pos (by omega)), fun h2 => ⟨fun h3 => fe 6 (by decide) (if_pos (by omega)), fun h3 => ⟨fun h4 => fe 6 (by decide) (if_pos (by omega)), fun h4 => ?_⟩⟩⟩⟩
  simp only [if_neg (show ¬ (argI ds 0 < 0 ∨ 4 ≤ argI ds 0 ∨ argI ds 1 < 0 ∨ 5 < argI ds 1) by omega)] at fe f0
  refine ⟨fun h5 => fe 10 (by decide) (if_pos h5), fun h5 => ?_⟩
  simp only [if_neg (not_not_intro h5)] at fe f0
  refine ⟨fun h6 => fe 1 (by decide) (if_pos h6), fun h6 => ?_⟩
  simp only [if_neg (not_not_intro h6)] at fe f0
  refine ⟨hlen, fun h7 => fe 2 (by decide) (if_pos h7), fun h7 => ?_⟩
  simp only [if_neg (not_not_intro h7)] at fe f0
  have hQ := f0 (by trivial)
  refine ⟨fun xs m => ∃ i : Nat, i ≤ (argL ds 12).length ∧ m = (argL ds 12).length - i ∧ xs = [.val .nilIface, .int .i64 i] ∧ firstErr (argL ds 12) = firstErr ((argL ds 12).drop i), ⟨_, 0, by omega, rfl, rfl, rfl⟩, ?_⟩
  rintro d _ i' m ⟨i, hi, hmi, e, hf⟩
  cases e
  refine ⟨fun hlt => ⟨by omega, ?_⟩, fun hge => ?_⟩
  · have hi2 : i < (argL ds 12).length := by omega
    have hr := hrow _ (getD_memL (d := []) hi2)
    rw [Int.toNat_natCast, fold14 hr, errV_nil, decide_eq_false_iff_not, decide_eq_true_eq]
    rw [drop_getD (d := []) hi2, firstErr] at hf
    refine ⟨fun hb => ?_, fun hg => ⟨(argL ds 12).length - (i + 1), by omega, i + 1, by omega, rfl, ?_, ?_⟩⟩
    · rw [if_pos hb] at hf; rw [hf] at hQ; exact hQ
    · rw [wrap64 (by omega) (by omega)]; rfl
    · rw [if_neg (not_not_intro hg)] at hf; exact hf
  · rw [List.drop_of_length_le (by omega)] at hf
    rw [hf] at hQ; exact hQ)
noncomputable def con_cCheck : Con E0 := ⟨k_cCheck, sg_cCheck, cCheck_s, rfl, bo_cCheck, cCheck_h⟩
end Go.Proofs.Ytiolgkmfjcdbiaa
