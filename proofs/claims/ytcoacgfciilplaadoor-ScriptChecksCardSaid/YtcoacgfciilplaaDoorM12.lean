import Derived.Test.YtcoacgfciilplaaDoorM11

set_option linter.unusedVariables false
set_option linter.unusedSimpArgs false

section
namespace Go.Proofs.YtcoacgfciilplaaDoor
open Go.RowKit
set_option linter.unusedVariables false
set_option linter.unusedSimpArgs false

def formN (k : Int) (o n t l : Bool) : Int :=
  if k < 0 ∨ 7 ≤ k then 6 else
  if (o && !(k == 1 || k == 2 || k == 5)) = true then 2 else if (n && !(k == 2 || k == 6)) = true then 2 else if (t && !(k == 1 || k == 2)) = true then 2 else if (l && !(k == 3 || k == 4)) = true then 2 else 0
def formD (ds : List Dat) : Int := formN (argI ds 0) (argI ds 1 != 0) (argI ds 2 != 0) (argI ds 3 != 0) (decide (0 < ((argL ds 4).length : Int)))
abbrev askL : List Dat := [Dat.int IntKind.u64 0, Dat.int IntKind.u64 5, Dat.int IntKind.u64 7, Dat.int IntKind.u64 8, Dat.int IntKind.u64 8, Dat.int IntKind.u64 1, Dat.int IntKind.u64 2]
theorem upto7 {k : Int} (h : ¬ (k < 0 ∨ 7 ≤ k)) : k = 0 ∨ k = 1 ∨ k = 2 ∨ k = 3 ∨ k = 4 ∨ k = 5 ∨ k = 6 := by omega
theorem ask0 {k : Int} (h : ¬ (k < 0 ∨ 7 ≤ k)) : (Ar.and.of .u64 (Ar.shr.of .u64 (askL.getD k.toNat (Dat.int .u64 0)).toInt 0) 1 == 1) = (k == 1 || k == 2 || k == 5) := by
  rcases upto7 h with rfl | rfl | rfl | rfl | rfl | rfl | rfl <;> decide +kernel
theorem ask1 {k : Int} (h : ¬ (k < 0 ∨ 7 ≤ k)) : (Ar.and.of .u64 (Ar.shr.of .u64 (askL.getD k.toNat (Dat.int .u64 0)).toInt 1) 1 == 1) = (k == 2 || k == 6) := by
  rcases upto7 h with rfl | rfl | rfl | rfl | rfl | rfl | rfl <;> decide +kernel
theorem ask2 {k : Int} (h : ¬ (k < 0 ∨ 7 ≤ k)) : (Ar.and.of .u64 (Ar.shr.of .u64 (askL.getD k.toNat (Dat.int .u64 0)).toInt 2) 1 == 1) = (k == 1 || k == 2) := by
  rcases upto7 h with rfl | rfl | rfl | rfl | rfl | rfl | rfl <;> decide +kernel
theorem ask3 {k : Int} (h : ¬ (k < 0 ∨ 7 ≤ k)) : (Ar.and.of .u64 (Ar.shr.of .u64 (askL.getD k.toNat (Dat.int .u64 0)).toInt 3) 1 == 1) = (k == 3 || k == 4) := by
  rcases upto7 h with rfl | rfl | rfl | rfl | rfl | rfl | rfl <;> decide +kernel
theorem orT {a b : Int} : (decide (a < 0) || decide (b ≤ a)) = true → a < 0 ∨ b ≤ a := by
  rw [Bool.or_eq_true, decide_eq_true_eq, decide_eq_true_eq]; exact id
theorem orF {a b : Int} : (decide (a < 0) || decide (b ≤ a)) = false → ¬ (a < 0 ∨ b ≤ a) := fun h hx => by
  rw [Bool.or_eq_false_iff, decide_eq_false_iff_not, decide_eq_false_iff_not] at h
  exact hx.elim h.1 h.2
theorem bF {b : Bool} (h : b = false) : ¬ b = true := fun hx => by rw [hx] at h; cases h
def k_dForm : Nat := 24
def sg_dForm : Sig := ⟨[(true, List.replicate 4 (.int .i64) ++ [.list 3])], [(false, [.err])], false, true, true, false, false⟩
def tr_dForm : Tree := (.ite (.or (.cmp .lt (.var 0) (.int .i64 0)) (.cmp .ge (.var 0) (.int .i64 7)))
 (.ret [(.ifc (.int .i64 6))])
 (.ite (.and (.cmp .ne (.var 1) (.int .i64 0)) (.not (.cmp .eq (.ar .and .u64 (.ar .shr .u64 (.sel (.econs (.int .u64 0) (.econs (.int .u64 5) (.econs (.int .u64 7) (.econs (.int .u64 8) (.econs (.int .u64 8) (.econs (.int .u64 1) (.econs (.int .u64 2) .enil))))))) (.var 0) (.int .u64)) (.int .u64 0)) (.int .u64 1)) (.int .u64 1))))
  (.ret [(.ifc (.int .i64 2))])
  (.ite (.and (.cmp .ne (.var 2) (.int .i64 0)) (.not (.cmp .eq (.ar .and .u64 (.ar .shr .u64 (.sel (.econs (.int .u64 0) (.econs (.int .u64 5) (.econs (.int .u64 7) (.econs (.int .u64 8) (.econs (.int .u64 8) (.econs (.int .u64 1) (.econs (.int .u64 2) .enil))))))) (.var 0) (.int .u64)) (.int .u64 1)) (.int .u64 1)) (.int .u64 1))))
   (.ret [(.ifc (.int .i64 2))])
   (.ite (.and (.cmp .ne (.var 3) (.int .i64 0)) (.not (.cmp .eq (.ar .and .u64 (.ar .shr .u64 (.sel (.econs (.int .u64 0) (.econs (.int .u64 5) (.econs (.int .u64 7) (.econs (.int .u64 8) (.econs (.int .u64 8) (.econs (.int .u64 1) (.econs (.int .u64 2) .enil))))))) (.var 0) (.int .u64)) (.int .u64 2)) (.int .u64 1)) (.int .u64 1))))
    (.ret [(.ifc (.int .i64 2))])
    (.ite (.and (.cmp .gt (.len (.var 4)) (.int .i64 0)) (.not (.cmp .eq (.ar .and .u64 (.ar .shr .u64 (.sel (.econs (.int .u64 0) (.econs (.int .u64 5) (.econs (.int .u64 7) (.econs (.int .u64 8) (.econs (.int .u64 8) (.econs (.int .u64 1) (.econs (.int .u64 2) .enil))))))) (.var 0) (.int .u64)) (.int .u64 3)) (.int .u64 1)) (.int .u64 1))))
     (.ret [(.ifc (.int .i64 2))])
     (.ret [.nili]))))))
theorem wk_dForm : walk E0.cx (sgsN []) 0 24 sg_dForm = tr_dForm := by kernel_rfl
theorem bo_dForm : ∃ x, bodyOf E0.P 24 = some x := bo_of (by kernel_rfl)
def dForm_s : Spec := fun ds Q => Q [errV (formD ds)]
theorem dForm_h : Holds E0 k_dForm sg_dForm dForm_s := con_fn wf0 mix0 g0 [] rfl wk_dForm rfl (by
  intro Φ hΦ ds Q hs h
  have hl : ds.length = 5 := hs.length.symm
  have h : Q [errV (formD ds)] := h
  clear hΦ
  simp only [tr_dForm, wp, den_int, den_bool, den_nili, den_ar, den_cmp, den_not, den_len, den_elem, den_isnil, den_errI, den_ifc, den_rep, den_push, den_app, den_emp, den_upd, row0_econs, row0_enil, den_and, den_beq, den_nil, toInt_int, toBool_bool, xs_rows, xs_list, dflt_int, dflt_bool, of_eq, of_ne, of_lt, of_le, of_gt, of_ge, of_add, of_sub, of_rem, List.map_cons, List.map_nil, Dat.bool.injEq, decide_eq_true_eq, decide_eq_false_iff_not, Bool.not_eq_true', Bool.not_eq_false', beq_iff_eq, bne_iff_ne, beq_eq_false_iff_ne, bne_eq_false_iff_eq, ne_eq, List.append_assoc, List.cons_append, List.nil_append, allS, @den_var0 E0.Δ ds, den_varA, den_varB, hl, Nat.reduceLT, Nat.reduceLeDiff, Nat.reduceSub, List.getD_cons_zero, List.getD_cons_succ, argL_fold ds, argI_fold ds, List.append_assoc, List.cons_append, List.nil_append, toInt_int, toBool_bool, xs_rows, xs_list, Int.toNat_natCast, Dat.bool.injEq, den_or, den_sel, row0_econs, row0_enil, den_elem, den_len, @den_var0 E0.Δ ds, den_varA, den_varB, hl, Nat.reduceLT, Nat.reduceLeDiff, Nat.reduceSub, List.getD_cons_zero, List.getD_cons_succ, argL_fold ds, argI_fold ds, List.append_assoc, List.cons_append, List.nil_append, toInt_int, toBool_bool, xs_rows, xs_list, Int.toNat_natCast, Dat.bool.injEq]
  unfold formD formN at h
  refine ⟨fun hb => ?_, fun hb => ?_⟩
  · rw [if_pos (orT hb)] at h; exact h
  have hk := orF hb
  clear hb
  rw [if_neg hk] at h
  simp only [ask0 hk, ask1 hk, ask2 hk, ask3 hk]
  refine ⟨fun h0 => ?_, fun h0 => ⟨fun h1 => ?_, fun h1 => ⟨fun h2 => ?_, fun h2 => ⟨fun h3 => ?_, fun h3 => ?_⟩⟩⟩⟩
  · rw [if_pos h0] at h; exact h
  · rw [if_neg (bF h0), if_pos h1] at h; exact h
  · rw [if_neg (bF h0), if_neg (bF h1), if_pos h2] at h; exact h
  · rw [if_neg (bF h0), if_neg (bF h1), if_neg (bF h2), if_pos h3] at h; exact h
  · rw [if_neg (bF h0), if_neg (bF h1), if_neg (bF h2), if_neg (bF h3)] at h; exact h)
noncomputable def con_dForm : Con E0 := ⟨k_dForm, sg_dForm, dForm_s, rfl, bo_dForm, dForm_h⟩
def k_rForm26 : Nat := 25
def sg_rForm26 : Sig := ⟨[(true, List.replicate 4 (.int .i64) ++ [.list 3])], [(false, [.int .i64])], false, false, true, false, false⟩
def tr_rForm26 : Tree := (.ite (.or (.cmp .lt (.var 0) (.int .i64 0)) (.cmp .gt (.var 0) (.int .i64 6)))
 (.ret [(.int .i64 6)])
 (.ite (.ite (.cmp .ne (.var 1) (.int .i64 0)) (.ite (.cmp .ne (.var 0) (.int .i64 1)) (.ite (.cmp .ne (.var 0) (.int .i64 2)) (.or (.cmp .ne (.var 0) (.int .i64 5)) (.or (.cmp .ne (.var 2) (.int .i64 0)) (.or (.cmp .ne (.var 3) (.int .i64 0)) (.and (.cmp .gt (.len (.var 4)) (.int .i64 0)) (.cmp .ne (.var 0) (.int .i64 4)))))) (.and (.cmp .gt (.len (.var 4)) (.int .i64 0)) (.cmp .ne (.var 0) (.int .i64 4)))) (.or (.cmp .ne (.var 2) (.int .i64 0)) (.and (.cmp .gt (.len (.var 4)) (.int .i64 0)) (.cmp .ne (.var 0) (.int .i64 4))))) (.ite (.cmp .ne (.var 2) (.int .i64 0)) (.ite (.cmp .ne (.var 0) (.int .i64 2)) (.or (.cmp .ne (.var 0) (.int .i64 6)) (.or (.cmp .ne (.var 3) (.int .i64 0)) (.and (.cmp .gt (.len (.var 4)) (.int .i64 0)) (.cmp .ne (.var 0) (.int .i64 4))))) (.and (.cmp .gt (.len (.var 4)) (.int .i64 0)) (.cmp .ne (.var 0) (.int .i64 4)))) (.ite (.cmp .ne (.var 3) (.int .i64 0)) (.ite (.cmp .ne (.var 0) (.int .i64 1)) (.or (.cmp .ne (.var 0) (.int .i64 2)) (.and (.cmp .gt (.len (.var 4)) (.int .i64 0)) (.cmp .ne (.var 0) (.int .i64 4)))) (.and (.cmp .gt (.len (.var 4)) (.int .i64 0)) (.cmp .ne (.var 0) (.int .i64 4)))) (.and (.cmp .gt (.len (.var 4)) (.int .i64 0)) (.and (.cmp .ne (.var 0) (.int .i64 3)) (.cmp .ne (.var 0) (.int .i64 4)))))))
  (.ret [(.int .i64 2)])
  (.ret [(.int .i64 0)])))
theorem wk_rForm26 : walk E0.cx (sgsN []) 0 25 sg_rForm26 = tr_rForm26 := by kernel_rfl
theorem bo_rForm26 : ∃ x, bodyOf E0.P 25 = some x := bo_of (by kernel_rfl)
def rForm26_s : Spec := fun ds Q => Q [.int .i64 (formD ds)]
theorem rForm26_h : Holds E0 k_rForm26 sg_rForm26 rForm26_s := con_fn wf0 mix0 g0 [] rfl wk_rForm26 rfl (by
  intro Φ hΦ ds Q hs h
  have hl : ds.length = 5 := hs.length.symm
  have h : Q [.int .i64 (formD ds)] := h
  clear hΦ
  simp only [tr_rForm26, wp, den_int, den_bool, den_nili, den_ar, den_cmp, den_not, den_len, den_elem, den_isnil, den_errI, den_ifc, den_rep, den_push, den_app, den_emp, den_upd, row0_econs, row0_enil, den_and, den_beq, den_nil, toInt_int, toBool_bool, xs_rows, xs_list, dflt_int, dflt_bool, of_eq, of_ne, of_lt, of_le, of_gt, of_ge, of_add, of_sub, of_rem, List.map_cons, List.map_nil, Dat.bool.injEq, decide_eq_true_eq, decide_eq_false_iff_not, Bool.not_eq_true', Bool.not_eq_false', beq_iff_eq, bne_iff_ne, beq_eq_false_iff_ne, bne_eq_false_iff_eq, ne_eq, List.append_assoc, List.cons_append, List.nil_append, allS, @den_var0 E0.Δ ds, den_varA, den_varB, hl, Nat.reduceLT, Nat.reduceLeDiff, Nat.reduceSub, List.getD_cons_zero, List.getD_cons_succ, argL_fold ds, argI_fold ds, List.append_assoc, List.cons_append, List.nil_append, toInt_int, toBool_bool, xs_rows, xs_list, Int.toNat_natCast, Dat.bool.injEq, den_or, den_ite]
  unfold formD formN at h
  refine ⟨fun hb => ?_, fun hb => ?_⟩
  · rw [Bool.or_eq_true, decide_eq_true_eq, decide_eq_true_eq] at hb
    rw [if_pos (by omega)] at h; exact h
  rw [Bool.or_eq_false_iff, decide_eq_false_iff_not, decide_eq_false_iff_not] at hb
  have hk : ¬ (argI ds 0 < 0 ∨ 7 ≤ argI ds 0) := by omega
  clear hb
  rw [if_neg hk] at h
  generalize argI ds 0 = k at *
  have n1 : (argI ds 1 != 0) = !decide (argI ds 1 = 0) := rfl
  have n2 : (argI ds 2 != 0) = !decide (argI ds 2 = 0) := rfl
  have n3 : (argI ds 3 != 0) = !decide (argI ds 3 = 0) := rfl
  rw [n1, n2, n3] at h
  simp only [n2, n3]
  generalize decide (0 < ((argL ds 4).length : Int)) = l at *
  generalize argI ds 1 = x1 at *
  generalize argI ds 2 = x2 at *
  generalize argI ds 3 = x3 at *
  clear n1 n2 n3 hs hl
  rcases upto7 hk with rfl | rfl | rfl | rfl | rfl | rfl | rfl <;> clear hk <;> by_cases h1 : x1 = 0 <;> by_cases h2 : x2 = 0 <;> by_cases h3 : x3 = 0 <;> cases l <;> simp only [h1, h2, h3, decide_true, decide_false, Bool.not_true, Bool.not_false, Bool.and_false, Bool.false_and, Bool.true_and, Bool.false_or, Bool.true_or, Bool.or_false, not_true, not_false_iff, if_true, if_false, ite_true, ite_false] at h ⊢ <;> refine ⟨fun hx => ?_, fun hx => ?_⟩ <;> first | exact h | cases hx)
noncomputable def con_rForm26 : Con E0 := ⟨k_rForm26, sg_rForm26, rForm26_s, rfl, bo_rForm26, rForm26_h⟩
end Go.Proofs.YtcoacgfciilplaaDoor
end

section
namespace Go.Proofs.YtcoacgfciilplaaDoor
open Go.RowKit
set_option linter.unusedVariables false
set_option linter.unusedSimpArgs false

def firstE (f : List Dat → Int) : List (List Dat) → Int
  | [] => 0
  | a :: r => if f a = 0 then firstE f r else f a
theorem firstE_at (f : List Dat → Int) : ∀ {l : List (List Dat)} {k : Nat}, k < l.length → (∀ j, j < k → f (l.getD j []) = 0) → f (l.getD k []) ≠ 0 → firstE f l = f (l.getD k [])
  | [], k, h, _, _ => absurd h (Nat.not_lt_zero k)
  | a :: r, 0, h, _, hn => if_neg hn
  | a :: r, k + 1, h, h0, hn => by
    have h1 : f a = 0 := h0 0 (Nat.succ_pos k)
    show (if f a = 0 then firstE f r else f a) = _
    rw [if_pos h1]
    exact firstE_at f (Nat.lt_of_succ_lt_succ h) (fun j hj => h0 (j + 1) (Nat.succ_lt_succ hj)) hn
theorem firstE_0 (f : List Dat → Int) : ∀ {l : List (List Dat)}, (∀ j, j < l.length → f (l.getD j []) = 0) → firstE f l = 0
  | [], _ => rfl
  | a :: r, h => by
    show (if f a = 0 then firstE f r else f a) = _
    have h1 : f a = 0 := h 0 (Nat.succ_pos _)
    rw [if_pos h1]
    exact firstE_0 f fun j hj => h (j + 1) (Nat.succ_lt_succ hj)
theorem firstE_ne (f : List Dat → Int) {l : List (List Dat)} (h : firstE f l = 0) : ∀ j, j < l.length → f (l.getD j []) = 0 := by
  induction l with
  | nil => intro j hj; exact absurd hj (Nat.not_lt_zero j)
  | cons a r ih =>
    have h : (if f a = 0 then firstE f r else f a) = 0 := h
    by_cases ha : f a = 0
    · rw [if_pos ha] at h
      intro j hj
      match j with
      | 0 => exact ha
      | j + 1 => exact ih h j (Nat.lt_of_succ_lt_succ hj)
    · rw [if_neg ha] at h; exact absurd h ha
def decE (r : List Dat) : Int := formN (rowI r 0) (rowI r 1 != 0) (rowI r 2 != 0) (rowI r 3 != 0) (decide (0 < ((dLst r).length : Int)))
theorem formD_row (r : List Dat) : formD [r.getD 0 (.int .i64 0), r.getD 1 (.int .i64 0), r.getD 2 (.int .i64 0), r.getD 3 (.int .i64 0), r.getD 4 (dflt E0.Δ (.list 3))] = decE r := by
  unfold decE dLst
  rw [← getD_xs r 4 3]; rfl
abbrev opNum : List Dat := [Dat.int .i64 0, Dat.int .i64 1, Dat.int .i64 1, Dat.int .i64 2, Dat.int .i64 2, Dat.int .i64 2, Dat.int .i64 0, Dat.int .i64 2, Dat.int .i64 0]
abbrev opFrom : List Dat := [Dat.int .i64 1, Dat.int .i64 0, Dat.int .i64 0, Dat.int .i64 0, Dat.int .i64 1, Dat.int .i64 0, Dat.int .i64 1, Dat.int .i64 0, Dat.int .i64 0]
abbrev opTo : List Dat := [Dat.int .i64 1, Dat.int .i64 0, Dat.int .i64 0, Dat.int .i64 0, Dat.int .i64 16, Dat.int .i64 0, Dat.int .i64 5, Dat.int .i64 0, Dat.int .i64 0]
theorem upto9 {k : Int} (h : ¬ (k < 0 ∨ 9 ≤ k)) : k = 0 ∨ k = 1 ∨ k = 2 ∨ k = 3 ∨ k = 4 ∨ k = 5 ∨ k = 6 ∨ k = 7 ∨ k = 8 := by omega
theorem opTo_16 {k : Int} (h : ¬ (k < 0 ∨ 9 ≤ k)) : (opTo.getD k.toNat (.int .i64 0)).toInt ≤ 16 := by
  rcases upto9 h with rfl | rfl | rfl | rfl | rfl | rfl | rfl | rfl | rfl <;> decide
def opBad (k a b : Int) (n : Nat) : Bool :=
  (if (opNum.getD k.toNat (.int .i64 0)).toInt < 1 then (a != 0 || b != 0) else decide ((opNum.getD k.toNat (.int .i64 0)).toInt < 2) && b != 0) ||
  (decide ((n : Int) < (opFrom.getD k.toNat (.int .i64 0)).toInt) || decide ((opTo.getD k.toNat (.int .i64 0)).toInt < (n : Int)))
def opE (k a b : Int) (l : List (List Dat)) : Int := if k < 0 ∨ 9 ≤ k then 6 else if opBad k a b l.length = true then 2 else firstE decE l
def opD (ds : List Dat) : Int := opE (argI ds 0) (argI ds 1) (argI ds 2) (argL ds 3)
def k_sCheckOp : Nat := 11
def sg_sCheckOp : Sig := ⟨[(true, [.int .i64, .int .i64, .int .i64] ++ [.list 55])], [(false, [.err])], false, false, true, false, false⟩
def tr_sCheckOp : Tree := (.ite (.or (.cmp .lt (.var 0) (.int .i64 0)) (.cmp .ge (.var 0) (.int .i64 9)))
 (.ret [(.ifc (.int .i64 6))])
 (.ite (.ite (.cmp .lt (.sel (.econs (.int .i64 0) (.econs (.int .i64 1) (.econs (.int .i64 1) (.econs (.int .i64 2) (.econs (.int .i64 2) (.econs (.int .i64 2) (.econs (.int .i64 0) (.econs (.int .i64 2) (.econs (.int .i64 0) .enil))))))))) (.var 0) (.int .i64)) (.int .i64 1)) (.or (.cmp .ne (.var 1) (.int .i64 0)) (.cmp .ne (.var 2) (.int .i64 0))) (.and (.cmp .lt (.sel (.econs (.int .i64 0) (.econs (.int .i64 1) (.econs (.int .i64 1) (.econs (.int .i64 2) (.econs (.int .i64 2) (.econs (.int .i64 2) (.econs (.int .i64 0) (.econs (.int .i64 2) (.econs (.int .i64 0) .enil))))))))) (.var 0) (.int .i64)) (.int .i64 2)) (.cmp .ne (.var 2) (.int .i64 0))))
  (.ret [(.ifc (.int .i64 2))])
  (.ite (.or (.cmp .lt (.len (.var 3)) (.sel (.econs (.int .i64 1) (.econs (.int .i64 0) (.econs (.int .i64 0) (.econs (.int .i64 0) (.econs (.int .i64 1) (.econs (.int .i64 0) (.econs (.int .i64 1) (.econs (.int .i64 0) (.econs (.int .i64 0) .enil))))))))) (.var 0) (.int .i64))) (.cmp .gt (.len (.var 3)) (.sel (.econs (.int .i64 1) (.econs (.int .i64 0) (.econs (.int .i64 0) (.econs (.int .i64 0) (.econs (.int .i64 16) (.econs (.int .i64 0) (.econs (.int .i64 5) (.econs (.int .i64 0) (.econs (.int .i64 0) .enil))))))))) (.var 0) (.int .i64))))
   (.ret [(.ifc (.int .i64 2))])
   (.loop [.nili, (.int .i64 0)] [.err, (.int .i64)]
    (.ite (.cmp .lt (.var 5) (.len (.var 3)))
     (.ob (.cmp .ge (.var 5) (.int .i64 0))
     (.call k_dForm [(.elem (.var 3) (.var 5) 0 (.int .i64)), (.elem (.var 3) (.var 5) 1 (.int .i64)), (.elem (.var 3) (.var 5) 2 (.int .i64)), (.elem (.var 3) (.var 5) 3 (.int .i64)), (.elem (.var 3) (.var 5) 4 (.list 3))] [.err]
     (.ite (.not (.isnil (.var 6)))
      (.ret [(.var 6)])
      (.again 0 [(.var 4), (.ar .add .i64 (.var 5) (.int .i64 1))]))))
     (.ret [.nili]))))))
theorem wk_sCheckOp : walk E0.cx (sgsN [(24, sg_dForm)]) 0 11 sg_sCheckOp = tr_sCheckOp := by kernel_rfl
theorem bo_sCheckOp : ∃ x, bodyOf E0.P 11 = some x := bo_of (by kernel_rfl)
theorem sp_sCheckOp_dForm : specC [con_dForm] k_dForm = dForm_s := rfl
def sCheckOp_s : Spec := fun ds Q => Q [errV (opD ds)]
theorem sCheckOp_h : Holds E0 k_sCheckOp sg_sCheckOp sCheckOp_s := con_fn wf0 mix0 g0 [con_dForm] rfl wk_sCheckOp rfl (by
  intro Φ hΦ ds Q hs h
  have hl : ds.length = 4 := hs.length.symm
  have s1 : Φ k_dForm = dForm_s := by rw [hΦ]; rfl
  have h : Q [errV (opD ds)] := h
  clear hΦ
  simp only [tr_sCheckOp, wp, den_int, den_bool, den_nili, den_ar, den_cmp, den_not, den_len, den_elem, den_isnil, den_errI, den_ifc, den_rep, den_push, den_app, den_emp, den_upd, row0_econs, row0_enil, den_and, den_beq, den_nil, toInt_int, toBool_bool, xs_rows, xs_list, dflt_int, dflt_bool, of_eq, of_ne, of_lt, of_le, of_gt, of_ge, of_add, of_sub, of_rem, List.map_cons, List.map_nil, Dat.bool.injEq, decide_eq_true_eq, decide_eq_false_iff_not, Bool.not_eq_true', Bool.not_eq_false', beq_iff_eq, bne_iff_ne, beq_eq_false_iff_ne, bne_eq_false_iff_eq, ne_eq, List.append_assoc, List.cons_append, List.nil_append, allS, s1, dForm_s, @den_var0 E0.Δ ds, den_varA, den_varB, hl, Nat.reduceLT, Nat.reduceLeDiff, Nat.reduceSub, List.getD_cons_zero, List.getD_cons_succ, argL_fold ds, argI_fold ds, List.append_assoc, List.cons_append, List.nil_append, toInt_int, toBool_bool, xs_rows, xs_list, Int.toNat_natCast, Dat.bool.injEq, den_or, den_ite, den_sel, row0_econs, row0_enil, den_elem, den_len, @den_var0 E0.Δ ds, den_varA, den_varB, hl, Nat.reduceLT, Nat.reduceLeDiff, Nat.reduceSub, List.getD_cons_zero, List.getD_cons_succ, argL_fold ds, argI_fold ds, List.append_assoc, List.cons_append, List.nil_append, toInt_int, toBool_bool, xs_rows, xs_list, Int.toNat_natCast, Dat.bool.injEq, ite_datb, Dat.bool.injEq, formD_row, errV_nil]
  unfold opD opE at h
  refine ⟨fun hb => ?_, fun hb => ?_⟩
  · rw [if_pos (orT hb)] at h; exact h
  have hk := orF hb
  rw [if_neg hk] at h
  refine ⟨fun h1 => ?_, fun h1 => ⟨fun h2 => ?_, fun h2 => ?_⟩⟩
  · rw [if_pos (by unfold opBad; rw [h1]; rfl)] at h; exact h
  · rw [if_pos (by unfold opBad; rw [h2, Bool.or_true])] at h; exact h
  have hn : (argL ds 3).length ≤ 16 := by
    rw [Bool.or_eq_false_iff, decide_eq_false_iff_not, decide_eq_false_iff_not] at h2
    have h3 := h2.2
    have h4 := opTo_16 hk
    unfold opTo at h4
    omega
  rw [if_neg (by unfold opBad; rw [h1, h2]; exact Bool.false_ne_true)] at h
  clear h1 h2 hb
  generalize argL ds 3 = l at *
  refine ⟨fun xs m => ∃ (d : Dat) (i : Nat), i ≤ l.length ∧ m = l.length - i ∧ xs = [d, .int .i64 i] ∧ ∀ k, k < i → decE (l.getD k []) = 0, ⟨_, _, 0, by omega, rfl, rfl, fun k hk => absurd hk (by omega)⟩, ?_⟩
  rintro d hd n m ⟨_, i, hi, hm, e, hall⟩
  cases e
  refine ⟨fun hlt => ⟨by omega, ?_, ?_⟩, fun hge => ?_⟩
  · intro hne
    rw [Int.toNat_natCast] at hne ⊢
    rw [firstE_at decE (by omega) hall hne] at h
    exact h
  · intro he
    rw [Int.toNat_natCast] at he
    refine ⟨_, (by omega : l.length - (i + 1) < _), d, i + 1, by omega, rfl, by rw [wrap64 (by omega) (by omega)]; rfl, fun k hk => ?_⟩
    rcases Nat.lt_succ_iff_lt_or_eq.1 hk with hk | rfl
    · exact hall k hk
    · exact he
  · rw [firstE_0 decE fun j hj => hall j (by omega)] at h
    exact h)
noncomputable def con_sCheckOp : Con E0 := ⟨k_sCheckOp, sg_sCheckOp, sCheckOp_s, rfl, bo_sCheckOp, sCheckOp_h⟩
def k_rCheckOp : Nat := 12
def sg_rCheckOp : Sig := ⟨[(true, [.int .i64, .int .i64, .int .i64] ++ [.list 55])], [(false, [.int .i64])], false, false, true, false, false⟩
def tr_rCheckOp_1 : Tree := (.loop [(.int .i64 0), (.int .i64 0)] [(.int .i64), (.int .i64)] (.ite (.cmp .lt (.var 5) (.len (.var 3))) (.ob (.cmp .ge (.var 5) (.int .i64 0)) (.call k_rForm26 [(.elem (.var 3) (.var 5) 0 (.int .i64)), (.elem (.var 3) (.var 5) 1 (.int .i64)), (.elem (.var 3) (.var 5) 2 (.int .i64)), (.elem (.var 3) (.var 5) 3 (.int .i64)), (.elem (.var 3) (.var 5) 4 (.list 3))] [(.int .i64)] (.ite (.cmp .ne (.var 6) (.int .i64 0)) (.ret [(.var 6)]) (.again 0 [(.var 4), (.ar .add .i64 (.var 5) (.int .i64 1))])))) (.ret [(.int .i64 0)])))
def tr_rCheckOp : Tree := (.ite (.cmp .eq (.var 0) (.int .i64 0)) (.ite (.not (.and (.cmp .eq (.var 1) (.int .i64 0)) (.and (.cmp .eq (.var 2) (.int .i64 0)) (.cmp .eq (.len (.var 3)) (.int .i64 1))))) (.ret [(.int .i64 2)]) tr_rCheckOp_1) (.ite (.or (.cmp .eq (.var 0) (.int .i64 1)) (.cmp .eq (.var 0) (.int .i64 2))) (.ite (.not (.and (.cmp .eq (.var 2) (.int .i64 0)) (.cmp .eq (.len (.var 3)) (.int .i64 0)))) (.ret [(.int .i64 2)]) tr_rCheckOp_1) (.ite (.or (.cmp .eq (.var 0) (.int .i64 3)) (.or (.cmp .eq (.var 0) (.int .i64 5)) (.cmp .eq (.var 0) (.int .i64 7)))) (.ite (.not (.cmp .eq (.len (.var 3)) (.int .i64 0))) (.ret [(.int .i64 2)]) tr_rCheckOp_1) (.ite (.cmp .eq (.var 0) (.int .i64 4)) (.ite (.not (.and (.cmp .ge (.len (.var 3)) (.int .i64 1)) (.cmp .le (.len (.var 3)) (.int .i64 16)))) (.ret [(.int .i64 2)]) tr_rCheckOp_1) (.ite (.cmp .eq (.var 0) (.int .i64 6)) (.ite (.not (.and (.cmp .eq (.var 1) (.int .i64 0)) (.and (.cmp .eq (.var 2) (.int .i64 0)) (.and (.cmp .ge (.len (.var 3)) (.int .i64 1)) (.cmp .le (.len (.var 3)) (.int .i64 5)))))) (.ret [(.int .i64 2)]) tr_rCheckOp_1) (.ite (.cmp .eq (.var 0) (.int .i64 8)) (.ite (.not (.and (.cmp .eq (.var 1) (.int .i64 0)) (.and (.cmp .eq (.var 2) (.int .i64 0)) (.cmp .eq (.len (.var 3)) (.int .i64 0))))) (.ret [(.int .i64 2)]) tr_rCheckOp_1) (.ret [(.int .i64 6)])))))))
theorem wk_rCheckOp : walk E0.cx (sgsN [(25, sg_rForm26)]) 0 12 sg_rCheckOp = tr_rCheckOp := by kernel_rfl
theorem bo_rCheckOp : ∃ x, bodyOf E0.P 12 = some x := bo_of (by kernel_rfl)
theorem sp_rCheckOp_rForm26 : specC [con_rForm26] k_rForm26 = rForm26_s := rfl
def rCheckOp_s : Spec := fun ds Q => Q [.int .i64 (opD ds)]
theorem rCheckOp_1 {Φ : Nat → Spec} (s1 : Φ k_rForm26 = rForm26_s) {ds : List Dat} (hl : ds.length = 4) {Q : List Dat → Prop} (hn : (argL ds 3).length ≤ 16) (h : Q [.int .i64 (firstE decE (argL ds 3))]) : wp E0.Δ Φ Q tr_rCheckOp_1 ds [] := by
  simp only [tr_rCheckOp_1, wp, den_int, den_bool, den_nili, den_ar, den_cmp, den_not, den_len, den_elem, den_isnil, den_errI, den_ifc, den_rep, den_push, den_app, den_emp, den_upd, row0_econs, row0_enil, den_and, den_beq, den_nil, toInt_int, toBool_bool, xs_rows, xs_list, dflt_int, dflt_bool, of_eq, of_ne, of_lt, of_le, of_gt, of_ge, of_add, of_sub, of_rem, List.map_cons, List.map_nil, Dat.bool.injEq, decide_eq_true_eq, decide_eq_false_iff_not, Bool.not_eq_true', Bool.not_eq_false', beq_iff_eq, bne_iff_ne, beq_eq_false_iff_ne, bne_eq_false_iff_eq, ne_eq, List.append_assoc, List.cons_append, List.nil_append, allS, s1, rForm26_s, @den_var0 E0.Δ ds, den_varA, den_varB, hl, Nat.reduceLT, Nat.reduceLeDiff, Nat.reduceSub, List.getD_cons_zero, List.getD_cons_succ, argL_fold ds, argI_fold ds, List.append_assoc, List.cons_append, List.nil_append, toInt_int, toBool_bool, xs_rows, xs_list, Int.toNat_natCast, Dat.bool.injEq, formD_row]
  generalize argL ds 3 = l at *
  refine ⟨fun xs m => ∃ (d : Int) (i : Nat), i ≤ l.length ∧ m = l.length - i ∧ xs = [.int .i64 d, .int .i64 i] ∧ ∀ k, k < i → decE (l.getD k []) = 0, ⟨_, _, 0, by omega, rfl, rfl, fun k hk => absurd hk (by omega)⟩, ?_⟩
  rintro d n m ⟨_, i, hi, hm, e, hall⟩
  cases e
  refine ⟨fun hlt => ⟨by omega, ?_, ?_⟩, fun hge => ?_⟩
  · intro hne
    rw [Int.toNat_natCast] at hne ⊢
    rw [firstE_at decE (by omega) hall hne] at h
    exact h
  · intro he
    rw [Int.toNat_natCast] at he
    refine ⟨_, (by omega : l.length - (i + 1) < _), d, i + 1, by omega, rfl, by rw [wrap64 (by omega) (by omega)]; rfl, fun k hk => ?_⟩
    rcases Nat.lt_succ_iff_lt_or_eq.1 hk with hk | rfl
    · exact hall k hk
    · exact he
  · rw [firstE_0 decE fun j hj => hall j (by omega)] at h
    exact h
def opOk (k a b : Int) (n : Nat) : Bool :=
  if k = 0 then (a == 0 && (b == 0 && (n : Int) == 1)) else if (k == 1 || k == 2) = true then (b == 0 && (n : Int) == 0) else if (k == 3 || (k == 5 || k == 7)) = true then (n : Int) == 0 else
  if k = 4 then (decide (1 ≤ (n : Int)) && decide ((n : Int) ≤ 16)) else if k = 6 then (a == 0 && (b == 0 && (decide (1 ≤ (n : Int)) && decide ((n : Int) ≤ 5)))) else (a == 0 && (b == 0 && (n : Int) == 0))
theorem opOk_bad {k a b : Int} {n : Nat} (h : ¬ (k < 0 ∨ 9 ≤ k)) : opBad k a b n = !opOk k a b n := by
  rw [Bool.eq_iff_iff]
  rcases upto9 h with rfl | rfl | rfl | rfl | rfl | rfl | rfl | rfl | rfl <;> simp [opBad, opOk, Dat.toInt] <;> omega
theorem opOk_16 {k a b : Int} {n : Nat} (h : ¬ (k < 0 ∨ 9 ≤ k)) (ho : opOk k a b n = true) : n ≤ 16 := by
  rcases upto9 h with rfl | rfl | rfl | rfl | rfl | rfl | rfl | rfl | rfl <;> simp [opOk] at ho <;> omega
theorem rCheckOp_h : Holds E0 k_rCheckOp sg_rCheckOp rCheckOp_s := con_fn wf0 mix0 g0 [con_rForm26] rfl wk_rCheckOp rfl (by
  intro Φ hΦ ds Q hs h
  have hl : ds.length = 4 := hs.length.symm
  have s1 : Φ k_rForm26 = rForm26_s := by rw [hΦ]; rfl
  have h : Q [.int .i64 (opD ds)] := h
  clear hΦ
  unfold opD opE at h
  have good : ¬ (argI ds 0 < 0 ∨ 9 ≤ argI ds 0) → opOk (argI ds 0) (argI ds 1) (argI ds 2) (argL ds 3).length = true → wp E0.Δ Φ Q tr_rCheckOp_1 ds [] := fun hk ho =>
    rCheckOp_1 s1 hl (opOk_16 hk ho) (by rw [if_neg hk, opOk_bad hk, ho, if_neg (by decide)] at h; exact h)
  have bad : ¬ (argI ds 0 < 0 ∨ 9 ≤ argI ds 0) → opOk (argI ds 0) (argI ds 1) (argI ds 2) (argL ds 3).length = false → Q [.int .i64 2] := fun hk ho => by
    rw [if_neg hk, opOk_bad hk, ho, if_pos (by decide)] at h; exact h
  have none : (argI ds 0 < 0 ∨ 9 ≤ argI ds 0) → Q [.int .i64 6] := fun hk => by rw [if_pos hk] at h; exact h
  clear h
  simp only [tr_rCheckOp, wp, den_int, den_bool, den_nili, den_ar, den_cmp, den_not, den_len, den_elem, den_isnil, den_errI, den_ifc, den_rep, den_push, den_app, den_emp, den_upd, row0_econs, row0_enil, den_and, den_beq, den_nil, toInt_int, toBool_bool, xs_rows, xs_list, dflt_int, dflt_bool, of_eq, of_ne, of_lt, of_le, of_gt, of_ge, of_add, of_sub, of_rem, List.map_cons, List.map_nil, Dat.bool.injEq, decide_eq_true_eq, decide_eq_false_iff_not, Bool.not_eq_true', Bool.not_eq_false', beq_iff_eq, bne_iff_ne, beq_eq_false_iff_ne, bne_eq_false_iff_eq, ne_eq, List.append_assoc, List.cons_append, List.nil_append, allS, @den_var0 E0.Δ ds, den_varA, den_varB, hl, Nat.reduceLT, Nat.reduceLeDiff, Nat.reduceSub, List.getD_cons_zero, List.getD_cons_succ, argL_fold ds, argI_fold ds, List.append_assoc, List.cons_append, List.nil_append, toInt_int, toBool_bool, xs_rows, xs_list, Int.toNat_natCast, Dat.bool.injEq, den_or]
  unfold opOk at good bad
  generalize argI ds 0 = k at *
  have k1 : ((k == 1 || k == 2) = true) ↔ (k = 1 ∨ k = 2) := by simp
  have k3 : ((k == 3 || (k == 5 || k == 7)) = true) ↔ (k = 3 ∨ k = 5 ∨ k = 7) := by simp
  refine ⟨fun e0 => ⟨fun c => bad (by omega) (by rw [if_pos e0]; exact c), fun c => good (by omega) (by rw [if_pos e0]; exact c)⟩, fun e0 => ⟨fun e1 => ?_, fun e1 => ⟨fun e3 => ?_, fun e3 => ⟨fun e4 => ⟨fun c => bad (by omega) ?_, fun c => good (by omega) ?_⟩, fun e4 => ⟨fun e6 => ⟨fun c => bad (by omega) ?_, fun c => good (by omega) ?_⟩, fun e6 => ⟨fun e8 => ⟨fun c => bad (by omega) ?_, fun c => good (by omega) ?_⟩, fun e8 => none ?_⟩⟩⟩⟩⟩⟩
  · have := k1.1 e1
    exact ⟨fun c => bad (by omega) (by rw [if_neg e0, if_pos e1]; exact c), fun c => good (by omega) (by rw [if_neg e0, if_pos e1]; exact c)⟩
  · have := k3.1 e3
    exact ⟨fun c => bad (by omega) (by rw [if_neg e0, if_neg (bF e1), if_pos e3]; exact beq_eq_false_iff_ne.2 c), fun c => good (by omega) (by rw [if_neg e0, if_neg (bF e1), if_pos e3]; exact beq_iff_eq.2 c)⟩
  · rw [if_neg e0, if_neg (bF e1), if_neg (bF e3), if_pos e4]; exact c
  · rw [if_neg e0, if_neg (bF e1), if_neg (bF e3), if_pos e4]; exact c
  · rw [if_neg e0, if_neg (bF e1), if_neg (bF e3), if_neg e4, if_pos e6]; exact c
  · rw [if_neg e0, if_neg (bF e1), if_neg (bF e3), if_neg e4, if_pos e6]; exact c
  · rw [if_neg e0, if_neg (bF e1), if_neg (bF e3), if_neg e4, if_neg e6]; exact c
  · rw [if_neg e0, if_neg (bF e1), if_neg (bF e3), if_neg e4, if_neg e6]; exact c
  · have a1 : ¬ (k = 1 ∨ k = 2) := fun hx => bF e1 (k1.2 hx)
    have a3 : ¬ (k = 3 ∨ k = 5 ∨ k = 7) := fun hx => bF e3 (k3.2 hx)
    omega)
noncomputable def con_rCheckOp : Con E0 := ⟨k_rCheckOp, sg_rCheckOp, rCheckOp_s, rfl, bo_rCheckOp, rCheckOp_h⟩
end Go.Proofs.YtcoacgfciilplaaDoor
end

section
namespace Go.Proofs.YtcoacgfciilplaaDoor
open Go.RowKit
set_option linter.unusedVariables false
set_option linter.unusedSimpArgs false

def opR (r : List Dat) : Int := opE (rowI r 0) (rowI r 1) (rowI r 2) (oDo r)
theorem opD_row (r : List Dat) : opD [r.getD 0 (.int .i64 0), r.getD 1 (.int .i64 0), r.getD 2 (.int .i64 0), r.getD 3 (dflt E0.Δ (.list 55))] = opR r := by
  unfold opR oDo
  rw [← getD_xs r 3 55]; rfl
def scrN (d0 d1 : List Int) (n : Nat) (ops : List (List Dat)) : Int :=
  if dk.deckN d0 ≠ 0 then dk.deckN d0 else if dk.deckN d1 ≠ 0 then dk.deckN d1 else if 4096 < n then 19 else if 1000 < ops.length then 19 else firstE opR ops
def scrD (ds : List Dat) : Int := scrN (nums (argL ds 0)) (nums (argL ds 1)) (argL ds 2).length (argL ds 3)
def k_sCheck : Nat := 13
def sg_sCheck : Sig := ⟨[(true, [.list 3, .list 3, .list 3] ++ [.list 42])], [(false, [.err])], false, true, true, false, false⟩
def tr_sCheck : Tree := (.call k_tDeck [(.var 0)] [.err]
(.ite (.not (.isnil (.var 4)))
 (.ret [(.var 4)])
 (.call k_tDeck [(.var 1)] [.err]
 (.ite (.not (.isnil (.var 5)))
  (.ret [(.var 5)])
  (.ite (.not (.isnil (.ite (.cmp .gt (.len (.var 2)) (.int .i64 4096)) (.ifc (.int .i64 19)) .nili)))
   (.ret [(.ite (.cmp .gt (.len (.var 2)) (.int .i64 4096)) (.ifc (.int .i64 19)) .nili)])
   (.ite (.cmp .gt (.len (.var 3)) (.int .i64 1000))
    (.ret [(.ifc (.int .i64 19))])
    (.loop [.nili, (.int .i64 0)] [.err, (.int .i64)]
     (.ite (.cmp .lt (.var 7) (.len (.var 3)))
      (.ob (.cmp .ge (.var 7) (.int .i64 0))
      (.call k_sCheckOp [(.elem (.var 3) (.var 7) 0 (.int .i64)), (.elem (.var 3) (.var 7) 1 (.int .i64)), (.elem (.var 3) (.var 7) 2 (.int .i64)), (.elem (.var 3) (.var 7) 3 (.list 55))] [.err]
      (.ite (.not (.isnil (.var 8)))
       (.ret [(.var 8)])
       (.again 0 [(.var 6), (.ar .add .i64 (.var 7) (.int .i64 1))]))))
      (.ret [.nili])))))))))
theorem wk_sCheck : walk E0.cx (sgsN [(26, sg_tDeck), (11, sg_sCheckOp)]) 0 13 sg_sCheck = tr_sCheck := by kernel_rfl
theorem bo_sCheck : ∃ x, bodyOf E0.P 13 = some x := bo_of (by kernel_rfl)
theorem sp_sCheck_tDeck : specC [con_tDeck, con_sCheckOp] k_tDeck = tDeck_s := rfl
theorem sp_sCheck_sCheckOp : specC [con_tDeck, con_sCheckOp] k_sCheckOp = sCheckOp_s := rfl
def sCheck_s : Spec := fun ds Q => in64s (nums (argL ds 0)) ∧ in64s (nums (argL ds 1)) ∧ Q [errV (scrD ds)]
theorem sCheck_h : Holds E0 k_sCheck sg_sCheck sCheck_s := con_fn wf0 mix0 g0 [con_tDeck, con_sCheckOp] rfl wk_sCheck rfl (by
  intro Φ hΦ ds Q hs ⟨i0, i1, h⟩
  have hl : ds.length = 4 := hs.length.symm
  have s1 : Φ k_tDeck = tDeck_s := by rw [hΦ]; rfl
  have s2 : Φ k_sCheckOp = sCheckOp_s := by rw [hΦ]; rfl
  clear hΦ
  simp only [tr_sCheck, wp, den_int, den_bool, den_nili, den_ar, den_cmp, den_not, den_len, den_elem, den_isnil, den_errI, den_ifc, den_rep, den_push, den_app, den_emp, den_upd, row0_econs, row0_enil, den_and, den_beq, den_nil, toInt_int, toBool_bool, xs_rows, xs_list, dflt_int, dflt_bool, of_eq, of_ne, of_lt, of_le, of_gt, of_ge, of_add, of_sub, of_rem, List.map_cons, List.map_nil, Dat.bool.injEq, decide_eq_true_eq, decide_eq_false_iff_not, Bool.not_eq_true', Bool.not_eq_false', beq_iff_eq, bne_iff_ne, beq_eq_false_iff_ne, bne_eq_false_iff_eq, ne_eq, List.append_assoc, List.cons_append, List.nil_append, allS, s1, s2, tDeck_s, sCheckOp_s, @den_var0 E0.Δ ds, den_varA, den_varB, hl, Nat.reduceLT, Nat.reduceLeDiff, Nat.reduceSub, List.getD_cons_zero, List.getD_cons_succ, argL_fold ds, argI_fold ds, List.append_assoc, List.cons_append, List.nil_append, toInt_int, toBool_bool, xs_rows, xs_list, Int.toNat_natCast, Dat.bool.injEq, den_or, den_ite, argL_c0, opD_row, errV_nil]
  unfold scrD scrN at h
  refine ⟨i0, fun h0 => ?_, fun h0 => ⟨i1, fun h1 => ?_, fun h1 => ?_⟩⟩
  · rw [if_pos h0] at h; exact h
  · rw [if_neg (fun hx => hx h0), if_pos h1] at h; exact h
  rw [if_neg (fun hx => hx h0), if_neg (fun hx => hx h1)] at h
  by_cases h2 : 4096 < (argL ds 2).length
  · have h3 : (4096 : Int) < ((argL ds 2).length : Int) := by omega
    rw [if_pos h2] at h
    simp only [if_pos h3]
    exact ⟨fun _ => h, fun hx => Bool.noConfusion hx⟩
  have h3 : ¬ (4096 : Int) < ((argL ds 2).length : Int) := by omega
  rw [if_neg h2] at h
  simp only [if_neg h3]
  refine ⟨fun hx => Bool.noConfusion hx, fun _ => ⟨fun h4 => ?_, fun h4 => ?_⟩⟩
  · rw [if_pos (by omega)] at h; exact h
  rw [if_neg (by omega)] at h
  generalize argL ds 3 = l at *
  refine ⟨fun xs m => ∃ (d : Dat) (i : Nat), i ≤ l.length ∧ m = l.length - i ∧ xs = [d, .int .i64 i] ∧ ∀ k, k < i → opR (l.getD k []) = 0, ⟨_, _, 0, by omega, rfl, rfl, fun k hk => absurd hk (by omega)⟩, ?_⟩
  rintro d hd n m ⟨_, i, hi, hm, e, hall⟩
  cases e
  refine ⟨fun hlt => ⟨by omega, ?_, ?_⟩, fun hge => ?_⟩
  · intro hne
    rw [Int.toNat_natCast] at hne ⊢
    rw [firstE_at opR (by omega) hall hne] at h
    exact h
  · intro he
    rw [Int.toNat_natCast] at he
    refine ⟨_, (by omega : l.length - (i + 1) < _), d, i + 1, by omega, rfl, by rw [wrap64 (by omega) (by omega)]; rfl, fun k hk => ?_⟩
    rcases Nat.lt_succ_iff_lt_or_eq.1 hk with hk | rfl
    · exact hall k hk
    · exact he
  · rw [firstE_0 opR fun j hj => hall j (by omega)] at h
    exact h)
noncomputable def con_sCheck : Con E0 := ⟨k_sCheck, sg_sCheck, sCheck_s, rfl, bo_sCheck, sCheck_h⟩
def k_rCheck : Nat := 14
def sg_rCheck : Sig := ⟨[(true, [.list 3, .list 3, .list 3] ++ [.list 46])], [(false, [.int .i64])], false, false, true, false, false⟩
def tr_rCheck : Tree := (.call k_rDeck [(.var 0)] [(.int .i64)]
(.ite (.cmp .ne (.var 4) (.int .i64 0))
 (.ret [(.var 4)])
 (.call k_rDeck [(.var 1)] [(.int .i64)]
 (.ite (.cmp .ne (.var 5) (.int .i64 0))
  (.ret [(.var 5)])
  (.ite (.or (.cmp .gt (.len (.var 2)) (.int .i64 4096)) (.cmp .gt (.len (.var 3)) (.int .i64 1000)))
   (.ret [(.int .i64 19)])
   (.loop [(.int .i64 0), (.int .i64 0)] [(.int .i64), (.int .i64)]
    (.ite (.cmp .lt (.var 7) (.len (.var 3)))
     (.ob (.cmp .ge (.var 7) (.int .i64 0))
     (.call k_rCheckOp [(.elem (.var 3) (.var 7) 0 (.int .i64)), (.elem (.var 3) (.var 7) 1 (.int .i64)), (.elem (.var 3) (.var 7) 2 (.int .i64)), (.elem (.var 3) (.var 7) 3 (.list 55))] [(.int .i64)]
     (.ite (.cmp .ne (.var 8) (.int .i64 0))
      (.ret [(.var 8)])
      (.again 0 [(.var 6), (.ar .add .i64 (.var 7) (.int .i64 1))]))))
     (.ret [(.int .i64 0)]))))))))
theorem wk_rCheck : walk E0.cx (sgsN [(28, sg_rDeck), (12, sg_rCheckOp)]) 0 14 sg_rCheck = tr_rCheck := by kernel_rfl
theorem bo_rCheck : ∃ x, bodyOf E0.P 14 = some x := bo_of (by kernel_rfl)
theorem sp_rCheck_rDeck : specC [con_rDeck, con_rCheckOp] k_rDeck = rDeck_s := rfl
theorem sp_rCheck_rCheckOp : specC [con_rDeck, con_rCheckOp] k_rCheckOp = rCheckOp_s := rfl
def rCheck_s : Spec := fun ds Q => Q [.int .i64 (scrD ds)]
theorem rCheck_h : Holds E0 k_rCheck sg_rCheck rCheck_s := con_fn wf0 mix0 g0 [con_rDeck, con_rCheckOp] rfl wk_rCheck rfl (by
  intro Φ hΦ ds Q hs h
  have hl : ds.length = 4 := hs.length.symm
  have s1 : Φ k_rDeck = rDeck_s := by rw [hΦ]; rfl
  have s2 : Φ k_rCheckOp = rCheckOp_s := by rw [hΦ]; rfl
  have h : Q [.int .i64 (scrD ds)] := h
  clear hΦ
  simp only [tr_rCheck, wp, den_int, den_bool, den_nili, den_ar, den_cmp, den_not, den_len, den_elem, den_isnil, den_errI, den_ifc, den_rep, den_push, den_app, den_emp, den_upd, row0_econs, row0_enil, den_and, den_beq, den_nil, toInt_int, toBool_bool, xs_rows, xs_list, dflt_int, dflt_bool, of_eq, of_ne, of_lt, of_le, of_gt, of_ge, of_add, of_sub, of_rem, List.map_cons, List.map_nil, Dat.bool.injEq, decide_eq_true_eq, decide_eq_false_iff_not, Bool.not_eq_true', Bool.not_eq_false', beq_iff_eq, bne_iff_ne, beq_eq_false_iff_ne, bne_eq_false_iff_eq, ne_eq, List.append_assoc, List.cons_append, List.nil_append, allS, s1, s2, rDeck_s, rCheckOp_s, @den_var0 E0.Δ ds, den_varA, den_varB, hl, Nat.reduceLT, Nat.reduceLeDiff, Nat.reduceSub, List.getD_cons_zero, List.getD_cons_succ, argL_fold ds, argI_fold ds, List.append_assoc, List.cons_append, List.nil_append, toInt_int, toBool_bool, xs_rows, xs_list, Int.toNat_natCast, Dat.bool.injEq, den_or, den_ite, argL_c0, opD_row]
  unfold scrD scrN at h
  refine ⟨fun h0 => ?_, fun h0 => ⟨fun h1 => ?_, fun h1 => ?_⟩⟩
  · rw [if_pos h0] at h; exact h
  · rw [if_neg (fun hx => hx h0), if_pos h1] at h; exact h
  rw [if_neg (fun hx => hx h0), if_neg (fun hx => hx h1)] at h
  refine ⟨fun h2 => ?_, fun h2 => ?_⟩
  · rw [Bool.or_eq_true, decide_eq_true_eq, decide_eq_true_eq] at h2
    by_cases h3 : 4096 < (argL ds 2).length
    · rw [if_pos h3] at h; exact h
    · rw [if_neg h3, if_pos (by omega)] at h; exact h
  rw [Bool.or_eq_false_iff, decide_eq_false_iff_not, decide_eq_false_iff_not] at h2
  rw [if_neg (by omega), if_neg (by omega)] at h
  generalize argL ds 3 = l at *
  refine ⟨fun xs m => ∃ (d : Int) (i : Nat), i ≤ l.length ∧ m = l.length - i ∧ xs = [.int .i64 d, .int .i64 i] ∧ ∀ k, k < i → opR (l.getD k []) = 0, ⟨_, _, 0, by omega, rfl, rfl, fun k hk => absurd hk (by omega)⟩, ?_⟩
  rintro d n m ⟨_, i, hi, hm, e, hall⟩
  cases e
  refine ⟨fun hlt => ⟨by omega, ?_, ?_⟩, fun hge => ?_⟩
  · intro hne
    rw [Int.toNat_natCast] at hne ⊢
    rw [firstE_at opR (by omega) hall hne] at h
    exact h
  · intro he
    rw [Int.toNat_natCast] at he
    refine ⟨_, (by omega : l.length - (i + 1) < _), d, i + 1, by omega, rfl, by rw [wrap64 (by omega) (by omega)]; rfl, fun k hk => ?_⟩
    rcases Nat.lt_succ_iff_lt_or_eq.1 hk with hk | rfl
    · exact hall k hk
    · exact he
  · rw [firstE_0 opR fun j hj => hall j (by omega)] at h
    exact h)
noncomputable def con_rCheck : Con E0 := ⟨k_rCheck, sg_rCheck, rCheck_s, rfl, bo_rCheck, rCheck_h⟩
end Go.Proofs.YtcoacgfciilplaaDoor
end

section
namespace Go.Proofs.YtcoacgfciilplaaDoor
open Go.RowKit
set_option linter.unusedVariables false
set_option linter.unusedSimpArgs false

def lstB (l : List (List Dat)) : List Nat := encs ((l.length : Int) :: nums l)
theorem lstB_len (l : List (List Dat)) : (lstB l).length ≤ 10 * l.length + 10 := by
  have := encs_len ((l.length : Int) :: nums l)
  rw [List.length_cons, nums_len] at this
  unfold lstB
  omega
theorem encs_cons (n : Int) (l : List Int) : encs (n :: l) = mth.encI n ++ encs l := rfl
theorem encI_len (n : Int) : (mth.encI n).length ≤ 10 := (mth.enc_len _).2
def k_rList2 : Nat := 22
def sg_rList2 : Sig := ⟨[(false, [.list 3])], [(false, [.rows 5])], true, false, true, false, false⟩
def tr_rList2 : Tree := (.call k_rBytes2 [(.len (.var 0))] [(.rows 5)]
(.loop [(.app .emp (.var 1)), (.int .i64 0)] [(.rows 5), (.int .i64)]
 (.ite (.cmp .lt (.var 3) (.len (.var 0)))
  (.ob (.cmp .ge (.var 3) (.int .i64 0))
  (.call k_rBytes2 [(.elem (.var 0) (.var 3) 0 (.int .i64))] [(.rows 5)]
  (.ob (.cmp .le (.len (.app (.var 2) (.app .emp (.var 4)))) (.int .i64 140737488355328))
  (.again 0 [(.app (.var 2) (.app .emp (.var 4))), (.ar .add .i64 (.var 3) (.int .i64 1))]))))
  (.ret [(.var 2)]))))
theorem wk_rList2 : walk E0.cx (sgsN [(23, sg_rBytes2)]) 0 22 sg_rList2 = tr_rList2 := by kernel_rfl
theorem bo_rList2 : ∃ x, bodyOf E0.P 22 = some x := bo_of (by kernel_rfl)
theorem sp_rList2_rBytes2 : specC [con_rBytes2] k_rBytes2 = rBytes2_s := rfl
def rList2_s : Spec := fun ds Q => (argL ds 0).length ≤ 1000000 ∧ (∀ n ∈ nums (argL ds 0), okN n) ∧ Q [.rows (u8R (lstB (argL ds 0)))]
theorem rList2_h : Holds E0 k_rList2 sg_rList2 rList2_s := con_fn wf0 mix0 g0 [con_rBytes2] rfl wk_rList2 rfl (by
  intro Φ hΦ ds Q hs ⟨hlen, hok, h⟩
  have hl : ds.length = 1 := hs.length.symm
  have sp : Φ k_rBytes2 = rBytes2_s := by rw [hΦ]; rfl
  clear hΦ
  have hnl := nums_len (argL ds 0)
  have hat : ∀ i, i < (argL ds 0).length → rowI ((argL ds 0).getD i []) 0 = (nums (argL ds 0)).getD i 0 := fun i hi => num_at hi
  simp only [tr_rList2, wp, den_int, den_bool, den_nili, den_ar, den_cmp, den_not, den_len, den_elem, den_isnil, den_errI, den_ifc, den_rep, den_push, den_app, den_emp, den_upd, row0_econs, row0_enil, den_and, den_beq, den_nil, toInt_int, toBool_bool, xs_rows, xs_list, dflt_int, dflt_bool, of_eq, of_ne, of_lt, of_le, of_gt, of_ge, of_add, of_sub, of_rem, List.map_cons, List.map_nil, Dat.bool.injEq, decide_eq_true_eq, decide_eq_false_iff_not, Bool.not_eq_true', Bool.not_eq_false', beq_iff_eq, bne_iff_ne, beq_eq_false_iff_ne, bne_eq_false_iff_eq, ne_eq, List.append_assoc, List.cons_append, List.nil_append, allS, sp, rBytes2_s, @den_var0 E0.Δ ds, den_varA, den_varB, hl, Nat.reduceLT, Nat.reduceLeDiff, Nat.reduceSub, List.getD_cons_zero, List.getD_cons_succ, argL_fold ds, argI_fold ds, List.append_assoc, List.cons_append, List.nil_append, toInt_int, toBool_bool, xs_rows, xs_list, Int.toNat_natCast, Dat.bool.injEq, argL_c0, argI_c0, argI_c1, dflt_int, toInt_getD, List.nil_append]
  unfold lstB at h
  generalize nums (argL ds 0) = L at *
  have hl0 := encI_len ((argL ds 0).length : Int)
  refine ⟨by omega, by omega, fun xs m => ∃ k : Nat, xs = [.rows (u8R (mth.encI ((argL ds 0).length : Int) ++ encs (L.take k))), .int .i64 k] ∧ k ≤ L.length ∧ m = L.length - k, ⟨_, 0, by rw [List.take_zero]; simp [encs], by omega, rfl⟩, ?_⟩
  rintro d1 hd1 n1 m ⟨k, e, hk, hm⟩
  cases e
  refine ⟨fun hlt => ⟨by omega, ?_⟩, fun hge => ?_⟩
  · have hk2 : k < L.length := by omega
    rw [Int.toNat_natCast, hat k (by omega)]
    have ho := hok _ (getD_memL (d := 0) hk2)
    have hel := encs_len (L.take k)
    have hle := encI_len (L.getD k 0)
    rw [List.length_take] at hel
    refine ⟨ho.1, ho.2, ?_, _, (by omega : L.length - (k + 1) < _), k + 1, ?_, by omega, rfl⟩
    · simp only [xs_rows, List.length_append, u8R_len]; omega
    · rw [wrap64 (by omega) (by omega), take_succ_getD (d := 0) hk2, encs_app]
      simp only [xs_rows, u8R_app, List.append_assoc, encs, List.flatMap_cons, List.flatMap_nil, List.append_nil]
      rfl
  · have hk3 : k = L.length := by omega
    rw [hk3, List.take_length]
    exact h)
noncomputable def con_rList2 : Con E0 := ⟨k_rList2, sg_rList2, rList2_s, rfl, bo_rList2, rList2_h⟩
/-! a script's bytes -/
def encD (r : List Dat) : List Nat := encs [rowI r 0, rowI r 1, rowI r 2, rowI r 3] ++ lstB (dLst r)
def hdO (r : List Dat) : List Nat := encs [rowI r 0, rowI r 1, rowI r 2, ((oDo r).length : Int)]
def encO (r : List Dat) : List Nat := hdO r ++ (oDo r).flatMap encD
def hdS (ds : List Dat) : List Nat := lstB (argL ds 0) ++ lstB (argL ds 1) ++ lstB (argL ds 2) ++ encs [((argL ds 3).length : Int)]
def encS (ds : List Dat) : List Nat := hdS ds ++ (argL ds 3).flatMap encO
theorem flat_le {f : List Dat → List Nat} {b : Nat} : ∀ {l : List (List Dat)}, (∀ i, i < l.length → (f (l.getD i [])).length ≤ b) → (l.flatMap f).length ≤ b * l.length
  | [], _ => Nat.le_refl _
  | a :: r, h => by
    have h0 : (f a).length ≤ b := h 0 (Nat.succ_pos _)
    have h1 := flat_le (l := r) fun i hi => h (i + 1) (Nat.succ_lt_succ hi)
    rw [List.flatMap_cons, List.length_append, List.length_cons, Nat.mul_succ]
    omega
theorem flat_take_le {f : List Dat → List Nat} (l : List (List Dat)) (k : Nat) : ((l.take k).flatMap f).length ≤ (l.flatMap f).length := by
  conv => rhs; rw [← List.take_append_drop k l, List.flatMap_append, List.length_append]
  exact Nat.le_add_right _ _
theorem flat_succ {f : List Dat → List Nat} {l : List (List Dat)} {k : Nat} (h : k < l.length) : (l.take (k + 1)).flatMap f = (l.take k).flatMap f ++ f (l.getD k []) := by
  rw [take_succ_getD (d := []) h, List.flatMap_append, List.flatMap_cons, List.flatMap_nil, List.append_nil]
/-- small enough, and numbers that are ints -/
def SmD (r : List Dat) : Prop := (dLst r).length ≤ 50 ∧ okN (rowI r 0) ∧ okN (rowI r 1) ∧ okN (rowI r 2) ∧ okN (rowI r 3) ∧ ∀ n ∈ nums (dLst r), okN n
def SmP (r : List Dat) : Prop := (oDo r).length ≤ 20 ∧ okN (rowI r 0) ∧ okN (rowI r 1) ∧ okN (rowI r 2) ∧ ∀ k, k < (oDo r).length → SmD ((oDo r).getD k [])
def SmS (ds : List Dat) : Prop := (argL ds 2).length ≤ 5000 ∧ (argL ds 3).length ≤ 1010 ∧ (∀ i, i < 3 → ∀ n ∈ nums (argL ds i), okN n) ∧ ∀ i, i < (argL ds 3).length → SmP ((argL ds 3).getD i [])
theorem encs4_len (a b c d : Int) : (encs [a, b, c, d]).length ≤ 40 := encs_len _
theorem encD_len {r : List Dat} (h : SmD r) : (encD r).length ≤ 550 := by
  have h1 := lstB_len (dLst r)
  have h2 := encs4_len (rowI r 0) (rowI r 1) (rowI r 2) (rowI r 3)
  have := h.1
  unfold encD
  rw [List.length_append]
  omega
theorem do_len {r : List Dat} (h : SmP r) (k : Nat) : (((oDo r).take k).flatMap encD).length ≤ 11000 := by
  have h1 := flat_take_le (f := encD) (oDo r) k
  have h2 := flat_le (f := encD) (b := 550) (l := oDo r) fun i hi => encD_len (h.2.2.2.2 i hi)
  have := h.1
  omega
theorem encO_len {r : List Dat} (h : SmP r) : (encO r).length ≤ 11040 := by
  have h1 := do_len h (oDo r).length
  rw [List.take_length] at h1
  have h2 := encs4_len (rowI r 0) (rowI r 1) (rowI r 2) ((oDo r).length : Int)
  unfold encO hdO
  rw [List.length_append]
  omega
theorem ops_len {l : List (List Dat)} (hl : l.length ≤ 1010) (h : ∀ i, i < l.length → SmP (l.getD i [])) (k : Nat) : ((l.take k).flatMap encO).length ≤ 11150400 := by
  have h1 := flat_take_le (f := encO) l k
  have h2 := flat_le (f := encO) (b := 11040) (l := l) fun i hi => encO_len (h i hi)
  omega
theorem deck_100 {l : List Int} (h : dk.deckN l = 0) : l.length ≤ 100 := by
  unfold dk.deckN at h
  split at h
  · cases h
  · omega
theorem scr_0 {ds : List Dat} (h : scrD ds = 0) : (argL ds 0).length ≤ 100 ∧ (argL ds 1).length ≤ 100 := by
  unfold scrD scrN at h
  by_cases h0 : dk.deckN (nums (argL ds 0)) = 0
  · rw [if_neg (fun hx => hx h0)] at h
    by_cases h1 : dk.deckN (nums (argL ds 1)) = 0
    · exact ⟨by have := deck_100 h0; rwa [nums_len] at this, by have := deck_100 h1; rwa [nums_len] at this⟩
    · rw [if_pos h1] at h; exact absurd h h1
  · rw [if_pos h0] at h; exact absurd h h0
theorem hdS_len {ds : List Dat} (h : scrD ds = 0) (hs : SmS ds) : (hdS ds).length ≤ 52040 := by
  have ⟨h0, h1⟩ := scr_0 h
  have h2 := hs.1
  have l0 := lstB_len (argL ds 0)
  have l1 := lstB_len (argL ds 1)
  have l2 := lstB_len (argL ds 2)
  have l3 := encs_len [((argL ds 3).length : Int)]
  unfold hdS
  simp only [List.length_append, List.length_cons, List.length_nil] at *
  omega
end Go.Proofs.YtcoacgfciilplaaDoor
end

section
namespace Go.Proofs.YtcoacgfciilplaaDoor
open Go.RowKit
set_option linter.unusedVariables false
set_option linter.unusedSimpArgs false

def BytesS (ds : List Dat) (Q : Dat → Int → Prop) : Prop :=
  ∀ d : Dat, ∀ n : Int, (scrD ds ≠ 0 → n = scrD ds ∧ d.xs = []) → (scrD ds = 0 → 65536 < (encS ds).length → n = 3 ∧ d.xs = []) → (scrD ds = 0 → ¬ 65536 < (encS ds).length → n = 0 ∧ d.xs = u8R (encS ds)) → Q d n
def k_sBytes : Nat := 8
def sg_sBytes : Sig := ⟨[(true, [.list 3, .list 3, .list 3] ++ [.list 42])], [(false, [.list 5]), (false, [.err])], false, false, true, false, false⟩
def tr_sBytes_1 : Tree := (.ite (.cmp .lt (.var 19) (.len (.elem (.var 3) (.var 13) 3 (.list 55)))) (.ob (.cmp .ge (.var 19) (.int .i64 0)) (.share 3 (.push (.push (.push (.push .emp (.econs (.elem (.elem (.var 3) (.var 13) 3 (.list 55)) (.var 19) 0 (.int .i64)) .enil)) (.econs (.elem (.elem (.var 3) (.var 13) 3 (.list 55)) (.var 19) 1 (.int .i64)) .enil)) (.econs (.elem (.elem (.var 3) (.var 13) 3 (.list 55)) (.var 19) 2 (.int .i64)) .enil)) (.econs (.elem (.elem (.var 3) (.var 13) 3 (.list 55)) (.var 19) 3 (.int .i64)) .enil)) (.call k_sPut [(.var 18), (.var 20)] [(.list 5)] (.call k_wPutList [(.var 21), (.elem (.elem (.var 3) (.var 13) 3 (.list 55)) (.var 19) 4 (.list 3))] [(.list 5)] (.ite (.cmp .gt (.len (.var 22)) (.int .i64 65536)) (.share 5 .emp (.ret [(.var 23), (.ifc (.int .i64 3))])) (.again 1 [(.var 16), (.var 17), (.var 22), (.ar .add .i64 (.var 19) (.int .i64 1))])))))) (.again 0 [(.var 16), (.var 17), (.var 18), (.ar .add .i64 (.var 13) (.int .i64 1))]))
def tr_sBytes_2 : Tree := (.ite (.cmp .lt (.var 13) (.len (.var 3))) (.ob (.cmp .ge (.var 13) (.int .i64 0)) (.share 3 (.push (.push (.push (.push .emp (.econs (.elem (.var 3) (.var 13) 0 (.int .i64)) .enil)) (.econs (.elem (.var 3) (.var 13) 1 (.int .i64)) .enil)) (.econs (.elem (.var 3) (.var 13) 2 (.int .i64)) .enil)) (.econs (.len (.elem (.var 3) (.var 13) 3 (.list 55))) .enil)) (.call k_sPut [(.var 12), (.var 14)] [(.list 5)] (.loop [(.var 10), (.var 11), (.var 15), (.int .i64 0)] [(.rows 5), .err, (.list 5), (.int .i64)] tr_sBytes_1)))) (.ite (.cmp .gt (.len (.var 12)) (.int .i64 65536)) (.share 5 .emp (.ret [(.var 14), (.ifc (.int .i64 3))])) (.ret [(.var 12), .nili])))
def tr_sBytes : Tree := (.call k_sCheck [(.var 0), (.var 1), (.var 2), (.var 3)] [.err] (.ite (.not (.isnil (.var 4))) (.share 5 .emp (.ret [(.var 5), (.var 4)])) (.call k_wPutList [(.nil 5), (.var 0)] [(.list 5)] (.call k_wPutList [(.var 5), (.var 1)] [(.list 5)] (.call k_wPutList [(.var 6), (.var 2)] [(.list 5)] (.share 3 (.push .emp (.econs (.len (.var 3)) .enil)) (.call k_sPut [(.var 7), (.var 8)] [(.list 5)] (.loop [.emp, .nili, (.var 9), (.int .i64 0)] [(.rows 5), .err, (.list 5), (.int .i64)] tr_sBytes_2))))))))
theorem wk_sBytes : walk E0.cx (sgsN [(13, sg_sCheck), (20, sg_wPutList), (21, sg_sPut)]) 0 8 sg_sBytes = tr_sBytes := by kernel_rfl
theorem bo_sBytes : ∃ x, bodyOf E0.P 8 = some x := bo_of (by kernel_rfl)
theorem sp_sBytes_sCheck : specC [con_sCheck, con_wPutList, con_sPut] k_sCheck = sCheck_s := rfl
theorem sp_sBytes_wPutList : specC [con_sCheck, con_wPutList, con_sPut] k_wPutList = wPutList_s := rfl
theorem sp_sBytes_sPut : specC [con_sCheck, con_wPutList, con_sPut] k_sPut = sPut_s := rfl
def sBytes_s : Spec := fun ds Q => SmS ds ∧ in64s (nums (argL ds 0)) ∧ in64s (nums (argL ds 1)) ∧ BytesS ds fun d n => Q [d, errV n]
theorem sBytes_h : Holds E0 k_sBytes sg_sBytes sBytes_s := con_fn wf0 mix0 g0 [con_sCheck, con_wPutList, con_sPut] rfl wk_sBytes rfl (by
  intro Φ hΦ ds Q hs ⟨hsm, i0, i1, h⟩
  have hl : ds.length = 4 := hs.length.symm
  have s1 : Φ k_sCheck = sCheck_s := by rw [hΦ]; rfl
  have s2 : Φ k_wPutList = wPutList_s := by rw [hΦ]; rfl
  have s3 : Φ k_sPut = sPut_s := by rw [hΦ]; rfl
  clear hΦ
  simp only [tr_sBytes, tr_sBytes_1, tr_sBytes_2, wp, den_int, den_bool, den_nili, den_ar, den_cmp, den_not, den_len, den_elem, den_isnil, den_errI, den_ifc, den_rep, den_push, den_app, den_emp, den_upd, row0_econs, row0_enil, den_and, den_beq, den_nil, toInt_int, toBool_bool, xs_rows, xs_list, dflt_int, dflt_bool, of_eq, of_ne, of_lt, of_le, of_gt, of_ge, of_add, of_sub, of_rem, List.map_cons, List.map_nil, Dat.bool.injEq, decide_eq_true_eq, decide_eq_false_iff_not, Bool.not_eq_true', Bool.not_eq_false', beq_iff_eq, bne_iff_ne, beq_eq_false_iff_ne, bne_eq_false_iff_eq, ne_eq, List.append_assoc, List.cons_append, List.nil_append, allS, s1, s2, s3, sCheck_s, wPutList_s, sPut_s, @den_var0 E0.Δ ds, den_varA, den_varB, hl, Nat.reduceLT, Nat.reduceLeDiff, Nat.reduceSub, List.getD_cons_zero, List.getD_cons_succ, argL_fold ds, argI_fold ds, List.append_assoc, List.cons_append, List.nil_append, toInt_int, toBool_bool, xs_rows, xs_list, Int.toNat_natCast, Dat.bool.injEq, argL_c0, argL_c1, getD_xs, errV_nil, dflt_int, toInt_getD]
  have e4 : scrD [ds.getD 0 (Dat.bool false), ds.getD 1 (Dat.bool false), ds.getD 2 (Dat.bool false), ds.getD 3 (Dat.bool false)] = scrD ds := rfl
  rw [e4]
  refine ⟨i0, i1, fun hne A c => h _ _ (fun _ => ⟨rfl, rfl⟩) (fun hx => absurd hx hne) (fun hx => absurd hx hne), fun h0 => ?_⟩
  have h := fun d n (hA : 65536 < (encS ds).length → n = 3 ∧ d.xs = []) (hB : ¬ 65536 < (encS ds).length → n = 0 ∧ d.xs = u8R (encS ds)) => h d n (fun hx => absurd h0 hx) (fun _ => hA) (fun _ => hB)
  have long : 65536 < (encS ds).length → ∀ (A : Option Addr) (c : Nat), Q [Dat.list (Value.slice A 0 c) (E0.Δ.row 5).length [], errV 3] := fun hx A c => h _ 3 (fun _ => ⟨rfl, rfl⟩) (fun hn => absurd hx hn)
  have hH := hdS_len h0 hsm
  obtain ⟨k0, k1⟩ := scr_0 h0
  obtain ⟨k2, k3, kn, kp⟩ := hsm
  have l0 := lstB_len (argL ds 0)
  have l1 := lstB_len (argL ds 1)
  have l2 := lstB_len (argL ds 2)
  refine ⟨by simp only [List.length_nil]; omega, kn 0 (by omega), fun d0 hd0 => ?_⟩
  have hd0 : d0.xs = u8R (lstB (argL ds 0)) := hd0
  refine ⟨by rw [hd0, u8R_len]; omega, kn 1 (by omega), fun d1 hd1 => ?_⟩
  have hd1 : d1.xs = u8R (lstB (argL ds 0) ++ lstB (argL ds 1)) := by rw [hd1, hd0, u8R_app]; rfl
  refine ⟨by rw [hd1, u8R_len, List.length_append]; omega, kn 2 (by omega), fun d2 hd2 A c => ?_⟩
  have hd2 : d2.xs = u8R (lstB (argL ds 0) ++ lstB (argL ds 1) ++ lstB (argL ds 2)) := by rw [hd2, hd1, u8R_app (lstB (argL ds 0) ++ lstB (argL ds 1))]; rfl
  refine ⟨by rw [hd2, u8R_len, List.length_append, List.length_append, List.length_cons, List.length_nil]; omega, fun n hn => ?_, fun d3 hd3 => ?_⟩
  · obtain rfl : n = ((argL ds 3).length : Int) := List.mem_singleton.1 hn
    exact ⟨by omega, by omega⟩
  have hb : d3.xs = u8R (hdS ds) := by rw [hd3, hd2]; unfold hdS; rw [u8R_app (_ ++ lstB (argL ds 2))]; rfl
  have hE : encS ds = hdS ds ++ (argL ds 3).flatMap encO := rfl
  clear hd0 hd1 hd2 hd3 i0 i1 k0 k1 kn hs s1 e4
  generalize hdS ds = H at *
  generalize argL ds 3 = ops at *
  generalize encS ds = S at *
  refine ⟨fun xs m => ∃ (b : Dat) (i : Nat), i ≤ ops.length ∧ m = ops.length - i ∧ (∃ a e, xs = [a, e, b, .int .i64 i]) ∧ b.xs = u8R (H ++ (ops.take i).flatMap encO), ⟨_, d3, 0, by omega, rfl, ⟨_, _, rfl⟩, by rw [hb, List.take_zero]; simp⟩, ?_⟩
  rintro a1 ha1 e1 he1 b1 hb1 n m ⟨_, i, hi, hm, ⟨_, _, e⟩, hbx⟩
  cases e
  refine ⟨fun hlt => ?_, fun hge => ?_⟩
  · have hi2 : i < ops.length := by omega
    have hp := kp i hi2
    have hol := ops_len k3 kp i
    have hsu := flat_succ (f := encO) hi2
    have htl := flat_take_le (f := encO) ops (i + 1)
    rw [hsu] at htl
    simp only [Int.toNat_natCast]
    generalize ops.getD i [] = r at *
    obtain ⟨p1, p2, p3, p4, p5⟩ := hp
    have hdl := encs4_len (rowI r 0) (rowI r 1) (rowI r 2) ((oDo r).length : Int)
    refine ⟨by omega, fun A c => ⟨?_, fun n hn => ?_, fun b2 hb2 => ?_⟩⟩
    · rw [hbx, u8R_len, List.length_append]
      show _ + 10 * 4 ≤ 90000000
      omega
    · have hn : n ∈ [rowI r 0, rowI r 1, rowI r 2, ((oDo r).length : Int)] := hn
      simp only [List.mem_cons, List.not_mem_nil, or_false] at hn
      rcases hn with rfl | rfl | rfl | rfl
      · exact p2
      · exact p3
      · exact p4
      · exact ⟨by omega, by omega⟩
    have hb2 : b2.xs = u8R (H ++ (ops.take i).flatMap encO ++ hdO r) := by rw [hb2, hbx, u8R_app (H ++ (ops.take i).flatMap encO)]; rfl
    refine ⟨fun xs m => ∃ (b : Dat) (t : Nat), t ≤ (oDo r).length ∧ m = (oDo r).length - t ∧ (∃ a e, xs = [a, e, b, .int .i64 t]) ∧ b.xs = u8R (H ++ (ops.take i).flatMap encO ++ hdO r ++ ((oDo r).take t).flatMap encD), ⟨_, b2, 0, by omega, rfl, ⟨_, _, rfl⟩, by rw [hb2, List.take_zero]; simp⟩, ?_⟩
    rintro a2 ha2 e2 he2 b3 hb3 n2 m2 ⟨_, t, ht, hm2, ⟨_, _, e⟩, hbx2⟩
    cases e
    refine ⟨fun hlt2 => ?_, fun hge2 => ?_⟩
    · have ht2 : t < (oDo r).length := by unfold oDo; omega
      have hd := p5 t ht2
      have hdo := do_len ⟨p1, p2, p3, p4, p5⟩ t
      have hsu2 := flat_succ (f := encD) ht2
      have htl2 := flat_take_le (f := encD) (oDo r) (t + 1)
      rw [hsu2] at htl2
      simp only [Int.toNat_natCast]
      change 0 ≤ (t : Int) ∧ _
      generalize hq : (oDo r).getD t [] = q at *
      have hq' : (r.getD 3 (Dat.bool false)).xs.getD t [] = q := hq
      rw [hq']
      have hql := encs4_len (rowI q 0) (rowI q 1) (rowI q 2) (rowI q 3)
      have hqb := lstB_len (dLst q)
      obtain ⟨q1, q2, q3, q4, q5, q6⟩ := hd
      refine ⟨by omega, fun A c => ⟨?_, fun n hn => ?_, fun b4 hb4 => ⟨?_, q6, fun b5 hb5 => ?_⟩⟩⟩
      · rw [hbx2, u8R_len, List.length_append, List.length_append, List.length_append]
        show _ + 10 * 4 ≤ 90000000
        unfold hdO
        omega
      · have hn : n ∈ [rowI q 0, rowI q 1, rowI q 2, rowI q 3] := hn
        simp only [List.mem_cons, List.not_mem_nil, or_false] at hn
        rcases hn with rfl | rfl | rfl | rfl
        · exact q2
        · exact q3
        · exact q4
        · exact q5
      · have e : (nums [[q.getD 0 (Dat.int .i64 0)], [q.getD 1 (Dat.int .i64 0)], [q.getD 2 (Dat.int .i64 0)], [q.getD 3 (Dat.int .i64 0)]]) = [rowI q 0, rowI q 1, rowI q 2, rowI q 3] := rfl
        rw [hb4, hbx2, e, List.length_append, u8R_len, u8R_len, List.length_append, List.length_append, List.length_append]
        change _ + 10 * (dLst q).length ≤ 89999990
        unfold hdO
        omega
      have hb5 : b5.xs = u8R (H ++ (ops.take i).flatMap encO ++ hdO r ++ ((oDo r).take (t + 1)).flatMap encD) := by
        rw [hb5, hb4, hbx2, hsu2]
        change _ ++ u8R (encs [rowI q 0, rowI q 1, rowI q 2, rowI q 3]) ++ u8R (lstB (dLst q)) = _
        unfold encD
        simp only [u8R_app, List.append_assoc]
      refine ⟨fun hx A c => long ?_ A c, fun hx => ⟨_, (by omega : (oDo r).length - (t + 1) < _), b5, t + 1, by omega, rfl, ⟨_, _, by rw [wrap64 (by omega) (by omega)]; rfl⟩, hb5⟩⟩
      rw [hb5, u8R_len, hsu2] at hx
      have eO : encO r = hdO r ++ (oDo r).flatMap encD := rfl
      rw [eO] at htl
      rw [hE]
      simp only [List.length_append] at hx htl htl2 ⊢
      omega
    · have ht3 : t = (oDo r).length := by unfold oDo at *; omega
      refine ⟨_, (by omega : ops.length - (i + 1) < _), b3, i + 1, by omega, rfl, ⟨_, _, by rw [wrap64 (by omega) (by omega)]; rfl⟩, ?_⟩
      rw [hbx2, ht3, List.take_length, hsu]
      unfold encO
      simp only [List.append_assoc]
  · have hi3 : i = ops.length := by omega
    rw [hi3, List.take_length, ← hE] at hbx
    refine ⟨fun hx A c => ?_, fun hx => ?_⟩
    · exact long (by rw [hbx, u8R_len] at hx; omega) A c
    · exact h _ 0 (fun hx2 => absurd hx2 (by rw [hbx, u8R_len] at hx; omega)) (fun _ => ⟨rfl, hbx⟩))
noncomputable def con_sBytes : Con E0 := ⟨k_sBytes, sg_sBytes, sBytes_s, rfl, bo_sBytes, sBytes_h⟩
end Go.Proofs.YtcoacgfciilplaaDoor
end

section
namespace Go.Proofs.YtcoacgfciilplaaDoor
open Go.RowKit
set_option linter.unusedVariables false
set_option linter.unusedSimpArgs false

theorem u8_1 (a : Int) : u8R (encs [a]) = u8R (mth.encI a) := by unfold encs; simp only [List.flatMap_cons, List.flatMap_nil, List.append_nil]
theorem u8_4 (a b c d : Int) : u8R (encs [a, b, c, d]) = u8R (mth.encI a) ++ (u8R (mth.encI b) ++ (u8R (mth.encI c) ++ u8R (mth.encI d))) := by
  unfold encs; simp only [List.flatMap_cons, List.flatMap_nil, List.append_nil, u8R_app]
def k_rBytes35 : Nat := 9
def sg_rBytes35 : Sig := ⟨[(true, [.list 3, .list 3, .list 3] ++ [.list 46])], [(false, [.list 5]), (false, [.int .i64])], false, true, true, false, false⟩
def tr_rBytes35_1 : Tree := (.ite (.cmp .lt (.var 16) (.len (.elem (.var 3) (.var 10) 3 (.list 55)))) (.ob (.cmp .ge (.var 16) (.int .i64 0)) (.call k_rBytes2 [(.elem (.elem (.var 3) (.var 10) 3 (.list 55)) (.var 16) 0 (.int .i64))] [(.rows 5)] (.ob (.cmp .le (.len (.app (.var 15) (.app .emp (.var 17)))) (.int .i64 140737488355328)) (.call k_rBytes2 [(.elem (.elem (.var 3) (.var 10) 3 (.list 55)) (.var 16) 1 (.int .i64))] [(.rows 5)] (.ob (.cmp .le (.len (.app (.app (.var 15) (.app .emp (.var 17))) (.app .emp (.var 18)))) (.int .i64 140737488355328)) (.call k_rBytes2 [(.elem (.elem (.var 3) (.var 10) 3 (.list 55)) (.var 16) 2 (.int .i64))] [(.rows 5)] (.ob (.cmp .le (.len (.app (.app (.app (.var 15) (.app .emp (.var 17))) (.app .emp (.var 18))) (.app .emp (.var 19)))) (.int .i64 140737488355328)) (.call k_rBytes2 [(.elem (.elem (.var 3) (.var 10) 3 (.list 55)) (.var 16) 3 (.int .i64))] [(.rows 5)] (.ob (.cmp .le (.len (.app (.app (.app (.app (.var 15) (.app .emp (.var 17))) (.app .emp (.var 18))) (.app .emp (.var 19))) (.app .emp (.var 20)))) (.int .i64 140737488355328)) (.call k_rList2 [(.elem (.elem (.var 3) (.var 10) 3 (.list 55)) (.var 16) 4 (.list 3))] [(.rows 5)] (.ob (.cmp .le (.len (.app (.app (.app (.app (.app (.var 15) (.app .emp (.var 17))) (.app .emp (.var 18))) (.app .emp (.var 19))) (.app .emp (.var 20))) (.app .emp (.var 21)))) (.int .i64 140737488355328)) (.again 1 [(.app (.app (.app (.app (.app (.var 15) (.app .emp (.var 17))) (.app .emp (.var 18))) (.app .emp (.var 19))) (.app .emp (.var 20))) (.app .emp (.var 21))), (.ar .add .i64 (.var 16) (.int .i64 1))])))))))))))) (.again 0 [(.var 15), (.ar .add .i64 (.var 10) (.int .i64 1))]))
def tr_rBytes35_2 : Tree := (.ite (.cmp .lt (.var 10) (.len (.var 3))) (.ob (.cmp .ge (.var 10) (.int .i64 0)) (.call k_rBytes2 [(.elem (.var 3) (.var 10) 0 (.int .i64))] [(.rows 5)] (.ob (.cmp .le (.len (.app (.var 9) (.app .emp (.var 11)))) (.int .i64 140737488355328)) (.call k_rBytes2 [(.elem (.var 3) (.var 10) 1 (.int .i64))] [(.rows 5)] (.ob (.cmp .le (.len (.app (.app (.var 9) (.app .emp (.var 11))) (.app .emp (.var 12)))) (.int .i64 140737488355328)) (.call k_rBytes2 [(.elem (.var 3) (.var 10) 2 (.int .i64))] [(.rows 5)] (.ob (.cmp .le (.len (.app (.app (.app (.var 9) (.app .emp (.var 11))) (.app .emp (.var 12))) (.app .emp (.var 13)))) (.int .i64 140737488355328)) (.call k_rBytes2 [(.len (.elem (.var 3) (.var 10) 3 (.list 55)))] [(.rows 5)] (.ob (.cmp .le (.len (.app (.app (.app (.app (.var 9) (.app .emp (.var 11))) (.app .emp (.var 12))) (.app .emp (.var 13))) (.app .emp (.var 14)))) (.int .i64 140737488355328)) (.loop [(.app (.app (.app (.app (.var 9) (.app .emp (.var 11))) (.app .emp (.var 12))) (.app .emp (.var 13))) (.app .emp (.var 14))), (.int .i64 0)] [(.rows 5), (.int .i64)] tr_rBytes35_1)))))))))) (.ite (.cmp .gt (.len (.var 9)) (.int .i64 65536)) (.share 5 .emp (.ret [(.var 11), (.int .i64 3)])) (.share 5 (.var 9) (.ret [(.var 11), (.int .i64 0)]))))
def tr_rBytes35 : Tree := (.call k_rCheck [(.var 0), (.var 1), (.var 2), (.var 3)] [(.int .i64)] (.ite (.cmp .ne (.var 4) (.int .i64 0)) (.share 5 .emp (.ret [(.var 5), (.var 4)])) (.call k_rList2 [(.var 0)] [(.rows 5)] (.call k_rList2 [(.var 1)] [(.rows 5)] (.ob (.cmp .le (.len (.app (.app .emp (.var 5)) (.app .emp (.var 6)))) (.int .i64 140737488355328)) (.call k_rList2 [(.var 2)] [(.rows 5)] (.ob (.cmp .le (.len (.app (.app (.app .emp (.var 5)) (.app .emp (.var 6))) (.app .emp (.var 7)))) (.int .i64 140737488355328)) (.call k_rBytes2 [(.len (.var 3))] [(.rows 5)] (.ob (.cmp .le (.len (.app (.app (.app (.app .emp (.var 5)) (.app .emp (.var 6))) (.app .emp (.var 7))) (.app .emp (.var 8)))) (.int .i64 140737488355328)) (.loop [(.app (.app (.app (.app .emp (.var 5)) (.app .emp (.var 6))) (.app .emp (.var 7))) (.app .emp (.var 8))), (.int .i64 0)] [(.rows 5), (.int .i64)] tr_rBytes35_2))))))))))
theorem wk_rBytes35 : walk E0.cx (sgsN [(14, sg_rCheck), (22, sg_rList2), (23, sg_rBytes2)]) 0 9 sg_rBytes35 = tr_rBytes35 := by kernel_rfl
theorem bo_rBytes35 : ∃ x, bodyOf E0.P 9 = some x := bo_of (by kernel_rfl)
theorem sp_rBytes35_rCheck : specC [con_rCheck, con_rList2, con_rBytes2] k_rCheck = rCheck_s := rfl
theorem sp_rBytes35_rList2 : specC [con_rCheck, con_rList2, con_rBytes2] k_rList2 = rList2_s := rfl
theorem sp_rBytes35_rBytes2 : specC [con_rCheck, con_rList2, con_rBytes2] k_rBytes2 = rBytes2_s := rfl
def rBytes35_s : Spec := fun ds Q => SmS ds ∧ BytesS ds fun d n => Q [d, .int .i64 n]
theorem rBytes35_h : Holds E0 k_rBytes35 sg_rBytes35 rBytes35_s := con_fn wf0 mix0 g0 [con_rCheck, con_rList2, con_rBytes2] rfl wk_rBytes35 rfl (by
  intro Φ hΦ ds Q hs ⟨hsm, h⟩
  have hl : ds.length = 4 := hs.length.symm
  have s1 : Φ k_rCheck = rCheck_s := by rw [hΦ]; rfl
  have s2 : Φ k_rList2 = rList2_s := by rw [hΦ]; rfl
  have s3 : Φ k_rBytes2 = rBytes2_s := by rw [hΦ]; rfl
  clear hΦ
  simp only [tr_rBytes35, tr_rBytes35_1, tr_rBytes35_2, List.append_assoc, wp, den_int, den_bool, den_nili, den_ar, den_cmp, den_not, den_len, den_elem, den_isnil, den_errI, den_ifc, den_rep, den_push, den_app, den_emp, den_upd, row0_econs, row0_enil, den_and, den_beq, den_nil, toInt_int, toBool_bool, xs_rows, xs_list, dflt_int, dflt_bool, of_eq, of_ne, of_lt, of_le, of_gt, of_ge, of_add, of_sub, of_rem, List.map_cons, List.map_nil, Dat.bool.injEq, decide_eq_true_eq, decide_eq_false_iff_not, Bool.not_eq_true', Bool.not_eq_false', beq_iff_eq, bne_iff_ne, beq_eq_false_iff_ne, bne_eq_false_iff_eq, ne_eq, List.append_assoc, List.cons_append, List.nil_append, allS, s1, s2, s3, rCheck_s, rList2_s, rBytes2_s, @den_var0 E0.Δ ds, den_varA, den_varB, hl, Nat.reduceLT, Nat.reduceLeDiff, Nat.reduceSub, List.getD_cons_zero, List.getD_cons_succ, argL_fold ds, argI_fold ds, List.append_assoc, List.cons_append, List.nil_append, toInt_int, toBool_bool, xs_rows, xs_list, Int.toNat_natCast, Dat.bool.injEq, argI_c0, List.nil_append, List.cons_append, argL_c0, argL_c1, getD_xs, dflt_int, toInt_getD]
  have e4 : scrD [ds.getD 0 (Dat.bool false), ds.getD 1 (Dat.bool false), ds.getD 2 (Dat.bool false), ds.getD 3 (Dat.bool false)] = scrD ds := rfl
  rw [e4]
  refine ⟨fun hne A c => h _ _ (fun _ => ⟨rfl, rfl⟩) (fun hx => absurd hx hne) (fun hx => absurd hx hne), fun h0 => ?_⟩
  have h := fun d n (hA : 65536 < (encS ds).length → n = 3 ∧ d.xs = []) (hB : ¬ 65536 < (encS ds).length → n = 0 ∧ d.xs = u8R (encS ds)) => h d n (fun hx => absurd h0 hx) (fun _ => hA) (fun _ => hB)
  have hH := hdS_len h0 hsm
  obtain ⟨k0, k1⟩ := scr_0 h0
  obtain ⟨k2, k3, kn, kp⟩ := hsm
  have l0 := lstB_len (argL ds 0)
  have l1 := lstB_len (argL ds 1)
  have l2 := lstB_len (argL ds 2)
  have l3 := encI_len ((argL ds 3).length : Int)
  have hb : u8R (lstB (argL ds 0)) ++ (u8R (lstB (argL ds 1)) ++ (u8R (lstB (argL ds 2)) ++ u8R (mth.encI ((argL ds 3).length : Int)))) = u8R (hdS ds) := by
    unfold hdS
    simp only [u8R_app, u8_1, List.append_assoc]
  refine ⟨by omega, kn 0 (by omega), by omega, kn 1 (by omega), by simp only [List.length_append, u8R_len]; omega, by omega, kn 2 (by omega), by simp only [List.length_append, u8R_len]; omega, by show (_ : Int) ≤ ((argL ds 3).length : Int); omega, by show ((argL ds 3).length : Int) ≤ _; omega, ?_, ?_⟩
  · show ((u8R (lstB (argL ds 0)) ++ (u8R (lstB (argL ds 1)) ++ (u8R (lstB (argL ds 2)) ++ u8R (mth.encI ((argL ds 3).length : Int))))).length : Int) ≤ _
    simp only [List.length_append, u8R_len]; omega
  have hE : encS ds = hdS ds ++ (argL ds 3).flatMap encO := rfl
  clear l0 l1 l2 l3 k0 k1 kn hs s1 e4
  refine ⟨fun xs m => ∃ (b : Dat) (i : Nat), i ≤ (argL ds 3).length ∧ m = (argL ds 3).length - i ∧ xs = [b, .int .i64 i] ∧ b.xs = u8R (hdS ds ++ ((argL ds 3).take i).flatMap encO), ⟨_, _, 0, by omega, rfl, rfl, by rw [List.take_zero]; simp only [List.flatMap_nil, List.append_nil]; exact hb⟩, ?_⟩
  generalize hdS ds = H at *
  generalize argL ds 3 = ops at *
  generalize encS ds = S at *
  rintro b1 hb1 n m ⟨_, i, hi, hm, e, hbx⟩
  cases e
  refine ⟨fun hlt => ?_, fun hge => ?_⟩
  · have hi2 : i < ops.length := by omega
    have hp := kp i hi2
    have hol := ops_len k3 kp i
    have hsu := flat_succ (f := encO) hi2
    simp only [Int.toNat_natCast]
    generalize ops.getD i [] = r at *
    have hp0 := hp
    obtain ⟨p1, p2, p3, p4, p5⟩ := hp
    have ho : (r.getD 3 (Dat.bool false)).xs = oDo r := rfl
    rw [ho]
    have g0 := encI_len (rowI r 0)
    have g1 := encI_len (rowI r 1)
    have g2 := encI_len (rowI r 2)
    have g3 := encI_len ((oDo r).length : Int)
    have hbl : b1.xs.length ≤ 11202440 := by rw [hbx, u8R_len, List.length_append]; omega
    refine ⟨by omega, p2.1, p2.2, by simp only [List.length_append, u8R_len]; omega, p3.1, p3.2, by simp only [List.length_append, u8R_len]; omega, p4.1, p4.2, by simp only [List.length_append, u8R_len]; omega, by omega, by omega, by simp only [List.length_append, u8R_len]; omega, ?_⟩
    refine ⟨fun xs m => ∃ (b : Dat) (t : Nat), t ≤ (oDo r).length ∧ m = (oDo r).length - t ∧ xs = [b, .int .i64 t] ∧ b.xs = u8R (H ++ (ops.take i).flatMap encO ++ hdO r ++ ((oDo r).take t).flatMap encD), ⟨_, _, 0, by omega, rfl, rfl, ?_⟩, ?_⟩
    · rw [xs_rows, hbx, List.take_zero]
      unfold hdO
      simp only [List.flatMap_nil, List.append_nil, u8R_app, u8_4, List.append_assoc]
    rintro b3 hb3 n2 m2 ⟨_, t, ht, hm2, e, hbx2⟩
    cases e
    have hdl := encs4_len (rowI r 0) (rowI r 1) (rowI r 2) ((oDo r).length : Int)
    refine ⟨fun hlt2 => ?_, fun hge2 => ?_⟩
    · have ht2 : t < (oDo r).length := by omega
      have hd := p5 t ht2
      have hdo := do_len hp0 t
      have hsu2 := flat_succ (f := encD) ht2
      simp only [Int.toNat_natCast]
      generalize (oDo r).getD t [] = q at *
      have hq : (q.getD 4 (Dat.bool false)).xs = dLst q := rfl
      rw [hq]
      have f0 := encI_len (rowI q 0)
      have f1 := encI_len (rowI q 1)
      have f2 := encI_len (rowI q 2)
      have f3 := encI_len (rowI q 3)
      have f4 := lstB_len (dLst q)
      obtain ⟨q1, q2, q3, q4, q5, q6⟩ := hd
      have hbl3 : b3.xs.length ≤ 11213480 := by
        rw [hbx2, u8R_len, List.length_append, List.length_append, List.length_append]
        unfold hdO
        omega
      refine ⟨by omega, q2.1, q2.2, by simp only [List.length_append, u8R_len]; omega, q3.1, q3.2, by simp only [List.length_append, u8R_len]; omega, q4.1, q4.2, by simp only [List.length_append, u8R_len]; omega, q5.1, q5.2, by simp only [List.length_append, u8R_len]; omega, by omega, q6, by simp only [List.length_append, u8R_len]; omega, _, (by omega : (oDo r).length - (t + 1) < _), _, t + 1, by omega, rfl, by rw [wrap64 (by omega) (by omega)]; rfl, ?_⟩
      rw [xs_rows, hbx2, hsu2]
      unfold encD
      simp only [u8R_app, u8_4, List.append_assoc]
    · have ht3 : t = (oDo r).length := by omega
      refine ⟨_, (by omega : ops.length - (i + 1) < _), _, i + 1, by omega, rfl, by rw [wrap64 (by omega) (by omega)]; rfl, ?_⟩
      rw [hbx2, ht3, List.take_length, hsu]
      unfold encO
      simp only [List.append_assoc]
  · have hi3 : i = ops.length := by omega
    rw [hi3, List.take_length, ← hE] at hbx
    refine ⟨fun hx A c => ?_, fun hx A c => ?_⟩
    · exact h _ 3 (fun _ => ⟨rfl, rfl⟩) (fun hn => absurd (by rw [hbx, u8R_len] at hx; omega) hn)
    · exact h _ 0 (fun hx2 => absurd hx2 (by rw [hbx, u8R_len] at hx; omega)) (fun _ => ⟨rfl, hbx⟩))
noncomputable def con_rBytes35 : Con E0 := ⟨k_rBytes35, sg_rBytes35, rBytes35_s, rfl, bo_rBytes35, rBytes35_h⟩
end Go.Proofs.YtcoacgfciilplaaDoor
end

section
namespace Go.Proofs.YtcoacgfciilplaaDoor
open Go.RowKit
set_option linter.unusedVariables false
set_option linter.unusedSimpArgs false

def nameL : List Dat := [.val (strB [100, 101, 99, 105, 100, 101]), .val (strB [116, 97, 107, 101, 98, 97, 99, 107]), .val (strB [114, 101, 119, 105, 110, 100]), .val (strB [98, 97, 99, 107, 117, 112]), .val (strB [108, 111, 111, 112]), .val (strB [121, 105, 101, 108, 100]), .val (strB [98, 108, 111, 99, 107]), .val (strB [112, 117, 110, 105, 115, 104]), .val (strB [110, 101, 120, 116])]
def nameD (k : Int) : Dat := if k < 0 ∨ 9 ≤ k then .val (strB []) else nameL.getD k.toNat (.bool false)
def k_sName : Nat := 16
def sg_sName : Sig := ⟨[(false, [.int .i64])], [(false, [.str])], false, false, true, false, false⟩
def tr_sName : Tree := (.ite (.or (.cmp .lt (.var 0) (.int .i64 0)) (.cmp .ge (.var 0) (.int .i64 9)))
 (.ret [(.str [])])
 (.ret [(.sel (.econs (.str [100, 101, 99, 105, 100, 101]) (.econs (.str [116, 97, 107, 101, 98, 97, 99, 107]) (.econs (.str [114, 101, 119, 105, 110, 100]) (.econs (.str [98, 97, 99, 107, 117, 112]) (.econs (.str [108, 111, 111, 112]) (.econs (.str [121, 105, 101, 108, 100]) (.econs (.str [98, 108, 111, 99, 107]) (.econs (.str [112, 117, 110, 105, 115, 104]) (.econs (.str [110, 101, 120, 116]) .enil))))))))) (.var 0) .str)]))
theorem wk_sName : walk E0.cx (sgsN []) 0 16 sg_sName = tr_sName := by kernel_rfl
theorem bo_sName : ∃ x, bodyOf E0.P 16 = some x := bo_of (by kernel_rfl)
def sName_s : Spec := fun ds Q => Q [nameD (argI ds 0)]
theorem sName_h : Holds E0 k_sName sg_sName sName_s := con_fn wf0 mix0 g0 [] rfl wk_sName rfl (by
  intro Φ hΦ ds Q hs h
  have hl : ds.length = 1 := hs.length.symm
  have h : Q [nameD (argI ds 0)] := h
  clear hΦ
  simp only [tr_sName, wp, den_int, den_bool, den_nili, den_ar, den_cmp, den_not, den_len, den_elem, den_isnil, den_errI, den_ifc, den_rep, den_push, den_app, den_emp, den_upd, row0_econs, row0_enil, den_and, den_beq, den_nil, toInt_int, toBool_bool, xs_rows, xs_list, dflt_int, dflt_bool, of_eq, of_ne, of_lt, of_le, of_gt, of_ge, of_add, of_sub, of_rem, List.map_cons, List.map_nil, Dat.bool.injEq, decide_eq_true_eq, decide_eq_false_iff_not, Bool.not_eq_true', Bool.not_eq_false', beq_iff_eq, bne_iff_ne, beq_eq_false_iff_ne, bne_eq_false_iff_eq, ne_eq, List.append_assoc, List.cons_append, List.nil_append, allS, @den_var0 E0.Δ ds, den_varA, den_varB, hl, Nat.reduceLT, Nat.reduceLeDiff, Nat.reduceSub, List.getD_cons_zero, List.getD_cons_succ, argL_fold ds, argI_fold ds, List.append_assoc, List.cons_append, List.nil_append, toInt_int, toBool_bool, xs_rows, xs_list, Int.toNat_natCast, Dat.bool.injEq, den_or, den_sel, row0_econs, row0_enil, den_elem, den_len, @den_var0 E0.Δ ds, den_varA, den_varB, hl, Nat.reduceLT, Nat.reduceLeDiff, Nat.reduceSub, List.getD_cons_zero, List.getD_cons_succ, argL_fold ds, argI_fold ds, List.append_assoc, List.cons_append, List.nil_append, toInt_int, toBool_bool, xs_rows, xs_list, Int.toNat_natCast, Dat.bool.injEq]
  unfold nameD at h
  refine ⟨fun hb => ?_, fun hb => ?_⟩
  · rw [if_pos (orT hb)] at h; exact h
  rw [if_neg (orF hb)] at h
  rcases upto9 (orF hb) with e | e | e | e | e | e | e | e | e <;> rw [e] at h ⊢ <;> exact h)
noncomputable def con_sName : Con E0 := ⟨k_sName, sg_sName, sName_s, rfl, bo_sName, sName_h⟩
def k_rName : Nat := 17
def sg_rName : Sig := ⟨[(false, [.int .i64])], [(false, [.str])], false, false, true, false, false⟩
def tr_rName : Tree := (.ite (.or (.cmp .lt (.var 0) (.int .i64 0)) (.cmp .gt (.var 0) (.int .i64 8)))
 (.ret [(.str [])])
 (.ret [(.elem (.push (.push (.push (.push (.push (.push (.push (.push (.push .emp (.econs (.str [100, 101, 99, 105, 100, 101]) .enil)) (.econs (.str [116, 97, 107, 101, 98, 97, 99, 107]) .enil)) (.econs (.str [114, 101, 119, 105, 110, 100]) .enil)) (.econs (.str [98, 97, 99, 107, 117, 112]) .enil)) (.econs (.str [108, 111, 111, 112]) .enil)) (.econs (.str [121, 105, 101, 108, 100]) .enil)) (.econs (.str [98, 108, 111, 99, 107]) .enil)) (.econs (.str [112, 117, 110, 105, 115, 104]) .enil)) (.econs (.str [110, 101, 120, 116]) .enil)) (.var 0) 0 .str)]))
theorem wk_rName : walk E0.cx (sgsN []) 0 17 sg_rName = tr_rName := by kernel_rfl
theorem bo_rName : ∃ x, bodyOf E0.P 17 = some x := bo_of (by kernel_rfl)
def rName_s : Spec := fun ds Q => Q [nameD (argI ds 0)]
theorem rName_h : Holds E0 k_rName sg_rName rName_s := con_fn wf0 mix0 g0 [] rfl wk_rName rfl (by
  intro Φ hΦ ds Q hs h
  have hl : ds.length = 1 := hs.length.symm
  have h : Q [nameD (argI ds 0)] := h
  clear hΦ
  simp only [tr_rName, wp, den_int, den_bool, den_nili, den_ar, den_cmp, den_not, den_len, den_elem, den_isnil, den_errI, den_ifc, den_rep, den_push, den_app, den_emp, den_upd, row0_econs, row0_enil, den_and, den_beq, den_nil, toInt_int, toBool_bool, xs_rows, xs_list, dflt_int, dflt_bool, of_eq, of_ne, of_lt, of_le, of_gt, of_ge, of_add, of_sub, of_rem, List.map_cons, List.map_nil, Dat.bool.injEq, decide_eq_true_eq, decide_eq_false_iff_not, Bool.not_eq_true', Bool.not_eq_false', beq_iff_eq, bne_iff_ne, beq_eq_false_iff_ne, bne_eq_false_iff_eq, ne_eq, List.append_assoc, List.cons_append, List.nil_append, allS, @den_var0 E0.Δ ds, den_varA, den_varB, hl, Nat.reduceLT, Nat.reduceLeDiff, Nat.reduceSub, List.getD_cons_zero, List.getD_cons_succ, argL_fold ds, argI_fold ds, List.append_assoc, List.cons_append, List.nil_append, toInt_int, toBool_bool, xs_rows, xs_list, Int.toNat_natCast, Dat.bool.injEq, den_or, den_sel, row0_econs, row0_enil, den_elem, den_len, @den_var0 E0.Δ ds, den_varA, den_varB, hl, Nat.reduceLT, Nat.reduceLeDiff, Nat.reduceSub, List.getD_cons_zero, List.getD_cons_succ, argL_fold ds, argI_fold ds, List.append_assoc, List.cons_append, List.nil_append, toInt_int, toBool_bool, xs_rows, xs_list, Int.toNat_natCast, Dat.bool.injEq]
  unfold nameD at h
  refine ⟨fun hb => ?_, fun hb => ?_⟩
  · rw [Bool.or_eq_true, decide_eq_true_eq, decide_eq_true_eq] at hb
    rw [if_pos (by omega)] at h; exact h
  rw [Bool.or_eq_false_iff, decide_eq_false_iff_not, decide_eq_false_iff_not] at hb
  have hk : ¬ (argI ds 0 < 0 ∨ 9 ≤ argI ds 0) := by omega
  rw [if_neg hk] at h
  rcases upto9 hk with e | e | e | e | e | e | e | e | e <;> rw [e] at h ⊢ <;> exact h)
noncomputable def con_rName : Con E0 := ⟨k_rName, sg_rName, rName_s, rfl, bo_rName, rName_h⟩
/-! what comes in -/
theorem okN_wf {n : Int} (h : (Lit.int .i64 n).wf = true) : okN n := bd_i64 h
theorem wf_okN {n : Int} (h : okN n) : (Lit.int .i64 n).wf = true := by
  obtain ⟨h1, h2⟩ := h
  simp only [Lit.wf, IntKind.min, IntKind.max, IntKind.signed, IntKind.bits]
  simp
  omega
theorem xs_in {d : Dat} (h : InD d) : ∀ row ∈ d.xs, ∀ x ∈ row, InD x := by
  cases h with
  | list v sz xs hl h => exact h
  | _ => intro row hr; cases hr
theorem xs_has {t : Nat} {d : Dat} (h : Has E0.Δ (.list t) d) : ∀ row ∈ d.xs, row.length = (E0.Δ.row t).length ∧ ∀ (c : Nat) (s : Srt) (x : Dat), (E0.Δ.row t)[c]? = some s → row[c]? = some x → Has E0.Δ s x := by
  cases h with
  | list r A n c xs hl hh => exact fun row hr => ⟨hl row hr, hh row hr⟩
theorem col_has {t : Nat} {D : Dat} (h : Has E0.Δ (.list t) D) (hi : InD D) {row : List Dat} (hr : row ∈ D.xs) {c : Nat} {s : Srt} (hc : (E0.Δ.row t)[c]? = some s) : ∃ x, row[c]? = some x ∧ Has E0.Δ s x ∧ InD x := by
  obtain ⟨hl, hh⟩ := xs_has h row hr
  have hlt : c < row.length := by
    rw [hl]
    exact (List.getElem?_eq_some_iff.1 hc).1
  exact ⟨row[c], List.getElem?_eq_getElem hlt, hh c s _ hc (List.getElem?_eq_getElem hlt), xs_in hi row hr _ (List.getElem_mem hlt)⟩
theorem col_int {t : Nat} {D : Dat} (h : Has E0.Δ (.list t) D) (hi : InD D) {row : List Dat} (hr : row ∈ D.xs) {c : Nat} (hc : (E0.Δ.row t)[c]? = some (.int .i64)) : okN (rowI row c) := by
  obtain ⟨x, hx, h1, h2⟩ := col_has h hi hr hc
  have e : rowI row c = x.toInt := by
    unfold rowI
    rw [List.getD_eq_getElem?_getD, hx]; rfl
  rw [e]
  cases h1 with
  | int k n =>
    cases h2 with
    | int k n hw => exact okN_wf hw
theorem col_list {t t' : Nat} {D : Dat} (h : Has E0.Δ (.list t) D) (hi : InD D) {row : List Dat} (hr : row ∈ D.xs) {c : Nat} (hc : (E0.Δ.row t)[c]? = some (.list t')) : Has E0.Δ (.list t') (row.getD c (.bool false)) ∧ InD (row.getD c (.bool false)) := by
  obtain ⟨x, hx, h1, h2⟩ := col_has h hi hr hc
  rw [List.getD_eq_getElem?_getD, hx]
  exact ⟨h1, h2⟩
theorem nums_in {D : Dat} (h : Has E0.Δ (.list 3) D) (hi : InD D) : ∀ n ∈ nums D.xs, okN n := fun n hn => by
  obtain ⟨row, hr, rfl⟩ := List.mem_map.1 hn
  exact col_int h hi hr (by rfl)
theorem smS_of {ds : List Dat} (hl : 4 ≤ ds.length) (h0 : ∀ i, i < 3 → Has E0.Δ (.list 3) (ds.getD i (.bool false))) (h3 : Has E0.Δ (.list 42) (ds.getD 3 (.bool false))) (hi : ∀ i, i < 4 → InD (ds.getD i (.bool false))) (hs : ShortS ds) : SmS ds := by
  refine ⟨hs.1, hs.2.1, fun i hi3 => nums_in (h0 i hi3) (hi i (by omega)), fun i hi' => ?_⟩
  have hr : (argL ds 3).getD i [] ∈ argL ds 3 := getD_memL hi'
  obtain ⟨a1, a2⟩ := hs.2.2 i hi'
  have H := col_list h3 (hi 3 (by omega)) hr (c := 3) (t' := 55) (by rfl)
  have q0 := col_int h3 (hi 3 (by omega)) hr (c := 0) (by rfl)
  have q1 := col_int h3 (hi 3 (by omega)) hr (c := 1) (by rfl)
  have q2 := col_int h3 (hi 3 (by omega)) hr (c := 2) (by rfl)
  generalize (argL ds 3).getD i [] = r at *
  refine ⟨a1, q0, q1, q2, fun k hk => ?_⟩
  have hq : (oDo r).getD k [] ∈ (r.getD 3 (.bool false)).xs := getD_memL hk
  have K := col_list H.1 H.2 hq (c := 4) (t' := 3) (by rfl)
  exact ⟨a2 k hk, col_int H.1 H.2 hq (c := 0) (by rfl), col_int H.1 H.2 hq (c := 1) (by rfl), col_int H.1 H.2 hq (c := 2) (by rfl), col_int H.1 H.2 hq (c := 3) (by rfl), nums_in K.1 K.2⟩
/-! a script as the chapter's -/
theorem norm_opR (r : List Dat) : opR (normO r) = opR r := by
  unfold opR
  rw [norm_rowI _ 0 (by omega), norm_rowI _ 1 (by omega), norm_rowI _ 2 (by omega), norm_do]
theorem norm_encO (r : List Dat) : encO (normO r) = encO r := by
  unfold encO hdO
  rw [norm_rowI _ 0 (by omega), norm_rowI _ 1 (by omega), norm_rowI _ 2 (by omega), norm_do]
theorem norm_firstE (A : List (List Dat)) : firstE opR (A.map normO) = firstE opR A := by
  induction A with
  | nil => rfl
  | cons a A ih =>
    show (if opR (normO a) = 0 then firstE opR (A.map normO) else opR (normO a)) = if opR a = 0 then firstE opR A else opR a
    rw [norm_opR, ih]
theorem norm_flat (A : List (List Dat)) : (A.map normO).flatMap encO = A.flatMap encO := by
  rw [List.flatMap_map]
  exact congrArg (fun f => A.flatMap f) (funext norm_encO)
theorem norm_smP {r : List Dat} (h : SmP r) : SmP (normO r) := by
  unfold SmP
  rw [norm_rowI _ 0 (by omega), norm_rowI _ 1 (by omega), norm_rowI _ 2 (by omega), norm_do]
  exact h
def docD (ds : List Dat) (d : Dat) : List Dat := [ds.getD 0 (.bool false), ds.getD 1 (.bool false), ds.getD 2 (.bool false), d]
theorem norm_scr {ds : List Dat} {d : Dat} (h : d.xs = (argL ds 3).map normO) : scrD (docD ds d) = scrD ds := by
  have e3 : argL (docD ds d) 3 = (argL ds 3).map normO := h
  unfold scrD scrN
  rw [e3, List.length_map, norm_firstE]; rfl
theorem norm_enc {ds : List Dat} {d : Dat} (h : d.xs = (argL ds 3).map normO) : encS (docD ds d) = encS ds := by
  have e3 : argL (docD ds d) 3 = (argL ds 3).map normO := h
  unfold encS hdS
  rw [e3, List.length_map, norm_flat]; rfl
theorem norm_smS {ds : List Dat} {d : Dat} (h : d.xs = (argL ds 3).map normO) (hs : SmS ds) : SmS (docD ds d) := by
  have e3 : argL (docD ds d) 3 = (argL ds 3).map normO := h
  obtain ⟨h1, h2, h3, h4⟩ := hs
  unfold SmS
  rw [e3, List.length_map]
  refine ⟨h1, h2, fun i hi => ?_, fun i hi => ?_⟩
  · match i, hi with
    | 0, _ => exact h3 0 (by omega)
    | 1, _ => exact h3 1 (by omega)
    | 2, _ => exact h3 2 (by omega)
  · rw [norm_get hi]
    exact norm_smP (h4 i hi)
/-! bytes are bytes -/
theorem encs_byte' {l : List Int} (h : ∀ n ∈ l, okN n) : ∀ c ∈ encs l, c < 256 := fun c hc => by
  obtain ⟨n, hn, hc⟩ := List.mem_flatMap.1 hc
  exact mth.encF_byte 9 _ (Nat.lt_trans (mth.zig_lt n (h n hn).1 (h n hn).2) (by decide)) c hc
theorem lstB_byte {l : List (List Dat)} (h : ∀ n ∈ nums l, okN n) (hl : l.length ≤ 1000000) : ∀ c ∈ lstB l, c < 256 := encs_byte' fun n hn => by
  rcases List.mem_cons.1 hn with rfl | hn
  · exact ⟨by omega, by omega⟩
  · exact h n hn
theorem encs4_byte {a b c d : Int} (ha : okN a) (hb : okN b) (hc : okN c) (hd : okN d) : ∀ x ∈ encs [a, b, c, d], x < 256 := encs_byte' fun n hn => by
  simp only [List.mem_cons, List.not_mem_nil, or_false] at hn
  rcases hn with rfl | rfl | rfl | rfl <;> assumption
theorem memFlat {f : List Dat → List Nat} {l : List (List Dat)} {c : Nat} (h : c ∈ l.flatMap f) : ∃ i, i < l.length ∧ c ∈ f (l.getD i []) := by
  obtain ⟨r, hr, hc⟩ := List.mem_flatMap.1 h
  obtain ⟨i, hi, e⟩ := List.getElem_of_mem hr
  exact ⟨i, hi, by rw [List.getD_eq_getElem?_getD, List.getElem?_eq_getElem hi]; rw [e]; exact hc⟩
theorem encS_byte {ds : List Dat} (h : SmS ds) (h0 : scrD ds = 0) : ∀ c ∈ encS ds, c < 256 := fun c hc => by
  obtain ⟨k2, k3, kn, kp⟩ := h
  obtain ⟨k0, k1⟩ := scr_0 h0
  unfold encS hdS at hc
  simp only [List.mem_append] at hc
  rcases hc with (((hc | hc) | hc) | hc) | hc
  · exact lstB_byte (kn 0 (by omega)) (by omega) c hc
  · exact lstB_byte (kn 1 (by omega)) (by omega) c hc
  · exact lstB_byte (kn 2 (by omega)) (by omega) c hc
  · exact encs_byte' (fun n hn => by rw [List.mem_singleton.1 hn]; exact ⟨by omega, by omega⟩) c hc
  · obtain ⟨i, hi, hc⟩ := memFlat hc
    obtain ⟨p1, p2, p3, p4, p5⟩ := kp i hi
    generalize (argL ds 3).getD i [] = r at *
    unfold encO hdO at hc
    rcases List.mem_append.1 hc with hc | hc
    · exact encs4_byte p2 p3 p4 ⟨by omega, by omega⟩ c hc
    · obtain ⟨k, hk, hc⟩ := memFlat hc
      obtain ⟨q1, q2, q3, q4, q5, q6⟩ := p5 k hk
      generalize (oDo r).getD k [] = q at *
      unfold encD at hc
      rcases List.mem_append.1 hc with hc | hc
      · exact encs4_byte q2 q3 q4 q5 c hc
      · exact lstB_byte q6 (by omega) c hc
end Go.Proofs.YtcoacgfciilplaaDoor
end
