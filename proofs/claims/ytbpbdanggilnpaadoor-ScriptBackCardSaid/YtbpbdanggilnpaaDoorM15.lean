import Derived.Test.YtbpbdanggilnpaaDoorM14
import Derived.Test.YtbpbdanggilnpaaDoorM13

set_option linter.unusedVariables false
set_option linter.unusedSimpArgs false

section
namespace Go.Proofs.YtbpbdanggilnpaaDoor
open Go.RowKit
set_option linter.unusedVariables false
set_option linter.unusedSimpArgs false

def formN (k : Int) (o n t l : Bool) : Int :=
  if k < 0 ∨ 7 ≤ k then 6 else
  if (o && !(k == 1 || k == 2 || k == 5)) = true then 2 else if (n && !(k == 2 || k == 6)) = true then 2 else if (t && !(k == 1 || k == 2)) = true then 2 else if (l && !(k == 3 || k == 4)) = true then 2 else 0
def formD (ds : List Dat) : Int := formN (argI ds 0) (argI ds 1 != 0) (argI ds 2 != 0) (argI ds 3 != 0) (decide (0 < ((argL ds 4).length : Int)))
abbrev askL : List Dat := [Dat.int IntKind.u64 0, Dat.int IntKind.u64 5, Dat.int IntKind.u64 7, Dat.int IntKind.u64 8, Dat.int IntKind.u64 8, Dat.int IntKind.u64 1, Dat.int IntKind.u64 2]
theorem upto7 {k : Int} (h : ¬ (k < 0 ∨ 7 ≤ k)) : k = 0 ∨ k = 1 ∨ k = 2 ∨ k = 3 ∨ k = 4 ∨ k = 5 ∨ k = 6 := by omega
theorem ask0 {k : Int} (h : ¬ (k < 0 ∨ 7 ≤ k)) : (Ar.and.of .u64 (Ar.shr.of .u64 (askL.getD k.toNat (Dat.int .u64 0)).toInt 0) 1 == 1) = (k == 1 || k == 2 || k == 5) := by
  rcases upto7 h with rfl | rfl | rfl | rfl | rfl | rfl | rfl <;> decide +kernel
theorem ask1 {k : Int} (h : ¬ (k < 0 ∨ 7 ≤ k)) : (Ar.and.of .u64 (Ar.shr.of .u64 (askL.getD k.toNat (Dat.int .u64 0)).toInt 1) 1 == 1) = (k == 2 || k == 6) := by
  rcases upto7 h with rfl | rfl | rfl | rfl | rfl | rfl | rfl <;> decide +kernel
theorem ask2 {k : Int} (h : ¬ (k < 0 ∨ 7 ≤ k)) : (Ar.and.of .u64 (Ar.shr.of .u64 (askL.getD k.toNat (Dat.int .u64 0)).toInt 2) 1 == 1) = (k == 1 || k == 2) := by
  rcases upto7 h with rfl | rfl | rfl | rfl | rfl | rfl | rfl <;> decide +kernel
theorem ask3 {k : Int} (h : ¬ (k < 0 ∨ 7 ≤ k)) : (Ar.and.of .u64 (Ar.shr.of .u64 (askL.getD k.toNat (Dat.int .u64 0)).toInt 3) 1 == 1) = (k == 3 || k == 4) := by
  rcases upto7 h with rfl | rfl | rfl | rfl | rfl | rfl | rfl <;> decide +kernel
theorem orT {a b : Int} : (decide (a < 0) || decide (b ≤ a)) = true → a < 0 ∨ b ≤ a := by
  rw [Bool.or_eq_true, decide_eq_true_eq, decide_eq_true_eq]; exact id
theorem orF {a b : Int} : (decide (a < 0) || decide (b ≤ a)) = false → ¬ (a < 0 ∨ b ≤ a) := fun h hx => by
  rw [Bool.or_eq_false_iff, decide_eq_false_iff_not, decide_eq_false_iff_not] at h
  exact hx.elim h.1 h.2
theorem bF {b : Bool} (h : b = false) : ¬ b = true := fun hx => by rw [hx] at h; cases h
def k_dForm : Nat := 41
def sg_dForm : Sig := ⟨[(true, List.replicate 4 (.int .i64) ++ [.list 3])], [(false, [.err])], false, true, true, false, false, [], [], none⟩
def tr_dForm : Tree := (.ite (.or (.cmp .lt (.var 0) (.int .i64 0)) (.cmp .ge (.var 0) (.int .i64 7)))
 (.ret [(.ifc (.int .i64 6))])
 (.ite (.and (.cmp .ne (.var 1) (.int .i64 0)) (.not (.cmp .eq (.ar .and .u64 (.ar .shr .u64 (.sel (.econs (.int .u64 0) (.econs (.int .u64 5) (.econs (.int .u64 7) (.econs (.int .u64 8) (.econs (.int .u64 8) (.econs (.int .u64 1) (.econs (.int .u64 2) .enil))))))) (.var 0) (.int .u64)) (.int .u64 0)) (.int .u64 1)) (.int .u64 1))))
  (.ret [(.ifc (.int .i64 2))])
  (.ite (.and (.cmp .ne (.var 2) (.int .i64 0)) (.not (.cmp .eq (.ar .and .u64 (.ar .shr .u64 (.sel (.econs (.int .u64 0) (.econs (.int .u64 5) (.econs (.int .u64 7) (.econs (.int .u64 8) (.econs (.int .u64 8) (.econs (.int .u64 1) (.econs (.int .u64 2) .enil))))))) (.var 0) (.int .u64)) (.int .u64 1)) (.int .u64 1)) (.int .u64 1))))
   (.ret [(.ifc (.int .i64 2))])
   (.ite (.and (.cmp .ne (.var 3) (.int .i64 0)) (.not (.cmp .eq (.ar .and .u64 (.ar .shr .u64 (.sel (.econs (.int .u64 0) (.econs (.int .u64 5) (.econs (.int .u64 7) (.econs (.int .u64 8) (.econs (.int .u64 8) (.econs (.int .u64 1) (.econs (.int .u64 2) .enil))))))) (.var 0) (.int .u64)) (.int .u64 2)) (.int .u64 1)) (.int .u64 1))))
    (.ret [(.ifc (.int .i64 2))])
    (.ite (.and (.cmp .gt (.len (.var 4)) (.int .i64 0)) (.not (.cmp .eq (.ar .and .u64 (.ar .shr .u64 (.sel (.econs (.int .u64 0) (.econs (.int .u64 5) (.econs (.int .u64 7) (.econs (.int .u64 8) (.econs (.int .u64 8) (.econs (.int .u64 1) (.econs (.int .u64 2) .enil))))))) (.var 0) (.int .u64)) (.int .u64 3)) (.int .u64 1)) (.int .u64 1))))
     (.ret [(.ifc (.int .i64 2))])
     (.ret [.nili]))))))
theorem wk_dForm : walk E0.cx (sgsN []) 0 41 sg_dForm = tr_dForm := by kernel_rfl
theorem bo_dForm : ∃ x, bodyOf E0.P 41 = some x := bo_of (by kernel_rfl)
def dForm_s : Spec := fun ds Q => Q [errV (formD ds)]
theorem dForm_h : Holds E0 k_dForm sg_dForm dForm_s := con_fn wf0 mix0 g0 [] rfl wk_dForm rfl (by
  intro Φ hΦ ds Q hs h
  have hl : ds.length = 5 := hs.length.symm
  have h : Q [errV (formD ds)] := h
  clear hΦ
  simp only [tr_dForm, wp, den_int, den_bool, den_nili, den_ar, den_cmp, den_not, den_len, den_elem, den_isnil, den_errI, den_ifc, den_rep, den_push, den_app, den_emp, den_upd, row0_econs, row0_enil, den_and, den_beq, den_nil, toInt_int, toBool_bool, xs_rows, xs_list, dflt_int, dflt_bool, of_eq, of_ne, of_lt, of_le, of_gt, of_ge, of_add, of_sub, of_rem, List.map_cons, List.map_nil, Dat.bool.injEq, decide_eq_true_eq, decide_eq_false_iff_not, Bool.not_eq_true', Bool.not_eq_false', beq_iff_eq, bne_iff_ne, beq_eq_false_iff_ne, bne_eq_false_iff_eq, ne_eq, List.append_assoc, List.cons_append, List.nil_append, allS, @den_var0 E0.Δ ds, den_varA, den_varB, hl, Nat.reduceLT, Nat.reduceLeDiff, Nat.reduceSub, List.getD_cons_zero, List.getD_cons_succ, argL_fold ds, argI_fold ds, List.append_assoc, List.cons_append, List.nil_append, toInt_int, toBool_bool, xs_rows, xs_list, Int.toNat_natCast, Dat.bool.injEq, den_or, den_sel, row0_econs, row0_enil, den_elem, den_len, @den_var0 E0.Δ ds, den_varA, den_varB, hl, Nat.reduceLT, Nat.reduceLeDiff, Nat.reduceSub, List.getD_cons_zero, List.getD_cons_succ, argL_fold ds, argI_fold ds, List.append_assoc, List.cons_append, List.nil_append, toInt_int, toBool_bool, xs_rows, xs_list, Int.toNat_natCast, Dat.bool.injEq]
  unfold formD formN at h
  refine ⟨fun hb => ?_, fun hb => ?_⟩
  · rw [if_pos (orT hb)] at h; exact h
  have hk := orF hb
  clear hb
  rw [if_neg hk] at h
  simp only [ask0 hk, ask1 hk, ask2 hk, ask3 hk]
  refine ⟨fun h0 => ?_, fun h0 => ⟨fun h1 => ?_, fun h1 => ⟨fun h2 => ?_, fun h2 => ⟨fun h3 => ?_, fun h3 => ?_⟩⟩⟩⟩
  · rw [if_pos h0] at h; exact h
  · rw [if_neg (bF h0), if_pos h1] at h; exact h
  · rw [if_neg (bF h0), if_neg (bF h1), if_pos h2] at h; exact h
  · rw [if_neg (bF h0), if_neg (bF h1), if_neg (bF h2), if_pos h3] at h; exact h
  · rw [if_neg (bF h0), if_neg (bF h1), if_neg (bF h2), if_neg (bF h3)] at h; exact h)
noncomputable def con_dForm : Con E0 := ⟨k_dForm, sg_dForm, dForm_s, rfl, bo_dForm, dForm_h⟩
def k_rForm26 : Nat := 45
def sg_rForm26 : Sig := ⟨[(true, List.replicate 4 (.int .i64) ++ [.list 3])], [(false, [.int .i64])], false, false, true, false, false, [], [], none⟩
def tr_rForm26 : Tree := (.ite (.or (.cmp .lt (.var 0) (.int .i64 0)) (.cmp .gt (.var 0) (.int .i64 6)))
 (.ret [(.int .i64 6)])
 (.ite (.ite (.cmp .ne (.var 1) (.int .i64 0)) (.ite (.cmp .ne (.var 0) (.int .i64 1)) (.ite (.cmp .ne (.var 0) (.int .i64 2)) (.or (.cmp .ne (.var 0) (.int .i64 5)) (.or (.cmp .ne (.var 2) (.int .i64 0)) (.or (.cmp .ne (.var 3) (.int .i64 0)) (.and (.cmp .gt (.len (.var 4)) (.int .i64 0)) (.cmp .ne (.var 0) (.int .i64 4)))))) (.and (.cmp .gt (.len (.var 4)) (.int .i64 0)) (.cmp .ne (.var 0) (.int .i64 4)))) (.or (.cmp .ne (.var 2) (.int .i64 0)) (.and (.cmp .gt (.len (.var 4)) (.int .i64 0)) (.cmp .ne (.var 0) (.int .i64 4))))) (.ite (.cmp .ne (.var 2) (.int .i64 0)) (.ite (.cmp .ne (.var 0) (.int .i64 2)) (.or (.cmp .ne (.var 0) (.int .i64 6)) (.or (.cmp .ne (.var 3) (.int .i64 0)) (.and (.cmp .gt (.len (.var 4)) (.int .i64 0)) (.cmp .ne (.var 0) (.int .i64 4))))) (.and (.cmp .gt (.len (.var 4)) (.int .i64 0)) (.cmp .ne (.var 0) (.int .i64 4)))) (.ite (.cmp .ne (.var 3) (.int .i64 0)) (.ite (.cmp .ne (.var 0) (.int .i64 1)) (.or (.cmp .ne (.var 0) (.int .i64 2)) (.and (.cmp .gt (.len (.var 4)) (.int .i64 0)) (.cmp .ne (.var 0) (.int .i64 4)))) (.and (.cmp .gt (.len (.var 4)) (.int .i64 0)) (.cmp .ne (.var 0) (.int .i64 4)))) (.and (.cmp .gt (.len (.var 4)) (.int .i64 0)) (.and (.cmp .ne (.var 0) (.int .i64 3)) (.cmp .ne (.var 0) (.int .i64 4)))))))
  (.ret [(.int .i64 2)])
  (.ret [(.int .i64 0)])))
theorem wk_rForm26 : walk E0.cx (sgsN []) 0 45 sg_rForm26 = tr_rForm26 := by kernel_rfl
theorem bo_rForm26 : ∃ x, bodyOf E0.P 45 = some x := bo_of (by kernel_rfl)
def rForm26_s : Spec := fun ds Q => Q [.int .i64 (formD ds)]
theorem rForm26_h : Holds E0 k_rForm26 sg_rForm26 rForm26_s := con_fn wf0 mix0 g0 [] rfl wk_rForm26 rfl (by
  intro Φ hΦ ds Q hs h
  have hl : ds.length = 5 := hs.length.symm
  have h : Q [.int .i64 (formD ds)] := h
  clear hΦ
  simp only [tr_rForm26, wp, den_int, den_bool, den_nili, den_ar, den_cmp, den_not, den_len, den_elem, den_isnil, den_errI, den_ifc, den_rep, den_push, den_app, den_emp, den_upd, row0_econs, row0_enil, den_and, den_beq, den_nil, toInt_int, toBool_bool, xs_rows, xs_list, dflt_int, dflt_bool, of_eq, of_ne, of_lt, of_le, of_gt, of_ge, of_add, of_sub, of_rem, List.map_cons, List.map_nil, Dat.bool.injEq, decide_eq_true_eq, decide_eq_false_iff_not, Bool.not_eq_true', Bool.not_eq_false', beq_iff_eq, bne_iff_ne, beq_eq_false_iff_ne, bne_eq_false_iff_eq, ne_eq, List.append_assoc, List.cons_append, List.nil_append, allS, @den_var0 E0.Δ ds, den_varA, den_varB, hl, Nat.reduceLT, Nat.reduceLeDiff, Nat.reduceSub, List.getD_cons_zero, List.getD_cons_succ, argL_fold ds, argI_fold ds, List.append_assoc, List.cons_append, List.nil_append, toInt_int, toBool_bool, xs_rows, xs_list, Int.toNat_natCast, Dat.bool.injEq, den_or, den_ite]
  unfold formD formN at h
  refine ⟨fun hb => ?_, fun hb => ?_⟩
  · rw [Bool.or_eq_true, decide_eq_true_eq, decide_eq_true_eq] at hb
    rw [if_pos (by omega)] at h; exact h
  rw [Bool.or_eq_false_iff, decide_eq_false_iff_not, decide_eq_false_iff_not] at hb
  have hk : ¬ (argI ds 0 < 0 ∨ 7 ≤ argI ds 0) := by omega
  clear hb
  rw [if_neg hk] at h
  generalize argI ds 0 = k at *
  have n1 : (argI ds 1 != 0) = !decide (argI ds 1 = 0) := rfl
  have n2 : (argI ds 2 != 0) = !decide (argI ds 2 = 0) := rfl
  have n3 : (argI ds 3 != 0) = !decide (argI ds 3 = 0) := rfl
  rw [n1, n2, n3] at h
  simp only [n2, n3]
  generalize decide (0 < ((argL ds 4).length : Int)) = l at *
  generalize argI ds 1 = x1 at *
  generalize argI ds 2 = x2 at *
  generalize argI ds 3 = x3 at *
  clear n1 n2 n3 hs hl
  rcases upto7 hk with rfl | rfl | rfl | rfl | rfl | rfl | rfl <;> clear hk <;> by_cases h1 : x1 = 0 <;> by_cases h2 : x2 = 0 <;> by_cases h3 : x3 = 0 <;> cases l <;> simp only [h1, h2, h3, decide_true, decide_false, Bool.not_true, Bool.not_false, Bool.and_false, Bool.false_and, Bool.true_and, Bool.false_or, Bool.true_or, Bool.or_false, not_true, not_false_iff, if_true, if_false, ite_true, ite_false] at h ⊢ <;> refine ⟨fun hx => ?_, fun hx => ?_⟩ <;> first | exact h | cases hx)
noncomputable def con_rForm26 : Con E0 := ⟨k_rForm26, sg_rForm26, rForm26_s, rfl, bo_rForm26, rForm26_h⟩
end Go.Proofs.YtbpbdanggilnpaaDoor
end

section
namespace Go.Proofs.YtbpbdanggilnpaaDoor
open Go.RowKit
set_option linter.unusedVariables false
set_option linter.unusedSimpArgs false

def firstE (f : List Dat → Int) : List (List Dat) → Int
  | [] => 0
  | a :: r => if f a = 0 then firstE f r else f a
theorem firstE_at (f : List Dat → Int) : ∀ {l : List (List Dat)} {k : Nat}, k < l.length → (∀ j, j < k → f (l.getD j []) = 0) → f (l.getD k []) ≠ 0 → firstE f l = f (l.getD k [])
  | [], k, h, _, _ => absurd h (Nat.not_lt_zero k)
  | a :: r, 0, h, _, hn => if_neg hn
  | a :: r, k + 1, h, h0, hn => by
    have h1 : f a = 0 := h0 0 (Nat.succ_pos k)
    show (if f a = 0 then firstE f r else f a) = _
    rw [if_pos h1]
    exact firstE_at f (Nat.lt_of_succ_lt_succ h) (fun j hj => h0 (j + 1) (Nat.succ_lt_succ hj)) hn
theorem firstE_0 (f : List Dat → Int) : ∀ {l : List (List Dat)}, (∀ j, j < l.length → f (l.getD j []) = 0) → firstE f l = 0
  | [], _ => rfl
  | a :: r, h => by
    show (if f a = 0 then firstE f r else f a) = _
    have h1 : f a = 0 := h 0 (Nat.succ_pos _)
    rw [if_pos h1]
    exact firstE_0 f fun j hj => h (j + 1) (Nat.succ_lt_succ hj)
theorem firstE_ne (f : List Dat → Int) {l : List (List Dat)} (h : firstE f l = 0) : ∀ j, j < l.length → f (l.getD j []) = 0 := by
  induction l with
  | nil => intro j hj; exact absurd hj (Nat.not_lt_zero j)
  | cons a r ih =>
    have h : (if f a = 0 then firstE f r else f a) = 0 := h
    by_cases ha : f a = 0
    · rw [if_pos ha] at h
      intro j hj
      match j with
      | 0 => exact ha
      | j + 1 => exact ih h j (Nat.lt_of_succ_lt_succ hj)
    · rw [if_neg ha] at h; exact absurd h ha
def decE (r : List Dat) : Int := formN (rowI r 0) (rowI r 1 != 0) (rowI r 2 != 0) (rowI r 3 != 0) (decide (0 < ((dLst r).length : Int)))
theorem formD_row (r : List Dat) : formD [r.getD 0 (.int .i64 0), r.getD 1 (.int .i64 0), r.getD 2 (.int .i64 0), r.getD 3 (.int .i64 0), r.getD 4 (dflt E0.Δ (.list 3))] = decE r := by
  unfold decE dLst
  rw [← getD_xs r 4 3]; rfl
abbrev opNum : List Dat := [Dat.int .i64 0, Dat.int .i64 1, Dat.int .i64 1, Dat.int .i64 2, Dat.int .i64 2, Dat.int .i64 2, Dat.int .i64 0, Dat.int .i64 2, Dat.int .i64 0]
abbrev opFrom : List Dat := [Dat.int .i64 1, Dat.int .i64 0, Dat.int .i64 0, Dat.int .i64 0, Dat.int .i64 1, Dat.int .i64 0, Dat.int .i64 1, Dat.int .i64 0, Dat.int .i64 0]
abbrev opTo : List Dat := [Dat.int .i64 1, Dat.int .i64 0, Dat.int .i64 0, Dat.int .i64 0, Dat.int .i64 16, Dat.int .i64 0, Dat.int .i64 5, Dat.int .i64 0, Dat.int .i64 0]
theorem upto9 {k : Int} (h : ¬ (k < 0 ∨ 9 ≤ k)) : k = 0 ∨ k = 1 ∨ k = 2 ∨ k = 3 ∨ k = 4 ∨ k = 5 ∨ k = 6 ∨ k = 7 ∨ k = 8 := by omega
theorem opTo_16 {k : Int} (h : ¬ (k < 0 ∨ 9 ≤ k)) : (opTo.getD k.toNat (.int .i64 0)).toInt ≤ 16 := by
  rcases upto9 h with rfl | rfl | rfl | rfl | rfl | rfl | rfl | rfl | rfl <;> decide
def opBad (k a b : Int) (n : Nat) : Bool :=
  (if (opNum.getD k.toNat (.int .i64 0)).toInt < 1 then (a != 0 || b != 0) else decide ((opNum.getD k.toNat (.int .i64 0)).toInt < 2) && b != 0) ||
  (decide ((n : Int) < (opFrom.getD k.toNat (.int .i64 0)).toInt) || decide ((opTo.getD k.toNat (.int .i64 0)).toInt < (n : Int)))
def opE (k a b : Int) (l : List (List Dat)) : Int := if k < 0 ∨ 9 ≤ k then 6 else if opBad k a b l.length = true then 2 else firstE decE l
def opD (ds : List Dat) : Int := opE (argI ds 0) (argI ds 1) (argI ds 2) (argL ds 3)
def k_sCheckOp : Nat := 30
def sg_sCheckOp : Sig := ⟨[(true, [.int .i64, .int .i64, .int .i64] ++ [.list 64])], [(false, [.err])], false, false, true, false, false, [], [], none⟩
def tr_sCheckOp : Tree := (.ite (.or (.cmp .lt (.var 0) (.int .i64 0)) (.cmp .ge (.var 0) (.int .i64 9)))
 (.ret [(.ifc (.int .i64 6))])
 (.ite (.ite (.cmp .lt (.sel (.econs (.int .i64 0) (.econs (.int .i64 1) (.econs (.int .i64 1) (.econs (.int .i64 2) (.econs (.int .i64 2) (.econs (.int .i64 2) (.econs (.int .i64 0) (.econs (.int .i64 2) (.econs (.int .i64 0) .enil))))))))) (.var 0) (.int .i64)) (.int .i64 1)) (.or (.cmp .ne (.var 1) (.int .i64 0)) (.cmp .ne (.var 2) (.int .i64 0))) (.and (.cmp .lt (.sel (.econs (.int .i64 0) (.econs (.int .i64 1) (.econs (.int .i64 1) (.econs (.int .i64 2) (.econs (.int .i64 2) (.econs (.int .i64 2) (.econs (.int .i64 0) (.econs (.int .i64 2) (.econs (.int .i64 0) .enil))))))))) (.var 0) (.int .i64)) (.int .i64 2)) (.cmp .ne (.var 2) (.int .i64 0))))
  (.ret [(.ifc (.int .i64 2))])
  (.ite (.or (.cmp .lt (.len (.var 3)) (.sel (.econs (.int .i64 1) (.econs (.int .i64 0) (.econs (.int .i64 0) (.econs (.int .i64 0) (.econs (.int .i64 1) (.econs (.int .i64 0) (.econs (.int .i64 1) (.econs (.int .i64 0) (.econs (.int .i64 0) .enil))))))))) (.var 0) (.int .i64))) (.cmp .gt (.len (.var 3)) (.sel (.econs (.int .i64 1) (.econs (.int .i64 0) (.econs (.int .i64 0) (.econs (.int .i64 0) (.econs (.int .i64 16) (.econs (.int .i64 0) (.econs (.int .i64 5) (.econs (.int .i64 0) (.econs (.int .i64 0) .enil))))))))) (.var 0) (.int .i64))))
   (.ret [(.ifc (.int .i64 2))])
   (.loop [.nili, (.int .i64 0)] [.err, (.int .i64)]
    (.ite (.cmp .lt (.var 5) (.len (.var 3)))
     (.ob (.cmp .ge (.var 5) (.int .i64 0))
     (.call k_dForm [(.elem (.var 3) (.var 5) 0 (.int .i64)), (.elem (.var 3) (.var 5) 1 (.int .i64)), (.elem (.var 3) (.var 5) 2 (.int .i64)), (.elem (.var 3) (.var 5) 3 (.int .i64)), (.elem (.var 3) (.var 5) 4 (.list 3))] [.err]
     (.ite (.not (.isnil (.var 6)))
      (.ret [(.var 6)])
      (.again 0 [(.var 4), (.ar .add .i64 (.var 5) (.int .i64 1))]))))
     (.ret [.nili]))))))
theorem wk_sCheckOp : walk E0.cx (sgsN [(41, sg_dForm)]) 0 30 sg_sCheckOp = tr_sCheckOp := by kernel_rfl
theorem bo_sCheckOp : ∃ x, bodyOf E0.P 30 = some x := bo_of (by kernel_rfl)
theorem sp_sCheckOp_dForm : specC [con_dForm] k_dForm = dForm_s := rfl
def sCheckOp_s : Spec := fun ds Q => Q [errV (opD ds)]
theorem sCheckOp_h : Holds E0 k_sCheckOp sg_sCheckOp sCheckOp_s := con_fn wf0 mix0 g0 [con_dForm] rfl wk_sCheckOp rfl (by
  intro Φ hΦ ds Q hs h
  have hl : ds.length = 4 := hs.length.symm
  have s1 : Φ k_dForm = dForm_s := by rw [hΦ]; rfl
  have h : Q [errV (opD ds)] := h
  clear hΦ
  simp only [tr_sCheckOp, wp, den_int, den_bool, den_nili, den_ar, den_cmp, den_not, den_len, den_elem, den_isnil, den_errI, den_ifc, den_rep, den_push, den_app, den_emp, den_upd, row0_econs, row0_enil, den_and, den_beq, den_nil, toInt_int, toBool_bool, xs_rows, xs_list, dflt_int, dflt_bool, of_eq, of_ne, of_lt, of_le, of_gt, of_ge, of_add, of_sub, of_rem, List.map_cons, List.map_nil, Dat.bool.injEq, decide_eq_true_eq, decide_eq_false_iff_not, Bool.not_eq_true', Bool.not_eq_false', beq_iff_eq, bne_iff_ne, beq_eq_false_iff_ne, bne_eq_false_iff_eq, ne_eq, List.append_assoc, List.cons_append, List.nil_append, allS, s1, dForm_s, @den_var0 E0.Δ ds, den_varA, den_varB, hl, Nat.reduceLT, Nat.reduceLeDiff, Nat.reduceSub, List.getD_cons_zero, List.getD_cons_succ, argL_fold ds, argI_fold ds, List.append_assoc, List.cons_append, List.nil_append, toInt_int, toBool_bool, xs_rows, xs_list, Int.toNat_natCast, Dat.bool.injEq, den_or, den_ite, den_sel, row0_econs, row0_enil, den_elem, den_len, @den_var0 E0.Δ ds, den_varA, den_varB, hl, Nat.reduceLT, Nat.reduceLeDiff, Nat.reduceSub, List.getD_cons_zero, List.getD_cons_succ, argL_fold ds, argI_fold ds, List.append_assoc, List.cons_append, List.nil_append, toInt_int, toBool_bool, xs_rows, xs_list, Int.toNat_natCast, Dat.bool.injEq, ite_datb, Dat.bool.injEq, formD_row, errV_nil]
  unfold opD opE at h
  refine ⟨fun hb => ?_, fun hb => ?_⟩
  · rw [if_pos (orT hb)] at h; exact h
  have hk := orF hb
  rw [if_neg hk] at h
  refine ⟨fun h1 => ?_, fun h1 => ⟨fun h2 => ?_, fun h2 => ?_⟩⟩
  · rw [if_pos (by unfold opBad; rw [h1]; rfl)] at h; exact h
  · rw [if_pos (by unfold opBad; rw [h2, Bool.or_true])] at h; exact h
  have hn : (argL ds 3).length ≤ 16 := by
    rw [Bool.or_eq_false_iff, decide_eq_false_iff_not, decide_eq_false_iff_not] at h2
    have h3 := h2.2
    have h4 := opTo_16 hk
    unfold opTo at h4
    omega
  rw [if_neg (by unfold opBad; rw [h1, h2]; exact Bool.false_ne_true)] at h
  clear h1 h2 hb
  generalize argL ds 3 = l at *
  refine ⟨fun xs m => ∃ (d : Dat) (i : Nat), i ≤ l.length ∧ m = l.length - i ∧ xs = [d, .int .i64 i] ∧ ∀ k, k < i → decE (l.getD k []) = 0, ⟨_, _, 0, by omega, rfl, rfl, fun k hk => absurd hk (by omega)⟩, ?_⟩
  rintro d hd n m ⟨_, i, hi, hm, e, hall⟩
  cases e
  refine ⟨fun hlt => ⟨by omega, ?_, ?_⟩, fun hge => ?_⟩
  · intro hne
    rw [Int.toNat_natCast] at hne ⊢
    rw [firstE_at decE (by omega) hall hne] at h
    exact h
  · intro he
    rw [Int.toNat_natCast] at he
    refine ⟨_, (by omega : l.length - (i + 1) < _), d, i + 1, by omega, rfl, by rw [wrap64 (by omega) (by omega)]; rfl, fun k hk => ?_⟩
    rcases Nat.lt_succ_iff_lt_or_eq.1 hk with hk | rfl
    · exact hall k hk
    · exact he
  · rw [firstE_0 decE fun j hj => hall j (by omega)] at h
    exact h)
noncomputable def con_sCheckOp : Con E0 := ⟨k_sCheckOp, sg_sCheckOp, sCheckOp_s, rfl, bo_sCheckOp, sCheckOp_h⟩
def k_rCheckOp : Nat := 36
def sg_rCheckOp : Sig := ⟨[(true, [.int .i64, .int .i64, .int .i64] ++ [.list 64])], [(false, [.int .i64])], false, false, true, false, false, [], [], none⟩
def tr_rCheckOp_1 : Tree := (.loop [(.int .i64 0), (.int .i64 0)] [(.int .i64), (.int .i64)] (.ite (.cmp .lt (.var 5) (.len (.var 3))) (.ob (.cmp .ge (.var 5) (.int .i64 0)) (.call k_rForm26 [(.elem (.var 3) (.var 5) 0 (.int .i64)), (.elem (.var 3) (.var 5) 1 (.int .i64)), (.elem (.var 3) (.var 5) 2 (.int .i64)), (.elem (.var 3) (.var 5) 3 (.int .i64)), (.elem (.var 3) (.var 5) 4 (.list 3))] [(.int .i64)] (.ite (.cmp .ne (.var 6) (.int .i64 0)) (.ret [(.var 6)]) (.again 0 [(.var 4), (.ar .add .i64 (.var 5) (.int .i64 1))])))) (.ret [(.int .i64 0)])))
def tr_rCheckOp : Tree := (.ite (.cmp .eq (.var 0) (.int .i64 0)) (.ite (.not (.and (.cmp .eq (.var 1) (.int .i64 0)) (.and (.cmp .eq (.var 2) (.int .i64 0)) (.cmp .eq (.len (.var 3)) (.int .i64 1))))) (.ret [(.int .i64 2)]) tr_rCheckOp_1) (.ite (.or (.cmp .eq (.var 0) (.int .i64 1)) (.cmp .eq (.var 0) (.int .i64 2))) (.ite (.not (.and (.cmp .eq (.var 2) (.int .i64 0)) (.cmp .eq (.len (.var 3)) (.int .i64 0)))) (.ret [(.int .i64 2)]) tr_rCheckOp_1) (.ite (.or (.cmp .eq (.var 0) (.int .i64 3)) (.or (.cmp .eq (.var 0) (.int .i64 5)) (.cmp .eq (.var 0) (.int .i64 7)))) (.ite (.not (.cmp .eq (.len (.var 3)) (.int .i64 0))) (.ret [(.int .i64 2)]) tr_rCheckOp_1) (.ite (.cmp .eq (.var 0) (.int .i64 4)) (.ite (.not (.and (.cmp .ge (.len (.var 3)) (.int .i64 1)) (.cmp .le (.len (.var 3)) (.int .i64 16)))) (.ret [(.int .i64 2)]) tr_rCheckOp_1) (.ite (.cmp .eq (.var 0) (.int .i64 6)) (.ite (.not (.and (.cmp .eq (.var 1) (.int .i64 0)) (.and (.cmp .eq (.var 2) (.int .i64 0)) (.and (.cmp .ge (.len (.var 3)) (.int .i64 1)) (.cmp .le (.len (.var 3)) (.int .i64 5)))))) (.ret [(.int .i64 2)]) tr_rCheckOp_1) (.ite (.cmp .eq (.var 0) (.int .i64 8)) (.ite (.not (.and (.cmp .eq (.var 1) (.int .i64 0)) (.and (.cmp .eq (.var 2) (.int .i64 0)) (.cmp .eq (.len (.var 3)) (.int .i64 0))))) (.ret [(.int .i64 2)]) tr_rCheckOp_1) (.ret [(.int .i64 6)])))))))
theorem wk_rCheckOp : walk E0.cx (sgsN [(45, sg_rForm26)]) 0 36 sg_rCheckOp = tr_rCheckOp := by kernel_rfl
theorem bo_rCheckOp : ∃ x, bodyOf E0.P 36 = some x := bo_of (by kernel_rfl)
theorem sp_rCheckOp_rForm26 : specC [con_rForm26] k_rForm26 = rForm26_s := rfl
def rCheckOp_s : Spec := fun ds Q => Q [.int .i64 (opD ds)]
theorem rCheckOp_1 {Φ : Nat → Spec} (s1 : Φ k_rForm26 = rForm26_s) {ds : List Dat} (hl : ds.length = 4) {Q : List Dat → Prop} (hn : (argL ds 3).length ≤ 16) (h : Q [.int .i64 (firstE decE (argL ds 3))]) : wp E0.Δ Φ Q tr_rCheckOp_1 ds [] := by
  simp only [tr_rCheckOp_1, wp, den_int, den_bool, den_nili, den_ar, den_cmp, den_not, den_len, den_elem, den_isnil, den_errI, den_ifc, den_rep, den_push, den_app, den_emp, den_upd, row0_econs, row0_enil, den_and, den_beq, den_nil, toInt_int, toBool_bool, xs_rows, xs_list, dflt_int, dflt_bool, of_eq, of_ne, of_lt, of_le, of_gt, of_ge, of_add, of_sub, of_rem, List.map_cons, List.map_nil, Dat.bool.injEq, decide_eq_true_eq, decide_eq_false_iff_not, Bool.not_eq_true', Bool.not_eq_false', beq_iff_eq, bne_iff_ne, beq_eq_false_iff_ne, bne_eq_false_iff_eq, ne_eq, List.append_assoc, List.cons_append, List.nil_append, allS, s1, rForm26_s, @den_var0 E0.Δ ds, den_varA, den_varB, hl, Nat.reduceLT, Nat.reduceLeDiff, Nat.reduceSub, List.getD_cons_zero, List.getD_cons_succ, argL_fold ds, argI_fold ds, List.append_assoc, List.cons_append, List.nil_append, toInt_int, toBool_bool, xs_rows, xs_list, Int.toNat_natCast, Dat.bool.injEq, formD_row]
  generalize argL ds 3 = l at *
  refine ⟨fun xs m => ∃ (d : Int) (i : Nat), i ≤ l.length ∧ m = l.length - i ∧ xs = [.int .i64 d, .int .i64 i] ∧ ∀ k, k < i → decE (l.getD k []) = 0, ⟨_, _, 0, by omega, rfl, rfl, fun k hk => absurd hk (by omega)⟩, ?_⟩
  rintro d n m ⟨_, i, hi, hm, e, hall⟩
  cases e
  refine ⟨fun hlt => ⟨by omega, ?_, ?_⟩, fun hge => ?_⟩
  · intro hne
    rw [Int.toNat_natCast] at hne ⊢
    rw [firstE_at decE (by omega) hall hne] at h
    exact h
  · intro he
    rw [Int.toNat_natCast] at he
    refine ⟨_, (by omega : l.length - (i + 1) < _), d, i + 1, by omega, rfl, by rw [wrap64 (by omega) (by omega)]; rfl, fun k hk => ?_⟩
    rcases Nat.lt_succ_iff_lt_or_eq.1 hk with hk | rfl
    · exact hall k hk
    · exact he
  · rw [firstE_0 decE fun j hj => hall j (by omega)] at h
    exact h
def opOk (k a b : Int) (n : Nat) : Bool :=
  if k = 0 then (a == 0 && (b == 0 && (n : Int) == 1)) else if (k == 1 || k == 2) = true then (b == 0 && (n : Int) == 0) else if (k == 3 || (k == 5 || k == 7)) = true then (n : Int) == 0 else
  if k = 4 then (decide (1 ≤ (n : Int)) && decide ((n : Int) ≤ 16)) else if k = 6 then (a == 0 && (b == 0 && (decide (1 ≤ (n : Int)) && decide ((n : Int) ≤ 5)))) else (a == 0 && (b == 0 && (n : Int) == 0))
theorem opOk_bad {k a b : Int} {n : Nat} (h : ¬ (k < 0 ∨ 9 ≤ k)) : opBad k a b n = !opOk k a b n := by
  rw [Bool.eq_iff_iff]
  rcases upto9 h with rfl | rfl | rfl | rfl | rfl | rfl | rfl | rfl | rfl <;> simp [opBad, opOk, Dat.toInt] <;> omega
theorem opOk_16 {k a b : Int} {n : Nat} (h : ¬ (k < 0 ∨ 9 ≤ k)) (ho : opOk k a b n = true) : n ≤ 16 := by
  rcases upto9 h with rfl | rfl | rfl | rfl | rfl | rfl | rfl | rfl | rfl <;> simp [opOk] at ho <;> omega
theorem rCheckOp_h : Holds E0 k_rCheckOp sg_rCheckOp rCheckOp_s := con_fn wf0 mix0 g0 [con_rForm26] rfl wk_rCheckOp rfl (by
  intro Φ hΦ ds Q hs h
  have hl : ds.length = 4 := hs.length.symm
  have s1 : Φ k_rForm26 = rForm26_s := by rw [hΦ]; rfl
  have h : Q [.int .i64 (opD ds)] := h
  clear hΦ
  unfold opD opE at h
  have good : ¬ (argI ds 0 < 0 ∨ 9 ≤ argI ds 0) → opOk (argI ds 0) (argI ds 1) (argI ds 2) (argL ds 3).length = true → wp E0.Δ Φ Q tr_rCheckOp_1 ds [] := fun hk ho =>
    rCheckOp_1 s1 hl (opOk_16 hk ho) (by rw [if_neg hk, opOk_bad hk, ho, if_neg (by decide)] at h; exact h)
  have bad : ¬ (argI ds 0 < 0 ∨ 9 ≤ argI ds 0) → opOk (argI ds 0) (argI ds 1) (argI ds 2) (argL ds 3).length = false → Q [.int .i64 2] := fun hk ho => by
    rw [if_neg hk, opOk_bad hk, ho, if_pos (by decide)] at h; exact h
  have none : (argI ds 0 < 0 ∨ 9 ≤ argI ds 0) → Q [.int .i64 6] := fun hk => by rw [if_pos hk] at h; exact h
  clear h
  simp only [tr_rCheckOp, wp, den_int, den_bool, den_nili, den_ar, den_cmp, den_not, den_len, den_elem, den_isnil, den_errI, den_ifc, den_rep, den_push, den_app, den_emp, den_upd, row0_econs, row0_enil, den_and, den_beq, den_nil, toInt_int, toBool_bool, xs_rows, xs_list, dflt_int, dflt_bool, of_eq, of_ne, of_lt, of_le, of_gt, of_ge, of_add, of_sub, of_rem, List.map_cons, List.map_nil, Dat.bool.injEq, decide_eq_true_eq, decide_eq_false_iff_not, Bool.not_eq_true', Bool.not_eq_false', beq_iff_eq, bne_iff_ne, beq_eq_false_iff_ne, bne_eq_false_iff_eq, ne_eq, List.append_assoc, List.cons_append, List.nil_append, allS, @den_var0 E0.Δ ds, den_varA, den_varB, hl, Nat.reduceLT, Nat.reduceLeDiff, Nat.reduceSub, List.getD_cons_zero, List.getD_cons_succ, argL_fold ds, argI_fold ds, List.append_assoc, List.cons_append, List.nil_append, toInt_int, toBool_bool, xs_rows, xs_list, Int.toNat_natCast, Dat.bool.injEq, den_or]
  unfold opOk at good bad
  generalize argI ds 0 = k at *
  have k1 : ((k == 1 || k == 2) = true) ↔ (k = 1 ∨ k = 2) := by simp
  have k3 : ((k == 3 || (k == 5 || k == 7)) = true) ↔ (k = 3 ∨ k = 5 ∨ k = 7) := by simp
  refine ⟨fun e0 => ⟨fun c => bad (by omega) (by rw [if_pos e0]; exact c), fun c => good (by omega) (by rw [if_pos e0]; exact c)⟩, fun e0 => ⟨fun e1 => ?_, fun e1 => ⟨fun e3 => ?_, fun e3 => ⟨fun e4 => ⟨fun c => bad (by omega) ?_, fun c => good (by omega) ?_⟩, fun e4 => ⟨fun e6 => ⟨fun c => bad (by omega) ?_, fun c => good (by omega) ?_⟩, fun e6 => ⟨fun e8 => ⟨fun c => bad (by omega) ?_, fun c => good (by omega) ?_⟩, fun e8 => none ?_⟩⟩⟩⟩⟩⟩
  · have := k1.1 e1
    exact ⟨fun c => bad (by omega) (by rw [if_neg e0, if_pos e1]; exact c), fun c => good (by omega) (by rw [if_neg e0, if_pos e1]; exact c)⟩
  · have := k3.1 e3
    exact ⟨fun c => bad (by omega) (by rw [if_neg e0, if_neg (bF e1), if_pos e3]; exact beq_eq_false_iff_ne.2 c), fun c => good (by omega) (by rw [if_neg e0, if_neg (bF e1), if_pos e3]; exact beq_iff_eq.2 c)⟩
  · rw [if_neg e0, if_neg (bF e1), if_neg (bF e3), if_pos e4]; exact c
  · rw [if_neg e0, if_neg (bF e1), if_neg (bF e3), if_pos e4]; exact c
  · rw [if_neg e0, if_neg (bF e1), if_neg (bF e3), if_neg e4, if_pos e6]; exact c
  · rw [if_neg e0, if_neg (bF e1), if_neg (bF e3), if_neg e4, if_pos e6]; exact c
  · rw [if_neg e0, if_neg (bF e1), if_neg (bF e3), if_neg e4, if_neg e6]; exact c
  · rw [if_neg e0, if_neg (bF e1), if_neg (bF e3), if_neg e4, if_neg e6]; exact c
  · have a1 : ¬ (k = 1 ∨ k = 2) := fun hx => bF e1 (k1.2 hx)
    have a3 : ¬ (k = 3 ∨ k = 5 ∨ k = 7) := fun hx => bF e3 (k3.2 hx)
    omega)
noncomputable def con_rCheckOp : Con E0 := ⟨k_rCheckOp, sg_rCheckOp, rCheckOp_s, rfl, bo_rCheckOp, rCheckOp_h⟩
end Go.Proofs.YtbpbdanggilnpaaDoor
end

section
namespace Go.Proofs.YtbpbdanggilnpaaDoor
open Go.RowKit
set_option linter.unusedVariables false
set_option linter.unusedSimpArgs false

def opR (r : List Dat) : Int := opE (rowI r 0) (rowI r 1) (rowI r 2) (oDo r)
theorem opD_row (r : List Dat) : opD [r.getD 0 (.int .i64 0), r.getD 1 (.int .i64 0), r.getD 2 (.int .i64 0), r.getD 3 (dflt E0.Δ (.list 64))] = opR r := by
  unfold opR oDo
  rw [← getD_xs r 3 64]; rfl
def scrN (d0 d1 : List Int) (n : Nat) (ops : List (List Dat)) : Int :=
  if dk.deckN d0 ≠ 0 then dk.deckN d0 else if dk.deckN d1 ≠ 0 then dk.deckN d1 else if 4096 < n then 19 else if 1000 < ops.length then 19 else firstE opR ops
def scrD (ds : List Dat) : Int := scrN (nums (argL ds 0)) (nums (argL ds 1)) (argL ds 2).length (argL ds 3)
def k_sCheck : Nat := 15
def sg_sCheck : Sig := ⟨[(true, [.list 3, .list 3, .list 3] ++ [.list 68])], [(false, [.err])], false, true, true, false, false, [], [], none⟩
def tr_sCheck : Tree := (.call k_tDeck [(.var 0)] [.err]
(.ite (.not (.isnil (.var 4)))
 (.ret [(.var 4)])
 (.call k_tDeck [(.var 1)] [.err]
 (.ite (.not (.isnil (.var 5)))
  (.ret [(.var 5)])
  (.ite (.not (.isnil (.ite (.cmp .gt (.len (.var 2)) (.int .i64 4096)) (.ifc (.int .i64 19)) .nili)))
   (.ret [(.ite (.cmp .gt (.len (.var 2)) (.int .i64 4096)) (.ifc (.int .i64 19)) .nili)])
   (.ite (.cmp .gt (.len (.var 3)) (.int .i64 1000))
    (.ret [(.ifc (.int .i64 19))])
    (.loop [.nili, (.int .i64 0)] [.err, (.int .i64)]
     (.ite (.cmp .lt (.var 7) (.len (.var 3)))
      (.ob (.cmp .ge (.var 7) (.int .i64 0))
      (.call k_sCheckOp [(.elem (.var 3) (.var 7) 0 (.int .i64)), (.elem (.var 3) (.var 7) 1 (.int .i64)), (.elem (.var 3) (.var 7) 2 (.int .i64)), (.elem (.var 3) (.var 7) 3 (.list 64))] [.err]
      (.ite (.not (.isnil (.var 8)))
       (.ret [(.var 8)])
       (.again 0 [(.var 6), (.ar .add .i64 (.var 7) (.int .i64 1))]))))
      (.ret [.nili])))))))))
theorem wk_sCheck : walk E0.cx (sgsN [(28, sg_tDeck), (30, sg_sCheckOp)]) 0 15 sg_sCheck = tr_sCheck := by kernel_rfl
theorem bo_sCheck : ∃ x, bodyOf E0.P 15 = some x := bo_of (by kernel_rfl)
theorem sp_sCheck_tDeck : specC [con_tDeck, con_sCheckOp] k_tDeck = tDeck_s := rfl
theorem sp_sCheck_sCheckOp : specC [con_tDeck, con_sCheckOp] k_sCheckOp = sCheckOp_s := rfl
def sCheck_s : Spec := fun ds Q => in64s (nums (argL ds 0)) ∧ in64s (nums (argL ds 1)) ∧ Q [errV (scrD ds)]
theorem sCheck_h : Holds E0 k_sCheck sg_sCheck sCheck_s := con_fn wf0 mix0 g0 [con_tDeck, con_sCheckOp] rfl wk_sCheck rfl (by
  intro Φ hΦ ds Q hs ⟨i0, i1, h⟩
  have hl : ds.length = 4 := hs.length.symm
  have s1 : Φ k_tDeck = tDeck_s := by rw [hΦ]; rfl
  have s2 : Φ k_sCheckOp = sCheckOp_s := by rw [hΦ]; rfl
  clear hΦ
  simp only [tr_sCheck, wp, den_int, den_bool, den_nili, den_ar, den_cmp, den_not, den_len, den_elem, den_isnil, den_errI, den_ifc, den_rep, den_push, den_app, den_emp, den_upd, row0_econs, row0_enil, den_and, den_beq, den_nil, toInt_int, toBool_bool, xs_rows, xs_list, dflt_int, dflt_bool, of_eq, of_ne, of_lt, of_le, of_gt, of_ge, of_add, of_sub, of_rem, List.map_cons, List.map_nil, Dat.bool.injEq, decide_eq_true_eq, decide_eq_false_iff_not, Bool.not_eq_true', Bool.not_eq_false', beq_iff_eq, bne_iff_ne, beq_eq_false_iff_ne, bne_eq_false_iff_eq, ne_eq, List.append_assoc, List.cons_append, List.nil_append, allS, s1, s2, tDeck_s, sCheckOp_s, @den_var0 E0.Δ ds, den_varA, den_varB, hl, Nat.reduceLT, Nat.reduceLeDiff, Nat.reduceSub, List.getD_cons_zero, List.getD_cons_succ, argL_fold ds, argI_fold ds, List.append_assoc, List.cons_append, List.nil_append, toInt_int, toBool_bool, xs_rows, xs_list, Int.toNat_natCast, Dat.bool.injEq, den_or, den_ite, argL_c0, opD_row, errV_nil]
  unfold scrD scrN at h
  refine ⟨i0, fun h0 => ?_, fun h0 => ⟨i1, fun h1 => ?_, fun h1 => ?_⟩⟩
  · rw [if_pos h0] at h; exact h
  · rw [if_neg (fun hx => hx h0), if_pos h1] at h; exact h
  rw [if_neg (fun hx => hx h0), if_neg (fun hx => hx h1)] at h
  by_cases h2 : 4096 < (argL ds 2).length
  · have h3 : (4096 : Int) < ((argL ds 2).length : Int) := by omega
    rw [if_pos h2] at h
    simp only [if_pos h3]
    exact ⟨fun _ => h, fun hx => Bool.noConfusion hx⟩
  have h3 : ¬ (4096 : Int) < ((argL ds 2).length : Int) := by omega
  rw [if_neg h2] at h
  simp only [if_neg h3]
  refine ⟨fun hx => Bool.noConfusion hx, fun _ => ⟨fun h4 => ?_, fun h4 => ?_⟩⟩
  · rw [if_pos (by omega)] at h; exact h
  rw [if_neg (by omega)] at h
  generalize argL ds 3 = l at *
  refine ⟨fun xs m => ∃ (d : Dat) (i : Nat), i ≤ l.length ∧ m = l.length - i ∧ xs = [d, .int .i64 i] ∧ ∀ k, k < i → opR (l.getD k []) = 0, ⟨_, _, 0, by omega, rfl, rfl, fun k hk => absurd hk (by omega)⟩, ?_⟩
  rintro d hd n m ⟨_, i, hi, hm, e, hall⟩
  cases e
  refine ⟨fun hlt => ⟨by omega, ?_, ?_⟩, fun hge => ?_⟩
  · intro hne
    rw [Int.toNat_natCast] at hne ⊢
    rw [firstE_at opR (by omega) hall hne] at h
    exact h
  · intro he
    rw [Int.toNat_natCast] at he
    refine ⟨_, (by omega : l.length - (i + 1) < _), d, i + 1, by omega, rfl, by rw [wrap64 (by omega) (by omega)]; rfl, fun k hk => ?_⟩
    rcases Nat.lt_succ_iff_lt_or_eq.1 hk with hk | rfl
    · exact hall k hk
    · exact he
  · rw [firstE_0 opR fun j hj => hall j (by omega)] at h
    exact h)
noncomputable def con_sCheck : Con E0 := ⟨k_sCheck, sg_sCheck, sCheck_s, rfl, bo_sCheck, sCheck_h⟩
def k_rCheck : Nat := 20
def sg_rCheck : Sig := ⟨[(true, [.list 3, .list 3, .list 3] ++ [.list 62])], [(false, [.int .i64])], false, false, true, false, false, [], [], none⟩
def tr_rCheck : Tree := (.call k_rDeck [(.var 0)] [(.int .i64)]
(.ite (.cmp .ne (.var 4) (.int .i64 0))
 (.ret [(.var 4)])
 (.call k_rDeck [(.var 1)] [(.int .i64)]
 (.ite (.cmp .ne (.var 5) (.int .i64 0))
  (.ret [(.var 5)])
  (.ite (.or (.cmp .gt (.len (.var 2)) (.int .i64 4096)) (.cmp .gt (.len (.var 3)) (.int .i64 1000)))
   (.ret [(.int .i64 19)])
   (.loop [(.int .i64 0), (.int .i64 0)] [(.int .i64), (.int .i64)]
    (.ite (.cmp .lt (.var 7) (.len (.var 3)))
     (.ob (.cmp .ge (.var 7) (.int .i64 0))
     (.call k_rCheckOp [(.elem (.var 3) (.var 7) 0 (.int .i64)), (.elem (.var 3) (.var 7) 1 (.int .i64)), (.elem (.var 3) (.var 7) 2 (.int .i64)), (.elem (.var 3) (.var 7) 3 (.list 64))] [(.int .i64)]
     (.ite (.cmp .ne (.var 8) (.int .i64 0))
      (.ret [(.var 8)])
      (.again 0 [(.var 6), (.ar .add .i64 (.var 7) (.int .i64 1))]))))
     (.ret [(.int .i64 0)]))))))))
theorem wk_rCheck : walk E0.cx (sgsN [(35, sg_rDeck), (36, sg_rCheckOp)]) 0 20 sg_rCheck = tr_rCheck := by kernel_rfl
theorem bo_rCheck : ∃ x, bodyOf E0.P 20 = some x := bo_of (by kernel_rfl)
theorem sp_rCheck_rDeck : specC [con_rDeck, con_rCheckOp] k_rDeck = rDeck_s := rfl
theorem sp_rCheck_rCheckOp : specC [con_rDeck, con_rCheckOp] k_rCheckOp = rCheckOp_s := rfl
def rCheck_s : Spec := fun ds Q => Q [.int .i64 (scrD ds)]
theorem rCheck_h : Holds E0 k_rCheck sg_rCheck rCheck_s := con_fn wf0 mix0 g0 [con_rDeck, con_rCheckOp] rfl wk_rCheck rfl (by
  intro Φ hΦ ds Q hs h
  have hl : ds.length = 4 := hs.length.symm
  have s1 : Φ k_rDeck = rDeck_s := by rw [hΦ]; rfl
  have s2 : Φ k_rCheckOp = rCheckOp_s := by rw [hΦ]; rfl
  have h : Q [.int .i64 (scrD ds)] := h
  clear hΦ
  simp only [tr_rCheck, wp, den_int, den_bool, den_nili, den_ar, den_cmp, den_not, den_len, den_elem, den_isnil, den_errI, den_ifc, den_rep, den_push, den_app, den_emp, den_upd, row0_econs, row0_enil, den_and, den_beq, den_nil, toInt_int, toBool_bool, xs_rows, xs_list, dflt_int, dflt_bool, of_eq, of_ne, of_lt, of_le, of_gt, of_ge, of_add, of_sub, of_rem, List.map_cons, List.map_nil, Dat.bool.injEq, decide_eq_true_eq, decide_eq_false_iff_not, Bool.not_eq_true', Bool.not_eq_false', beq_iff_eq, bne_iff_ne, beq_eq_false_iff_ne, bne_eq_false_iff_eq, ne_eq, List.append_assoc, List.cons_append, List.nil_append, allS, s1, s2, rDeck_s, rCheckOp_s, @den_var0 E0.Δ ds, den_varA, den_varB, hl, Nat.reduceLT, Nat.reduceLeDiff, Nat.reduceSub, List.getD_cons_zero, List.getD_cons_succ, argL_fold ds, argI_fold ds, List.append_assoc, List.cons_append, List.nil_append, toInt_int, toBool_bool, xs_rows, xs_list, Int.toNat_natCast, Dat.bool.injEq, den_or, den_ite, argL_c0, opD_row]
  unfold scrD scrN at h
  refine ⟨fun h0 => ?_, fun h0 => ⟨fun h1 => ?_, fun h1 => ?_⟩⟩
  · rw [if_pos h0] at h; exact h
  · rw [if_neg (fun hx => hx h0), if_pos h1] at h; exact h
  rw [if_neg (fun hx => hx h0), if_neg (fun hx => hx h1)] at h
  refine ⟨fun h2 => ?_, fun h2 => ?_⟩
  · rw [Bool.or_eq_true, decide_eq_true_eq, decide_eq_true_eq] at h2
    by_cases h3 : 4096 < (argL ds 2).length
    · rw [if_pos h3] at h; exact h
    · rw [if_neg h3, if_pos (by omega)] at h; exact h
  rw [Bool.or_eq_false_iff, decide_eq_false_iff_not, decide_eq_false_iff_not] at h2
  rw [if_neg (by omega), if_neg (by omega)] at h
  generalize argL ds 3 = l at *
  refine ⟨fun xs m => ∃ (d : Int) (i : Nat), i ≤ l.length ∧ m = l.length - i ∧ xs = [.int .i64 d, .int .i64 i] ∧ ∀ k, k < i → opR (l.getD k []) = 0, ⟨_, _, 0, by omega, rfl, rfl, fun k hk => absurd hk (by omega)⟩, ?_⟩
  rintro d n m ⟨_, i, hi, hm, e, hall⟩
  cases e
  refine ⟨fun hlt => ⟨by omega, ?_, ?_⟩, fun hge => ?_⟩
  · intro hne
    rw [Int.toNat_natCast] at hne ⊢
    rw [firstE_at opR (by omega) hall hne] at h
    exact h
  · intro he
    rw [Int.toNat_natCast] at he
    refine ⟨_, (by omega : l.length - (i + 1) < _), d, i + 1, by omega, rfl, by rw [wrap64 (by omega) (by omega)]; rfl, fun k hk => ?_⟩
    rcases Nat.lt_succ_iff_lt_or_eq.1 hk with hk | rfl
    · exact hall k hk
    · exact he
  · rw [firstE_0 opR fun j hj => hall j (by omega)] at h
    exact h)
noncomputable def con_rCheck : Con E0 := ⟨k_rCheck, sg_rCheck, rCheck_s, rfl, bo_rCheck, rCheck_h⟩
end Go.Proofs.YtbpbdanggilnpaaDoor
end

section
namespace Go.Proofs.YtbpbdanggilnpaaDoor
open Go.RowKit
set_option linter.unusedVariables false
set_option linter.unusedSimpArgs false

def lstB (l : List (List Dat)) : List Nat := encs ((l.length : Int) :: nums l)
theorem lstB_len (l : List (List Dat)) : (lstB l).length ≤ 10 * l.length + 10 := by
  have := encs_len ((l.length : Int) :: nums l)
  rw [List.length_cons, nums_len] at this
  unfold lstB
  omega
theorem encs_cons (n : Int) (l : List Int) : encs (n :: l) = mth.encI n ++ encs l := rfl
theorem encI_len (n : Int) : (mth.encI n).length ≤ 10 := (mth.enc_len _).2
-- lacks mulligan/mulliganref02.List : rList2
def rList2_s : Spec := fun ds Q => (argL ds 0).length ≤ 1000000 ∧ (∀ n ∈ nums (argL ds 0), okN n) ∧ Q [.rows (u8R (lstB (argL ds 0)))]
def encD (r : List Dat) : List Nat := encs [rowI r 0, rowI r 1, rowI r 2, rowI r 3] ++ lstB (dLst r)
def hdO (r : List Dat) : List Nat := encs [rowI r 0, rowI r 1, rowI r 2, ((oDo r).length : Int)]
def encO (r : List Dat) : List Nat := hdO r ++ (oDo r).flatMap encD
def hdS (ds : List Dat) : List Nat := lstB (argL ds 0) ++ lstB (argL ds 1) ++ lstB (argL ds 2) ++ encs [((argL ds 3).length : Int)]
def encS (ds : List Dat) : List Nat := hdS ds ++ (argL ds 3).flatMap encO
theorem flat_le {f : List Dat → List Nat} {b : Nat} : ∀ {l : List (List Dat)}, (∀ i, i < l.length → (f (l.getD i [])).length ≤ b) → (l.flatMap f).length ≤ b * l.length
  | [], _ => Nat.le_refl _
  | a :: r, h => by
    have h0 : (f a).length ≤ b := h 0 (Nat.succ_pos _)
    have h1 := flat_le (l := r) fun i hi => h (i + 1) (Nat.succ_lt_succ hi)
    rw [List.flatMap_cons, List.length_append, List.length_cons, Nat.mul_succ]
    omega
theorem flat_take_le {f : List Dat → List Nat} (l : List (List Dat)) (k : Nat) : ((l.take k).flatMap f).length ≤ (l.flatMap f).length := by
  conv => rhs; rw [← List.take_append_drop k l, List.flatMap_append, List.length_append]
  exact Nat.le_add_right _ _
theorem flat_succ {f : List Dat → List Nat} {l : List (List Dat)} {k : Nat} (h : k < l.length) : (l.take (k + 1)).flatMap f = (l.take k).flatMap f ++ f (l.getD k []) := by
  rw [take_succ_getD (d := []) h, List.flatMap_append, List.flatMap_cons, List.flatMap_nil, List.append_nil]
/-- small enough, and numbers that are ints -/
def SmD (r : List Dat) : Prop := (dLst r).length ≤ 400 ∧ okN (rowI r 0) ∧ okN (rowI r 1) ∧ okN (rowI r 2) ∧ okN (rowI r 3) ∧ ∀ n ∈ nums (dLst r), okN n
def SmP (r : List Dat) : Prop := (oDo r).length ≤ 20 ∧ okN (rowI r 0) ∧ okN (rowI r 1) ∧ okN (rowI r 2) ∧ ∀ k, k < (oDo r).length → SmD ((oDo r).getD k [])
def SmS (ds : List Dat) : Prop := (argL ds 2).length ≤ 5000 ∧ (argL ds 3).length ≤ 1010 ∧ (∀ i, i < 3 → ∀ n ∈ nums (argL ds i), okN n) ∧ ∀ i, i < (argL ds 3).length → SmP ((argL ds 3).getD i [])
theorem encs4_len (a b c d : Int) : (encs [a, b, c, d]).length ≤ 40 := encs_len _
theorem encD_len {r : List Dat} (h : SmD r) : (encD r).length ≤ 4050 := by
  have h1 := lstB_len (dLst r)
  have h2 := encs4_len (rowI r 0) (rowI r 1) (rowI r 2) (rowI r 3)
  have := h.1
  unfold encD
  rw [List.length_append]
  omega
theorem do_len {r : List Dat} (h : SmP r) (k : Nat) : (((oDo r).take k).flatMap encD).length ≤ 81000 := by
  have h1 := flat_take_le (f := encD) (oDo r) k
  have h2 := flat_le (f := encD) (b := 4050) (l := oDo r) fun i hi => encD_len (h.2.2.2.2 i hi)
  have := h.1
  omega
theorem encO_len {r : List Dat} (h : SmP r) : (encO r).length ≤ 81040 := by
  have h1 := do_len h (oDo r).length
  rw [List.take_length] at h1
  have h2 := encs4_len (rowI r 0) (rowI r 1) (rowI r 2) ((oDo r).length : Int)
  unfold encO hdO
  rw [List.length_append]
  omega
theorem ops_len {l : List (List Dat)} (hl : l.length ≤ 1010) (h : ∀ i, i < l.length → SmP (l.getD i [])) (k : Nat) : ((l.take k).flatMap encO).length ≤ 81850400 := by
  have h1 := flat_take_le (f := encO) l k
  have h2 := flat_le (f := encO) (b := 81040) (l := l) fun i hi => encO_len (h i hi)
  omega
theorem deck_100 {l : List Int} (h : dk.deckN l = 0) : l.length ≤ 100 := by
  unfold dk.deckN at h
  split at h
  · cases h
  · omega
theorem scr_0 {ds : List Dat} (h : scrD ds = 0) : (argL ds 0).length ≤ 100 ∧ (argL ds 1).length ≤ 100 := by
  unfold scrD scrN at h
  by_cases h0 : dk.deckN (nums (argL ds 0)) = 0
  · rw [if_neg (fun hx => hx h0)] at h
    by_cases h1 : dk.deckN (nums (argL ds 1)) = 0
    · exact ⟨by have := deck_100 h0; rwa [nums_len] at this, by have := deck_100 h1; rwa [nums_len] at this⟩
    · rw [if_pos h1] at h; exact absurd h h1
  · rw [if_pos h0] at h; exact absurd h h0
theorem hdS_len {ds : List Dat} (h : scrD ds = 0) (hs : SmS ds) : (hdS ds).length ≤ 52040 := by
  have ⟨h0, h1⟩ := scr_0 h
  have h2 := hs.1
  have l0 := lstB_len (argL ds 0)
  have l1 := lstB_len (argL ds 1)
  have l2 := lstB_len (argL ds 2)
  have l3 := encs_len [((argL ds 3).length : Int)]
  unfold hdS
  simp only [List.length_append, List.length_cons, List.length_nil] at *
  omega
end Go.Proofs.YtbpbdanggilnpaaDoor
end

section
namespace Go.Proofs.YtbpbdanggilnpaaDoor
open Go.RowKit
set_option linter.unusedVariables false
set_option linter.unusedSimpArgs false

abbrev P1 (α : Type) := List Nat → Except Int (α × List Nat)
def bnd {α β : Type} (p : P1 α) (f : α → P1 β) : P1 β := fun l => match p l with
  | .ok (x, r) => f x r
  | .error n => .error n
def unit {α : Type} (x : α) : P1 α := fun l => .ok (x, l)
def bad {α : Type} (n : Int) : P1 α := fun _ => .error n
def pN : P1 Int := fun l => if (mth.tk 0 0 l).2.2 = 0 then .ok ((mth.tk 0 0 l).1, l.drop (mth.tk 0 0 l).2.1) else .error (mth.tk 0 0 l).2.2
def pL (most : Int) : P1 (List Int) := fun l => if (mth.tkL l most).2.2 = 0 then .ok ((mth.tkL l most).1, (mth.tkL l most).2.1) else .error (mth.tkL l most).2.2
def pC (most : Int) : P1 Int := bnd pN fun n => if n < 0 then bad 1 else if most < n then bad 19 else unit n
def pMany {α : Type} (p : P1 α) : Nat → P1 (List α)
  | 0 => unit []
  | n + 1 => bnd p fun x => bnd (pMany p n) fun xs => unit (x :: xs)
abbrev DecT := Int × Int × Int × Int × List Int
abbrev OpT := Int × Int × Int × List DecT
abbrev ScrT := List Int × List Int × List Int × List OpT
def pD : P1 DecT := bnd pN fun a => bnd pN fun b => bnd pN fun c => bnd pN fun d => bnd (pL 400) fun l => unit (a, b, c, d, l)
def pO : P1 OpT := bnd pN fun a => bnd pN fun b => bnd pN fun c => bnd (pC 16) fun n => bnd (pMany pD n.toNat) fun l => unit (a, b, c, l)
def pS : P1 ScrT := bnd (pL 100) fun a => bnd (pL 100) fun b => bnd (pL 4096) fun c => bnd (pC 1000) fun n => bnd (pMany pO n.toNat) fun l => unit (a, b, c, l)
/-- what follows of what is taken -/
def Run {α : Type} (p : P1 α) (l : List Nat) (K : α → List Nat → Prop) (E : Int → Prop) : Prop := match p l with
  | .ok (x, r) => K x r
  | .error n => E n
theorem Run_bnd {α β : Type} (p : P1 α) (f : α → P1 β) (l : List Nat) (K : β → List Nat → Prop) (E : Int → Prop) : Run (bnd p f) l K E = Run p l (fun x r => Run (f x) r K E) E := by
  unfold Run bnd
  cases p l with
  | error n => rfl
  | ok q => rfl
theorem Run_unit {α : Type} (x : α) (l : List Nat) (K : α → List Nat → Prop) (E : Int → Prop) : Run (unit x) l K E = K x l := rfl
theorem Run_bad {α : Type} (n : Int) (l : List Nat) (K : α → List Nat → Prop) (E : Int → Prop) : Run (bad n) l K E = E n := rfl
theorem Run.mono {α : Type} {p : P1 α} {l : List Nat} {K K' : α → List Nat → Prop} {E E' : Int → Prop} (h : Run p l K E) (h1 : ∀ x r, p l = .ok (x, r) → K x r → K' x r) (h2 : ∀ n, p l = .error n → E n → E' n) : Run p l K' E' := by
  unfold Run at *
  cases e : p l with
  | error n => rw [e] at h; exact h2 n e h
  | ok q => rw [e] at h; exact h1 q.1 q.2 e h
/-- what is left is the end of what there was -/
def Sfx {α : Type} (p : P1 α) : Prop := ∀ l x r, bytes l → p l = .ok (x, r) → ∃ k, r = l.drop k
theorem Sfx.unit {α : Type} (x : α) : Sfx (unit x) := fun l y r _ h => by cases h; exact ⟨0, rfl⟩
theorem Sfx.bad {α : Type} (n : Int) : Sfx (bad (α := α) n) := fun l y r _ h => by cases h
theorem Sfx.bnd {α β : Type} {p : P1 α} {f : α → P1 β} (h1 : Sfx p) (h2 : ∀ x, Sfx (f x)) : Sfx (bnd p f) := fun l y r hb h => by
  unfold Go.Proofs.YtbpbdanggilnpaaDoor.bnd at h
  cases e : p l with
  | error n => rw [e] at h; cases h
  | ok q =>
    rw [e] at h
    obtain ⟨k, hk⟩ := h1 l q.1 q.2 hb e
    obtain ⟨k', hk'⟩ := h2 q.1 q.2 y r (by rw [hk]; exact bytes_drop hb k) h
    exact ⟨k + k', by rw [hk', hk, List.drop_drop]⟩
theorem sfx_N : Sfx pN := fun l x r _ h => by
  unfold pN at h
  split at h
  · cases h; exact ⟨_, rfl⟩
  · cases h
theorem sfx_L (most : Int) : Sfx (pL most) := fun l x r hb h => by
  unfold pL at h
  split at h
  · rename_i h0
    cases h
    have := mth.tkL_canon l most (mth.tkL l most).1 (mth.tkL l most).2.1 hb (by rw [← h0])
    refine ⟨(mth.encL (mth.tkL l most).1).length, ?_⟩
    have e := congrArg (List.drop (mth.encL (mth.tkL l most).1).length) this.1
    rw [List.drop_left] at e
    exact e
  · cases h
theorem sfx_C (most : Int) : Sfx (pC most) := sfx_N.bnd fun n => by
  split
  · exact Sfx.bad _
  · split
    · exact Sfx.bad _
    · exact Sfx.unit _
theorem sfx_many {α : Type} {p : P1 α} (h : Sfx p) : ∀ n, Sfx (pMany p n)
  | 0 => Sfx.unit _
  | n + 1 => h.bnd fun x => (sfx_many h n).bnd fun xs => Sfx.unit _
theorem sfx_D : Sfx pD := sfx_N.bnd fun _ => sfx_N.bnd fun _ => sfx_N.bnd fun _ => sfx_N.bnd fun _ => (sfx_L 400).bnd fun _ => Sfx.unit _
theorem sfx_O : Sfx pO := sfx_N.bnd fun _ => sfx_N.bnd fun _ => sfx_N.bnd fun _ => (sfx_C 16).bnd fun _ => (sfx_many sfx_D _).bnd fun _ => Sfx.unit _
/-- bytes that may be taken from -/
def Bts (l : List Nat) : Prop := bytes l ∧ l.length ≤ 90000000
theorem Bts.of {α : Type} {p : P1 α} (hp : Sfx p) {l r : List Nat} {x : α} (h : Bts l) (e : p l = .ok (x, r)) : Bts r := by
  obtain ⟨k, rfl⟩ := hp l x r h.1 e
  exact ⟨bytes_drop h.1 k, by rw [List.length_drop]; have := h.2; omega⟩
/-- a reader's contract: from bytes at place i of the arguments -/
def rdS {α : Type} (i : Nat) (p : List Dat → P1 α) (enc : α → List Dat → Prop) : Spec := fun ds Q => ∃ l, argL ds i = u8R l ∧ Bts l ∧ Run (p ds) l (fun x r => ∀ rs d, enc x rs → d.xs = u8R r → Q (.bool true :: (rs ++ [d]))) (fun n => Q [.bool false, errV n])
section
variable {l : List Nat} {most : Int} {E : Int → Prop}
theorem Run_N0 {K : Int → List Nat → Prop} (h0 : (mth.tk 0 0 l).2.2 = 0) : Run pN l K E = K (mth.tk 0 0 l).1 (l.drop (mth.tk 0 0 l).2.1) := by
  unfold Run pN; rw [if_pos h0]
theorem Run_N1 {K : Int → List Nat → Prop} (h0 : (mth.tk 0 0 l).2.2 ≠ 0) : Run pN l K E = E (mth.tk 0 0 l).2.2 := by
  unfold Run pN; rw [if_neg h0]
theorem Run_L0 {K : List Int → List Nat → Prop} (h0 : (mth.tkL l most).2.2 = 0) : Run (pL most) l K E = K (mth.tkL l most).1 (mth.tkL l most).2.1 := by
  unfold Run pL; rw [if_pos h0]
theorem Run_L1 {K : List Int → List Nat → Prop} (h0 : (mth.tkL l most).2.2 ≠ 0) : Run (pL most) l K E = E (mth.tkL l most).2.2 := by
  unfold Run pL; rw [if_neg h0]
end
theorem errV_ne {n : Int} (h : n ≠ 0) : isNilI (errV n) = false := by rw [errV_nil]; simpa using h
theorem tk_err {l : List Nat} : (mth.tk 0 0 l).2.2 = 0 ∨ (mth.tk 0 0 l).2.2 ≠ 0 := by omega
def encN (n : Int) (rs : List Dat) : Prop := rs = [.int .i64 n]
def encLs (l : List Int) (rs : List Dat) : Prop := ∃ d, rs = [d] ∧ d.xs = i64R l
def k_rNum : Nat := 51
def sg_rNum : Sig := ⟨[], [(false, [.int .i64])], false, false, false, false, false, [(false, [.b 0 0])], [(52, [.v (.list 5)])], some 77⟩
def tr_rNum : Tree := (.call k_wTake [(.var 0)] [(.int .i64), (.list 5), .err]
(.callx k_must [(.var 3)] []
(.ret [(.bool true), (.var 1), (.var 2)])))
theorem wk_rNum : walkP E0.cx (sgsN [(54, sg_wTake), (33, sg_must)]) 0 51 sg_rNum = tr_rNum := by kernel_rfl
theorem bo_rNum : ∃ x, bodyOf E0.P 51 = some x := bo_of (by kernel_rfl)
theorem sp_rNum_wTake : specX [.q con_wTake, .p con_must] k_wTake = wTake_s := rfl
theorem sp_rNum_must : specX [.q con_wTake, .p con_must] k_must = must_s := rfl
def rNum_s : Spec := rdS 0 (fun _ => pN) encN
theorem rNum_h : HoldsP E0 k_rNum sg_rNum rNum_s := con_fnP wf0 mix0 g0 rfl [.q con_wTake, .p con_must] rfl wk_rNum rfl (by
  intro Φ hΦ ds Q hs ⟨l, hx, hb, h⟩
  have hl : ds.length = 1 := hs.length.symm
  have s1 : Φ k_wTake = wTake_s := by rw [hΦ]; rfl
  have s2 : Φ k_must = must_s := by rw [hΦ]; rfl
  clear hΦ
  simp only [tr_rNum, wp, den_int, den_bool, den_nili, den_ar, den_cmp, den_not, den_len, den_elem, den_isnil, den_errI, den_ifc, den_rep, den_push, den_app, den_emp, den_upd, row0_econs, row0_enil, den_and, den_beq, den_nil, toInt_int, toBool_bool, xs_rows, xs_list, dflt_int, dflt_bool, of_eq, of_ne, of_lt, of_le, of_gt, of_ge, of_add, of_sub, of_rem, List.map_cons, List.map_nil, Dat.bool.injEq, decide_eq_true_eq, decide_eq_false_iff_not, Bool.not_eq_true', Bool.not_eq_false', beq_iff_eq, bne_iff_ne, beq_eq_false_iff_ne, bne_eq_false_iff_eq, ne_eq, List.append_assoc, List.cons_append, List.nil_append, allS, s1, s2, wTake_s, must_s, wpO, @den_var0 E0.Δ ds, den_varA, den_varB, hl, Nat.reduceLT, Nat.reduceLeDiff, Nat.reduceSub, List.getD_cons_zero, List.getD_cons_succ, argL_fold ds, argI_fold ds, List.append_assoc, List.cons_append, List.nil_append, toInt_int, toBool_bool, xs_rows, xs_list, Int.toNat_natCast, Dat.bool.injEq, argL_c0]
  refine ⟨l, hx, hb.1, hb.2, fun d hd => ?_⟩
  have h : Run pN l _ _ := h
  by_cases h0 : (mth.tk 0 0 l).2.2 = 0
  · rw [Run_N0 h0] at h
    rw [if_pos h0] at hd
    refine ⟨fun _ => h [_] _ rfl hd, fun hn => ?_⟩
    rw [errV_nil, h0] at hn; cases hn
  · rw [Run_N1 h0] at h
    refine ⟨fun hn => ?_, fun _ => h⟩
    rw [errV_ne h0] at hn; cases hn)
noncomputable def con_rNum : ConP E0 := ⟨k_rNum, sg_rNum, rNum_s, rfl, bo_rNum, rNum_h⟩
def k_rLst : Nat := 42
def sg_rLst : Sig := ⟨[], [(false, [.list 3])], false, false, false, false, false, [(false, [.b 0 0]), (false, [.v (.int .i64)])], [(52, [.v (.list 5)])], some 77⟩
def tr_rLst : Tree := (.call k_wTakeL [(.var 1), (.var 0)] [(.list 3), (.list 5), .err]
(.callx k_must [(.var 4)] []
(.ret [(.bool true), (.var 2), (.var 3)])))
theorem wk_rLst : walkP E0.cx (sgsN [(50, sg_wTakeL), (33, sg_must)]) 0 42 sg_rLst = tr_rLst := by kernel_rfl
theorem bo_rLst : ∃ x, bodyOf E0.P 42 = some x := bo_of (by kernel_rfl)
theorem sp_rLst_wTakeL : specX [.q con_wTakeL, .p con_must] k_wTakeL = wTakeL_s := rfl
theorem sp_rLst_must : specX [.q con_wTakeL, .p con_must] k_must = must_s := rfl
def rLst_s : Spec := rdS 1 (fun ds => pL (argI ds 0)) encLs
theorem rLst_h : HoldsP E0 k_rLst sg_rLst rLst_s := con_fnP wf0 mix0 g0 rfl [.q con_wTakeL, .p con_must] rfl wk_rLst rfl (by
  intro Φ hΦ ds Q hs ⟨l, hx, hb, h⟩
  have hl : ds.length = 2 := hs.length.symm
  have s1 : Φ k_wTakeL = wTakeL_s := by rw [hΦ]; rfl
  have s2 : Φ k_must = must_s := by rw [hΦ]; rfl
  clear hΦ
  simp only [tr_rLst, wp, den_int, den_bool, den_nili, den_ar, den_cmp, den_not, den_len, den_elem, den_isnil, den_errI, den_ifc, den_rep, den_push, den_app, den_emp, den_upd, row0_econs, row0_enil, den_and, den_beq, den_nil, toInt_int, toBool_bool, xs_rows, xs_list, dflt_int, dflt_bool, of_eq, of_ne, of_lt, of_le, of_gt, of_ge, of_add, of_sub, of_rem, List.map_cons, List.map_nil, Dat.bool.injEq, decide_eq_true_eq, decide_eq_false_iff_not, Bool.not_eq_true', Bool.not_eq_false', beq_iff_eq, bne_iff_ne, beq_eq_false_iff_ne, bne_eq_false_iff_eq, ne_eq, List.append_assoc, List.cons_append, List.nil_append, allS, s1, s2, wTakeL_s, must_s, wpO, @den_var0 E0.Δ ds, den_varA, den_varB, hl, Nat.reduceLT, Nat.reduceLeDiff, Nat.reduceSub, List.getD_cons_zero, List.getD_cons_succ, argL_fold ds, argI_fold ds, List.append_assoc, List.cons_append, List.nil_append, toInt_int, toBool_bool, xs_rows, xs_list, Int.toNat_natCast, Dat.bool.injEq, argL_c0, argI_c0, argI_c1]
  refine ⟨l, hx, hb.1, hb.2, fun d1 d2 hd1 hd2 => ?_⟩
  have h : Run (pL (argI ds 0)) l _ _ := h
  by_cases h0 : (mth.tkL l (argI ds 0)).2.2 = 0
  · rw [Run_L0 h0] at h
    refine ⟨fun _ => h [_] _ ⟨_, rfl, hd1⟩ hd2, fun hn => ?_⟩
    rw [errV_nil] at hn
    simp only [h0, decide_true] at hn; cases hn
  · rw [Run_L1 h0] at h
    refine ⟨fun hn => ?_, fun _ => h⟩
    rw [errV_ne h0] at hn; cases hn)
noncomputable def con_rLst : ConP E0 := ⟨k_rLst, sg_rLst, rLst_s, rfl, bo_rLst, rLst_h⟩
end Go.Proofs.YtbpbdanggilnpaaDoor
end

section
namespace Go.Proofs.YtbpbdanggilnpaaDoor
open Go.RowKit
set_option linter.unusedVariables false
set_option linter.unusedSimpArgs false

def k_rCnt : Nat := 43
def sg_rCnt : Sig := ⟨[], [(false, [.int .i64])], false, false, false, false, false, [(false, [.b 0 0]), (false, [.v (.int .i64)])], [(52, [.v (.list 5)])], some 77⟩
def tr_rCnt : Tree := (.callx k_rNum [(.var 1)] [(.int .i64), (.list 5)]
(.ite (.cmp .lt (.var 2) (.int .i64 0))
 (.callx k_must [(.ifc (.int .i64 1))] []
 (.ret [(.bool true), (.var 2), (.var 3)]))
 (.ite (.cmp .gt (.var 2) (.var 0))
  (.callx k_must [(.ifc (.int .i64 19))] []
  (.ret [(.bool true), (.var 2), (.var 3)]))
  (.ret [(.bool true), (.var 2), (.var 3)]))))
theorem wk_rCnt : walkP E0.cx (sgsN [(51, sg_rNum), (33, sg_must)]) 0 43 sg_rCnt = tr_rCnt := by kernel_rfl
theorem bo_rCnt : ∃ x, bodyOf E0.P 43 = some x := bo_of (by kernel_rfl)
theorem sp_rCnt_rNum : specX [.p con_rNum, .p con_must] k_rNum = rNum_s := rfl
theorem sp_rCnt_must : specX [.p con_rNum, .p con_must] k_must = must_s := rfl
def rCnt_s : Spec := rdS 1 (fun ds => pC (argI ds 0)) encN
theorem rCnt_h : HoldsP E0 k_rCnt sg_rCnt rCnt_s := con_fnP wf0 mix0 g0 rfl [.p con_rNum, .p con_must] rfl wk_rCnt rfl (by
  intro Φ hΦ ds Q hs ⟨l, hx, hb, h⟩
  have hl : ds.length = 2 := hs.length.symm
  have s1 : Φ k_rNum = rNum_s := by rw [hΦ]; rfl
  have s2 : Φ k_must = must_s := by rw [hΦ]; rfl
  clear hΦ
  have h : Run (pC (argI ds 0)) l _ _ := h
  unfold pC at h
  rw [Run_bnd] at h
  simp only [tr_rCnt, wp, den_int, den_bool, den_nili, den_ar, den_cmp, den_not, den_len, den_elem, den_isnil, den_errI, den_ifc, den_rep, den_push, den_app, den_emp, den_upd, row0_econs, row0_enil, den_and, den_beq, den_nil, toInt_int, toBool_bool, xs_rows, xs_list, dflt_int, dflt_bool, of_eq, of_ne, of_lt, of_le, of_gt, of_ge, of_add, of_sub, of_rem, List.map_cons, List.map_nil, Dat.bool.injEq, decide_eq_true_eq, decide_eq_false_iff_not, Bool.not_eq_true', Bool.not_eq_false', beq_iff_eq, bne_iff_ne, beq_eq_false_iff_ne, bne_eq_false_iff_eq, ne_eq, List.append_assoc, List.cons_append, List.nil_append, allS, s1, s2, rNum_s, rdS, must_s, @den_var0 E0.Δ ds, den_varA, den_varB, hl, Nat.reduceLT, Nat.reduceLeDiff, Nat.reduceSub, List.getD_cons_zero, List.getD_cons_succ, argL_fold ds, argI_fold ds, List.append_assoc, List.cons_append, List.nil_append, toInt_int, toBool_bool, xs_rows, xs_list, Int.toNat_natCast, Dat.bool.injEq, argL_c0]
  refine ⟨l, hx, hb, h.mono (fun n r hr hk rs d hrs hd => ?_) (fun n _ hn => hn)⟩
  have hrs : rs = [.int .i64 n] := hrs
  subst hrs
  simp only [wpO, @den_var0 E0.Δ ds, den_varA, den_varB, hl, Nat.reduceLT, Nat.reduceLeDiff, Nat.reduceSub, List.getD_cons_zero, List.getD_cons_succ, argL_fold ds, argI_fold ds, List.append_assoc, List.cons_append, List.nil_append, toInt_int, toBool_bool, xs_rows, xs_list, Int.toNat_natCast, Dat.bool.injEq]
  refine ⟨fun h0 => ?_, fun h0 => ⟨fun h1 => ?_, fun h1 => ?_⟩⟩
  · rw [if_pos h0] at hk
    exact ⟨(fun hn => by cases hn), fun _ => hk⟩
  · rw [if_neg h0, if_pos h1] at hk
    exact ⟨(fun hn => by cases hn), fun _ => hk⟩
  · rw [if_neg h0, if_neg h1] at hk
    exact hk [_] _ rfl hd)
noncomputable def con_rCnt : ConP E0 := ⟨k_rCnt, sg_rCnt, rCnt_s, rfl, bo_rCnt, rCnt_h⟩
def k_rDec : Nat := 52
def sg_rDec : Sig := ⟨[], [(true, List.replicate 4 (.int .i64) ++ [.list 3])], false, false, false, false, false, [(false, [.b 0 0])], [(52, [.v (.list 5)])], some 77⟩
def tr_rDec : Tree := (.callx k_rNum [(.var 0)] [(.int .i64), (.list 5)]
(.callx k_rNum [(.var 2)] [(.int .i64), (.list 5)]
(.callx k_rNum [(.var 4)] [(.int .i64), (.list 5)]
(.callx k_rNum [(.var 6)] [(.int .i64), (.list 5)]
(.callx k_rLst [(.int .i64 400), (.var 8)] [(.list 3), (.list 5)]
(.ret [(.bool true), (.var 1), (.var 3), (.var 5), (.var 7), (.var 9), (.var 10)]))))))
theorem wk_rDec : walkP E0.cx (sgsN [(51, sg_rNum), (42, sg_rLst)]) 0 52 sg_rDec = tr_rDec := by kernel_rfl
theorem bo_rDec : ∃ x, bodyOf E0.P 52 = some x := bo_of (by kernel_rfl)
theorem sp_rDec_rNum : specX [.p con_rNum, .p con_rLst] k_rNum = rNum_s := rfl
theorem sp_rDec_rLst : specX [.p con_rNum, .p con_rLst] k_rLst = rLst_s := rfl
def encDec (x : DecT) (rs : List Dat) : Prop := ∃ d, rs = [.int .i64 x.1, .int .i64 x.2.1, .int .i64 x.2.2.1, .int .i64 x.2.2.2.1, d] ∧ d.xs = i64R x.2.2.2.2
def rDec_s : Spec := rdS 0 (fun _ => pD) encDec
theorem rDec_h : HoldsP E0 k_rDec sg_rDec rDec_s := con_fnP wf0 mix0 g0 rfl [.p con_rNum, .p con_rLst] rfl wk_rDec rfl (by
  intro Φ hΦ ds Q hs ⟨l, hx, hb, h⟩
  have hl : ds.length = 1 := hs.length.symm
  have s1 : Φ k_rNum = rNum_s := by rw [hΦ]; rfl
  have s2 : Φ k_rLst = rLst_s := by rw [hΦ]; rfl
  clear hΦ
  have h : Run pD l _ _ := h
  unfold pD at h
  simp only [Run_bnd, Run_unit] at h
  simp only [tr_rDec, wp, den_int, den_bool, den_nili, den_ar, den_cmp, den_not, den_len, den_elem, den_isnil, den_errI, den_ifc, den_rep, den_push, den_app, den_emp, den_upd, row0_econs, row0_enil, den_and, den_beq, den_nil, toInt_int, toBool_bool, xs_rows, xs_list, dflt_int, dflt_bool, of_eq, of_ne, of_lt, of_le, of_gt, of_ge, of_add, of_sub, of_rem, List.map_cons, List.map_nil, Dat.bool.injEq, decide_eq_true_eq, decide_eq_false_iff_not, Bool.not_eq_true', Bool.not_eq_false', beq_iff_eq, bne_iff_ne, beq_eq_false_iff_ne, bne_eq_false_iff_eq, ne_eq, List.append_assoc, List.cons_append, List.nil_append, allS, s1, s2, rNum_s, rLst_s, rdS, @den_var0 E0.Δ ds, den_varA, den_varB, hl, Nat.reduceLT, Nat.reduceLeDiff, Nat.reduceSub, List.getD_cons_zero, List.getD_cons_succ, argL_fold ds, argI_fold ds, List.append_assoc, List.cons_append, List.nil_append, toInt_int, toBool_bool, xs_rows, xs_list, Int.toNat_natCast, Dat.bool.injEq, argL_c0]
  refine ⟨l, hx, hb, h.mono (fun n1 r1 e1 h rs d1 hrs hd1 => ?_) (fun n _ hn => hn)⟩
  have hrs : rs = [.int .i64 n1] := hrs
  subst hrs
  have hb1 := hb.of sfx_N e1
  simp only [wpO, @den_var0 E0.Δ ds, den_varA, den_varB, hl, Nat.reduceLT, Nat.reduceLeDiff, Nat.reduceSub, List.getD_cons_zero, List.getD_cons_succ, argL_fold ds, argI_fold ds, List.append_assoc, List.cons_append, List.nil_append, toInt_int, toBool_bool, xs_rows, xs_list, Int.toNat_natCast, Dat.bool.injEq]
  refine ⟨r1, hd1, hb1, h.mono (fun n2 r2 e2 h rs d2 hrs hd2 => ?_) (fun n _ hn => hn)⟩
  have hrs : rs = [.int .i64 n2] := hrs
  subst hrs
  have hb2 := hb1.of sfx_N e2
  simp only [wpO, @den_var0 E0.Δ ds, den_varA, den_varB, hl, Nat.reduceLT, Nat.reduceLeDiff, Nat.reduceSub, List.getD_cons_zero, List.getD_cons_succ, argL_fold ds, argI_fold ds, List.append_assoc, List.cons_append, List.nil_append, toInt_int, toBool_bool, xs_rows, xs_list, Int.toNat_natCast, Dat.bool.injEq]
  refine ⟨r2, hd2, hb2, h.mono (fun n3 r3 e3 h rs d3 hrs hd3 => ?_) (fun n _ hn => hn)⟩
  have hrs : rs = [.int .i64 n3] := hrs
  subst hrs
  have hb3 := hb2.of sfx_N e3
  simp only [wpO, @den_var0 E0.Δ ds, den_varA, den_varB, hl, Nat.reduceLT, Nat.reduceLeDiff, Nat.reduceSub, List.getD_cons_zero, List.getD_cons_succ, argL_fold ds, argI_fold ds, List.append_assoc, List.cons_append, List.nil_append, toInt_int, toBool_bool, xs_rows, xs_list, Int.toNat_natCast, Dat.bool.injEq]
  refine ⟨r3, hd3, hb3, h.mono (fun n4 r4 e4 h rs d4 hrs hd4 => ?_) (fun n _ hn => hn)⟩
  have hrs : rs = [.int .i64 n4] := hrs
  subst hrs
  have hb4 := hb3.of sfx_N e4
  simp only [wpO, @den_var0 E0.Δ ds, den_varA, den_varB, hl, Nat.reduceLT, Nat.reduceLeDiff, Nat.reduceSub, List.getD_cons_zero, List.getD_cons_succ, argL_fold ds, argI_fold ds, List.append_assoc, List.cons_append, List.nil_append, toInt_int, toBool_bool, xs_rows, xs_list, Int.toNat_natCast, Dat.bool.injEq]
  refine ⟨r4, hd4, hb4, h.mono (fun n5 r5 e5 h rs d5 hrs hd5 => ?_) (fun n _ hn => hn)⟩
  obtain ⟨dl, hrs, hdl⟩ := (show ∃ d, rs = [d] ∧ d.xs = i64R n5 from hrs)
  subst hrs
  simp only [wpO, @den_var0 E0.Δ ds, den_varA, den_varB, hl, Nat.reduceLT, Nat.reduceLeDiff, Nat.reduceSub, List.getD_cons_zero, List.getD_cons_succ, argL_fold ds, argI_fold ds, List.append_assoc, List.cons_append, List.nil_append, toInt_int, toBool_bool, xs_rows, xs_list, Int.toNat_natCast, Dat.bool.injEq]
  exact h [_, _, _, _, _] _ ⟨dl, rfl, hdl⟩ hd5)
noncomputable def con_rDec : ConP E0 := ⟨k_rDec, sg_rDec, rDec_s, rfl, bo_rDec, rDec_h⟩
end Go.Proofs.YtbpbdanggilnpaaDoor
end

section
namespace Go.Proofs.YtbpbdanggilnpaaDoor
open Go.RowKit
set_option linter.unusedVariables false
set_option linter.unusedSimpArgs false

theorem pC_rng {most n : Int} {l r : List Nat} (h : pC most l = .ok (n, r)) : 0 ≤ n ∧ n ≤ most := by
  unfold pC bnd at h
  split at h
  · rename_i x r' e
    have h : (if x < 0 then bad 1 else if most < x then bad 19 else unit x : P1 Int) r' = .ok (n, r) := h
    by_cases h0 : x < 0
    · rw [if_pos h0] at h; cases h
    · rw [if_neg h0] at h
      by_cases h1 : most < x
      · rw [if_pos h1] at h; cases h
      · rw [if_neg h1] at h; cases h; omega
  · cases h
theorem Run_many {α : Type} {p : P1 α} {n : Nat} {l : List Nat} {K : List α → List Nat → Prop} {E : Int → Prop} : Run (pMany p (n + 1)) l K E = Run p l (fun x r => Run (pMany p n) r (fun xs r' => K (x :: xs) r') E) E := by
  rw [pMany, Run_bnd]
  simp only [Run_bnd, Run_unit]
theorem all2_snoc {α β : Type} {R : α → β → Prop} {l : List α} {m : List β} (h : All2 R l m) {a : α} {b : β} (hr : R a b) : All2 R (l ++ [a]) (m ++ [b]) := h.append (.cons hr .nil)
def encOp (x : OpT) (rs : List Dat) : Prop := ∃ d, rs = [.int .i64 x.1, .int .i64 x.2.1, .int .i64 x.2.2.1, d] ∧ All2 encDec x.2.2.2 d.xs
def encScr (x : ScrT) (rs : List Dat) : Prop := ∃ d0 d1 d2 d3, rs = [d0, d1, d2, d3] ∧ d0.xs = i64R x.1 ∧ d1.xs = i64R x.2.1 ∧ d2.xs = i64R x.2.2.1 ∧ All2 encOp x.2.2.2 d3.xs
def k_rOp : Nat := 44
def sg_rOp : Sig := ⟨[], [(true, [.int .i64, .int .i64, .int .i64] ++ [.list 64])], false, false, false, false, false, [(false, [.b 0 0])], [(52, [.v (.list 5)])], some 77⟩
def tr_rOp : Tree := (.callx k_rNum [(.var 0)] [(.int .i64), (.list 5)]
(.callx k_rNum [(.var 2)] [(.int .i64), (.list 5)]
(.callx k_rNum [(.var 4)] [(.int .i64), (.list 5)]
(.callx k_rCnt [(.int .i64 16), (.var 6)] [(.int .i64), (.list 5)]
(.loop [(.int .i64 0), (.var 8), .emp] [(.int .i64), (.list 5), (.rows 64)]
 (.ite (.cmp .lt (.var 9) (.var 7))
  (.both (.callx k_rDec [(.var 10)] [(.int .i64), (.int .i64), (.int .i64), (.int .i64), (.list 3), (.list 5)]
  (.ob (.cmp .le (.len (.push (.var 11) (.econs (.var 12) (.econs (.var 13) (.econs (.var 14) (.econs (.var 15) (.econs (.var 16) .enil))))))) (.int .i64 2513169434916))
  (.again 0 [(.ar .add .i64 (.var 9) (.int .i64 1)), (.var 17), (.push (.var 11) (.econs (.var 12) (.econs (.var 13) (.econs (.var 14) (.econs (.var 15) (.econs (.var 16) .enil))))))]))) (.callx k_rDec [(.var 10)] [(.int .i64), (.int .i64), (.int .i64), (.int .i64), (.list 3), (.list 5)]
  (.both (.ob (.cmp .le (.len (.push (.var 11) (.econs (.var 12) (.econs (.var 13) (.econs (.var 14) (.econs (.var 15) (.econs (.var 16) .enil))))))) (.int .i64 2513169434916))
  (.again 0 [(.ar .add .i64 (.var 9) (.int .i64 1)), (.var 17), (.push (.var 11) (.econs (.var 12) (.econs (.var 13) (.econs (.var 14) (.econs (.var 15) (.econs (.var 16) .enil))))))])) (.ob (.cmp .le (.len (.push (.var 11) (.econs (.var 12) (.econs (.var 13) (.econs (.var 14) (.econs (.var 15) (.econs (.var 16) .enil))))))) (.int .i64 2513169434916))
  (.again 0 [(.ar .add .i64 (.var 9) (.int .i64 1)), (.var 17), (.push (.var 11) (.econs (.var 12) (.econs (.var 13) (.econs (.var 14) (.econs (.var 15) (.econs (.var 16) .enil))))))])))))
  (.share 64 (.var 11)
  (.ret [(.bool true), (.var 1), (.var 3), (.var 5), (.var 12), (.var 10)]))))))))
theorem wk_rOp : walkP E0.cx (sgsN [(51, sg_rNum), (43, sg_rCnt), (52, sg_rDec)]) 0 44 sg_rOp = tr_rOp := by kernel_rfl
theorem bo_rOp : ∃ x, bodyOf E0.P 44 = some x := bo_of (by kernel_rfl)
theorem sp_rOp_rNum : specX [.p con_rNum, .p con_rCnt, .p con_rDec] k_rNum = rNum_s := rfl
theorem sp_rOp_rCnt : specX [.p con_rNum, .p con_rCnt, .p con_rDec] k_rCnt = rCnt_s := rfl
theorem sp_rOp_rDec : specX [.p con_rNum, .p con_rCnt, .p con_rDec] k_rDec = rDec_s := rfl
def rOp_s : Spec := rdS 0 (fun _ => pO) encOp
theorem rOp_h : HoldsP E0 k_rOp sg_rOp rOp_s := con_fnP wf0 mix0 g0 rfl [.p con_rNum, .p con_rCnt, .p con_rDec] rfl wk_rOp rfl (by
  intro Φ hΦ ds Q hs ⟨l, hx, hb, h⟩
  have hl : ds.length = 1 := hs.length.symm
  have s1 : Φ k_rNum = rNum_s := by rw [hΦ]; rfl
  have s2 : Φ k_rCnt = rCnt_s := by rw [hΦ]; rfl
  have s3 : Φ k_rDec = rDec_s := by rw [hΦ]; rfl
  clear hΦ
  have h : Run pO l _ _ := h
  unfold pO at h
  simp only [Run_bnd, Run_unit] at h
  simp only [tr_rOp, wp, den_int, den_bool, den_nili, den_ar, den_cmp, den_not, den_len, den_elem, den_isnil, den_errI, den_ifc, den_rep, den_push, den_app, den_emp, den_upd, row0_econs, row0_enil, den_and, den_beq, den_nil, toInt_int, toBool_bool, xs_rows, xs_list, dflt_int, dflt_bool, of_eq, of_ne, of_lt, of_le, of_gt, of_ge, of_add, of_sub, of_rem, List.map_cons, List.map_nil, Dat.bool.injEq, decide_eq_true_eq, decide_eq_false_iff_not, Bool.not_eq_true', Bool.not_eq_false', beq_iff_eq, bne_iff_ne, beq_eq_false_iff_ne, bne_eq_false_iff_eq, ne_eq, List.append_assoc, List.cons_append, List.nil_append, allS, s1, s2, s3, rNum_s, rCnt_s, rDec_s, rdS, @den_var0 E0.Δ ds, den_varA, den_varB, hl, Nat.reduceLT, Nat.reduceLeDiff, Nat.reduceSub, List.getD_cons_zero, List.getD_cons_succ, argL_fold ds, argI_fold ds, List.append_assoc, List.cons_append, List.nil_append, toInt_int, toBool_bool, xs_rows, xs_list, Int.toNat_natCast, Dat.bool.injEq, argL_c0]
  refine ⟨l, hx, hb, h.mono (fun n1 r1 e1 h rs d1 hrs hd1 => ?_) (fun n _ hn => hn)⟩
  have hrs : rs = [.int .i64 n1] := hrs
  subst hrs
  have hb1 := hb.of sfx_N e1
  simp only [wpO, @den_var0 E0.Δ ds, den_varA, den_varB, hl, Nat.reduceLT, Nat.reduceLeDiff, Nat.reduceSub, List.getD_cons_zero, List.getD_cons_succ, argL_fold ds, argI_fold ds, List.append_assoc, List.cons_append, List.nil_append, toInt_int, toBool_bool, xs_rows, xs_list, Int.toNat_natCast, Dat.bool.injEq]
  refine ⟨r1, hd1, hb1, h.mono (fun n2 r2 e2 h rs d2 hrs hd2 => ?_) (fun n _ hn => hn)⟩
  have hrs : rs = [.int .i64 n2] := hrs
  subst hrs
  have hb2 := hb1.of sfx_N e2
  simp only [wpO, @den_var0 E0.Δ ds, den_varA, den_varB, hl, Nat.reduceLT, Nat.reduceLeDiff, Nat.reduceSub, List.getD_cons_zero, List.getD_cons_succ, argL_fold ds, argI_fold ds, List.append_assoc, List.cons_append, List.nil_append, toInt_int, toBool_bool, xs_rows, xs_list, Int.toNat_natCast, Dat.bool.injEq]
  refine ⟨r2, hd2, hb2, h.mono (fun n3 r3 e3 h rs d3 hrs hd3 => ?_) (fun n _ hn => hn)⟩
  have hrs : rs = [.int .i64 n3] := hrs
  subst hrs
  have hb3 := hb2.of sfx_N e3
  simp only [wpO, @den_var0 E0.Δ ds, den_varA, den_varB, hl, Nat.reduceLT, Nat.reduceLeDiff, Nat.reduceSub, List.getD_cons_zero, List.getD_cons_succ, argL_fold ds, argI_fold ds, List.append_assoc, List.cons_append, List.nil_append, toInt_int, toBool_bool, xs_rows, xs_list, Int.toNat_natCast, Dat.bool.injEq]
  refine ⟨r3, hd3, hb3, Run.mono (p := pC 16) h (fun n4 r4 e4 h rs d4 hrs hd4 => ?_) (fun n _ hn => hn)⟩
  have hrs : rs = [.int .i64 n4] := hrs
  subst hrs
  have hb4 := hb3.of (sfx_C 16) e4
  obtain ⟨hn0, hn1⟩ := pC_rng e4
  simp only [wpO, @den_var0 E0.Δ ds, den_varA, den_varB, hl, Nat.reduceLT, Nat.reduceLeDiff, Nat.reduceSub, List.getD_cons_zero, List.getD_cons_succ, argL_fold ds, argI_fold ds, List.append_assoc, List.cons_append, List.nil_append, toInt_int, toBool_bool, xs_rows, xs_list, Int.toNat_natCast, Dat.bool.injEq]
  refine ⟨fun xs m => ∃ (k : Nat) (ys : List DecT) (rows : List (List Dat)) (l' : List Nat) (d : Dat), xs = [.int .i64 (k : Int), d, .rows rows] ∧ d.xs = u8R l' ∧ Bts l' ∧ rows.length = k ∧ (k : Int) ≤ n4 ∧ m = n4.toNat - k ∧ All2 encDec ys rows ∧
      Run (pMany pD (n4.toNat - k)) l' (fun zs r => ∀ (rs : List Dat) (d : Dat), encOp (n1, n2, n3, ys ++ zs) rs → d.xs = u8R r → Q (.bool true :: (rs ++ [d]))) (fun n => Q [.bool false, errV n]), ⟨_, 0, [], [], r4, d4, rfl, hd4, hb4, rfl, by omega, rfl, .nil, h⟩, ?_⟩
  rintro n v hv ra hra m ⟨k, ys, rows, l', d, e, hd, hb', hlen, hk, hm, hall, hrun⟩
  obtain ⟨rfl, rfl, rfl⟩ : n = (k : Int) ∧ v = d ∧ ra = .rows rows := by simpa using e
  refine ⟨fun hlt => ?_, fun hge => ?_⟩
  · have hs : n4.toNat - k = (n4.toNat - (k + 1)) + 1 := by omega
    rw [hs, Run_many] at hrun
    refine ⟨⟨l', hd, hb', hrun.mono (fun x r ex hk2 rs d2 he hd2 => ?_) (fun _ _ hn => hn)⟩, ⟨l', hd, hb', hrun.mono (fun x r ex hk2 rs d2 he hd2 => ⟨?_, ?_⟩) (fun _ _ hn => hn)⟩⟩
    all_goals
      have he0 := he
      obtain ⟨dl, rfl, hdl⟩ := he
      simp only [@den_var0 E0.Δ ds, den_varA, den_varB, hl, Nat.reduceLT, Nat.reduceLeDiff, Nat.reduceSub, List.getD_cons_zero, List.getD_cons_succ, argL_fold ds, argI_fold ds, List.append_assoc, List.cons_append, List.nil_append, toInt_int, toBool_bool, xs_rows, xs_list, Int.toNat_natCast, Dat.bool.injEq, List.getElem?_cons_zero]
      refine ⟨by rw [List.length_append]; simp only [List.length_cons, List.length_nil]; omega, n4.toNat - (k + 1), by omega, k + 1, ys ++ [x], _, r, d2, by rw [wrap64 (by omega) (by omega)]; rfl, hd2, hb'.of sfx_D ex, by rw [List.length_append]; simp only [List.length_cons, List.length_nil]; omega, by omega, rfl, all2_snoc hall he0, ?_⟩
      refine hk2.mono (fun zs r' _ h => ?_) (fun _ _ hn => hn)
      rw [List.append_assoc]; exact h
  · have hk0 : n4.toNat - k = 0 := by omega
    rw [hk0] at hrun
    have hrun : ∀ (rs : List Dat) (d : Dat), encOp (n1, n2, n3, ys ++ []) rs → d.xs = u8R l' → Q (.bool true :: (rs ++ [d])) := hrun
    rw [List.append_nil] at hrun
    exact fun A c => hrun [_, _, _, _] _ ⟨_, rfl, by rw [xs_list, xs_rows]; exact hall⟩ hd)
noncomputable def con_rOp : ConP E0 := ⟨k_rOp, sg_rOp, rOp_s, rfl, bo_rOp, rOp_h⟩
end Go.Proofs.YtbpbdanggilnpaaDoor
end

section
namespace Go.Proofs.YtbpbdanggilnpaaDoor
open Go.RowKit
set_option linter.unusedVariables false
set_option linter.unusedSimpArgs false
def k_rScr : Nat := 32
def sg_rScr : Sig := ⟨[], [(true, [.list 3, .list 3, .list 3] ++ [.list 68])], false, false, false, false, false, [(false, [.b 0 0])], [(52, [.v (.list 5)])], some 77⟩
def tr_rScr : Tree := (.callx k_rLst [(.int .i64 100), (.var 0)] [(.list 3), (.list 5)]
(.callx k_rLst [(.int .i64 100), (.var 2)] [(.list 3), (.list 5)]
(.callx k_rLst [(.int .i64 4096), (.var 4)] [(.list 3), (.list 5)]
(.callx k_rCnt [(.int .i64 1000), (.var 6)] [(.int .i64), (.list 5)]
(.loop [(.int .i64 0), (.var 8), .emp] [(.int .i64), (.list 5), (.rows 68)]
 (.ite (.cmp .lt (.var 9) (.var 7))
  (.both (.callx k_rOp [(.var 10)] [(.int .i64), (.int .i64), (.int .i64), (.list 64), (.list 5)]
  (.ob (.cmp .le (.len (.push (.var 11) (.econs (.var 12) (.econs (.var 13) (.econs (.var 14) (.econs (.var 15) .enil)))))) (.int .i64 2932031007402))
  (.again 0 [(.ar .add .i64 (.var 9) (.int .i64 1)), (.var 16), (.push (.var 11) (.econs (.var 12) (.econs (.var 13) (.econs (.var 14) (.econs (.var 15) .enil)))))]))) (.callx k_rOp [(.var 10)] [(.int .i64), (.int .i64), (.int .i64), (.list 64), (.list 5)]
  (.both (.ob (.cmp .le (.len (.push (.var 11) (.econs (.var 12) (.econs (.var 13) (.econs (.var 14) (.econs (.var 15) .enil)))))) (.int .i64 2932031007402))
  (.again 0 [(.ar .add .i64 (.var 9) (.int .i64 1)), (.var 16), (.push (.var 11) (.econs (.var 12) (.econs (.var 13) (.econs (.var 14) (.econs (.var 15) .enil)))))])) (.ob (.cmp .le (.len (.push (.var 11) (.econs (.var 12) (.econs (.var 13) (.econs (.var 14) (.econs (.var 15) .enil)))))) (.int .i64 2932031007402))
  (.again 0 [(.ar .add .i64 (.var 9) (.int .i64 1)), (.var 16), (.push (.var 11) (.econs (.var 12) (.econs (.var 13) (.econs (.var 14) (.econs (.var 15) .enil)))))])))))
  (.share 68 (.var 11)
  (.ret [(.bool true), (.var 1), (.var 3), (.var 5), (.var 12), (.var 10)]))))))))
theorem wk_rScr : walkP E0.cx (sgsN [(42, sg_rLst), (43, sg_rCnt), (44, sg_rOp)]) 0 32 sg_rScr = tr_rScr := by kernel_rfl
theorem bo_rScr : ∃ x, bodyOf E0.P 32 = some x := bo_of (by kernel_rfl)
theorem sp_rScr_rLst : specX [.p con_rLst, .p con_rCnt, .p con_rOp] k_rLst = rLst_s := rfl
theorem sp_rScr_rCnt : specX [.p con_rLst, .p con_rCnt, .p con_rOp] k_rCnt = rCnt_s := rfl
theorem sp_rScr_rOp : specX [.p con_rLst, .p con_rCnt, .p con_rOp] k_rOp = rOp_s := rfl
def rScr_s : Spec := rdS 0 (fun _ => pS) encScr
theorem rScr_h : HoldsP E0 k_rScr sg_rScr rScr_s := con_fnP wf0 mix0 g0 rfl [.p con_rLst, .p con_rCnt, .p con_rOp] rfl wk_rScr rfl (by
  intro Φ hΦ ds Q hs ⟨l, hx, hb, h⟩
  have hl : ds.length = 1 := hs.length.symm
  have s1 : Φ k_rLst = rLst_s := by rw [hΦ]; rfl
  have s2 : Φ k_rCnt = rCnt_s := by rw [hΦ]; rfl
  have s3 : Φ k_rOp = rOp_s := by rw [hΦ]; rfl
  clear hΦ
  have h : Run pS l _ _ := h
  unfold pS at h
  simp only [Run_bnd, Run_unit] at h
  simp only [tr_rScr, wp, den_int, den_bool, den_nili, den_ar, den_cmp, den_not, den_len, den_elem, den_isnil, den_errI, den_ifc, den_rep, den_push, den_app, den_emp, den_upd, row0_econs, row0_enil, den_and, den_beq, den_nil, toInt_int, toBool_bool, xs_rows, xs_list, dflt_int, dflt_bool, of_eq, of_ne, of_lt, of_le, of_gt, of_ge, of_add, of_sub, of_rem, List.map_cons, List.map_nil, Dat.bool.injEq, decide_eq_true_eq, decide_eq_false_iff_not, Bool.not_eq_true', Bool.not_eq_false', beq_iff_eq, bne_iff_ne, beq_eq_false_iff_ne, bne_eq_false_iff_eq, ne_eq, List.append_assoc, List.cons_append, List.nil_append, allS, s1, s2, s3, rLst_s, rCnt_s, rOp_s, rdS, @den_var0 E0.Δ ds, den_varA, den_varB, hl, Nat.reduceLT, Nat.reduceLeDiff, Nat.reduceSub, List.getD_cons_zero, List.getD_cons_succ, argL_fold ds, argI_fold ds, List.append_assoc, List.cons_append, List.nil_append, toInt_int, toBool_bool, xs_rows, xs_list, Int.toNat_natCast, Dat.bool.injEq, argL_c0]
  refine ⟨l, hx, hb, h.mono (fun n1 r1 e1 h rs d1 hrs hd1 => ?_) (fun n _ hn => hn)⟩
  obtain ⟨dl1, hrs, hl1⟩ := (show ∃ d, rs = [d] ∧ d.xs = i64R n1 from hrs)
  subst hrs
  have hb1 := hb.of (sfx_L 100) e1
  simp only [wpO, @den_var0 E0.Δ ds, den_varA, den_varB, hl, Nat.reduceLT, Nat.reduceLeDiff, Nat.reduceSub, List.getD_cons_zero, List.getD_cons_succ, argL_fold ds, argI_fold ds, List.append_assoc, List.cons_append, List.nil_append, toInt_int, toBool_bool, xs_rows, xs_list, Int.toNat_natCast, Dat.bool.injEq]
  refine ⟨r1, hd1, hb1, Run.mono (p := pL 100) h (fun n2 r2 e2 h rs d2 hrs hd2 => ?_) (fun n _ hn => hn)⟩
  obtain ⟨dl2, hrs, hl2⟩ := (show ∃ d, rs = [d] ∧ d.xs = i64R n2 from hrs)
  subst hrs
  have hb2 := hb1.of (sfx_L 100) e2
  simp only [wpO, @den_var0 E0.Δ ds, den_varA, den_varB, hl, Nat.reduceLT, Nat.reduceLeDiff, Nat.reduceSub, List.getD_cons_zero, List.getD_cons_succ, argL_fold ds, argI_fold ds, List.append_assoc, List.cons_append, List.nil_append, toInt_int, toBool_bool, xs_rows, xs_list, Int.toNat_natCast, Dat.bool.injEq]
  refine ⟨r2, hd2, hb2, Run.mono (p := pL 4096) h (fun n3 r3 e3 h rs d3 hrs hd3 => ?_) (fun n _ hn => hn)⟩
  obtain ⟨dl3, hrs, hl3⟩ := (show ∃ d, rs = [d] ∧ d.xs = i64R n3 from hrs)
  subst hrs
  have hb3 := hb2.of (sfx_L 4096) e3
  simp only [wpO, @den_var0 E0.Δ ds, den_varA, den_varB, hl, Nat.reduceLT, Nat.reduceLeDiff, Nat.reduceSub, List.getD_cons_zero, List.getD_cons_succ, argL_fold ds, argI_fold ds, List.append_assoc, List.cons_append, List.nil_append, toInt_int, toBool_bool, xs_rows, xs_list, Int.toNat_natCast, Dat.bool.injEq]
  refine ⟨r3, hd3, hb3, Run.mono (p := pC 1000) h (fun n4 r4 e4 h rs d4 hrs hd4 => ?_) (fun n _ hn => hn)⟩
  have hrs : rs = [.int .i64 n4] := hrs
  subst hrs
  have hb4 := hb3.of (sfx_C 1000) e4
  obtain ⟨hn0, hn1⟩ := pC_rng e4
  simp only [wpO, @den_var0 E0.Δ ds, den_varA, den_varB, hl, Nat.reduceLT, Nat.reduceLeDiff, Nat.reduceSub, List.getD_cons_zero, List.getD_cons_succ, argL_fold ds, argI_fold ds, List.append_assoc, List.cons_append, List.nil_append, toInt_int, toBool_bool, xs_rows, xs_list, Int.toNat_natCast, Dat.bool.injEq]
  refine ⟨fun xs m => ∃ (k : Nat) (ys : List OpT) (rows : List (List Dat)) (l' : List Nat) (d : Dat), xs = [.int .i64 (k : Int), d, .rows rows] ∧ d.xs = u8R l' ∧ Bts l' ∧ rows.length = k ∧ (k : Int) ≤ n4 ∧ m = n4.toNat - k ∧ All2 encOp ys rows ∧
      Run (pMany pO (n4.toNat - k)) l' (fun zs r => ∀ (rs : List Dat) (d : Dat), encScr (n1, n2, n3, ys ++ zs) rs → d.xs = u8R r → Q (.bool true :: (rs ++ [d]))) (fun n => Q [.bool false, errV n]), ⟨_, 0, [], [], r4, d4, rfl, hd4, hb4, rfl, by omega, rfl, .nil, h⟩, ?_⟩
  rintro n v hv ra hra m ⟨k, ys, rows, l', d, e, hd, hb', hlen, hk, hm, hall, hrun⟩
  obtain ⟨rfl, rfl, rfl⟩ : n = (k : Int) ∧ v = d ∧ ra = .rows rows := by simpa using e
  refine ⟨fun hlt => ?_, fun hge => ?_⟩
  · have hs : n4.toNat - k = (n4.toNat - (k + 1)) + 1 := by omega
    rw [hs, Run_many] at hrun
    refine ⟨⟨l', hd, hb', hrun.mono (fun x r ex hk2 rs d2 he hd2 => ?_) (fun _ _ hn => hn)⟩, ⟨l', hd, hb', hrun.mono (fun x r ex hk2 rs d2 he hd2 => ⟨?_, ?_⟩) (fun _ _ hn => hn)⟩⟩
    all_goals
      have he0 := he
      obtain ⟨dl, rfl, hdl⟩ := he
      simp only [@den_var0 E0.Δ ds, den_varA, den_varB, hl, Nat.reduceLT, Nat.reduceLeDiff, Nat.reduceSub, List.getD_cons_zero, List.getD_cons_succ, argL_fold ds, argI_fold ds, List.append_assoc, List.cons_append, List.nil_append, toInt_int, toBool_bool, xs_rows, xs_list, Int.toNat_natCast, Dat.bool.injEq, List.getElem?_cons_zero]
      refine ⟨by rw [List.length_append]; simp only [List.length_cons, List.length_nil]; omega, n4.toNat - (k + 1), by omega, k + 1, ys ++ [x], _, r, d2, by rw [wrap64 (by omega) (by omega)]; rfl, hd2, hb'.of sfx_O ex, by rw [List.length_append]; simp only [List.length_cons, List.length_nil]; omega, by omega, rfl, all2_snoc hall he0, ?_⟩
      refine hk2.mono (fun zs r' _ h => ?_) (fun _ _ hn => hn)
      rw [List.append_assoc]; exact h
  · have hk0 : n4.toNat - k = 0 := by omega
    rw [hk0] at hrun
    have hrun : ∀ (rs : List Dat) (d : Dat), encScr (n1, n2, n3, ys ++ []) rs → d.xs = u8R l' → Q (.bool true :: (rs ++ [d])) := hrun
    rw [List.append_nil] at hrun
    exact fun A c => hrun [_, _, _, _] _ ⟨_, _, _, _, rfl, hl1, hl2, hl3, by rw [xs_list, xs_rows]; exact hall⟩ hd)
noncomputable def con_rScr : ConP E0 := ⟨k_rScr, sg_rScr, rScr_s, rfl, bo_rScr, rScr_h⟩
end Go.Proofs.YtbpbdanggilnpaaDoor
end
