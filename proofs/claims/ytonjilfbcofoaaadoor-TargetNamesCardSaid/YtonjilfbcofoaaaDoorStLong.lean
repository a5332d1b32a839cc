/-
  States that are larger than is looked at.
-/
import Derived.Test.YtonjilfbcofoaaaDoorStG
namespace Go.Proofs.YtonjilfbcofoaaaDoor
open Go.RowKit
set_option linter.unusedVariables false
set_option linter.unusedSimpArgs false

def LongP (m : Int) (ds : List Dat) : Prop := m < (argL ds 0).length ∨ ∃ z, z < 11 ∧ m + 10 < (argL ds (z + 1)).length
theorem sm_of_long {m : Int} {ds : List Dat} (h : ¬ LongP m ds) (hm : m ≤ 1000) : Sm ds := fun i hi => by
  simp only [LongP, not_or, not_exists, not_and] at h
  match i with
  | 0 => have := h.1; omega
  | i + 1 => have := h.2 i (by omega); omega
theorem den_listsG {Δ : Tab} {ds e : List Dat} (hl : 12 ≤ ds.length) {i : Tm} {z : Nat} (hi : (den Δ (ds ++ e) i).toInt = z) (hz : z < 11) {s : Srt} :
    den Δ (ds ++ e) (.sel (.econs (.var 1) (.econs (.var 2) (.econs (.var 3) (.econs (.var 4) (.econs (.var 5) (.econs (.var 6) (.econs (.var 7) (.econs (.var 8) (.econs (.var 9) (.econs (.var 10) (.econs (.var 11) .enil))))))))))) i s) = ds.getD (z + 1) (.bool false) := by
  simp only [den_sel, row0_econs, row0_enil, hi, Int.toNat_natCast]
  rw [den_varA (by omega), den_varA (by omega), den_varA (by omega), den_varA (by omega), den_varA (by omega), den_varA (by omega), den_varA (by omega), den_varA (by omega), den_varA (by omega), den_varA (by omega), den_varA (by omega)]
  match z, hz with
  | 0, _ | 1, _ | 2, _ | 3, _ | 4, _ | 5, _ | 6, _ | 7, _ | 8, _ | 9, _ | 10, _ => rfl
def k_Long : Nat := 8
def sg_Long : Sig := ⟨[(true, [.list 50] ++ List.replicate 11 (.list 3) ++ List.replicate 25 (.int .i64)), (false, [.int .i64])], [(false, [.bool])], false, false, false⟩
def tr_Long : Tree := (.ite (.cmp .gt (.len (.var 0)) (.var 37))
 (.ret [(.bool true)])
 (.loop [(.bool false), (.int .i64 0)] [.bool, (.int .i64)]
  (.ite (.cmp .lt (.var 39) (.int .i64 11))
   (.ob (.cmp .ge (.var 39) (.int .i64 0))
   (.ite (.cmp .gt (.len (.sel (.econs (.var 1) (.econs (.var 2) (.econs (.var 3) (.econs (.var 4) (.econs (.var 5) (.econs (.var 6) (.econs (.var 7) (.econs (.var 8) (.econs (.var 9) (.econs (.var 10) (.econs (.var 11) .enil))))))))))) (.var 39) (.list 3))) (.ar .add .i64 (.var 37) (.int .i64 10)))
    (.ret [(.bool true)])
    (.again 0 [(.var 38), (.ar .add .i64 (.var 39) (.int .i64 1))])))
   (.ret [(.bool false)]))))
theorem wk_Long : walk E0.cx (sgsN []) 0 8 sg_Long = tr_Long := by kernel_rfl
theorem bo_Long : ∃ x, bodyOf E0.P 8 = some x := bo_of (by kernel_rfl)
def Long_s : Spec := fun ds Q => 0 ≤ argI ds 37 ∧ argI ds 37 ≤ 1000 ∧ ∀ b : Bool, (b = true ↔ LongP (argI ds 37) ds) → Q [.bool b]
theorem Long_h : Holds E0 k_Long sg_Long Long_s := con_by wf0 mix0 g0 [] rfl wk_Long rfl (by
  intro ds Q hs ⟨h0, h1, h⟩
  have hl : ds.length = 38 := hs.length.symm
  simp only [tr_Long, wp, den_int, den_bool, den_nili, den_ar, den_cmp, den_not, den_len, den_elem, den_isnil, den_errI, den_ifc, den_rep, den_push, den_app, den_emp, den_upd, row0_econs, row0_enil, den_and, den_beq, den_nil, toInt_int, toBool_bool, xs_rows, xs_list, dflt_int, dflt_bool, of_eq, of_ne, of_lt, of_le, of_gt, of_ge, of_add, of_sub, of_rem, List.map_cons, List.map_nil, Dat.bool.injEq, decide_eq_true_eq, decide_eq_false_iff_not, Bool.not_eq_true', Bool.not_eq_false', beq_iff_eq, bne_iff_ne, beq_eq_false_iff_ne, bne_eq_false_iff_eq, ne_eq, List.append_assoc, List.cons_append, List.nil_append, allS, @den_var0 E0.Δ ds, den_varA, den_varB, hl, Nat.reduceLT, Nat.reduceLeDiff, Nat.reduceSub, List.getD_cons_zero, List.getD_cons_succ, argL_fold ds, argI_fold ds, List.append_assoc, List.cons_append, List.nil_append, toInt_int, toBool_bool, xs_rows, xs_list, Int.toNat_natCast, Dat.bool.injEq]
  rw [wrap64 (by omega) (by omega)]
  refine ⟨fun h2 => h _ (by simp only [true_iff]; exact .inl h2), fun h2 => ?_⟩
  refine ⟨fun xs m => ∃ (b : Bool) (z : Nat), xs = [.bool b, .int .i64 z] ∧ z ≤ 11 ∧ (∀ y, y < z → ¬ argI ds 37 + 10 < (argL ds (y + 1)).length) ∧ m = 11 - z, ⟨_, false, 0, rfl, by omega, by intro y hy; omega, rfl⟩, ?_⟩
  intro b z' m ⟨_, z, e, hz, hall, hm⟩
  cases e
  refine ⟨fun hlt => ⟨by omega, ?_⟩, fun hge => h _ ?_⟩
  · have hz11 : z < 11 := by omega
    have hd : ∀ s, den E0.Δ (ds ++ [.bool b, .int .i64 z]) (.sel (.econs (.var 1) (.econs (.var 2) (.econs (.var 3) (.econs (.var 4) (.econs (.var 5) (.econs (.var 6) (.econs (.var 7) (.econs (.var 8) (.econs (.var 9) (.econs (.var 10) (.econs (.var 11) .enil))))))))))) (.var 39) s) = ds.getD (z + 1) (.bool false) := fun s => den_listsG (by omega) (by simp only [@den_var0 E0.Δ ds, den_varA, den_varB, hl, Nat.reduceLT, Nat.reduceLeDiff, Nat.reduceSub, List.getD_cons_zero, List.getD_cons_succ, argL_fold ds, argI_fold ds, List.append_assoc, List.cons_append, List.nil_append, toInt_int, toBool_bool, xs_rows, xs_list, Int.toNat_natCast, Dat.bool.injEq]) hz11
    simp only [hd, @den_var0 E0.Δ ds, den_varA, den_varB, hl, Nat.reduceLT, Nat.reduceLeDiff, Nat.reduceSub, List.getD_cons_zero, List.getD_cons_succ, argL_fold ds, argI_fold ds, List.append_assoc, List.cons_append, List.nil_append, toInt_int, toBool_bool, xs_rows, xs_list, Int.toNat_natCast, Dat.bool.injEq]
    refine ⟨fun h3 => h _ ?_, fun h3 => ⟨11 - (z + 1), by omega, b, z + 1, ?_, by omega, fun y hy => ?_, rfl⟩⟩
    · simp only [true_iff]; exact .inr ⟨z, hz11, h3⟩
    · rw [wrap64 (by omega) (by omega)]; rfl
    · by_cases hyz : y = z
      · subst hyz; exact h3
      · exact hall y (by omega)
  · simp only [Bool.false_eq_true, false_iff, LongP, not_or, not_exists, not_and]
    exact ⟨h2, fun y hy => hall y (by omega)⟩)
noncomputable def con_Long : Con E0 := ⟨k_Long, sg_Long, Long_s, rfl, bo_Long, Long_h⟩

theorem All2.getS {α β : Type} {R : α → β → Prop} : ∀ {l : List α} {m : List β}, All2 R l m → ∀ {i : Nat} {s : α}, l[i]? = some s → ∃ d, m[i]? = some d ∧ R s d
  | _, _, .cons h t, 0, s, e => by cases e; exact ⟨_, rfl, h⟩
  | _, _, .cons h t, i + 1, s, e => t.getS (i := i) (by simpa using e)
theorem int_el {Δ : Tab} {ss : List Srt} {ds : List Dat} (hs : All2 (Has Δ) ss ds) {i r c j : Nat} {k : IntKind} (hi : ss[i]? = some (.list r)) (hc : (Δ.row r)[c]? = some (.int k)) (hj : j < (argL ds i).length) (d : Dat) :
    ((argL ds i).getD j []).getD c d = .int k (rowI ((argL ds i).getD j []) c) := by
  obtain ⟨x, hx, hh⟩ := hs.getS hi
  have e : argL ds i = x.xs := by rw [argL, List.getD_eq_getElem?_getD, hx]; rfl
  rw [e] at hj ⊢
  cases hh with
  | list r A n cc xs hl h =>
    rw [xs_list] at hj ⊢
    rw [getD_lt hj]
    have hm : xs[j] ∈ xs := List.getElem_mem hj
    obtain ⟨hlt, hce⟩ := List.getElem?_eq_some_iff.1 hc
    have hcl : c < xs[j].length := by rw [hl _ hm]; exact hlt
    have := h _ hm c _ xs[j][c] hc (by simp [hcl])
    have e1 : ∀ d, xs[j].getD c d = xs[j][c] := fun d => by simp [List.getD_eq_getElem?_getD, hcl]
    rw [rowI, e1, e1]
    exact has_int this
end Go.Proofs.YtonjilfbcofoaaaDoor
