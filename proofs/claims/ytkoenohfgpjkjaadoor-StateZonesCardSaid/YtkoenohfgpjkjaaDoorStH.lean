/-
  The program's small functions on states, and what the laws start with.
-/
import Derived.Test.YtkoenohfgpjkjaaDoorStG
namespace Go.Proofs.YtkoenohfgpjkjaaDoor
open Go.RowKit
set_option linter.unusedVariables false
set_option linter.unusedSimpArgs false

def sg_New : Sig := ⟨[], [(true, [.list 33] ++ List.replicate 11 (.list 3) ++ List.replicate 25 (.int .i64))], false⟩
def tr_New : Tree := (.ret [(.nil 33), (.nil 3), (.nil 3), (.nil 3), (.nil 3), (.nil 3), (.nil 3), (.nil 3), (.nil 3), (.nil 3), (.nil 3), (.nil 3), (.int .i64 0), (.int .i64 0), (.int .i64 0), (.int .i64 0), (.int .i64 0), (.int .i64 0), (.int .i64 0), (.int .i64 0), (.int .i64 0), (.int .i64 0), (.int .i64 0), (.int .i64 0), (.int .i64 0), (.int .i64 0), (.int .i64 0), (.int .i64 0), (.int .i64 0), (.int .i64 0), (.int .i64 0), (.int .i64 0), (.int .i64 0), (.int .i64 0), (.int .i64 0), (.int .i64 0), (.int .i64 0)])
theorem wk_New : walk E0.cx (sgsN []) 0 20 sg_New = tr_New := by kernel_rfl
theorem bo_New : ∃ x, bodyOf E0.P 20 = some x := bo_of (by kernel_rfl)
def k_New : Nat := 20
def st0 : List Dat := [.list (.slice none 0 0) 18 [], .list (.slice none 0 0) 1 [], .list (.slice none 0 0) 1 [], .list (.slice none 0 0) 1 [], .list (.slice none 0 0) 1 [], .list (.slice none 0 0) 1 [], .list (.slice none 0 0) 1 [], .list (.slice none 0 0) 1 [], .list (.slice none 0 0) 1 [], .list (.slice none 0 0) 1 [], .list (.slice none 0 0) 1 [], .list (.slice none 0 0) 1 []] ++ List.replicate 25 (.int .i64 0)
def New_s : Spec := fun ds Q => Q st0
theorem New_h : Holds E0 k_New sg_New New_s := con_each wf0 mix0 g0 [] rfl wk_New rfl (by
  intro Q h
  exact h)
noncomputable def con_New : Con E0 := ⟨k_New, sg_New, New_s, rfl, bo_New, New_h⟩

def LongP (m : Int) (ds : List Dat) : Prop := m < (argL ds 0).length ∨ ∃ z, z < 11 ∧ m + 10 < (argL ds (z + 1)).length
theorem sm_of_long {m : Int} {ds : List Dat} (h : ¬ LongP m ds) (hm : m ≤ 1000) : Sm ds := fun i hi => by
  simp only [LongP, not_or, not_exists, not_and] at h
  match i with
  | 0 => have := h.1; omega
  | i + 1 => have := h.2 i (by omega); omega
theorem den_listsG {Δ : Tab} {ds e : List Dat} (hl : 12 ≤ ds.length) {i : Tm} {z : Nat} (hi : (den Δ (ds ++ e) i).toInt = z) (hz : z < 11) {s : Srt} :
    den Δ (ds ++ e) (.sel (.econs (.var 1) (.econs (.var 2) (.econs (.var 3) (.econs (.var 4) (.econs (.var 5) (.econs (.var 6) (.econs (.var 7) (.econs (.var 8) (.econs (.var 9) (.econs (.var 10) (.econs (.var 11) .enil))))))))))) i s) = ds.getD (z + 1) (.bool false) := by
  simp only [den_sel, row0_econs, row0_enil, hi, Int.toNat_natCast]
  rw [den_varA (by omega), den_varA (by omega), den_varA (by omega), den_varA (by omega), den_varA (by omega), den_varA (by omega), den_varA (by omega), den_varA (by omega), den_varA (by omega), den_varA (by omega), den_varA (by omega)]
  match z, hz with
  | 0, _ | 1, _ | 2, _ | 3, _ | 4, _ | 5, _ | 6, _ | 7, _ | 8, _ | 9, _ | 10, _ => rfl
def sg_Long : Sig := ⟨[(true, [.list 33] ++ List.replicate 11 (.list 3) ++ List.replicate 25 (.int .i64)), (false, [.int .i64])], [(false, [.bool])], false⟩
def tr_Long : Tree := (.ite (.cmp .gt (.len (.var 0)) (.var 37))
 (.ret [(.bool true)])
 (.loop [(.bool false), (.int .i64 0)] [.bool, (.int .i64)]
  (.ite (.cmp .lt (.var 39) (.int .i64 11))
   (.ob (.cmp .ge (.var 39) (.int .i64 0))
   (.ob (.cmp .lt (.var 39) (.int .i64 11))
   (.ite (.cmp .gt (.len (.sel (.econs (.var 1) (.econs (.var 2) (.econs (.var 3) (.econs (.var 4) (.econs (.var 5) (.econs (.var 6) (.econs (.var 7) (.econs (.var 8) (.econs (.var 9) (.econs (.var 10) (.econs (.var 11) .enil))))))))))) (.var 39) (.list 3))) (.ar .add .i64 (.var 37) (.int .i64 10)))
    (.ret [(.bool true)])
    (.again 0 [(.var 38), (.ar .add .i64 (.var 39) (.int .i64 1))]))))
   (.ret [(.bool false)]))))
theorem wk_Long : walk E0.cx (sgsN []) 0 8 sg_Long = tr_Long := by kernel_rfl
theorem bo_Long : ∃ x, bodyOf E0.P 8 = some x := bo_of (by kernel_rfl)
def k_Long : Nat := 8
def Long_s : Spec := fun ds Q => 0 ≤ argI ds 37 ∧ argI ds 37 ≤ 1000 ∧ ∀ b : Bool, (b = true ↔ LongP (argI ds 37) ds) → Q [.bool b]
theorem Long_h : Holds E0 k_Long sg_Long Long_s := con_by wf0 mix0 g0 [] rfl wk_Long rfl (by
  intro ds Q hs ⟨h0, h1, h⟩
  have hl : ds.length = 38 := hs.length.symm
  simp only [tr_Long, wp, den_int, den_bool, den_nili, den_ar, den_cmp, den_not, den_len, den_elem, den_isnil, den_errI, den_ifc, den_rep, den_push, den_app, den_emp, den_upd, row0_econs, row0_enil, den_and, den_beq, den_nil, toInt_int, toBool_bool, xs_rows, xs_list, dflt_int, dflt_bool, of_eq, of_ne, of_lt, of_le, of_gt, of_ge, of_add, of_sub, of_rem, List.map_cons, List.map_nil, Dat.bool.injEq, decide_eq_true_eq, decide_eq_false_iff_not, Bool.not_eq_true', Bool.not_eq_false', beq_iff_eq, bne_iff_ne, beq_eq_false_iff_ne, bne_eq_false_iff_eq, ne_eq, List.append_assoc, List.cons_append, List.nil_append, allS, @den_var0 E0.Δ ds, den_varA, den_varB, hl, Nat.reduceLT, Nat.reduceLeDiff, Nat.reduceSub, List.getD_cons_zero, List.getD_cons_succ, argL_fold ds, argI_fold ds, List.append_assoc, List.cons_append, List.nil_append, toInt_int, toBool_bool, xs_rows, xs_list, Int.toNat_natCast, Dat.bool.injEq]
  rw [wrap64 (by omega) (by omega)]
  refine ⟨fun h2 => h _ (by simp only [true_iff]; exact .inl h2), fun h2 => ?_⟩
  refine ⟨fun xs m => ∃ (b : Bool) (z : Nat), xs = [.bool b, .int .i64 z] ∧ z ≤ 11 ∧ (∀ y, y < z → ¬ argI ds 37 + 10 < (argL ds (y + 1)).length) ∧ m = 11 - z, ⟨_, false, 0, rfl, by omega, by intro y hy; omega, rfl⟩, ?_⟩
  intro b z' m ⟨_, z, e, hz, hall, hm⟩
  cases e
  refine ⟨fun hlt => ⟨by omega, hlt, ?_⟩, fun hge => h _ ?_⟩
  · have hz11 : z < 11 := by omega
    have hd : ∀ s, den E0.Δ (ds ++ [.bool b, .int .i64 z]) (.sel (.econs (.var 1) (.econs (.var 2) (.econs (.var 3) (.econs (.var 4) (.econs (.var 5) (.econs (.var 6) (.econs (.var 7) (.econs (.var 8) (.econs (.var 9) (.econs (.var 10) (.econs (.var 11) .enil))))))))))) (.var 39) s) = ds.getD (z + 1) (.bool false) := fun s => den_listsG (by omega) (by simp only [@den_var0 E0.Δ ds, den_varA, den_varB, hl, Nat.reduceLT, Nat.reduceLeDiff, Nat.reduceSub, List.getD_cons_zero, List.getD_cons_succ, argL_fold ds, argI_fold ds, List.append_assoc, List.cons_append, List.nil_append, toInt_int, toBool_bool, xs_rows, xs_list, Int.toNat_natCast, Dat.bool.injEq]) hz11
    simp only [hd, @den_var0 E0.Δ ds, den_varA, den_varB, hl, Nat.reduceLT, Nat.reduceLeDiff, Nat.reduceSub, List.getD_cons_zero, List.getD_cons_succ, argL_fold ds, argI_fold ds, List.append_assoc, List.cons_append, List.nil_append, toInt_int, toBool_bool, xs_rows, xs_list, Int.toNat_natCast, Dat.bool.injEq]
    refine ⟨fun h3 => h _ ?_, fun h3 => ⟨11 - (z + 1), by omega, b, z + 1, ?_, by omega, fun y hy => ?_, rfl⟩⟩
    · simp only [true_iff]; exact .inr ⟨z, hz11, h3⟩
    · rw [wrap64 (by omega) (by omega)]; rfl
    · by_cases hyz : y = z
      · subst hyz; exact h3
      · exact hall y (by omega)
  · simp only [Bool.false_eq_true, false_iff, LongP, not_or, not_exists, not_and]
    exact ⟨h2, fun y hy => hall y (by omega)⟩)
noncomputable def con_Long : Con E0 := ⟨k_Long, sg_Long, Long_s, rfl, bo_Long, Long_h⟩

def sg_Cards : Sig := ⟨[(true, [.list 33] ++ List.replicate 11 (.list 3) ++ List.replicate 25 (.int .i64))], [(false, [.int .i64])], false⟩
def tr_Cards : Tree := (.loop [(.int .i64 0), (.int .i64 0)] [(.int .i64), (.int .i64)]
 (.ite (.cmp .lt (.var 38) (.len (.var 0)))
  (.ob (.cmp .ge (.var 38) (.int .i64 0))
  (.ob (.cmp .lt (.var 38) (.len (.var 0)))
  (.ite (.cmp .eq (.elem (.var 0) (.var 38) 13 (.int .i64)) (.int .i64 0))
   (.again 0 [(.ar .add .i64 (.var 37) (.int .i64 1)), (.ar .add .i64 (.var 38) (.int .i64 1))])
   (.again 0 [(.var 37), (.ar .add .i64 (.var 38) (.int .i64 1))]))))
  (.ret [(.var 37)])))
theorem wk_Cards : walk E0.cx (sgsN []) 0 12 sg_Cards = tr_Cards := by kernel_rfl
theorem bo_Cards : ∃ x, bodyOf E0.P 12 = some x := bo_of (by kernel_rfl)
def k_Cards : Nat := 12
def cardsN (l : List (List Dat)) : Nat := l.countP fun o => decide (rowI o 13 = 0)
theorem cardsN_take {l : List (List Dat)} {i : Nat} (h : i < l.length) : cardsN (l.take (i + 1)) = cardsN (l.take i) + (if rowI l[i] 13 = 0 then 1 else 0) := by
  rw [List.take_succ_eq_append_getElem h, cardsN, List.countP_append, List.countP_singleton]
  simp only [decide_eq_true_eq]; rfl
theorem cardsN_le (l : List (List Dat)) : cardsN l ≤ l.length := List.countP_le_length
def Cards_s : Spec := fun ds Q => Sm ds ∧ Q [.int .i64 (cardsN (argL ds 0))]
theorem Cards_h : Holds E0 k_Cards sg_Cards Cards_s := con_by wf0 mix0 g0 [] rfl wk_Cards rfl (by
  intro ds Q hs ⟨hsm, h⟩
  have hl : ds.length = 37 := hs.length.symm
  have hn := hsm 0 (by omega)
  simp only [tr_Cards, wp, den_int, den_bool, den_nili, den_ar, den_cmp, den_not, den_len, den_elem, den_isnil, den_errI, den_ifc, den_rep, den_push, den_app, den_emp, den_upd, row0_econs, row0_enil, den_and, den_beq, den_nil, toInt_int, toBool_bool, xs_rows, xs_list, dflt_int, dflt_bool, of_eq, of_ne, of_lt, of_le, of_gt, of_ge, of_add, of_sub, of_rem, List.map_cons, List.map_nil, Dat.bool.injEq, decide_eq_true_eq, decide_eq_false_iff_not, Bool.not_eq_true', Bool.not_eq_false', beq_iff_eq, bne_iff_ne, beq_eq_false_iff_ne, bne_eq_false_iff_eq, ne_eq, List.append_assoc, List.cons_append, List.nil_append, allS, @den_var0 E0.Δ ds, den_varA, den_varB, hl, Nat.reduceLT, Nat.reduceLeDiff, Nat.reduceSub, List.getD_cons_zero, List.getD_cons_succ, argL_fold ds, argI_fold ds, List.append_assoc, List.cons_append, List.nil_append, toInt_int, toBool_bool, xs_rows, xs_list, Int.toNat_natCast, Dat.bool.injEq]
  refine ⟨fun xs m => ∃ (i : Nat), xs = [.int .i64 (cardsN ((argL ds 0).take i)), .int .i64 i] ∧ i ≤ (argL ds 0).length ∧ m = (argL ds 0).length - i, ⟨_, 0, rfl, by omega, rfl⟩, ?_⟩
  intro n i' m ⟨i, e, hi, hm⟩
  cases e
  have hle := cardsN_le ((argL ds 0).take i)
  rw [List.length_take] at hle
  refine ⟨fun hlt => ⟨by omega, hlt, ?_⟩, fun hge => ?_⟩
  · have hi2 : i < (argL ds 0).length := by omega
    have ht := cardsN_take hi2
    simp only [Int.toNat_natCast, getD_lt hi2]
    refine ⟨fun h0 => ⟨(argL ds 0).length - (i + 1), by omega, i + 1, ?_, by omega, rfl⟩, fun h0 => ⟨(argL ds 0).length - (i + 1), by omega, i + 1, ?_, by omega, rfl⟩⟩
    · rw [if_pos (show rowI (argL ds 0)[i] 13 = 0 from h0)] at ht
      rw [wrap64 (by omega) (by omega), wrap64 (by omega) (by omega), ht]; rfl
    · rw [if_neg (show ¬ rowI (argL ds 0)[i] 13 = 0 from h0)] at ht
      rw [wrap64 (by omega) (by omega), ht]; rfl
  · have hkk : i = (argL ds 0).length := by omega
    rw [List.take_of_length_le (by omega)]; exact h)
noncomputable def con_Cards : Con E0 := ⟨k_Cards, sg_Cards, Cards_s, rfl, bo_Cards, Cards_h⟩

def sg_Zone : Sig := ⟨[(false, [.int .i64]), (false, [.int .i64])], [(false, [.int .i64])], false⟩
def tr_Zone : Tree := (.ite (.cmp .eq (.var 0) (.int .i64 0))
 (.ite (.cmp .eq (.var 1) (.int .i64 0))
  (.ret [(.ar .add .i64 (.var 0) (.var 1))])
  (.ite (.cmp .eq (.var 1) (.int .i64 1))
   (.ret [(.ar .add .i64 (.var 0) (.var 1))])
   (.ret [(.int .i64 (-1))])))
 (.ite (.cmp .eq (.var 0) (.int .i64 2))
  (.ite (.cmp .eq (.var 1) (.int .i64 0))
   (.ret [(.ar .add .i64 (.var 0) (.var 1))])
   (.ite (.cmp .eq (.var 1) (.int .i64 1))
    (.ret [(.ar .add .i64 (.var 0) (.var 1))])
    (.ret [(.int .i64 (-1))])))
  (.ite (.cmp .eq (.var 0) (.int .i64 4))
   (.ite (.cmp .eq (.var 1) (.int .i64 0))
    (.ret [(.ar .add .i64 (.var 0) (.var 1))])
    (.ite (.cmp .eq (.var 1) (.int .i64 1))
     (.ret [(.ar .add .i64 (.var 0) (.var 1))])
     (.ret [(.int .i64 (-1))])))
   (.ite (.cmp .eq (.var 0) (.int .i64 6))
    (.ite (.cmp .eq (.var 1) (.int .i64 0))
     (.ret [(.ar .add .i64 (.var 0) (.var 1))])
     (.ite (.cmp .eq (.var 1) (.int .i64 1))
      (.ret [(.ar .add .i64 (.var 0) (.var 1))])
      (.ret [(.int .i64 (-1))])))
    (.ret [(.int .i64 (-1))])))))
theorem wk_Zone : walk E0.cx (sgsN []) 0 14 sg_Zone = tr_Zone := by kernel_rfl
theorem bo_Zone : ∃ x, bodyOf E0.P 14 = some x := bo_of (by kernel_rfl)
def k_Zone : Nat := 14
def zoneN (b p : Int) : Int := if (b = 0 ∨ b = 2 ∨ b = 4 ∨ b = 6) ∧ (p = 0 ∨ p = 1) then b + p else -1
def Zone_s : Spec := fun ds Q => Q [.int .i64 (zoneN (argI ds 0) (argI ds 1))]
theorem Zone_h : Holds E0 k_Zone sg_Zone Zone_s := con_each wf0 mix0 g0 [] rfl wk_Zone rfl (by
  intro z p Q h
  simp only [Zone_s, argI, Dat.toInt, List.getD_cons_zero, List.getD_cons_succ, zoneN] at h
  simp only [tr_Zone, wp, den, Dat.toInt, Cmp.of, List.nil_append, List.getD_cons_zero, List.getD_cons_succ, List.map_cons, List.map_nil, Dat.bool.injEq, decide_eq_true_eq, decide_eq_false_iff_not, ge_iff_le]
  have ok : (z = 0 ∨ z = 2 ∨ z = 4 ∨ z = 6) → (p = 0 ∨ p = 1) → Q [.int .i64 (Ar.add.of .i64 z p)] := fun hz hp => by
    rw [if_pos ⟨hz, hp⟩] at h
    have e : Ar.add.of .i64 z p = z + p := wrap64 (by omega) (by omega)
    rw [e]; exact h
  have no : ¬ ((z = 0 ∨ z = 2 ∨ z = 4 ∨ z = 6) ∧ (p = 0 ∨ p = 1)) → Q [.int .i64 (-1)] := fun hn => by
    rw [if_neg hn] at h; exact h
  simp only [beq_iff_eq, beq_eq_false_iff_ne, ne_eq]
  repeat' (refine And.intro (fun _ => ?_) (fun _ => ?_))
  all_goals first | exact ok (by omega) (by omega) | exact no (by omega))
noncomputable def con_Zone : Con E0 := ⟨k_Zone, sg_Zone, Zone_s, rfl, bo_Zone, Zone_h⟩

theorem All2.getS {α β : Type} {R : α → β → Prop} : ∀ {l : List α} {m : List β}, All2 R l m → ∀ {i : Nat} {s : α}, l[i]? = some s → ∃ d, m[i]? = some d ∧ R s d
  | _, _, .cons h t, 0, s, e => by cases e; exact ⟨_, rfl, h⟩
  | _, _, .cons h t, i + 1, s, e => t.getS (i := i) (by simpa using e)
theorem int_el {Δ : Tab} {ss : List Srt} {ds : List Dat} (hs : All2 (Has Δ) ss ds) {i r c j : Nat} {k : IntKind} (hi : ss[i]? = some (.list r)) (hc : (Δ.row r)[c]? = some (.int k)) (hj : j < (argL ds i).length) (d : Dat) :
    ((argL ds i).getD j []).getD c d = .int k (rowI ((argL ds i).getD j []) c) := by
  obtain ⟨x, hx, hh⟩ := hs.getS hi
  have e : argL ds i = x.xs := by rw [argL, List.getD_eq_getElem?_getD, hx]; rfl
  rw [e] at hj ⊢
  cases hh with
  | list r A n cc xs hl h =>
    rw [xs_list] at hj ⊢
    rw [getD_lt hj]
    have hm : xs[j] ∈ xs := List.getElem_mem hj
    obtain ⟨hlt, hce⟩ := List.getElem?_eq_some_iff.1 hc
    have hcl : c < xs[j].length := by rw [hl _ hm]; exact hlt
    have := h _ hm c _ xs[j][c] hc (by simp [hcl])
    have e1 : ∀ d, xs[j].getD c d = xs[j][c] := fun d => by simp [List.getD_eq_getElem?_getD, hcl]
    rw [rowI, e1, e1]
    exact has_int this
def sg_Top : Sig := ⟨[(true, [.list 33] ++ List.replicate 11 (.list 3) ++ List.replicate 25 (.int .i64)), (false, [.int .i64])], [(false, [.int .i64]), (false, [.bool])], false⟩
def tr_Top : Tree := (.ite (.cmp .lt (.var 37) (.int .i64 0))
 (.ret [(.int .i64 0), (.bool false)])
 (.ite (.cmp .ge (.var 37) (.int .i64 11))
  (.ret [(.int .i64 0), (.bool false)])
  (.ob (.cmp .ge (.var 37) (.int .i64 0))
  (.ob (.cmp .lt (.var 37) (.int .i64 11))
  (.ite (.cmp .eq (.len (.sel (.econs (.var 1) (.econs (.var 2) (.econs (.var 3) (.econs (.var 4) (.econs (.var 5) (.econs (.var 6) (.econs (.var 7) (.econs (.var 8) (.econs (.var 9) (.econs (.var 10) (.econs (.var 11) .enil))))))))))) (.var 37) (.list 3))) (.int .i64 0))
   (.ret [(.int .i64 0), (.bool false)])
   (.ob (.cmp .ge (.var 37) (.int .i64 0))
   (.ob (.cmp .lt (.var 37) (.int .i64 11))
   (.ob (.cmp .ge (.var 37) (.int .i64 0))
   (.ob (.cmp .lt (.var 37) (.int .i64 11))
   (.ob (.cmp .ge (.ar .sub .i64 (.len (.sel (.econs (.var 1) (.econs (.var 2) (.econs (.var 3) (.econs (.var 4) (.econs (.var 5) (.econs (.var 6) (.econs (.var 7) (.econs (.var 8) (.econs (.var 9) (.econs (.var 10) (.econs (.var 11) .enil))))))))))) (.var 37) (.list 3))) (.int .i64 1)) (.int .i64 0))
   (.ob (.cmp .lt (.ar .sub .i64 (.len (.sel (.econs (.var 1) (.econs (.var 2) (.econs (.var 3) (.econs (.var 4) (.econs (.var 5) (.econs (.var 6) (.econs (.var 7) (.econs (.var 8) (.econs (.var 9) (.econs (.var 10) (.econs (.var 11) .enil))))))))))) (.var 37) (.list 3))) (.int .i64 1)) (.len (.sel (.econs (.var 1) (.econs (.var 2) (.econs (.var 3) (.econs (.var 4) (.econs (.var 5) (.econs (.var 6) (.econs (.var 7) (.econs (.var 8) (.econs (.var 9) (.econs (.var 10) (.econs (.var 11) .enil))))))))))) (.var 37) (.list 3))))
   (.ret [(.elem (.sel (.econs (.var 1) (.econs (.var 2) (.econs (.var 3) (.econs (.var 4) (.econs (.var 5) (.econs (.var 6) (.econs (.var 7) (.econs (.var 8) (.econs (.var 9) (.econs (.var 10) (.econs (.var 11) .enil))))))))))) (.var 37) (.list 3)) (.ar .sub .i64 (.len (.sel (.econs (.var 1) (.econs (.var 2) (.econs (.var 3) (.econs (.var 4) (.econs (.var 5) (.econs (.var 6) (.econs (.var 7) (.econs (.var 8) (.econs (.var 9) (.econs (.var 10) (.econs (.var 11) .enil))))))))))) (.var 37) (.list 3))) (.int .i64 1)) 0 (.int .i64)), (.bool true)]))))))))))))
theorem wk_Top : walk E0.cx (sgsN []) 0 15 sg_Top = tr_Top := by kernel_rfl
theorem bo_Top : ∃ x, bodyOf E0.P 15 = some x := bo_of (by kernel_rfl)
def k_Top : Nat := 15
def Top_s : Spec := fun ds Q => ((argI ds 37 < 0 ∨ 11 ≤ argI ds 37) → Q [.int .i64 0, .bool false]) ∧ ∀ z : Nat, argI ds 37 = z → z < 11 → Sm ds ∧ (lst ds z = [] → Q [.int .i64 0, .bool false]) ∧ ∀ h : lst ds z ≠ [], Q [.int .i64 ((lst ds z).getLast h), .bool true]
theorem Top_h : Holds E0 k_Top sg_Top Top_s := con_by wf0 mix0 g0 [] rfl wk_Top rfl (by
  intro ds Q hs h
  have hl : ds.length = 38 := hs.length.symm
  simp only [tr_Top, wp, den_int, den_bool, den_nili, den_ar, den_cmp, den_not, den_len, den_elem, den_isnil, den_errI, den_ifc, den_rep, den_push, den_app, den_emp, den_upd, row0_econs, row0_enil, den_and, den_beq, den_nil, toInt_int, toBool_bool, xs_rows, xs_list, dflt_int, dflt_bool, of_eq, of_ne, of_lt, of_le, of_gt, of_ge, of_add, of_sub, of_rem, List.map_cons, List.map_nil, Dat.bool.injEq, decide_eq_true_eq, decide_eq_false_iff_not, Bool.not_eq_true', Bool.not_eq_false', beq_iff_eq, bne_iff_ne, beq_eq_false_iff_ne, bne_eq_false_iff_eq, ne_eq, List.append_assoc, List.cons_append, List.nil_append, allS, @den_var0 E0.Δ ds, den_varA, den_varB, hl, Nat.reduceLT, Nat.reduceLeDiff, Nat.reduceSub, List.getD_cons_zero, List.getD_cons_succ, argL_fold ds, argI_fold ds, List.append_assoc, List.cons_append, List.nil_append, toInt_int, toBool_bool, xs_rows, xs_list, Int.toNat_natCast, Dat.bool.injEq]
  refine ⟨fun h0 => h.1 (.inl h0), fun h0 => ⟨fun h1 => h.1 (.inr h1), fun h1 => ?_⟩⟩
  obtain ⟨z, hz⟩ := Int.eq_ofNat_of_zero_le (show 0 ≤ argI ds 37 by omega)
  have hz11 : z < 11 := by omega
  obtain ⟨hsm, ht1, ht2⟩ := h.2 z hz hz11
  have hb := hsm (z + 1) (by omega)
  have hd : ∀ s, den E0.Δ ds (.sel (.econs (.var 1) (.econs (.var 2) (.econs (.var 3) (.econs (.var 4) (.econs (.var 5) (.econs (.var 6) (.econs (.var 7) (.econs (.var 8) (.econs (.var 9) (.econs (.var 10) (.econs (.var 11) .enil))))))))))) (.var 37) s) = ds.getD (z + 1) (.bool false) := fun s => by
    have := den_listsG (Δ := E0.Δ) (ds := ds) (e := []) (i := .var 37) (z := z) (by omega) (by simp only [List.append_nil, den_var0, argI_fold]; exact hz) hz11 (s := s)
    rw [List.append_nil] at this; exact this
  simp only [hd, @den_var0 E0.Δ ds, den_varA, den_varB, hl, Nat.reduceLT, Nat.reduceLeDiff, Nat.reduceSub, List.getD_cons_zero, List.getD_cons_succ, argL_fold ds, argI_fold ds, List.append_assoc, List.cons_append, List.nil_append, toInt_int, toBool_bool, xs_rows, xs_list, Int.toNat_natCast, Dat.bool.injEq]
  refine ⟨by omega, by omega, fun h2 => ht1 ?_, fun h2 => ?_⟩
  · rw [← List.length_eq_zero_iff, lst_len]; omega
  · have hne : lst ds z ≠ [] := by rw [ne_eq, ← List.length_eq_zero_iff, lst_len]; omega
    rw [wrap64 (by omega) (by omega)]
    refine ⟨by omega, by omega, by omega, by omega, by omega, by omega, ?_⟩
    have hlt : (argL ds (z + 1)).length - 1 < (argL ds (z + 1)).length := by omega
    have e1 : (((argL ds (z + 1)).length : Int) - 1).toNat = (argL ds (z + 1)).length - 1 := by omega
    rw [e1, int_el hs (i := z + 1) (r := 3) (k := .i64) (by
      match z, hz11 with
      | 0, _ | 1, _ | 2, _ | 3, _ | 4, _ | 5, _ | 6, _ | 7, _ | 8, _ | 9, _ | 10, _ => rfl) rfl hlt, show rowI ((argL ds (z + 1)).getD ((argL ds (z + 1)).length - 1) []) 0 = _ from lst_el hlt]
    have e2 : (lst ds z)[(argL ds (z + 1)).length - 1]'(by rw [lst_len]; exact hlt) = (lst ds z).getLast hne := by
      rw [List.getLast_eq_getElem]; congr 1; rw [lst_len]
    rw [e2]
    exact ht2 hne)
noncomputable def con_Top : Con E0 := ⟨k_Top, sg_Top, Top_s, rfl, bo_Top, Top_h⟩

theorem sm0 : Sm st0 := fun i hi => by
  match i, hi with
  | 0, _ | 1, _ | 2, _ | 3, _ | 4, _ | 5, _ | 6, _ | 7, _ | 8, _ | 9, _ | 10, _ | 11, _ => exact Nat.zero_le _
theorem pl0 (d : Dat) : plP (d :: st0.tail) := (plP_iff _).2 fun i hi f hf => by
  match i, hi with
  | 0, _ =>
    match f, hf with
    | 0, _ | 1, _ | 2, _ | 3, _ | 4, _ | 5, _ | 6, _ | 7, _ | 8, _ => rfl
  | 1, _ =>
    match f, hf with
    | 0, _ | 1, _ | 2, _ | 3, _ | 4, _ | 5, _ | 6, _ | 7, _ | 8, _ => rfl
theorem gm0 (d : Dat) : gmP (d :: st0.tail) := ⟨rfl, rfl, rfl, rfl, rfl, rfl, rfl⟩
theorem ids0 (d : Dat) : ids (d :: st0.tail) 11 = [] := rfl
theorem err0 : errP st0 0 := by
  unfold errP
  rw [if_neg (by decide)]
  exact .inr (.inr (.inr ⟨⟨fun o ho => absurd ho (List.not_mem_nil), pl0 _, gm0 _⟩, ⟨fun p hp => absurd hp List.not_mem_nil, List.nodup_nil, rfl⟩, fun o ho => absurd ho List.not_mem_nil, rfl⟩))
theorem err1 {d : Dat} (hd : d.xs = [List.replicate 18 (.int .i64 0)]) : errP (d :: st0.tail) 12 := by
  have hl : (argL (d :: st0.tail) 0) = [List.replicate 18 (.int .i64 0)] := hd
  unfold errP
  rw [if_neg (by rw [hl]; decide)]
  refine .inr (.inl ⟨⟨fun o ho => ?_, pl0 _, gm0 _⟩, fun hP => ?_, rfl⟩)
  · rw [hl] at ho ⊢
    rw [List.mem_singleton.1 ho]; rfl
  · have := hP.2.2
    rw [hl, ids0] at this
    cases this
def sg_alive : Sig := ⟨[], [(false, [.bool])], false⟩
def tr_alive : Tree := (.call k_New [] [(.list 33), (.list 3), (.list 3), (.list 3), (.list 3), (.list 3), (.list 3), (.list 3), (.list 3), (.list 3), (.list 3), (.list 3), (.int .i64), (.int .i64), (.int .i64), (.int .i64), (.int .i64), (.int .i64), (.int .i64), (.int .i64), (.int .i64), (.int .i64), (.int .i64), (.int .i64), (.int .i64), (.int .i64), (.int .i64), (.int .i64), (.int .i64), (.int .i64), (.int .i64), (.int .i64), (.int .i64), (.int .i64), (.int .i64), (.int .i64), (.int .i64)]
(.call k_Check [(.var 0), (.var 1), (.var 2), (.var 3), (.var 4), (.var 5), (.var 6), (.var 7), (.var 8), (.var 9), (.var 10), (.var 11), (.var 12), (.var 13), (.var 14), (.var 15), (.var 16), (.var 17), (.var 18), (.var 19), (.var 20), (.var 21), (.var 22), (.var 23), (.var 24), (.var 25), (.var 26), (.var 27), (.var 28), (.var 29), (.var 30), (.var 31), (.var 32), (.var 33), (.var 34), (.var 35), (.var 36)] [.err]
(.ite (.isnil (.var 37))
 (.share 33 (.push .emp (.econs (.int .i64 0) (.econs (.int .i64 0) (.econs (.int .i64 0) (.econs (.int .i64 0) (.econs (.int .i64 0) (.econs (.int .i64 0) (.econs (.int .i64 0) (.econs (.int .i64 0) (.econs (.int .i64 0) (.econs (.int .i64 0) (.econs (.int .i64 0) (.econs (.int .i64 0) (.econs (.int .i64 0) (.econs (.int .i64 0) (.econs (.int .i64 0) (.econs (.int .i64 0) (.econs (.int .i64 0) (.econs (.int .i64 0) .enil)))))))))))))))))))
 (.call k_Check [(.var 38), (.nil 3), (.nil 3), (.nil 3), (.nil 3), (.nil 3), (.nil 3), (.nil 3), (.nil 3), (.nil 3), (.nil 3), (.nil 3), (.int .i64 0), (.int .i64 0), (.int .i64 0), (.int .i64 0), (.int .i64 0), (.int .i64 0), (.int .i64 0), (.int .i64 0), (.int .i64 0), (.int .i64 0), (.int .i64 0), (.int .i64 0), (.int .i64 0), (.int .i64 0), (.int .i64 0), (.int .i64 0), (.int .i64 0), (.int .i64 0), (.int .i64 0), (.int .i64 0), (.int .i64 0), (.int .i64 0), (.int .i64 0), (.int .i64 0), (.int .i64 0)] [.err]
 (.call k_Is [(.var 39), (.int .i64 12)] [.bool]
 (.ret [(.var 40)]))))
 (.ret [(.bool false)]))))
theorem wk_alive : walk E0.cx (sgsN [(10, sg_Check), (21, sg_Is), (20, sg_New)]) 0 7 sg_alive = tr_alive := by kernel_rfl
theorem bo_alive : ∃ x, bodyOf E0.P 7 = some x := bo_of (by kernel_rfl)
def k_alive : Nat := 7
theorem sp_alive_Check : specC [con_Check, con_Is, con_New] k_Check = Check_s := rfl
theorem sp_alive_Is : specC [con_Check, con_Is, con_New] k_Is = Is_s := rfl
theorem sp_alive_New : specC [con_Check, con_Is, con_New] k_New = New_s := rfl
def alive_s : Spec := fun ds Q => Q [.bool true]
theorem alive_h : Holds E0 k_alive sg_alive alive_s := con_by wf0 mix0 g0 [con_Check, con_Is, con_New] rfl wk_alive rfl (by
  intro ds Q hs h
  have hl : ds.length = 0 := hs.length.symm
  obtain rfl := List.length_eq_zero_iff.1 hl
  simp only [tr_alive, wp, den_int, den_bool, den_nili, den_ar, den_cmp, den_not, den_len, den_elem, den_isnil, den_errI, den_ifc, den_rep, den_push, den_app, den_emp, den_upd, row0_econs, row0_enil, den_and, den_beq, den_nil, toInt_int, toBool_bool, xs_rows, xs_list, dflt_int, dflt_bool, of_eq, of_ne, of_lt, of_le, of_gt, of_ge, of_add, of_sub, of_rem, List.map_cons, List.map_nil, Dat.bool.injEq, decide_eq_true_eq, decide_eq_false_iff_not, Bool.not_eq_true', Bool.not_eq_false', beq_iff_eq, bne_iff_ne, beq_eq_false_iff_ne, bne_eq_false_iff_eq, ne_eq, List.append_assoc, List.cons_append, List.nil_append, allS, sp_alive_Check, sp_alive_Is, sp_alive_New, New_s, Check_s, Is_s]
  have e0 : ∀ n, errP st0 n → n = 0 := fun n hn => errP_inj hn err0
  refine ⟨sm0, fun n hn => ?_⟩
  obtain rfl := e0 n hn
  refine ⟨fun _ A c => ?_, fun hx => Bool.noConfusion hx⟩
  refine ⟨?_, fun n hn => ?_⟩
  · intro i hi
    match i, hi with
    | 0, _ => exact Nat.le_of_ble_eq_true rfl
    | 1, _ | 2, _ | 3, _ | 4, _ | 5, _ | 6, _ | 7, _ | 8, _ | 9, _ | 10, _ | 11, _ => exact Nat.zero_le _
  · obtain rfl : n = 12 := errP_inj hn (err1 rfl)
    exact ⟨12, 12, rfl, h⟩)
noncomputable def con_alive : Con E0 := ⟨k_alive, sg_alive, alive_s, rfl, bo_alive, alive_h⟩
end Go.Proofs.YtkoenohfgpjkjaaDoor
