/-
  Contracts: the event by which an object's bits are others; which objects a player knows.
-/
import Derived.Test.YtlgfnimahmmgeaaKnowD
import Derived.Test.YtlgfnimahmmgeaaNumA
namespace Go.Proofs.Ytlgfnimahmmgeaa
open Go.RowKit
set_option linter.unusedVariables false

def evO (id was now : Int) : Nat → Int := fun i => if i = 0 then 2 else if i = 1 then id else if i = 2 then 17 else if i = 3 then was else if i = 4 then now else 0
theorem evO_eq (id was now : Int) : ints 6 (evO id was now) = #[.int .i64 2, .int .i64 id, .int .i64 17, .int .i64 was, .int .i64 now, .int .i64 0] := by rfl
theorem evO_rows (id was now : Int) : rowsC 6 [evO id was now] = [.int .i64 2, .int .i64 id, .int .i64 17, .int .i64 was, .int .i64 now, .int .i64 0] := by rw [rowsC_one, evO_eq]
/-- the event, or none -/
def turnE (id was now : Int) : List (Nat → Int) := if now = was then [] else [evO id was now]
def turnL (nx : Int → Int) (l : List (Nat → Int)) (id : Int) : List (Nat → Int) :=
  if 0 ≤ id ∧ id < l.length then turnE id ((l.getD id.toNat fun _ => 0) 17) (nx ((l.getD id.toNat fun _ => 0) 17)) else []
theorem turnL_out {nx : Int → Int} {l : List (Nat → Int)} {id : Int} (h : ¬ (0 ≤ id ∧ id < l.length)) : turnL nx l id = [] := by unfold turnL; rw [if_neg h]
theorem turnL_in {nx : Int → Int} {l : List (Nat → Int)} {k : Nat} (h : k < l.length) {was : Int} (hw : l[k] 17 = was) : turnL nx l k = turnE k was (nx was) := by
  unfold turnL
  rw [if_pos ⟨by omega, by omega⟩]
  have : l.getD ((k : Int)).toNat (fun _ => 0) = l[k] := by simp [List.getD_eq_getElem?_getD, h]
  rw [this, hw]
theorem turnE_same {id was now : Int} (h : now = was) : turnE id was now = [] := if_pos h
theorem turnE_other {id was now : Int} (h : ¬ now = was) : turnE id was now = [evO id was now] := if_neg h
/-- a cell that stands -/
abbrev Fact.cellAt (b : Nat) (v : Value) : Fact := .gen (fun w => w.cell? ⟨b, 0, none⟩ = some v) (fun k => k = b)
theorem cellAt_firm (b : Nat) (v : Value) : Firm (fun w => w.cell? ⟨b, 0, none⟩ = some v) (fun k => k = b) :=
  ⟨fun w1 w2 o h hg hne => (cell_grown (p := ⟨b, 0, none⟩) hg (block_lt_of_cell h) (hne b rfl)).trans h, fun w1 h k hk => by subst hk; exact block_lt_of_cell h⟩
theorem Mem.addCell {w0 w : World} {L : List Fact} {b : Nat} {v : Value} (h : Mem none w0 w L) (hc : w0.cell? ⟨b, 0, none⟩ = some v) : Mem none w0 w (.cellAt b v :: L) :=
  h.addOld ⟨(cellAt_firm b v).keeps _ _ _ hc h.grown (by simp), cellAt_firm b v⟩ rfl fun k hk => ⟨(cellAt_firm b v).lt _ hc k hk, by simp⟩
theorem Mem.cell {o : Option Nat} {w0 w : World} {L : List Fact} {b : Nat} {v : Value} (h : Mem o w0 w L) (hf : Fact.cellAt b v ∈ L) : w.cell? ⟨b, 0, none⟩ = some v := (h.holds _ hf).1

set_option maxRecDepth 100000 in
set_option maxHeartbeats 1000000 in
theorem turnS_m (v : StV) (s : St) (id players : Int) (b : Nat) (w : World) (hst : StIn w v s) (hc : w.cell? ⟨b, 0, none⟩ = some (.int .i64 players)) :
    Calls Try.prog 28 #[.agg (stC v), .int .i64 id, .func (.func 29) #[] #[.pointer (some ⟨b, 0, none⟩)]] w (RetOw w 6 (turnL (fun was => orW was players) s.objs id).length (rowsC 6 (turnL (fun was => orW was players) s.objs id))) := by
  have HM := Lib.hid (((Mem.start (o := none) w).addCell hc).addSt hst)
  have hn := hst.hn 0 (by omega)
  have HL := Lib.hid hst.len
  have HS := Lib.hid (stC_size v)
  clear hst hc
  by_cases hin : 0 ≤ id ∧ id < v.n 0
  · obtain ⟨k, rfl⟩ : ∃ k : Nat, id = (k : Int) := ⟨id.toNat, by omega⟩
    have hk : k < v.n 0 := by omega
    have hkl : k < s.objs.length := by have := HL.out; omega
    have HX := Lib.hid (rowsC_get 18 s.objs k 17 hkl (by omega))
    have HT := Lib.hid (fun was hw => turnL_in (nx := fun was => orW was players) hkl (was := was) hw)
    generalize hwas : s.objs[k] 17 = was at *
    replace HT := Lib.hid (HT.out was rfl)
    clear hwas hin
    by_cases he : orW was players = was
    · have HE := Lib.hid (HT.out.trans (turnE_same he))
      have e1 : (orW was players == was) = true := by simpa using he
      clear he
      go_enter Try.func28, Try.ntmps28
      go_wp2_with (first
        | (go_at_call 29; refine (ShowF_c _ _ _ _ (HM.out.cell (by repeat (first | exact List.Mem.head _ | apply List.Mem.tail)))).mono ?_; rintro e wv ⟨rfl, rfl⟩)
        | (refine W_at (o := ⟨some 12, _, _, _, _, _⟩) ?_; fail_if_success (refine W_lit 11 rfl ?_); refine W_cases 11 _ rfl (fun hb11 => ?_) (fun hb11 => ?_) <;> (try simp only [decide_eq_true_eq, decide_eq_false_iff_not, beq_iff_eq, bne_iff_ne, beq_eq_false_iff_ne, bne_eq_false_iff_eq, ne_eq, Bool.not_eq_true', Bool.not_eq_false', Bool.and_eq_true, Bool.or_eq_true, Bool.and_eq_false_iff, Bool.or_eq_false_iff, Int.not_lt, Int.not_le, Nat.not_lt, Nat.not_le] at hb11) <;> simp only [Act.put, List.setIfInBounds_toArray, List.set_cons_succ, List.set_cons_zero])
        | (refine M_box HM.out rfl rfl rfl ?_; clear HM; intro b3 w3 HM; replace HM := Lib.hid HM)
        | (refine M_of _ rfl (R_field rfl rfl Try.underlying36 rfl (by kernel_rfl)) ?_)
        | (refine M_of _ rfl (R_cell HM.out rfl rfl (by (repeat (first | exact List.Mem.head _ | apply List.Mem.tail)); done) (by first | exact ints_get _ (by decide) | exact stC_sl _ (by decide) | exact stC_pl _ (by decide) (by decide) | exact stC_gm _ (by decide) (by decide) | assumption | rfl) Try.underlying29 rfl) ?_)
        | (refine M_of _ rfl (R_at (HM.out.rdi (by (repeat (first | exact RdIn.rd _ | exact RdIn.ow _ | apply RdIn.tail)); done)) rfl rfl (by first | assumption | rfl) Try.underlying29 rfl) ?_)
        | (refine M_of _ rfl (R_index (HM.out.rdi (by (repeat (first | exact RdIn.rd _ | exact RdIn.ow _ | apply RdIn.tail)); done)) rfl rfl rfl (by omega) (by omega) Try.underlying29 tsz_39 rfl) ?_)
        | (refine M_of _ rfl (R_elem rfl rfl rfl (by omega) (by omega) Try.underlying39 tsz_3 rfl) ?_)
        | (refine M_of _ rfl (R_cell HM.out rfl rfl (by (repeat (first | exact List.Mem.head _ | apply List.Mem.tail)); done) (by first | exact ints_get _ (by decide) | exact stC_sl _ (by decide) | exact stC_pl _ (by decide) (by decide) | exact stC_gm _ (by decide) (by decide) | assumption | rfl) Try.underlying3 rfl) ?_)
        | (refine M_of _ rfl (R_at (HM.out.rdi (by (repeat (first | exact RdIn.rd _ | exact RdIn.ow _ | apply RdIn.tail)); done)) rfl rfl (by first | assumption | rfl) Try.underlying3 rfl) ?_)
        | (refine M_buildSlice (n := 1) HM.out rfl [_] rfl Try.underlying22 tinfo_25 rfl rfl (by decide) (by decide) (by intro u hu; simp at hu; (try (rcases hu with rfl)); all_goals (first | rfl | (subst hu; rfl) | simp [Value.cells, ints_size])) ?_; clear HM; intro b34 w34 HM; replace HM := Lib.hid HM; try simp only [Act.eval, Array.getD_eq_getD_getElem?, List.getElem?_toArray, List.getElem?_cons_succ, List.getElem?_cons_zero, Option.getD_some, List.flatMap_cons, List.flatMap_nil, Value.cells, List.append_nil, List.cons_append, List.nil_append] at HM))
      go_ret
      rw [HE.out]
      exact ⟨_, _, rfl, Ow.nil _ _ _, HM.out.below⟩
    · have HE := Lib.hid (HT.out.trans (turnE_other he))
      have e1 : (orW was players == was) = false := by simpa using he
      clear he
      go_enter Try.func28, Try.ntmps28
      go_wp2_with (first
        | (go_at_call 29; refine (ShowF_c _ _ _ _ (HM.out.cell (by repeat (first | exact List.Mem.head _ | apply List.Mem.tail)))).mono ?_; rintro e wv ⟨rfl, rfl⟩)
        | (refine W_at (o := ⟨some 12, _, _, _, _, _⟩) ?_; fail_if_success (refine W_lit 11 rfl ?_); refine W_cases 11 _ rfl (fun hb11 => ?_) (fun hb11 => ?_) <;> (try simp only [decide_eq_true_eq, decide_eq_false_iff_not, beq_iff_eq, bne_iff_ne, beq_eq_false_iff_ne, bne_eq_false_iff_eq, ne_eq, Bool.not_eq_true', Bool.not_eq_false', Bool.and_eq_true, Bool.or_eq_true, Bool.and_eq_false_iff, Bool.or_eq_false_iff, Int.not_lt, Int.not_le, Nat.not_lt, Nat.not_le] at hb11) <;> simp only [Act.put, List.setIfInBounds_toArray, List.set_cons_succ, List.set_cons_zero])
        | (refine M_box HM.out rfl rfl rfl ?_; clear HM; intro b3 w3 HM; replace HM := Lib.hid HM)
        | (refine M_of _ rfl (R_field rfl rfl Try.underlying36 rfl (by kernel_rfl)) ?_)
        | (refine M_of _ rfl (R_cell HM.out rfl rfl (by (repeat (first | exact List.Mem.head _ | apply List.Mem.tail)); done) (by first | exact ints_get _ (by decide) | exact stC_sl _ (by decide) | exact stC_pl _ (by decide) (by decide) | exact stC_gm _ (by decide) (by decide) | assumption | rfl) Try.underlying29 rfl) ?_)
        | (refine M_of _ rfl (R_at (HM.out.rdi (by (repeat (first | exact RdIn.rd _ | exact RdIn.ow _ | apply RdIn.tail)); done)) rfl rfl (by first | assumption | rfl) Try.underlying29 rfl) ?_)
        | (refine M_of _ rfl (R_index (HM.out.rdi (by (repeat (first | exact RdIn.rd _ | exact RdIn.ow _ | apply RdIn.tail)); done)) rfl rfl rfl (by omega) (by omega) Try.underlying29 tsz_39 rfl) ?_)
        | (refine M_of _ rfl (R_elem rfl rfl rfl (by omega) (by omega) Try.underlying39 tsz_3 rfl) ?_)
        | (refine M_of _ rfl (R_cell HM.out rfl rfl (by (repeat (first | exact List.Mem.head _ | apply List.Mem.tail)); done) (by first | exact ints_get _ (by decide) | exact stC_sl _ (by decide) | exact stC_pl _ (by decide) (by decide) | exact stC_gm _ (by decide) (by decide) | assumption | rfl) Try.underlying3 rfl) ?_)
        | (refine M_of _ rfl (R_at (HM.out.rdi (by (repeat (first | exact RdIn.rd _ | exact RdIn.ow _ | apply RdIn.tail)); done)) rfl rfl (by first | assumption | rfl) Try.underlying3 rfl) ?_)
        | (refine M_buildSlice (n := 1) HM.out rfl [_] rfl Try.underlying22 tinfo_25 rfl rfl (by decide) (by decide) (by intro u hu; simp at hu; (try (rcases hu with rfl)); all_goals (first | rfl | (subst hu; rfl) | simp [Value.cells, ints_size])) ?_; clear HM; intro b34 w34 HM; replace HM := Lib.hid HM; try simp only [Act.eval, Array.getD_eq_getD_getElem?, List.getElem?_toArray, List.getElem?_cons_succ, List.getElem?_cons_zero, Option.getD_some, List.flatMap_cons, List.flatMap_nil, Value.cells, List.append_nil, List.cons_append, List.nil_append] at HM))
      go_ret
      rw [HE.out, evO_rows]
      exact ⟨_, _, rfl, HM.out.ow (List.Mem.head _), HM.out.below⟩
  · have HE := Lib.hid (turnL_out (nx := fun was => orW was players) (l := s.objs) (id := id) (by rw [HL.out]; exact hin))
    have hc2 : id < 0 ∨ (¬ id < 0 ∧ (v.n 0 : Int) ≤ id) := by omega
    clear hin
    rcases hc2 with h | ⟨h, h2⟩
    all_goals (
      go_enter Try.func28, Try.ntmps28
      (go_wp2_with (first | (refine W_at (o := ⟨some 12, _, _, _, _, _⟩) ?_; fail_if_success (refine W_lit 11 rfl ?_); refine W_cases 11 _ rfl (fun hb11 => ?_) (fun hb11 => ?_) <;> (try simp only [decide_eq_true_eq, decide_eq_false_iff_not, beq_iff_eq, bne_iff_ne, beq_eq_false_iff_ne, bne_eq_false_iff_eq, ne_eq, Bool.not_eq_true', Bool.not_eq_false', Bool.and_eq_true, Bool.or_eq_true, Bool.and_eq_false_iff, Bool.or_eq_false_iff, Int.not_lt, Int.not_le, Nat.not_lt, Nat.not_le] at hb11) <;> simp only [Act.put, List.setIfInBounds_toArray, List.set_cons_succ, List.set_cons_zero]) | (refine M_box HM.out rfl rfl rfl ?_; clear HM; intro b3 w3 HM; replace HM := Lib.hid HM) | (refine M_of _ rfl (R_field rfl rfl Try.underlying36 rfl (by kernel_rfl)) ?_) | (refine M_of _ rfl (R_cell HM.out rfl rfl (by (repeat (first | exact List.Mem.head _ | apply List.Mem.tail)); done) (by first | exact ints_get _ (by decide) | exact stC_sl _ (by decide) | exact stC_pl _ (by decide) (by decide) | exact stC_gm _ (by decide) (by decide) | assumption | rfl) Try.underlying29 rfl) ?_) | (refine M_of _ rfl (R_at (HM.out.rdi (by (repeat (first | exact RdIn.rd _ | exact RdIn.ow _ | apply RdIn.tail)); done)) rfl rfl (by first | assumption | rfl) Try.underlying29 rfl) ?_) | (refine M_of _ rfl (R_index (HM.out.rdi (by (repeat (first | exact RdIn.rd _ | exact RdIn.ow _ | apply RdIn.tail)); done)) rfl rfl rfl (by omega) (by omega) Try.underlying29 tsz_39 rfl) ?_) | (refine M_of _ rfl (R_elem rfl rfl rfl (by omega) (by omega) Try.underlying39 tsz_3 rfl) ?_) | (refine M_of _ rfl (R_cell HM.out rfl rfl (by (repeat (first | exact List.Mem.head _ | apply List.Mem.tail)); done) (by first | exact ints_get _ (by decide) | exact stC_sl _ (by decide) | exact stC_pl _ (by decide) (by decide) | exact stC_gm _ (by decide) (by decide) | assumption | rfl) Try.underlying3 rfl) ?_) | (refine M_of _ rfl (R_at (HM.out.rdi (by (repeat (first | exact RdIn.rd _ | exact RdIn.ow _ | apply RdIn.tail)); done)) rfl rfl (by first | assumption | rfl) Try.underlying3 rfl) ?_) | (refine M_buildSlice (n := 1) HM.out rfl [_] rfl Try.underlying22 tinfo_25 rfl rfl (by decide) (by decide) (by intro u hu; simp at hu; (try (rcases hu with rfl)); all_goals (first | rfl | (subst hu; rfl) | simp [Value.cells, ints_size])) ?_; clear HM; intro b34 w34 HM; replace HM := Lib.hid HM; try simp only [Act.eval, Array.getD_eq_getD_getElem?, List.getElem?_toArray, List.getElem?_cons_succ, List.getElem?_cons_zero, Option.getD_some, List.flatMap_cons, List.flatMap_nil, Value.cells, List.append_nil, List.cons_append, List.nil_append] at HM)))
      go_ret
      rw [HE.out]
      exact ⟨_, _, rfl, Ow.nil _ _ _, HM.out.below⟩)

set_option maxRecDepth 100000 in
set_option maxHeartbeats 1000000 in
theorem turnH_m (v : StV) (s : St) (id players : Int) (b : Nat) (w : World) (hst : StIn w v s) (hc : w.cell? ⟨b, 0, none⟩ = some (.int .i64 players)) :
    Calls Try.prog 28 #[.agg (stC v), .int .i64 id, .func (.func 30) #[] #[.pointer (some ⟨b, 0, none⟩)]] w (RetOw w 6 (turnL (fun was => clrW was players) s.objs id).length (rowsC 6 (turnL (fun was => clrW was players) s.objs id))) := by
  have HM := Lib.hid (((Mem.start (o := none) w).addCell hc).addSt hst)
  have hn := hst.hn 0 (by omega)
  have HL := Lib.hid hst.len
  have HS := Lib.hid (stC_size v)
  clear hst hc
  by_cases hin : 0 ≤ id ∧ id < v.n 0
  · obtain ⟨k, rfl⟩ : ∃ k : Nat, id = (k : Int) := ⟨id.toNat, by omega⟩
    have hk : k < v.n 0 := by omega
    have hkl : k < s.objs.length := by have := HL.out; omega
    have HX := Lib.hid (rowsC_get 18 s.objs k 17 hkl (by omega))
    have HT := Lib.hid (fun was hw => turnL_in (nx := fun was => clrW was players) hkl (was := was) hw)
    generalize hwas : s.objs[k] 17 = was at *
    replace HT := Lib.hid (HT.out was rfl)
    clear hwas hin
    by_cases he : clrW was players = was
    · have HE := Lib.hid (HT.out.trans (turnE_same he))
      have e1 : (clrW was players == was) = true := by simpa using he
      clear he
      go_enter Try.func28, Try.ntmps28
      go_wp2_with (first
        | (go_at_call 30; refine (HideF_c _ _ _ _ (HM.out.cell (by repeat (first | exact List.Mem.head _ | apply List.Mem.tail)))).mono ?_; rintro e wv ⟨rfl, rfl⟩)
        | (refine W_at (o := ⟨some 12, _, _, _, _, _⟩) ?_; fail_if_success (refine W_lit 11 rfl ?_); refine W_cases 11 _ rfl (fun hb11 => ?_) (fun hb11 => ?_) <;> (try simp only [decide_eq_true_eq, decide_eq_false_iff_not, beq_iff_eq, bne_iff_ne, beq_eq_false_iff_ne, bne_eq_false_iff_eq, ne_eq, Bool.not_eq_true', Bool.not_eq_false', Bool.and_eq_true, Bool.or_eq_true, Bool.and_eq_false_iff, Bool.or_eq_false_iff, Int.not_lt, Int.not_le, Nat.not_lt, Nat.not_le] at hb11) <;> simp only [Act.put, List.setIfInBounds_toArray, List.set_cons_succ, List.set_cons_zero])
        | (refine M_box HM.out rfl rfl rfl ?_; clear HM; intro b3 w3 HM; replace HM := Lib.hid HM)
        | (refine M_of _ rfl (R_field rfl rfl Try.underlying36 rfl (by kernel_rfl)) ?_)
        | (refine M_of _ rfl (R_cell HM.out rfl rfl (by (repeat (first | exact List.Mem.head _ | apply List.Mem.tail)); done) (by first | exact ints_get _ (by decide) | exact stC_sl _ (by decide) | exact stC_pl _ (by decide) (by decide) | exact stC_gm _ (by decide) (by decide) | assumption | rfl) Try.underlying29 rfl) ?_)
        | (refine M_of _ rfl (R_at (HM.out.rdi (by (repeat (first | exact RdIn.rd _ | exact RdIn.ow _ | apply RdIn.tail)); done)) rfl rfl (by first | assumption | rfl) Try.underlying29 rfl) ?_)
        | (refine M_of _ rfl (R_index (HM.out.rdi (by (repeat (first | exact RdIn.rd _ | exact RdIn.ow _ | apply RdIn.tail)); done)) rfl rfl rfl (by omega) (by omega) Try.underlying29 tsz_39 rfl) ?_)
        | (refine M_of _ rfl (R_elem rfl rfl rfl (by omega) (by omega) Try.underlying39 tsz_3 rfl) ?_)
        | (refine M_of _ rfl (R_cell HM.out rfl rfl (by (repeat (first | exact List.Mem.head _ | apply List.Mem.tail)); done) (by first | exact ints_get _ (by decide) | exact stC_sl _ (by decide) | exact stC_pl _ (by decide) (by decide) | exact stC_gm _ (by decide) (by decide) | assumption | rfl) Try.underlying3 rfl) ?_)
        | (refine M_of _ rfl (R_at (HM.out.rdi (by (repeat (first | exact RdIn.rd _ | exact RdIn.ow _ | apply RdIn.tail)); done)) rfl rfl (by first | assumption | rfl) Try.underlying3 rfl) ?_)
        | (refine M_buildSlice (n := 1) HM.out rfl [_] rfl Try.underlying22 tinfo_25 rfl rfl (by decide) (by decide) (by intro u hu; simp at hu; (try (rcases hu with rfl)); all_goals (first | rfl | (subst hu; rfl) | simp [Value.cells, ints_size])) ?_; clear HM; intro b34 w34 HM; replace HM := Lib.hid HM; try simp only [Act.eval, Array.getD_eq_getD_getElem?, List.getElem?_toArray, List.getElem?_cons_succ, List.getElem?_cons_zero, Option.getD_some, List.flatMap_cons, List.flatMap_nil, Value.cells, List.append_nil, List.cons_append, List.nil_append] at HM))
      go_ret
      rw [HE.out]
      exact ⟨_, _, rfl, Ow.nil _ _ _, HM.out.below⟩
    · have HE := Lib.hid (HT.out.trans (turnE_other he))
      have e1 : (clrW was players == was) = false := by simpa using he
      clear he
      go_enter Try.func28, Try.ntmps28
      go_wp2_with (first
        | (go_at_call 30; refine (HideF_c _ _ _ _ (HM.out.cell (by repeat (first | exact List.Mem.head _ | apply List.Mem.tail)))).mono ?_; rintro e wv ⟨rfl, rfl⟩)
        | (refine W_at (o := ⟨some 12, _, _, _, _, _⟩) ?_; fail_if_success (refine W_lit 11 rfl ?_); refine W_cases 11 _ rfl (fun hb11 => ?_) (fun hb11 => ?_) <;> (try simp only [decide_eq_true_eq, decide_eq_false_iff_not, beq_iff_eq, bne_iff_ne, beq_eq_false_iff_ne, bne_eq_false_iff_eq, ne_eq, Bool.not_eq_true', Bool.not_eq_false', Bool.and_eq_true, Bool.or_eq_true, Bool.and_eq_false_iff, Bool.or_eq_false_iff, Int.not_lt, Int.not_le, Nat.not_lt, Nat.not_le] at hb11) <;> simp only [Act.put, List.setIfInBounds_toArray, List.set_cons_succ, List.set_cons_zero])
        | (refine M_box HM.out rfl rfl rfl ?_; clear HM; intro b3 w3 HM; replace HM := Lib.hid HM)
        | (refine M_of _ rfl (R_field rfl rfl Try.underlying36 rfl (by kernel_rfl)) ?_)
        | (refine M_of _ rfl (R_cell HM.out rfl rfl (by (repeat (first | exact List.Mem.head _ | apply List.Mem.tail)); done) (by first | exact ints_get _ (by decide) | exact stC_sl _ (by decide) | exact stC_pl _ (by decide) (by decide) | exact stC_gm _ (by decide) (by decide) | assumption | rfl) Try.underlying29 rfl) ?_)
        | (refine M_of _ rfl (R_at (HM.out.rdi (by (repeat (first | exact RdIn.rd _ | exact RdIn.ow _ | apply RdIn.tail)); done)) rfl rfl (by first | assumption | rfl) Try.underlying29 rfl) ?_)
        | (refine M_of _ rfl (R_index (HM.out.rdi (by (repeat (first | exact RdIn.rd _ | exact RdIn.ow _ | apply RdIn.tail)); done)) rfl rfl rfl (by omega) (by omega) Try.underlying29 tsz_39 rfl) ?_)
        | (refine M_of _ rfl (R_elem rfl rfl rfl (by omega) (by omega) Try.underlying39 tsz_3 rfl) ?_)
        | (refine M_of _ rfl (R_cell HM.out rfl rfl (by (repeat (first | exact List.Mem.head _ | apply List.Mem.tail)); done) (by first | exact ints_get _ (by decide) | exact stC_sl _ (by decide) | exact stC_pl _ (by decide) (by decide) | exact stC_gm _ (by decide) (by decide) | assumption | rfl) Try.underlying3 rfl) ?_)
        | (refine M_of _ rfl (R_at (HM.out.rdi (by (repeat (first | exact RdIn.rd _ | exact RdIn.ow _ | apply RdIn.tail)); done)) rfl rfl (by first | assumption | rfl) Try.underlying3 rfl) ?_)
        | (refine M_buildSlice (n := 1) HM.out rfl [_] rfl Try.underlying22 tinfo_25 rfl rfl (by decide) (by decide) (by intro u hu; simp at hu; (try (rcases hu with rfl)); all_goals (first | rfl | (subst hu; rfl) | simp [Value.cells, ints_size])) ?_; clear HM; intro b34 w34 HM; replace HM := Lib.hid HM; try simp only [Act.eval, Array.getD_eq_getD_getElem?, List.getElem?_toArray, List.getElem?_cons_succ, List.getElem?_cons_zero, Option.getD_some, List.flatMap_cons, List.flatMap_nil, Value.cells, List.append_nil, List.cons_append, List.nil_append] at HM))
      go_ret
      rw [HE.out, evO_rows]
      exact ⟨_, _, rfl, HM.out.ow (List.Mem.head _), HM.out.below⟩
  · have HE := Lib.hid (turnL_out (nx := fun was => clrW was players) (l := s.objs) (id := id) (by rw [HL.out]; exact hin))
    have hc2 : id < 0 ∨ (¬ id < 0 ∧ (v.n 0 : Int) ≤ id) := by omega
    clear hin
    rcases hc2 with h | ⟨h, h2⟩
    all_goals (
      go_enter Try.func28, Try.ntmps28
      (go_wp2_with (first | (refine W_at (o := ⟨some 12, _, _, _, _, _⟩) ?_; fail_if_success (refine W_lit 11 rfl ?_); refine W_cases 11 _ rfl (fun hb11 => ?_) (fun hb11 => ?_) <;> (try simp only [decide_eq_true_eq, decide_eq_false_iff_not, beq_iff_eq, bne_iff_ne, beq_eq_false_iff_ne, bne_eq_false_iff_eq, ne_eq, Bool.not_eq_true', Bool.not_eq_false', Bool.and_eq_true, Bool.or_eq_true, Bool.and_eq_false_iff, Bool.or_eq_false_iff, Int.not_lt, Int.not_le, Nat.not_lt, Nat.not_le] at hb11) <;> simp only [Act.put, List.setIfInBounds_toArray, List.set_cons_succ, List.set_cons_zero]) | (refine M_box HM.out rfl rfl rfl ?_; clear HM; intro b3 w3 HM; replace HM := Lib.hid HM) | (refine M_of _ rfl (R_field rfl rfl Try.underlying36 rfl (by kernel_rfl)) ?_) | (refine M_of _ rfl (R_cell HM.out rfl rfl (by (repeat (first | exact List.Mem.head _ | apply List.Mem.tail)); done) (by first | exact ints_get _ (by decide) | exact stC_sl _ (by decide) | exact stC_pl _ (by decide) (by decide) | exact stC_gm _ (by decide) (by decide) | assumption | rfl) Try.underlying29 rfl) ?_) | (refine M_of _ rfl (R_at (HM.out.rdi (by (repeat (first | exact RdIn.rd _ | exact RdIn.ow _ | apply RdIn.tail)); done)) rfl rfl (by first | assumption | rfl) Try.underlying29 rfl) ?_) | (refine M_of _ rfl (R_index (HM.out.rdi (by (repeat (first | exact RdIn.rd _ | exact RdIn.ow _ | apply RdIn.tail)); done)) rfl rfl rfl (by omega) (by omega) Try.underlying29 tsz_39 rfl) ?_) | (refine M_of _ rfl (R_elem rfl rfl rfl (by omega) (by omega) Try.underlying39 tsz_3 rfl) ?_) | (refine M_of _ rfl (R_cell HM.out rfl rfl (by (repeat (first | exact List.Mem.head _ | apply List.Mem.tail)); done) (by first | exact ints_get _ (by decide) | exact stC_sl _ (by decide) | exact stC_pl _ (by decide) (by decide) | exact stC_gm _ (by decide) (by decide) | assumption | rfl) Try.underlying3 rfl) ?_) | (refine M_of _ rfl (R_at (HM.out.rdi (by (repeat (first | exact RdIn.rd _ | exact RdIn.ow _ | apply RdIn.tail)); done)) rfl rfl (by first | assumption | rfl) Try.underlying3 rfl) ?_) | (refine M_buildSlice (n := 1) HM.out rfl [_] rfl Try.underlying22 tinfo_25 rfl rfl (by decide) (by decide) (by intro u hu; simp at hu; (try (rcases hu with rfl)); all_goals (first | rfl | (subst hu; rfl) | simp [Value.cells, ints_size])) ?_; clear HM; intro b34 w34 HM; replace HM := Lib.hid HM; try simp only [Act.eval, Array.getD_eq_getD_getElem?, List.getElem?_toArray, List.getElem?_cons_succ, List.getElem?_cons_zero, Option.getD_some, List.flatMap_cons, List.flatMap_nil, Value.cells, List.append_nil, List.cons_append, List.nil_append] at HM)))
      go_ret
      rw [HE.out]
      exact ⟨_, _, rfl, Ow.nil _ _ _, HM.out.below⟩)
end Go.Proofs.Ytlgfnimahmmgeaa
