/-
  Package variables as they are laid: their rows.
-/
import Derived.Test.YtonjilfbcofoaaaDoorSymO
import Derived.Deep.DeepHandedRow
import Derived.Lib.LaidTab
namespace Go.Proofs.YtonjilfbcofoaaaDoor
open Go.ChangeShapes Go.WideShapes Go.ChangeAt Go.RowKit
set_option linter.unusedVariables false

section
variable {H : Type}
/-- the cells of a datum without pointers -/
def flatD : Nat → DataW H → List Value
  | _, .lit (.int k n) => [.int k n]
  | _, .lit (.bool b) => [.bool b]
  | d + 1, .agg l => l.flatMap (flatD d)
  | _, _ => []
def stepO (P : Program) (acc : Option Nat) (f : Field) : Option Nat := if acc == some f.offset then some (f.offset + P.cellsOf f.type) else none
/-- types without slices and strings -/
def plainT (P : Program) : Nat → TypeId → Bool
  | 0, _ => false
  | d + 1, t => match P.underlying t with
    | some (.int _) => true
    | some .bool => true
    | some (.array m e) => P.cellsOf t == m * P.cellsOf e && plainT P d e
    | some (.struct fs) => fs.toList.all (fun f => plainT P d f.type) && (fs.toList.foldl (stepO P) (some 0)) == some (P.cellsOf t)
    | _ => false
theorem flat_chunks {c d : Nat} : ∀ (m : Nat) (cs : List Value) (xs : List (DataW H)), cs.length = m * c → xs.length = m → (∀ (i : Nat) x, xs[i]? = some x → (cs.drop (i * c)).take c = flatD d x) → cs = xs.flatMap (flatD d)
  | 0, cs, xs, hl, hx, _ => by
    have h1 : cs = [] := List.length_eq_zero_iff.1 (by omega)
    have h2 : xs = [] := List.length_eq_zero_iff.1 hx
    subst h1 h2; rfl
  | m + 1, cs, xs, hl, hx, h => by
    cases xs with
    | nil => cases hx
    | cons x xs =>
      have h0 := h 0 x rfl
      have ih := flat_chunks (c := c) (d := d) m (cs.drop c) xs (by rw [List.length_drop, hl, Nat.succ_mul]; omega) (by simpa using hx) fun i y hy => by
        have := h (i + 1) y (by simpa using hy)
        rw [Nat.succ_mul, Nat.add_comm] at this
        rw [List.drop_drop]; exact this
      simp only [Nat.zero_mul, List.drop_zero] at h0
      rw [List.flatMap_cons, ← h0, ← ih, List.take_append_drop]
theorem fold_none {P : Program} : ∀ (fs : List Field), fs.foldl (stepO P) none = none
  | [] => rfl
  | f :: fs => by rw [List.foldl_cons]; exact fold_none fs
theorem flat_fields {P : Program} {cs : List Value} {d : Nat} : ∀ (fs : List Field) (off : Nat) (xs : List (DataW H)), (fs.foldl (stepO P) (some off)) = some cs.length → xs.length = fs.length →
    (∀ (i : Nat) f x, fs[i]? = some f → xs[i]? = some x → (cs.drop f.offset).take (P.cellsOf f.type) = flatD d x) → cs.drop off = xs.flatMap (flatD d)
  | [], off, xs, h, hx, _ => by
    have h2 : xs = [] := List.length_eq_zero_iff.1 hx
    simp only [List.foldl_nil, Option.some.injEq] at h
    subst h h2
    rw [List.drop_length]; rfl
  | f :: fs, off, xs, h, hx, hf => by
    cases xs with
    | nil => cases hx
    | cons x xs =>
      rw [List.foldl_cons, stepO] at h
      by_cases ho : off = f.offset
      · subst ho
        simp only [BEq.rfl, if_true] at h
        have h0 := hf 0 f x rfl rfl
        have ih := flat_fields fs _ xs h (by simpa using hx) fun i g y hg hy => hf (i + 1) g y (by simpa using hg) (by simpa using hy)
        rw [List.flatMap_cons, ← h0, ← ih, ← List.drop_drop, List.take_append_drop]
      · have : (some off == some f.offset) = false := by simpa using ho
        rw [this] at h
        simp only [Bool.false_eq_true, if_false] at h
        rw [fold_none] at h; cases h
theorem flat_trod {enc : TypeId × Value → H} {P : Program} {W : World} {base : Nat} {sp : Nat → Bool} {held : Bool} : ∀ (fuel d : Nat) (t : TypeId) (cs : List Value) (x : DataW H × List MemPlace), plainT P d t = true → DataW.trod enc P W base sp held fuel t cs = some x → cs = flatD d x.1
  | 0, _, _, _, _, _, hx => by simp [DataW.trod] at hx
  | fuel + 1, 0, _, _, _, h, _ => by simp [plainT] at h
  | fuel + 1, d + 1, t, cs, x, h, hx => by
    unfold plainT at h
    cases hu : P.underlying t with
    | none => simp [hu] at h
    | some kd =>
      cases kd with
      | int q =>
        obtain ⟨a, rfl, rfl, hw⟩ := DataW.trod_int hu hx
        rfl
      | bool =>
        obtain ⟨a, rfl, rfl⟩ := DataW.trod_bool hu hx
        rfl
      | array m e =>
        simp only [hu, Bool.and_eq_true, beq_iff_eq] at h
        obtain ⟨xs, m', e', rfl, hcl, hxl, hel⟩ := DataW.trod_array hu hx
        obtain rfl : fuel = m' := by omega
        refine flat_chunks (c := P.cellsOf e) (d := d) m cs _ (by rw [hcl, h.1]) (by simpa using hxl) fun i y hy => ?_
        rw [List.getElem?_map, Option.map_eq_some_iff] at hy
        obtain ⟨z, hz, rfl⟩ := hy
        have hi : i < m := by rw [← hxl]; exact (List.getElem?_eq_some_iff.1 hz).1
        have h4 := hel i hi
        rw [hz] at h4
        exact flat_trod fuel d e _ _ h.2 h4
      | struct fs =>
        simp only [hu, Bool.and_eq_true, beq_iff_eq] at h
        obtain ⟨h1, h2⟩ := h
        obtain ⟨xs, m', e', rfl, hcl, hxl, hel⟩ := DataW.trod_struct hu hx
        obtain rfl : fuel = m' := by omega
        have := flat_fields (P := P) (cs := cs) (d := d) fs.toList 0 (xs.map (·.1)) (by rw [hcl]; exact h2) (by simpa using hxl) fun i f y hf hy => by
          rw [List.getElem?_map, Option.map_eq_some_iff] at hy
          obtain ⟨z, hz, rfl⟩ := hy
          have h5 := hel i f (by rw [← Array.getElem?_toList]; exact hf)
          rw [hz] at h5
          exact flat_trod fuel d f.type _ _ (List.all_eq_true.1 h1 f (List.mem_of_getElem? hf)) h5
        rw [List.drop_zero] at this
        exact this
      | _ => simp [hu] at h
end
section
variable {P : Program} {W : World}
theorem laid_var : ∀ {laid : List (String × DataW Unit)} {ps : List MemPlace}, DataW.LaidVars P W laid ps → ∀ {n : String} {x : DataW Unit}, (n, x) ∈ laid →
    ∃ g t cs fuel p, P.globalNamed n = some g ∧ (P.globals[g]?).map (·.type) = some t ∧ W.var? P n = some cs ∧ DataW.trod (fun _ => ()) P W 0 (fun _ => true) false fuel t cs.toList = some (x, p) ∧ ∀ y ∈ MemPlace.row ⟨g, 0, none⟩ cs.size, y ∈ ps
  | [], _, _, _, _, hm => by cases hm
  | (n', x') :: r, ps, h, n, x, hm => by
    obtain ⟨g, t, cs, fuel, p, q, h1, h2, h3, h4, h5, rfl⟩ := h
    rcases List.mem_cons.1 hm with e | hm
    · cases e
      exact ⟨g, t, cs, fuel, p, h1, h2, h3, h4, fun y hy => by simp [hy]⟩
    · obtain ⟨g, t, cs, fuel, p, i1, i2, i3, i4, i5⟩ := laid_var h5 hm
      exact ⟨g, t, cs, fuel, p, i1, i2, i3, i4, fun y hy => by simp [i5 y hy]⟩
theorem glob_row {laid : List (String × DataW Unit)} (h : laidMet P laid W) {n : String} {x : DataW Unit} (hm : (n, x) ∈ laid) {g d : Nat} {t : TypeId} (hg : P.globalNamed n = some g) (ht : (P.globals[g]?).map (·.type) = some t) (hp : plainT P d t = true) (hne : flatD d x ≠ []) :
    ∃ T, Row W g (flatD d x).toArray T := by
  obtain ⟨ps, h1, _, h2⟩ := h
  obtain ⟨g', t', cs, fuel, p, i1, i2, i3, i4, i5⟩ := laid_var h1 hm
  obtain rfl := Option.some.inj (hg.symm.trans i1)
  obtain rfl := Option.some.inj (ht.symm.trans i2)
  have e := flat_trod fuel d t _ _ hp i4
  simp only at e
  have hs : 0 < cs.size := by
    rcases Nat.eq_zero_or_pos cs.size with h0 | h0
    · exact absurd (by rw [← e]; exact List.length_eq_zero_iff.1 (by simpa using h0)) hne
    · exact h0
  obtain ⟨⟨c, T, hc⟩, _⟩ := h2 g 0 (i5 _ (MemPlace.mem_row.2 ⟨0, hs, rfl⟩))
  simp only [World.var?, hg, Option.bind_some, hc, Option.some.injEq] at i3
  subst i3
  refine ⟨T, ?_⟩
  rw [Row, hc, ← e]
end
end Go.Proofs.YtonjilfbcofoaaaDoor
