/-
  Arguments that are structs of numbers, or slices of such structs, opened as rows.
-/
import Derived.Test.YtlgfnimahmmgeaaKitR
import Derived.Test.YtlgfnimahmmgeaaKitS
import Derived.Test.YtlgfnimahmmgeaaKitP
import Derived.Test.YtlgfnimahmmgeaaKitI
import Derived.Test.YtlgfnimahmmgeaaKnowC
import Derived.ChangeSlices
namespace Go.Proofs.Ytlgfnimahmmgeaa
open Go.ChangeShapes Go.WideShapes Go.ChangeAt Go.RowKit

section
variable {H : Type} {enc : TypeId × Value → H} {P : Program} {W : World}

/-- all fields are numbers, one behind the other -/
def AllInts (P : Program) (fs : Array Field) : Prop := ∀ (i : Nat) (f : Field), fs[i]? = some f → f.offset = i ∧ P.underlying f.type = some (.int .i64) ∧ P.cellsOf f.type = 1

def allIntsB (P : Program) (fs : Array Field) : Bool := (List.range fs.size).all fun i => match fs[i]? with
  | some f => f.offset == i && (match P.underlying f.type with | some (.int .i64) => true | _ => false) && P.cellsOf f.type == 1
  | none => false
theorem allInts_of {fs : Array Field} (h : allIntsB P fs = true) : AllInts P fs := fun i f hf => by
  have hi : i < fs.size := (Array.getElem?_eq_some_iff.1 hf).1
  have := List.all_eq_true.1 h i (by simpa using hi)
  rw [hf] at this
  simp only [Bool.and_eq_true, beq_iff_eq] at this
  obtain ⟨⟨h1, h2⟩, h3⟩ := this
  refine ⟨h1, ?_, h3⟩
  split at h2 <;> simp_all

theorem trod_struct_ints {fs : Array Field} {sz : Nat} {e : TypeId} {fuel : Nat} {cs : List Value} {x : DataW H × List MemPlace} (he : P.underlying e = some (.struct fs)) (hc : P.cellsOf e = sz) (hfs : fs.size = sz) (hf : AllInts P fs)
    (h : DataW.trod enc P W 0 (fun _ => true) true fuel e cs = some x) : ∃ f : Nat → Int, cs = (ints sz f).toList ∧ Ok18 f sz := by
  obtain ⟨xs, n, _, _, hl, hxl, hel⟩ := DataW.trod_struct he h
  obtain ⟨f, hcs, hwf⟩ := list_of_nth (n := sz) (cs := cs) (k := .i64) (by rw [hl, hc]) (fun i hi => by
    have hfi : fs[i]? = some (fs[i]'(by omega)) := Array.getElem?_eq_getElem (by omega)
    obtain ⟨h1, h2, h3⟩ := hf i _ hfi
    have h4 := hel i _ hfi
    rw [h1, h3, List.getElem?_eq_getElem (by omega)] at h4
    have hone : ((cs.drop i).take 1).length = 1 := by simp; omega
    obtain ⟨c, hcc⟩ : ∃ c, (cs.drop i).take 1 = [c] := by
      match hh : (cs.drop i).take 1, hone with
      | [c], _ => exact ⟨c, rfl⟩
    rw [hcc] at h4 ⊢
    obtain ⟨a, ea, _, wa⟩ := DataW.trod_int h2 h4
    exact ⟨a, ea, wa⟩)
  exact ⟨f, hcs, fun i hi => bd_i64 (hwf i hi)⟩

theorem open_rows {fs : Array Field} {sz : Nat} {r : Reach} {b0 : Nat} {t e : TypeId} {v : Value} {d : DataW H} {ps : List MemPlace} (ht : P.underlying t = some (.slice e)) (he : P.underlying e = some (.struct fs)) (hc : P.cellsOf e = sz) (hfs : fs.size = sz) (hz : 0 < sz) (hf : AllInts P fs)
    (hval : Value.okWide P W r b0 t v) (hd : DataW.Trod enc P W 0 (fun _ => true) true t v d ps) :
    ∃ A n c, ∃ l : List (Nat → Int), v = .slice A n c ∧ n ≤ c ∧ l.length = n ∧ (∀ f ∈ l, Ok18 f sz) ∧ At W A n (rowsC sz l) ∧ (n : Int) ≤ 9223372036854775807 := by
  obtain ⟨a0, len, cap, rfl⟩ := okWide_slice ht hval
  obtain ⟨fuel, hfu⟩ := hd
  rcases DataW.trod_slice ht hfu with ⟨hcs, hx⟩ | ⟨a, len', cap', elems, rest, n, _, hcs, _, _, hl, hm, hlen, hel, _, _⟩
  · simp [Value.cells] at hcs
    obtain ⟨rfl, rfl, rfl⟩ := hcs
    exact ⟨none, 0, 0, [], rfl, Nat.le_refl _, rfl, by simp, fun h => absurd h (by omega), by omega⟩
  · simp [Value.cells] at hcs
    obtain ⟨rfl, rfl, rfl⟩ := hcs
    have each : ∀ i, i < len → ∃ f : Nat → Int, W.cells? 0 (a.add (i * sz)) sz = some (ints sz f).toList ∧ Ok18 f sz := fun i hi => by
      have h1 := hel i hi
      rw [hc, List.getElem?_eq_getElem (by omega), Option.bind_eq_some_iff] at h1
      obtain ⟨cs, h2, h3⟩ := h1
      obtain ⟨f, rfl, hok⟩ := trod_struct_ints he hc hfs hf h3
      exact ⟨f, h2, hok⟩
    have g : ∀ i, ∃ f : Nat → Int, i < len → W.cells? 0 (a.add (i * sz)) sz = some (ints sz f).toList ∧ Ok18 f sz := fun i => by
      by_cases hi : i < len
      · obtain ⟨f, h⟩ := each i hi
        exact ⟨f, fun _ => h⟩
      · exact ⟨fun _ => 0, fun h => absurd h hi⟩
    obtain ⟨F, hF⟩ := Classical.axiomOfChoice g
    have cellAt : ∀ i j, i < len → j < sz → W.cell? (a.add (i * sz + j)) = some (.int .i64 (F i j)) := fun i j hi hj => by
      have h := (World.cells?_some (hF i hi).1).2.2 j hj
      rw [Array.getElem?_toList, ints_get _ hj] at h
      rw [← add_add']
      first | exact h | exact h.symm | simpa using h
    refine ⟨some a, len, cap, (List.range len).map F, rfl, hl, by simp, ?_, fun hn => ⟨a, rfl, ?_, ?_⟩, by simp only [maxLen] at hm; omega⟩
    · intro f hm'
      obtain ⟨i, hi, rfl⟩ := List.mem_map.1 hm'
      exact (hF i (by simpa using hi)).2
    · have := block_lt_of_cell (cellAt 0 0 hn hz)
      simpa [block_add] using this
    · intro j u hu
      have hj : j < len * sz := by
        have := (List.getElem?_eq_some_iff.1 hu).1
        rw [rowsC_len] at this
        simpa using this
      have hi : j / sz < len := Nat.div_lt_of_lt_mul (by rwa [Nat.mul_comm])
      have hr : j % sz < sz := Nat.mod_lt _ hz
      have e : j / sz * sz + j % sz = j := by rw [Nat.mul_comm]; exact Nat.div_add_mod j sz
      have h1 := rowsC_get sz ((List.range len).map F) (j / sz) (j % sz) (by simpa using hi) hr
      rw [e, hu] at h1
      have h2 := cellAt _ _ hi hr
      rw [e] at h2
      rw [h2, h1]
      simp
end
end Go.Proofs.Ytlgfnimahmmgeaa
