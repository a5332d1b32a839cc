/-
  Arguments that are slices of numbers, opened as one list.
-/
import Derived.Test.YtipmddjoajojiaaKitR
import Derived.Test.YtipmddjoajojiaaKitS
import Derived.ChangeSlices
namespace Go.Proofs.Ytipmddjoajojiaa
open Go.ChangeShapes Go.WideShapes Go.ChangeAt Go.RowKit

section
variable {H : Type} {enc : TypeId × Value → H} {P : Program} {W : World}

theorem open_slice_k {k : IntKind} {r : Reach} {b0 : Nat} {t e : TypeId} {v : Value} {d : DataW H} {ps : List MemPlace} (ht : P.underlying t = some (.slice e)) (he : P.underlying e = some (.int k)) (hc : P.cellsOf e = 1)
    (hval : Value.okWide P W r b0 t v) (hd : DataW.Trod enc P W 0 (fun _ => true) true t v d ps) :
    ∃ A n c, ∃ zs : List Int, v = .slice A n c ∧ n ≤ c ∧ zs.length = n ∧ (∀ x ∈ zs, (Lit.int k x).wf = true) ∧ At W A n (zs.map fun x => Value.int k x) ∧ (n : Int) ≤ 9223372036854775807 := by
  obtain ⟨a0, len, cap, rfl⟩ := okWide_slice ht hval
  obtain ⟨fuel, hf⟩ := hd
  rcases open_ints ht he hc hf with ⟨hcs, hx⟩ | ⟨a, len', cap', zs, hcs, _, hl, hm, hz, hx, hcell, hwz⟩
  · simp [Value.cells] at hcs
    obtain ⟨rfl, rfl, rfl⟩ := hcs
    exact ⟨none, 0, 0, [], rfl, Nat.le_refl _, rfl, by simp, fun h => absurd h (by omega), by omega⟩
  · simp [Value.cells] at hcs
    obtain ⟨rfl, rfl, rfl⟩ := hcs
    simp only [if_true] at hz
    refine ⟨some a, len, cap, zs.take len, rfl, hl, by simp; omega, fun x hx => hwz x (List.mem_of_mem_take hx), fun hn => ⟨a, rfl, ?_, ?_⟩, by simp only [maxLen] at hm; omega⟩
    · have := hcell 0 (by omega)
      have := block_lt_of_cell this
      simpa [block_add] using this
    · intro j u hu
      have hj : j < len := by
        have := (List.getElem?_eq_some_iff.1 hu).1
        simp at this
        omega
      rw [hcell j (by omega)]
      have hj2 : j < zs.length := by omega
      simp [List.getElem?_take, hj, List.getElem?_eq_getElem hj2] at hu
      rw [← hu]
      simp [List.getD_eq_getElem?_getD, List.getElem?_eq_getElem hj2]

theorem open_i64s {r : Reach} {b0 : Nat} {t e : TypeId} {v : Value} {d : DataW H} {ps : List MemPlace} (ht : P.underlying t = some (.slice e)) (he : P.underlying e = some (.int .i64)) (hc : P.cellsOf e = 1)
    (hval : Value.okWide P W r b0 t v) (hd : DataW.Trod enc P W 0 (fun _ => true) true t v d ps) :
    ∃ A n c, ∃ l : List Int, v = .slice A n c ∧ n ≤ c ∧ l.length = n ∧ Ok64 l ∧ At W A n (i64s l) ∧ (n : Int) ≤ 9223372036854775807 := by
  obtain ⟨A, n, c, zs, h1, h2, h3, h4, h5, h6⟩ := open_slice_k ht he hc hval hd
  exact ⟨A, n, c, zs, h1, h2, h3, fun x hx => bd_i64 (h4 x hx), h5, h6⟩

theorem open_u8s {r : Reach} {b0 : Nat} {t e : TypeId} {v : Value} {d : DataW H} {ps : List MemPlace} (ht : P.underlying t = some (.slice e)) (he : P.underlying e = some (.int .u8)) (hc : P.cellsOf e = 1)
    (hval : Value.okWide P W r b0 t v) (hd : DataW.Trod enc P W 0 (fun _ => true) true t v d ps) :
    ∃ A n c, ∃ l : List Nat, v = .slice A n c ∧ n ≤ c ∧ l.length = n ∧ (∀ x ∈ l, x < 256) ∧ At W A n (u8s l) ∧ (n : Int) ≤ 9223372036854775807 := by
  obtain ⟨A, n, c, zs, h1, h2, h3, h4, h5, h6⟩ := open_slice_k ht he hc hval hd
  refine ⟨A, n, c, zs.map Int.toNat, h1, h2, by simpa using h3, ?_, ?_, h6⟩
  · intro x hx
    obtain ⟨y, hy, rfl⟩ := List.mem_map.1 hx
    have := bd_u8 (h4 y hy)
    omega
  · have : u8s (zs.map Int.toNat) = zs.map fun x => Value.int .u8 x := by
      simp only [u8s, List.map_map]
      refine List.map_congr_left fun y hy => ?_
      have := bd_u8 (h4 y hy)
      simp only [Function.comp, Value.int.injEq, true_and]
      omega
    rw [this]
    exact h5

theorem open_u64s {r : Reach} {b0 : Nat} {t e : TypeId} {v : Value} {d : DataW H} {ps : List MemPlace} (ht : P.underlying t = some (.slice e)) (he : P.underlying e = some (.int .u64)) (hc : P.cellsOf e = 1)
    (hval : Value.okWide P W r b0 t v) (hd : DataW.Trod enc P W 0 (fun _ => true) true t v d ps) :
    ∃ A n c, ∃ l : List Int, v = .slice A n c ∧ n ≤ c ∧ l.length = n ∧ (∀ x ∈ l, 0 ≤ x ∧ x ≤ 18446744073709551615) ∧ At W A n (l.map fun x => Value.int .u64 x) ∧ (n : Int) ≤ 9223372036854775807 := by
  obtain ⟨A, n, c, zs, h1, h2, h3, h4, h5, h6⟩ := open_slice_k ht he hc hval hd
  exact ⟨A, n, c, zs, h1, h2, h3, fun x hx => bd_u64 (h4 x hx), h5, h6⟩
end
end Go.Proofs.Ytipmddjoajojiaa
