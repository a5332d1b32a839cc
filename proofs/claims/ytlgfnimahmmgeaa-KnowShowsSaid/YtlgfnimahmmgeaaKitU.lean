/-
  Arguments opened: arrays and structs of numbers to whatever depth, slices of such, states.
-/
import Derived.Test.YtlgfnimahmmgeaaKitR
import Derived.Test.YtlgfnimahmmgeaaKitSt
import Derived.ChangeSlices
import Derived.Lib.SmallJoins
namespace Go.Proofs.Ytlgfnimahmmgeaa
open Go.ChangeShapes Go.WideShapes Go.ChangeAt Go.RowKit
set_option linter.unusedVariables false

section
variable {H : Type} {enc : TypeId × Value → H} {P : Program} {W : World}

/-- n cells, each a number -/
def CellsI (cs : List Value) (n : Nat) : Prop := cs.length = n ∧ ∀ k, k < n → ∃ a : Int, cs[k]? = some (.int .i64 a) ∧ -9223372036854775808 ≤ a ∧ a ≤ 9223372036854775807
theorem CellsI.fn {cs : List Value} {n : Nat} (h : CellsI cs n) : ∃ f : Nat → Int, cs = (ints n f).toList ∧ Ok18 f n := by
  have g : ∀ k, ∃ a : Int, k < n → cs[k]? = some (.int .i64 a) ∧ -9223372036854775808 ≤ a ∧ a ≤ 9223372036854775807 := fun k => by
    by_cases hk : k < n
    · obtain ⟨a, ha⟩ := h.2 k hk; exact ⟨a, fun _ => ha⟩
    · exact ⟨0, fun h => absurd h hk⟩
  obtain ⟨f, hf⟩ := Classical.axiomOfChoice g
  refine ⟨f, ?_, fun i hi => (hf i hi).2⟩
  apply List.ext_getElem?
  intro k
  have e : (ints n f).toList[k]? = (ints n f)[k]? := Array.getElem?_toList
  rw [e]
  by_cases hk : k < n
  · rw [ints_get _ hk, (hf k hk).1]
  · rw [List.getElem?_eq_none (by have := h.1; omega), Array.getElem?_eq_none (by rw [ints_size]; omega)]
theorem chunk_get {cs : List Value} {off c k : Nat} {v : Value} (h : ((cs.drop off).take c)[k]? = some v) : cs[off + k]? = some v := by
  rw [List.getElem?_take] at h
  split at h
  · rwa [List.getElem?_drop] at h
  · cases h
theorem fields_cover {P : Program} {d : Nat} {cs : List Value} : ∀ (fs : List Field) (off n : Nat),
    (fs.foldl (fun acc f => match acc with
        | some off => if f.offset == off && f.name != "_" && intsT P d f.type (P.cellsOf f.type) then some (off + P.cellsOf f.type) else none
        | none => none) (some off)) = some n → (∀ f ∈ fs, intsT P d f.type (P.cellsOf f.type) = true → CellsI ((cs.drop f.offset).take (P.cellsOf f.type)) (P.cellsOf f.type)) →
    ∀ k, off ≤ k → k < n → ∃ a : Int, cs[k]? = some (.int .i64 a) ∧ -9223372036854775808 ≤ a ∧ a ≤ 9223372036854775807
  | [], off, n, h, _, k, h1, h2 => by simp at h; omega
  | f :: fs, off, n, h, hc, k, h1, h2 => by
    simp only [List.foldl_cons] at h
    by_cases hh : (f.offset == off && f.name != "_" && intsT P d f.type (P.cellsOf f.type)) = true
    · rw [if_pos hh] at h
      simp only [Bool.and_eq_true, beq_iff_eq, bne_iff_ne] at hh
      obtain ⟨⟨h3, _⟩, h4⟩ := hh
      by_cases hk : k < off + P.cellsOf f.type
      · obtain ⟨a, ha, hb⟩ := (hc f (by simp) h4).2 (k - off) (by omega)
        have := chunk_get ha
        rw [h3, show off + (k - off) = k by omega] at this
        exact ⟨a, this, hb⟩
      · exact fields_cover fs _ n h (fun g hg => hc g (by simp [hg])) k (by omega) h2
    · rw [if_neg hh] at h
      have : ∀ (l : List Field), (l.foldl (fun acc f => match acc with
        | some off => if f.offset == off && f.name != "_" && intsT P d f.type (P.cellsOf f.type) then some (off + P.cellsOf f.type) else none
        | none => none) (none : Option Nat)) = none := by
        intro l; induction l with
        | nil => rfl
        | cons f l ih => simp only [List.foldl_cons]; exact ih
      rw [this] at h; cases h
theorem trod_cells : ∀ (d : Nat) (t : TypeId) (n fuel : Nat) (cs : List Value) (x : DataW H × List MemPlace), intsT P d t n = true → DataW.trod enc P W 0 (fun _ => true) true fuel t cs = some x → CellsI cs n
  | 0, _, _, _, _, _, h, _ => by simp [intsT] at h
  | d + 1, t, n, fuel, cs, x, h, hx => by
    unfold intsT at h
    cases hu : P.underlying t with
    | none => simp [hu] at h
    | some kd =>
      cases kd with
      | int q =>
        cases q <;> simp [hu] at h
        obtain ⟨a, rfl, _, hw⟩ := DataW.trod_int hu hx
        obtain ⟨b1, b2⟩ := bd_i64 hw
        refine ⟨by simp [h.1], fun k hk => ⟨a, ?_, b1, b2⟩⟩
        have : k = 0 := by omega
        subst this; rfl
      | array m e =>
        simp only [hu, Bool.and_eq_true, beq_iff_eq] at h
        obtain ⟨⟨h1, h2⟩, h3⟩ := h
        obtain ⟨xs, m', _, _, hl, hxl, hel⟩ := DataW.trod_array hu hx
        refine ⟨by rw [hl, h2], fun k hk => ?_⟩
        have hc : 0 < P.cellsOf e := by
          rcases Nat.eq_zero_or_pos (P.cellsOf e) with h0 | h0
          · rw [h0, Nat.zero_mul] at h1; omega
          · exact h0
        have hi : k / P.cellsOf e < m := Nat.div_lt_of_lt_mul (by rw [h1]; exact hk)
        have h4 := hel _ hi
        rw [List.getElem?_eq_getElem (by omega)] at h4
        obtain ⟨a, ha, hb⟩ := (trod_cells d e _ _ _ _ h3 h4).2 (k % P.cellsOf e) (Nat.mod_lt _ hc)
        have := chunk_get ha
        rw [Nat.mul_comm, Nat.div_add_mod] at this
        exact ⟨a, this, hb⟩
      | struct fs =>
        rw [hu] at h
        obtain ⟨h12, h3⟩ := Bool.and_eq_true_iff.1 h
        obtain ⟨h1, h2⟩ := Bool.and_eq_true_iff.1 h12
        rw [beq_iff_eq] at h2 h3
        obtain ⟨xs, m', _, _, hl, hxl, hel⟩ := DataW.trod_struct hu hx
        refine ⟨by rw [hl, h2], fun k hk => fields_cover fs.toList 0 n h3 (fun f hf h4 => ?_) k (by omega) hk⟩
        obtain ⟨i, hi, rfl⟩ := List.getElem_of_mem hf
        have h5 := hel i fs.toList[i] (by rw [← Array.getElem?_toList]; exact List.getElem?_eq_getElem hi)
        rw [List.getElem?_eq_getElem (by simp at hi; omega)] at h5
        exact trod_cells d _ _ _ _ _ h4 h5
      | _ => simp [hu] at h
/-- a slice of such -/
theorem trod_rows {d sz : Nat} {t e : TypeId} {fuel : Nat} {cs : List Value} {x : DataW H × List MemPlace} (ht : P.underlying t = some (.slice e)) (hc : P.cellsOf e = sz) (hz : 0 < sz) (he : intsT P d e sz = true)
    (hx : DataW.trod enc P W 0 (fun _ => true) true fuel t cs = some x) :
    ∃ A n c, ∃ l : List (Nat → Int), cs = [.slice A n c] ∧ l.length = n ∧ (∀ f ∈ l, Ok18 f sz) ∧ Rd W sz (.slice A n c) n (rowsC sz l) ∧ (n : Int) ≤ 9223372036854775807 := by
  rcases DataW.trod_slice ht hx with ⟨hcs, hx⟩ | ⟨a, len, cap, elems, rest, n, _, hcs, _, _, hl, hm, hlen, hel, _, _⟩
  · exact ⟨none, 0, 0, [], hcs, rfl, by simp, ⟨none, 0, rfl, Nat.le_refl _, by simp [rowsC], fun h => absurd h (by omega)⟩, by omega⟩
  · have each : ∀ i, i < len → ∃ f : Nat → Int, W.cells? 0 (a.add (i * sz)) sz = some (ints sz f).toList ∧ Ok18 f sz := fun i hi => by
      have h1 := hel i hi
      rw [hc, List.getElem?_eq_getElem (by omega), Option.bind_eq_some_iff] at h1
      obtain ⟨cs, h2, h3⟩ := h1
      obtain ⟨f, rfl, hok⟩ := (trod_cells d e sz _ _ _ he h3).fn
      exact ⟨f, h2, hok⟩
    have g : ∀ i, ∃ f : Nat → Int, i < len → W.cells? 0 (a.add (i * sz)) sz = some (ints sz f).toList ∧ Ok18 f sz := fun i => by
      by_cases hi : i < len
      · obtain ⟨f, h⟩ := each i hi
        exact ⟨f, fun _ => h⟩
      · exact ⟨fun _ => 0, fun h => absurd h hi⟩
    obtain ⟨F, hF⟩ := Classical.axiomOfChoice g
    have cellAt : ∀ i j, i < len → j < sz → W.cell? (a.add (i * sz + j)) = some (.int .i64 (F i j)) := fun i j hi hj => by
      have h := (World.cells?_some (hF i hi).1).2.2 j hj
      rw [Array.getElem?_toList, ints_get _ hj] at h
      rw [← add_add']
      first | exact h | exact h.symm | simpa using h
    refine ⟨some a, len, cap, (List.range len).map F, hcs, by simp, ?_, ⟨some a, cap, rfl, hl, by simp [rowsC_len], fun hn => ⟨a, rfl, ?_, ?_⟩⟩, by simp only [maxLen] at hm; omega⟩
    · intro f hm'
      obtain ⟨i, hi, rfl⟩ := List.mem_map.1 hm'
      exact (hF i (by simpa using hi)).2
    · have := block_lt_of_cell (cellAt 0 0 hn hz)
      simpa [block_add] using this
    · intro j u hu
      have hj : j < len * sz := by
        have := (List.getElem?_eq_some_iff.1 hu).1
        rw [rowsC_len] at this
        simpa using this
      have hi : j / sz < len := Nat.div_lt_of_lt_mul (by rwa [Nat.mul_comm])
      have hr : j % sz < sz := Nat.mod_lt _ hz
      have e : j / sz * sz + j % sz = j := by rw [Nat.mul_comm]; exact Nat.div_add_mod j sz
      have h1 := rowsC_get sz ((List.range len).map F) (j / sz) (j % sz) (by simpa using hi) hr
      rw [e, hu] at h1
      have h2 := cellAt _ _ hi hr
      rw [e] at h2
      rw [h2, h1]
      simp
theorem rowsC_i64s : ∀ l : List (Nat → Int), rowsC 1 l = i64s (l.map fun f => f 0)
  | [] => rfl
  | f :: l => by
    have := rowsC_i64s l
    unfold rowsC i64s at *
    rw [List.flatMap_cons, this]; rfl
theorem okWide_struct {r : Reach} {b0 : Nat} {t : TypeId} {fs : Array Field} {v : Value} (ht : P.underlying t = some (.struct fs)) (h : Value.okWide P W r b0 t v) : ∃ cs : Array Value, v = .agg cs ∧ cs.size = P.cellsOf t := by
  simp only [Value.okWide, ht] at h
  obtain ⟨cs, h1, h2, _⟩ := h
  exact ⟨cs, h1, h2⟩
end

section
variable {H : Type} {enc : TypeId × Value → H} {W : World}
theorem st_fields : ∃ fs : Array Field, Try.prog.underlying 36 = some (.struct fs) ∧ fs.size = 4 ∧ (fs.toList.map fun f : Field => (f.offset, f.type)) = [(0, 29), (1, 31), (12, 33), (30, 34)] := ⟨_, Try.underlying36, rfl, rfl⟩
/-- a state that came in -/
theorem open_state {r : Reach} {b0 : Nat} {v : Value} {d : DataW H} {ps : List MemPlace} (hval : Value.okWide Try.prog W r b0 36 v) (hd : DataW.Trod enc Try.prog W 0 (fun _ => true) true 36 v d ps) :
    ∃ sv s, v = .agg (stC sv) ∧ StIn W sv s ∧ (∀ f ∈ s.objs, Ok18 f 18) ∧ (∀ z, z < 11 → Ok64 (s.ls z)) ∧ Ok18 s.pl 18 ∧ Ok18 s.gm 7 := by
  obtain ⟨fs, hfs, h4, hf4⟩ := st_fields
  obtain ⟨cs, rfl, hsz⟩ := okWide_struct hfs hval
  obtain ⟨fuel, hf⟩ := hd
  obtain ⟨xs, m, _, _, hl, hxl, hel⟩ := DataW.trod_struct hfs hf
  have hfld : ∀ (i : Nat) (f : Field), fs[i]? = some f → ∀ o t, (fs.toList.map fun f : Field => (f.offset, f.type))[i]? = some (o, t) → f.offset = o ∧ f.type = t := fun i f hif o t h => by
    rw [List.getElem?_map] at h
    have : fs.toList[i]? = some f := by simpa using hif
    rw [this] at h
    simp at h; exact h
  have get : ∀ (i : Nat) (o t c : Nat), i < 4 → (fs.toList.map fun f : Field => (f.offset, f.type))[i]? = some (o, t) → Try.prog.cellsOf t = c → ∃ x, DataW.trod enc Try.prog W 0 (fun _ => true) true m t ((cs.toList.drop o).take c) = some x := fun i o t c hi ho hc => by
    have hif : fs[i]? = some (fs[i]'(by omega)) := Array.getElem?_eq_getElem (by omega)
    obtain ⟨e1, e2⟩ := hfld i _ hif o t ho
    have h := hel i _ hif
    rw [e1, e2, hc, List.getElem?_eq_getElem (by omega)] at h
    exact ⟨_, h⟩
  obtain ⟨x0, t0⟩ := get 0 0 29 1 (by omega) (by rw [hf4]; rfl) (by kernel_rfl)
  obtain ⟨x1, t1⟩ := get 1 1 31 11 (by omega) (by rw [hf4]; rfl) (by kernel_rfl)
  obtain ⟨x2, t2⟩ := get 2 12 33 18 (by omega) (by rw [hf4]; rfl) (by kernel_rfl)
  obtain ⟨x3, t3⟩ := get 3 30 34 7 (by omega) (by rw [hf4]; rfl) (by kernel_rfl)
  obtain ⟨A0, n0, c0, objs, e0, hl0, ok0, rd0, b0'⟩ := trod_rows (d := 5) (sz := 18) Try.underlying29 (by kernel_rfl) (by omega) (by kernel_rfl) t0
  obtain ⟨pl, e2, ok2⟩ := (trod_cells 5 33 18 _ _ _ (by kernel_rfl) t2).fn
  obtain ⟨gm, e3, ok3⟩ := (trod_cells 5 34 7 _ _ _ (by kernel_rfl) t3).fn
  obtain ⟨ys, m', _, _, hyl0, hyl, hyel⟩ := DataW.trod_array Try.underlying31 t1
  have each : ∀ z, ∃ q : Option Addr × Nat × Nat × List Int, z < 11 → cs[1 + z]? = some (.slice q.1 q.2.1 q.2.2.1) ∧ Ok64 q.2.2.2 ∧ Rd W 1 (.slice q.1 q.2.1 q.2.2.1) q.2.1 (i64s q.2.2.2) ∧ (q.2.1 : Int) ≤ 9223372036854775807 := fun z => by
    by_cases hz : z < 11
    · have h := hyel z hz
      rw [show Try.prog.cellsOf 30 = 1 by kernel_rfl, List.getElem?_eq_getElem (by omega)] at h
      obtain ⟨A, n, c, l, e, hll, ok, rd, bd⟩ := trod_rows (d := 5) (sz := 1) Try.underlying30 (by kernel_rfl) (by omega) (by kernel_rfl) h
      refine ⟨(A, n, c, l.map fun f => f 0), fun _ => ⟨?_, ?_, ?_, bd⟩⟩
      · have h1 : ((List.take 11 (List.drop 1 cs.toList)).drop (z * 1)).take 1 = [.slice A n c] := e
        have h2 := congrArg (fun l => l[0]?) h1
        have h3 := chunk_get (off := z * 1) (c := 1) (k := 0) (v := .slice A n c) h2
        have h4 := chunk_get h3
        rw [← Array.getElem?_toList]
        rw [show 1 + (z * 1 + 0) = 1 + z by omega] at h4
        exact h4
      · intro a ha
        obtain ⟨f, hf, rfl⟩ := List.mem_map.1 ha
        exact ok f hf 0 (by omega)
      · rw [← rowsC_i64s]; exact rd
    · exact ⟨(none, 0, 0, []), fun h => absurd h hz⟩
  obtain ⟨q, hq⟩ := Classical.axiomOfChoice each
  let sv : StV := ⟨fun i => if i = 0 then A0 else (q (i - 1)).1, fun i => if i = 0 then n0 else (q (i - 1)).2.1, fun i => if i = 0 then c0 else (q (i - 1)).2.2.1, pl, gm⟩
  refine ⟨sv, ⟨objs, fun z => (q z).2.2.2, pl, gm⟩, ?_, ⟨rd0, fun z hz => ?_, rfl, rfl, fun z hz => ?_⟩, ok0, fun z hz => (hq z hz).2.1, ok2, ok3⟩
  · congr 1
    apply Array.ext_getElem?
    intro i
    have hc37 : cs.size = 37 := by rw [hsz]; kernel_rfl
    by_cases hi : i < 37
    · rw [stC, rowOf_get _ hi]
      unfold StV.g
      by_cases h12 : i < 12
      · rw [if_pos h12]
        by_cases h0 : i = 0
        · subst h0
          have h2 := congrArg (fun l => l[0]?) e0
          have h3 := chunk_get (off := 0) (c := 1) (k := 0) (v := .slice A0 n0 c0) h2
          rw [← Array.getElem?_toList]; exact h3
        · have := (hq (i - 1) (by omega)).1
          rw [show 1 + (i - 1) = i by omega] at this
          rw [this]; simp [sv, h0]
      · rw [if_neg h12]
        by_cases h30 : i < 30
        · rw [if_pos h30, ← Array.getElem?_toList]
          have h2 := congrArg (fun l => l[i - 12]?) e2
          simp only [Array.getElem?_toList] at h2
          rw [ints_get _ (by omega)] at h2
          have h3 := chunk_get (off := 12) (c := 18) h2
          rwa [show 12 + (i - 12) = i by omega] at h3
        · rw [if_neg h30, ← Array.getElem?_toList]
          have h2 := congrArg (fun l => l[i - 30]?) e3
          simp only [Array.getElem?_toList] at h2
          rw [ints_get _ (by omega)] at h2
          have h3 := chunk_get (off := 30) (c := 7) h2
          rwa [show 30 + (i - 30) = i by omega] at h3
    · rw [Array.getElem?_eq_none (by omega), Array.getElem?_eq_none (by rw [stC_size]; omega)]
  · exact (hq z hz).2.2.1
  · simp only [sv]
    split
    · exact b0'
    · exact (hq (z - 1) (by omega)).2.2.2
end
end Go.Proofs.Ytlgfnimahmmgeaa
