import Derived.Test.YtcigbgpdikadpaaDoorM15

set_option linter.unusedVariables false
set_option linter.unusedSimpArgs false

section
namespace Go.Proofs.YtcigbgpdikadpaaDoor
open Go.RowKit
set_option linter.unusedVariables false

/-- cells of a slice that may be written, in blocks from B up to E -/
def Wb (w : World) (B E sz : Nat) (v : Value) (n : Nat) (xs : List Value) : Prop :=
  ∃ A c, v = .slice A n c ∧ n ≤ c ∧ xs.length = n * sz ∧ (0 < n → ∃ g off, A = some ⟨g, off, none⟩ ∧ B ≤ g ∧ g < E ∧ g < w.heap.size ∧ ∀ (j : Nat) u, xs[j]? = some u → w.cell? ⟨g, off + j, none⟩ = some u ∧ w.frozen? ⟨g, off + j, none⟩ = false)
theorem Wb.of {w : World} {B sz : Nat} {v : Value} {xs : List (List Dat)} (hr : Rd w sz v xs.length (flatV xs)) (hz : Uf w sz v xs.length) (hB : ∀ k, rdAt v k → B ≤ k) : Wb w B w.heap.size sz v xs.length (flatV xs) := by
  obtain ⟨A, c, rfl, hc, hl, ha⟩ := hr
  refine ⟨A, c, rfl, hc, hl, fun hn => ?_⟩
  obtain ⟨ad, rfl, hb, hcell⟩ := ha hn
  obtain ⟨g, off, rfl, hj⟩ := hz ad c rfl hn
  refine ⟨g, off, rfl, hB g ⟨hn, rfl⟩, hb, hb, fun j u hu => ⟨?_, hj j ?_⟩⟩
  · have := hcell j u hu
    rwa [Addr.add_lit] at this
  · have := (List.getElem?_eq_some_iff.1 hu).1
    omega
theorem cell_ck {B0 : Nat} {w w' : World} (h : CK B0 w w') {p : Addr} {u : Value} (hc : w.cell? p = some u) : w'.cell? p = some u ∧ w'.frozen? p = w.frozen? p := by
  obtain ⟨o, ho, hk⟩ := cells_of_cell hc
  have := h.cells _ _ ho (.inl hk)
  refine ⟨?_, ?_⟩
  · rw [← hc]; unfold World.cell?; rw [this, ho]
  · unfold World.frozen?; rw [this, ho]
theorem Wb.ck {B0 : Nat} {w w' : World} {B E sz n : Nat} {v : Value} {xs : List Value} (h : Wb w B E sz v n xs) (hk : CK B0 w w') : Wb w' B E sz v n xs := by
  obtain ⟨A, c, rfl, hc, hl, ha⟩ := h
  refine ⟨A, c, rfl, hc, hl, fun hn => ?_⟩
  obtain ⟨g, off, rfl, h1, h2, h3, hj⟩ := ha hn
  refine ⟨g, off, rfl, h1, h2, Nat.lt_of_lt_of_le h3 hk.size, fun j u hu => ?_⟩
  obtain ⟨q1, q2⟩ := hj j u hu
  obtain ⟨r1, r2⟩ := cell_ck hk q1
  exact ⟨r1, r2.trans q2⟩
theorem Wb.poke {w : World} {B E sz n : Nat} {v : Value} {xs : List Value} (h : Wb w B E sz v n xs) {p : Addr} {u0 : Value} (hp : w.cell? p = some u0) (x : Value) :
    ∃ xs', Wb (w.setCell p x) B E sz v n xs' ∧ ∀ j : Nat, xs'[j]? = xs[j]? ∨ xs[j]? = some u0 ∧ xs'[j]? = some x := by
  obtain ⟨A, c, rfl, hc, hl, ha⟩ := h
  by_cases hn : 0 < n
  · obtain ⟨g, off, rfl, h1, h2, h3, hj⟩ := ha hn
    by_cases hq : ∃ q, q < xs.length ∧ p = ⟨g, off + q, none⟩
    · obtain ⟨q, hq, rfl⟩ := hq
      have hxq : xs[q]? = some xs[q] := List.getElem?_eq_getElem hq
      have hu0 : xs[q] = u0 := by
        have := (hj q _ hxq).1
        rw [hp] at this
        exact (Option.some.inj this).symm
      refine ⟨xs.set q x, ⟨_, c, rfl, hc, by rw [List.length_set]; exact hl, fun _ => ⟨g, off, rfl, h1, h2, by simpa using h3, fun j u hu => ?_⟩⟩, fun j => ?_⟩
      · rw [World.frozen?_setCell]
        rw [List.getElem?_set] at hu
        by_cases e : q = j
        · subst e
          rw [if_pos rfl, if_pos hq] at hu
          cases hu
          refine ⟨?_, (hj q _ hxq).2⟩
          rw [World.cell?_setCell_same (h := hp)]
        · rw [if_neg e] at hu
          refine ⟨?_, (hj j u hu).2⟩
          rw [World.cell?_setCell_other (h := by intro e2; injection e2 with _ e2 _; omega)]
          exact (hj j u hu).1
      · rw [List.getElem?_set]
        by_cases e : q = j
        · subst e
          rw [if_pos rfl, if_pos hq, hxq, hu0]
          exact .inr ⟨rfl, rfl⟩
        · rw [if_neg e]; exact .inl rfl
    · refine ⟨xs, ⟨_, c, rfl, hc, hl, fun _ => ⟨g, off, rfl, h1, h2, by simpa using h3, fun j u hu => ?_⟩⟩, fun _ => .inl rfl⟩
      rw [World.frozen?_setCell, World.cell?_setCell_other (h := by intro e2; exact hq ⟨j, (List.getElem?_eq_some_iff.1 hu).1, e2⟩)]
      exact hj j u hu
  · exact ⟨xs, ⟨A, c, rfl, hc, hl, fun h => absurd h hn⟩, fun _ => .inl rfl⟩
/-- a list of effects whose numbers may be written -/
def SubW (w : World) (B E : Nat) (v : Value) : Prop := ∃ n xs, Wb w B E 5 v n xs ∧ n ≤ 9 ∧ ∀ i, i < n → ∃ a : Int, xs[i * 5 + 1]? = some (.int .i64 a)
/-- a list of abilities whose numbers may be written -/
def AbW (w : World) (B E : Nat) (v : Value) (n : Nat) : Prop := ∃ xs, Wb w B E 14 v n xs ∧ n ≤ 9 ∧ ∀ i, i < n → (∃ a : Int, xs[i * 14]? = some (.int .i64 a)) ∧ ∃ u, xs[i * 14 + 13]? = some u ∧ SubW w B E u
section
variable {w w' : World} {B E : Nat} {v : Value}
theorem SubW.slice (h : SubW w B E v) : ∃ A n c, v = .slice A n c ∧ n ≤ 9 := by
  obtain ⟨n, xs, ⟨A, c, rfl, _⟩, hn, _⟩ := h
  exact ⟨A, n, c, rfl, hn⟩
theorem AbW.slice {n : Nat} (h : AbW w B E v n) : ∃ A c, v = .slice A n c ∧ n ≤ 9 := by
  obtain ⟨xs, ⟨A, c, rfl, _⟩, hn, _⟩ := h
  exact ⟨A, c, rfl, hn⟩
theorem SubW.ck {B0 : Nat} (h : SubW w B E v) (hk : CK B0 w w') : SubW w' B E v := by
  obtain ⟨n, xs, h1, h2, h3⟩ := h
  exact ⟨n, xs, h1.ck hk, h2, h3⟩
theorem AbW.ck {B0 : Nat} {n : Nat} (h : AbW w B E v n) (hk : CK B0 w w') : AbW w' B E v n := by
  obtain ⟨xs, h1, h2, h3⟩ := h
  exact ⟨xs, h1.ck hk, h2, fun i hi => ⟨(h3 i hi).1, by obtain ⟨u, e, hu⟩ := (h3 i hi).2; exact ⟨u, e, hu.ck hk⟩⟩⟩
theorem SubW.poke (h : SubW w B E v) {p : Addr} {y z : Int} (hp : w.cell? p = some (.int .i64 y)) : SubW (w.setCell p (.int .i64 z)) B E v := by
  obtain ⟨n, xs, h1, h2, h3⟩ := h
  obtain ⟨xs', g1, g2⟩ := h1.poke hp (.int .i64 z)
  refine ⟨n, xs', g1, h2, fun i hi => ?_⟩
  obtain ⟨a, ha⟩ := h3 i hi
  rcases g2 (i * 5 + 1) with e | ⟨_, e⟩
  · exact ⟨a, e.trans ha⟩
  · exact ⟨z, e⟩
theorem AbW.poke {n : Nat} (h : AbW w B E v n) {p : Addr} {y z : Int} (hp : w.cell? p = some (.int .i64 y)) : AbW (w.setCell p (.int .i64 z)) B E v n := by
  obtain ⟨xs, h1, h2, h3⟩ := h
  obtain ⟨xs', g1, g2⟩ := h1.poke hp (.int .i64 z)
  refine ⟨xs', g1, h2, fun i hi => ⟨?_, ?_⟩⟩
  · obtain ⟨a, ha⟩ := (h3 i hi).1
    rcases g2 (i * 14) with e | ⟨_, e⟩
    · exact ⟨a, e.trans ha⟩
    · exact ⟨z, e⟩
  · obtain ⟨u, hu, hs⟩ := (h3 i hi).2
    rcases g2 (i * 14 + 13) with e | ⟨e, _⟩
    · exact ⟨u, e.trans hu, hs.poke hp⟩
    · rw [hu] at e
      cases e
      obtain ⟨_, _, _, e, _⟩ := hs.slice
      cases e
theorem SubW.at {A : Option Addr} {n c i : Nat} (h : SubW w B E (.slice A n c)) (hi : i < n) : ∃ g off, A = some ⟨g, off, none⟩ ∧ B ≤ g ∧ g < E ∧ ∃ a : Int, w.cell? ⟨g, off + i * 5 + 1, none⟩ = some (.int .i64 a) ∧ w.frozen? ⟨g, off + i * 5 + 1, none⟩ = false := by
  obtain ⟨n', xs, ⟨A', c', e, hc, hl, ha⟩, h2, h3⟩ := h
  cases e
  obtain ⟨g, off, rfl, q1, q2, q3, hj⟩ := ha (by omega)
  obtain ⟨a, ha⟩ := h3 i hi
  have := hj _ _ ha
  rw [← Nat.add_assoc] at this
  exact ⟨g, off, rfl, q1, q2, a, this⟩
theorem AbW.at {A : Option Addr} {n c i : Nat} (h : AbW w B E (.slice A n c) n) (hi : i < n) : ∃ g off, A = some ⟨g, off, none⟩ ∧ B ≤ g ∧ g < E ∧ (∃ a : Int, w.cell? ⟨g, off + i * 14, none⟩ = some (.int .i64 a) ∧ w.frozen? ⟨g, off + i * 14, none⟩ = false) ∧
    ∃ u, w.cell? ⟨g, off + i * 14 + 13, none⟩ = some u ∧ SubW w B E u := by
  obtain ⟨xs, ⟨A', c', e, hc, hl, ha⟩, h2, h3⟩ := h
  cases e
  obtain ⟨g, off, rfl, q1, q2, q3, hj⟩ := ha (by omega)
  obtain ⟨⟨a, ha⟩, u, hu, hs⟩ := h3 i hi
  have := (hj _ _ hu).1
  rw [← Nat.add_assoc] at this
  exact ⟨g, off, rfl, q1, q2, ⟨a, hj _ _ ha⟩, u, this, hs⟩
end
/-- lists of a card are short -/
def shortC (l : List PD) : Bool := match l.getD 12 .nil with
  | .list _ rows => decide (rows.length ≤ 9) && rows.all fun r => match r.getD 13 .nil with
    | .list _ m => decide (m.length ≤ 9)
    | _ => false
  | _ => false
theorem short_ok {k : Nat} (hk : k < 120) : shortC (cardP k) = true := by
  have : (List.range' 0 120).all (fun k => shortC (cardP k)) = true := by kernel_rfl
  exact List.all_eq_true.1 this k (by simp [List.mem_range']; omega)
theorem sub_of {w : World} {B : Nat} {d : Dat} (h1 : Has E0.Δ (.list 37) d) (h2 : OkD w d) (h3 : ∀ j, AtD d j → B ≤ j) (hl : d.xs.length ≤ 9) : SubW w B w.heap.size d.toV := by
  cases h1 with
  | list r A n c xs hlen hh =>
  cases h2 with
  | list _ _ _ hr ho hz =>
  refine ⟨xs.length, flatV xs, Wb.of hr hz fun k hk => h3 k (.here hk), hl, fun i hi => ?_⟩
  have hrow : xs[i]? = some xs[i] := List.getElem?_eq_getElem hi
  have hm : xs[i] ∈ xs := List.getElem_mem hi
  have hlr := hlen _ hm
  have h5 : (E0.Δ.row 37).length = 5 := by kernel_rfl
  obtain ⟨d, hd⟩ : ∃ d, xs[i][1]? = some d := ⟨_, List.getElem?_eq_getElem (show 1 < xs[i].length by rw [hlr, h5]; omega)⟩
  have hs := hh _ hm 1 (.int .i64) d (by kernel_rfl) hd
  cases hs with
  | int _ n =>
    refine ⟨n, ?_⟩
    have := flat_get (j := 1) hlen hrow hd
    rw [h5] at this
    exact this
theorem ab_of {k B : Nat} (hk : k < 120) {w : World} {ds : List Dat} (h : CardD k w B ds) : ∃ n, AbW w B w.heap.size (ds.getD 12 (.bool false)).toV n := by
  have hlen := h.len
  have hm : ds.getD 12 (.bool false) ∈ ds := getD_memL (by omega)
  have h1 : Has E0.Δ (.list 39) (ds.getD 12 (.bool false)) := all2_get h.has (i := 12) rfl
  have h2 := h.ok _ hm
  have h3 : ∀ j, AtD (ds.getD 12 (.bool false)) j → B ≤ j := fun j hj => h.here j ⟨_, hm, hj⟩
  have hsh := short_ok hk
  rw [← h.data] at hsh
  have hst : (ds.map strip).getD 12 .nil = strip (ds.getD 12 (.bool false)) := by
    rw [List.getD_eq_getElem?_getD, List.getElem?_map, List.getD_eq_getElem?_getD, List.getElem?_eq_getElem (by omega)]; rfl
  unfold shortC at hsh
  rw [hst] at hsh
  generalize ds.getD 12 (.bool false) = d at *
  cases h1 with
  | list r A n c xs hlr hh =>
  cases h2 with
  | list _ _ _ hr ho hz =>
  rw [strip_list] at hsh
  simp only [Bool.and_eq_true, decide_eq_true_eq, List.length_map, List.all_map] at hsh
  obtain ⟨hs1, hs2⟩ := hsh
  refine ⟨xs.length, flatV xs, Wb.of hr hz fun k hk => h3 k (.here hk), hs1, fun i hi => ?_⟩
  have hrow : xs[i]? = some xs[i] := List.getElem?_eq_getElem hi
  have hmi : xs[i] ∈ xs := List.getElem_mem hi
  have hli := hlr _ hmi
  have h14 : (E0.Δ.row 39).length = 14 := by kernel_rfl
  obtain ⟨d0, hd0⟩ : ∃ d, xs[i][0]? = some d := ⟨_, List.getElem?_eq_getElem (show 0 < xs[i].length by rw [hli, h14]; omega)⟩
  obtain ⟨d13, hd13⟩ : ∃ d, xs[i][13]? = some d := ⟨_, List.getElem?_eq_getElem (show 13 < xs[i].length by rw [hli, h14]; omega)⟩
  have q0 := hh _ hmi 0 (.int .i64) d0 (by kernel_rfl) hd0
  have q13 := hh _ hmi 13 (.list 37) d13 (by kernel_rfl) hd13
  have f0 := flat_get (j := 0) hlr hrow hd0
  have f13 := flat_get (j := 13) hlr hrow hd13
  rw [h14] at f0 f13
  refine ⟨?_, _, f13, sub_of q13 (ho _ hmi _ (List.mem_of_getElem? hd13)) (fun j hj => h3 j (.list hmi (List.mem_of_getElem? hd13) hj)) ?_⟩
  · cases q0 with
    | int _ n => exact ⟨n, f0⟩
  · have := List.all_eq_true.1 hs2 _ hmi
    have e : (xs[i].map strip).getD 13 .nil = strip d13 := by
      rw [List.getD_eq_getElem?_getD, List.getElem?_map, hd13]; rfl
    simp only [Function.comp, e] at this
    cases q13 with
    | list r A n c xs' a b =>
      rw [strip_list] at this
      show xs'.length ≤ 9
      simpa using this
/-- what writes of numbers into [B, E) leave -/
structure Pk (B E : Nat) (w w' : World) : Prop where
  os : w'.os = w.os
  tape : w'.tape = w.tape
  output : w'.output = w.output
  size : w.heap.size ≤ w'.heap.size
  block : ∀ k, k < w.heap.size → (k < B ∨ E ≤ k) → w'.heap[k]? = w.heap[k]?
  oth : KeepsOthers w w'
  ab : ∀ v n, AbW w B E v n → AbW w' B E v n
  sub : ∀ v, SubW w B E v → SubW w' B E v
  hdr : ∀ (p : Addr) A n c, w.cell? p = some (.slice A n c) → w'.cell? p = some (.slice A n c)
namespace Pk
variable {B E : Nat} {a b c : World}
theorem refl (B E : Nat) (w : World) : Pk B E w w := ⟨rfl, rfl, rfl, Nat.le_refl _, fun _ _ _ => rfl, .refl _, fun _ _ h => h, fun _ h => h, fun _ _ _ _ h => h⟩
theorem trans (h : Pk B E a b) (k : Pk B E b c) : Pk B E a c :=
  ⟨k.os.trans h.os, k.tape.trans h.tape, k.output.trans h.output, Nat.le_trans h.size k.size, fun i hi hb => (k.block i (Nat.lt_of_lt_of_le hi h.size) hb).trans (h.block i hi hb), h.oth.trans k.oth, fun v n ht => k.ab v n (h.ab v n ht), fun v ht => k.sub v (h.sub v ht), fun p A n c hp => k.hdr p A n c (h.hdr p A n c hp)⟩
theorem poke {w : World} {g o : Nat} {y z : Int} (hp : w.cell? ⟨g, o, none⟩ = some (.int .i64 y)) (hB : B ≤ g) (hE : g < E) : Pk B E w (w.setCell ⟨g, o, none⟩ (.int .i64 z)) :=
  ⟨rfl, rfl, rfl, by simp, fun k hk hb => heap_setCell_other w ⟨g, o, none⟩ k _ (by intro e; have e : k = g := e; omega), .setCell _ _ _, fun v n ht => ht.poke hp, fun v ht => ht.poke hp, fun p A n c hc => by
    rw [World.cell?_setCell_other (h := by intro e; subst e; rw [hp] at hc; cases hc)]; exact hc⟩
theorem row {w w' : World} (h : Pk B E w w') {k : Nat} {cs : Array Value} {T : TypeId} (hr : Row w k cs T) (hk : k < B ∨ E ≤ k) : Row w' k cs T := (h.block k hr.lt hk).trans hr
theorem card {w w' : World} (h : Pk B E w w') {k B' : Nat} {ds : List Dat} (hc : CardD k w B' ds) (hE : E ≤ B') : CardD k w' B' ds :=
  ⟨hc.has, fun d hd => (hc.ok d hd).loc fun j hj => h.block j ((hc.ok d hd).lt hj) (.inr (Nat.le_trans hE (hc.here j ⟨d, hd, hj⟩))), hc.here, hc.data⟩
theorem below {w0 w w' : World} (h : Pk B E w w') (hb : Below w0.heap.size w0 w) (hB : w0.heap.size ≤ B) : Below w0.heap.size w0 w' :=
  ⟨h.os.trans hb.os, h.tape.trans hb.tape, h.output.trans hb.output, Nat.le_trans hb.size h.size, fun j hj => (h.block j (Nat.lt_of_lt_of_le hj hb.size) (.inl (by omega))).trans (hb.block j hj)⟩
end Pk
end Go.Proofs.YtcigbgpdikadpaaDoor
end

section
namespace Go.Proofs.YtcigbgpdikadpaaDoor
open Go.RowKit
set_option linter.unusedVariables false
attribute [local go_sem] Oper.semAt_some

set_option maxRecDepth 100000 in
set_option maxHeartbeats 4000000 in
theorem all_w (w : World) : Calls Tryd.prog 5 #[] w fun e w' => e = .returned (.func (.func 10) #[] #[]) ∧ w = w' := by
  go_enter Tryd.func5, Tryd.ntmps5
  go_wp2
  exact ⟨rfl, _, by simp [results, Tryd.func5], rfl, rfl⟩
theorem globs_below {w w' : World} (hG : E0.globs w) (hb : Below w.heap.size w w') : E0.globs w' :=
  ((baseFirm E0 []).keeps w w' none ⟨(fun d hd => by cases hd), hG⟩ (grownBy_below hb) (fun k _ h => by cases h)).2
theorem Mem.one {w W : World} {b : Nat} {cs : Array Value} {T : TypeId} (h : Below w.heap.size w W) (hr : Row W b cs T) (hb : w.heap.size ≤ b) : Mem none w W [.row b cs T] :=
  ⟨grownBy_below h, (fun f hf => by rw [List.mem_singleton.1 hf]; exact hr), (fun f hf _ k hk => by rw [List.mem_singleton.1 hf] at hk; exact .inl (by rw [show k = b from hk]; exact hb)), List.pairwise_singleton _ _⟩
theorem rowB {w w' : World} {b : Nat} {cs : Array Value} {T : TypeId} (hr : Row w b cs T) (h : Below w.heap.size w w') : Row w' b cs T := (h.block b hr.lt).trans hr
/-- the function's end: its result is true -/
theorem fin_w {w W : World} {fn : Func} {tmps : Array Value} {b2 D n : Nat} (h1 : Below w.heap.size w W) (h3 : Row W b2 #[.bool false] 4) (hD : b2 < D) (hDw : w.heap.size ≤ D) (he : w.heap.size ≤ b2) (hr : fn.results = #[.cell 2 4]) (ht : tmps.getD 2 undef = .pointer (some ⟨b2, 0, none⟩)) :
    LeavesInM Fence.wide n Tryd.prog fn tmps (fun e w' => e = .returned (.bool true) ∧ Below w.heap.size w w') [] .returning ((W.setCell ⟨b2, 0, none⟩ (.bool true)).putObj D (.deferred none)) := by
  have hb : Row ((W.setCell ⟨b2, 0, none⟩ (.bool true)).putObj D (.deferred none)) b2 #[.bool true] 4 := by
    have := Boxed.set (.bool true) h3
    exact (World.putObj_heap_other (by omega)).trans this
  have hB : Below w.heap.size w ((W.setCell ⟨b2, 0, none⟩ (.bool true)).putObj D (.deferred none)) := by
    have := h1.setCell (p := ⟨b2, 0, none⟩) he (.bool true)
    exact ⟨this.os, this.tape, this.output, by simpa [World.putObj] using this.size, fun j hj => (World.putObj_heap_other (by omega)).trans (this.block j hj)⟩
  have hp' : tmps[2]?.getD undef = .pointer (some ⟨b2, 0, none⟩) := by simpa using ht
  have hl := run_loadVar_one (P := Tryd.prog) _ ⟨b2, 0, none⟩ 4 (.bool true) _ Tryd.underlying4 rfl (hb.cell (i := 0) rfl)
  exact ⟨.bool true, by simp [results, hr, hp', asAddr, hl], rfl, hB⟩
theorem mod121 (stop : Int) : ∃ s : Nat, Go.RowKit.wrap64 ((IntKind.u64.wrap stop).tmod 121) = (s : Int) ∧ s < 121 := by
  have h0 : 0 ≤ IntKind.u64.wrap stop := by
    rw [IntKind.wrap_u64]; omega
  obtain ⟨m, hm⟩ := Int.eq_ofNat_of_zero_le h0
  refine ⟨m % 121, ?_, Nat.mod_lt _ (by omega)⟩
  rw [hm, show ((m : Nat) : Int).tmod 121 = ((m % 121 : Nat) : Int) from rfl, IntWalk.wrap64_in _ (by omega)]
set_option maxRecDepth 100000 in
set_option maxHeartbeats 4000000 in
theorem law_w (stop : Int) (w : World) (hG : E0.globs w) : Calls Tryd.prog 3 #[.int .i64 stop] w fun e w' => e = .returned (.bool true) ∧ Below w.heap.size w w' := by
  refine (callsIn_wide (n := 3)).1 ?_
  refine callsIn_of_wp_marks Tryd.func3 rfl trivial ?_ rfl
  simp only [Tryd.ntmps3, List.size_toArray, List.length_cons, List.length_nil, Nat.reduceAdd, Nat.reduceSub, Array.replicate_succ, Array.replicate_zero, List.push_toArray, List.append_toArray, List.nil_append, List.cons_append]
  have hM0 := Mem.start (o := none) w
  gi_upto_region 0 with fail
  refine reg_in wide_wide (no_defer (by rfl)) ?_
  go_wp2_with (first
    | (refine M_box1 (v := .int .i64 stop) hM0 (by kernel_rfl) rfl rfl rfl ?_; intro b1 w1 hM1)
    | (refine M_alloc1 (z := .bool false) hM1 (by kernel_rfl) rfl (by kernel_rfl) rfl ?_; intro b2 w2 hM2)
    | fail)
  clear hM0 hM1
  gi_upto_region 1 with fail
  refine reg_in wide_wide (no_defer (by rfl)) ?_
  go_wp2_with (first
    | (go_at_call 4; refine (alive_w (globs_below hG hM2.below)).mono ?_; rintro e w3 ⟨rfl, hb3⟩; have hM3 := hM2.keep hb3; clear hM2)
    | fail)
  gi_upto_region 3 with fail
  refine reg_in wide_wide (no_defer (by rfl)) ?_
  go_wp2_with (first
    | (refine M_of (.int .i64 stop) (by kernel_rfl) (R_cell hM3 rfl rfl (.tail _ (.head _)) rfl Tryd.underlying3 rfl) ?_)
    | (refine M_set hM3 (by kernel_rfl) rfl rfl rfl rfl (.tail _ (.head _ _)) (by simp) (by kernel_rfl) rfl ?_; intro w4 hM4)
    | fail)
  obtain ⟨s, hval, hs⟩ := mod121 stop
  replace hM4 : Mem none w w4 [.row b2 #[.bool false] 4, .row b1 #[.int .i64 s] 3] := by
    rw [← hval]; exact hM4
  clear hM3 hb3
  gi_upto_region 4 with fail
  refine reg_in wide_wide (no_defer (by rfl)) ?_
  go_wp2_with (first
    | (refine M_alloc1 (z := .int .i64 0) hM4 (by kernel_rfl) rfl (by kernel_rfl) rfl ?_; intro b3 w5 hM5)
    | (refine M_set (v := .int .i64 0) hM5 (by kernel_rfl) rfl rfl rfl rfl (.head _ _) (by simp) (by kernel_rfl) rfl ?_; intro w6 hM6)
    | fail)
  replace hM6 : Mem none w w6 [.row b3 #[.int .i64 0] 3, .row b2 #[.bool false] 4, .row b1 #[.int .i64 s] 3] := hM6
  clear hM4 hM5
  gi_upto_region 5 with fail
  refine reg_in wide_wide (no_defer (by rfl)) ?_
  go_wp2_with (first
    | (go_at_call 5; refine (all_w w6).mono ?_; rintro e w7 ⟨rfl, rfl⟩)
    | fail)
  gi_wp2
  have hS := hM6.size
  have hL6 := hM6.below
  have r3 := hM6.row (List.mem_cons_self ..)
  have r2 := hM6.row (List.mem_cons_of_mem _ (List.mem_cons_self ..))
  have r1 := hM6.row (List.mem_cons_of_mem _ (List.mem_cons_of_mem _ (List.mem_cons_self ..)))
  have g1 := hM6.own _ (List.mem_cons_of_mem _ (List.mem_cons_of_mem _ (List.mem_cons_self ..))) rfl b1 rfl
  have g2 := hM6.own _ (List.mem_cons_of_mem _ (List.mem_cons_self ..)) rfl b2 rfl
  have g3 := hM6.own _ (List.mem_cons_self ..) rfl b3 rfl
  have e1 : w.heap.size ≤ b1 := g1.resolve_right (by simp)
  have e2 : w.heap.size ≤ b2 := g2.resolve_right (by simp)
  have e3 : w.heap.size ≤ b3 := g3.resolve_right (by simp)
  have l1 := r1.lt
  have l2 := r2.lt
  have l3 := r3.lt
  have n12 : b1 ≠ b2 := fun e => by subst e; have := r1.symm.trans r2; simp at this
  have n13 : b1 ≠ b3 := fun e => by
    subst e
    have := List.pairwise_cons.1 hM6.apart
    exact this.1 _ (List.mem_cons_of_mem _ (List.mem_cons_self ..)) rfl b1 rfl rfl
  have n23 : b2 ≠ b3 := fun e => by subst e; have := r2.symm.trans r3; simp at this
  clear g1 g2 g3 hM6
  obtain ⟨B, hB⟩ : ∃ B, w6.heap.size + 2 = B := ⟨_, rfl⟩
  refine rangeX (N := 120) (gf := 10) (X := rndX B) (G := betw B) rfl (enters_of Tryd.func10 (by kernel_rfl) rfl) (all_seq B 2) (fun k args W ⟨ds, h, _⟩ => by rw [h]; rfl)
    (fun k W => Below w.heap.size w W ∧ Row W b3 #[.int .i64 k] 3 ∧ Row W b2 #[.bool false] 4 ∧ Row W b1 #[.int .i64 s] 3 ∧ (s = 0 ∨ k < s))
    (fun c k W => c = .exit 0 ∧ k = s ∧ Below w.heap.size w W ∧ Row W b3 #[.int .i64 k] 3 ∧ Row W b2 #[.bool false] 4 ∧ Row W b1 #[.int .i64 s] 3)
    ?hI ?hIx (fun k A h hz => ⟨globs_below hG h.1, by omega⟩) ⟨hL6, r3, r2, r1, by omega⟩ ?round ?done ?stop
  case hI =>
    rintro k A C hc ⟨h1, h2, h3, h4, h5⟩
    exact ⟨hc.bel h1 hS (Nat.le_refl _), hc.row h2, hc.row h3, hc.row h4, h5⟩
  case hIx =>
    rintro c k A C hc ⟨h0, hk, h1, h2, h3, h4⟩
    exact ⟨h0, hk, hc.bel h1 hS (Nat.le_refl _), hc.row h2, hc.row h3, hc.row h4⟩
  case done =>
    rintro D W hD ⟨h1, h2, h3, h4, h5⟩ hK
    have hs0 : s = 0 := by omega
    subst hs0
    have c1 := h4.cell (i := 0) rfl
    have c2 := h3.cell (i := 0) rfl
    have c3 := h2.cell (i := 0) rfl
    have f2 := frozen_of_row W b2 0 _ _ h3
    gi_wp2
    have hK2 := (KeepsOthers.setCell W ⟨b2, 0, none⟩ (.bool true)).same D _ hK rfl
    refine ⟨by simp, .inl ⟨_, _, rfl, run_takeDeferred hK2, ?_⟩⟩
    exact fin_w h1 h3 (by omega) (by omega) e2 rfl rfl
  case stop =>
    rintro D c k W hD hk ⟨rfl, rfl, h1, h2, h3, h4⟩ hK
    have c1 := h4.cell (i := 0) rfl
    have c2 := h3.cell (i := 0) rfl
    have c3 := h2.cell (i := 0) rfl
    have f2 := frozen_of_row W b2 0 _ _ h3
    gi_wp2
    have hK2 := (KeepsOthers.setCell W ⟨b2, 0, none⟩ (.bool true)).same D _ hK rfl
    refine ⟨by simp, .inl ⟨_, _, rfl, run_takeDeferred hK2, ?_⟩⟩
    exact fin_w h1 h3 (by omega) (by omega) e2 rfl rfl
  case round =>
    rintro l k args W K hl ⟨h1, h2, h3, h4, h5⟩ ⟨ds, rfl, hc⟩ hk hK
    obtain ⟨n0, hab⟩ := ab_of hk hc
    have hone := hc.one
    obtain ⟨d0, d1, d2, d3, d4, d5, d6, d7, d8, d9, d10, d11, d12, rfl⟩ := card13 hc.len
    replace hab : AbW W B W.heap.size d12.toV n0 := hab
    simp only [cV, List.map_cons, List.map_nil] at hone ⊢
    have hM := Mem.start (o := none) W
    have hwW := h1.size
    gi_upto_region 7 with fail
    refine reg_in (wide_round l) (no_defer (by rfl)) ?_
    go_wp2_with (first
      | (refine M_allocV hM (by kernel_rfl) (.agg zero13) rfl (by kernel_rfl) ?_; intro b5 w7 hM7)
      | (refine M_setRow hM7 (by kernel_rfl) rfl rfl rfl rfl (.head _ _) (by kernel_rfl) rfl hone ?_; intro w8 hM8)
      | fail)
    have hm8 : CK w6.heap.size W w8 := .below hM8.below
    have lb5 : W.heap.size ≤ b5 := (hM8.own _ (List.mem_cons_self ..) rfl b5 rfl).resolve_right (by simp)
    have r5 : Row w8 b5 #[d0.toV, d1.toV, d2.toV, d3.toV, d4.toV, d5.toV, d6.toV, d7.toV, d8.toV, d9.toV, d10.toV, d11.toV, d12.toV] 31 := hM8.row (List.mem_cons_self ..)
    have hB8 := hM8.below
    refine hK _ _ hB8 ?_
    clear hK hM8 hM7 hM
    intro W2 hck hgr
    replace hc : CardD k W2 B [d0, d1, d2, d3, d4, d5, d6, d7, d8, d9, d10, d11, d12] :=
      ⟨hc.has, fun d hd => ((hc.ok d hd).keeps (grownBy_below hB8) (by simp)).keeps hgr (fun j hj e => by
        injection e with e
        have := hc.here j ⟨d, hd, hj⟩
        omega), hc.here, hc.data⟩
    replace r5 := hck.row r5
    have hck := hm8.trans hck
    replace h2 := hck.row h2
    replace h3 := hck.row h3
    replace h4 := hck.row h4
    replace h1 := hck.bel h1 hS (Nat.le_refl _)
    replace hab := hab.ck hck
    obtain ⟨E, hE⟩ : ∃ E, E = W.heap.size := ⟨_, rfl⟩
    have hwE : w.heap.size ≤ E := by rw [hE]; exact hwW
    rw [← hE] at hab lb5
    have lE : E ≤ W2.heap.size := by rw [hE]; exact hck.size
    clear hck hgr hB8 hm8 hone r3 r2 r1 hL6 hE
    gi_upto_region 8 with fail
    refine reg_in (wide_round l) (no_defer (by rfl)) ?_
    go_wp2_with (first
      | (go_at_call 6; refine (rcard_w hk (globs_below hG h1)).mono ?_; rintro e w9 ⟨ds, bb, rfl, hcw, hb9⟩; have hone := hcw.one; obtain ⟨y0, y1, y2, y3, y4, y5, y6, y7, y8, y9, y10, y11, y12, rfl⟩ := card13 hcw.len; have hM1 := Mem.start (o := none) w9; simp only [cV, List.map_cons, List.map_nil] at hone ⊢)
      | (refine M_allocV hM1 (by kernel_rfl) (.agg zero13) rfl (by kernel_rfl) ?_; intro b6 w10 hM2)
      | (refine M_setRow hM2 (by kernel_rfl) rfl rfl rfl rfl (.head _ _) (by kernel_rfl) rfl hone ?_; intro w11 hM3)
      | fail)
    have hB11 : Below W2.heap.size W2 w11 := hb9.trans (hM3.below.mono hb9.size)
    have lb6 : E ≤ b6 := Nat.le_trans lE (Nat.le_trans hb9.size ((hM3.own _ (List.mem_cons_self ..) rfl b6 rfl).resolve_right (by simp)))
    have r6 : Row w11 b6 #[y0.toV, y1.toV, y2.toV, y3.toV, y4.toV, y5.toV, y6.toV, y7.toV, y8.toV, y9.toV, y10.toV, y11.toV, y12.toV] 31 := hM3.row (List.mem_cons_self ..)
    replace hcw := hcw.keep hM3.below
    replace hc := hc.keep hB11
    replace r5 := rowB r5 hB11
    replace h2 := rowB h2 hB11
    replace h3 := rowB h3 hB11
    replace h4 := rowB h4 hB11
    replace h1 := h1.trans (hB11.mono h1.size)
    replace hab := hab.ck (B0 := 0) (.below hB11)
    have lE2 : E ≤ w11.heap.size := Nat.le_trans lE hB11.size
    have hkB := Go.Proofs.YtcigbgpdikadpaaDoor.KeepsOthers.ofBelow hB11
    clear hM1 hM2 hM3 hone hb9 hB11
    gi_upto_region 9 with fail
    refine reg_in (wide_round l) (no_defer (by rfl)) ?_
    go_wp2_with (first
      | (refine M_of (.int .i64 k) (by kernel_rfl) (R_cell (Mem.one h1 h2 e3) rfl rfl (.head _) rfl Tryd.underlying3 rfl) ?_)
      | (refine M_of (.agg #[d0.toV, d1.toV, d2.toV, d3.toV, d4.toV, d5.toV, d6.toV, d7.toV, d8.toV, d9.toV, d10.toV, d11.toV, d12.toV]) (by kernel_rfl) (R_row (Mem.one h1 r5 (by omega)) rfl rfl (.head _) Tryd.underlying31 rfl (by kernel_rfl)) ?_)
      | (refine M_of (.agg #[y0.toV, y1.toV, y2.toV, y3.toV, y4.toV, y5.toV, y6.toV, y7.toV, y8.toV, y9.toV, y10.toV, y11.toV, y12.toV]) (by kernel_rfl) (R_row (Mem.one h1 r6 (by omega)) rfl rfl (.head _) Tryd.underlying31 rfl (by kernel_rfl)) ?_)
      | (go_at_call 7; refine (cards_w hk hc hcw (globs_below hG h1)).mono ?_; rintro e w12 ⟨rfl, hb12⟩)
      | fail)
    replace hcw := hcw.keep hb12
    replace r5 := rowB r5 hb12
    replace r6 := rowB r6 hb12
    replace h2 := rowB h2 hb12
    replace h3 := rowB h3 hb12
    replace h4 := rowB h4 hb12
    replace h1 := h1.trans (hb12.mono h1.size)
    replace hab := hab.ck (B0 := 0) (.below hb12)
    replace lE2 := Nat.le_trans lE2 hb12.size
    replace hkB := hkB.trans (Go.Proofs.YtcigbgpdikadpaaDoor.KeepsOthers.ofBelow hb12)
    obtain ⟨A, cc, hd12, hn0⟩ := hab.slice
    clear hc hb12
    generalize d12.toV = v12 at *
    subst hd12
    have c12 := r5.cell (i := 12) rfl
    gi_upto_region 11 with fail
    gi_wp2
    gi_loopg [38] n0 (fun g p38 wr => ∃ i : Nat, n0 ≤ i + g ∧ i ≤ n0 ∧ p38 = .int .i64 i ∧ Pk B E w12 wr)
    case atStart => exact ⟨0, by omega, by omega, rfl, .refl _ _ _⟩
    case round =>
      obtain ⟨i, hg, hi, rfl, hP⟩ := hrel
      by_cases hlt : i < n0
      · have hlt' : (i : Int) < n0 := by omega
        gi_upto_region 14 with fail
        have hab' := hP.ab _ _ hab
        obtain ⟨g, off, rfl, q1, q2, ⟨a, ha, hfa⟩, u, hu, hsub⟩ := hab'.at hlt
        have r5' := hP.row r5 (.inr lb5)
        have c12' := r5'.cell (i := 12) rfl
        gi_upto_region 15 with fail
        have HP := Pk.poke (B := B) (E := E) (z := 9) ha q1 q2
        obtain ⟨wa, hwa⟩ : ∃ wa, wr.setCell ⟨g, off + i * 14, none⟩ (.int .i64 9) = wa := ⟨_, rfl⟩
        rw [hwa] at HP ⊢
        have hPa := hP.trans HP
        have hab2 := hPa.ab _ _ hab
        clear hab' ha hfa hu hsub r5' c12' HP hwa q1 q2 hP
        obtain ⟨g', off', e, q1, q2, _, u, hu, hsub⟩ := hab2.at hlt
        cases e
        obtain ⟨A2, m, cm, rfl, hm⟩ := hsub.slice
        have r5a := hPa.row r5 (.inr lb5)
        have c12a := r5a.cell (i := 12) rfl
        obtain ⟨gO, hgO⟩ : ∃ x, x = gk := ⟨_, rfl⟩
        gi_wp2
        gi_loopg [54] m (fun g p54 wq => ∃ q : Nat, m ≤ q + g ∧ q ≤ m ∧ p54 = .int .i64 q ∧ Pk B E wa wq)
        case atStart => exact ⟨0, by omega, by omega, rfl, .refl _ _ _⟩
        case round =>
          obtain ⟨q, hg3, hq, rfl, hPq⟩ := hrel
          clear c12a
          by_cases hqm : q < m
          · have hqm' : (q : Int) < m := by omega
            obtain ⟨g2, o2, rfl, p1, p2, a2, ha2, hf2⟩ := (hPq.sub _ hsub).at hqm
            have hu3 := hPq.hdr _ _ _ _ hu
            have r5q := (hPa.trans hPq).row r5 (.inr lb5)
            have c12q := r5q.cell (i := 12) rfl
            have HF := Lib.hid (hPq.trans (Pk.poke (z := 99) ha2 p1 p2))
            gi_wp2
            gi_roundg (gk - 1)
            case rel => exact ⟨q + 1, by omega, by omega, by simp, HF.out⟩
            case measure => omega
          · obtain rfl : q = m := by omega
            have hcond : ¬ (q : Int) < q := by omega
            gi_wp2
            gi_roundg (gO - 1)
            case rel => exact ⟨i + 1, by omega, by omega, by simp, hPa.trans hPq⟩
            case measure => omega
      · obtain rfl : i = n0 := by omega
        have hcond : ¬ (i : Int) < i := by omega
        gi_upto_region 21 with fail
        replace hcw := hP.card hcw lE
        replace r6 := hP.row r6 (.inr lb6)
        replace h2 := hP.row h2 (.inl (by omega))
        replace h3 := hP.row h3 (.inl (by omega))
        replace h4 := hP.row h4 (.inl (by omega))
        replace h1 := hP.below h1 (by omega)
        replace hkB := hkB.trans hP.oth
        clear hcond c12 hab r5 hP lE lE2
        refine reg_in (wide_round l) (no_defer (by rfl)) ?_
        go_wp2_with (first
          | (go_at_call 8; refine (card_w hk (globs_below hG h1)).mono ?_; rintro e w13 ⟨ds, rfl, hca, hb13⟩; have hone := hca.one; obtain ⟨z0, z1, z2, z3, z4, z5, z6, z7, z8, z9, z10, z11, z12, rfl⟩ := card13 hca.len; have hM1 := Mem.start (o := none) w13; simp only [cV, List.map_cons, List.map_nil] at hone ⊢)
          | (refine M_allocV hM1 (by kernel_rfl) (.agg zero13) rfl (by kernel_rfl) ?_; intro b10 w14 hM2)
          | (refine M_setRow hM2 (by kernel_rfl) rfl rfl rfl rfl (.head _ _) (by kernel_rfl) rfl hone ?_; intro w15 hM3)
          | fail)
        have hB15 : Below wr.heap.size wr w15 := hb13.trans (hM3.below.mono hb13.size)
        have lb10 : w.heap.size ≤ b10 := Nat.le_trans h1.size (Nat.le_trans hb13.size ((hM3.own _ (List.mem_cons_self ..) rfl b10 rfl).resolve_right (by simp)))
        have r10 : Row w15 b10 #[z0.toV, z1.toV, z2.toV, z3.toV, z4.toV, z5.toV, z6.toV, z7.toV, z8.toV, z9.toV, z10.toV, z11.toV, z12.toV] 31 := hM3.row (List.mem_cons_self ..)
        replace hca := hca.keep hM3.below
        replace hcw := hcw.keep hB15
        replace r6 := rowB r6 hB15
        replace h2 := rowB h2 hB15
        replace h3 := rowB h3 hB15
        replace h4 := rowB h4 hB15
        replace h1 := h1.trans (hB15.mono h1.size)
        replace hkB := hkB.trans (Go.Proofs.YtcigbgpdikadpaaDoor.KeepsOthers.ofBelow hB15)
        clear hM1 hM2 hM3 hone hb13 hB15
        gi_upto_region 22 with fail
        refine reg_in (wide_round l) (no_defer (by rfl)) ?_
        go_wp2_with (first
          | (refine M_of (.agg #[z0.toV, z1.toV, z2.toV, z3.toV, z4.toV, z5.toV, z6.toV, z7.toV, z8.toV, z9.toV, z10.toV, z11.toV, z12.toV]) (by kernel_rfl) (R_row (Mem.one h1 r10 lb10) rfl rfl (.head _) Tryd.underlying31 rfl (by kernel_rfl)) ?_)
          | (refine M_of (.agg #[y0.toV, y1.toV, y2.toV, y3.toV, y4.toV, y5.toV, y6.toV, y7.toV, y8.toV, y9.toV, y10.toV, y11.toV, y12.toV]) (by kernel_rfl) (R_row (Mem.one h1 r6 (by omega)) rfl rfl (.head _) Tryd.underlying31 rfl (by kernel_rfl)) ?_)
          | (go_at_call 7; refine (cards_w hk hca hcw (globs_below hG h1)).mono ?_; rintro e w16 ⟨rfl, hb16⟩)
          | fail)
        replace h2 := rowB h2 hb16
        replace h3 := rowB h3 hb16
        replace h4 := rowB h4 hb16
        replace h1 := h1.trans (hb16.mono h1.size)
        replace hkB := hkB.trans (Go.Proofs.YtcigbgpdikadpaaDoor.KeepsOthers.ofBelow hb16)
        clear r10 hca hcw r6 hb16
        have c3 := h2.cell (i := 0) rfl
        have f3 := frozen_of_row w16 b3 0 _ _ h2
        have hk' : (k : Int) < 120 := by omega
        gi_upto_region 25 with fail
        have hcast : ((k + 1 : Nat) : Int) = (k : Int) + 1 := by omega
        have t1 : Below w.heap.size w (w16.setCell ⟨b3, 0, none⟩ (.int .i64 ((k : Int) + 1))) := h1.setCell (p := ⟨b3, 0, none⟩) e3 _
        have t2 : Row (w16.setCell ⟨b3, 0, none⟩ (.int .i64 ((k : Int) + 1))) b3 #[.int .i64 ((k + 1 : Nat) : Int)] 3 := by
          rw [hcast]; exact Boxed.set _ h2
        have t3 : Row (w16.setCell ⟨b3, 0, none⟩ (.int .i64 ((k : Int) + 1))) b2 #[.bool false] 4 := Boxed.other h3 n23 _
        have t4 : Row (w16.setCell ⟨b3, 0, none⟩ (.int .i64 ((k : Int) + 1))) b1 #[.int .i64 s] 3 := Boxed.other h4 n13 _
        replace hkB := hkB.trans (KeepsOthers.setCell w16 ⟨b3, 0, none⟩ (.int .i64 ((k : Int) + 1)))
        clear h1 h2 h3 h4 c3 f3
        generalize w16.setCell ⟨b3, 0, none⟩ (.int .i64 ((k : Int) + 1)) = wz at *
        have c3 : wz.cell? ⟨b3, 0, none⟩ = some (.int .i64 ((k : Int) + 1)) := by rw [← hcast]; exact t2.cell (i := 0) rfl
        have c1 := t4.cell (i := 0) rfl
        by_cases hks : k + 1 = s
        · have hks' : (k : Int) + 1 = s := by omega
          gi_wp2
          exact ⟨hkB, rfl, hks, t1, t2, t3, t4⟩
        · have hks' : ¬ (k : Int) + 1 = s := by omega
          gi_wp2
          exact ⟨hkB, t1, t2, t3, t4, by omega⟩
end Go.Proofs.YtcigbgpdikadpaaDoor
end

section
namespace Go.Proofs.YtcigbgpdikadpaaDoor
open Go.RowKit
set_option linter.unusedVariables false

def k_ltall : Nat := 3
def sg_ltall : Sig := ⟨[(false, [.int .i64])], [(false, [.bool])], false, false, true, false, false, [], [], none⟩
theorem ltall_h : Holds E0 k_ltall sg_ltall true_s := fun w ds Q hs hok _ hG h => by
  rcases hs with _ | ⟨h0, h1⟩
  rcases h1 with _ | _
  cases h0 with
  | int _ n =>
    refine (law_w n w hG).mono ?_
    rintro e w' ⟨rfl, hb⟩
    exact ⟨[.bool true], h, .cons (.bool _) .nil, hb, (fun d hd => by rw [List.mem_singleton.1 hd]; exact .bool _), (fun k ⟨d, hd, hk⟩ => by rw [List.mem_singleton.1 hd] at hk; cases hk), rfl⟩
end Go.Proofs.YtcigbgpdikadpaaDoor
end
