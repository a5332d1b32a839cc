/-
  Slices of the call's own that may be written: append, store, make; several of them beside one another.
-/
import Derived.Test.YtonjilfbcofoaaaDoorKitF
import Derived.Laws.OwnMore
namespace Go.Proofs.YtonjilfbcofoaaaDoor
open Go.RowKit

/-- a slice of which each cell up to its capacity is the call's own, from block B on -/
def Ow (w : World) (B sz : Nat) (v : Value) (n : Nat) (xs : List Value) : Prop :=
  ∃ A c, v = .slice A n c ∧ n ≤ c ∧ xs.length = n * sz ∧ At w A n xs ∧
    (0 < c → ∃ g off, A = some ⟨g, off, none⟩ ∧ B ≤ g ∧ g < w.heap.size ∧ ∀ j, j < c * sz → (w.cell? ⟨g, off + j, none⟩).isSome = true ∧ w.frozen? ⟨g, off + j, none⟩ = false)

def blkOf : Value → Option Nat
  | .slice (some a) _ c => if 0 < c then some a.block else none
  | _ => none

section
variable {w w' : World} {A : Option Addr} {B B' sz n m : Nat} {v u x : Value} {xs ys news : List Value} {P : Program}

theorem Ow.sl (h : Ow w B sz v n xs) : Sl w B sz v n xs := by
  obtain ⟨A, c, e, hc, hl, ha, ho⟩ := h
  exact ⟨A, c, e, hc, hl, ha, fun hn => ho (by omega)⟩
theorem Ow.rd (h : Ow w B sz v n xs) : Rd w sz v n xs := h.sl.rd
theorem Ow.len (h : Ow w B sz v n xs) : xs.length = n * sz := h.rd.len
theorem Ow.weak (h : Ow w B sz v n xs) (hB : B' ≤ B) : Ow w B' sz v n xs := by
  obtain ⟨A, c, e, hc, hl, ha, ho⟩ := h
  exact ⟨A, c, e, hc, hl, ha, fun hn => by obtain ⟨g, off, e1, h1, r⟩ := ho hn; exact ⟨g, off, e1, by omega, r⟩⟩
theorem Ow.nil (w : World) (B sz : Nat) : Ow w B sz (.slice none 0 0) 0 [] := ⟨none, 0, rfl, Nat.le_refl _, by simp, fun h => absurd h (by omega), fun h => absurd h (by omega)⟩
theorem Ow.empty (w : World) (T : TypeId) (B sz : Nat) : Ow (w.alloc (.cells #[] T)) B sz (.slice (some ⟨w.heap.size, 0, none⟩) 0 0) 0 [] :=
  ⟨_, 0, rfl, by omega, by simp, fun h => absurd h (by omega), fun h => absurd h (by omega)⟩

theorem Ow.zero (w : World) (A : Option Addr) (B sz : Nat) : Ow w B sz (.slice A 0 0) 0 [] :=
  ⟨_, 0, rfl, by omega, by simp, fun h => absurd h (by omega), fun h => absurd h (by omega)⟩
theorem Ow.blk_lt (h : Ow w B sz v n xs) : ∀ k, blkOf v = some k → B ≤ k ∧ k < w.heap.size := by
  obtain ⟨A, c, rfl, hc, hl, ha, ho⟩ := h
  intro k hk
  cases A with
  | none => simp [blkOf] at hk
  | some a =>
    simp only [blkOf] at hk
    split at hk
    · rename_i hn
      obtain ⟨g, off, hA, hB, hg, _⟩ := ho hn
      cases hA
      cases hk
      exact ⟨hB, hg⟩
    · cases hk

theorem Ow.grown (h : Ow w B sz v n xs) {o : Option Nat} (hg : w.grownBy w' o) (hne : blkOf v = none ∨ blkOf v ≠ o) : Ow w' B sz v n xs := by
  have hsize := hg.size
  obtain ⟨A, c, rfl, hc, hl, ha, hs⟩ := h
  by_cases h0 : 0 < c
  · obtain ⟨g, off, rfl, hB, hb, hj⟩ := hs h0
    have hne' : some g ≠ o := by
      simp only [blkOf, if_pos h0] at hne
      rcases hne with h | h
      · cases h
      · exact h
    refine ⟨some ⟨g, off, none⟩, c, rfl, hc, hl, fun hn => ?_, fun _ => ⟨g, off, rfl, hB, by omega, fun j hjc => ?_⟩⟩
    · obtain ⟨ad, e, hb', hcell⟩ := ha hn
      cases e
      refine ⟨_, rfl, by omega, fun j u hu => ?_⟩
      rw [cell_grown hg (by rw [block_add]; exact hb') (by rw [block_add]; exact hne')]
      exact hcell j u hu
    · rw [cell_grown (p := ⟨g, off + j, none⟩) hg hb hne', frozen_grown (p := ⟨g, off + j, none⟩) hg hb hne']
      exact hj j hjc
  · exact ⟨A, c, rfl, hc, hl, fun hn => absurd hn (by omega), fun hn => absurd hn h0⟩
theorem Ow.below (h : Ow w B sz v n xs) (hb : Below w.heap.size w w') : Ow w' B sz v n xs := by
  obtain ⟨A, c, e, hc, hl, ha, ho⟩ := h
  refine ⟨A, c, e, hc, hl, ha.mono hb.size fun p hp => hb.cell hp, fun hn => ?_⟩
  obtain ⟨g, off, hA, hB, hg, hj⟩ := ho hn
  exact ⟨g, off, hA, hB, Nat.lt_of_lt_of_le hg hb.size, fun j hjc => by rw [hb.cell (p := ⟨g, off + j, none⟩) hg, hb.frozen (p := ⟨g, off + j, none⟩) hg]; exact hj j hjc⟩

/-- the cells of an own row of one cell an element -/
theorem Ow.at1 (h : Ow w B 1 v n xs) (hn : 0 < n) : ∃ g off c, v = .slice (some ⟨g, off, none⟩) n c ∧ n ≤ c ∧ B ≤ g ∧ g < w.heap.size ∧
    ∀ j, (hj : j < n) → w.cell? ⟨g, off + j, none⟩ = some (xs[j]'(by rw [h.len]; omega)) ∧ w.frozen? ⟨g, off + j, none⟩ = false := by
  have hlen := h.len
  obtain ⟨A, c, rfl, hc, hl, ha, ho⟩ := h
  obtain ⟨g, off, rfl, hB, hg, hj⟩ := ho (by omega)
  obtain ⟨ad, e, _, hcell⟩ := ha hn
  cases e
  refine ⟨g, off, c, rfl, hc, hB, hg, fun j hjn => ⟨?_, (hj j (by omega)).2⟩⟩
  have := hcell j xs[j] (List.getElem?_eq_getElem (by omega))
  rwa [Addr.add_lit] at this
theorem Ow.set {g off c k : Nat} (h : Ow w B 1 (.slice (some ⟨g, off, none⟩) n c) n xs) (hk : k < n) (x : Value) : Ow (w.setCell ⟨g, off + k, none⟩ x) B 1 (.slice (some ⟨g, off, none⟩) n c) n (xs.set k x) := by
  have hlen := h.len
  obtain ⟨A, c', e, hc, hl, ha, ho⟩ := h
  cases e
  obtain ⟨g', off', e, hB, hg, hj⟩ := ho (by omega)
  cases e
  refine ⟨_, _, rfl, hc, by simpa using hl, fun hn => ⟨_, rfl, by simpa using hg, fun j u hu => ?_⟩, fun _ => ⟨g, off, rfl, hB, by simpa using hg, fun j hjc => ⟨?_, ?_⟩⟩⟩
  · rw [Addr.add_lit]
    obtain ⟨ad, e, _, hcell⟩ := ha hn
    cases e
    have hjn : j < n := by have := (List.getElem?_eq_some_iff.1 hu).1; simp at this; omega
    rw [List.getElem?_set] at hu
    by_cases hjk : k = j
    · subst hjk
      rw [if_pos rfl, if_pos (by omega)] at hu
      cases hu
      obtain ⟨u0, hu0⟩ := Option.isSome_iff_exists.1 (hj k (by omega)).1
      rw [World.cell?_setCell_same (h := hu0)]
    · rw [if_neg hjk] at hu
      rw [World.cell?_setCell_other (h := by intro e; simp only [Addr.mk.injEq, true_and, and_true] at e; omega)]
      have := hcell j u hu
      rwa [Addr.add_lit] at this
  · by_cases hjk : k = j
    · subst hjk
      obtain ⟨u0, hu0⟩ := Option.isSome_iff_exists.1 (hj k (by omega)).1
      rw [World.cell?_setCell_same (h := hu0)]; rfl
    · rw [World.cell?_setCell_other (h := by intro e; simp only [Addr.mk.injEq, true_and, and_true] at e; omega)]
      exact (hj j hjc).1
  · rw [World.frozen?_setCell]
    exact (hj j hjc).2
theorem Ow.cell0 {g c k : Nat} (h : Ow w B 1 (.slice (some ⟨g, 0, none⟩) n c) n xs) (hk : k < n) :
    w.cell? ⟨g, k, none⟩ = some (xs[k]'(by rw [h.len]; omega)) ∧ w.frozen? ⟨g, k, none⟩ = false ∧ B ≤ g ∧ g < w.heap.size := by
  obtain ⟨g', off, c', e, hc, hB, hg, hj⟩ := h.at1 (by omega)
  cases e
  have := hj k hk
  rw [Nat.zero_add] at this
  exact ⟨this.1, this.2, hB, hg⟩
theorem Ow.cell {g off c k : Nat} (h : Ow w B 1 (.slice (some ⟨g, off, none⟩) n c) n xs) (hk : k < n) :
    w.cell? ⟨g, off + k, none⟩ = some (xs[k]'(by rw [h.len]; omega)) ∧ w.frozen? ⟨g, off + k, none⟩ = false ∧ B ≤ g ∧ g < w.heap.size := by
  obtain ⟨g', off', c', e, hc, hB, hg, hj⟩ := h.at1 (by omega)
  cases e
  have := hj k hk
  exact ⟨this.1, this.2, hB, hg⟩
theorem Ow.set0 {g c k : Nat} (h : Ow w B 1 (.slice (some ⟨g, 0, none⟩) n c) n xs) (hk : k < n) (x : Value) : Ow (w.setCell ⟨g, k, none⟩ x) B 1 (.slice (some ⟨g, 0, none⟩) n c) n (xs.set k x) := by
  have := h.set hk x
  rwa [Nat.zero_add] at this
theorem i64s_set (l : List Int) (k : Nat) (x : Int) : i64s (l.set k x) = (i64s l).set k (.int .i64 x) := by simp [i64s, List.map_set]
theorem i64s_get {l : List Int} {k : Nat} (h : k < l.length) : (i64s l)[k]'(by rw [i64s_len]; exact h) = .int .i64 l[k] := by simp [i64s]
theorem grownBy_setCell (w : World) (g i : Nat) (x : Value) : w.grownBy (w.setCell ⟨g, i, none⟩ x) (some g) :=
  ⟨rfl, rfl, rfl, by simp, fun k _ hk => Below.heap_setCell w ⟨g, i, none⟩ x k (fun e => hk (by rw [e]))⟩

theorem run_append_ow (t ty e : TypeId) (i : TypeInfo) (z : Value) (bytes : Nat) (ht : P.underlying t = some (.slice e)) (hi : P.info? e = some i) (hz : i.zero = some z)
    (hsize : i.size = sz) (hby : i.bytes = bytes) (hzs : z.cells.size = sz) (hs : Ow w B sz v n xs) (hr : Rd w sz x m news) (h1 : ∀ u ∈ news, u.oneCell' = true)
    (h63 : n + m ≤ maxLen) (hbytes : (n + m) * bytes ≤ 140737488355328) (hB : B ≤ w.heap.size) :
    ∃ v' w', (Builtin.append_ #[t, t] ty #[v, x]).run P w = .ok v' w' ∧ Ow w' B sz v' (n + m) (xs ++ news) ∧ w.grownBy w' (blkOf v) ∧ (blkOf v' = blkOf v ∨ ∃ g, blkOf v' = some g ∧ w.heap.size ≤ g) := by
  obtain ⟨v', w', hrun, h2, h3⟩ := run_append_sl (P := P) t ty e i z bytes ht hi hz hsize hby hzs hs.sl hr h1 h63 hbytes hB
  have hOw := hs
  subst hsize hby
  obtain ⟨A, c, rfl, hc, hl, ha, ho⟩ := hs
  obtain ⟨A', c', rfl, hc', hl', ha'⟩ := hr
  by_cases hm : m = 0
  · subst hm
    have hn0 : news = [] := List.eq_nil_of_length_eq_zero (by simpa using hl')
    subst hn0
    rw [append_none t ty e i ht hi A A' n c c' hc w] at hrun
    cases hrun
    exact ⟨_, _, append_none t ty e i ht hi A A' n c c' hc w, by simpa using hOw, World.grownBy.refl w _, .inl rfl⟩
  · obtain ⟨a, rfl, hab, hnews⟩ := ha' (by omega)
    by_cases hroom : n + m ≤ c
    · obtain ⟨g, off, rfl, hBg, hg, hj⟩ := ho (by omega)
      clear ho
      have hle : (n + m) * i.size ≤ c * i.size := Nat.mul_le_mul_right _ hroom
      rw [Nat.add_mul] at hle
      have hrun' := hrun
      have hroomrun := run_append_room_cells (P := P) w t ty e i ht hi g off n c a m c' news hl' hnews h1 hroom
        (fun j hjl => by have := (hj (n * i.size + j) (by omega)).1; rwa [← Nat.add_assoc] at this)
        (fun j hjl => by have := (hj (n * i.size + j) (by omega)).2; rwa [← Nat.add_assoc] at this)
      rw [hroomrun] at hrun'
      cases hrun'
      obtain ⟨A2, c2, e2, hc2, hl2, ha2, ho2⟩ := h2
      cases e2
      have e1 : blkOf (.slice (some ⟨g, off, none⟩) n c) = some g := by simp only [blkOf]; rw [if_pos (by omega)]
      have e3 : ownOf (.slice (some ⟨g, off, none⟩) n c) = some g := by simp only [ownOf]; rw [if_pos (by omega)]
      refine ⟨_, _, hroomrun, ⟨_, _, rfl, hc2, hl2, ha2, fun _ => ⟨g, off, rfl, hBg, by rw [setCells_size]; exact hg, fun j hjc => ⟨World_isSome_setCells g news _ w _ (hj j hjc).1, ?_⟩⟩⟩, ?_, .inl ?_⟩
      · rw [World.frozen?_setCells]; exact (hj j hjc).2
      · rw [e1, ← e3]; exact h3
      · rw [e1]; simp only [blkOf]; rw [if_pos (by omega)]
    · have h63' : ((n + m : Nat) : Int) ≤ 9223372036854775807 := by simp only [maxLen] at h63; omega
      have hlt : c < n + m := Nat.lt_of_not_le hroom
      have HO := Lib.hid ho
      clear ho
      have hgrow := append_grow_any t ty e i z ht hi hz w A n c xs hl ha a m c' news hl' hnews (fun hn => by
        subst hn
        apply Classical.byContradiction
        intro h
        obtain ⟨g, off, e1, _⟩ := HO.out (Nat.pos_of_ne_zero h)
        cases e1) hlt h63' (growslice_fits (by omega) hbytes)
      have hrun' := hrun
      rw [hgrow] at hrun'
      have hge := grownCap_ge w (n + m) c e
      have hsz : ∀ q : Nat, (xs.toArray ++ news.toArray ++ Builtin.zeroCells z.cells (q - (n + m))).size = (n + m) * i.size + (q - (n + m)) * i.size := fun q => by
        simp only [Array.size_append, List.size_toArray, size_zeroCells, hzs, hl, hl', Nat.add_mul]
      cases hrun'
      obtain ⟨A2, c2, e2, hc2, hl2, ha2, ho2⟩ := h2
      cases e2
      refine ⟨_, _, hgrow, ⟨_, _, rfl, hc2, hl2, ha2, fun _ => ⟨w.heap.size, 0, rfl, hB, by simp, fun j hj => ?_⟩⟩, ⟨rfl, rfl, rfl, by simp, fun k hk _ => (Below.heap_alloc w.drew _ k hk)⟩, .inr ⟨w.heap.size, ?_, Nat.le_refl _⟩⟩
      · rw [Nat.zero_add]
        have h := World.cell?_alloc_new (w := w.drew) (xs.toArray ++ news.toArray ++ Builtin.zeroCells z.cells (grownCap w (n + m) c e - (n + m))) e j
        have h' := World.frozen?_alloc_new (w := w.drew) (xs.toArray ++ news.toArray ++ Builtin.zeroCells z.cells (grownCap w (n + m) c e - (n + m))) e j
        rw [World.size_drew] at h h'
        refine ⟨?_, h'⟩
        rw [h]
        have : j < (xs.toArray ++ news.toArray ++ Builtin.zeroCells z.cells (grownCap w (n + m) c e - (n + m))).size := by
          rw [hsz, ← Nat.add_mul, show n + m + (grownCap w (n + m) c e - (n + m)) = grownCap w (n + m) c e by omega]; exact hj
        rw [Array.getElem?_eq_getElem this]
        rfl
      · simp only [blkOf]; rw [if_pos (by omega)]
end

section
variable {P : Program} {ops : Array Oper} {rest : List Oper} {o : Oper} {a : Act} {w : World} {Q : Exit → Act → World → Prop} {B sz n m : Nat} {v x : Value} {xs news : List Value}

/-- what append leaves: the value, the world, and where it stands -/
structure Appended (w w' : World) (B sz : Nat) (v v' : Value) (n : Nat) (xs : List Value) : Prop where
  ow : Ow w' B sz v' n xs
  below : Below B w w'
  grown : w.grownBy w' (blkOf v)
  blk : blkOf v' = blkOf v ∨ ∃ g, blkOf v' = some g ∧ w.heap.size ≤ g

theorem wpList_append_ow (hgd : o.guard = none) (s y : Operand) (t : TypeId) (ho : o.op = .call { callee := .builtin .append, args := #[s, y], argTypes := #[t, t] })
    (e : TypeId) (i : TypeInfo) (z : Value) (bytes : Nat) (ht : P.underlying t = some (.slice e)) (hi : P.info? e = some i) (hz : i.zero = some z) (hsize : i.size = sz) (hby : i.bytes = bytes) (hzs : z.cells.size = sz)
    (hs : Ow w B sz (a.eval s) n xs) (hr : Rd w sz (a.eval y) m news) (h1 : ∀ u ∈ news, u.oneCell' = true)
    (h63 : n + m ≤ maxLen) (hbytes : (n + m) * bytes ≤ 140737488355328) (hB : B ≤ w.heap.size)
    (h : ∀ v' w', Appended w w' B sz (a.eval s) v' (n + m) (xs ++ news) → wpList P ops Q rest (a.put o.dst v') w') : wpList P ops Q (o :: rest) a w := by
  refine wpList_plain hgd fun K hK => ?_
  obtain ⟨v', w', hrun, h2, h3, h4⟩ := run_append_ow (P := P) t o.type e i z bytes ht hi hz hsize hby hzs hs hr h1 h63 hbytes hB
  unfold Oper.wp execOp
  simp only [ho, resolve, invoke, builtin, Sem.run_bind, Sem.run_pure, Result.andThen_ok, List.map_toArray, List.map_cons, List.map_nil, hrun]
  exact hK _ _ (h v' w' ⟨h2, (Below.refl _ _).grown h3 hB (fun k hk => (hs.blk_lt k hk).1), h3, h4⟩)
end

/-- make of a row of numbers -/
theorem run_make_row {P : Program} (w : World) (t e : TypeId) (i : TypeInfo) (z : Value) (ht : P.underlying t = some (.slice e)) (hi : P.info? e = some i) (hz : i.zero = some z) (hz1 : z.cells = #[z]) (hs : i.size = 1)
    (n : Nat) (hbytes : i.bytes * n ≤ 281474976710656) (h63 : n ≤ maxLen) :
    (Instr.makeSlice t (.int .i64 (n : Int)) (.int .i64 (n : Int))).run P w = .ok (.slice (some ⟨w.heap.size, 0, none⟩) n n) (w.alloc (.cells (madeCells #[z] n) e)) := by
  have h63' : (n : Int) ≤ 9223372036854775807 := by simp only [maxLen] at h63; omega
  have hb' : (i.bytes : Int) * (n : Int) ≤ 281474976710656 := by
    have h : ((i.bytes * n : Nat) : Int) ≤ 281474976710656 := by omega
    rwa [Int.natCast_mul] at h
  have hr := run_make (P := P) w t e i z ht hi hz .i64 .i64 n n (by omega) (by omega) hb' h63'
  simpa [hz1, hs] using hr
theorem ow_made (w : World) (e : TypeId) (z : Value) (n B : Nat) (hB : B ≤ w.heap.size) : Ow (w.alloc (.cells (madeCells #[z] n) e)) B 1 (.slice (some ⟨w.heap.size, 0, none⟩) n n) n (List.replicate n z) := by
  have hc : ∀ j, (w.alloc (.cells (madeCells #[z] n) e)).cell? ⟨w.heap.size, j, none⟩ = (List.replicate n z)[j]? := fun j => by
    rw [World.cell?_alloc_new, ← toList_madeCells_one]
    simp
  refine ⟨_, _, rfl, Nat.le_refl _, by simp, fun hn => ⟨_, rfl, by simp, fun j u hu => ?_⟩, fun hn => ⟨_, 0, rfl, hB, by simp, fun j hj => ⟨?_, ?_⟩⟩⟩
  · rw [Addr.add_lit, Nat.zero_add, hc]; exact hu
  · rw [Nat.zero_add, hc]; simp; omega
  · rw [Nat.zero_add]; exact World.frozen?_alloc_new (w := w) (madeCells #[z] n) e j

/-- two slices that stand in blocks of their own each -/
def Ap (v u : Value) : Prop := ∀ k, blkOf v = some k → blkOf u = some k → False
theorem Ap.symm {v u : Value} (h : Ap v u) : Ap u v := fun k h1 h2 => h k h2 h1
theorem Ap.ne {v u : Value} (h : Ap v u) : blkOf v = none ∨ blkOf v ≠ blkOf u := by
  cases e : blkOf v with
  | none => exact .inl rfl
  | some k => exact .inr fun e2 => h k e e2.symm
theorem Ap.nil (v : Value) (a : Option Addr) : Ap v (.slice a 0 0) := fun k _ h2 => by cases a <;> simp [blkOf] at h2
theorem Ap.appended {w w' : World} {B sz sz' n m : Nat} {v v' u : Value} {xs ys : List Value} (h : Ap v u) (hu : Ow w B sz u n xs) (ha : Appended w w' B sz' v v' m ys) : Ap v' u := fun k h1 h2 => by
  rcases ha.blk with e | ⟨g, e, hg⟩
  · exact h k (e ▸ h1) h2
  · rw [e] at h1; cases h1
    have := (hu.blk_lt k h2).2
    omega
theorem Ow.kept {w w' : World} {B sz sz' n m : Nat} {v v' u : Value} {xs ys : List Value} (hu : Ow w B sz u n xs) (h : Ap u v) (ha : Appended w w' B sz' v v' m ys) : Ow w' B sz u n xs := hu.grown ha.grown h.ne
theorem Ow.stored {w : World} {B sz n m g i off c : Nat} {u x : Value} {xs : List Value} (hu : Ow w B sz u n xs) (h : Ap u (.slice (some ⟨g, off, none⟩) m c)) (hc : 0 < c) : Ow (w.setCell ⟨g, i, none⟩ x) B sz u n xs :=
  hu.grown (grownBy_setCell w g i x) (by have := h.ne; simpa [blkOf, hc] using this)
end Go.Proofs.YtonjilfbcofoaaaDoor
