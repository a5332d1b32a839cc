import Derived.Test.YtcigbgpdikadpaaDoorM0
import Derived.Laws.OwnMore
import Derived.Deep.MidRow
import Derived.Great.BuildSlice

set_option linter.unusedVariables false
set_option linter.unusedSimpArgs false

section
namespace Go.Proofs.YtcigbgpdikadpaaDoor
open Go.RowKit

/-- a slice of which each cell up to its capacity is the call's own, from block B on -/
def Ow (w : World) (B sz : Nat) (v : Value) (n : Nat) (xs : List Value) : Prop :=
  ∃ A c, v = .slice A n c ∧ n ≤ c ∧ xs.length = n * sz ∧ At w A n xs ∧
    (0 < c → ∃ g off, A = some ⟨g, off, none⟩ ∧ B ≤ g ∧ g < w.heap.size ∧ ∀ j, j < c * sz → (w.cell? ⟨g, off + j, none⟩).isSome = true ∧ w.frozen? ⟨g, off + j, none⟩ = false)

def blkOf : Value → Option Nat
  | .slice (some a) _ c => if 0 < c then some a.block else none
  | _ => none

section
variable {w w' : World} {A : Option Addr} {B B' sz n m : Nat} {v u x : Value} {xs ys news : List Value} {P : Program}

theorem Ow.sl (h : Ow w B sz v n xs) : Sl w B sz v n xs := by
  obtain ⟨A, c, e, hc, hl, ha, ho⟩ := h
  exact ⟨A, c, e, hc, hl, ha, fun hn => ho (by omega)⟩
theorem Ow.rd (h : Ow w B sz v n xs) : Rd w sz v n xs := h.sl.rd
theorem Ow.len (h : Ow w B sz v n xs) : xs.length = n * sz := h.rd.len
theorem Ow.weak (h : Ow w B sz v n xs) (hB : B' ≤ B) : Ow w B' sz v n xs := by
  obtain ⟨A, c, e, hc, hl, ha, ho⟩ := h
  exact ⟨A, c, e, hc, hl, ha, fun hn => by obtain ⟨g, off, e1, h1, r⟩ := ho hn; exact ⟨g, off, e1, by omega, r⟩⟩
theorem Ow.nil (w : World) (B sz : Nat) : Ow w B sz (.slice none 0 0) 0 [] := ⟨none, 0, rfl, Nat.le_refl _, by simp, fun h => absurd h (by omega), fun h => absurd h (by omega)⟩
theorem Ow.empty (w : World) (T : TypeId) (B sz : Nat) : Ow (w.alloc (.cells #[] T)) B sz (.slice (some ⟨w.heap.size, 0, none⟩) 0 0) 0 [] :=
  ⟨_, 0, rfl, by omega, by simp, fun h => absurd h (by omega), fun h => absurd h (by omega)⟩

theorem Ow.zero (w : World) (A : Option Addr) (B sz : Nat) : Ow w B sz (.slice A 0 0) 0 [] :=
  ⟨_, 0, rfl, by omega, by simp, fun h => absurd h (by omega), fun h => absurd h (by omega)⟩
theorem Ow.blk_lt (h : Ow w B sz v n xs) : ∀ k, blkOf v = some k → B ≤ k ∧ k < w.heap.size := by
  obtain ⟨A, c, rfl, hc, hl, ha, ho⟩ := h
  intro k hk
  cases A with
  | none => simp [blkOf] at hk
  | some a =>
    simp only [blkOf] at hk
    split at hk
    · rename_i hn
      obtain ⟨g, off, hA, hB, hg, _⟩ := ho hn
      cases hA
      cases hk
      exact ⟨hB, hg⟩
    · cases hk

theorem Ow.grown (h : Ow w B sz v n xs) {o : Option Nat} (hg : w.grownBy w' o) (hne : blkOf v = none ∨ blkOf v ≠ o) : Ow w' B sz v n xs := by
  have hsize := hg.size
  obtain ⟨A, c, rfl, hc, hl, ha, hs⟩ := h
  by_cases h0 : 0 < c
  · obtain ⟨g, off, rfl, hB, hb, hj⟩ := hs h0
    have hne' : some g ≠ o := by
      simp only [blkOf, if_pos h0] at hne
      rcases hne with h | h
      · cases h
      · exact h
    refine ⟨some ⟨g, off, none⟩, c, rfl, hc, hl, fun hn => ?_, fun _ => ⟨g, off, rfl, hB, by omega, fun j hjc => ?_⟩⟩
    · obtain ⟨ad, e, hb', hcell⟩ := ha hn
      cases e
      refine ⟨_, rfl, by omega, fun j u hu => ?_⟩
      rw [cell_grown hg (by rw [block_add]; exact hb') (by rw [block_add]; exact hne')]
      exact hcell j u hu
    · rw [cell_grown (p := ⟨g, off + j, none⟩) hg hb hne', frozen_grown (p := ⟨g, off + j, none⟩) hg hb hne']
      exact hj j hjc
  · exact ⟨A, c, rfl, hc, hl, fun hn => absurd hn (by omega), fun hn => absurd hn h0⟩
theorem Ow.below (h : Ow w B sz v n xs) (hb : Below w.heap.size w w') : Ow w' B sz v n xs := by
  obtain ⟨A, c, e, hc, hl, ha, ho⟩ := h
  refine ⟨A, c, e, hc, hl, ha.mono hb.size fun p hp => hb.cell hp, fun hn => ?_⟩
  obtain ⟨g, off, hA, hB, hg, hj⟩ := ho hn
  exact ⟨g, off, hA, hB, Nat.lt_of_lt_of_le hg hb.size, fun j hjc => by rw [hb.cell (p := ⟨g, off + j, none⟩) hg, hb.frozen (p := ⟨g, off + j, none⟩) hg]; exact hj j hjc⟩

/-- the cells of an own row of one cell an element -/
theorem Ow.at1 (h : Ow w B 1 v n xs) (hn : 0 < n) : ∃ g off c, v = .slice (some ⟨g, off, none⟩) n c ∧ n ≤ c ∧ B ≤ g ∧ g < w.heap.size ∧
    ∀ j, (hj : j < n) → w.cell? ⟨g, off + j, none⟩ = some (xs[j]'(by rw [h.len]; omega)) ∧ w.frozen? ⟨g, off + j, none⟩ = false := by
  have hlen := h.len
  obtain ⟨A, c, rfl, hc, hl, ha, ho⟩ := h
  obtain ⟨g, off, rfl, hB, hg, hj⟩ := ho (by omega)
  obtain ⟨ad, e, _, hcell⟩ := ha hn
  cases e
  refine ⟨g, off, c, rfl, hc, hB, hg, fun j hjn => ⟨?_, (hj j (by omega)).2⟩⟩
  have := hcell j xs[j] (List.getElem?_eq_getElem (by omega))
  rwa [Addr.add_lit] at this
theorem Ow.set {g off c k : Nat} (h : Ow w B 1 (.slice (some ⟨g, off, none⟩) n c) n xs) (hk : k < n) (x : Value) : Ow (w.setCell ⟨g, off + k, none⟩ x) B 1 (.slice (some ⟨g, off, none⟩) n c) n (xs.set k x) := by
  have hlen := h.len
  obtain ⟨A, c', e, hc, hl, ha, ho⟩ := h
  cases e
  obtain ⟨g', off', e, hB, hg, hj⟩ := ho (by omega)
  cases e
  refine ⟨_, _, rfl, hc, by simpa using hl, fun hn => ⟨_, rfl, by simpa using hg, fun j u hu => ?_⟩, fun _ => ⟨g, off, rfl, hB, by simpa using hg, fun j hjc => ⟨?_, ?_⟩⟩⟩
  · rw [Addr.add_lit]
    obtain ⟨ad, e, _, hcell⟩ := ha hn
    cases e
    have hjn : j < n := by have := (List.getElem?_eq_some_iff.1 hu).1; simp at this; omega
    rw [List.getElem?_set] at hu
    by_cases hjk : k = j
    · subst hjk
      rw [if_pos rfl, if_pos (by omega)] at hu
      cases hu
      obtain ⟨u0, hu0⟩ := Option.isSome_iff_exists.1 (hj k (by omega)).1
      rw [World.cell?_setCell_same (h := hu0)]
    · rw [if_neg hjk] at hu
      rw [World.cell?_setCell_other (h := by intro e; simp only [Addr.mk.injEq, true_and, and_true] at e; omega)]
      have := hcell j u hu
      rwa [Addr.add_lit] at this
  · by_cases hjk : k = j
    · subst hjk
      obtain ⟨u0, hu0⟩ := Option.isSome_iff_exists.1 (hj k (by omega)).1
      rw [World.cell?_setCell_same (h := hu0)]; rfl
    · rw [World.cell?_setCell_other (h := by intro e; simp only [Addr.mk.injEq, true_and, and_true] at e; omega)]
      exact (hj j hjc).1
  · rw [World.frozen?_setCell]
    exact (hj j hjc).2
theorem Ow.cell0 {g c k : Nat} (h : Ow w B 1 (.slice (some ⟨g, 0, none⟩) n c) n xs) (hk : k < n) :
    w.cell? ⟨g, k, none⟩ = some (xs[k]'(by rw [h.len]; omega)) ∧ w.frozen? ⟨g, k, none⟩ = false ∧ B ≤ g ∧ g < w.heap.size := by
  obtain ⟨g', off, c', e, hc, hB, hg, hj⟩ := h.at1 (by omega)
  cases e
  have := hj k hk
  rw [Nat.zero_add] at this
  exact ⟨this.1, this.2, hB, hg⟩
theorem Ow.cell {g off c k : Nat} (h : Ow w B 1 (.slice (some ⟨g, off, none⟩) n c) n xs) (hk : k < n) :
    w.cell? ⟨g, off + k, none⟩ = some (xs[k]'(by rw [h.len]; omega)) ∧ w.frozen? ⟨g, off + k, none⟩ = false ∧ B ≤ g ∧ g < w.heap.size := by
  obtain ⟨g', off', c', e, hc, hB, hg, hj⟩ := h.at1 (by omega)
  cases e
  have := hj k hk
  exact ⟨this.1, this.2, hB, hg⟩
theorem Ow.set0 {g c k : Nat} (h : Ow w B 1 (.slice (some ⟨g, 0, none⟩) n c) n xs) (hk : k < n) (x : Value) : Ow (w.setCell ⟨g, k, none⟩ x) B 1 (.slice (some ⟨g, 0, none⟩) n c) n (xs.set k x) := by
  have := h.set hk x
  rwa [Nat.zero_add] at this
theorem i64s_set (l : List Int) (k : Nat) (x : Int) : i64s (l.set k x) = (i64s l).set k (.int .i64 x) := by simp [i64s, List.map_set]
theorem i64s_get {l : List Int} {k : Nat} (h : k < l.length) : (i64s l)[k]'(by rw [i64s_len]; exact h) = .int .i64 l[k] := by simp [i64s]
theorem grownBy_setCell (w : World) (g i : Nat) (x : Value) : w.grownBy (w.setCell ⟨g, i, none⟩ x) (some g) :=
  ⟨rfl, rfl, rfl, by simp, fun k _ hk => Below.heap_setCell w ⟨g, i, none⟩ x k (fun e => hk (by rw [e]))⟩

theorem run_append_ow (t ty e : TypeId) (i : TypeInfo) (z : Value) (bytes : Nat) (ht : P.underlying t = some (.slice e)) (hi : P.info? e = some i) (hz : i.zero = some z)
    (hsize : i.size = sz) (hby : i.bytes = bytes) (hzs : z.cells.size = sz) (hs : Ow w B sz v n xs) (hr : Rd w sz x m news) (h1 : ∀ u ∈ news, u.oneCell' = true)
    (h63 : n + m ≤ maxLen) (hbytes : (n + m) * bytes ≤ 140737488355328) (hB : B ≤ w.heap.size) :
    ∃ v' w', (Builtin.append_ #[t, t] ty #[v, x]).run P w = .ok v' w' ∧ Ow w' B sz v' (n + m) (xs ++ news) ∧ w.grownBy w' (blkOf v) ∧ (blkOf v' = blkOf v ∨ ∃ g, blkOf v' = some g ∧ w.heap.size ≤ g) := by
  obtain ⟨v', w', hrun, h2, h3⟩ := run_append_sl (P := P) t ty e i z bytes ht hi hz hsize hby hzs hs.sl hr h1 h63 hbytes hB
  have hOw := hs
  subst hsize hby
  obtain ⟨A, c, rfl, hc, hl, ha, ho⟩ := hs
  obtain ⟨A', c', rfl, hc', hl', ha'⟩ := hr
  by_cases hm : m = 0
  · subst hm
    have hn0 : news = [] := List.eq_nil_of_length_eq_zero (by simpa using hl')
    subst hn0
    rw [append_none t ty e i ht hi A A' n c c' hc w] at hrun
    cases hrun
    exact ⟨_, _, append_none t ty e i ht hi A A' n c c' hc w, by simpa using hOw, World.grownBy.refl w _, .inl rfl⟩
  · obtain ⟨a, rfl, hab, hnews⟩ := ha' (by omega)
    by_cases hroom : n + m ≤ c
    · obtain ⟨g, off, rfl, hBg, hg, hj⟩ := ho (by omega)
      clear ho
      have hle : (n + m) * i.size ≤ c * i.size := Nat.mul_le_mul_right _ hroom
      rw [Nat.add_mul] at hle
      have hrun' := hrun
      have hroomrun := run_append_room_cells (P := P) w t ty e i ht hi g off n c a m c' news hl' hnews h1 hroom
        (fun j hjl => by have := (hj (n * i.size + j) (by omega)).1; rwa [← Nat.add_assoc] at this)
        (fun j hjl => by have := (hj (n * i.size + j) (by omega)).2; rwa [← Nat.add_assoc] at this)
      rw [hroomrun] at hrun'
      cases hrun'
      obtain ⟨A2, c2, e2, hc2, hl2, ha2, ho2⟩ := h2
      cases e2
      have e1 : blkOf (.slice (some ⟨g, off, none⟩) n c) = some g := by simp only [blkOf]; rw [if_pos (by omega)]
      have e3 : ownOf (.slice (some ⟨g, off, none⟩) n c) = some g := by simp only [ownOf]; rw [if_pos (by omega)]
      refine ⟨_, _, hroomrun, ⟨_, _, rfl, hc2, hl2, ha2, fun _ => ⟨g, off, rfl, hBg, by rw [setCells_size]; exact hg, fun j hjc => ⟨World_isSome_setCells g news _ w _ (hj j hjc).1, ?_⟩⟩⟩, ?_, .inl ?_⟩
      · rw [World.frozen?_setCells]; exact (hj j hjc).2
      · rw [e1, ← e3]; exact h3
      · rw [e1]; simp only [blkOf]; rw [if_pos (by omega)]
    · have h63' : ((n + m : Nat) : Int) ≤ 9223372036854775807 := by simp only [maxLen] at h63; omega
      have hlt : c < n + m := Nat.lt_of_not_le hroom
      have HO := Lib.hid ho
      clear ho
      have hgrow := append_grow_any t ty e i z ht hi hz w A n c xs hl ha a m c' news hl' hnews (fun hn => by
        subst hn
        apply Classical.byContradiction
        intro h
        obtain ⟨g, off, e1, _⟩ := HO.out (Nat.pos_of_ne_zero h)
        cases e1) hlt h63' (growslice_fits (by omega) hbytes)
      have hrun' := hrun
      rw [hgrow] at hrun'
      have hge := grownCap_ge w (n + m) c e
      have hsz : ∀ q : Nat, (xs.toArray ++ news.toArray ++ Builtin.zeroCells z.cells (q - (n + m))).size = (n + m) * i.size + (q - (n + m)) * i.size := fun q => by
        simp only [Array.size_append, List.size_toArray, size_zeroCells, hzs, hl, hl', Nat.add_mul]
      cases hrun'
      obtain ⟨A2, c2, e2, hc2, hl2, ha2, ho2⟩ := h2
      cases e2
      refine ⟨_, _, hgrow, ⟨_, _, rfl, hc2, hl2, ha2, fun _ => ⟨w.heap.size, 0, rfl, hB, by simp, fun j hj => ?_⟩⟩, ⟨rfl, rfl, rfl, by simp, fun k hk _ => (Below.heap_alloc w.drew _ k hk)⟩, .inr ⟨w.heap.size, ?_, Nat.le_refl _⟩⟩
      · rw [Nat.zero_add]
        have h := World.cell?_alloc_new (w := w.drew) (xs.toArray ++ news.toArray ++ Builtin.zeroCells z.cells (grownCap w (n + m) c e - (n + m))) e j
        have h' := World.frozen?_alloc_new (w := w.drew) (xs.toArray ++ news.toArray ++ Builtin.zeroCells z.cells (grownCap w (n + m) c e - (n + m))) e j
        rw [World.size_drew] at h h'
        refine ⟨?_, h'⟩
        rw [h]
        have : j < (xs.toArray ++ news.toArray ++ Builtin.zeroCells z.cells (grownCap w (n + m) c e - (n + m))).size := by
          rw [hsz, ← Nat.add_mul, show n + m + (grownCap w (n + m) c e - (n + m)) = grownCap w (n + m) c e by omega]; exact hj
        rw [Array.getElem?_eq_getElem this]
        rfl
      · simp only [blkOf]; rw [if_pos (by omega)]
end

section
variable {P : Program} {ops : Array Oper} {rest : List Oper} {o : Oper} {a : Act} {w : World} {Q : Exit → Act → World → Prop} {B sz n m : Nat} {v x : Value} {xs news : List Value}

/-- what append leaves: the value, the world, and where it stands -/
structure Appended (w w' : World) (B sz : Nat) (v v' : Value) (n : Nat) (xs : List Value) : Prop where
  ow : Ow w' B sz v' n xs
  below : Below B w w'
  grown : w.grownBy w' (blkOf v)
  blk : blkOf v' = blkOf v ∨ ∃ g, blkOf v' = some g ∧ w.heap.size ≤ g

theorem wpList_append_ow (hgd : o.guard = none) (s y : Operand) (t : TypeId) (ho : o.op = .call { callee := .builtin .append, args := #[s, y], argTypes := #[t, t] })
    (e : TypeId) (i : TypeInfo) (z : Value) (bytes : Nat) (ht : P.underlying t = some (.slice e)) (hi : P.info? e = some i) (hz : i.zero = some z) (hsize : i.size = sz) (hby : i.bytes = bytes) (hzs : z.cells.size = sz)
    (hs : Ow w B sz (a.eval s) n xs) (hr : Rd w sz (a.eval y) m news) (h1 : ∀ u ∈ news, u.oneCell' = true)
    (h63 : n + m ≤ maxLen) (hbytes : (n + m) * bytes ≤ 140737488355328) (hB : B ≤ w.heap.size)
    (h : ∀ v' w', Appended w w' B sz (a.eval s) v' (n + m) (xs ++ news) → wpList P ops Q rest (a.put o.dst v') w') : wpList P ops Q (o :: rest) a w := by
  refine wpList_plain hgd fun K hK => ?_
  obtain ⟨v', w', hrun, h2, h3, h4⟩ := run_append_ow (P := P) t o.type e i z bytes ht hi hz hsize hby hzs hs hr h1 h63 hbytes hB
  unfold Oper.wp execOp
  simp only [ho, resolve, invoke, builtin, Sem.run_bind, Sem.run_pure, Result.andThen_ok, List.map_toArray, List.map_cons, List.map_nil, hrun]
  exact hK _ _ (h v' w' ⟨h2, (Below.refl _ _).grown h3 hB (fun k hk => (hs.blk_lt k hk).1), h3, h4⟩)
end

/-- make of a row of numbers -/
theorem run_make_row {P : Program} (w : World) (t e : TypeId) (i : TypeInfo) (z : Value) (ht : P.underlying t = some (.slice e)) (hi : P.info? e = some i) (hz : i.zero = some z) (hz1 : z.cells = #[z]) (hs : i.size = 1)
    (n : Nat) (hbytes : i.bytes * n ≤ 281474976710656) (h63 : n ≤ maxLen) :
    (Instr.makeSlice t (.int .i64 (n : Int)) (.int .i64 (n : Int))).run P w = .ok (.slice (some ⟨w.heap.size, 0, none⟩) n n) (w.alloc (.cells (madeCells #[z] n) e)) := by
  have h63' : (n : Int) ≤ 9223372036854775807 := by simp only [maxLen] at h63; omega
  have hb' : (i.bytes : Int) * (n : Int) ≤ 281474976710656 := by
    have h : ((i.bytes * n : Nat) : Int) ≤ 281474976710656 := by omega
    rwa [Int.natCast_mul] at h
  have hr := run_make (P := P) w t e i z ht hi hz .i64 .i64 n n (by omega) (by omega) hb' h63'
  simpa [hz1, hs] using hr
theorem ow_made (w : World) (e : TypeId) (z : Value) (n B : Nat) (hB : B ≤ w.heap.size) : Ow (w.alloc (.cells (madeCells #[z] n) e)) B 1 (.slice (some ⟨w.heap.size, 0, none⟩) n n) n (List.replicate n z) := by
  have hc : ∀ j, (w.alloc (.cells (madeCells #[z] n) e)).cell? ⟨w.heap.size, j, none⟩ = (List.replicate n z)[j]? := fun j => by
    rw [World.cell?_alloc_new, ← toList_madeCells_one]
    simp
  refine ⟨_, _, rfl, Nat.le_refl _, by simp, fun hn => ⟨_, rfl, by simp, fun j u hu => ?_⟩, fun hn => ⟨_, 0, rfl, hB, by simp, fun j hj => ⟨?_, ?_⟩⟩⟩
  · rw [Addr.add_lit, Nat.zero_add, hc]; exact hu
  · rw [Nat.zero_add, hc]; simp; omega
  · rw [Nat.zero_add]; exact World.frozen?_alloc_new (w := w) (madeCells #[z] n) e j

/-- two slices that stand in blocks of their own each -/
def Ap (v u : Value) : Prop := ∀ k, blkOf v = some k → blkOf u = some k → False
theorem Ap.symm {v u : Value} (h : Ap v u) : Ap u v := fun k h1 h2 => h k h2 h1
theorem Ap.ne {v u : Value} (h : Ap v u) : blkOf v = none ∨ blkOf v ≠ blkOf u := by
  cases e : blkOf v with
  | none => exact .inl rfl
  | some k => exact .inr fun e2 => h k e e2.symm
theorem Ap.nil (v : Value) (a : Option Addr) : Ap v (.slice a 0 0) := fun k _ h2 => by cases a <;> simp [blkOf] at h2
theorem Ap.appended {w w' : World} {B sz sz' n m : Nat} {v v' u : Value} {xs ys : List Value} (h : Ap v u) (hu : Ow w B sz u n xs) (ha : Appended w w' B sz' v v' m ys) : Ap v' u := fun k h1 h2 => by
  rcases ha.blk with e | ⟨g, e, hg⟩
  · exact h k (e ▸ h1) h2
  · rw [e] at h1; cases h1
    have := (hu.blk_lt k h2).2
    omega
theorem Ow.kept {w w' : World} {B sz sz' n m : Nat} {v v' u : Value} {xs ys : List Value} (hu : Ow w B sz u n xs) (h : Ap u v) (ha : Appended w w' B sz' v v' m ys) : Ow w' B sz u n xs := hu.grown ha.grown h.ne
theorem Ow.stored {w : World} {B sz n m g i off c : Nat} {u x : Value} {xs : List Value} (hu : Ow w B sz u n xs) (h : Ap u (.slice (some ⟨g, off, none⟩) m c)) (hc : 0 < c) : Ow (w.setCell ⟨g, i, none⟩ x) B sz u n xs :=
  hu.grown (grownBy_setCell w g i x) (by have := h.ne; simpa [blkOf, hc] using this)
end Go.Proofs.YtcigbgpdikadpaaDoor
end

section
namespace Go.Proofs.YtcigbgpdikadpaaDoor
open Go.RowKit
set_option linter.unusedVariables false

/-- an object, and nine numbers -/
def ints (n : Nat) (f : Nat → Int) : Array Value := rowOf n fun i => .int .i64 (f i)
theorem ints_one (n : Nat) (f : Nat → Int) : (ints n f).all (·.oneCell') = true := rowOf_oneCell fun _ _ => rfl
theorem ints_get {n : Nat} (f : Nat → Int) {i : Nat} (h : i < n) : (ints n f)[i]? = some (.int .i64 (f i)) := rowOf_get _ h
theorem ints_size (n : Nat) (f : Nat → Int) : (ints n f).size = n := size_rowOf _ _
theorem ints_set (n : Nat) (f : Nat → Int) (i : Nat) (x : Int) : (ints n f).setIfInBounds i (.int .i64 x) = ints n (fun j => if j = i then x else f j) := by
  unfold ints; rw [rowOf_set]; congr 1; funext j; by_cases h : j = i <;> simp [h]
theorem ints_congr {n : Nat} {f g : Nat → Int} (h : ∀ i, i < n → f i = g i) : ints n f = ints n g := rowOf_congr fun i hi => by rw [h i hi]

def Ok18 (f : Nat → Int) (n : Nat) : Prop := ∀ i, i < n → -9223372036854775808 ≤ f i ∧ f i ≤ 9223372036854775807
end Go.Proofs.YtcigbgpdikadpaaDoor
end

section
namespace Go.Proofs.YtcigbgpdikadpaaDoor
open Go.RowKit
set_option linter.unusedVariables false

inductive Fact where
  | row (b : Nat) (cs : Array Value) (T : TypeId)
  | rd (sz : Nat) (v : Value) (n : Nat) (xs : List Value)
  | ow (sz : Nat) (v : Value) (n : Nat) (xs : List Value)
  | gen (p : World → Prop) (q : Nat → Prop)
  | ogen (p : World → Prop) (q : Nat → Prop)

def rdAt : Value → Nat → Prop
  | .slice (some a) n _, k => 0 < n ∧ k = a.block
  | _, _ => False
/-- the blocks it stands in -/
def Fact.at : Fact → Nat → Prop
  | .row b _ _, k => k = b
  | .rd _ v _ _, k => rdAt v k
  | .ow _ v _ _, k => blkOf v = some k
  | .gen _ q, k => q k
  | .ogen _ q, k => q k
/-- may it be written? -/
def Fact.wr : Fact → Bool
  | .row .. | .ow .. | .ogen .. => true
  | _ => false
/-- a fact that stands as long as its blocks do -/
structure Firm (p : World → Prop) (q : Nat → Prop) : Prop where
  keeps : ∀ w1 w2 o, p w1 → w1.grownBy w2 o → (∀ k, q k → some k ≠ o) → p w2
  lt : ∀ w1, p w1 → ∀ k, q k → k < w1.heap.size
def Fact.holds (B : Nat) (w : World) : Fact → Prop
  | .row b cs T => Row w b cs T
  | .rd sz v n xs => Rd w sz v n xs
  | .ow sz v n xs => Ow w B sz v n xs
  | .gen p q => p w ∧ Firm p q
  | .ogen p q => p w ∧ Firm p q

theorem Fact.lt {B : Nat} {w : World} {f : Fact} (h : f.holds B w) {k : Nat} (hk : f.at k) : k < w.heap.size := by
  cases f with
  | row b cs T => cases hk; exact Row.lt h
  | rd sz v n xs =>
    obtain ⟨A, c, rfl, hc, hl, ha⟩ := h
    cases A with
    | none => exact hk.elim
    | some ad =>
      obtain ⟨hn, rfl⟩ := hk
      obtain ⟨ad', e, hlt, _⟩ := ha hn
      cases e
      exact hlt
  | ow sz v n xs => exact (Ow.blk_lt h k hk).2
  | gen p q => exact h.2.lt w h.1 k hk
  | ogen p q => exact h.2.lt w h.1 k hk
theorem Fact.keeps {B : Nat} {w w' : World} {f : Fact} {o : Option Nat} (h : f.holds B w) (hg : w.grownBy w' o) (hne : ∀ k, f.at k → some k ≠ o) : f.holds B w' := by
  have hlt := fun k => Fact.lt h (k := k)
  cases f with
  | row b cs T => exact (hg.block b (hlt b rfl) (hne b rfl)).trans h
  | rd sz v n xs =>
    obtain ⟨A, c, rfl, hc, hl, ha⟩ := h
    refine ⟨A, c, rfl, hc, hl, fun hn => ?_⟩
    obtain ⟨ad, rfl, hb, hcell⟩ := ha hn
    refine ⟨ad, rfl, Nat.lt_of_lt_of_le hb hg.size, fun j u hu => ?_⟩
    rw [cell_grown hg (by rw [block_add]; exact hb) (by rw [block_add]; exact hne _ ⟨hn, rfl⟩)]
    exact hcell j u hu
  | ow sz v n xs =>
    refine Ow.grown h hg ?_
    cases e : blkOf v with
    | none => exact .inl rfl
    | some k => exact .inr (hne k e)
  | gen p q => exact ⟨h.2.keeps w w' o h.1 hg hne, h.2⟩
  | ogen p q => exact ⟨h.2.keeps w w' o h.1 hg hne, h.2⟩

/-- what a call that began in w0 knows in w; the block o of what was there before may be another -/
structure Mem (o : Option Nat) (w0 w : World) (L : List Fact) : Prop where
  grown : w0.grownBy w o
  holds : ∀ f ∈ L, f.holds w0.heap.size w
  own : ∀ f ∈ L, f.wr = true → ∀ k, f.at k → w0.heap.size ≤ k ∨ o = some k
  apart : L.Pairwise fun f g => (f.wr || g.wr) = true → ∀ k, f.at k → g.at k → False

theorem grownBy_below {w w' : World} (h : Below w.heap.size w w') : w.grownBy w' none := ⟨h.os, h.tape, h.output, h.size, fun k hk _ => h.block k hk⟩
theorem below_grownBy {w w' : World} (h : w.grownBy w' none) : Below w.heap.size w w' := ⟨h.os, h.tape, h.output, h.size, fun k hk => h.block k hk (by simp)⟩
theorem grownBy_some {w w' : World} {o : Option Nat} (h : w.grownBy w' none) : w.grownBy w' o := ⟨h.os, h.tape, h.output, h.size, fun k hk _ => h.block k hk (by simp)⟩
theorem grownBy_trans {a b c : World} {o o' : Option Nat} (h : a.grownBy b o) (k : b.grownBy c o') (ho : ∀ j, o' = some j → a.heap.size ≤ j ∨ o = some j) : a.grownBy c o :=
  ⟨k.os.trans h.os, k.tape.trans h.tape, k.output.trans h.output, Nat.le_trans h.size k.size, fun i hi hne => (k.block i (Nat.lt_of_lt_of_le hi h.size) (fun e => by
    rcases ho i e.symm with h1 | h1
    · omega
    · exact hne h1.symm)).trans (h.block i hi hne)⟩

/-- f is the k-th of L -/
inductive Sel : List Fact → Nat → Fact → Prop where
  | head (f : Fact) (L : List Fact) : Sel (f :: L) 0 f
  | tail (g : Fact) {f : Fact} {L : List Fact} {k : Nat} (h : Sel L k f) : Sel (g :: L) (k + 1) f
theorem Sel.get {L : List Fact} {k : Nat} {f : Fact} (h : Sel L k f) : L[k]? = some f := by
  induction h with
  | head => rfl
  | tail g h ih => simpa using ih

/-- a slice that can be read is among what is known -/
inductive RdIn (sz : Nat) (v : Value) (n : Nat) (xs : List Value) : List Fact → Prop where
  | rd (L : List Fact) : RdIn sz v n xs (.rd sz v n xs :: L)
  | ow (L : List Fact) : RdIn sz v n xs (.ow sz v n xs :: L)
  | tail (g : Fact) {L : List Fact} (h : RdIn sz v n xs L) : RdIn sz v n xs (g :: L)
theorem RdIn.mem {sz n : Nat} {v : Value} {xs : List Value} {L : List Fact} (h : RdIn sz v n xs L) : Fact.rd sz v n xs ∈ L ∨ Fact.ow sz v n xs ∈ L := by
  induction h with
  | rd => exact .inl (List.mem_cons_self ..)
  | ow => exact .inr (List.mem_cons_self ..)
  | tail g h ih => exact ih.imp (List.mem_cons_of_mem _) (List.mem_cons_of_mem _)

namespace Mem
variable {o : Option Nat} {w0 w w' : World} {L : List Fact} {f g : Fact}
theorem start (w : World) : Mem o w w [] := ⟨World.grownBy.refl w _, by simp, by simp, List.Pairwise.nil⟩
theorem below (h : Mem none w0 w L) : Below w0.heap.size w0 w := below_grownBy h.grown
theorem size (h : Mem o w0 w L) : w0.heap.size ≤ w.heap.size := h.grown.size
/-- nothing that is known is written -/
theorem keep (h : Mem o w0 w L) (hb : Below w.heap.size w w') : Mem o w0 w' L :=
  ⟨grownBy_trans h.grown (grownBy_below hb) (by simp), fun f hf => Fact.keeps (h.holds f hf) (grownBy_below hb) (by simp), h.own, h.apart⟩
theorem drew (h : Mem o w0 w L) : Mem o w0 w.drew L := h.keep (Below.refl _ _).drew
/-- one fact more: of what was there before the call -/
theorem addOld (h : Mem o w0 w L) (hf : f.holds w0.heap.size w) (hw : f.wr = false) (hlt : ∀ k, f.at k → k < w0.heap.size ∧ o ≠ some k) : Mem o w0 w (f :: L) :=
  ⟨h.grown, fun g hg => by rcases List.mem_cons.1 hg with rfl | hg; exact hf; exact h.holds g hg, fun g hg hw' => by
    rcases List.mem_cons.1 hg with rfl | hg
    · rw [hw] at hw'; cases hw'
    · exact h.own g hg hw',
   List.pairwise_cons.2 ⟨fun g hg hw' k h1 h2 => by
    rw [hw, Bool.false_or] at hw'
    rcases h.own g hg hw' k h2 with h3 | h3
    · have := (hlt k h1).1; omega
    · exact (hlt k h1).2 h3, h.apart⟩⟩
/-- one fact more: of new blocks -/
theorem addNew (h : Mem o w0 w L) (hb : Below w.heap.size w w') (hf : f.holds w0.heap.size w') (hge : ∀ k, f.at k → w.heap.size ≤ k) : Mem o w0 w' (f :: L) :=
  have hk := h.keep hb
  ⟨hk.grown, fun g hg => by rcases List.mem_cons.1 hg with rfl | hg; exact hf; exact hk.holds g hg, fun g hg hw' k h1 => by
    rcases List.mem_cons.1 hg with rfl | hg
    · exact .inl (Nat.le_trans h.size (hge k h1))
    · exact h.own g hg hw' k h1,
   List.pairwise_cons.2 ⟨fun g hg _ k h1 h2 => by
    have := hge k h1
    have := Fact.lt (h.holds g hg) h2
    omega, hk.apart⟩⟩
/-- one fact more: it stands in no block that may be written -/
theorem addSame (h : Mem o w0 w L) (hf : f.holds w0.heap.size w) (hw : f.wr = false) (hne : ∀ g ∈ L, g.wr = true → ∀ k, f.at k → g.at k → False) : Mem o w0 w (f :: L) :=
  ⟨h.grown, fun g hg => by rcases List.mem_cons.1 hg with rfl | hg; exact hf; exact h.holds g hg, fun g hg hw' => by
    rcases List.mem_cons.1 hg with rfl | hg
    · rw [hw] at hw'; cases hw'
    · exact h.own g hg hw',
   List.pairwise_cons.2 ⟨fun g hg hw' k h1 h2 => by
    rw [hw, Bool.false_or] at hw'
    exact hne g hg hw' k h1 h2, h.apart⟩⟩
/-- a fact that says the same of the same blocks, or of some of them -/
theorem addPart (h : Mem o w0 w L) (hg : g ∈ L) (hgw : g.wr = false) (hf : f.holds w0.heap.size w) (hw : f.wr = false) (hat : ∀ k, f.at k → g.at k) : Mem o w0 w (f :: L) := by
  refine h.addSame hf hw fun g' hg' hw' k h1 h2 => ?_
  have hp := List.pairwise_iff_getElem.1 h.apart
  obtain ⟨i, hi, rfl⟩ := List.getElem_of_mem hg
  obtain ⟨j, hj, rfl⟩ := List.getElem_of_mem hg'
  rcases Nat.lt_trichotomy i j with hij | rfl | hij
  · exact hp i j hi hj hij (by simp [hw']) k (hat k h1) h2
  · rw [hgw] at hw'; cases hw'
  · exact hp j i hj hi hij (by simp [hw']) k h2 (hat k h1)
theorem get (h : Mem o w0 w L) (hf : f ∈ L) : f.holds w0.heap.size w := h.holds f hf
theorem row {b : Nat} {cs : Array Value} {T : TypeId} (h : Mem o w0 w L) (hf : .row b cs T ∈ L) : Row w b cs T := h.holds _ hf
theorem rd {sz n : Nat} {v : Value} {xs : List Value} (h : Mem o w0 w L) (hf : .rd sz v n xs ∈ L) : Rd w sz v n xs := h.holds _ hf
theorem ow {sz n : Nat} {v : Value} {xs : List Value} (h : Mem o w0 w L) (hf : .ow sz v n xs ∈ L) : Ow w w0.heap.size sz v n xs := h.holds _ hf
theorem rdi {sz n : Nat} {v : Value} {xs : List Value} (h : Mem o w0 w L) (hf : RdIn sz v n xs L) : Rd w sz v n xs := by
  rcases hf.mem with hf | hf
  · exact h.rd hf
  · exact (h.ow hf).rd
/-- the order of what is known, or less of it -/
theorem sub {L' : List Fact} (h : Mem o w0 w L) (hs : List.Sublist L' L) : Mem o w0 w L' :=
  ⟨h.grown, fun f hf => h.holds f (hs.subset hf), fun f hf => h.own f (hs.subset hf), h.apart.sublist hs⟩
theorem addOw {sz n : Nat} {v : Value} {xs : List Value} (h : Mem o w0 w L) (hb : Below w.heap.size w w') (ho : Ow w' w.heap.size sz v n xs) : Mem o w0 w' (.ow sz v n xs :: L) :=
  h.addNew hb (ho.weak h.size) (fun k hk => (ho.blk_lt k hk).1)
theorem addRd {sz n : Nat} {v : Value} {xs : List Value} (h : Mem o w0 w L) (hb : Below w.heap.size w w') (ho : Rd w' sz v n xs) (hf : ∀ k, rdAt v k → w.heap.size ≤ k) : Mem o w0 w' (.rd sz v n xs :: L) :=
  h.addNew hb ho hf
/-- an argument's slice -/
theorem addArg {sz n : Nat} {v : Value} {xs : List Value} (h : Mem o w0 w L) (ha : Rd w0 sz v n xs) (ho : ∀ k, o = some k → ¬ rdAt v k) : Mem o w0 w (.rd sz v n xs :: L) := by
  have hlt : ∀ k, (Fact.rd sz v n xs).at k → k < w0.heap.size := fun k hk => Fact.lt (B := 0) (f := .rd sz v n xs) ha hk
  refine h.addOld (Fact.keeps (B := 0) (f := .rd sz v n xs) ha h.grown (fun k hk e => ho k e.symm hk)) rfl fun k hk => ⟨hlt k hk, fun e => ho k e hk⟩
theorem addArg0 {sz n : Nat} {v : Value} {xs : List Value} (h : Mem none w0 w L) (ha : Rd w0 sz v n xs) : Mem none w0 w (.rd sz v n xs :: L) := h.addArg ha (by simp)
/-- an empty slice, to be appended to -/
theorem addNil (sz : Nat) (h : Mem o w0 w L) : Mem o w0 w (.ow sz (.slice none 0 0) 0 [] :: L) := h.addNew (Below.refl _ _) (Ow.nil _ _ _) (fun k hk => by cases hk)
/-- the first behind all others -/
theorem rot {f : Fact} (h : Mem o w0 w (f :: L)) : Mem o w0 w (L ++ [f]) := by
  obtain ⟨hf, hp⟩ := List.pairwise_cons.1 h.apart
  refine ⟨h.grown, fun g hg => ?_, fun g hg => ?_, List.pairwise_append.2 ⟨hp, List.pairwise_singleton _ _, fun g hg f' hf' hw k h1 h2 => ?_⟩⟩
  · rcases List.mem_append.1 hg with hg | hg
    · exact h.holds g (List.mem_cons_of_mem _ hg)
    · rw [List.mem_singleton.1 hg]; exact h.holds f List.mem_cons_self
  · rcases List.mem_append.1 hg with hg | hg
    · exact h.own g (List.mem_cons_of_mem _ hg)
    · rw [List.mem_singleton.1 hg]; exact h.own f List.mem_cons_self
  · rw [List.mem_singleton.1 hf'] at hw h2
    exact hf g hg (by rw [Bool.or_comm]; exact hw) k h2 h1
theorem tail (h : Mem o w0 w (f :: L)) : Mem o w0 w L := h.sub (List.sublist_cons_self _ _)
/-- one that may be written is another -/
theorem upd (i : Nat) (h : Mem o w0 w L) (hi : L[i]? = some f) {ob : Option Nat} (hg : w.grownBy w' ob) (hob : ∀ k, ob = some k → f.at k ∧ f.wr = true) {f' : Fact} (hf' : f'.holds w0.heap.size w') (hw : f'.wr = f.wr)
    (hat : ∀ k, f'.at k → f.at k ∨ w.heap.size ≤ k) : Mem o w0 w' (L.set i f') := by
  obtain ⟨hi', rfl⟩ := List.getElem?_eq_some_iff.1 hi
  have hown : ∀ k, ob = some k → w0.heap.size ≤ k ∨ o = some k := fun k hk => h.own _ (List.getElem_mem _) (hob k hk).2 k (hob k hk).1
  have hp := List.pairwise_iff_getElem.1 h.apart
  have hsome : ∀ j (hj : j < L.length), (L.set i f')[j]? = some (if i = j then f' else L[j]) := fun j hj => by
    rw [List.getElem?_set]
    by_cases e : i = j
    · subst e; simp [hj]
    · simp [e, hj]
  have hmem : ∀ g ∈ L.set i f', g = f' ∨ ∃ j, ∃ hj : j < L.length, j ≠ i ∧ g = L[j] := fun g hg => by
    obtain ⟨j, hj, rfl⟩ := List.getElem_of_mem hg
    have hj' : j < L.length := by simpa using hj
    have := hsome j hj'
    rw [List.getElem?_eq_getElem hj, Option.some.injEq] at this
    by_cases e : i = j
    · left; rw [this, if_pos e]
    · right; exact ⟨j, hj', fun h => e h.symm, by rw [this, if_neg e]⟩
  have hno : ∀ j (hj : j < L.length), j ≠ i → ∀ k, (f'.wr || L[j].wr) = true → f'.at k → L[j].at k → False := fun j hj hne k hw' h1 h2 => by
    rcases hat k h1 with h3 | h3
    · rw [hw] at hw'
      rcases Nat.lt_or_ge i j with hij | hij
      · exact hp i j hi' hj hij hw' k h3 h2
      · exact hp j i hj hi' (by omega) (by rw [Bool.or_comm]; exact hw') k h2 h3
    · have := Fact.lt (h.holds _ (List.getElem_mem hj)) h2
      omega
  refine ⟨grownBy_trans h.grown hg hown, fun g hg' => ?_, fun g hg' hw' k hk => ?_, ?_⟩
  · rcases hmem g hg' with rfl | ⟨j, hj, hne, rfl⟩
    · exact hf'
    · refine Fact.keeps (h.holds _ (List.getElem_mem hj)) hg fun k hk e => ?_
      obtain ⟨h1, h2⟩ := hob k e.symm
      rcases Nat.lt_or_ge i j with hij | hij
      · exact hp i j hi' hj hij (by rw [h2]; rfl) k h1 hk
      · exact hp j i hj hi' (by omega) (by rw [h2, Bool.or_true]) k hk h1
  · rcases hmem g hg' with rfl | ⟨j, hj, hne, rfl⟩
    · rcases hat k hk with h1 | h1
      · exact h.own _ (List.getElem_mem hi') (hw ▸ hw') k h1
      · exact .inl (Nat.le_trans h.size h1)
    · exact h.own _ (List.getElem_mem hj) hw' k hk
  · rw [List.pairwise_iff_getElem]
    intro a b ha hb hab hw' k h1 h2
    have ha' : a < L.length := by simpa using ha
    have hb' : b < L.length := by simpa using hb
    have e1 := hsome a ha'
    have e2 := hsome b hb'
    rw [List.getElem?_eq_getElem ha, Option.some.injEq] at e1
    rw [List.getElem?_eq_getElem hb, Option.some.injEq] at e2
    rw [e1] at hw' h1
    rw [e2] at hw' h2
    by_cases ea : i = a
    · rw [if_pos ea] at hw' h1
      have eb : i ≠ b := by omega
      rw [if_neg eb] at hw' h2
      exact hno b hb' (by omega) k hw' h1 h2
    · rw [if_neg ea] at hw' h1
      by_cases eb : i = b
      · rw [if_pos eb] at hw' h2
        exact hno a ha' (by omega) k (by rw [Bool.or_comm]; exact hw') h2 h1
      · rw [if_neg eb] at hw' h2
        exact hp a b ha' hb' hab hw' k h1 h2
end Mem

theorem grownBy_setRow (w : World) (b : Nat) (cs : Array Value) : w.grownBy (w.setRow b cs) (some b) :=
  ⟨rfl, rfl, rfl, by simp [World.setRow], fun j _ hne => heap_setRow_other _ _ _ _ (fun e => hne (by rw [e]))⟩

/-- what a type's elements take -/
def elemInfoB (P : Program) (e : TypeId) (sz bytes : Nat) : Bool := match P.info? e with
  | some i => i.size == sz && i.bytes == bytes && (match i.zero with | some z => z.cells.size == sz | none => false)
  | none => false
def ElemInfo (P : Program) (e : TypeId) (sz bytes : Nat) : Prop := ∃ i z, P.info? e = some i ∧ i.zero = some z ∧ i.size = sz ∧ i.bytes = bytes ∧ z.cells.size = sz
theorem elemInfo_of {P : Program} {e : TypeId} {sz bytes : Nat} (h : elemInfoB P e sz bytes = true) : ElemInfo P e sz bytes := by
  unfold elemInfoB at h
  cases hi : P.info? e with
  | none => simp [hi] at h
  | some i =>
    rw [hi] at h
    simp only [Bool.and_eq_true, beq_iff_eq] at h
    obtain ⟨⟨h1, h2⟩, h3⟩ := h
    cases hz : i.zero with
    | none => simp [hz] at h3
    | some z =>
      rw [hz] at h3
      exact ⟨i, z, hi, hz, h1, h2, by simpa using h3⟩
/-- the place p cells behind a slice's first one -/
def pt (A : Option Addr) : Nat → Value
  | 0 => .pointer (some (A.getD ⟨0, 0, none⟩))
  | p + 1 => .pointer (some ((A.getD ⟨0, 0, none⟩).add (p + 1)))
theorem pt_eq (A : Option Addr) (p : Nat) : pt A p = .pointer (some ((A.getD ⟨0, 0, none⟩).add p)) := by
  cases p
  · simp [pt, Addr.add]
  · rfl

section
variable {P : Program} {ops : Array Oper} {rest : List Oper} {o : Oper} {a : Act} {w0 w : World} {Q : Exit → Act → World → Prop} {ob : Option Nat} {L : List Fact} {ρ : Operand → Value}

theorem run_loadVar_rowC (w : World) (ad : Addr) (ty : TypeId) (cs : Array Value) (d : TypeDesc) (hu : P.underlying ty = some d) (hd : d.isRow = true) (hi : (P.info? ty).map (·.size) = some cs.size) (hc : ∀ j v, cs[j]? = some v → w.cell? (ad.add j) = some v) :
    (loadVar ty ad).run P w = .ok (.agg cs) w := by
  have hl : (loadCells ad cs.toList.length).run P w = .ok cs.toList.toArray w := run_loadCells_list (P := P) w ad cs.toList (fun j v hv => hc j v (by simpa using hv))
  cases hq : P.info? ty with
  | none => simp [hq] at hi
  | some i =>
    have hs : i.size = cs.size := by simpa [hq] using hi
    have hagg : (isAgg ty).run P w = .ok true w := by
      unfold isAgg
      rw [Sem.run_bind, run_underlying hu w]
      cases d <;> simp_all
    simp only [Array.length_toList, Array.toArray_toList] at hl
    simp [loadVar, Sem.run_bind, hagg, sizeOf, typeInfo, hq, hs, hl]
/-- an operation that only yields a value -/
theorem M_of (v : Value) (hw : Region.wanted o (yielded ops a.tmps) = true) (hr : (execOp a.eval o).run P w = .ok (.value v) w) (h : wpList P ops Q rest (a.put o.dst v) w) : wpList P ops Q (o :: rest) a w := by
  refine wpList_wanted hw fun K hK => ?_
  unfold Oper.wp
  simp only [hr, Oper.upon]
  exact hK _ _ h
theorem E_of {os : List Oper} {Q : Act → World → Prop} {i : Nat} {rest : List (Bool × Nat)} {o : Oper} (v : Value) (ho : nth os i = some o) (hw : Region.wanted o (yielded os.toArray a.tmps) = true)
    (hr : ∀ w', Below w.heap.size w w' → (execOp a.eval o).run P w' = .ok (.value v) w') (h : wpE P os.toArray Q rest (a.put o.dst v) w) : wpE P os.toArray Q ((true, i) :: rest) a w := by
  refine wpE_quiet ho ?_
  simp only [wpQuiet]
  rw [if_pos hw]
  refine ⟨v, ?_, h⟩
  rintro w' ⟨x', rfl⟩
  unfold Oper.quietAt
  rw [show later w x' = x'.to from rfl, hr _ x'.below]
  exact ⟨rfl, rfl⟩

theorem R_row (HM : Mem ob w0 w L) {b : Nat} {cs : Array Value} {T : TypeId} {ty : TypeId} {x : Operand} {d : TypeDesc} (ho : o.op = .load ty x) (hx : ρ x = .pointer (some ⟨b, 0, none⟩)) (hf : .row b cs T ∈ L)
    (hu : P.underlying ty = some d) (hd : d.isRow = true) (hi : (P.info? ty).map (·.size) = some cs.size) : (execOp ρ o).run P w = .ok (.value (.agg cs)) w := by
  have hl := run_loadVar_rowC (P := P) w ⟨b, 0, none⟩ ty cs d hu hd hi (HM.row hf).addr
  unfold execOp
  simp only [ho, hx, Instr.loadAt, Instr.sureAddr, Sem.run_bind, Sem.run_pure, Result.andThen_ok, hl]
theorem run_loadVar_one (w : World) (ad : Addr) (ty : TypeId) (v : Value) (d : TypeDesc) (hu : P.underlying ty = some d) (hd : d.isRow = false) (hc : w.cell? ad = some v) : (loadVar ty ad).run P w = .ok v w := by
  have hagg : (isAgg ty).run P w = .ok false w := by
    unfold isAgg
    rw [Sem.run_bind, run_underlying hu w]
    cases d <;> simp_all [TypeDesc.isRow]
  simp [loadVar, Sem.run_bind, hagg, load, Sem.run, hc]
theorem R_cell (HM : Mem ob w0 w L) {b i : Nat} {cs : Array Value} {T : TypeId} {ty : TypeId} {x : Operand} {d : TypeDesc} {v : Value} (ho : o.op = .load ty x) (hx : ρ x = .pointer (some ⟨b, i, none⟩)) (hf : .row b cs T ∈ L)
    (hv : cs[i]? = some v) (hu : P.underlying ty = some d) (hd : d.isRow = false) : (execOp ρ o).run P w = .ok (.value v) w := by
  have hl := run_loadVar_one (P := P) w ⟨b, i, none⟩ ty v d hu hd ((HM.row hf).cell hv)
  unfold execOp
  simp only [ho, hx, Instr.loadAt, Instr.sureAddr, Sem.run_bind, Sem.run_pure, Result.andThen_ok, hl]
/-- a part of a row that is itself an array or a struct -/
theorem R_sub (HM : Mem ob w0 w L) {b i : Nat} {cs : Array Value} {T : TypeId} {ty : TypeId} {x : Operand} {d : TypeDesc} (cs' : Array Value) (ho : o.op = .load ty x) (hx : ρ x = .pointer (some ⟨b, i, none⟩)) (hf : .row b cs T ∈ L)
    (hv : ∀ j v, cs'[j]? = some v → cs[i + j]? = some v) (hu : P.underlying ty = some d) (hd : d.isRow = true) (hi : (P.info? ty).map (·.size) = some cs'.size) : (execOp ρ o).run P w = .ok (.value (.agg cs')) w := by
  have hl := run_loadVar_rowC (P := P) w ⟨b, i, none⟩ ty cs' d hu hd hi (fun j v hj => by rw [Addr.add_lit]; exact (HM.row hf).cell (hv j v hj))
  unfold execOp
  simp only [ho, hx, Instr.loadAt, Instr.sureAddr, Sem.run_bind, Sem.run_pure, Result.andThen_ok, hl]

theorem rd_cell {w : World} {sz n c p : Nat} {A : Option Addr} {xs : List Value} {v : Value} (h : Rd w sz (.slice A n c) n xs) (hv : xs[p]? = some v) : ∃ ad, A = some ad ∧ w.cell? (ad.add p) = some v := by
  obtain ⟨A', c', e, hc, hl, ha⟩ := h
  cases e
  have hp := (List.getElem?_eq_some_iff.1 hv).1
  have hn : 0 < n := by
    rcases Nat.eq_zero_or_pos n with h0 | h0
    · rw [hl, h0, Nat.zero_mul] at hp; omega
    · exact h0
  obtain ⟨ad, rfl, _, hcell⟩ := ha hn
  exact ⟨ad, rfl, hcell p v hv⟩
/-- a slice's element: its place -/
theorem R_index {sz n c p : Nat} {A : Option Addr} {xs : List Value} (hr : Rd w sz (.slice A n c) n xs) {t e : TypeId} {x ix : Operand} {i : Int} (ho : o.op = .indexAddr t x ix) (hx : ρ x = .slice A n c) (hix : ρ ix = .int .i64 i)
    (h0 : 0 ≤ i) (h1 : i < n) (ht : P.underlying t = some (.slice e)) (hs : (P.info? e).map (·.size) = some sz) (hp : i.toNat * sz = p) : (execOp ρ o).run P w = .ok (.value (pt A p)) w := by
  obtain ⟨A', c', e', hc, hl, ha⟩ := hr
  cases e'
  obtain ⟨ad, rfl, _, _⟩ := ha (by omega)
  subst hp
  cases hq : P.info? e with
  | none => simp [hq] at hs
  | some ii =>
    have hsz : ii.size = sz := by simpa [hq] using hs
    unfold execOp
    simp [ho, hx, hix, Instr.indexAt, asIntOf, Sem.run_bind, run_underlying ht, h0, h1, sizeOf, typeInfo, hq, hsz, pt_eq]
theorem R_index1 {n c : Nat} {A : Option Addr} {xs : List Value} (hr : Rd w 1 (.slice A n c) n xs) {t e : TypeId} {x ix : Operand} {i : Int} (ho : o.op = .indexAddr t x ix) (hx : ρ x = .slice A n c) (hix : ρ ix = .int .i64 i)
    (h0 : 0 ≤ i) (h1 : i < n) (ht : P.underlying t = some (.slice e)) (hs : (P.info? e).map (·.size) = some 1) : (execOp ρ o).run P w = .ok (.value (pt A i.toNat)) w :=
  R_index hr ho hx hix h0 h1 ht hs (Nat.mul_one _)
/-- a field of what stands there -/
theorem R_field {A : Option Addr} {p k : Nat} {s : TypeId} {x : Operand} {fs : Array Field} {f : Field} (ho : o.op = .fieldAddr s x k) (hx : ρ x = pt A p) (hs : P.underlying s = some (.struct fs)) (hf : fs[k]? = some f)
    (hz : (P.info? f.type).map (fun i => i.size == 0) = some false) : (execOp ρ o).run P w = .ok (.value (pt A (p + f.offset))) w := by
  cases hq : P.info? f.type with
  | none => simp [hq] at hz
  | some ii =>
    have hsz : ¬ ii.size = 0 := by simpa [hq] using hz
    unfold execOp
    simp [ho, hx, Instr.fieldAt, Instr.sureAddr, pt_eq, Sem.run_bind, run_underlying hs, hf, fieldPlace, sizeOf, typeInfo, hq, hsz, add_add']
/-- an element of an array that stands there -/
theorem R_elem {A : Option Addr} {p q sz m : Nat} {t e : TypeId} {x ix : Operand} {i : Int} (ho : o.op = .indexAddr t x ix) (hx : ρ x = pt A p) (hix : ρ ix = .int .i64 i)
    (h0 : 0 ≤ i) (h1 : i < m) (ht : P.underlying t = some (.array m e)) (hs : (P.info? e).map (·.size) = some sz) (hq : i.toNat * sz = q) : (execOp ρ o).run P w = .ok (.value (pt A (p + q))) w := by
  subst hq
  cases hq : P.info? e with
  | none => simp [hq] at hs
  | some ii =>
    have hsz : ii.size = sz := by simpa [hq] using hs
    unfold execOp
    simp [ho, hx, hix, Instr.indexAt, Instr.sureAddr, pt_eq, asIntOf, Sem.run_bind, run_underlying ht, h0, h1, sizeOf, typeInfo, hq, hsz, add_add']
/-- an element of one cell -/
theorem R_at {sz n c p : Nat} {A : Option Addr} {xs : List Value} (hr : Rd w sz (.slice A n c) n xs) {ty : TypeId} {x : Operand} {d : TypeDesc} {v : Value} (ho : o.op = .load ty x) (hx : ρ x = pt A p)
    (hv : xs[p]? = some v) (hu : P.underlying ty = some d) (hd : d.isRow = false) : (execOp ρ o).run P w = .ok (.value v) w := by
  obtain ⟨ad, rfl, hc⟩ := rd_cell hr hv
  have hl := run_loadVar_one (P := P) w (ad.add p) ty v d hu hd hc
  unfold execOp
  simp only [ho, hx, pt_eq, Option.getD_some, Instr.loadAt, Instr.sureAddr, Sem.run_bind, Sem.run_pure, Result.andThen_ok, hl]
/-- an element of many -/
theorem R_ats {sz n c p : Nat} {A : Option Addr} {xs : List Value} (hr : Rd w sz (.slice A n c) n xs) {ty : TypeId} {x : Operand} {d : TypeDesc} (cs : Array Value) (ho : o.op = .load ty x) (hx : ρ x = pt A p)
    (hv : ∀ j v, cs[j]? = some v → xs[p + j]? = some v) (h0 : 0 < cs.size) (hu : P.underlying ty = some d) (hd : d.isRow = true) (hi : (P.info? ty).map (·.size) = some cs.size) : (execOp ρ o).run P w = .ok (.value (.agg cs)) w := by
  obtain ⟨ad, rfl, hc⟩ := rd_cell hr (hv 0 cs[0] (Array.getElem?_eq_getElem h0))
  have hl := run_loadVar_rowC (P := P) w (ad.add p) ty cs d hu hd hi (fun j v hj => by
    obtain ⟨ad', e, hc'⟩ := rd_cell hr (hv j v hj)
    cases e
    rw [add_add']; exact hc')
  unfold execOp
  simp only [ho, hx, pt_eq, Option.getD_some, Instr.loadAt, Instr.sureAddr, Sem.run_bind, Sem.run_pure, Result.andThen_ok, hl]

/-- an element of an array by value -/
theorem R_pick {t e : TypeId} {m : Nat} {x ix : Operand} {i : Int} {cs : Array Value} {v : Value} {d : TypeDesc} (ho : o.op = .index t x ix) (hx : ρ x = .agg cs) (hix : ρ ix = .int .i64 i)
    (h0 : 0 ≤ i) (h1 : i < m) (ht : P.underlying t = some (.array m e)) (hs : (P.info? e).map (·.size) = some 1) (hu : P.underlying e = some d) (hd : d.isRow = false) (hv : cs[i.toNat]? = some v) : (execOp ρ o).run P w = .ok (.value v) w := by
  cases hq : P.info? e with
  | none => simp [hq] at hs
  | some ii =>
    have hsz : ii.size = 1 := by simpa [hq] using hs
    have hagg : (isAgg e).run P w = .ok false w := by
      unfold isAgg
      rw [Sem.run_bind, run_underlying hu w]
      cases d <;> simp_all [TypeDesc.isRow]
    unfold execOp
    simp [ho, hx, hix, Instr.index, asIntOf, Sem.run_bind, run_underlying ht, h0, h1, sizeOf, typeInfo, hq, hsz, part, hagg, hv]
/-- .. that is an array or a struct itself -/
theorem R_picks {t e : TypeId} {m sz : Nat} {x ix : Operand} {i : Int} {cs : Array Value} {d : TypeDesc} (cs' : Array Value) (ho : o.op = .index t x ix) (hx : ρ x = .agg cs) (hix : ρ ix = .int .i64 i)
    (h0 : 0 ≤ i) (h1 : i < m) (ht : P.underlying t = some (.array m e)) (hs : (P.info? e).map (·.size) = some sz) (hu : P.underlying e = some d) (hd : d.isRow = true) (hv : cs.extract (i.toNat * sz) (i.toNat * sz + sz) = cs') : (execOp ρ o).run P w = .ok (.value (.agg cs')) w := by
  cases hq : P.info? e with
  | none => simp [hq] at hs
  | some ii =>
    have hsz : ii.size = sz := by simpa [hq] using hs
    have hagg : (isAgg e).run P w = .ok true w := by
      unfold isAgg
      rw [Sem.run_bind, run_underlying hu w]
      cases d <;> simp_all [TypeDesc.isRow]
    unfold execOp
    simp [ho, hx, hix, Instr.index, asIntOf, Sem.run_bind, run_underlying ht, h0, h1, sizeOf, typeInfo, hq, hsz, part, hagg, hv]

/-- what stands at a known place, read as a slice's element is: a package-level variable -/
theorem R_glob {sz n c b i : Nat} {xs : List Value} (hr : Rd w sz (.slice (some ⟨b, 0, none⟩) n c) n xs) {ty : TypeId} {x : Operand} {d : TypeDesc} (cs : Array Value) (ho : o.op = .load ty x) (hx : ρ x = .pointer (some ⟨b, i, none⟩))
    (hv : ∀ j v, cs[j]? = some v → xs[i + j]? = some v) (h0 : 0 < cs.size) (hu : P.underlying ty = some d) (hd : d.isRow = true) (hi : (P.info? ty).map (·.size) = some cs.size) : (execOp ρ o).run P w = .ok (.value (.agg cs)) w := by
  have hc : ∀ j v, cs[j]? = some v → w.cell? ((⟨b, i, none⟩ : Addr).add j) = some v := fun j v hj => by
    obtain ⟨ad', e, hc'⟩ := rd_cell hr (hv j v hj)
    cases e
    rw [Addr.add_lit, Nat.zero_add] at hc'
    rw [Addr.add_lit]; exact hc'
  have hl := run_loadVar_rowC (P := P) w ⟨b, i, none⟩ ty cs d hu hd hi hc
  unfold execOp
  simp only [ho, hx, Instr.loadAt, Instr.sureAddr, Sem.run_bind, Sem.run_pure, Result.andThen_ok, hl]
theorem R_glob0 {sz n c b : Nat} {xs : List Value} (hr : Rd w sz (.slice (some ⟨b, 0, none⟩) n c) n xs) {ty : TypeId} {x : Operand} {d : TypeDesc} (ho : o.op = .load ty x) (hx : ρ x = .pointer (some ⟨b, 0, none⟩))
    (h0 : 0 < xs.length) (hu : P.underlying ty = some d) (hd : d.isRow = true) (hi : (P.info? ty).map (·.size) = some xs.length) : (execOp ρ o).run P w = .ok (.value (.agg xs.toArray)) w :=
  R_glob hr xs.toArray ho hx (fun j v h => by rw [Nat.zero_add]; simpa using h) (by simpa using h0) hu hd (by simpa using hi)
/-- an array by value, each element told -/
theorem R_buildArr {t e : TypeId} {m n sz bytes bytes' : Nat} {parts : Array (Nat × Operand)} (vs : List Value) (ho : o.op = .build t parts) (ht : P.underlying t = some (.array m e)) (hi : ElemInfo P e sz bytes) (hit : ElemInfo P t (n * sz) bytes')
    (hvs : parts.toList.map (fun p => ρ p.2) = vs) (hix : parts.toList.map (·.1) = List.range n) (hpos : 0 < sz) (hsz : ∀ v ∈ vs, v.cells.size = sz) : (execOp ρ o).run P w = .ok (.value (.agg (vs.flatMap fun v => v.cells.toList).toArray)) w := by
  obtain ⟨i, z, h1, h2, h3, h4, h5⟩ := hi
  obtain ⟨it, zt, k1, k2, k3, k4, k5⟩ := hit
  subst h3
  have hlen : vs.length = n := by rw [← hvs, List.length_map, ← List.length_map (f := (·.1)), hix, List.length_range]
  have hparts : (parts.map fun (i, x) => (i, ρ x)).toList = (vs.zipIdx 0).map fun x => (x.2, x.1) := by
    rw [Array.toList_map]
    apply List.ext_getElem?
    intro k
    rw [List.getElem?_map, List.getElem?_map, List.getElem?_zipIdx]
    have e1 := congrArg (fun l => l[k]?) hvs
    have e2 := congrArg (fun l => l[k]?) hix
    simp only [List.getElem?_map] at e1 e2
    cases hq : parts.toList[k]? with
    | none => rw [hq] at e1; simp only [Option.map_none] at e1; rw [← e1]; rfl
    | some p =>
      rw [hq] at e1 e2
      simp only [Option.map_some] at e1 e2
      rw [← e1]
      have hk : k < n := by
        have := (List.getElem?_eq_some_iff.1 e2.symm).1
        simpa using this
      rw [List.getElem?_range hk] at e2
      simp only [Option.some.injEq] at e2
      simp [e2]
  have hb : P.built t (parts.map fun (i, x) => (i, ρ x)).toList = some (vs.flatMap fun v => v.cells.toList).toArray := by
    unfold Program.built
    simp only [k1, ht, k2, h1]
    rw [hparts]
    exact Great.fill_whole hpos vs _ hsz (by rw [hlen, k5])
  have hrun := run_build (P := P) w t _ _ hb
  unfold execOp
  simp only [ho, Sem.run_bind, hrun, Result.andThen_ok, Sem.run_pure]

/-- a new variable -/
theorem M_allocV (HM : Mem ob w0 w L) (hw : Region.wanted o (yielded ops a.tmps) = true) {t : TypeId} (z : Value) (ho : o.op = .alloc t) (hz : (P.info? t).map (fun i => i.zero) = some (some z))
    (h : ∀ b w', Mem ob w0 w' (.row b z.cells t :: L) → wpList P ops Q rest (a.put o.dst (.pointer (some ⟨b, 0, none⟩))) w') : wpList P ops Q (o :: rest) a w := by
  refine wpList_wanted hw fun K hK => ?_
  unfold Oper.wp execOp
  have hM := HM.addNew (f := .row w.heap.size z.cells t) ((Below.refl _ _).alloc (Nat.le_refl _) (.cells z.cells t)) (Row.new w z.cells t) (fun k hk => by cases hk; exact Nat.le_refl _)
  cases hq : P.info? t with
  | none => simp [hq] at hz
  | some i =>
    simp only [hq, Option.map_some, Option.some.injEq] at hz
    simp [ho, Instr.alloc, zeroValue, typeInfo, hq, hz, newVar, newRow, newObj, Sem.run_bind, Oper.upon]
    exact hK _ _ (h _ _ hM)
theorem M_alloc (HM : Mem ob w0 w L) (hw : Region.wanted o (yielded ops a.tmps) = true) {t : TypeId} {cs : Array Value} (ho : o.op = .alloc t) (hz : (P.info? t).map (fun i => i.zero) = some (some (.agg cs)))
    (h : ∀ b w', Mem ob w0 w' (.row b cs t :: L) → wpList P ops Q rest (a.put o.dst (.pointer (some ⟨b, 0, none⟩))) w') : wpList P ops Q (o :: rest) a w := M_allocV HM hw _ ho hz h
theorem M_alloc1 (HM : Mem ob w0 w L) (hw : Region.wanted o (yielded ops a.tmps) = true) {t : TypeId} {z : Value} (ho : o.op = .alloc t) (hz : (P.info? t).map (fun i => i.zero) = some (some z)) (h1 : z.oneCell' = true)
    (h : ∀ b w', Mem ob w0 w' (.row b #[z] t :: L) → wpList P ops Q rest (a.put o.dst (.pointer (some ⟨b, 0, none⟩))) w') : wpList P ops Q (o :: rest) a w := by
  have hc : z.cells = #[z] := by cases z <;> first | rfl | cases h1
  refine M_allocV HM hw _ ho hz fun b w' hm => h b w' ?_
  rwa [hc] at hm
/-- a parameter in a variable of its own -/
theorem M_boxV (HM : Mem ob w0 w L) (hw : Region.wanted o (yielded ops a.tmps) = true) {t : TypeId} {x : Operand} (ho : o.op = .box t x)
    (h : ∀ b w', Mem ob w0 w' (.row b (a.eval x).cells t :: L) → wpList P ops Q rest (a.put o.dst (.pointer (some ⟨b, 0, none⟩))) w') : wpList P ops Q (o :: rest) a w := by
  refine wpList_wanted hw fun K hK => ?_
  unfold Oper.wp execOp
  have hM := HM.addNew (f := .row w.heap.size (a.eval x).cells t) ((Below.refl _ _).alloc (Nat.le_refl _) (.cells (a.eval x).cells t)) (Row.new w _ t) (fun k hk => by cases hk; exact Nat.le_refl _)
  simp [ho, Instr.box, newVar, newRow, newObj, Oper.upon]
  exact hK _ _ (h _ _ hM)
theorem M_box1 (HM : Mem ob w0 w L) (hw : Region.wanted o (yielded ops a.tmps) = true) {t : TypeId} {x : Operand} {v : Value} (ho : o.op = .box t x) (hx : a.eval x = v) (h1 : v.oneCell' = true)
    (h : ∀ b w', Mem ob w0 w' (.row b #[v] t :: L) → wpList P ops Q rest (a.put o.dst (.pointer (some ⟨b, 0, none⟩))) w') : wpList P ops Q (o :: rest) a w := by
  have hc : v.cells = #[v] := by cases v <;> first | rfl | cases h1
  refine M_boxV HM hw ho fun b w' hm => h b w' ?_
  rwa [hx, hc] at hm
theorem M_box (HM : Mem ob w0 w L) (hw : Region.wanted o (yielded ops a.tmps) = true) {t : TypeId} {x : Operand} {cs : Array Value} (ho : o.op = .box t x) (hx : a.eval x = .agg cs)
    (h : ∀ b w', Mem ob w0 w' (.row b cs t :: L) → wpList P ops Q rest (a.put o.dst (.pointer (some ⟨b, 0, none⟩))) w') : wpList P ops Q (o :: rest) a w := by
  refine M_boxV HM hw ho fun b w' hm => h b w' ?_
  rwa [hx] at hm
/-- one cell of a row is another -/
theorem M_set (HM : Mem ob w0 w L) (hw : Region.wanted o (yielded ops a.tmps) = true) {b i : Nat} {cs : Array Value} {T ty : TypeId} {x y : Operand} {v : Value} {k : Nat} (hdst : o.dst = none) (ho : o.op = .store ty x y) (hx : a.eval x = .pointer (some ⟨b, i, none⟩)) (hy : a.eval y = v)
    (hk : Sel L k (.row b cs T)) (hi : i < cs.size) (hs : (P.info? ty).map (·.size) = some 1) (h1 : v.oneCell' = true)
    (h : ∀ w', Mem ob w0 w' (L.set k (.row b (cs.setIfInBounds i v) T)) → wpList P ops Q rest a w') : wpList P ops Q (o :: rest) a w := by
  refine wpList_wanted hw fun K hK => ?_
  obtain ⟨w', hrun, hst⟩ := run_store_cell (P := P) w b i T ty cs v (HM.row (List.mem_of_getElem? hk.get)) hi hs h1
  unfold Oper.wp execOp
  simp only [ho, hx, hy, Instr.storeAt, Instr.sureAddr, Sem.run_bind, Sem.run_pure, Result.andThen_ok, hrun, Oper.upon, hdst, Act.put]
  exact hK _ _ (h w' (HM.upd k hk.get hst.grown (fun j hj => by cases hj; exact ⟨rfl, rfl⟩) hst.row rfl (fun j hj => .inl hj)))
/-- a whole row is another -/
theorem M_setRow (HM : Mem ob w0 w L) (hw : Region.wanted o (yielded ops a.tmps) = true) {b : Nat} {cs cs' : Array Value} {T ty : TypeId} {x y : Operand} {k : Nat} (hdst : o.dst = none) (ho : o.op = .store ty x y) (hx : a.eval x = .pointer (some ⟨b, 0, none⟩)) (hy : a.eval y = .agg cs')
    (hk : Sel L k (.row b cs T)) (hi : (P.info? ty).map (·.size) = some cs'.size) (hs : cs.size = cs'.size) (h1 : cs'.all (·.oneCell') = true)
    (h : ∀ w', Mem ob w0 w' (L.set k (.row b cs' T)) → wpList P ops Q rest a w') : wpList P ops Q (o :: rest) a w := by
  refine wpList_wanted hw fun K hK => ?_
  have hR := HM.row (List.mem_of_getElem? hk.get)
  have hr := run_storeVar_row (P := P) w b T ty cs cs' hR hi hs h1
  unfold Oper.wp execOp
  simp only [ho, hx, hy, Instr.storeAt, Instr.sureAddr, Sem.run_bind, Sem.run_pure, Result.andThen_ok, hr, Oper.upon, hdst, Act.put]
  exact hK _ _ (h _ (HM.upd k hk.get (w' := w.setRow b cs') (f' := .row b cs' T) (grownBy_setRow w b cs') (fun j hj => by cases hj; exact ⟨rfl, rfl⟩) (hR.setRow _) rfl (fun j hj => .inl hj)))
/-- a part of a row is another -/
theorem M_setSub (HM : Mem ob w0 w L) (hw : Region.wanted o (yielded ops a.tmps) = true) {b i : Nat} {cs cs' : Array Value} {T ty : TypeId} {x y : Operand} {k : Nat} (cs2 : Array Value) (hdst : o.dst = none) (ho : o.op = .store ty x y) (hx : a.eval x = .pointer (some ⟨b, i, none⟩)) (hy : a.eval y = .agg cs')
    (hk : Sel L k (.row b cs T)) (hi : (P.info? ty).map (·.size) = some cs'.size) (hs : i + cs'.size ≤ cs.size) (h1 : cs'.all (·.oneCell') = true) (h2 : (cs.toList.take i ++ cs'.toList ++ cs.toList.drop (i + cs'.toList.length)).toArray = cs2)
    (h : ∀ w', Mem ob w0 w' (L.set k (.row b cs2 T)) → wpList P ops Q rest a w') : wpList P ops Q (o :: rest) a w := by
  refine wpList_wanted hw fun K hK => ?_
  have hR := HM.row (List.mem_of_getElem? hk.get)
  have hr := run_storeCells_at (P := P) b i T cs'.toList 0 cs w hR (by simp; omega) (fun x hx => (Array.all_eq_true_iff_forall_mem.1 h1) x (by simpa using hx))
  cases hq : P.info? ty with
  | none => simp [hq] at hi
  | some ii =>
    have hsz : ii.size = cs'.size := by simpa [hq] using hi
    have hrun : (storeVar ty ⟨b, i, none⟩ (.agg cs')).run P w = .ok () (w.setRow b cs2) := by
      simp only [Nat.add_zero, h2] at hr
      simp [storeVar, sizeOf, typeInfo, hq, Value.cells, hsz, hr]
    unfold Oper.wp execOp
    simp only [ho, hx, hy, Instr.storeAt, Instr.sureAddr, Sem.run_bind, Sem.run_pure, Result.andThen_ok, hrun, Oper.upon, hdst, Act.put]
    exact hK _ _ (h _ (HM.upd k hk.get (w' := w.setRow b cs2) (f' := .row b cs2 T) (grownBy_setRow w b cs2) (fun j hj => by cases hj; exact ⟨rfl, rfl⟩) (hR.setRow _) rfl (fun j hj => .inl hj)))

theorem M_append (HM : Mem ob w0 w L) (hw : Region.wanted o (yielded ops a.tmps) = true) {k : Nat} {s y : Operand} {t e : TypeId} {sz n m bytes : Nat} {v : Value} {xs news : List Value}
    (ho : o.op = .call { callee := .builtin .append, args := #[s, y], argTypes := #[t, t] }) (hv : a.eval s = v) (ht : P.underlying t = some (.slice e)) (hi : ElemInfo P e sz bytes)
    (hk : Sel L k (.ow sz v n xs)) (hr : Rd w sz (a.eval y) m news) (h1 : ∀ u ∈ news, u.oneCell' = true) (h63 : n + m ≤ maxLen) (hbytes : (n + m) * bytes ≤ 140737488355328)
    (h : ∀ A c w', Mem ob w0 w' (L.set k (.ow sz (.slice A (n + m) c) (n + m) (xs ++ news))) → wpList P ops Q rest (a.put o.dst (.slice A (n + m) c)) w') : wpList P ops Q (o :: rest) a w := by
  refine wpList_wanted hw fun K hK => ?_
  obtain ⟨i, z, h2, h3, h4, h5, h6⟩ := hi
  have hO := HM.ow (List.mem_of_getElem? hk.get)
  obtain ⟨v', w', hrun, hs', hg, hblk⟩ := run_append_ow (P := P) t o.type e i z bytes ht h2 h3 h4 h5 h6 hO hr h1 h63 hbytes HM.size
  have hs2 := hs'
  obtain ⟨A, c, rfl, _⟩ := hs2
  unfold Oper.wp execOp
  simp only [ho, resolve, invoke, builtin, Sem.run_bind, Sem.run_pure, Result.andThen_ok, List.map_toArray, List.map_cons, List.map_nil, hv, hrun]
  refine hK _ _ (h A c w' (HM.upd k hk.get hg (fun j hj => ⟨hj, rfl⟩) hs' rfl fun j hj => ?_))
  rcases hblk with e1 | ⟨g, e1, hge⟩
  · exact .inl (e1.symm.trans hj)
  · refine .inr ?_
    have hj' : blkOf (.slice A (n + m) c) = some j := hj
    rw [e1] at hj'
    cases hj'
    exact hge
/-- a literal slice -/
theorem M_buildSlice (HM : Mem ob w0 w L) (hw : Region.wanted o (yielded ops a.tmps) = true) {t e : TypeId} {sz bytes n : Nat} {parts : Array (Nat × Operand)} (vs : List Value) (ho : o.op = .buildSlice t n parts) (ht : P.underlying t = some (.slice e)) (hi : ElemInfo P e sz bytes)
    (hvs : parts.toList.map (fun p => a.eval p.2) = vs) (hix : parts.toList.map (·.1) = List.range n) (hpos : 0 < n * sz) (hbig : n * sz ≤ 2 ^ 24) (hsz : ∀ v ∈ vs, v.cells.size = sz)
    (h : ∀ b w', Mem ob w0 w' (.ow sz (.slice (some ⟨b, 0, none⟩) n n) n (vs.flatMap fun v => v.cells.toList) :: L) → wpList P ops Q rest (a.put o.dst (.slice (some ⟨b, 0, none⟩) n n)) w') : wpList P ops Q (o :: rest) a w := by
  refine wpList_wanted hw fun K hK => ?_
  obtain ⟨i, z, h1, h2, h3, h4, h5⟩ := hi
  subst h3
  have hsp : 0 < i.size := Nat.pos_of_mul_pos_left hpos
  have hlen : vs.length = n := by rw [← hvs, List.length_map, ← List.length_map (f := (·.1)), hix, List.length_range]
  have hfl : (vs.flatMap fun v => v.cells.toList).length = n * i.size := by
    rw [← hlen]
    clear h hvs hlen hK
    induction vs with
    | nil => simp
    | cons v vs ih =>
      rw [List.flatMap_cons, List.length_append, ih (fun u hu => hsz u (by simp [hu])), List.length_cons, Nat.add_mul]
      have := hsz v (by simp)
      simp [this]; omega
  have hparts : (parts.map fun (i, x) => (i, a.eval x)).toList = (vs.zipIdx 0).map fun x => (x.2, x.1) := by
    rw [Array.toList_map]
    apply List.ext_getElem?
    intro k
    rw [List.getElem?_map, List.getElem?_map, List.getElem?_zipIdx]
    have e1 := congrArg (fun l => l[k]?) hvs
    have e2 := congrArg (fun l => l[k]?) hix
    simp only [List.getElem?_map] at e1 e2
    cases hq : parts.toList[k]? with
    | none => rw [hq] at e1; simp only [Option.map_none] at e1; rw [← e1]; rfl
    | some p =>
      rw [hq] at e1 e2
      simp only [Option.map_some] at e1 e2
      rw [← e1]
      have hk : k < n := by
        have := (List.getElem?_eq_some_iff.1 e2.symm).1
        simpa using this
      rw [List.getElem?_range hk] at e2
      simp only [Option.some.injEq] at e2
      simp [e2]
  have hrun := run_buildSlice (P := P) w t e n _ _ i z ht h1 h2 (by omega) (by omega) (by
    rw [hparts]
    exact Great.fill_whole hsp vs _ hsz (by simp [hlen]))
  have hR := Row.new w (vs.flatMap fun v => v.cells.toList).toArray e
  have hO : Ow (w.alloc (.cells (vs.flatMap fun v => v.cells.toList).toArray e)) w.heap.size i.size (.slice (some ⟨w.heap.size, 0, none⟩) n n) n (vs.flatMap fun v => v.cells.toList) := by
    refine ⟨_, n, rfl, Nat.le_refl _, hfl, fun hn => ⟨_, rfl, hR.lt, fun j u hu => ?_⟩, fun hn => ⟨_, 0, rfl, Nat.le_refl _, hR.lt, fun j hj => ⟨?_, hR.free _⟩⟩⟩
    · rw [Addr.add_lit, Nat.zero_add]; exact hR.cell (by simpa using hu)
    · rw [Nat.zero_add, hR.cell (i := j) (v := (vs.flatMap fun v => v.cells.toList)[j]'(by omega)) (by simp [List.getElem?_eq_getElem (show j < (vs.flatMap fun v => v.cells.toList).length by omega)])]; rfl
  have hM := HM.addOw ((Below.refl _ _).alloc (Nat.le_refl _) (.cells (vs.flatMap fun v => v.cells.toList).toArray e)) hO
  unfold Oper.wp execOp
  simp only [ho, Sem.run_bind, hrun, Result.andThen_ok, Sem.run_pure, Oper.upon]
  exact hK _ _ (h _ _ hM)
/-- .. without elements -/
theorem M_buildNone (HM : Mem ob w0 w L) (hw : Region.wanted o (yielded ops a.tmps) = true) {t e : TypeId} {sz bytes : Nat} (ho : o.op = .buildSlice t 0 #[]) (ht : P.underlying t = some (.slice e)) (hi : ElemInfo P e sz bytes)
    (h : ∀ b w', Mem ob w0 w' (.ow sz (.slice (some ⟨b, 0, none⟩) 0 0) 0 [] :: L) → wpList P ops Q rest (a.put o.dst (.slice (some ⟨b, 0, none⟩) 0 0)) w') : wpList P ops Q (o :: rest) a w := by
  refine wpList_wanted hw fun K hK => ?_
  obtain ⟨i, z, h1, h2, h3, h4, h5⟩ := hi
  have hM := HM.addOw ((Below.refl _ _).alloc (Nat.le_refl _) (.cells #[] e)) (Ow.empty w e w.heap.size sz)
  have he : (Array.map (fun x => (default : Value)) (Array.range 0)) = #[] := by simp
  unfold Oper.wp execOp
  simp [ho, Instr.buildSlice, run_underlying ht, sizeOf, typeInfo, h1, Instr.fill, newRow, newObj, Oper.upon, he]
  exact hK _ _ (h _ _ hM)

/-- all but one row, while that one is another -/
theorem Mem.keepBut {w' : World} {k b : Nat} {cs : Array Value} {T : TypeId} (HM : Mem ob w0 w L) (hk : Sel L k (.row b cs T)) (hg : w.grownBy w' (some b)) : Mem ob w0 w' (L.eraseIdx k) := by
  have hk' := hk.get
  obtain ⟨hlt, he⟩ := List.getElem?_eq_some_iff.1 hk'
  have hp := List.pairwise_iff_getElem.1 HM.apart
  have hmem : ∀ f ∈ L.eraseIdx k, ∃ j, ∃ hj : j < L.length, j ≠ k ∧ f = L[j] := fun f hf => by
    obtain ⟨j, h1, h2⟩ := List.mem_eraseIdx_iff_getElem?.1 hf
    obtain ⟨h3, h4⟩ := List.getElem?_eq_some_iff.1 h2
    exact ⟨j, h3, h1, h4.symm⟩
  refine ⟨grownBy_trans HM.grown hg (fun j hj => by cases hj; exact HM.own _ (List.mem_of_getElem? hk') rfl b rfl), fun f hf => ?_, fun f hf => HM.own f (List.mem_of_mem_eraseIdx hf), HM.apart.sublist (List.eraseIdx_sublist ..)⟩
  obtain ⟨j, hj, hne, rfl⟩ := hmem f hf
  refine Fact.keeps (HM.holds _ (List.getElem_mem hj)) hg fun q hq e => ?_
  have e' : q = b := by simpa using e
  subst e'
  rcases Nat.lt_or_ge k j with hij | hij
  · exact hp k j hlt hj hij (by rw [he]; rfl) q (by rw [he]; rfl) hq
  · exact hp j k hj hlt (by omega) (by rw [he]; simp [Fact.wr]) q hq (by rw [he]; rfl)
theorem G_of {os : List Oper} {Q : Act → World → Prop} {i : Nat} {rest : List (Bool × Nat)} {o : Oper} {bo : Option Nat} (v : Value) (ho : nth os i = some o) (hw : Region.wanted o (yielded os.toArray a.tmps) = true)
    (hr : ∀ w', w.grownBy w' bo → (execOp a.eval o).run P w' = .ok (.value v) w') (h : wpG P os.toArray bo Q rest (a.put o.dst v) w) : wpG P os.toArray bo Q ((true, i) :: rest) a w := by
  refine wpG_quiet ho ?_
  simp only [wpQuiet]
  rw [if_pos hw]
  refine ⟨v, ?_, h⟩
  rintro w' ⟨x', rfl⟩
  unfold Oper.quietAt
  rw [show gro bo w x' = x'.to from rfl, hr _ x'.grown]
  exact ⟨rfl, rfl⟩
theorem G_setSub {os : List Oper} {Q : Act → World → Prop} {j b i k : Nat} {rest : List (Bool × Nat)} {o : Oper} {cs cs' : Array Value} {T ty : TypeId} {x y : Operand} (HM : Mem ob w0 w L) (cs2 : Array Value) (ho' : nth os j = some o) (hw : Region.wanted o (yielded os.toArray a.tmps) = true)
    (hdst : o.dst = none) (ho : o.op = .store ty x y) (hx : a.eval x = .pointer (some ⟨b, i, none⟩)) (hy : a.eval y = .agg cs')
    (hk : Sel L k (.row b cs T)) (hi : (P.info? ty).map (·.size) = some cs'.size) (hs : i + cs'.size ≤ cs.size) (h1 : cs'.all (·.oneCell') = true) (h2 : (cs.toList.take i ++ cs'.toList ++ cs.toList.drop (i + cs'.toList.length)).toArray = cs2)
    (h : ∀ w', Mem ob w0 w' (L.set k (.row b cs2 T)) → wpG P os.toArray (some b) Q rest a w') : wpG P os.toArray (some b) Q ((false, j) :: rest) a w := by
  refine wpG_event ho' hw fun K hK => ?_
  have hR := HM.row (List.mem_of_getElem? hk.get)
  have hr := run_storeCells_at (P := P) b i T cs'.toList 0 cs w hR (by simp; omega) (fun x hx => (Array.all_eq_true_iff_forall_mem.1 h1) x (by simpa using hx))
  cases hq : P.info? ty with
  | none => simp [hq] at hi
  | some ii =>
    have hsz : ii.size = cs'.size := by simpa [hq] using hi
    have hrun : (storeVar ty ⟨b, i, none⟩ (.agg cs')).run P w = .ok () (w.setRow b cs2) := by
      simp only [Nat.add_zero, h2] at hr
      simp [storeVar, sizeOf, typeInfo, hq, Value.cells, hsz, hr]
    unfold Oper.wp execOp
    simp only [ho, hx, hy, Instr.storeAt, Instr.sureAddr, Sem.run_bind, Sem.run_pure, Result.andThen_ok, hrun, Oper.upon, hdst, Act.put]
    exact hK _ _ (LatG.of (grownBy_setRow w b cs2)) (h _ (HM.upd k hk.get (w' := w.setRow b cs2) (f' := .row b cs2 T) (grownBy_setRow w b cs2) (fun j hj => by cases hj; exact ⟨rfl, rfl⟩) (hR.setRow _) rfl (fun j hj => .inl hj)))
theorem G_set {os : List Oper} {Q : Act → World → Prop} {j b i k : Nat} {rest : List (Bool × Nat)} {o : Oper} {cs : Array Value} {T ty : TypeId} {x y : Operand} {v : Value} (HM : Mem ob w0 w L) (ho' : nth os j = some o) (hw : Region.wanted o (yielded os.toArray a.tmps) = true)
    (hdst : o.dst = none) (ho : o.op = .store ty x y) (hx : a.eval x = .pointer (some ⟨b, i, none⟩)) (hy : a.eval y = v)
    (hk : Sel L k (.row b cs T)) (hi : i < cs.size) (hs : (P.info? ty).map (·.size) = some 1) (h1 : v.oneCell' = true)
    (h : ∀ w', Mem ob w0 w' (L.set k (.row b (cs.setIfInBounds i v) T)) → wpG P os.toArray (some b) Q rest a w') : wpG P os.toArray (some b) Q ((false, j) :: rest) a w :=
  wpG_store (HM.row (List.mem_of_getElem? hk.get)) ho' hw hdst ty x y ho hx v hy hi hs h1 fun w' hst => h w' (HM.upd k hk.get hst.grown (fun j hj => by cases hj; exact ⟨rfl, rfl⟩) hst.row rfl (fun j hj => .inl hj))
theorem put_same {a : Act} {d : Nat} {v : Value} (h : a.tmps[d]? = some v) : a.put (some d) v = a := by
  obtain ⟨tmps, defers⟩ := a
  simp only [Act.put]
  congr 1
  apply Array.ext_getElem?
  intro i
  rw [Array.getElem?_setIfInBounds]
  by_cases e : d = i
  · subst e
    have := (Array.getElem?_eq_some_iff.1 h).1
    rw [if_pos rfl, if_pos this]; exact h.symm
  · simp [e]
def litV : Value → Bool
  | .bool true => true
  | .bool false => true
  | .tuple _ => true
  | _ => false
/-- a Bool that other operations wait for: both ways -/
theorem E_cases {ops : Array Oper} {Q : Act → World → Prop} {l : List (Bool × Nat)} (d : Nat) (b : Bool) (hb : a.tmps[d]? = some (.bool b)) (ht : b = true → wpE P ops Q l (a.put (some d) (.bool true)) w) (hf : b = false → wpE P ops Q l (a.put (some d) (.bool false)) w) : wpE P ops Q l a w := by
  cases b
  · have := hf rfl; rwa [put_same hb] at this
  · have := ht rfl; rwa [put_same hb] at this
/-- the same in a region that draws no order -/
theorem W_cases (d : Nat) (b : Bool) (hb : a.tmps[d]? = some (.bool b)) (ht : b = true → wpList P ops Q (o :: rest) (a.put (some d) (.bool true)) w) (hf : b = false → wpList P ops Q (o :: rest) (a.put (some d) (.bool false)) w) : wpList P ops Q (o :: rest) a w := by
  cases b
  · have := hf rfl; rwa [put_same hb] at this
  · have := ht rfl; rwa [put_same hb] at this
/-- what is known of a frame's slots: nothing was yielded there, or a Bool -/
abbrev Known := List (Nat × Option Bool)
def kLook : Known → Nat → Option (Option Bool)
  | [], _ => none
  | (d', v) :: K, d => if d' = d then some v else kLook K d
def valK : Option Bool → Value
  | none => undef
  | some b => .bool b
def kEval (K : Known) : Operand → Option Bool
  | .tmp d => match kLook K d with
    | some (some b) => some b
    | _ => none
  | .const (.bool b) => some b
  | _ => none
/-- the one slot that an operation writes that is passed over, or only moves what is known -/
def ksStep (nt : Nat) (ops : Array Oper) (o : Oper) (K : Known) : Option (Nat × Option Bool) :=
  match o.dst with
  | none => none
  | some d => if d < nt then
      match o.guard with
      | some (j, want) => match (ops[j]?).bind (·.dst) with
        | some dj => match kLook K dj with
          | some (some b) => if b == want then none else some (d, none)
          | some none => some (d, none)
          | none => none
        | none => none
      | none => match o.op with
        | .pick c x y => match kEval K c with
          | some true => (kEval K x).map fun v => (d, some v)
          | some false => (kEval K y).map fun v => (d, some v)
          | none => none
        | .move x => (kEval K x).map fun v => (d, some v)
        | .assign x => (kEval K x).map fun v => (d, some v)
        | _ => none
    else none
def ksRun (nt : Nat) (ops : Array Oper) : Nat → List Oper → Known → Option Known
  | 0, _, _ => some []
  | n + 1, o :: rest, K => match ksStep nt ops o K with
    | some u => (ksRun nt ops n rest (u :: K)).map fun U => u :: U
    | none => none
  | _ + 1, [], _ => none
def putK : Known → List Value → List Value
  | [], t => t
  | (d, v) :: U, t => putK U (t.set d (valK v))
def Agree (K : Known) (t : List Value) : Prop := ∀ d v, kLook K d = some v → t[d]? = some (valK v)
theorem Agree.one {t : List Value} {d : Nat} {b : Bool} (h : d < t.length) : Agree [(d, some b)] (t.set d (.bool b)) := fun d' v hv => by
  simp only [kLook] at hv
  split at hv
  · rename_i e; subst e
    simp only [Option.some.injEq] at hv; subst hv
    simp [h, valK]
  · cases hv
theorem Agree.put {K : Known} {t : List Value} {d : Nat} {v : Option Bool} (h : Agree K t) (hd : d < t.length) : Agree ((d, v) :: K) (t.set d (valK v)) := fun d' v' hv => by
  simp only [kLook] at hv
  rw [List.getElem?_set]
  split at hv
  · rename_i e; subst e
    simp only [Option.some.injEq] at hv; subst hv
    simp [hd]
  · rename_i e
    rw [if_neg e]; exact h d' v' hv
theorem kEval_eq {K : Known} {t : List Value} {x : Operand} {b : Bool} (hA : Agree K t) (h : kEval K x = some b) (df : List Deferred) : Act.eval ⟨t.toArray, df⟩ x = .bool b := by
  cases x with
  | tmp d =>
    simp only [kEval] at h
    split at h
    · rename_i hl
      simp only [Option.some.injEq] at h; subst h
      have := hA d _ hl
      simp [Act.eval, this, valK]
    · cases h
  | const u => cases u <;> simp [kEval] at h; subst h; rfl
  | _ => simp [kEval] at h
theorem putL (t : List Value) (df : List Deferred) (d : Nat) (v : Value) : Act.put ⟨t.toArray, df⟩ (some d) v = ⟨(t.set d v).toArray, df⟩ := by simp [Act.put]
theorem W_tail {df : List Deferred} {nt : Nat} : ∀ (n : Nat) (t : List Value) (K U : Known) {l : List Oper}, t.length = nt → Agree K t → ksRun nt ops n l K = some U → wpList P ops Q (l.drop n) ⟨(putK U t).toArray, df⟩ w → wpList P ops Q l ⟨t.toArray, df⟩ w
  | 0, t, K, U, l, hl, hA, h, hk => by simp only [ksRun, Option.some.injEq] at h; subst h; exact hk
  | n + 1, t, K, U, [], hl, hA, h, hk => by simp [ksRun] at h
  | n + 1, t, K, U, o :: rest, hl, hA, h, hk => by
    simp only [ksRun] at h
    cases hs : ksStep nt ops o K with
    | none => simp [hs] at h
    | some u =>
      obtain ⟨d, v⟩ := u
      rw [hs] at h
      simp only [Option.map_eq_some_iff] at h
      obtain ⟨U', hU, rfl⟩ := h
      unfold ksStep at hs
      cases hd : o.dst with
      | none => simp [hd] at hs
      | some d0 =>
        rw [hd] at hs
        simp only at hs
        split at hs
        case isFalse => cases hs
        rename_i hlt
        have go : d0 = d → ∀ (hv : valK v = valK v), wpList P ops Q rest ⟨(t.set d (valK v)).toArray, df⟩ w := fun e _ =>
          W_tail n (t.set d (valK v)) ((d, v) :: K) U' (by simpa using hl) (hA.put (by rw [hl, ← e]; exact hlt)) hU (by simpa [putK] using hk)
        cases hg : o.guard with
        | some jw =>
          obtain ⟨j, want⟩ := jw
          rw [hg] at hs
          simp only at hs
          cases hj : (ops[j]?).bind (·.dst) with
          | none => simp [hj] at hs
          | some dj =>
            rw [hj] at hs
            simp only at hs
            have hno : ∀ x, kLook K dj = some x → (∀ b, x = some b → (b == want) = false) → Region.wanted o (yielded ops t.toArray) = false := fun x hx hb => by
              have h1 := hA dj x hx
              simp only [Region.wanted, hg, yielded, hj, Option.bind_some, List.getElem?_toArray, h1]
              cases x with
              | none => rfl
              | some b => simp only [valK]; have := hb b rfl; cases b <;> cases want <;> simp_all
            have hskip : Region.wanted o (yielded ops t.toArray) = false ∧ d0 = d ∧ v = none := by
              cases hx : kLook K dj with
              | none => simp [hx] at hs
              | some x =>
                rw [hx] at hs
                cases x with
                | none =>
                  simp only [Option.some.injEq, Prod.mk.injEq] at hs
                  exact ⟨hno none hx (fun b e => by cases e), hs.1, hs.2.symm⟩
                | some b =>
                  simp only at hs
                  split at hs
                  · cases hs
                  · rename_i hne
                    simp only [Option.some.injEq, Prod.mk.injEq] at hs
                    exact ⟨hno (some b) hx (fun b' e => by cases e; simpa using hne), hs.1, hs.2.symm⟩
            obtain ⟨hw, e, rfl⟩ := hskip
            refine wpList_step fun K' hK => ?_
            rw [if_neg (by rw [hw]; exact Bool.false_ne_true), hd, putL]
            subst e
            exact hK _ _ (go rfl rfl)
        | none =>
          rw [hg] at hs
          refine wpList_step fun K' hK => ?_
          rw [if_pos (by simp [Region.wanted, hg])]
          unfold Oper.wp execOp
          cases ho : o.op with
          | move x =>
            simp only [ho, Option.map_eq_some_iff, Prod.mk.injEq] at hs
            obtain ⟨b, hb, e, rfl⟩ := hs
            simp only [Sem.run_pure, Oper.upon, kEval_eq hA hb, hd, putL]
            subst e
            exact hK _ _ (go rfl rfl)
          | assign x =>
            simp only [ho, Option.map_eq_some_iff, Prod.mk.injEq] at hs
            obtain ⟨b, hb, e, rfl⟩ := hs
            simp only [Sem.run_pure, Oper.upon, kEval_eq hA hb, hd, putL]
            subst e
            exact hK _ _ (go rfl rfl)
          | pick c x y =>
            simp only [ho] at hs
            split at hs
            · rename_i hc
              simp only [Option.map_eq_some_iff, Prod.mk.injEq] at hs
              obtain ⟨b, hb, e, rfl⟩ := hs
              simp only [kEval_eq hA hc, asBool, Sem.run_bind, Sem.run_pure, Result.andThen_ok, Oper.upon, if_true, kEval_eq hA hb, hd, putL]
              subst e
              exact hK _ _ (go rfl rfl)
            · rename_i hc
              simp only [Option.map_eq_some_iff, Prod.mk.injEq] at hs
              obtain ⟨b, hb, e, rfl⟩ := hs
              simp only [kEval_eq hA hc, asBool, Sem.run_bind, Sem.run_pure, Result.andThen_ok, Oper.upon, Bool.false_eq_true, if_false, kEval_eq hA hb, hd, putL]
              subst e
              exact hK _ _ (go rfl rfl)
            · cases hs
          | _ => simp [ho] at hs
theorem W_casesL {df : List Deferred} {t : List Value} (d : Nat) (b : Bool) (hb : t[d]? = some (.bool b)) (ht : b = true → wpList P ops Q (o :: rest) ⟨(t.set d (.bool true)).toArray, df⟩ w) (hf : b = false → wpList P ops Q (o :: rest) ⟨(t.set d (.bool false)).toArray, df⟩ w) : wpList P ops Q (o :: rest) ⟨t.toArray, df⟩ w := by
  refine W_cases d b (by simpa using hb) (fun h => ?_) (fun h => ?_)
  · have := ht h; simpa [Act.put] using this
  · have := hf h; simpa [Act.put] using this
/-- both ways, and on the second one all that follows from it -/
theorem W_casesT {df : List Deferred} {t : List Value} (d : Nat) (b : Bool) (b1 : Bool) (n nt : Nat) (U : Known) (hb : t[d]? = some (.bool b)) (hl : t.length = nt) (hr : ksRun nt ops n (o :: rest) [(d, some b1)] = some U)
    (h0 : b = (!b1) → wpList P ops Q (o :: rest) ⟨(t.set d (.bool !b1)).toArray, df⟩ w) (h1 : b = b1 → wpList P ops Q ((o :: rest).drop n) ⟨(putK U (t.set d (.bool b1))).toArray, df⟩ w) : wpList P ops Q (o :: rest) ⟨t.toArray, df⟩ w := by
  have hd : d < t.length := (List.getElem?_eq_some_iff.1 hb).1
  have key : ∀ c : Bool, b = c → wpList P ops Q (o :: rest) ⟨(t.set d (.bool c)).toArray, df⟩ w := fun c hc => by
    by_cases e : c = b1
    · subst e
      exact W_tail n _ [(d, some c)] U (by simpa using hl) (Agree.one hd) hr (h1 hc)
    · have e2 : c = !b1 := by cases c <;> cases b1 <;> simp_all
      subst e2
      exact h0 hc
  exact W_casesL d b hb (fun h => key true h) (fun h => key false h)
theorem W_at (h : wpList P ops Q (o :: rest) a w) : wpList P ops Q (o :: rest) a w := h
theorem W_lit (d : Nat) (hb : litV (a.tmps.getD d undef) = true) (h : wpList P ops Q (o :: rest) a w) : wpList P ops Q (o :: rest) a w := h
theorem E_lit {ops : Array Oper} {Q : Act → World → Prop} {l : List (Bool × Nat)} (d : Nat) (hb : litV (a.tmps.getD d undef) = true) (h : wpE P ops Q l a w) : wpE P ops Q l a w := h
end

/-- what a function leaves that hands back a slice of its own -/
def RetOw (w : World) (sz n : Nat) (xs : List Value) (e : Ending) (w' : World) : Prop := ∃ A c, e = .returned (.slice A n c) ∧ Ow w' w.heap.size sz (.slice A n c) n xs ∧ Below w.heap.size w w'
end Go.Proofs.YtcigbgpdikadpaaDoor
end
