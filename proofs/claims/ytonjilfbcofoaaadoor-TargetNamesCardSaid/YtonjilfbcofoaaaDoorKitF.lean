/-
  Slices in memory of the call's own: append gives such, and what stands in other memory is kept.
-/
import Derived.Test.YtonjilfbcofoaaaDoorKitS
namespace Go.Proofs.YtonjilfbcofoaaaDoor
open Go.RowKit

/-- where a slice has elements, they stand in blocks from B on -/
def Fresh (B : Nat) (v : Value) : Prop := ∀ A n c, v = .slice A n c → 0 < n → ∃ ad, A = some ad ∧ B ≤ ad.block

section
variable {w w' : World} {A : Option Addr} {B B' sz n m : Nat} {v x : Value} {xs news : List Value} {P : Program}

theorem Fresh.nil (B : Nat) : Fresh B (.slice none 0 0) := fun A n c e h => by cases e; exact absurd h (by omega)
theorem Fresh.weak (h : Fresh B v) (hB : B' ≤ B) : Fresh B' v := fun A n c e hn => by
  obtain ⟨ad, e1, h1⟩ := h A n c e hn
  exact ⟨ad, e1, by omega⟩

theorem cell_grown {o : Option Nat} (hg : w.grownBy w' o) {p : Addr} (hp : p.block < w.heap.size) (hn : some p.block ≠ o) : w'.cell? p = w.cell? p := by
  have := hg.block p.block hp hn
  simp only [World.cell?, this]
theorem frozen_grown {o : Option Nat} (hg : w.grownBy w' o) {p : Addr} (hp : p.block < w.heap.size) (hn : some p.block ≠ o) : w'.frozen? p = w.frozen? p := by
  have := hg.block p.block hp hn
  simp only [World.frozen?, this]

theorem Sl.grown (h : Sl w B sz v n xs) (hf : Fresh B v) {o : Option Nat} (hg : w.grownBy w' o) (ho : ∀ k, o = some k → k < B) : Sl w' B sz v n xs := by
  have hsize := hg.size
  obtain ⟨A, c, rfl, hc, hl, ha, hs⟩ := h
  refine ⟨A, c, rfl, hc, hl, fun hn => ?_, fun hn => ?_⟩
  · obtain ⟨ad, e, hb, hcell⟩ := ha hn
    obtain ⟨ad', e', hB⟩ := hf A n c rfl hn
    rw [e] at e'
    cases e'
    refine ⟨ad, e, by omega, fun j u hu => ?_⟩
    rw [cell_grown hg (by rw [block_add]; exact hb) (by rw [block_add]; intro e2; have := ho _ e2.symm; omega)]
    exact hcell j u hu
  · obtain ⟨g, off, e, hB, hb, hj⟩ := hs hn
    refine ⟨g, off, e, hB, by omega, fun j hjc => ?_⟩
    have hne : some g ≠ o := fun e2 => by have := ho _ e2.symm; omega
    rw [cell_grown (p := ⟨g, off + j, none⟩) hg hb hne, frozen_grown (p := ⟨g, off + j, none⟩) hg hb hne]
    exact hj j hjc
theorem Sl.ownOf_lt (h : Sl w B sz v n xs) : ∀ k, ownOf v = some k → k < w.heap.size := by
  obtain ⟨A, c, rfl, hc, hl, ha, ho⟩ := h
  intro k hk
  cases A with
  | none => simp [ownOf] at hk
  | some a =>
    simp only [ownOf] at hk
    split at hk
    · rename_i hn
      obtain ⟨g, off, hA, hB, hg, _⟩ := ho hn
      cases hA
      cases hk
      exact hg
    · cases hk

theorem run_append_fr (t ty e : TypeId) (i : TypeInfo) (z : Value) (bytes : Nat) (ht : P.underlying t = some (.slice e)) (hi : P.info? e = some i) (hz : i.zero = some z)
    (hsize : i.size = sz) (hby : i.bytes = bytes) (hzs : z.cells.size = sz) (hs : Sl w B sz v n xs) (hr : Rd w sz x m news) (h1 : ∀ u ∈ news, u.oneCell' = true)
    (h63 : n + m ≤ maxLen) (hbytes : (n + m) * bytes ≤ 140737488355328) (hB : B ≤ w.heap.size) :
    ∃ v' w', (Builtin.append_ #[t, t] ty #[v, x]).run P w = .ok v' w' ∧ Sl w' B sz v' (n + m) (xs ++ news) ∧ w.grownBy w' (ownOf v) ∧ ((0 < m ∨ Fresh B v) → Fresh B v') := by
  obtain ⟨v', w', hrun, h2, h3⟩ := run_append_sl (P := P) t ty e i z bytes ht hi hz hsize hby hzs hs hr h1 h63 hbytes hB
  refine ⟨v', w', hrun, h2, h3, fun hor => ?_⟩
  subst hsize hby
  obtain ⟨A, c, rfl, hc, hl, ha, ho⟩ := hs
  obtain ⟨A', c', rfl, hc', hl', ha'⟩ := hr
  by_cases hm : m = 0
  · subst hm
    rw [append_none t ty e i ht hi A A' n c c' hc w] at hrun
    cases hrun
    rcases hor with h | h
    · exact absurd h (by omega)
    · exact h
  · obtain ⟨a, rfl, hab, hnews⟩ := ha' (by omega)
    by_cases hroom : n + m ≤ c
    · obtain ⟨g, off, rfl, hBg, hg, hj⟩ := ho (by omega)
      have hle : (n + m) * i.size ≤ c * i.size := Nat.mul_le_mul_right _ hroom
      rw [Nat.add_mul] at hle
      rw [run_append_room_cells (P := P) w t ty e i ht hi g off n c a m c' news hl' hnews h1 hroom
        (fun j hjl => by have := (hj (n * i.size + j) (by omega)).1; rwa [← Nat.add_assoc] at this)
        (fun j hjl => by have := (hj (n * i.size + j) (by omega)).2; rwa [← Nat.add_assoc] at this)] at hrun
      cases hrun
      intro A n c e _
      cases e
      exact ⟨_, rfl, hBg⟩
    · have h63' : ((n + m : Nat) : Int) ≤ 9223372036854775807 := by simp only [maxLen] at h63; omega
      rw [append_grow_any t ty e i z ht hi hz w A n c xs hl ha a m c' news hl' hnews (fun hn => by
        subst hn
        have hn0 : n = 0 := by
          apply Classical.byContradiction
          intro h
          obtain ⟨ad, e1, _⟩ := ha (by omega)
          cases e1
        apply Classical.byContradiction
        intro h
        obtain ⟨g, off, e1, _⟩ := ho (by omega)
        cases e1) (by omega) h63' (growslice_fits (by omega) hbytes)] at hrun
      cases hrun
      intro A n c e _
      cases e
      exact ⟨_, rfl, hB⟩

theorem wpList_append_fr {Q : Exit → Act → World → Prop} {ops : Array Oper} {rest : List Oper} {a : Act} {o : Oper} (hgd : o.guard = none) (s y : Operand) (t : TypeId) (ho : o.op = .call { callee := .builtin .append, args := #[s, y], argTypes := #[t, t] })
    (e : TypeId) (i : TypeInfo) (z : Value) (bytes : Nat) (ht : P.underlying t = some (.slice e)) (hi : P.info? e = some i) (hz : i.zero = some z) (hsize : i.size = sz) (hby : i.bytes = bytes) (hzs : z.cells.size = sz)
    (hs : Sl w B sz (a.eval s) n xs) (hr : Rd w sz (a.eval y) m news) (h1 : ∀ u ∈ news, u.oneCell' = true)
    (h63 : n + m ≤ maxLen) (hbytes : (n + m) * bytes ≤ 140737488355328) (hB : B ≤ w.heap.size)
    (h : ∀ v' w', Sl w' B sz v' (n + m) (xs ++ news) → Below B w w' → w.grownBy w' (ownOf (a.eval s)) → ((0 < m ∨ Fresh B (a.eval s)) → Fresh B v') → wpList P ops Q rest (a.put o.dst v') w') : wpList P ops Q (o :: rest) a w := by
  refine wpList_plain hgd fun K hK => ?_
  obtain ⟨v', w', hrun, h2, h3, h4⟩ := run_append_fr (P := P) t o.type e i z bytes ht hi hz hsize hby hzs hs hr h1 h63 hbytes hB
  unfold Oper.wp execOp
  simp only [ho, resolve, invoke, builtin, Sem.run_bind, Sem.run_pure, Result.andThen_ok, List.map_toArray, List.map_cons, List.map_nil, hrun]
  exact hK _ _ (h v' w' h2 ((Below.refl _ _).grown h3 hB hs.ownOf_ge) h3 h4)
end
end Go.Proofs.YtonjilfbcofoaaaDoor
