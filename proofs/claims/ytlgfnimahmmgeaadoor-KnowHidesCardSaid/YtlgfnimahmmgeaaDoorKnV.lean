/-
  Another card in an object's place: a right state stays right. Who knows, as bits of numbers from 0 to 3.
-/
import Derived.Test.YtlgfnimahmmgeaaDoorKnU
namespace Go.Proofs.YtlgfnimahmmgeaaDoor
open Go.RowKit
set_option linter.unusedVariables false
set_option linter.unusedSimpArgs false

/-- but for cells in C the objects are alike -/
def LikeO (C : Nat → Prop) (o o' : List Dat) : Prop := ∀ c, c < 18 → ¬ C c → rowI o' c = rowI o c
structure LikeS (C : Nat → Prop) (S U : List Dat) : Prop where
  len : (argL U 0).length = (argL S 0).length
  obj : ∀ k, k < (argL S 0).length → LikeO C ((argL S 0).getD k []) ((argL U 0).getD k [])
  lists : ∀ y, y < 11 → argL U (y + 1) = argL S (y + 1)
  ints : ∀ i, i < 25 → argI U (12 + i) = argI S (12 + i)
def c0 (c : Nat) : Prop := c = 0
theorem likeO_objB {o o' : List Dat} {m : Int} (h : LikeO c0 o o') (h0 : inB (rowI o' 0) 0 119 = true) (hb : objB o m = true) : objB o' m = true := by
  have e : ∀ c, 1 ≤ c → c < 18 → rowI o' c = rowI o c := fun c h1 h2 => h c h2 (fun hc => by unfold c0 at hc; omega)
  unfold objB at hb ⊢
  rw [e 1 (by decide) (by decide), e 2 (by decide) (by decide), e 3 (by decide) (by decide), e 4 (by decide) (by decide), e 5 (by decide) (by decide), e 6 (by decide) (by decide), e 7 (by decide) (by decide), e 8 (by decide) (by decide), e 9 (by decide) (by decide), e 10 (by decide) (by decide), e 11 (by decide) (by decide), e 12 (by decide) (by decide), e 13 (by decide) (by decide), e 14 (by decide) (by decide), e 15 (by decide) (by decide), e 16 (by decide) (by decide), e 17 (by decide) (by decide), h0]
  simp only [Bool.and_eq_true] at hb ⊢
  simp only [hb, and_true, and_self]
theorem likeO_formed {o o' : List Dat} (h : LikeO c0 o o') (hb : formedP o) : formedP o' := by
  have e : ∀ c, 1 ≤ c → c < 18 → rowI o' c = rowI o c := fun c h1 h2 => h c h2 (fun hc => by unfold c0 at hc; omega)
  unfold formedP at hb ⊢
  rw [e 1 (by decide) (by decide), e 2 (by decide) (by decide), e 3 (by decide) (by decide), e 4 (by decide) (by decide), e 5 (by decide) (by decide), e 6 (by decide) (by decide), e 7 (by decide) (by decide), e 8 (by decide) (by decide), e 9 (by decide) (by decide), e 10 (by decide) (by decide), e 11 (by decide) (by decide), e 12 (by decide) (by decide), e 16 (by decide) (by decide)]
  exact hb
theorem mem_getD {l : List (List Dat)} {o : List Dat} (h : o ∈ l) : ∃ k, k < l.length ∧ l.getD k [] = o := by
  obtain ⟨k, hk, rfl⟩ := List.getElem_of_mem h
  exact ⟨k, hk, by rw [List.getD_eq_getElem?_getD, List.getElem?_eq_getElem hk]; rfl⟩
theorem errP_like {S U : List Dat} (h : LikeS c0 S U) (h0 : ∀ k, k < (argL S 0).length → inB (rowI ((argL U 0).getD k []) 0) 0 119 = true) (hS : errP S 0) : errP U 0 := by
  unfold errP at hS ⊢
  rw [h.len]
  split at hS
  · cases hS
  rename_i hlen
  rw [if_neg hlen]
  rcases hS with ⟨_, hx⟩ | ⟨_, _, hx⟩ | ⟨_, _, _, hx⟩ | ⟨hr, hz, hf, _⟩
  · cases hx
  · cases hx
  · cases hx
  refine .inr (.inr (.inr ⟨⟨fun o ho => ?_, ?_, ?_⟩, ?_, fun o ho => ?_, rfl⟩))
  · obtain ⟨k, hk, rfl⟩ := mem_getD ho
    rw [h.len] at hk
    rw [h.len]
    exact likeO_objB (h.obj k hk) (h0 k hk) (hr.1 _ (getD_memL hk))
  · intro i hi
    have := hr.2.1 i hi
    have e : ∀ j, j < 18 → pl U j = pl S j := fun j hj => h.ints j (by omega)
    rw [e _ (by omega), e _ (by omega), e _ (by omega)]
    refine ⟨this.1, this.2.1, this.2.2.1, fun k h1 h2 => ?_⟩
    rw [e _ (by omega)]
    exact this.2.2.2 k h1 h2
  · have e : ∀ j, j < 7 → gm U j = gm S j := fun j hj => by
      have := h.ints (18 + j) (by omega)
      rwa [show 12 + (18 + j) = 30 + j by omega] at this
    have hg := hr.2.2
    unfold gmP at hg ⊢
    rw [e 0 (by decide), e 1 (by decide), e 2 (by decide), e 3 (by decide), e 4 (by decide), e 5 (by decide), e 6 (by decide)]
    exact hg
  · have el : ∀ z, z < 11 → lst U z = lst S z := fun z hz => by unfold lst; rw [h.lists z hz]
    have ei : ∀ z, z ≤ 11 → ids U z = ids S z := by
      intro z
      induction z with
      | zero => intro _; rfl
      | succ z ih => intro hz; rw [ids, ids, ih (by omega)]; unfold idz; rw [el z (by omega)]
    obtain ⟨hz1, hz2, hz3⟩ := hz
    refine ⟨fun p hp => ?_, ?_, ?_⟩
    · rw [ei 11 (by omega)] at hp
      obtain ⟨p1, p2, p3, p4⟩ := hz1 p hp
      have hk : p.2.toNat < (argL S 0).length := by omega
      have ho := h.obj _ hk
      have e : ∀ c, 1 ≤ c → c < 18 → rowI (obj U p.2) c = rowI (obj S p.2) c := fun c h1 h2 => ho c h2 (fun hc => by unfold c0 at hc; omega)
      refine ⟨p1, by rw [h.len]; exact p2, by rw [e 3 (by decide) (by decide)]; exact p3, ?_⟩
      unfold standsP at p4 ⊢
      rw [e 1 (by decide) (by decide), e 13 (by decide) (by decide)]
      exact p4
    · rw [ei 11 (by omega)]; exact hz2
    · rw [ei 11 (by omega), h.len]; exact hz3
  · obtain ⟨k, hk, rfl⟩ := mem_getD ho
    rw [h.len] at hk
    exact likeO_formed (h.obj k hk) (hf _ (getD_memL hk))
/-- in a right state the bits of who knows are from 0 to 3 -/
theorem errP_knows {S : List Dat} (hS : errP S 0) {k : Nat} (hk : k < (argL S 0).length) : 0 ≤ rowI ((argL S 0).getD k []) 17 ∧ rowI ((argL S 0).getD k []) 17 ≤ 3 := by
  unfold errP at hS
  split at hS
  · cases hS
  rcases hS with ⟨_, hx⟩ | ⟨_, _, hx⟩ | ⟨_, _, _, hx⟩ | ⟨hr, hz, hf, _⟩
  · cases hx
  · cases hx
  · cases hx
  have := hr.1 _ (getD_memL (d := []) hk)
  unfold objB at this
  simp only [Bool.and_eq_true] at this
  have h17 : inB (rowI ((argL S 0).getD k []) 17) 0 3 = true := by simp only [this]
  unfold inB at h17
  simp only [Bool.and_eq_true, decide_eq_true_eq] at h17
  exact h17
end Go.Proofs.YtlgfnimahmmgeaaDoor
