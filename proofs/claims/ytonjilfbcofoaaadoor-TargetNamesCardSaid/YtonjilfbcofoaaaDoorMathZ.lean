/-
  Plain lists: each of n numbers once.
-/
import Derived.Test.YtonjilfbcofoaaaDoorSymP
namespace Go.Proofs.YtonjilfbcofoaaaDoor
set_option linter.unusedVariables false

theorem count_lt : ∀ (n : Nat) (l : List Int), (∀ x ∈ l, 0 ≤ x ∧ x < (n : Int)) → l.Nodup → l.length ≤ n ∧ (l.length = n → ∀ k : Nat, k < n → (k : Int) ∈ l)
  | 0, l, h, _ => by
    have : l = [] := by
      cases l with
      | nil => rfl
      | cons x l => have := h x (by simp); omega
    subst this
    exact ⟨by simp, fun _ k hk => by omega⟩
  | n + 1, l, h, hn => by
    by_cases hm : (n : Int) ∈ l
    · have hne : ∀ x ∈ l.erase (n : Int), x ≠ (n : Int) := fun x hx e => by
        subst e
        exact (List.Nodup.mem_erase_iff hn).1 hx |>.1 rfl
      have hsub : ∀ x ∈ l.erase (n : Int), 0 ≤ x ∧ x < (n : Int) := fun x hx => by
        have h1 := h x (List.mem_of_mem_erase hx)
        have h2 := hne x hx
        omega
      obtain ⟨i1, i2⟩ := count_lt n (l.erase (n : Int)) hsub (hn.erase _)
      have hl : (l.erase (n : Int)).length = l.length - 1 := List.length_erase_of_mem hm
      have hpos : 0 < l.length := List.length_pos_of_mem hm
      refine ⟨by omega, fun e k hk => ?_⟩
      by_cases hkn : k = n
      · subst hkn; exact hm
      · exact List.mem_of_mem_erase (i2 (by omega) k (by omega))
    · have hsub : ∀ x ∈ l, 0 ≤ x ∧ x < (n : Int) := fun x hx => by
        have h1 := h x hx
        have : x ≠ (n : Int) := fun e => hm (e ▸ hx)
        omega
      obtain ⟨i1, i2⟩ := count_lt n l hsub hn
      exact ⟨by omega, fun e => by omega⟩
theorem once_of : ∀ (n : Nat) (l : List Int), (∀ x ∈ l, 0 ≤ x ∧ x < (n : Int)) → (∀ k : Nat, k < n → l.count (k : Int) = 1) → l.length = n
  | 0, l, h, _ => by
    cases l with
    | nil => rfl
    | cons x l => have := h x (by simp); omega
  | n + 1, l, h, hc => by
    have hm : (n : Int) ∈ l := List.count_pos_iff.1 (by rw [hc n (by omega)]; omega)
    have hcnt : ∀ k : Nat, k < n → (l.erase (n : Int)).count (k : Int) = 1 := fun k hk => by
      rw [List.count_erase_of_ne (by omega)]; exact hc k (by omega)
    have hsub : ∀ x ∈ l.erase (n : Int), 0 ≤ x ∧ x < (n : Int) := fun x hx => by
      have h1 := h x (List.mem_of_mem_erase hx)
      have h2 : x ≠ (n : Int) := fun e => by
        subst e
        have := List.count_pos_iff.2 hx
        rw [List.count_erase_self, hc n (by omega)] at this
        omega
      omega
    have ih := once_of n (l.erase (n : Int)) hsub hcnt
    have hl : (l.erase (n : Int)).length = l.length - 1 := List.length_erase_of_mem hm
    have hpos : 0 < l.length := List.length_pos_of_mem hm
    omega
theorem nodup_of_count {n : Nat} {l : List Int} (h : ∀ x ∈ l, 0 ≤ x ∧ x < (n : Int)) (hc : ∀ k : Nat, k < n → l.count (k : Int) = 1) : l.Nodup := by
  rw [List.nodup_iff_count]
  intro x
  by_cases hx : x ∈ l
  · obtain ⟨h1, h2⟩ := h x hx
    obtain ⟨k, rfl⟩ := Int.eq_ofNat_of_zero_le h1
    rw [hc k (by omega)]; exact Nat.le_refl _
  · rw [List.count_eq_zero.2 hx]; omega
/-- numbers below n, each at most once and as many as n: each just once -/
theorem once_iff {n : Nat} {l : List Int} (h : ∀ x ∈ l, 0 ≤ x ∧ x < (n : Int)) : (l.Nodup ∧ l.length = n) ↔ ∀ k : Nat, k < n → l.count (k : Int) = 1 := by
  refine ⟨fun ⟨h1, h2⟩ k hk => ?_, fun hc => ⟨nodup_of_count h hc, once_of n l h hc⟩⟩
  have hm := (count_lt n l h h1).2 h2 k hk
  have h3 := List.nodup_iff_count.1 h1 (k : Int)
  have h4 := List.count_pos_iff.2 hm
  omega
end Go.Proofs.YtonjilfbcofoaaaDoor
