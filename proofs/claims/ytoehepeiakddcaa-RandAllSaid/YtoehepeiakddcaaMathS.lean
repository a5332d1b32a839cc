/-
  Plain facts: each order is drawn by draws that are told from it.
-/
import Derived.Test.YtoehepeiakddcaaMathR
namespace Go.Proofs.Ytoehepeiakddcaa.mth

def Onto (l : List Int) (n : Nat) : Prop := ∀ x : Int, 0 ≤ x → x < n → x ∈ l
theorem onto_iota (n : Nat) : Onto (iota n) n := fun x h1 h2 => by
  simp only [iota, List.mem_map, List.mem_range]
  exact ⟨x.toNat, by omega, by omega⟩
theorem mem_swp {l : List Int} {i k : Nat} (hi : i < l.length) (hk : k < l.length) {x : Int} (h : x ∈ l) : x ∈ swp l i k := by
  obtain ⟨j, hj, rfl⟩ := List.getElem_of_mem h
  have key : ∀ a, (ha : a < l.length) → (swp l i k)[a]'(by rw [swp_len]; exact ha) = l[j] → l[j] ∈ swp l i k := fun a ha e => by
    rw [← e]; exact List.getElem_mem _
  by_cases h1 : j = i
  · subst h1
    exact key k hk (by rw [swp_get hi hk hk]; simp)
  by_cases h2 : j = k
  · subst h2
    refine key i hi ?_
    rw [swp_get hi hk hi]
    have : ¬ i = j := fun e => h1 e.symm
    simp [this]
  · exact key j hj (by rw [swp_get hi hk hj]; simp [h1, h2])
/-- an order of n -/
structure Ordr (l : List Int) (n : Nat) : Prop where
  len : l.length = n
  inj : Inj l
  onto : Onto l n
  bd : ∀ x ∈ l, 0 ≤ x ∧ x < n
theorem ordr_iota (n : Nat) : Ordr (iota n) n := ⟨iota_len n, inj_iota n, onto_iota n, fun x hx => by simp [iota] at hx; omega⟩
theorem Ordr.swp {l : List Int} {n i k : Nat} (h : Ordr l n) (hi : i < n) (hk : k < n) : Ordr (swp l i k) n := by
  have hi' : i < l.length := by rw [h.len]; exact hi
  have hk' : k < l.length := by rw [h.len]; exact hk
  exact ⟨by rw [swp_len, h.len], inj_swp hi' hk' h.inj, fun x h1 h2 => mem_swp hi' hk' (h.onto x h1 h2), fun x hx => h.bd x (swp_mem hi' hk' hx)⟩

/-- places above i stand as wanted; the draws so far make what stands now -/
structure St (n : Nat) (want : List Int) (i : Nat) (d now : List Int) : Prop where
  ord : Ordr now n
  len : d.length + i + 1 = n
  up : ∀ j, i < j → j < n → now.getD j 0 = want.getD j 0
  run : ∀ e, shuf (d ++ e) (n - 1) 0 (iota n) = shuf (d ++ e) i d.length now
theorem St.start {n : Nat} (want : List Int) (h : 0 < n) : St n want (n - 1) [] (iota n) :=
  ⟨ordr_iota n, by simp; omega, fun j h1 h2 => by omega, fun e => by simp⟩
theorem St.found {n i : Nat} {want d now : List Int} (h : St n want i d now) (hw : Ordr want n) : ∃ k, k ≤ i ∧ now.getD k 0 = want.getD i 0 := by
  have hi : i < n := by have := h.len; omega
  have hiw : i < want.length := by rw [hw.len]; exact hi
  have hx := hw.bd want[i] (List.getElem_mem _)
  obtain ⟨k, hk, e⟩ := List.getElem_of_mem (h.ord.onto _ hx.1 hx.2)
  refine ⟨k, ?_, by rw [getD_get hk, getD_get hiw, e]⟩
  apply Classical.byContradiction
  intro hki
  have hkn : k < n := by rw [← h.ord.len]; exact hk
  have hkw : k < want.length := by rw [hw.len]; exact hkn
  have := h.up k (by omega) hkn
  rw [getD_get hk, getD_get hkw, e] at this
  have := hw.inj i k hiw hkw this
  omega
theorem St.step {n i k : Nat} {want d now : List Int} (h : St n want (i + 1) d now) (hk : k ≤ i + 1) (hf : now.getD k 0 = want.getD (i + 1) 0) :
    St n want i (d ++ [(k : Int)]) (swp now (i + 1) k) := by
  have hl := h.len
  have hon := h.ord.len
  have hi' : i + 1 < now.length := by omega
  have hk' : k < now.length := by omega
  refine ⟨h.ord.swp (by omega) (by omega), by simp; omega, fun j h1 h2 => ?_, fun e => ?_⟩
  · have hj : j < now.length := by omega
    rw [getD_get (by rw [swp_len]; exact hj), swp_get hi' hk' hj]
    by_cases h3 : j = i + 1
    · subst h3
      by_cases h4 : i + 1 = k
      · subst h4
        rw [if_pos rfl, ← hf, getD_get hi']
      · rw [if_neg h4, if_pos rfl, ← hf, getD_get hk']
    · have h4 : ¬ j = k := by omega
      rw [if_neg h4, if_neg h3, ← h.up j (by omega) h2, getD_get hj]
  · have hr := h.run ((k : Int) :: e)
    have e1 : d ++ (k : Int) :: e = d ++ [(k : Int)] ++ e := by simp
    rw [e1] at hr
    rw [hr, shuf]
    have e2 : (d ++ [(k : Int)] ++ e).getD d.length 0 = (k : Int) := by simp [List.getD_eq_getElem?_getD]
    rw [e2, Int.emod_eq_of_lt (by omega) (by omega), Int.toNat_natCast]
    simp
theorem St.done {n : Nat} {want d now : List Int} (h : St n want 0 d now) (hw : Ordr want n) : shuf d (n - 1) 0 (iota n) = want := by
  have hr := h.run []
  rw [List.append_nil] at hr
  rw [hr]
  show now = want
  have hl := h.len
  have h1 := h.ord.len
  have h2 := hw.len
  obtain ⟨k, hk, e⟩ := h.found hw
  obtain rfl : k = 0 := by omega
  apply List.ext_getElem (by omega)
  intro j a b
  by_cases hj : j = 0
  · subst hj
    rw [getD_get a, getD_get b] at e; exact e
  · have := h.up j (by omega) (by omega)
    rw [getD_get a, getD_get b] at this; exact this
theorem ord_of {n : Nat} {d want : List Int} (hd : d.length = n - 1) (hn : n ≤ 12) (h : shuf d (n - 1) 0 (iota n) = want) :
    ordErr d.length 0 n = 0 ∧ ordL d 0 n = want ∧ ordC d 0 n = d.length := by
  rcases ord_cases d 0 n with ⟨a, _⟩ | ⟨_, a, _⟩ | ⟨_, _, a, _⟩ | ⟨_, _, _, h1, h2, h3⟩
  · omega
  · omega
  · omega
  · refine ⟨h1, ?_, by omega⟩
    rw [h2, Int.toNat_natCast, ← h]; rfl
end Go.Proofs.Ytoehepeiakddcaa.mth
