/-
  Plain mathematics: the least bit of a number, by the product with a de Bruijn number; sets with and without a number. No program in sight.
-/
import Derived.Test.YtlfeaahbmahhgaaDoorMathP
namespace Go.Proofs.YtlfeaahbmahhgaaDoor.mth

/-- the least i from k on, below k + m, that x has; -1: none -/
def leastFrom (x : Nat) : Nat → Nat → Int
  | _, 0 => -1
  | k, m + 1 => if x.testBit k then (k : Int) else leastFrom x (k + 1) m

theorem leastFrom_none (x : Nat) (m : Nat) : ∀ k, leastFrom x k m = -1 → ∀ j, j < m → x.testBit (k + j) = false := by
  induction m with
  | zero => intro k _ j hj; omega
  | succ m ih =>
    intro k h j hj
    unfold leastFrom at h
    by_cases hb : x.testBit k = true
    · rw [if_pos hb] at h; omega
    · rw [if_neg hb] at h
      cases j with
      | zero => simpa using hb
      | succ j => have := ih (k + 1) h j (by omega); rwa [show k + (j + 1) = k + 1 + j from by omega]
theorem leastFrom_some (x : Nat) (m : Nat) : ∀ k, leastFrom x k m ≠ -1 → ∃ i : Nat, leastFrom x k m = (i : Int) ∧ k ≤ i ∧ i < k + m ∧ x.testBit i = true ∧ ∀ j, k ≤ j → j < i → x.testBit j = false := by
  induction m with
  | zero => intro k h; exact absurd rfl h
  | succ m ih =>
    intro k h
    unfold leastFrom at h ⊢
    by_cases hb : x.testBit k = true
    · rw [if_pos hb]
      exact ⟨k, rfl, by omega, by omega, hb, fun j h1 h2 => by omega⟩
    · rw [if_neg hb] at h ⊢
      obtain ⟨i, e, h1, h2, h3, h4⟩ := ih (k + 1) h
      refine ⟨i, e, by omega, by omega, h3, fun j hj1 hj2 => ?_⟩
      by_cases hjk : j = k
      · subst hjk; simpa using hb
      · exact h4 j (by omega) hj2
theorem leastFrom_zero (m k : Nat) : leastFrom 0 k m = -1 := by
  induction m generalizing k with
  | zero => rfl
  | succ m ih => unfold leastFrom; rw [Nat.zero_testBit, if_neg (by simp), ih]
theorem leastFrom_ne (x : Nat) (hx : x < 2 ^ 64) (h0 : x ≠ 0) : leastFrom x 0 64 ≠ -1 := by
  intro h
  apply h0
  apply Nat.eq_of_testBit_eq
  intro i
  rw [Nat.zero_testBit]
  by_cases hi : i < 64
  · have := leastFrom_none x 64 0 h i hi; simpa using this
  · exact Nat.testBit_lt_two_pow (Nat.lt_of_lt_of_le hx (Nat.pow_le_pow_right (by omega) (by omega)))

/-- the least bit alone -/
theorem and_neg (x k : Nat) (hx : x < 18446744073709551616) (hk : x.testBit k = true) (hl : ∀ j, j < k → x.testBit j = false) : x &&& (18446744073709551616 - x) = 2 ^ k := by
  have hk64 : k < 64 := by
    apply Classical.byContradiction
    intro h
    rw [Nat.testBit_lt_two_pow (Nat.lt_of_lt_of_le (show x < 2 ^ 64 from hx) (Nat.pow_le_pow_right (by omega) (by omega)))] at hk
    cases hk
  have hq : x = 2 ^ (k + 1) * (x / 2 ^ (k + 1)) + 2 ^ k := by
    have h1 : x % 2 ^ (k + 1) = 2 ^ k := by
      apply Nat.eq_of_testBit_eq
      intro i
      rw [Nat.testBit_mod_two_pow, Nat.testBit_two_pow]
      rcases Nat.lt_trichotomy i k with h | h | h
      · rw [hl i h]; simp; omega
      · subst h; simp [hk]
      · have : ¬ i < k + 1 := by omega
        simp [this]; omega
    have := Nat.div_add_mod x (2 ^ (k + 1))
    omega
  have h2k := Nat.two_pow_pos k
  have hx1 : x - 1 = 2 ^ (k + 1) * (x / 2 ^ (k + 1)) + (2 ^ k - 1) := by omega
  have hlt : 2 ^ k < 2 ^ (k + 1) := by rw [Nat.pow_succ]; omega
  apply Nat.eq_of_testBit_eq
  intro i
  have hs : 18446744073709551616 - x = 2 ^ 64 - ((x - 1) + 1) := by
    have : (2 : Nat) ^ 64 = 18446744073709551616 := rfl
    omega
  rw [Nat.testBit_and, hs, Nat.testBit_two_pow_sub_succ (show x - 1 < 2 ^ 64 by have : (2 : Nat) ^ 64 = 18446744073709551616 := rfl; omega), hx1, Nat.testBit_two_pow_mul_add _ (by omega), Nat.testBit_two_pow]
  rw [Nat.testBit_two_pow_sub_one]
  rcases Nat.lt_trichotomy i k with h | h | h
  · rw [hl i h]; simp; omega
  · subst h; simp [hk, hk64]
  · have h1 : ¬ i < k + 1 := by omega
    have h3 : ¬ k = i := by omega
    rw [if_neg h1]
    have : x.testBit i = (x / 2 ^ (k + 1)).testBit (i - (k + 1)) := by
      rw [Nat.testBit_div_two_pow]; congr 1; omega
    rw [this]
    cases (x / 2 ^ (k + 1)).testBit (i - (k + 1)) <;> simp [h3]

def tab : List Nat := [0, 1, 56, 2, 57, 49, 28, 3, 61, 58, 42, 50, 38, 29, 17, 4, 62, 47, 59, 36, 45, 43, 51, 22, 53, 39, 33, 30, 24, 18, 12, 5, 63, 55, 48, 27, 60, 41, 37, 16, 46, 35, 44, 21, 52, 32, 23, 11, 54, 26, 40, 15, 34, 20, 31, 10, 25, 14, 19, 9, 13, 8, 7, 6]

theorem tab_at : ∀ k, k < 64 → (2 ^ k * 285870213051353865 % 18446744073709551616) / 288230376151711744 < 64 ∧ tab.getD ((2 ^ k * 285870213051353865 % 18446744073709551616) / 288230376151711744) 0 = k := by
  decide +kernel

/-- a set with a number, or without it, by its bits -/
def setB (x i : Nat) (is : Bool) : Nat → Bool := fun j => if j = i then is else x.testBit j
theorem with_eq (x i : Nat) (hx : x < 18446744073709551616) (hi : i < 64) : x ||| 2 ^ i = ofBits (setB x i true) 64 := by
  apply eq_ofBits
  · exact Nat.or_lt_two_pow hx (Nat.pow_lt_pow_right (by omega) hi)
  · intro j hj
    rw [Nat.testBit_or, Nat.testBit_two_pow, setB]
    by_cases e : j = i
    · subst e; simp
    · have : ¬ i = j := fun h => e h.symm
      simp [e, this]
theorem without_eq (x i : Nat) (hx : x < 18446744073709551616) (hi : i < 64) : x &&& (18446744073709551615 - 2 ^ i) = ofBits (setB x i false) 64 := by
  have h2 : 2 ^ i < 18446744073709551616 := Nat.pow_lt_pow_right (a := 2) (by omega) (show i < 64 from hi)
  apply eq_ofBits
  · exact Nat.lt_of_le_of_lt Nat.and_le_left hx
  · intro j hj
    rw [Nat.testBit_and, testBit_not64 _ _ h2, Nat.testBit_two_pow, setB]
    by_cases e : j = i
    · subst e; simp
    · have : ¬ i = j := fun h => e h.symm
      simp [e, this, hj]

/-- how many bits are set from k on -/
def cntFrom (x k : Nat) : Nat := sm (fun j => bitN x (k + j)) (64 - k)
theorem cntFrom_all (x : Nat) : cntFrom x 0 = popc x := by
  unfold cntFrom popc
  exact sm_congr _ fun j _ => by rw [Nat.zero_add]
theorem cntFrom_step (x k : Nat) (hk : k < 64) : cntFrom x k = (x.testBit k).toNat + cntFrom x (k + 1) := by
  unfold cntFrom
  rw [show 64 - k = (64 - (k + 1)) + 1 from by omega]
  simp only [sm]
  rw [Nat.add_zero, bitN_eq]
  congr 1
  exact sm_congr _ fun j _ => by rw [show k + (j + 1) = k + 1 + j from by omega]
theorem cntFrom_le (x k : Nat) : cntFrom x k ≤ 64 := by
  unfold cntFrom
  have := sm_le (64 - k) (fun j => bitN x (k + j)) (fun j => by have := bitN_lt x (k + j); omega)
  omega
theorem leastFrom_step (x k : Nat) (hk : k < 64) : leastFrom x k (64 - k) = if x.testBit k then (k : Int) else leastFrom x (k + 1) (64 - (k + 1)) := by
  rw [show 64 - k = (64 - (k + 1)) + 1 from by omega]
  rfl

end Go.Proofs.YtlfeaahbmahhgaaDoor.mth
