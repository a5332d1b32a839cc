/-
  Plain mathematics of bits: numbers out of their bits, a number's lowest bits with a sign. No program in sight.
-/
namespace Go.Proofs.YtpmkdbiejeedeaaDoor.mth

/-- the number of the first n bits -/
def ofBits (f : Nat → Bool) : Nat → Nat
  | 0 => 0
  | n + 1 => ofBits f n + if f n then 2 ^ n else 0

theorem ofBits_lt (f : Nat → Bool) (n : Nat) : ofBits f n < 2 ^ n := by
  induction n with
  | zero => simp [ofBits]
  | succ n ih =>
    have : 2 ^ (n + 1) = 2 ^ n + 2 ^ n := by rw [Nat.pow_succ]; omega
    unfold ofBits
    split <;> omega

theorem testBit_ofBits (f : Nat → Bool) (n i : Nat) : (ofBits f n).testBit i = (decide (i < n) && f i) := by
  induction n with
  | zero => simp [ofBits]
  | succ n ih =>
    unfold ofBits
    have hl := ofBits_lt f n
    by_cases hf : f n = true
    · rw [if_pos hf, Nat.add_comm, Nat.testBit_two_pow_add_eq_or_lt f n i hl ih hf]
    · rw [if_neg hf, Nat.add_zero, ih]
      by_cases hi : i = n
      · subst hi; simp [hf]
      · have : decide (i < n + 1) = decide (i < n) := by
          rw [Bool.eq_iff_iff]; simp; omega
        rw [this]
where
  Nat.testBit_two_pow_add_eq_or_lt (f : Nat → Bool) (n i : Nat) {x : Nat} (hl : x < 2 ^ n) (ih : x.testBit i = (decide (i < n) && f i)) (hf : f n = true) :
      (2 ^ n + x).testBit i = (decide (i < n + 1) && f i) := by
    rcases Nat.lt_trichotomy i n with h | h | h
    · rw [Nat.testBit_two_pow_add_gt h, ih]
      have : decide (i < n + 1) = decide (i < n) := by rw [Bool.eq_iff_iff]; simp; omega
      rw [this]
    · subst h
      rw [Nat.testBit_two_pow_add_eq, Nat.testBit_lt_two_pow hl]
      simp [hf]
    · have h1 : (2 ^ n + x) < 2 ^ i := by
        have : 2 ^ (n + 1) ≤ 2 ^ i := Nat.pow_le_pow_right (by omega) (by omega)
        have : 2 ^ (n + 1) = 2 ^ n + 2 ^ n := by rw [Nat.pow_succ]; omega
        omega
      rw [Nat.testBit_lt_two_pow h1]
      simp; omega

theorem ofBits_congr {f g : Nat → Bool} {n : Nat} (h : ∀ i, i < n → f i = g i) : ofBits f n = ofBits g n := by
  induction n with
  | zero => rfl
  | succ n ih =>
    unfold ofBits
    rw [ih (fun i hi => h i (by omega)), h n (by omega)]

/-- a number is the number of its bits -/
theorem ofBits_testBit (x n : Nat) (h : x < 2 ^ n) : ofBits (fun i => x.testBit i) n = x := by
  apply Nat.eq_of_testBit_eq
  intro i
  rw [testBit_ofBits]
  by_cases hi : i < n
  · simp [hi]
  · have : x < 2 ^ i := Nat.lt_of_lt_of_le h (Nat.pow_le_pow_right (by omega) (by omega))
    rw [Nat.testBit_lt_two_pow this]
    simp [hi]

theorem eq_ofBits {x n : Nat} {f : Nat → Bool} (hx : x < 2 ^ n) (h : ∀ i, i < n → x.testBit i = f i) : x = ofBits f n := by
  rw [← ofBits_testBit x n hx]
  exact ofBits_congr h

/-- Narrow, by arithmetic. -/
def narrow (n w : Int) : Int := if w < 1 ∨ 64 < w then n else (n + 2 ^ (w.toNat - 1)) % 2 ^ w.toNat - 2 ^ (w.toNat - 1)

/-- the bits of a narrowed number -/
def nbits (u w : Nat) : Nat → Bool := fun i => if i < w then u.testBit i else u.testBit (w - 1)

theorem ofBits_low (u w n : Nat) (h : n ≤ w) : ofBits (nbits u w) n = u % 2 ^ n := by
  have : ofBits (nbits u w) n = ofBits (fun i => (u % 2 ^ n).testBit i) n := by
    apply ofBits_congr
    intro i hi
    simp only [nbits]
    rw [if_pos (by omega), Nat.testBit_mod_two_pow]
    simp [hi]
  rw [this, ofBits_testBit _ _ (Nat.mod_lt _ (Nat.two_pow_pos n))]

theorem ofBits_high (u w k : Nat) : ofBits (nbits u w) (w + k) = u % 2 ^ w + if u.testBit (w - 1) then 2 ^ (w + k) - 2 ^ w else 0 := by
  induction k with
  | zero =>
    rw [Nat.add_zero, ofBits_low u w w (Nat.le_refl _)]
    simp
  | succ k ih =>
    show ofBits (nbits u w) (w + k) + (if nbits u w (w + k) then 2 ^ (w + k) else 0) = _
    have hn : nbits u w (w + k) = u.testBit (w - 1) := by simp only [nbits]; rw [if_neg (by omega)]
    have h2 : 2 ^ (w + (k + 1)) = 2 ^ (w + k) + 2 ^ (w + k) := by rw [← Nat.add_assoc, Nat.pow_succ]; omega
    have h3 : 2 ^ w ≤ 2 ^ (w + k) := Nat.pow_le_pow_right (by omega) (by omega)
    rw [ih, hn]
    split <;> omega

theorem testBit_top (u w : Nat) (hw : 1 ≤ w) : u.testBit (w - 1) = decide (2 ^ (w - 1) ≤ u % 2 ^ w) := by
  have h2 : 2 ^ w = 2 ^ (w - 1) + 2 ^ (w - 1) := by
    have : w = (w - 1) + 1 := by omega
    rw [this, Nat.pow_succ]; simp; omega
  have h1 : (u % 2 ^ w).testBit (w - 1) = u.testBit (w - 1) := by
    rw [Nat.testBit_mod_two_pow]; simp; omega
  rw [← h1]
  have hl : u % 2 ^ w < 2 ^ w := Nat.mod_lt _ (Nat.two_pow_pos w)
  generalize u % 2 ^ w = x at *
  by_cases hx : 2 ^ (w - 1) ≤ x
  · have e : x = 2 ^ (w - 1) + (x - 2 ^ (w - 1)) := by omega
    rw [e, Nat.testBit_two_pow_add_eq, Nat.testBit_lt_two_pow (by omega)]
    simp
  · rw [Nat.testBit_lt_two_pow (by omega)]
    simp; omega

theorem two_split (w : Nat) (h1 : 1 ≤ w) (h2 : w ≤ 64) : ∃ p q : Int, 0 < p ∧ 0 < q ∧ (2 : Int) ^ (w - 1) = p ∧ (2 : Int) ^ w = 2 * p ∧ (2 : Int) ^ (64 - w) = q ∧ q * (2 * p) = 18446744073709551616 ∧ q * p = 9223372036854775808 := by
  refine ⟨2 ^ (w - 1), 2 ^ (64 - w), Int.pow_pos (by omega), Int.pow_pos (by omega), rfl, ?_, rfl, ?_, ?_⟩
  · have : w = (w - 1) + 1 := by omega
    rw (config := { occs := .pos [1] }) [this]
    rw [Int.pow_succ]; omega
  · have e : (2 : Int) * 2 ^ (w - 1) = 2 ^ w := by
      have : w = (w - 1) + 1 := by omega
      rw (config := { occs := .pos [2] }) [this]
      rw [Int.pow_succ]; omega
    rw [e, ← Int.pow_add]
    have : 64 - w + w = 64 := by omega
    rw [this]; rfl
  · rw [← Int.pow_add]
    have : 64 - w + (w - 1) = 63 := by omega
    rw [this]; rfl

/-- the shifts -/
theorem narrow_shifts (n : Int) (w : Nat) (h1 : 1 ≤ w) (h2 : w ≤ 64) :
    ((n * 2 ^ (64 - w) + 9223372036854775808) % 18446744073709551616 - 9223372036854775808) / (2 ^ (64 - w)) = narrow n w := by
  obtain ⟨p, q, hp, hq, e1, e2, e3, e4, e5⟩ := two_split w h1 h2
  unfold narrow
  rw [if_neg (by omega), Int.toNat_natCast, e1, e2, e3, ← e4, ← e5]
  have : n * q + q * p = q * (n + p) := by rw [Int.mul_add, Int.mul_comm n q]
  rw [this, Int.mul_emod_mul_of_pos _ _ hq, ← Int.mul_sub, Int.mul_ediv_cancel_left _ (by omega)]

/-- the bits -/
theorem narrow_bits (n : Int) (u w : Nat) (h1 : 1 ≤ w) (h2 : w ≤ 64) (hu : (u : Int) = n % 18446744073709551616) :
    ((ofBits (nbits u w) 64 : Nat) + 9223372036854775808 : Int) % 18446744073709551616 - 9223372036854775808 = narrow n w := by
  obtain ⟨p, q, hp, hq, e1, e2, e3, e4, e5⟩ := two_split w h1 h2
  have h64 : 64 = w + (64 - w) := by omega
  rw (config := { occs := .pos [1] }) [h64]
  have hnr : narrow n w = (n + p) % (2 * p) - p := by
    unfold narrow
    rw [if_neg (by omega), Int.toNat_natCast, e1, e2]
  rw [hnr, ofBits_high, ← h64, testBit_top u w h1]
  clear hnr
  have c1 : ((2 ^ (w - 1) : Nat) : Int) = p := by rw [Int.natCast_pow]; exact e1
  have c2 : ((2 ^ w : Nat) : Int) = 2 * p := by rw [Int.natCast_pow]; exact e2
  have c3 : (u % 2 ^ w : Nat) = (n % (2 * p)) := by
    rw [Int.natCast_emod, c2, hu, ← e4]
    exact Int.emod_emod_of_dvd n ⟨q, by rw [Int.mul_comm]⟩
  have hl : 0 ≤ n % (2 * p) := Int.emod_nonneg _ (by omega)
  have hl' : n % (2 * p) < 2 * p := Int.emod_lt_of_pos _ (by omega)
  have hle : 2 * p ≤ 18446744073709551616 := by
    rw [← e4]
    have := Int.mul_le_mul_of_nonneg_right (show (1 : Int) ≤ q by omega) (show 0 ≤ 2 * p by omega)
    omega
  have hx : (n + p) % (2 * p) = (n % (2 * p) + p) % (2 * p) := by rw [Int.emod_add_emod]
  rw [hx]
  generalize hm : n % (2 * p) = m at *
  generalize hu2 : u % 2 ^ w = v at *
  have h2w : (2 ^ w : Nat) ≤ 2 ^ 64 := Nat.pow_le_pow_right (by omega) h2
  have h64' : (2 : Nat) ^ 64 = 18446744073709551616 := rfl
  rw [h64'] at *
  by_cases hb : 2 ^ (w - 1) ≤ v
  · rw [if_pos (decide_eq_true hb)]
    have : (m + p) % (2 * p) = m - p := by
      have : m + p = (m - p) + 2 * p := by omega
      rw [this, Int.add_emod_right]
      exact Int.emod_eq_of_lt (by omega) (by omega)
    rw [this]
    omega
  · rw [if_neg (by rw [decide_eq_true_eq]; exact hb)]
    have : (m + p) % (2 * p) = m + p := Int.emod_eq_of_lt (by omega) (by omega)
    rw [this]
    omega

/-- all bits below n -/
def mask (n : Int) : Nat := 2 ^ (min n.toNat 64) - 1
theorem mask_lt (n : Int) : mask n < 18446744073709551616 := by
  have : 2 ^ (min n.toNat 64) ≤ 2 ^ 64 := Nat.pow_le_pow_right (by omega) (by omega)
  have h64 : (2 : Nat) ^ 64 = 18446744073709551616 := rfl
  have := Nat.two_pow_pos (min n.toNat 64)
  unfold mask; omega
theorem testBit_mask (n : Int) (i : Nat) : (mask n).testBit i = (decide ((i : Int) < n) && decide (i < 64)) := by
  unfold mask
  rw [Nat.testBit_two_pow_sub_one, Bool.eq_iff_iff]
  simp; omega
theorem testBit_not64 (b i : Nat) (h : b < 18446744073709551616) : (18446744073709551615 - b).testBit i = (decide (i < 64) && !b.testBit i) := by
  have : 18446744073709551615 - b = 2 ^ 64 - (b + 1) := by
    have h64 : (2 : Nat) ^ 64 = 18446744073709551616 := rfl
    omega
  rw [this, Nat.testBit_two_pow_sub_succ h]

def span (a b : Int) : Nat := ofBits (fun i => decide (a ≤ (i : Int)) && decide ((i : Int) < b)) 64
theorem span_eq (a b : Int) : mask b &&& (18446744073709551615 - mask a) = span a b := by
  unfold span
  apply eq_ofBits
  · exact Nat.and_lt_two_pow _ (by have := mask_lt a; have h64 : (2 : Nat) ^ 64 = 18446744073709551616 := rfl; omega)
  · intro i hi
    rw [Nat.testBit_and, testBit_not64 _ _ (mask_lt a), testBit_mask, testBit_mask, Bool.eq_iff_iff]
    simp [hi]; omega

/-- is there such a part? -/
def isP (m wd : Int) : Prop := 0 ≤ m ∧ m < 64 ∧ 1 ≤ wd ∧ wd ≤ 64 - m
instance (m wd : Int) : Decidable (isP m wd) := by unfold isP; infer_instance

def partB (x m wd : Nat) : Nat → Bool := fun i => decide (i < wd) && x.testBit (m + i)
def putB (x m wd p : Nat) : Nat → Bool := fun i => if m ≤ i ∧ i < m + wd then p.testBit (i - m) else x.testBit i

theorem part_eq (x m wd : Nat) : (x / 2 ^ m) &&& mask wd = ofBits (partB x m wd) 64 := by
  apply eq_ofBits
  · exact Nat.and_lt_two_pow _ (mask_lt _)
  · intro i hi
    rw [Nat.testBit_and, Nat.testBit_div_two_pow, testBit_mask, partB, Nat.add_comm i m, Bool.and_comm]
    congr 1
    rw [Bool.eq_iff_iff]; simp; omega

theorem testBit_shl64 (x m i : Nat) : (x * 2 ^ m % 18446744073709551616).testBit i = (decide (i < 64) && (decide (m ≤ i) && x.testBit (i - m))) := by
  have h64 : (18446744073709551616 : Nat) = 2 ^ 64 := rfl
  rw [h64, Nat.testBit_mod_two_pow, Nat.testBit_mul_two_pow]

theorem put_eq (x m wd p : Nat) (hp : p < 2 ^ wd) :
    (x &&& (18446744073709551615 - mask wd * 2 ^ m % 18446744073709551616)) ||| (p * 2 ^ m % 18446744073709551616) = ofBits (putB x m wd p) 64 := by
  have h64 : (2 : Nat) ^ 64 = 18446744073709551616 := rfl
  apply eq_ofBits
  · apply Nat.or_lt_two_pow
    · exact Nat.and_lt_two_pow _ (by omega)
    · omega
  · intro i hi
    rw [Nat.testBit_or, Nat.testBit_and, testBit_not64 _ _ (by omega), testBit_shl64, testBit_shl64, testBit_mask, putB]
    simp only [hi, decide_true, Bool.true_and]
    by_cases h1 : m ≤ i
    · simp only [h1, decide_true, Bool.true_and, true_and]
      have hlt : i - m < 64 := by omega
      simp only [hlt, decide_true, Bool.and_true]
      by_cases h2 : i < m + wd
      · have h3 : ((i - m : Nat) : Int) < (wd : Int) := by omega
        simp [h2, h3]
      · have h3 : ¬ ((i - m : Nat) : Int) < (wd : Int) := by omega
        have h4 : p < 2 ^ (i - m) := Nat.lt_of_lt_of_le hp (Nat.pow_le_pow_right (by omega) (by omega))
        simp [h2, h3, Nat.testBit_lt_two_pow h4]
    · simp [h1]

/-- a number has no bit from wd on just where it is below 2^wd -/
theorem fits_iff (p wd : Nat) (hp : p < 18446744073709551616) : p &&& (18446744073709551615 - mask wd) = 0 ↔ p < 2 ^ wd := by
  constructor
  · intro h
    apply Nat.lt_pow_two_of_testBit
    intro i hi
    have := congrArg (fun y => y.testBit i) h
    simp only [Nat.testBit_and, testBit_not64 _ _ (mask_lt _), testBit_mask, Nat.zero_testBit] at this
    by_cases hi64 : i < 64
    · have h3 : ¬ (i : Int) < (wd : Int) := by omega
      simpa [hi64, h3] using this
    · exact Nat.testBit_lt_two_pow (Nat.lt_of_lt_of_le hp (Nat.pow_le_pow_right (n := 2) (by omega) (show 64 ≤ i by omega)))
  · intro h
    apply Nat.eq_of_testBit_eq
    intro i
    simp only [Nat.testBit_and, testBit_not64 _ _ (mask_lt _), testBit_mask, Nat.zero_testBit]
    by_cases hi : i < wd
    · have h3 : (i : Int) < (wd : Int) := by omega
      by_cases h64 : i < 64 <;> simp [h3, h64]
    · rw [Nat.testBit_lt_two_pow (Nat.lt_of_lt_of_le h (Nat.pow_le_pow_right (by omega) (by omega)))]
      simp

theorem bit_of_not_fits (p wd : Nat) (h : ¬ p < 2 ^ wd) : ∃ i, wd ≤ i ∧ p.testBit i = true := by
  apply Classical.byContradiction
  intro hn
  apply h
  apply Nat.lt_pow_two_of_testBit
  intro i hi
  cases hb : p.testBit i
  · rfl
  · exact absurd ⟨i, hi, hb⟩ hn

theorem span_ex : span 62 70 = 13835058055282163712 := by decide +kernel
theorem narrow_ex : narrow 200 8 = -56 := by decide +kernel

end Go.Proofs.YtpmkdbiejeedeaaDoor.mth
