/-
  Plain mathematics of numbers as bytes. No program in sight.
-/
namespace Go.Proofs.Ytkilkcgnfhlfiaa.mth

/-- what stands for a number -/
def zig (n : Int) : Nat := if 0 ≤ n then (2 * n).toNat else (-2 * n - 1).toNat

/-- a number's bytes: seven bits each, the lowest first; f: how many may follow -/
def encF : Nat → Nat → List Nat
  | 0, x => [x]
  | f + 1, x => if x < 128 then [x] else (x % 128 + 128) :: encF f (x / 128)
def enc (x : Nat) : List Nat := encF 9 x
def encI (n : Int) : List Nat := enc (zig n)

theorem encF_small (f x : Nat) (h : x < 128) : encF f x = [x] := by
  cases f with
  | zero => rfl
  | succ f => simp [encF, h]
theorem encF_step (f x : Nat) (h : ¬ x < 128) : encF (f + 1) x = (x % 128 + 128) :: encF f (x / 128) := by simp [encF, h]

theorem zig_lt (n : Int) (h1 : -9223372036854775808 ≤ n) (h2 : n ≤ 9223372036854775807) : zig n < 18446744073709551616 := by
  unfold zig; split <;> omega

theorem encF_len (f : Nat) : ∀ x, 1 ≤ (encF f x).length ∧ (encF f x).length ≤ f + 1 := by
  induction f with
  | zero => intro x; simp [encF]
  | succ f ih =>
    intro x
    by_cases h : x < 128
    · rw [encF_small _ _ h]; simp
    · rw [encF_step _ _ h, List.length_cons]; have := ih (x / 128); omega
theorem enc_len (x : Nat) : 1 ≤ (enc x).length ∧ (enc x).length ≤ 10 := encF_len 9 x

theorem encF_byte (f : Nat) : ∀ x, x < 128 ^ (f + 1) → ∀ b ∈ encF f x, b < 256 := by
  induction f with
  | zero => intro x hx b hb; simp [encF] at hb; subst hb; omega
  | succ f ih =>
    intro x hx b hb
    by_cases h : x < 128
    · rw [encF_small _ _ h] at hb; simp at hb; omega
    · rw [encF_step _ _ h] at hb
      rcases List.mem_cons.1 hb with e | e
      · omega
      · refine ih (x / 128) ?_ b e
        rw [Nat.pow_succ] at hx
        exact (Nat.div_lt_iff_lt_mul (by omega)).2 hx

/-- where the loop stands: k bytes are out, y is left -/
structure Going (X k y : Nat) (done : List Nat) : Prop where
  hk : k ≤ 9
  len : done.length = k
  lt : y < 128 ^ (10 - k)
  all : done ++ encF (9 - k) y = enc X
  le : y ≤ X

theorem going_start (X : Nat) (hX : X < 18446744073709551616) : Going X 0 X [] :=
  ⟨by omega, rfl, Nat.lt_of_lt_of_le hX (by decide), rfl, Nat.le_refl _⟩
theorem going_step {X k y : Nat} {done : List Nat} (h : Going X k y done) (hy : ¬ y < 128) : Going X (k + 1) (y / 128) (done ++ [y % 128 + 128]) := by
  obtain ⟨hk, hl, hlt, ha, hle⟩ := h
  have h9 : k < 9 := by
    apply Classical.byContradiction
    intro h
    have : k = 9 := by omega
    subst this
    omega
  refine ⟨by omega, by simp [hl], ?_, ?_, Nat.le_trans (Nat.div_le_self _ _) hle⟩
  · rw [show 10 - k = (10 - (k + 1)) + 1 from by omega, Nat.pow_succ] at hlt
    exact (Nat.div_lt_iff_lt_mul (by omega)).2 hlt
  · rw [show 9 - k = (9 - (k + 1)) + 1 from by omega, encF_step _ _ hy] at ha
    rw [← ha]; simp
theorem going_end {X k y : Nat} {done : List Nat} (h : Going X k y done) (hy : y < 128) : done ++ [y] = enc X ∧ k + 1 = (enc X).length := by
  have : done ++ [y] = enc X := by rw [← encF_small (9 - k) y hy]; exact h.all
  exact ⟨this, by rw [← this]; simp [h.len]⟩

/-- a list's bytes -/
def encAll : List Int → List Nat
  | [] => []
  | n :: l => encI n ++ encAll l
def encL (l : List Int) : List Nat := encI (l.length : Int) ++ encAll l
theorem encAll_append (a b : List Int) : encAll (a ++ b) = encAll a ++ encAll b := by
  induction a with
  | nil => rfl
  | cons n a ih => simp [encAll, ih]
theorem encAll_len (l : List Int) : (encAll l).length ≤ 10 * l.length := by
  induction l with
  | nil => simp [encAll]
  | cons n l ih => have := (enc_len (zig n)).2; simp only [encAll, encI, List.length_append, List.length_cons]; omega

theorem or128 (y : Nat) : (y % 256) ||| 128 = y % 128 + 128 := by
  have h : y % 256 < 256 := Nat.mod_lt _ (by omega)
  have e : y % 128 = y % 256 % 128 := by omega
  rw [e]
  generalize y % 256 = b at *
  have : ∀ b, b < 256 → b ||| 128 = b % 128 + 128 := by decide +kernel
  exact this b h

end Go.Proofs.Ytkilkcgnfhlfiaa.mth
