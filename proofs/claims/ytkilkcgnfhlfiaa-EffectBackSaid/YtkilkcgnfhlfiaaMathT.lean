/-
  Plain mathematics: with which number, and which list, bytes begin. No program in sight.
-/
import Derived.Test.YtkilkcgnfhlfiaaMathW
namespace Go.Proofs.Ytkilkcgnfhlfiaa.mth

def zag (x : Nat) : Int := if x % 2 = 0 then ((x / 2 : Nat) : Int) else -((x / 2 : Nat) : Int) - 1
theorem zag_zig (n : Int) : zag (zig n) = n := by unfold zag zig; split <;> split <;> omega
theorem zig_zag (x : Nat) : zig (zag x) = x := by unfold zag zig; split <;> split <;> omega
theorem zag_range (x : Nat) (h : x < 18446744073709551616) : -9223372036854775808 ≤ zag x ∧ zag x ≤ 9223372036854775807 := by unfold zag; split <;> omega

/-- a number, how many bytes it has, an error's number -/
def tk (i x : Nat) : List Nat → Int × Nat × Int
  | [] => (0, 0, 7)
  | c :: t =>
    if 10 ≤ i then (0, 0, 7)
    else if i = 9 ∧ 1 < c then (0, 0, 2)
    else if 128 ≤ c then tk (i + 1) (x + 128 ^ i * (c % 128)) t
    else if c = 0 ∧ 0 < i then (0, 0, 2)
    else (zag (x + 128 ^ i * c), i + 1, 0)

theorem tk_ten (i x : Nat) (l : List Nat) (h : 10 ≤ i) : tk i x l = (0, 0, 7) := by cases l <;> simp [tk, h]
theorem tk_nine {i x c : Nat} {t : List Nat} (h : i = 9) (h' : 1 < c) : tk i x (c :: t) = (0, 0, 2) := by subst h; simp [tk, h']
theorem tk_more {i x c : Nat} {t : List Nat} (h0 : i < 10) (h : ¬ (i = 9 ∧ 1 < c)) (h' : 128 ≤ c) : tk i x (c :: t) = tk (i + 1) (x + 128 ^ i * (c % 128)) t := by
  rw [tk, if_neg (by omega), if_neg h, if_pos h']
theorem tk_zero {i x c : Nat} {t : List Nat} (h0 : i < 10) (h : c = 0) (h' : 0 < i) : tk i x (c :: t) = (0, 0, 2) := by
  rw [tk, if_neg (by omega), if_neg (by omega), if_neg (by omega), if_pos ⟨h, h'⟩]
theorem tk_end {i x c : Nat} {t : List Nat} (h0 : i < 10) (h : ¬ (i = 9 ∧ 1 < c)) (h' : ¬ 128 ≤ c) (h'' : ¬ (c = 0 ∧ 0 < i)) : tk i x (c :: t) = (zag (x + 128 ^ i * c), i + 1, 0) := by
  rw [tk, if_neg (by omega), if_neg h, if_neg h', if_neg h'']

theorem pow_step (i x d : Nat) (hx : x < 128 ^ i) (hd : d < 128) : x + 128 ^ i * d < 128 ^ (i + 1) := by
  rw [Nat.pow_succ]
  have h1 : 128 ^ i * d + 128 ^ i ≤ 128 ^ i * 128 := by rw [← Nat.mul_succ]; exact Nat.mul_le_mul_left _ (by omega)
  omega
theorem pow_le9 (i : Nat) (h : i ≤ 9) : 128 ^ i ≤ 9223372036854775808 := by
  have := Nat.pow_le_pow_right (n := 128) (by omega) h
  have e : 128 ^ 9 = 9223372036854775808 := by decide
  omega
theorem below64 (i x c : Nat) (h0 : i < 10) (hx : x < 128 ^ i) (h : ¬ (i = 9 ∧ 1 < c)) (h' : c < 128) : x + 128 ^ i * c < 18446744073709551616 := by
  by_cases h9 : i = 9
  · subst h9
    have e : 128 ^ 9 = 9223372036854775808 := by decide
    rw [e] at hx ⊢
    omega
  · have := pow_step i x c hx h'
    have := pow_le9 (i + 1) (by omega)
    omega

theorem tk_back (f : Nat) : ∀ (i x y : Nat) (rest : List Nat), i + f = 9 → x < 128 ^ i → 128 ^ i * y < 18446744073709551616 → (0 < i → 0 < y) → tk i x (encF f y ++ rest) = (zag (x + 128 ^ i * y), i + (encF f y).length, 0) := by
  induction f with
  | zero =>
    intro i x y rest hi hx hy h0
    obtain rfl : i = 9 := by omega
    have e : 128 ^ 9 = 9223372036854775808 := by decide
    rw [e] at hy
    have hy1 : y ≤ 1 := by omega
    simp only [encF, List.cons_append, List.nil_append]
    rw [tk_end (by omega) (by omega) (by omega) (by omega)]
    rfl
  | succ f ih =>
    intro i x y rest hi hx hy h0
    by_cases h : y < 128
    · rw [encF_small _ _ h, List.cons_append, tk_end (by omega) (by omega) (by omega) (by omega)]
      simp
    · rw [encF_step _ _ h, List.cons_append, tk_more (by omega) (by omega) (by omega)]
      have hm : (y % 128 + 128) % 128 = y % 128 := by omega
      have hs : 128 ^ i * y = 128 ^ i * (y % 128) + 128 ^ (i + 1) * (y / 128) := by
        rw [Nat.pow_succ, Nat.mul_assoc, ← Nat.mul_add]
        congr 1
        omega
      rw [hm, ih (i + 1) _ _ _ (by omega) (pow_step i x _ hx (by omega)) (by omega) (by omega)]
      rw [hs, Nat.add_assoc, List.length_cons]
      congr 2
      omega

theorem tk_enc (n : Int) (rest : List Nat) (h1 : -9223372036854775808 ≤ n) (h2 : n ≤ 9223372036854775807) : tk 0 0 (encI n ++ rest) = (n, (encI n).length, 0) := by
  have := tk_back 9 0 0 (zig n) rest (by omega) (by simp) (by have := zig_lt n h1 h2; simpa using this) (by omega)
  simp only [Nat.pow_zero, Nat.one_mul, Nat.zero_add, zag_zig] at this
  exact this

theorem tk_bytes : ∀ (l : List Nat) (i x : Nat) (v : Int) (k : Nat), (∀ b ∈ l, b < 256) → x < 128 ^ i → tk i x l = (v, k, 0) →
    i < 10 ∧ ∃ y, l.take (k - i) = encF (9 - i) y ∧ v = zag (x + 128 ^ i * y) ∧ x + 128 ^ i * y < 18446744073709551616 ∧ i < k ∧ k ≤ i + l.length ∧ (0 < i → 0 < y)
  | [], i, x, v, k, _, _, h => by simp [tk] at h
  | c :: t, i, x, v, k, hb, hx, h => by
    by_cases h10 : 10 ≤ i
    · rw [tk_ten _ _ _ h10] at h; simp at h
    refine ⟨by omega, ?_⟩
    by_cases h9 : i = 9 ∧ 1 < c
    · rw [tk_nine h9.1 h9.2] at h; simp at h
    by_cases hc : 128 ≤ c
    · have hi8 : i ≤ 8 := by omega
      have hc2 := hb c (by simp)
      rw [tk_more (by omega) h9 hc] at h
      obtain ⟨_, y, h1, h2, h3, h4, h5, h6⟩ := tk_bytes t (i + 1) _ v k (fun b hb' => hb b (by simp [hb'])) (pow_step i x _ hx (by omega)) h
      have hy := h6 (by omega)
      have hs : x + 128 ^ i * (c % 128) + 128 ^ (i + 1) * y = x + 128 ^ i * (c % 128 + 128 * y) := by
        rw [Nat.pow_succ, Nat.mul_assoc, Nat.add_assoc, ← Nat.mul_add]
      refine ⟨c % 128 + 128 * y, ?_, by rw [h2, hs], by rw [← hs]; exact h3, by omega, by simp; omega, by omega⟩
      rw [show k - i = (k - (i + 1)) + 1 by omega, List.take_succ_cons, h1, show 9 - i = (9 - (i + 1)) + 1 by omega, encF_step _ _ (by omega)]
      congr 1
      · omega
      · congr 1; omega
    · by_cases h0 : c = 0 ∧ 0 < i
      · rw [tk_zero (by omega) h0.1 h0.2] at h; simp at h
      rw [tk_end (by omega) h9 hc h0] at h
      simp only [Prod.mk.injEq, and_true] at h
      obtain ⟨rfl, rfl⟩ := h
      refine ⟨c, ?_, rfl, below64 i x c (by omega) hx h9 (by omega), by omega, by simp, by omega⟩
      rw [show i + 1 - i = 1 by omega, encF_small _ _ (by omega)]
      rfl

/-- the bytes of what is taken, its range, its length -/
theorem tk_canon (l : List Nat) (v : Int) (k : Nat) (hb : ∀ b ∈ l, b < 256) (h : tk 0 0 l = (v, k, 0)) : l.take k = encI v ∧ 0 < k ∧ k ≤ l.length ∧ -9223372036854775808 ≤ v ∧ v ≤ 9223372036854775807 := by
  obtain ⟨_, y, h1, h2, h3, h4, h5, _⟩ := tk_bytes l 0 0 v k hb (by simp) h
  simp only [Nat.pow_zero, Nat.one_mul, Nat.zero_add, Nat.sub_zero] at *
  have := zag_range y h3
  refine ⟨?_, h4, h5, by rw [h2]; exact this.1, by rw [h2]; exact this.2⟩
  rw [h1, h2, encI, zig_zag]
  rfl
theorem tk_bad (l : List Nat) (v : Int) (k : Nat) (e : Int) : ∀ i x, tk i x l = (v, k, e) → e ≠ 0 → v = 0 ∧ k = 0 ∧ (e = 7 ∨ e = 2) := by
  induction l with
  | nil => intro i x h he; simp [tk] at h; omega
  | cons c t ih =>
    intro i x h he
    unfold tk at h
    split at h
    · simp at h; omega
    split at h
    · simp at h; omega
    split at h
    · exact ih _ _ h he
    split at h
    · simp at h; omega
    · simp at h; omega

/-- a list, what is left, an error's number -/
def pre (o : List Int) (r : List Int × List Nat × Int) : List Int × List Nat × Int := if r.2.2 = 0 then (o ++ r.1, r.2.1, 0) else ([], [], r.2.2)
def tkN : Nat → List Nat → List Int × List Nat × Int
  | 0, b => ([], b, 0)
  | m + 1, b => if (tk 0 0 b).2.2 = 0 then pre [(tk 0 0 b).1] (tkN m (b.drop (tk 0 0 b).2.1)) else ([], [], (tk 0 0 b).2.2)
def tkL (b : List Nat) (many : Int) : List Int × List Nat × Int :=
  if (tk 0 0 b).2.2 = 0 then
    if (tk 0 0 b).1 < 0 then ([], [], 1) else if many < (tk 0 0 b).1 then ([], [], 19) else tkN (tk 0 0 b).1.toNat (b.drop (tk 0 0 b).2.1)
  else ([], [], (tk 0 0 b).2.2)

theorem pre_nil (r : List Int × List Nat × Int) (h : r.2.2 ≠ 0 → r = ([], [], r.2.2)) : pre [] r = r := by
  unfold pre
  split
  · rename_i h0
    obtain ⟨a, b, c⟩ := r
    simp at h0
    simp [h0]
  · rename_i h0
    exact (h h0).symm
theorem tkN_err (m : Nat) (b : List Nat) (h : (tkN m b).2.2 ≠ 0) : tkN m b = ([], [], (tkN m b).2.2) := by
  cases m with
  | zero => simp [tkN] at h
  | succ m =>
    unfold tkN at h ⊢
    by_cases h1 : (tk 0 0 b).2.2 = 0
    · rw [if_pos h1] at h ⊢
      unfold pre at h ⊢
      by_cases h2 : (tkN m (b.drop (tk 0 0 b).2.1)).2.2 = 0
      · rw [if_pos h2] at h; simp at h
      · rw [if_neg h2]
    · rw [if_neg h1]
theorem pre_start (m : Nat) (b : List Nat) : tkN m b = pre [] (tkN m b) := (pre_nil _ (tkN_err m b)).symm
theorem pre_pre (o o' : List Int) (r : List Int × List Nat × Int) : pre o (pre o' r) = pre (o ++ o') r := by
  unfold pre
  by_cases h : r.2.2 = 0
  · simp [h]
  · simp [h]
theorem pre_step {o : List Int} {m : Nat} {b : List Nat} {v : Int} {k : Nat} (h : tk 0 0 b = (v, k, 0)) : pre o (tkN (m + 1) b) = pre (o ++ [v]) (tkN m (b.drop k)) := by
  have : tkN (m + 1) b = pre [v] (tkN m (b.drop k)) := by rw [tkN, h]; simp
  rw [this, pre_pre]
theorem pre_bad {o : List Int} {m : Nat} {b : List Nat} {v : Int} {k : Nat} {e : Int} (h : tk 0 0 b = (v, k, e)) (he : e ≠ 0) : pre o (tkN (m + 1) b) = ([], [], e) := by
  have : tkN (m + 1) b = ([], [], e) := by rw [tkN, h, if_neg he]
  rw [this, pre, if_neg he]
theorem pre_end (o : List Int) (b : List Nat) : pre o (tkN 0 b) = (o, b, 0) := by simp [tkN, pre]

def Ok (l : List Int) : Prop := ∀ n ∈ l, -9223372036854775808 ≤ n ∧ n ≤ 9223372036854775807

theorem tkN_back : ∀ (l : List Int) (rest : List Nat), Ok l → tkN l.length (encAll l ++ rest) = (l, rest, 0)
  | [], rest, _ => rfl
  | n :: l, rest, h => by
    have hn := h n (by simp)
    have ih := tkN_back l rest (fun x hx => h x (by simp [hx]))
    have ht := tk_enc n (encAll l ++ rest) hn.1 hn.2
    rw [List.length_cons, encAll, List.append_assoc, tkN, ht]
    simp [ih, pre]
theorem tkL_back (l : List Int) (rest : List Nat) (many : Int) (h : Ok l) (hl : (l.length : Int) ≤ 9223372036854775807) (hm : (l.length : Int) ≤ many) : tkL (encL l ++ rest) many = (l, rest, 0) := by
  have ht := tk_enc (l.length : Int) (encAll l ++ rest) (by omega) hl
  rw [encL, List.append_assoc, tkL, ht]
  simp only [if_true]
  rw [if_neg (by omega), if_neg (by omega)]
  simp [tkN_back l rest h]

theorem tkN_canon : ∀ (m : Nat) (b : List Nat) (l : List Int) (r : List Nat), (∀ x ∈ b, x < 256) → tkN m b = (l, r, 0) → encAll l ++ r = b ∧ l.length = m ∧ Ok l
  | 0, b, l, r, _, h => by simp [tkN] at h; obtain ⟨rfl, rfl⟩ := h; exact ⟨rfl, rfl, fun x hx => by simp at hx⟩
  | m + 1, b, l, r, hb, h => by
    obtain ⟨v, k, e, ht⟩ : ∃ v k e, tk 0 0 b = (v, k, e) := ⟨_, _, _, rfl⟩
    by_cases he : e = 0
    · subst he
      obtain ⟨h1, h2, h3, h4, h5⟩ := tk_canon b v k hb ht
      have hs : tkN (m + 1) b = pre [v] (tkN m (b.drop k)) := by rw [tkN, ht]; simp
      rw [hs] at h
      unfold pre at h
      split at h
      · rename_i h0
        obtain ⟨l', r', e', hr⟩ : ∃ l' r' e', tkN m (b.drop k) = (l', r', e') := ⟨_, _, _, rfl⟩
        rw [hr] at h h0
        simp at h0 h
        obtain ⟨rfl, rfl⟩ := h
        subst h0
        obtain ⟨g1, g2, g3⟩ := tkN_canon m (b.drop k) l' r' (fun x hx => hb x (List.mem_of_mem_drop hx)) hr
        refine ⟨?_, by simp [g2], ?_⟩
        · rw [encAll, List.append_assoc, g1, ← h1, List.take_append_drop]
        · intro x hx
          rcases List.mem_cons.1 hx with rfl | hx
          · exact ⟨h4, h5⟩
          · exact g3 x hx
      · rename_i h0; simp at h; exact absurd h.2.2 h0
    · have : tkN (m + 1) b = ([], [], e) := by rw [tkN, ht, if_neg he]
      rw [this] at h
      simp at h
      exact absurd h.2.2 he

theorem tkL_canon (b : List Nat) (many : Int) (l : List Int) (r : List Nat) (hb : ∀ x ∈ b, x < 256) (h : tkL b many = (l, r, 0)) : encL l ++ r = b ∧ Ok l ∧ (l.length : Int) ≤ many := by
  obtain ⟨v, k, e, ht⟩ : ∃ v k e, tk 0 0 b = (v, k, e) := ⟨_, _, _, rfl⟩
  unfold tkL at h
  rw [ht] at h
  simp only at h
  by_cases he : e = 0
  · rw [if_pos he] at h
    subst he
    by_cases h1 : v < 0
    · rw [if_pos h1] at h; simp at h
    by_cases h2 : many < v
    · rw [if_neg h1, if_pos h2] at h; simp at h
    rw [if_neg h1, if_neg h2] at h
    obtain ⟨g1, g2, g3⟩ := tkN_canon _ _ _ _ (fun x hx => hb x (List.mem_of_mem_drop hx)) h
    obtain ⟨c1, c2, c3, c4, c5⟩ := tk_canon b v k hb ht
    refine ⟨?_, g3, by omega⟩
    rw [encL, List.append_assoc, g1, g2, show ((v.toNat : Nat) : Int) = v by omega, ← c1, List.take_append_drop]
  · rw [if_neg he] at h
    simp at h
    exact absurd h.2.2 he

/-- unlike lists have unlike bytes, of which none begin with the other's -/
theorem encL_apart (a b : List Int) (ha : Ok a) (hb : Ok b) (hla : (a.length : Int) ≤ 9223372036854775807) (hlb : (b.length : Int) ≤ 9223372036854775807)
    (h : (encL a).take (min (encL a).length (encL b).length) = (encL b).take (min (encL a).length (encL b).length)) : a = b := by
  have key : ∀ (a b : List Int), Ok a → Ok b → (a.length : Int) ≤ 9223372036854775807 → (b.length : Int) ≤ 9223372036854775807 → (encL a).length ≤ (encL b).length → encL a = (encL b).take (encL a).length → a = b := by
    intro a b ha hb hla hlb hl h
    have e : encL b = encL a ++ (encL b).drop (encL a).length := by
      rw [← List.take_append_drop (encL a).length (encL b), ← h]
      simp
    have h1 := tkL_back a ((encL b).drop (encL a).length) (max (a.length : Int) b.length) ha hla (by omega)
    have h2 := tkL_back b [] (max (a.length : Int) b.length) hb hlb (by omega)
    rw [List.append_nil, e, h1] at h2
    simp at h2
    exact h2.1
  by_cases hl : (encL a).length ≤ (encL b).length
  · refine key a b ha hb hla hlb hl ?_
    rw [Nat.min_eq_left hl, List.take_length] at h
    exact h
  · refine (key b a hb ha hlb hla (by omega) ?_).symm
    rw [Nat.min_eq_right (by omega), List.take_length] at h
    exact h.symm
end Go.Proofs.Ytkilkcgnfhlfiaa.mth
