import Derived.Test.YtccdlmiemelifaaM11
import Derived.Test.YtccdlmiemelifaaM0
import Derived.WalkSpells
import Derived.Lib.SliceRun
import Derived.Lib.Zigzag
import Derived.OwnWalk
import Derived.Test.YtccdlmiemelifaaM10
import Derived.Test.YtccdlmiemelifaaM7

set_option linter.unusedVariables false
set_option linter.unusedSimpArgs false

section
namespace Go.Proofs.Ytccdlmiemelifaa.mth

def zag (x : Nat) : Int := if x % 2 = 0 then ((x / 2 : Nat) : Int) else -((x / 2 : Nat) : Int) - 1
theorem zag_zig (n : Int) : zag (zig n) = n := by unfold zag zig; split <;> split <;> omega
theorem zig_zag (x : Nat) : zig (zag x) = x := by unfold zag zig; split <;> split <;> omega
theorem zag_range (x : Nat) (h : x < 18446744073709551616) : -9223372036854775808 ≤ zag x ∧ zag x ≤ 9223372036854775807 := by unfold zag; split <;> omega

/-- a number, how many bytes it has, an error's number -/
def tk (i x : Nat) : List Nat → Int × Nat × Int
  | [] => (0, 0, 7)
  | c :: t =>
    if 10 ≤ i then (0, 0, 7)
    else if i = 9 ∧ 1 < c then (0, 0, 2)
    else if 128 ≤ c then tk (i + 1) (x + 128 ^ i * (c % 128)) t
    else if c = 0 ∧ 0 < i then (0, 0, 2)
    else (zag (x + 128 ^ i * c), i + 1, 0)

theorem tk_ten (i x : Nat) (l : List Nat) (h : 10 ≤ i) : tk i x l = (0, 0, 7) := by cases l <;> simp [tk, h]
theorem tk_nine {i x c : Nat} {t : List Nat} (h : i = 9) (h' : 1 < c) : tk i x (c :: t) = (0, 0, 2) := by subst h; simp [tk, h']
theorem tk_more {i x c : Nat} {t : List Nat} (h0 : i < 10) (h : ¬ (i = 9 ∧ 1 < c)) (h' : 128 ≤ c) : tk i x (c :: t) = tk (i + 1) (x + 128 ^ i * (c % 128)) t := by
  rw [tk, if_neg (by omega), if_neg h, if_pos h']
theorem tk_zero {i x c : Nat} {t : List Nat} (h0 : i < 10) (h : c = 0) (h' : 0 < i) : tk i x (c :: t) = (0, 0, 2) := by
  rw [tk, if_neg (by omega), if_neg (by omega), if_neg (by omega), if_pos ⟨h, h'⟩]
theorem tk_end {i x c : Nat} {t : List Nat} (h0 : i < 10) (h : ¬ (i = 9 ∧ 1 < c)) (h' : ¬ 128 ≤ c) (h'' : ¬ (c = 0 ∧ 0 < i)) : tk i x (c :: t) = (zag (x + 128 ^ i * c), i + 1, 0) := by
  rw [tk, if_neg (by omega), if_neg h, if_neg h', if_neg h'']

theorem pow_step (i x d : Nat) (hx : x < 128 ^ i) (hd : d < 128) : x + 128 ^ i * d < 128 ^ (i + 1) := by
  rw [Nat.pow_succ]
  have h1 : 128 ^ i * d + 128 ^ i ≤ 128 ^ i * 128 := by rw [← Nat.mul_succ]; exact Nat.mul_le_mul_left _ (by omega)
  omega
theorem pow_le9 (i : Nat) (h : i ≤ 9) : 128 ^ i ≤ 9223372036854775808 := by
  have := Nat.pow_le_pow_right (n := 128) (by omega) h
  have e : 128 ^ 9 = 9223372036854775808 := by decide
  omega
theorem below64 (i x c : Nat) (h0 : i < 10) (hx : x < 128 ^ i) (h : ¬ (i = 9 ∧ 1 < c)) (h' : c < 128) : x + 128 ^ i * c < 18446744073709551616 := by
  by_cases h9 : i = 9
  · subst h9
    have e : 128 ^ 9 = 9223372036854775808 := by decide
    rw [e] at hx ⊢
    omega
  · have := pow_step i x c hx h'
    have := pow_le9 (i + 1) (by omega)
    omega

theorem tk_back (f : Nat) : ∀ (i x y : Nat) (rest : List Nat), i + f = 9 → x < 128 ^ i → 128 ^ i * y < 18446744073709551616 → (0 < i → 0 < y) → tk i x (encF f y ++ rest) = (zag (x + 128 ^ i * y), i + (encF f y).length, 0) := by
  induction f with
  | zero =>
    intro i x y rest hi hx hy h0
    obtain rfl : i = 9 := by omega
    have e : 128 ^ 9 = 9223372036854775808 := by decide
    rw [e] at hy
    have hy1 : y ≤ 1 := by omega
    simp only [encF, List.cons_append, List.nil_append]
    rw [tk_end (by omega) (by omega) (by omega) (by omega)]
    rfl
  | succ f ih =>
    intro i x y rest hi hx hy h0
    by_cases h : y < 128
    · rw [encF_small _ _ h, List.cons_append, tk_end (by omega) (by omega) (by omega) (by omega)]
      simp
    · rw [encF_step _ _ h, List.cons_append, tk_more (by omega) (by omega) (by omega)]
      have hm : (y % 128 + 128) % 128 = y % 128 := by omega
      have hs : 128 ^ i * y = 128 ^ i * (y % 128) + 128 ^ (i + 1) * (y / 128) := by
        rw [Nat.pow_succ, Nat.mul_assoc, ← Nat.mul_add]
        congr 1
        omega
      rw [hm, ih (i + 1) _ _ _ (by omega) (pow_step i x _ hx (by omega)) (by omega) (by omega)]
      rw [hs, Nat.add_assoc, List.length_cons]
      congr 2
      omega

theorem tk_enc (n : Int) (rest : List Nat) (h1 : -9223372036854775808 ≤ n) (h2 : n ≤ 9223372036854775807) : tk 0 0 (encI n ++ rest) = (n, (encI n).length, 0) := by
  have := tk_back 9 0 0 (zig n) rest (by omega) (by simp) (by have := zig_lt n h1 h2; simpa using this) (by omega)
  simp only [Nat.pow_zero, Nat.one_mul, Nat.zero_add, zag_zig] at this
  exact this

theorem tk_bytes : ∀ (l : List Nat) (i x : Nat) (v : Int) (k : Nat), (∀ b ∈ l, b < 256) → x < 128 ^ i → tk i x l = (v, k, 0) →
    i < 10 ∧ ∃ y, l.take (k - i) = encF (9 - i) y ∧ v = zag (x + 128 ^ i * y) ∧ x + 128 ^ i * y < 18446744073709551616 ∧ i < k ∧ k ≤ i + l.length ∧ (0 < i → 0 < y)
  | [], i, x, v, k, _, _, h => by simp [tk] at h
  | c :: t, i, x, v, k, hb, hx, h => by
    by_cases h10 : 10 ≤ i
    · rw [tk_ten _ _ _ h10] at h; simp at h
    refine ⟨by omega, ?_⟩
    by_cases h9 : i = 9 ∧ 1 < c
    · rw [tk_nine h9.1 h9.2] at h; simp at h
    by_cases hc : 128 ≤ c
    · have hi8 : i ≤ 8 := by omega
      have hc2 := hb c (by simp)
      rw [tk_more (by omega) h9 hc] at h
      obtain ⟨_, y, h1, h2, h3, h4, h5, h6⟩ := tk_bytes t (i + 1) _ v k (fun b hb' => hb b (by simp [hb'])) (pow_step i x _ hx (by omega)) h
      have hy := h6 (by omega)
      have hs : x + 128 ^ i * (c % 128) + 128 ^ (i + 1) * y = x + 128 ^ i * (c % 128 + 128 * y) := by
        rw [Nat.pow_succ, Nat.mul_assoc, Nat.add_assoc, ← Nat.mul_add]
      refine ⟨c % 128 + 128 * y, ?_, by rw [h2, hs], by rw [← hs]; exact h3, by omega, by simp; omega, by omega⟩
      rw [show k - i = (k - (i + 1)) + 1 by omega, List.take_succ_cons, h1, show 9 - i = (9 - (i + 1)) + 1 by omega, encF_step _ _ (by omega)]
      congr 1
      · omega
      · congr 1; omega
    · by_cases h0 : c = 0 ∧ 0 < i
      · rw [tk_zero (by omega) h0.1 h0.2] at h; simp at h
      rw [tk_end (by omega) h9 hc h0] at h
      simp only [Prod.mk.injEq, and_true] at h
      obtain ⟨rfl, rfl⟩ := h
      refine ⟨c, ?_, rfl, below64 i x c (by omega) hx h9 (by omega), by omega, by simp, by omega⟩
      rw [show i + 1 - i = 1 by omega, encF_small _ _ (by omega)]
      rfl

/-- the bytes of what is taken, its range, its length -/
theorem tk_canon (l : List Nat) (v : Int) (k : Nat) (hb : ∀ b ∈ l, b < 256) (h : tk 0 0 l = (v, k, 0)) : l.take k = encI v ∧ 0 < k ∧ k ≤ l.length ∧ -9223372036854775808 ≤ v ∧ v ≤ 9223372036854775807 := by
  obtain ⟨_, y, h1, h2, h3, h4, h5, _⟩ := tk_bytes l 0 0 v k hb (by simp) h
  simp only [Nat.pow_zero, Nat.one_mul, Nat.zero_add, Nat.sub_zero] at *
  have := zag_range y h3
  refine ⟨?_, h4, h5, by rw [h2]; exact this.1, by rw [h2]; exact this.2⟩
  rw [h1, h2, encI, zig_zag]
  rfl
theorem tk_bad (l : List Nat) (v : Int) (k : Nat) (e : Int) : ∀ i x, tk i x l = (v, k, e) → e ≠ 0 → v = 0 ∧ k = 0 ∧ (e = 7 ∨ e = 2) := by
  induction l with
  | nil => intro i x h he; simp [tk] at h; omega
  | cons c t ih =>
    intro i x h he
    unfold tk at h
    split at h
    · simp at h; omega
    split at h
    · simp at h; omega
    split at h
    · exact ih _ _ h he
    split at h
    · simp at h; omega
    · simp at h; omega

/-- a list, what is left, an error's number -/
def pre (o : List Int) (r : List Int × List Nat × Int) : List Int × List Nat × Int := if r.2.2 = 0 then (o ++ r.1, r.2.1, 0) else ([], [], r.2.2)
def tkN : Nat → List Nat → List Int × List Nat × Int
  | 0, b => ([], b, 0)
  | m + 1, b => if (tk 0 0 b).2.2 = 0 then pre [(tk 0 0 b).1] (tkN m (b.drop (tk 0 0 b).2.1)) else ([], [], (tk 0 0 b).2.2)
def tkL (b : List Nat) (many : Int) : List Int × List Nat × Int :=
  if (tk 0 0 b).2.2 = 0 then
    if (tk 0 0 b).1 < 0 then ([], [], 1) else if many < (tk 0 0 b).1 then ([], [], 19) else tkN (tk 0 0 b).1.toNat (b.drop (tk 0 0 b).2.1)
  else ([], [], (tk 0 0 b).2.2)

theorem pre_nil (r : List Int × List Nat × Int) (h : r.2.2 ≠ 0 → r = ([], [], r.2.2)) : pre [] r = r := by
  unfold pre
  split
  · rename_i h0
    obtain ⟨a, b, c⟩ := r
    simp at h0
    simp [h0]
  · rename_i h0
    exact (h h0).symm
theorem tkN_err (m : Nat) (b : List Nat) (h : (tkN m b).2.2 ≠ 0) : tkN m b = ([], [], (tkN m b).2.2) := by
  cases m with
  | zero => simp [tkN] at h
  | succ m =>
    unfold tkN at h ⊢
    by_cases h1 : (tk 0 0 b).2.2 = 0
    · rw [if_pos h1] at h ⊢
      unfold pre at h ⊢
      by_cases h2 : (tkN m (b.drop (tk 0 0 b).2.1)).2.2 = 0
      · rw [if_pos h2] at h; simp at h
      · rw [if_neg h2]
    · rw [if_neg h1]
theorem pre_start (m : Nat) (b : List Nat) : tkN m b = pre [] (tkN m b) := (pre_nil _ (tkN_err m b)).symm
theorem pre_pre (o o' : List Int) (r : List Int × List Nat × Int) : pre o (pre o' r) = pre (o ++ o') r := by
  unfold pre
  by_cases h : r.2.2 = 0
  · simp [h]
  · simp [h]
theorem pre_step {o : List Int} {m : Nat} {b : List Nat} {v : Int} {k : Nat} (h : tk 0 0 b = (v, k, 0)) : pre o (tkN (m + 1) b) = pre (o ++ [v]) (tkN m (b.drop k)) := by
  have : tkN (m + 1) b = pre [v] (tkN m (b.drop k)) := by rw [tkN, h]; simp
  rw [this, pre_pre]
theorem pre_bad {o : List Int} {m : Nat} {b : List Nat} {v : Int} {k : Nat} {e : Int} (h : tk 0 0 b = (v, k, e)) (he : e ≠ 0) : pre o (tkN (m + 1) b) = ([], [], e) := by
  have : tkN (m + 1) b = ([], [], e) := by rw [tkN, h, if_neg he]
  rw [this, pre, if_neg he]
theorem pre_end (o : List Int) (b : List Nat) : pre o (tkN 0 b) = (o, b, 0) := by simp [tkN, pre]

def Ok (l : List Int) : Prop := ∀ n ∈ l, -9223372036854775808 ≤ n ∧ n ≤ 9223372036854775807

theorem tkN_back : ∀ (l : List Int) (rest : List Nat), Ok l → tkN l.length (encAll l ++ rest) = (l, rest, 0)
  | [], rest, _ => rfl
  | n :: l, rest, h => by
    have hn := h n (by simp)
    have ih := tkN_back l rest (fun x hx => h x (by simp [hx]))
    have ht := tk_enc n (encAll l ++ rest) hn.1 hn.2
    rw [List.length_cons, encAll, List.append_assoc, tkN, ht]
    simp [ih, pre]
theorem tkL_back (l : List Int) (rest : List Nat) (many : Int) (h : Ok l) (hl : (l.length : Int) ≤ 9223372036854775807) (hm : (l.length : Int) ≤ many) : tkL (encL l ++ rest) many = (l, rest, 0) := by
  have ht := tk_enc (l.length : Int) (encAll l ++ rest) (by omega) hl
  rw [encL, List.append_assoc, tkL, ht]
  simp only [if_true]
  rw [if_neg (by omega), if_neg (by omega)]
  simp [tkN_back l rest h]

theorem tkN_canon : ∀ (m : Nat) (b : List Nat) (l : List Int) (r : List Nat), (∀ x ∈ b, x < 256) → tkN m b = (l, r, 0) → encAll l ++ r = b ∧ l.length = m ∧ Ok l
  | 0, b, l, r, _, h => by simp [tkN] at h; obtain ⟨rfl, rfl⟩ := h; exact ⟨rfl, rfl, fun x hx => by simp at hx⟩
  | m + 1, b, l, r, hb, h => by
    obtain ⟨v, k, e, ht⟩ : ∃ v k e, tk 0 0 b = (v, k, e) := ⟨_, _, _, rfl⟩
    by_cases he : e = 0
    · subst he
      obtain ⟨h1, h2, h3, h4, h5⟩ := tk_canon b v k hb ht
      have hs : tkN (m + 1) b = pre [v] (tkN m (b.drop k)) := by rw [tkN, ht]; simp
      rw [hs] at h
      unfold pre at h
      split at h
      · rename_i h0
        obtain ⟨l', r', e', hr⟩ : ∃ l' r' e', tkN m (b.drop k) = (l', r', e') := ⟨_, _, _, rfl⟩
        rw [hr] at h h0
        simp at h0 h
        obtain ⟨rfl, rfl⟩ := h
        subst h0
        obtain ⟨g1, g2, g3⟩ := tkN_canon m (b.drop k) l' r' (fun x hx => hb x (List.mem_of_mem_drop hx)) hr
        refine ⟨?_, by simp [g2], ?_⟩
        · rw [encAll, List.append_assoc, g1, ← h1, List.take_append_drop]
        · intro x hx
          rcases List.mem_cons.1 hx with rfl | hx
          · exact ⟨h4, h5⟩
          · exact g3 x hx
      · rename_i h0; simp at h; exact absurd h.2.2 h0
    · have : tkN (m + 1) b = ([], [], e) := by rw [tkN, ht, if_neg he]
      rw [this] at h
      simp at h
      exact absurd h.2.2 he

theorem tkL_canon (b : List Nat) (many : Int) (l : List Int) (r : List Nat) (hb : ∀ x ∈ b, x < 256) (h : tkL b many = (l, r, 0)) : encL l ++ r = b ∧ Ok l ∧ (l.length : Int) ≤ many := by
  obtain ⟨v, k, e, ht⟩ : ∃ v k e, tk 0 0 b = (v, k, e) := ⟨_, _, _, rfl⟩
  unfold tkL at h
  rw [ht] at h
  simp only at h
  by_cases he : e = 0
  · rw [if_pos he] at h
    subst he
    by_cases h1 : v < 0
    · rw [if_pos h1] at h; simp at h
    by_cases h2 : many < v
    · rw [if_neg h1, if_pos h2] at h; simp at h
    rw [if_neg h1, if_neg h2] at h
    obtain ⟨g1, g2, g3⟩ := tkN_canon _ _ _ _ (fun x hx => hb x (List.mem_of_mem_drop hx)) h
    obtain ⟨c1, c2, c3, c4, c5⟩ := tk_canon b v k hb ht
    refine ⟨?_, g3, by omega⟩
    rw [encL, List.append_assoc, g1, g2, show ((v.toNat : Nat) : Int) = v by omega, ← c1, List.take_append_drop]
  · rw [if_neg he] at h
    simp at h
    exact absurd h.2.2 he

/-- unlike lists have unlike bytes, of which none begin with the other's -/
theorem encL_apart (a b : List Int) (ha : Ok a) (hb : Ok b) (hla : (a.length : Int) ≤ 9223372036854775807) (hlb : (b.length : Int) ≤ 9223372036854775807)
    (h : (encL a).take (min (encL a).length (encL b).length) = (encL b).take (min (encL a).length (encL b).length)) : a = b := by
  have key : ∀ (a b : List Int), Ok a → Ok b → (a.length : Int) ≤ 9223372036854775807 → (b.length : Int) ≤ 9223372036854775807 → (encL a).length ≤ (encL b).length → encL a = (encL b).take (encL a).length → a = b := by
    intro a b ha hb hla hlb hl h
    have e : encL b = encL a ++ (encL b).drop (encL a).length := by
      rw [← List.take_append_drop (encL a).length (encL b), ← h]
      simp
    have h1 := tkL_back a ((encL b).drop (encL a).length) (max (a.length : Int) b.length) ha hla (by omega)
    have h2 := tkL_back b [] (max (a.length : Int) b.length) hb hlb (by omega)
    rw [List.append_nil, e, h1] at h2
    simp at h2
    exact h2.1
  by_cases hl : (encL a).length ≤ (encL b).length
  · refine key a b ha hb hla hlb hl ?_
    rw [Nat.min_eq_left hl, List.take_length] at h
    exact h
  · refine (key b a hb ha hlb hla (by omega) ?_).symm
    rw [Nat.min_eq_right (by omega), List.take_length] at h
    exact h.symm
end Go.Proofs.Ytccdlmiemelifaa.mth
end

section
namespace Go.Proofs.Ytccdlmiemelifaa
open Go.RowKit
set_option linter.unusedVariables false

theorem zig_bits (n : Int) (h1 : -9223372036854775808 ≤ n) (h2 : n ≤ 9223372036854775807) :
    bits .xor .u64 (IntKind.u64.wrap (IntKind.u64.wrap n * 2)) (IntKind.u64.wrap (n / 9223372036854775808)) = ((mth.zig n : Nat) : Int) := by
  unfold mth.zig
  by_cases h : 0 ≤ n
  · rw [if_pos h]
    have e1 : IntKind.u64.wrap (IntKind.u64.wrap n * 2) = (((2 * n).toNat : Nat) : Int) := by rw [IntKind.wrap_u64, IntKind.wrap_u64]; omega
    have e2 : IntKind.u64.wrap (n / 9223372036854775808) = ((0 : Nat) : Int) := by rw [IntKind.wrap_u64]; omega
    rw [e1, e2, u64_xor_nat _ _ (by omega) (by omega), Nat.xor_zero]
  · rw [if_neg h]
    have e1 : IntKind.u64.wrap (IntKind.u64.wrap n * 2) = (((18446744073709551616 + 2 * n).toNat : Nat) : Int) := by rw [IntKind.wrap_u64, IntKind.wrap_u64]; omega
    have e2 : IntKind.u64.wrap (n / 9223372036854775808) = ((18446744073709551615 : Nat) : Int) := by rw [IntKind.wrap_u64]; omega
    rw [e1, e2, u64_xor_nat _ _ (by omega) (by omega)]
    have hx : ∀ a b : Nat, a < 2 ^ 64 → b = 2 ^ 64 - 1 → a ^^^ b = 2 ^ 64 - 1 - a := fun a b ha hb => by
      subst hb
      apply Nat.eq_of_testBit_eq
      intro i
      rw [Nat.testBit_xor, Nat.testBit_two_pow_sub_one, show 2 ^ 64 - 1 - a = 2 ^ 64 - (a + 1) from by omega, Nat.testBit_two_pow_sub_succ ha]
      by_cases hi : i < 64
      · simp [hi]
      · rw [Nat.testBit_lt_two_pow (Nat.lt_of_lt_of_le ha (Nat.pow_le_pow_right (by omega) (by omega)))]
        simp [hi]
    rw [hx _ _ (by omega) rfl]
    omega

theorem u8_andNot128 (c : Nat) (h : c < 256) : bits .andNot .u8 (c : Int) 128 = ((c % 128 : Nat) : Int) := by
  have : ∀ c : _root_.Fin 256, bits .andNot .u8 (c.val : Int) 128 = ((c.val % 128 : Nat) : Int) := by decide +kernel
  exact this ⟨c, h⟩
theorem u8_and128 (c : Nat) (h : c < 256) : bits .and .u8 (c : Int) 128 = if (128 : Int) ≤ (c : Int) then 128 else 0 := by
  have : ∀ c : _root_.Fin 256, bits .and .u8 (c.val : Int) 128 = if (128 : Int) ≤ (c.val : Int) then 128 else 0 := by decide +kernel
  exact this ⟨c, h⟩

theorem xor_comm_i64 (a b : Int) : bits .xor .i64 a b = bits .xor .i64 b a := by
  show IntKind.i64.wrap ((BitVec.ofInt 64 a ^^^ BitVec.ofInt 64 b).toNat : Int) = IntKind.i64.wrap ((BitVec.ofInt 64 b ^^^ BitVec.ofInt 64 a).toNat : Int)
  rw [BitVec.xor_comm]
theorem xor_zero_i64 (x : Nat) (hx : x < 9223372036854775808) : bits .xor .i64 (x : Int) 0 = (x : Int) := by
  show IntKind.i64.wrap ((BitVec.ofInt 64 (x : Int) ^^^ BitVec.ofInt 64 0).toNat : Int) = _
  have h2 : (BitVec.ofInt 64 (x : Int)).toNat = x := by
    rw [BitVec.ofInt_natCast, BitVec.toNat_ofNat]; exact Nat.mod_eq_of_lt (by omega)
  have h1 : (BitVec.ofInt 64 0).toNat = 0 := by decide
  rw [BitVec.toNat_xor, h1, h2, Nat.xor_zero, IntKind.wrap_i64]
  omega
theorem zag_bits (x : Nat) (h : x < 18446744073709551616) : bits .xor .i64 ((x : Int) / 2) (Go.RowKit.wrap64 (-Go.RowKit.wrap64 (bits .and .u64 (x : Int) 1))) = mth.zag x := by
  rw [Lib.u64_and1 (x : Int) (by omega) (by omega)]
  have e : ((x : Int) / 2) = ((x / 2 : Nat) : Int) := by omega
  unfold mth.zag
  by_cases h0 : x % 2 = 0
  · have e0 : (x : Int) % 2 = 0 := by omega
    rw [if_pos h0, e, e0]
    rw [show Go.RowKit.wrap64 (-Go.RowKit.wrap64 0) = 0 by decide +kernel]
    exact xor_zero_i64 (x / 2) (by omega)
  · have e0 : (x : Int) % 2 = 1 := by omega
    rw [if_neg h0, e, e0]
    have e1 : Go.RowKit.wrap64 (-Go.RowKit.wrap64 1) = -1 := by decide +kernel
    rw [e1, xor_comm_i64, Lib.i64_not _ (by omega)]

theorem or_part (X d k : Nat) (hX : X < 128 ^ k) (h64 : X + 128 ^ k * d < 18446744073709551616) : bits .or .u64 (X : Int) (IntKind.u64.wrap ((d : Int) * 2 ^ (k * 7))) = ((X + 128 ^ k * d : Nat) : Int) := by
  have hp : 128 ^ k = 2 ^ (k * 7) := by rw [Nat.mul_comm k 7, Nat.pow_mul]
  rw [hp] at hX h64 ⊢
  have hdn : d * 2 ^ (k * 7) < 18446744073709551616 := by rw [Nat.mul_comm]; omega
  have e : IntKind.u64.wrap ((d : Int) * 2 ^ (k * 7)) = ((d * 2 ^ (k * 7) : Nat) : Int) := by
    have h1 : (d : Int) * 2 ^ (k * 7) = ((d * 2 ^ (k * 7) : Nat) : Int) := by simp
    rw [h1, IntKind.wrap_u64]
    omega
  rw [e, u64_or_nat _ _ (by omega) hdn]
  congr 1
  have := Nat.shiftLeft_add_eq_or_of_lt hX d
  rw [Nat.shiftLeft_eq] at this
  rw [Nat.or_comm, ← this, Nat.mul_comm d, Nat.add_comm]

theorem zag_e (Y : Nat) (h : Y < 18446744073709551616) (he : Y % 2 = 0) : Go.RowKit.wrap64 (IntKind.u64.wrap ((Y : Int) / 2)) = mth.zag Y := by
  rw [IntKind.wrap_u64, mth.zag, if_pos he]
  unfold Go.RowKit.wrap64
  omega
theorem zag_o (Y : Nat) (h : Y < 18446744073709551616) (he : ¬ Y % 2 = 0) : Go.RowKit.wrap64 (Go.RowKit.wrap64 (-Go.RowKit.wrap64 (IntKind.u64.wrap ((Y : Int) / 2))) - 1) = mth.zag Y := by
  rw [IntKind.wrap_u64, mth.zag, if_neg he]
  unfold Go.RowKit.wrap64
  omega

end Go.Proofs.Ytccdlmiemelifaa
end

section
namespace Go.Proofs.Ytccdlmiemelifaa
open Go.RowKit
set_option linter.unusedVariables false
set_option linter.unusedSimpArgs false

/-- bytes as rows -/
def u8R (l : List Nat) : List (List Dat) := l.map fun c : Nat => [.int .u8 (c : Int)]
theorem u8R_app (a b : List Nat) : u8R (a ++ b) = u8R a ++ u8R b := by simp [u8R]
theorem u8R_len (a : List Nat) : (u8R a).length = a.length := by simp [u8R]
theorem u8R_get {l : List Nat} {i : Nat} (h : i < l.length) (d : Dat) : ((u8R l).getD i []).getD 0 d = .int .u8 (l[i] : Int) := by
  simp [u8R, List.getD_eq_getElem?_getD, List.getElem?_eq_getElem h]
theorem sh63 : (2 : Int) ^ (min (Int.toNat 63) 64) = 9223372036854775808 := by decide
theorem zig_of (n : Int) (h1 : -9223372036854775808 ≤ n) (h2 : n ≤ 9223372036854775807) :
    Ar.xor.of .u64 (Ar.shl.of .u64 (IntKind.u64.wrap n) 1) (IntKind.u64.wrap (Ar.shr.of .i64 n 63)) = ((mth.zig n : Nat) : Int) := by
  have := zig_bits n h1 h2
  have e1 : Ar.shl.of .u64 (IntKind.u64.wrap n) 1 = IntKind.u64.wrap (IntKind.u64.wrap n * 2) := rfl
  have e2 : Ar.shr.of .i64 n 63 = n / 9223372036854775808 := by
    show n.fdiv (2 ^ 63) = _
    rw [Int.fdiv_eq_ediv_of_nonneg _ (by decide)]; rfl
  rw [e1, e2]; exact this
theorem zag_of (x : Nat) (h : x < 18446744073709551616) : Ar.xor.of .i64 (IntKind.i64.wrap (Ar.shr.of .u64 (x : Int) 1)) (IntKind.i64.wrap (0 - IntKind.i64.wrap (Ar.and.of .u64 (x : Int) 1))) = mth.zag x := by
  have := zag_bits x h
  have e1 : Ar.shr.of .u64 (x : Int) 1 = (x : Int) / 2 := by
    show (x : Int).fdiv (2 ^ 1) = _
    rw [Int.fdiv_eq_ediv_of_nonneg _ (by decide)]; rfl
  have e2 : IntKind.i64.wrap ((x : Int) / 2) = (x : Int) / 2 := wrap64 (by omega) (by omega)
  have w64 : ∀ y, IntKind.i64.wrap y = RowKit.wrap64 y := fun y => by rw [IntKind.wrap_i64, RowKit.wrap64]
  rw [e1, e2, Int.zero_sub, w64, w64]; exact this
-- lacks slices.Clone[[]byte,byte] : Cl8
def Cl8_s : Spec := fun ds Q => (argL ds 0).length ≤ 100000000 ∧ Q [.rows (argL ds 0)]
/-- bytes that bytes are put behind -/
-- lacks mulligan/wire.Put : wPut
def wPut_s : Spec := fun ds Q => (argL ds 0).length ≤ 90000000 ∧ -9223372036854775808 ≤ argI ds 1 ∧ argI ds 1 ≤ 9223372036854775807 ∧ Q [.rows (argL ds 0 ++ u8R (mth.encI (argI ds 1)))]
theorem or128_of (y : Nat) (h : y < 18446744073709551616) : Ar.or.of .u8 (IntKind.u8.wrap (y : Int)) 128 = ((y % 128 + 128 : Nat) : Int) := by
  have e : IntKind.u8.wrap (y : Int) = ((y % 256 : Nat) : Int) := by rw [IntKind.wrap_u8]; omega
  rw [e]
  have key : ∀ c : _root_.Fin 256, Ar.or.of .u8 (c.val : Int) 128 = ((c.val % 128 + 128 : Nat) : Int) := by decide +kernel
  have := key ⟨y % 256, Nat.mod_lt _ (by decide)⟩
  rw [this]
  congr 1
  show y % 256 % 128 + 128 = _
  omega
theorem shr7 (y : Nat) : Ar.shr.of .u64 (y : Int) 7 = ((y / 128 : Nat) : Int) := by
  show (y : Int).fdiv (2 ^ 7) = _
  rw [Int.fdiv_eq_ediv_of_nonneg _ (by decide)]; rfl
theorem stands_of (n : Int) (h1 : -9223372036854775808 ≤ n) (h2 : n ≤ 9223372036854775807) : (if 0 ≤ n then Dat.int .u64 (Ar.mul.of .u64 2 (IntKind.u64.wrap n)) else Dat.int .u64 (IntKind.u64.wrap (Ar.mul.of .u64 2 (IntKind.u64.wrap (IntKind.i64.wrap (0 - IntKind.i64.wrap (n + 1)))) + 1))) = .int .u64 ((mth.zig n : Nat) : Int) := by
  by_cases h : 0 ≤ n
  · rw [if_pos h]
    congr 1
    simp only [Ar.of, mth.zig, if_pos h, IntKind.wrap_u64]
    omega
  · rw [if_neg h, wrap64 (x := n + 1) (by omega) (by omega), wrap64 (by omega) (by omega)]
    congr 1
    simp only [Ar.of, mth.zig, if_neg h, IntKind.wrap_u64]
    omega
theorem quo128 (y : Nat) (h : y < 18446744073709551616) : Ar.quo.of .u64 (y : Int) 128 = ((y / 128 : Nat) : Int) := by
  show IntKind.u64.wrap ((y : Int).tdiv 128) = _
  rw [Int.tdiv_eq_ediv_of_nonneg (by omega), IntKind.wrap_u64]
  omega
theorem rem128 (y : Nat) (h : y < 18446744073709551616) : IntKind.u8.wrap (IntKind.u8.wrap ((y : Int).tmod 128) + 128) = ((y % 128 + 128 : Nat) : Int) := by
  rw [Int.tmod_eq_emod_of_nonneg (by omega), IntKind.wrap_u8, IntKind.wrap_u8]
  omega
def k_rBytes2 : Nat := 22
def sg_rBytes2 : Sig := ⟨[(false, [.int .i64])], [(false, [.rows 5])], true, false, true, false, false⟩
def tr_rBytes2 : Tree := (.loop [(.ite (.cmp .ge (.var 0) (.int .i64 0)) (.ar .mul .u64 (.int .u64 2) (.conv .u64 (.var 0))) (.ar .add .u64 (.ar .mul .u64 (.int .u64 2) (.conv .u64 (.ar .sub .i64 (.int .i64 0) (.ar .add .i64 (.var 0) (.int .i64 1))))) (.int .u64 1))), .emp] [(.int .u64), (.rows 5)]
 (.ite (.cmp .gt (.var 1) (.int .u64 127))
  (.ob (.cmp .le (.len (.push (.var 2) (.econs (.ar .add .u8 (.conv .u8 (.ar .rem .u64 (.var 1) (.int .u64 128))) (.int .u8 128)) .enil))) (.int .i64 140737488355328))
  (.again 0 [(.ar .quo .u64 (.var 1) (.int .u64 128)), (.push (.var 2) (.econs (.ar .add .u8 (.conv .u8 (.ar .rem .u64 (.var 1) (.int .u64 128))) (.int .u8 128)) .enil))]))
  (.ob (.cmp .le (.len (.push (.var 2) (.econs (.conv .u8 (.var 1)) .enil))) (.int .i64 140737488355328))
  (.ret [(.push (.var 2) (.econs (.conv .u8 (.var 1)) .enil))]))))
theorem wk_rBytes2 : walk E0.cx (sgsN []) 0 22 sg_rBytes2 = tr_rBytes2 := by kernel_rfl
theorem bo_rBytes2 : ∃ x, bodyOf E0.P 22 = some x := bo_of (by kernel_rfl)
def rBytes2_s : Spec := fun ds Q => -9223372036854775808 ≤ argI ds 0 ∧ argI ds 0 ≤ 9223372036854775807 ∧ Q [.rows (u8R (mth.encI (argI ds 0)))]
theorem rBytes2_h : Holds E0 k_rBytes2 sg_rBytes2 rBytes2_s := con_fn wf0 mix0 g0 [] rfl wk_rBytes2 rfl (by
  intro Φ hΦ ds Q hs ⟨n1, n2, h⟩
  have hl : ds.length = 1 := hs.length.symm
  clear hΦ
  simp only [tr_rBytes2, wp, den_int, den_bool, den_nili, den_ar, den_cmp, den_not, den_len, den_elem, den_isnil, den_errI, den_ifc, den_rep, den_push, den_app, den_emp, den_upd, row0_econs, row0_enil, den_and, den_beq, den_nil, toInt_int, toBool_bool, xs_rows, xs_list, dflt_int, dflt_bool, of_eq, of_ne, of_lt, of_le, of_gt, of_ge, of_add, of_sub, of_rem, List.map_cons, List.map_nil, Dat.bool.injEq, decide_eq_true_eq, decide_eq_false_iff_not, Bool.not_eq_true', Bool.not_eq_false', beq_iff_eq, bne_iff_ne, beq_eq_false_iff_ne, bne_eq_false_iff_eq, ne_eq, List.append_assoc, List.cons_append, List.nil_append, allS, den_conv, den_ite, @den_var0 E0.Δ ds, den_varA, den_varB, hl, Nat.reduceLT, Nat.reduceLeDiff, Nat.reduceSub, List.getD_cons_zero, List.getD_cons_succ, argL_fold ds, argI_fold ds, List.append_assoc, List.cons_append, List.nil_append, toInt_int, toBool_bool, xs_rows, xs_list, Int.toNat_natCast, Dat.bool.injEq]
  have hX := mth.zig_lt _ n1 n2
  rw [stands_of _ n1 n2]
  refine ⟨fun xs m => ∃ (k y : Nat) (dn : List Nat), mth.Going (mth.zig (argI ds 0)) k y dn ∧ xs = [.int .u64 (y : Int), .rows (u8R dn)] ∧ m = y, ⟨_, 0, _, [], mth.going_start _ hX, rfl, rfl⟩, ?_⟩
  rintro n d hd m ⟨k, y, dn, hg, e, hm⟩
  cases e
  have hlen := hg.len
  have hk := hg.hk
  have hle := hg.le
  refine ⟨fun h128 => ⟨?_, ?_⟩, fun h128 => ⟨?_, ?_⟩⟩
  · simp only [xs_rows, List.length_append, u8R_len, List.length_cons, List.length_nil]; omega
  · have hy : ¬ y < 128 := by omega
    refine ⟨y / 128, by omega, k + 1, y / 128, _, mth.going_step hg hy, ?_, rfl⟩
    rw [quo128 y (by omega), rem128 y (by omega), u8R_app]; rfl
  · simp only [xs_rows, List.length_append, u8R_len, List.length_cons, List.length_nil]; omega
  · have hy : y < 128 := by omega
    have he := (mth.going_end hg hy).1
    have ew : IntKind.u8.wrap (y : Int) = (y : Int) := by rw [IntKind.wrap_u8]; omega
    rw [ew]
    have e2 : u8R (mth.encI (argI ds 0)) = u8R dn ++ [[.int .u8 (y : Int)]] := by
      rw [mth.encI, ← he, u8R_app]; rfl
    rw [e2] at h
    exact h)
noncomputable def con_rBytes2 : Con E0 := ⟨k_rBytes2, sg_rBytes2, rBytes2_s, rfl, bo_rBytes2, rBytes2_h⟩
-- lacks mulligan/wire.zag : wzag
def wzag_s : Spec := fun ds Q => ∃ x : Nat, x < 18446744073709551616 ∧ argI ds 0 = (x : Int) ∧ Q [.int .i64 (mth.zag x)]
def wTake_s : Spec := fun ds Q => ∃ l : List Nat, argL ds 0 = u8R l ∧ (∀ c ∈ l, c < 256) ∧ l.length ≤ 90000000 ∧ ∀ d : Dat, d.xs = (if (mth.tk 0 0 l).2.2 = 0 then u8R (l.drop (mth.tk 0 0 l).2.1) else []) → Q [.int .i64 (mth.tk 0 0 l).1, d, errV (mth.tk 0 0 l).2.2]
def rTake2_s : Spec := fun ds Q => ∃ l : List Nat, argL ds 0 = u8R l ∧ (∀ c ∈ l, c < 256) ∧ l.length ≤ 90000000 ∧ Q [.int .i64 (mth.tk 0 0 l).1, .int .i64 ((mth.tk 0 0 l).2.1 : Nat), .int .i64 (mth.tk 0 0 l).2.2]
end Go.Proofs.Ytccdlmiemelifaa
end

section
namespace Go.Proofs.Ytccdlmiemelifaa
open Go.RowKit
set_option linter.unusedVariables false
set_option linter.unusedSimpArgs false

mutual
def Eff.enc : Eff → List Nat
  | .mk op n m who l => mth.encI op ++ mth.encI n ++ mth.encI m ++ mth.encI who ++ mth.encI (l.length : Int) ++ Eff.encs l
def Eff.encs : List Eff → List Nat
  | [] => []
  | e :: l => e.enc ++ Eff.encs l
end
def in64 (n : Int) : Prop := -9223372036854775808 ≤ n ∧ n ≤ 9223372036854775807
mutual
/-- all numbers are within 64 bits -/
def Eff.ok : Eff → Prop
  | .mk op n m who l => in64 op ∧ in64 n ∧ in64 m ∧ in64 who ∧ Eff.oks l
def Eff.oks : List Eff → Prop
  | [] => True
  | e :: l => e.ok ∧ Eff.oks l
end
theorem Eff.oks_mem : ∀ {l : List Eff}, Eff.oks l → ∀ e ∈ l, e.ok
  | x :: l, h, e, he => by
    rcases List.mem_cons.1 he with rfl | he
    · exact h.1
    · exact Eff.oks_mem h.2 e he
theorem Eff.oks_of : ∀ {l : List Eff}, (∀ e ∈ l, e.ok) → Eff.oks l
  | [], _ => trivial
  | x :: l, h => ⟨h x (by simp), Eff.oks_of fun e he => h e (by simp [he])⟩
theorem Eff.ok_eq (e : Eff) : e.ok ↔ in64 e.op ∧ in64 e.n ∧ in64 e.m ∧ in64 e.who ∧ Eff.oks e.subs := by cases e; rfl
theorem Eff.enc_eq (e : Eff) : e.enc = mth.encI e.op ++ mth.encI e.n ++ mth.encI e.m ++ mth.encI e.who ++ mth.encI (e.subs.length : Int) ++ Eff.encs e.subs := by cases e; rfl
theorem Eff.encs_append : ∀ (a b : List Eff), Eff.encs (a ++ b) = Eff.encs a ++ Eff.encs b
  | [], b => by simp [Eff.encs]
  | e :: a, b => by simp [Eff.encs, Eff.encs_append a b]
theorem encI_len (n : Int) : (mth.encI n).length ≤ 10 := (mth.enc_len _).2
mutual
theorem Eff.enc_len : ∀ e : Eff, e.enc.length ≤ 50 * e.size
  | .mk op n m who l => by
    have h1 := encI_len op
    have h2 := encI_len n
    have h3 := encI_len m
    have h4 := encI_len who
    have h5 := encI_len (l.length : Int)
    have h6 := Eff.encs_len l
    simp only [Eff.enc, Eff.size, List.length_append]; omega
theorem Eff.encs_len : ∀ l : List Eff, (Eff.encs l).length ≤ 50 * Eff.sizes l
  | [] => by simp [Eff.encs, Eff.sizes]
  | e :: l => by
    have h1 := Eff.enc_len e
    have h2 := Eff.encs_len l
    simp only [Eff.encs, Eff.sizes, List.length_append]; omega
end
theorem encs_take {l : List (List Dat)} {i : Nat} (h : i < l.length) : Eff.encs ((l.take (i + 1)).map effOf) = Eff.encs ((l.take i).map effOf) ++ (effOf (l.getD i [])).enc := by
  rw [take_succ_getD (d := ([] : List Dat)) h, List.map_append, Eff.encs_append]
  simp [Eff.encs]
-- lacks mulligan/effect.Bytes : eBytes
def eBytes_s : Spec := fun ds Q => (argE ds).size ≤ 1000 ∧ (argE ds).ok ∧ Q [.rows (u8R (argE ds).enc)]
def k_rBytes6 : Nat := 8
def sg_rBytes6 : Sig := ⟨[(true, List.replicate 4 (.int .i64) ++ [.list 24])], [(false, [.rows 5])], true, true, false, false, false⟩
def tr_rBytes6 : Tree := (.call k_rBytes2 [(.var 0)] [(.rows 5)]
(.call k_rBytes2 [(.var 1)] [(.rows 5)]
(.ob (.cmp .le (.len (.app (.app .emp (.var 5)) (.app .emp (.var 6)))) (.int .i64 140737488355328))
(.call k_rBytes2 [(.var 2)] [(.rows 5)]
(.ob (.cmp .le (.len (.app (.app (.app .emp (.var 5)) (.app .emp (.var 6))) (.app .emp (.var 7)))) (.int .i64 140737488355328))
(.call k_rBytes2 [(.var 3)] [(.rows 5)]
(.ob (.cmp .le (.len (.app (.app (.app (.app .emp (.var 5)) (.app .emp (.var 6))) (.app .emp (.var 7))) (.app .emp (.var 8)))) (.int .i64 140737488355328))
(.call k_rBytes2 [(.len (.var 4))] [(.rows 5)]
(.ob (.cmp .le (.len (.app (.app (.app (.app (.app .emp (.var 5)) (.app .emp (.var 6))) (.app .emp (.var 7))) (.app .emp (.var 8))) (.app .emp (.var 9)))) (.int .i64 140737488355328))
(.loop [(.app (.app (.app (.app (.app .emp (.var 5)) (.app .emp (.var 6))) (.app .emp (.var 7))) (.app .emp (.var 8))) (.app .emp (.var 9))), (.int .i64 0)] [(.rows 5), (.int .i64)]
 (.ite (.cmp .lt (.var 11) (.len (.var 4)))
  (.ob (.cmp .ge (.var 11) (.int .i64 0))
  (.call k_rBytes6 [(.elem (.var 4) (.var 11) 0 (.int .i64)), (.elem (.var 4) (.var 11) 1 (.int .i64)), (.elem (.var 4) (.var 11) 2 (.int .i64)), (.elem (.var 4) (.var 11) 3 (.int .i64)), (.elem (.var 4) (.var 11) 4 (.list 24))] [(.rows 5)]
  (.ob (.cmp .le (.len (.app (.var 10) (.app .emp (.var 12)))) (.int .i64 140737488355328))
  (.again 0 [(.app (.var 10) (.app .emp (.var 12))), (.ar .add .i64 (.var 11) (.int .i64 1))]))))
  (.ret [(.var 10)]))))))))))))
theorem wk_rBytes6 : walk E0.cx (sgsN [(22, sg_rBytes2), (8, sg_rBytes6)]) 0 8 sg_rBytes6 = tr_rBytes6 := by kernel_rfl
theorem bo_rBytes6 : ∃ x, bodyOf E0.P 8 = some x := bo_of (by kernel_rfl)
def rBytes6_s : Spec := fun ds Q => (argE ds).size ≤ 1000 ∧ (argE ds).ok ∧ Q [.rows (u8R (argE ds).enc)]
theorem rBytes6_h : Holds E0 k_rBytes6 sg_rBytes6 rBytes6_s := holds_rec mE fun n ih => con_fn wf0 mix0 g0 [con_rBytes2, ⟨_, _, _, rfl, bo_rBytes6, ih⟩] rfl wk_rBytes6 rfl (by
  intro Φ hΦ ds Q hs ⟨hm, hsz, hok, h⟩
  have hl : ds.length = 5 := hs.length.symm
  have sp : Φ k_rBytes6 = (fun ds Q => mE ds < n ∧ rBytes6_s ds Q) := by rw [hΦ]; rfl
  have sp1 : Φ k_rBytes2 = rBytes2_s := by rw [hΦ]; rfl
  clear hΦ
  have hrow := eff_len (all2_get hs (i := 4) rfl)
  rw [argL_fold] at hrow
  have hsub := argE_subs ds
  have hlen := Eff.length_le_sizes ((argL ds 4).map effOf)
  rw [List.length_map] at hlen
  rw [mE] at hm
  rw [Eff.size_eq, hsub] at hm hsz
  rw [Eff.enc_eq, hsub, List.length_map, argE_opI, argE_n, argE_m, argE_who] at h
  rw [Eff.ok_eq, argE_opI, argE_n, argE_m, argE_who, hsub] at hok
  obtain ⟨o1, o2, o3, o4, o5⟩ := hok
  have q1 := encI_len (argI ds 0)
  have q2 := encI_len (argI ds 1)
  have q3 := encI_len (argI ds 2)
  have q4 := encI_len (argI ds 3)
  have q5 := encI_len ((argL ds 4).length : Int)
  have a0 : ∀ {x y : List Dat}, argL (x ++ y) 0 = argL (x ++ y) 0 := rfl
  simp only [tr_rBytes6, wp, den_int, den_bool, den_nili, den_ar, den_cmp, den_not, den_len, den_elem, den_isnil, den_errI, den_ifc, den_rep, den_push, den_app, den_emp, den_upd, row0_econs, row0_enil, den_and, den_beq, den_nil, toInt_int, toBool_bool, xs_rows, xs_list, dflt_int, dflt_bool, of_eq, of_ne, of_lt, of_le, of_gt, of_ge, of_add, of_sub, of_rem, List.map_cons, List.map_nil, Dat.bool.injEq, decide_eq_true_eq, decide_eq_false_iff_not, Bool.not_eq_true', Bool.not_eq_false', beq_iff_eq, bne_iff_ne, beq_eq_false_iff_ne, bne_eq_false_iff_eq, ne_eq, List.append_assoc, List.cons_append, List.nil_append, allS, sp, sp1, rBytes2_s, @den_var0 E0.Δ ds, den_varA, den_varB, hl, Nat.reduceLT, Nat.reduceLeDiff, Nat.reduceSub, List.getD_cons_zero, List.getD_cons_succ, argL_fold ds, argI_fold ds, List.append_assoc, List.cons_append, List.nil_append, toInt_int, toBool_bool, xs_rows, xs_list, Int.toNat_natCast, Dat.bool.injEq, argL_c0, argI_c1, argI_c0]
  have p : ∀ i, i < 4 → True := fun _ _ => trivial
  refine ⟨o1.1, o1.2, o2.1, o2.2, ?_, o3.1, o3.2, ?_, o4.1, o4.2, ?_, by omega, by omega, ?_, ?_⟩
  · simp only [xs_rows, List.length_append, u8R_len, List.length_nil, List.nil_append]; omega
  · simp only [xs_rows, List.length_append, u8R_len, List.length_nil, List.nil_append]; omega
  · simp only [xs_rows, List.length_append, u8R_len, List.length_nil, List.nil_append]; omega
  · simp only [xs_rows, List.length_append, u8R_len, List.length_nil, List.nil_append]; omega
  refine ⟨fun xs m => ∃ i : Nat, i ≤ (argL ds 4).length ∧ m = (argL ds 4).length - i ∧ xs = [.rows (u8R (mth.encI (argI ds 0) ++ mth.encI (argI ds 1) ++ mth.encI (argI ds 2) ++ mth.encI (argI ds 3) ++ mth.encI ((argL ds 4).length : Int) ++ Eff.encs (((argL ds 4).take i).map effOf))), .int .i64 i], ⟨_, 0, by omega, rfl, by simp [Eff.encs, u8R_app]⟩, ?_⟩
  rintro d hd i' m ⟨i, hi, hmi, e⟩
  cases e
  refine ⟨fun hlt => ⟨by omega, ?_⟩, fun hge => ?_⟩
  · have hi2 : i < (argL ds 4).length := by omega
    have hr := hrow _ (getD_memL (d := []) hi2)
    have hle : (effOf ((argL ds 4).getD i [])).size ≤ Eff.sizes ((argL ds 4).map effOf) := Eff.size_le_sizes (List.mem_map.2 ⟨_, getD_memL hi2, rfl⟩)
    have hokx := Eff.oks_mem o5 _ (List.mem_map.2 ⟨_, getD_memL (d := ([] : List Dat)) hi2, rfl⟩)
    have hl1 := Eff.encs_len (((argL ds 4).take i).map effOf)
    have hl2 := Eff.sizes_take (argL ds 4) i
    have hl3 := Eff.enc_len (effOf ((argL ds 4).getD i []))
    simp only [Int.toNat_natCast, fold5 hr, mE, rBytes6_s]
    simp only [argE_row0 hr]
    refine ⟨by omega, by omega, hokx, ?_, (argL ds 4).length - (i + 1), by omega, i + 1, by omega, rfl, ?_⟩
    · simp only [xs_rows, List.length_append, u8R_len, List.getD_cons_zero, List.nil_append]; omega
    · rw [wrap64 (by omega) (by omega), encs_take hi2]
      simp only [xs_rows, List.getD_cons_zero, List.nil_append, u8R_app, List.append_assoc]; rfl
  · have hkk : i = (argL ds 4).length := by omega
    rw [hkk, List.take_of_length_le (by omega)]
    exact h)
noncomputable def con_rBytes6 : Con E0 := ⟨k_rBytes6, sg_rBytes6, rBytes6_s, rfl, bo_rBytes6, rBytes6_h⟩
end Go.Proofs.Ytccdlmiemelifaa
end

section
namespace Go.Proofs.Ytccdlmiemelifaa
open Go.RowKit
set_option linter.unusedVariables false
set_option linter.unusedSimpArgs false

def nilE : Eff := .mk 0 0 0 0 []
def nx (b : List Nat) (k : Int → Nat → Eff × Nat × Int) : Eff × Nat × Int := if (mth.tk 0 0 b).2.2 = 0 then k (mth.tk 0 0 b).1 (mth.tk 0 0 b).2.1 else (nilE, 0, (mth.tk 0 0 b).2.2)
def tkEs (g : List Nat → Eff × Nat × Int) : Nat → List Nat → List Eff × Nat × Int
  | 0, _ => ([], 0, 0)
  | m + 1, b => if (g b).2.2 = 0 then (if (tkEs g m (b.drop (g b).2.1)).2.2 = 0 then ((g b).1 :: (tkEs g m (b.drop (g b).2.1)).1, (g b).2.1 + (tkEs g m (b.drop (g b).2.1)).2.1, 0) else ([], 0, (tkEs g m (b.drop (g b).2.1)).2.2)) else ([], 0, (g b).2.2)
/-- an effect, how many bytes it has, an error's number; f: how much deeper it may go -/
def tkE : Nat → List Nat → Eff × Nat × Int
  | 0, _ => (nilE, 0, 3)
  | f + 1, b => nx b fun o k1 => nx (b.drop k1) fun n k2 => nx (b.drop (k1 + k2)) fun m k3 => nx (b.drop (k1 + k2 + k3)) fun w k4 => nx (b.drop (k1 + k2 + k3 + k4)) fun c k5 =>
      if c < 0 then (nilE, 0, 1) else if 8 < c then (nilE, 0, 19) else
        (if (tkEs (tkE f) c.toNat (b.drop (k1 + k2 + k3 + k4 + k5))).2.2 = 0 then (.mk o n m w (tkEs (tkE f) c.toNat (b.drop (k1 + k2 + k3 + k4 + k5))).1, k1 + k2 + k3 + k4 + k5 + (tkEs (tkE f) c.toNat (b.drop (k1 + k2 + k3 + k4 + k5))).2.1, 0)
          else (nilE, 0, (tkEs (tkE f) c.toNat (b.drop (k1 + k2 + k3 + k4 + k5))).2.2))
/-- numbers of effects that are taken one behind the other, in the program's way: what is there already, and what is left -/
def goE (g : List Nat → Eff × Nat × Int) : Nat → List Eff → List Nat → Option (List Eff × List Nat) × Int
  | 0, acc, b => (some (acc, b), 0)
  | m + 1, acc, b => if (g b).2.2 = 0 then goE g m (acc ++ [(g b).1]) (b.drop (g b).2.1) else (none, (g b).2.2)
theorem goE_tk (g : List Nat → Eff × Nat × Int) : ∀ (m : Nat) (acc : List Eff) (b : List Nat), goE g m acc b = if (tkEs g m b).2.2 = 0 then (some (acc ++ (tkEs g m b).1, b.drop (tkEs g m b).2.1), 0) else (none, (tkEs g m b).2.2)
  | 0, acc, b => by simp [goE, tkEs]
  | m + 1, acc, b => by
    by_cases h : (g b).2.2 = 0
    · simp only [goE, tkEs, if_pos h]
      rw [goE_tk g m]
      by_cases h2 : (tkEs g m (b.drop (g b).2.1)).2.2 = 0
      · simp [h2, List.drop_drop, Nat.add_comm]
      · simp [h2]
    · simp only [goE, tkEs, if_neg h]
theorem effOf_nil {v : Value} {sz : Nat} : effOf [.int .i64 0, .int .i64 0, .int .i64 0, .int .i64 0, .list v sz []] = nilE := by rw [effOf_eq]; rfl
theorem drop_bytes {l : List Nat} (h : ∀ c ∈ l, c < 256) (k : Nat) : ∀ c ∈ l.drop k, c < 256 := fun c hc => h c (List.mem_of_mem_drop hc)
def mD (ds : List Dat) : Nat := (9 - argI ds 1).toNat
-- lacks mulligan/effect.take : etake
def etake_s : Spec := fun ds Q => ∃ (l : List Nat) (f : Nat), argL ds 0 = u8R l ∧ (∀ c ∈ l, c < 256) ∧ l.length ≤ 90000000 ∧ f ≤ 8 ∧ argI ds 1 = 9 - (f : Int) ∧ ∀ (r : List Dat) (rest : Dat), r.length = 5 → effOf r = (tkE f l).1 → rest.xs = (if (tkE f l).2.2 = 0 then u8R (l.drop (tkE f l).2.1) else []) → Q (r ++ [rest, errV (tkE f l).2.2])
def eTake_s : Spec := fun ds Q => ∃ l : List Nat, argL ds 0 = u8R l ∧ (∀ c ∈ l, c < 256) ∧ l.length ≤ 90000000 ∧ ∀ (r : List Dat) (rest : Dat), r.length = 5 → effOf r = (tkE 8 l).1 → rest.xs = (if (tkE 8 l).2.2 = 0 then u8R (l.drop (tkE 8 l).2.1) else []) → Q (r ++ [rest, errV (tkE 8 l).2.2])
def rTake6_s : Spec := fun ds Q => ∃ (l : List Nat) (f : Nat), argL ds 0 = u8R l ∧ (∀ c ∈ l, c < 256) ∧ l.length ≤ 90000000 ∧ f ≤ 8 ∧ argI ds 1 = 9 - (f : Int) ∧ ∀ (r : List Dat), r.length = 5 → effOf r = (tkE f l).1 → Q (r ++ [.int .i64 ((tkE f l).2.1 : Nat), .int .i64 (tkE f l).2.2])
theorem tk_le {l : List Nat} (hb : ∀ c ∈ l, c < 256) {v : Int} {k : Nat} {e : Int} (h : mth.tk 0 0 l = (v, k, e)) : k ≤ l.length := by
  by_cases he : e = 0
  · subst he; exact (mth.tk_canon l v k hb h).2.2.1
  · have := (mth.tk_bad l v k e 0 0 h he).2.1; omega
theorem xs_cutN {d : Dat} {l : List Nat} {k : Nat} {z : Int} (hd : Has E0.Δ (.list 5) d) (hx : d.xs = u8R l) (hk : k ≤ l.length) (hz : z = (k : Int)) : (cutD z.toNat d.xs.length d).xs = u8R (l.drop k) := by
  subst hz
  rw [Int.toNat_natCast, xs_cutD hd (by rw [hx, u8R_len]; exact hk) (Nat.le_refl _), List.take_of_length_le (Nat.le_refl _), hx]
  simp [u8R, List.map_drop]
theorem tkEs_le (g : List Nat → Eff × Nat × Int) (hg : ∀ b, (∀ c ∈ b, c < 256) → (g b).2.1 ≤ b.length) : ∀ (m : Nat) (b : List Nat), (∀ c ∈ b, c < 256) → (tkEs g m b).2.1 ≤ b.length
  | 0, b, _ => by simp [tkEs]
  | m + 1, b, hb => by
    have h1 := hg b hb
    have h2 := tkEs_le g hg m (b.drop (g b).2.1) (drop_bytes hb _)
    rw [List.length_drop] at h2
    simp only [tkEs]
    split
    · split
      · simp only; omega
      · simp
    · simp
theorem tkE_le : ∀ (f : Nat) (b : List Nat), (∀ c ∈ b, c < 256) → (tkE f b).2.1 ≤ b.length
  | 0, b, _ => by simp [tkE]
  | f + 1, b, hb => by
    have key : ∀ (k : Nat) (F : Int → Nat → Eff × Nat × Int), k ≤ b.length → (∀ v k', k + k' ≤ b.length → (F v k').2.1 ≤ b.length) → (nx (b.drop k) F).2.1 ≤ b.length := fun k F hk hF => by
      unfold nx
      split
      · refine hF _ _ ?_
        have := tk_le (drop_bytes hb k) (v := (mth.tk 0 0 (b.drop k)).1) (k := (mth.tk 0 0 (b.drop k)).2.1) (e := (mth.tk 0 0 (b.drop k)).2.2) rfl
        rw [List.length_drop] at this
        omega
      · simp
    rw [tkE]
    refine key 0 _ (Nat.zero_le _) fun o k1 h1 => ?_
    rw [Nat.zero_add] at h1
    refine key k1 _ h1 fun n k2 h2 => key (k1 + k2) _ h2 fun m k3 h3 => key (k1 + k2 + k3) _ h3 fun w k4 h4 => key (k1 + k2 + k3 + k4) _ h4 fun c k5 h5 => ?_
    split
    · simp
    · split
      · simp
      · split
        · have := tkEs_le (tkE f) (fun b hb => tkE_le f b hb) c.toNat (b.drop (k1 + k2 + k3 + k4 + k5)) (drop_bytes hb _)
          rw [List.length_drop] at this
          simp only; omega
        · simp
end Go.Proofs.Ytccdlmiemelifaa
end

section
namespace Go.Proofs.Ytccdlmiemelifaa
open Go.RowKit
set_option linter.unusedVariables false
set_option linter.unusedSimpArgs false

theorem byte_has {d : Dat} (h : Has E0.Δ (.list 5) d) (hi : InD d) : ∃ l : List Nat, d.xs = u8R l ∧ (∀ c ∈ l, c < 256) ∧ l.length ≤ maxLen := by
  cases h with
  | list _ A n c xs hl hh =>
    cases hi with
    | list v sz _ hm hr =>
      have key : ∀ xs : List (List Dat), (∀ r ∈ xs, r.length = (E0.Δ.row 5).length) → (∀ row ∈ xs, ∀ (c : Nat) (s : Srt) (d : Dat), (E0.Δ.row 5)[c]? = some s → row[c]? = some d → Has E0.Δ s d) → (∀ r ∈ xs, ∀ d ∈ r, InD d) → ∃ l : List Nat, xs = u8R l ∧ ∀ c ∈ l, c < 256 := by
        intro xs
        induction xs with
        | nil => intro _ _ _; exact ⟨[], rfl, by simp⟩
        | cons x xs ih =>
          intro h1 h2 h3
          obtain ⟨l, e1, e2⟩ := ih (fun r hr => h1 r (List.mem_cons_of_mem _ hr)) (fun r hr => h2 r (List.mem_cons_of_mem _ hr)) (fun r hr => h3 r (List.mem_cons_of_mem _ hr))
          have hx := h2 x List.mem_cons_self
          have hin := h3 x List.mem_cons_self
          have hlx : x.length = 1 := h1 x List.mem_cons_self
          match x, hlx with
          | [d], _ =>
            have hd : Has E0.Δ (.int .u8) d := hx 0 _ d rfl rfl
            have hid := hin d List.mem_cons_self
            cases hd with
            | int k n =>
              cases hid with
              | int _ _ hw =>
                simp only [Lit.wf, Bool.and_eq_true, decide_eq_true_eq] at hw
                have h0 : 0 ≤ n := hw.1
                have h255 : n ≤ 255 := hw.2
                obtain ⟨m, rfl⟩ := Int.eq_ofNat_of_zero_le h0
                refine ⟨m :: l, by rw [e1]; rfl, fun c hc => ?_⟩
                rcases List.mem_cons.1 hc with rfl | hc
                · omega
                · exact e2 c hc
      obtain ⟨l, e1, e2⟩ := key xs hl hh hr
      exact ⟨l, e1, e2, by simpa [e1, u8R_len] using hm⟩
theorem encI_byte {n : Int} (h1 : -9223372036854775808 ≤ n) (h2 : n ≤ 9223372036854775807) : ∀ c ∈ mth.encI n, c < 256 := by
  have h := mth.zig_lt n h1 h2
  exact mth.encF_byte 9 _ (Nat.lt_of_lt_of_le h (by decide))
/-- bytes are the same -/
theorem loop_toList (b : ByteArray) : ∀ (n i : Nat) (r : List UInt8), b.size - i = n → ByteArray.toList.loop b i r = r.reverse ++ b.data.toList.drop i
  | 0, i, r, h => by
    unfold ByteArray.toList.loop
    have hs : b.data.toList.length = b.size := Array.length_toList
    rw [if_neg (by omega), List.drop_of_length_le (by omega), List.append_nil]
  | n + 1, i, r, h => by
    unfold ByteArray.toList.loop
    have hs : b.data.toList.length = b.size := Array.length_toList
    have hi : i < b.data.toList.length := by omega
    rw [if_pos (by omega), loop_toList b n (i + 1) _ (by omega), List.drop_eq_getElem_cons hi]
    have : b.get! i = b.data.toList[i] := by
      have : i < b.data.size := by simpa using hi
      simp only [ByteArray.get!]
      rw [Array.getElem_toList, getElem!_pos b.data i this]
    rw [this]
    simp
theorem toList_data (b : ByteArray) : b.toList = b.data.toList := (loop_toList b _ 0 [] rfl).trans (by simp)
theorem bytesOf_u8R (l : List Nat) : bytesOf (u8R l) = ⟨(l.map UInt8.ofNat).toArray⟩ := by
  have e : ∀ a : Nat, (Dat.int .u8 (a : Int)).toInt.toNat = a := fun a => rfl
  simp [bytesOf, u8R, e]
theorem u8_inj : ∀ {l m : List Nat}, (∀ c ∈ l, c < 256) → (∀ c ∈ m, c < 256) → (l.map UInt8.ofNat = m.map UInt8.ofNat ↔ l = m)
  | [], [], _, _ => by simp
  | [], _ :: _, _, _ => by simp
  | _ :: _, [], _, _ => by simp
  | a :: l, b :: m, h1, h2 => by
    have ih := u8_inj (fun c hc => h1 c (List.mem_cons_of_mem _ hc)) (fun c hc => h2 c (List.mem_cons_of_mem _ hc))
    have ha := h1 a List.mem_cons_self
    have hb := h2 b List.mem_cons_self
    simp only [List.map_cons, List.cons.injEq, ih]
    refine and_congr_left fun _ => ⟨fun h => ?_, fun h => by rw [h]⟩
    have := congrArg UInt8.toNat h
    rw [UInt8.toNat_ofNat', UInt8.toNat_ofNat'] at this
    omega
theorem u8R_inj {l m : List Nat} (h : u8R l = u8R m) : l = m := by
  have h2 := congrArg (List.map fun r : List Dat => (r.headD (.int .u8 0)).toInt.toNat) h
  have e : ∀ l : List Nat, (u8R l).map (fun r : List Dat => (r.headD (.int .u8 0)).toInt.toNat) = l := fun l => by
    unfold u8R
    rw [List.map_map]
    exact (List.map_congr_left fun a _ => rfl).trans (List.map_id l)
  rw [e, e] at h2
  exact h2
theorem strD_toList {l : List Nat} : (strD (.val (.string (bytesOf (u8R l))))).toList = l.map UInt8.ofNat := by
  rw [bytesOf_u8R, strD, toList_data]
def k_sameB : Nat := 12
def sg_sameB : Sig := ⟨[(false, [.list 5]), (false, [.list 5])], [(false, [.bool])], false, false, false, false, false⟩
def tr_sameB : Tree := (.ret [(.seq (.sof (.var 0)) (.sof (.var 1)))])
theorem wk_sameB : walk E0.cx (sgsN []) 0 12 sg_sameB = tr_sameB := by kernel_rfl
theorem bo_sameB : ∃ x, bodyOf E0.P 12 = some x := bo_of (by kernel_rfl)
def sameB_s : Spec := fun ds Q => ∃ l m : List Nat, argL ds 0 = u8R l ∧ argL ds 1 = u8R m ∧ (∀ c ∈ l, c < 256) ∧ (∀ c ∈ m, c < 256) ∧ Q [.bool (decide (l = m))]
theorem sameB_h : Holds E0 k_sameB sg_sameB sameB_s := con_fn wf0 mix0 g0 [] rfl wk_sameB rfl (by
  intro Φ hΦ ds Q hs ⟨l, m, h1, h2, h3, h4, h⟩
  clear hΦ
  simp only [tr_sameB, wp, List.map_cons, List.map_nil, den, argL_fold, h1, h2, strD_toList]
  refine cast (congrArg Q ?_) h
  have e := u8_inj h3 h4
  congr 2
  rw [Bool.eq_iff_iff, decide_eq_true_eq, beq_iff_eq, e])
noncomputable def con_sameB : Con E0 := ⟨k_sameB, sg_sameB, sameB_s, rfl, bo_sameB, sameB_h⟩
end Go.Proofs.Ytccdlmiemelifaa
end

section
namespace Go.Proofs.Ytccdlmiemelifaa
open Go.RowKit
set_option linter.unusedVariables false
set_option linter.unusedSimpArgs false

mutual
theorem Eff.enc_ge : ∀ e : Eff, 5 * e.size ≤ e.enc.length
  | .mk o n m w l => by
    have h := Eff.encs_ge l
    have h1 := (mth.enc_len (mth.zig o)).1
    have h2 := (mth.enc_len (mth.zig n)).1
    have h3 := (mth.enc_len (mth.zig m)).1
    have h4 := (mth.enc_len (mth.zig w)).1
    have h5 := (mth.enc_len (mth.zig (l.length : Int))).1
    simp only [Eff.enc, Eff.size, List.length_append, mth.encI]
    omega
theorem Eff.encs_ge : ∀ l : List Eff, 5 * Eff.sizes l ≤ (Eff.encs l).length
  | [] => by simp [Eff.sizes]
  | e :: l => by
    have h := Eff.encs_ge l
    have h1 := Eff.enc_ge e
    simp only [Eff.encs, Eff.sizes, List.length_append]
    omega
end
/-- what an answer says of the bytes -/
def CanE (b : List Nat) (r : Eff × Nat × Int) : Prop := (r.2.2 = 0 → b = r.1.enc ++ b.drop r.2.1 ∧ r.2.1 = r.1.enc.length ∧ r.1.ok) ∧ (r.2.2 ≠ 0 → r = (nilE, 0, r.2.2))
def CanEs (b : List Nat) (m : Nat) (r : List Eff × Nat × Int) : Prop := r.2.2 = 0 → b = Eff.encs r.1 ++ b.drop r.2.1 ∧ r.2.1 = (Eff.encs r.1).length ∧ Eff.oks r.1 ∧ r.1.length = m
theorem tk_split {b : List Nat} (hb : ∀ c ∈ b, c < 256) {v : Int} {k : Nat} (h : mth.tk 0 0 b = (v, k, 0)) : b = mth.encI v ++ b.drop k ∧ k = (mth.encI v).length ∧ in64 v := by
  obtain ⟨h1, h2, h3, h4, h5⟩ := mth.tk_canon b v k hb h
  refine ⟨?_, ?_, h4, h5⟩
  · rw [← h1]; exact (List.take_append_drop k b).symm
  · rw [← h1, List.length_take]; omega
theorem tkEs_can (g : List Nat → Eff × Nat × Int) (hg : ∀ b, (∀ c ∈ b, c < 256) → CanE b (g b)) : ∀ (m : Nat) (b : List Nat), (∀ c ∈ b, c < 256) → CanEs b m (tkEs g m b)
  | 0, b, _ => fun _ => ⟨by simp [tkEs, Eff.encs], by simp [tkEs, Eff.encs], by simp [tkEs, Eff.oks], rfl⟩
  | m + 1, b, hb => by
    intro h
    by_cases h1 : (g b).2.2 = 0
    · by_cases h2 : (tkEs g m (b.drop (g b).2.1)).2.2 = 0
      · obtain ⟨a1, a2, a3⟩ := (hg b hb).1 h1
        obtain ⟨b1, b2, b3, b4⟩ := tkEs_can g hg m (b.drop (g b).2.1) (drop_bytes hb _) h2
        simp only [tkEs, if_pos h1, if_pos h2, Eff.encs, Eff.oks, List.length_cons, List.length_append]
        refine ⟨?_, by omega, ⟨a3, b3⟩, by omega⟩
        rw [List.append_assoc, ← List.drop_drop, ← b1]
        exact a1
      · rw [tkEs, if_pos h1, if_neg h2] at h; exact absurd h h2
    · rw [tkEs, if_neg h1] at h; exact absurd h h1
theorem canE_bad {b : List Nat} {e : Int} (h : e ≠ 0) : CanE b (nilE, 0, e) := ⟨fun he => absurd he h, fun _ => rfl⟩
theorem tkE_can : ∀ (f : Nat) (b : List Nat), (∀ c ∈ b, c < 256) → CanE b (tkE f b)
  | 0, b, _ => canE_bad (by decide)
  | f + 1, b, hb => by
    have key : ∀ (k : Nat) (F : Int → Nat → Eff × Nat × Int), (∀ v k', b.drop k = mth.encI v ++ b.drop (k + k') → k' = (mth.encI v).length → in64 v → CanE b (F v k')) → CanE b (nx (b.drop k) F) := fun k F hF => by
      unfold nx
      split
      · rename_i he
        obtain ⟨h1, h2, h3⟩ := tk_split (drop_bytes hb k) (v := (mth.tk 0 0 (b.drop k)).1) (k := (mth.tk 0 0 (b.drop k)).2.1) (by rw [← he])
        rw [List.drop_drop] at h1
        exact hF _ _ h1 h2 h3
      · rename_i he; exact canE_bad he
    rw [tkE]
    refine key 0 _ fun o k1 b1 l1 i1 => ?_
    rw [Nat.zero_add, List.drop_zero] at b1
    refine key k1 _ fun n k2 b2 l2 i2 => key (k1 + k2) _ fun m k3 b3 l3 i3 => key (k1 + k2 + k3) _ fun w k4 b4 l4 i4 => key (k1 + k2 + k3 + k4) _ fun c k5 b5 l5 i5 => ?_
    by_cases c0 : c < 0
    · rw [if_pos c0]; exact canE_bad (by decide)
    by_cases c8 : 8 < c
    · rw [if_neg c0, if_pos c8]; exact canE_bad (by decide)
    rw [if_neg c0, if_neg c8]
    by_cases he : (tkEs (tkE f) c.toNat (b.drop (k1 + k2 + k3 + k4 + k5))).2.2 = 0
    · rw [if_pos he]
      obtain ⟨s1, s2, s3, s4⟩ := tkEs_can (tkE f) (fun b hb => tkE_can f b hb) c.toNat _ (drop_bytes hb _) he
      refine ⟨fun _ => ⟨?_, ?_, i1, i2, i3, i4, s3⟩, fun hx => absurd rfl hx⟩
      · simp only [Eff.enc]
        have e5 : ((tkEs (tkE f) c.toNat (b.drop (k1 + k2 + k3 + k4 + k5))).1.length : Int) = c := by omega
        rw [List.drop_drop] at s1
        rw [e5, List.append_assoc, ← s1, List.append_assoc, ← b5, List.append_assoc, ← b4, List.append_assoc, ← b3, List.append_assoc, ← b2]
        exact b1
      · have e5 : ((tkEs (tkE f) c.toNat (b.drop (k1 + k2 + k3 + k4 + k5))).1.length : Int) = c := by omega
        simp only [Eff.enc, List.length_append]
        rw [e5]
        omega
    · rw [if_neg he]; exact canE_bad he
mutual
/-- what is right is not too deep, and its bytes tell it -/
theorem Eff.back : ∀ (e : Eff) (t d : Int) (f : Nat) (rest : List Nat), e.ok → (f : Int) + d = 9 → e.chk t d = 0 → tkE f (e.enc ++ rest) = (e, e.enc.length, 0) ∧ (e.depth : Int) + d ≤ 9 ∧ e.subs.length ≤ 8
  | .mk o n m w l, t, d, f, rest, hk, hf, hc => by
    obtain ⟨k1, k2, k3, k4, k5⟩ := hk
    rw [Eff.chk] at hc
    by_cases hh : headE o n m w t d l.length (headOp l) = 0
    case neg => rw [if_pos hh] at hc; exact absurd hc hh
    rw [if_neg (by simpa using hh)] at hc
    have hd : ¬ 8 < d ∧ formP o l.length (headOp l) ∧ ¬ (o < 0 ∨ 26 ≤ o) := by
      unfold headE at hh
      split at hh
      · cases hh
      split at hh
      · cases hh
      split at hh
      · cases hh
      split at hh
      · cases hh
      split at hh
      · cases hh
      rename_i a b _ _ c
      exact ⟨b, Decidable.of_not_not c, a⟩
    obtain ⟨d8, hform, ho⟩ := hd
    have hl : l.length ≤ 8 := by
      obtain ⟨p1, p2, p3, p4⟩ := hform
      by_cases a : o = 20
      · have := (p1 a).1; omega
      by_cases b : o = 21
      · exact (p2 b).2
      by_cases c : o = 22
      · have := (p3 c).2; omega
      · have := p4 (by omega); omega
    obtain ⟨f', rfl⟩ : ∃ f', f = f' + 1 := ⟨f - 1, by omega⟩
    have hsub : ∀ rest, tkEs (tkE f') l.length (Eff.encs l ++ rest) = (l, (Eff.encs l).length, 0) ∧ (Eff.depths l : Int) + (d + 1) ≤ 9 := by
      intro rest
      split at hc
      · exact Eff.backA l (d + 1) f' rest k5 (by omega) hc
      · exact Eff.backs l t (d + 1) f' rest k5 (by omega) hc
    refine ⟨?_, by have := (hsub []).2; simp only [Eff.depth]; omega, hl⟩
    have step : ∀ (v : Int) (k : Nat) (tl : List Nat) (F : Int → Nat → Eff × Nat × Int) (b : List Nat), in64 v → b.drop k = mth.encI v ++ tl → nx (b.drop k) F = F v (mth.encI v).length := fun v k tl F b hv hb => by
      rw [hb, nx, mth.tk_enc v tl hv.1 hv.2]; rfl
    have i5 : in64 (l.length : Int) := ⟨by omega, by omega⟩
    rw [tkE, Eff.enc]
    generalize hB : mth.encI o ++ mth.encI n ++ mth.encI m ++ mth.encI w ++ mth.encI (l.length : Int) ++ Eff.encs l ++ rest = B
    have b0 : B.drop 0 = mth.encI o ++ (mth.encI n ++ (mth.encI m ++ (mth.encI w ++ (mth.encI (l.length : Int) ++ (Eff.encs l ++ rest))))) := by rw [← hB]; simp
    have b1 : B.drop (mth.encI o).length = mth.encI n ++ (mth.encI m ++ (mth.encI w ++ (mth.encI (l.length : Int) ++ (Eff.encs l ++ rest)))) := by
      rw [List.drop_zero] at b0; rw [b0, List.drop_left]
    have b2 : B.drop ((mth.encI o).length + (mth.encI n).length) = mth.encI m ++ (mth.encI w ++ (mth.encI (l.length : Int) ++ (Eff.encs l ++ rest))) := by
      rw [← List.drop_drop, b1, List.drop_left]
    have b3 : B.drop ((mth.encI o).length + (mth.encI n).length + (mth.encI m).length) = mth.encI w ++ (mth.encI (l.length : Int) ++ (Eff.encs l ++ rest)) := by
      rw [← List.drop_drop, b2, List.drop_left]
    have b4 : B.drop ((mth.encI o).length + (mth.encI n).length + (mth.encI m).length + (mth.encI w).length) = mth.encI (l.length : Int) ++ (Eff.encs l ++ rest) := by
      rw [← List.drop_drop, b3, List.drop_left]
    have b5 : B.drop ((mth.encI o).length + (mth.encI n).length + (mth.encI m).length + (mth.encI w).length + (mth.encI (l.length : Int)).length) = Eff.encs l ++ rest := by
      rw [← List.drop_drop, b4, List.drop_left]
    have s0 := step o 0 _ (fun o k1 => nx (B.drop k1) fun n k2 => nx (B.drop (k1 + k2)) fun m k3 => nx (B.drop (k1 + k2 + k3)) fun w k4 => nx (B.drop (k1 + k2 + k3 + k4)) fun c k5 =>
      if c < 0 then (nilE, 0, 1) else if 8 < c then (nilE, 0, 19) else
        (if (tkEs (tkE f') c.toNat (B.drop (k1 + k2 + k3 + k4 + k5))).2.2 = 0 then (.mk o n m w (tkEs (tkE f') c.toNat (B.drop (k1 + k2 + k3 + k4 + k5))).1, k1 + k2 + k3 + k4 + k5 + (tkEs (tkE f') c.toNat (B.drop (k1 + k2 + k3 + k4 + k5))).2.1, 0)
          else (nilE, 0, (tkEs (tkE f') c.toNat (B.drop (k1 + k2 + k3 + k4 + k5))).2.2))) B k1 b0
    rw [List.drop_zero] at s0
    refine s0.trans ?_
    rw [step n _ _ _ B k2 b1]
    try dsimp only
    rw [step m _ _ _ B k3 b2]
    try dsimp only
    rw [step w _ _ _ B k4 b3]
    try dsimp only
    rw [step _ _ _ _ B i5 b4]
    try dsimp only
    rw [b5, Int.toNat_natCast, (hsub rest).1, if_neg (by omega), if_neg (by omega)]
    simp only [if_true, List.length_append]
theorem Eff.backs : ∀ (l : List Eff) (t d : Int) (f : Nat) (rest : List Nat), Eff.oks l → (f : Int) + d = 9 → Eff.chks t d l = 0 → tkEs (tkE f) l.length (Eff.encs l ++ rest) = (l, (Eff.encs l).length, 0) ∧ (Eff.depths l : Int) + d ≤ 9
  | [], t, d, f, rest, _, hf, _ => ⟨rfl, by simp only [Eff.depths]; omega⟩
  | e :: l, t, d, f, rest, hk, hf, hc => by
    rw [Eff.chks] at hc
    by_cases h0 : e.chk t d = 0
    case neg => rw [if_pos h0] at hc; exact absurd hc h0
    rw [if_neg (by simpa using h0)] at hc
    obtain ⟨a1, a2, _⟩ := Eff.back e t d f (Eff.encs l ++ rest) hk.1 hf h0
    obtain ⟨b1, b2⟩ := Eff.backs l t d f rest hk.2 hf hc
    refine ⟨?_, by simp only [Eff.depths]; omega⟩
    simp only [Eff.encs, List.append_assoc, List.length_cons, tkEs, a1, List.drop_left, b1, if_true, List.length_append]
theorem Eff.backA : ∀ (l : List Eff) (d : Int) (f : Nat) (rest : List Nat), Eff.oks l → (f : Int) + d = 9 → Eff.chkA d l = 0 → tkEs (tkE f) l.length (Eff.encs l ++ rest) = (l, (Eff.encs l).length, 0) ∧ (Eff.depths l : Int) + d ≤ 9
  | [], d, f, rest, _, hf, _ => ⟨rfl, by simp only [Eff.depths]; omega⟩
  | e :: l, d, f, rest, hk, hf, hc => by
    rw [Eff.chkA] at hc
    by_cases h0 : e.chk 1 d = 0
    case neg => rw [if_pos h0] at hc; exact absurd hc h0
    rw [if_neg (by simpa using h0)] at hc
    by_cases h2 : e.who = 2
    case neg => rw [if_pos h2] at hc; cases hc
    rw [if_neg (by simpa using h2)] at hc
    obtain ⟨a1, a2, _⟩ := Eff.back e 1 d f (Eff.encs l ++ rest) hk.1 hf h0
    obtain ⟨b1, b2⟩ := Eff.backA l d f rest hk.2 hf hc
    refine ⟨?_, by simp only [Eff.depths]; omega⟩
    simp only [Eff.encs, List.append_assoc, List.length_cons, tkEs, a1, List.drop_left, b1, if_true, List.length_append]
end
/-- what comes in as an effect has numbers of 64 bits -/
theorem effR_ok : ∀ (n : Nat) (r : List Dat), SizeOf.sizeOf r ≤ n → r.length = 5 → (∀ (c : Nat) (s : Srt) (d : Dat), (E0.Δ.row 24)[c]? = some s → r[c]? = some d → Has E0.Δ s d) → InL r → (effOf r).ok
  | 0, r, hn, hl, _, _ => by cases r <;> simp at hn hl
  | n + 1, [a, b, c, d, e], hn, _, hh, hi => by
    have ints : ∀ x, Has E0.Δ (.int .i64) x → InD x → in64 x.toInt := fun x hx hix => by
      cases hx with
      | int k n =>
        cases hix with
        | int _ _ hw =>
          simp only [Lit.wf, Bool.and_eq_true, decide_eq_true_eq] at hw
          exact hw
    have ha := ints a (hh 0 _ a rfl rfl) (hi a (by simp))
    have hb := ints b (hh 1 _ b rfl rfl) (hi b (by simp))
    have hc := ints c (hh 2 _ c rfl rfl) (hi c (by simp))
    have hd := ints d (hh 3 _ d rfl rfl) (hi d (by simp))
    have he : Has E0.Δ (.list 24) e := hh 4 _ e rfl rfl
    have hie := hi e (by simp)
    rw [Eff.ok_eq, effOf_op, effOf_n, effOf_m, effOf_who, effOf_subs]
    refine ⟨ha, hb, hc, hd, Eff.oks_of fun x hx => ?_⟩
    obtain ⟨row, hrow, rfl⟩ := List.mem_map.1 hx
    have hsz : SizeOf.sizeOf row < SizeOf.sizeOf [a, b, c, d, e] := subR_lt hrow
    have hrow' : row ∈ e.xs := hrow
    cases he with
    | list _ A k cc xs hl hhr =>
      cases hie with
      | list v sz _ hm hr => exact effR_ok n row (by omega) (hl row hrow') (hhr row hrow') (hr row hrow')
theorem argE_ok {ds : List Dat} {ss : List Srt} (h : All2 (Has E0.Δ) (E0.Δ.row 24 ++ ss) ds) (hi : InL ds) : (argE ds).ok := by
  have hlen := h.length
  have hr : (E0.Δ.row 24).length = 5 := rfl
  rw [List.length_append, hr] at hlen
  refine effR_ok _ _ (Nat.le_refl _) (by rw [List.length_take]; omega) (fun c s d hc hd => ?_) (fun d hd => hi d (List.mem_of_mem_take hd))
  have hc5 : c < 5 := by have := (List.getElem?_eq_some_iff.1 hc).1; omega
  obtain ⟨d', e1, e2⟩ := All2.getO h (i := c) (s := s) (by rw [List.getElem?_append_left (by omega)]; exact hc)
  rw [List.getElem?_take, if_pos hc5, e1] at hd
  cases hd
  exact e2
mutual
theorem Eff.enc_byte : ∀ {e : Eff}, e.ok → e.size ≤ 1000 → ∀ c ∈ e.enc, c < 256
  | .mk o n m w l, ⟨h1, h2, h3, h4, h5⟩, hz, c, hc => by
    rw [Eff.size] at hz
    have hll := Eff.length_le_sizes l
    simp only [Eff.enc, List.mem_append] at hc
    have hl : ∀ c ∈ mth.encI (l.length : Int), c < 256 := encI_byte (by omega) (by omega)
    rcases hc with ((((hc | hc) | hc) | hc) | hc) | hc
    · exact encI_byte h1.1 h1.2 c hc
    · exact encI_byte h2.1 h2.2 c hc
    · exact encI_byte h3.1 h3.2 c hc
    · exact encI_byte h4.1 h4.2 c hc
    · exact hl c hc
    · exact Eff.encs_byte h5 (by omega) c hc
theorem Eff.encs_byte : ∀ {l : List Eff}, Eff.oks l → Eff.sizes l ≤ 1000 → ∀ c ∈ Eff.encs l, c < 256
  | [], _, _, c, hc => by simp [Eff.encs] at hc
  | e :: l, ⟨h1, h2⟩, hz, c, hc => by
    rw [Eff.sizes] at hz
    simp only [Eff.encs, List.mem_append] at hc
    rcases hc with hc | hc
    · exact Eff.enc_byte h1 (by omega) c hc
    · exact Eff.encs_byte h2 (by omega) c hc
end
end Go.Proofs.Ytccdlmiemelifaa
end

section
namespace Go.Proofs.Ytccdlmiemelifaa
open Go.RowKit
set_option linter.unusedVariables false
set_option linter.unusedSimpArgs false

/-- a call that tells a bool -/
theorem call_b {k : FuncId} {sg : Sig} {Φ : Spec} (h : Holds E0 k sg Φ) (hr : sg.res = [(false, [.bool])]) (ho : sg.own = false) {ds : List Dat} {w : World} (h1 : All2 (Has E0.Δ) (Sig.sorts sg.params) ds) (h2 : OkL w ds) (p : Bool → Prop) (hΦ : Φ ds fun rs => ∃ b, rs = [.bool b] ∧ p b) {vs : Array Value} (hv : (groupV sg.params ds).toArray = vs) :
    Calls E0.P k vs w fun e w' => ∃ b, e = .returned (.bool b) ∧ p b ∧ Below w.heap.size w w' := by
  subst hv
  refine (h w ds _ h1 h2 (fun d hd => by cases hd) (globs_any w) hΦ).mono ?_
  rintro e w' ⟨rs, ⟨b, rfl, hp⟩, _, hb, _, _, he⟩
  rw [if_neg (by rw [ho]; exact Bool.false_ne_true), hr] at he
  exact ⟨b, he, hp, hb⟩
/-- an effect's five cells -/
def effD (a b c d : Int) (v : Value) (rows : List (List Dat)) : List Dat := [.int .i64 a, .int .i64 b, .int .i64 c, .int .i64 d, .list v 5 rows]
theorem effD_has (a b c d : Int) {v : Value} {rows : List (List Dat)} (h : Has E0.Δ (.list 24) (.list v 5 rows)) : All2 (Has E0.Δ) [.int .i64, .int .i64, .int .i64, .int .i64, .list 24] (effD a b c d v rows) := .cons (.int _ _) (.cons (.int _ _) (.cons (.int _ _) (.cons (.int _ _) (.cons h .nil))))
theorem effD_ok {w : World} (a b c d : Int) {v : Value} {rows : List (List Dat)} (h : OkD w (.list v 5 rows)) : OkL w (effD a b c d v rows) := fun x hx => by
  simp only [effD, List.mem_cons, List.not_mem_nil, or_false] at hx
  rcases hx with rfl | rfl | rfl | rfl | rfl
  · exact .int _ _
  · exact .int _ _
  · exact .int _ _
  · exact .int _ _
  · exact h
theorem effD_arg (a b c d : Int) (v : Value) (rows : List (List Dat)) : argE (effD a b c d v rows) = .mk a b c d (rows.map effOf) := by
  rw [argE_row0 rfl, effOf_eq]; rfl
theorem effD_args (a b c d : Int) (v : Value) (rows : List (List Dat)) (e : List Dat) : argE (effD a b c d v rows ++ e) = .mk a b c d (rows.map effOf) := by
  rw [argE_row rfl, effOf_eq]; rfl
theorem effD_args2 (a b c d : Int) (v : Value) (rows : List (List Dat)) {s : List Dat} (h : s.length = 5) : argE2 (effD a b c d v rows ++ s) = argE s := by
  rw [argE2_row rfl h, argE_row0 h]
/-- bytes of the call's own, kept -/
theorem Ow.spw {B E B0 sz n : Nat} {v : Value} {xs : List Value} {w w' : World} (h : Ow w B0 sz v n xs) (hE : E ≤ B0) (hs : SpW B E w w') : Ow w' B0 sz v n xs := by
  obtain ⟨A, c, rfl, hc, hl, ha, ho⟩ := h
  by_cases hc0 : 0 < c
  · obtain ⟨g, off, rfl, hB, hg, hj⟩ := ho hc0
    have hblk := hs.block g hg (.inr (by omega))
    have hcell : ∀ o, w'.cell? ⟨g, o, none⟩ = w.cell? ⟨g, o, none⟩ := fun o => by unfold World.cell?; simp only [hblk]
    have hfro : ∀ o, w'.frozen? ⟨g, o, none⟩ = w.frozen? ⟨g, o, none⟩ := fun o => by unfold World.frozen?; simp only [hblk]
    refine ⟨_, c, rfl, hc, hl, fun hn => ?_, fun _ => ⟨g, off, rfl, hB, Nat.lt_of_lt_of_le hg hs.size, fun j hjc => ?_⟩⟩
    · obtain ⟨ad, e, _, hcl⟩ := ha hn
      cases e
      refine ⟨_, rfl, Nat.lt_of_lt_of_le hg hs.size, fun j u hu => ?_⟩
      have := hcl j u hu
      rw [Addr.add_lit] at this ⊢
      rw [hcell]; exact this
    · rw [hcell, hfro]; exact hj j hjc
  · exact ⟨A, c, rfl, hc, hl, fun hn => absurd hn (by omega), fun hn => absurd hn hc0⟩
/-- a call that makes bytes -/
theorem bytes_w (op n m who : Int) (v : Value) (rows : List (List Dat)) (w : World) (hsz : (Eff.mk op n m who (rows.map effOf)).size ≤ 1000) (hk : (Eff.mk op n m who (rows.map effOf)).ok) (hok : OkD w (.list v 5 rows)) (hhas : Has E0.Δ (.list 24) (.list v 5 rows)) :
    Calls Try.prog 8 #[.agg #[.int .i64 op, .int .i64 n, .int .i64 m, .int .i64 who, v]] w fun e w' => ∃ A k c, e = .returned (.slice A k c) ∧ Below w.heap.size w w' ∧ Ow w' w.heap.size 1 (.slice A k c) k (flatV (u8R (Eff.enc (.mk op n m who (rows.map effOf))))) ∧ k = (u8R (Eff.enc (.mk op n m who (rows.map effOf)))).length := by
  refine (rBytes6_h w (effD op n m who v rows) (fun rs => rs = [.rows (u8R (Eff.enc (.mk op n m who (rows.map effOf))))]) (effD_has _ _ _ _ hhas) (effD_ok _ _ _ _ hok) (fun d hd => by cases hd) (globs_any w) ⟨by rw [effD_arg]; exact hsz, by rw [effD_arg]; exact hk, by rw [effD_arg]⟩).mono ?_
  rintro e w' ⟨rs, rfl, _, hb, _, _, h⟩
  rw [if_pos (show sg_rBytes6.own = true from rfl)] at h
  obtain ⟨A, n, c, r, xs, h1, h2, h3, h4, h5, _⟩ := h
  cases h2
  rw [show sg_rBytes6.res = [(false, [.rows 5])] from rfl] at h1
  have hr : 5 = r := by injection h1 with h1 _; injection h1 with _ h1; injection h1 with h1 _; injection h1
  subst hr
  have h1 : (E0.Δ.row 5).length = 1 := by kernel_rfl
  rw [h1] at h4
  exact ⟨A, n, c, h3, hb, h4, h5.symm⟩
theorem lEff_same (a b c d : Int) (va : Value) (ra : List (List Dat)) (a' b' c' d' : Int) (vb : Value) (rb : List (List Dat)) (w : World) (hA : Has E0.Δ (.list 24) (.list va 5 ra)) (hB : Has E0.Δ (.list 24) (.list vb 5 rb)) (oA : OkD w (.list va 5 ra)) (oB : OkD w (.list vb 5 rb)) (hsz : (Eff.mk a b c d (ra.map effOf)).size ≤ 1000) :
    Calls Try.prog 9 #[.agg #[.int .i64 a, .int .i64 b, .int .i64 c, .int .i64 d, va], .agg #[.int .i64 a', .int .i64 b', .int .i64 c', .int .i64 d', vb]] w fun e w' => ∃ x : Bool, e = .returned (.bool x) ∧ (x = true ↔ Eff.mk a b c d (ra.map effOf) = Eff.mk a' b' c' d' (rb.map effOf)) ∧ Below w.heap.size w w' :=
  call_b effSame_h rfl rfl (ds := effD a b c d va ra ++ effD a' b' c' d' vb rb) ((effD_has _ _ _ _ hA).append (effD_has _ _ _ _ hB)) (fun x hx => (List.mem_append.1 hx).elim (effD_ok _ _ _ _ oA x) (effD_ok _ _ _ _ oB x)) (fun x => (x = true ↔ _)) ⟨by rw [effD_args]; exact hsz, fun x hx => ⟨x, rfl, by rw [effD_args, effD_args2 _ _ _ _ _ _ rfl, effD_arg] at hx; exact hx⟩⟩ rfl
theorem lEff_num (a b c d : Int) (va : Value) (ra : List (List Dat)) (a' b' c' d' : Int) (vb : Value) (rb : List (List Dat)) (w : World) (hA : Has E0.Δ (.list 24) (.list va 5 ra)) (hB : Has E0.Δ (.list 24) (.list vb 5 rb)) (oA : OkD w (.list va 5 ra)) (oB : OkD w (.list vb 5 rb)) (hsz : (Eff.mk a b c d (ra.map effOf)).size ≤ 1000) :
    Calls Try.prog 10 #[.agg #[.int .i64 a, .int .i64 b, .int .i64 c, .int .i64 d, va], .agg #[.int .i64 a', .int .i64 b', .int .i64 c', .int .i64 d', vb]] w fun e w' => ∃ x : Bool, e = .returned (.bool x) ∧ (x = true ↔ Eff.mk a b c d (ra.map effOf) = Eff.mk a' b' c' d' (rb.map effOf)) ∧ Below w.heap.size w w' :=
  call_b numEffects_h rfl rfl (ds := effD a b c d va ra ++ effD a' b' c' d' vb rb) ((effD_has _ _ _ _ hA).append (effD_has _ _ _ _ hB)) (fun x hx => (List.mem_append.1 hx).elim (effD_ok _ _ _ _ oA x) (effD_ok _ _ _ _ oB x)) (fun x => (x = true ↔ _)) ⟨by rw [effD_args]; exact hsz, fun x hx => ⟨x, rfl, by rw [effD_args, effD_args2 _ _ _ _ _ _ rfl, effD_arg] at hx; exact hx⟩⟩ rfl
theorem lEff_large (a b c d : Int) (va : Value) (ra : List (List Dat)) (w : World) (hA : Has E0.Δ (.list 24) (.list va 5 ra)) (oA : OkD w (.list va 5 ra)) :
    Calls Try.prog 6 #[.agg #[.int .i64 a, .int .i64 b, .int .i64 c, .int .i64 d, va]] w fun e w' => ∃ x : Bool, e = .returned (.bool x) ∧ (x = false → (Eff.mk a b c d (ra.map effOf)).size ≤ 300) ∧ Below w.heap.size w w' :=
  call_b Large_h rfl rfl (ds := effD a b c d va ra) (effD_has _ _ _ _ hA) (effD_ok _ _ _ _ oA) (fun x => x = false → _) (fun x hx => ⟨x, rfl, by rw [effD_arg] at hx; exact hx⟩) rfl
theorem lEff_alive (w : World) : Calls Try.prog 5 #[] w fun e w' => ∃ x : Bool, e = .returned (.bool x) ∧ x = true ∧ Below w.heap.size w w' :=
  call_b alive_h rfl rfl (ds := []) .nil (fun _ h => by cases h) (fun x => x = true) ⟨true, rfl, rfl⟩ rfl
theorem u8_sl {w : World} {B : Nat} {A : Option Addr} {k c : Nat} {l : List Nat} (h : Ow w B 1 (.slice A k c) k (flatV (u8R l))) (hk : k = (u8R l).length) : Has E0.Δ (.list 5) (.list (.slice A k c) 1 (u8R l)) ∧ OkD w (.list (.slice A k c) 1 (u8R l)) := by
  have hrow : E0.Δ.row 5 = [.int .u8] := by kernel_rfl
  have hl1 : (E0.Δ.row 5).length = 1 := by rw [hrow]; rfl
  have hmem : ∀ r ∈ u8R l, ∃ x : Nat, r = [.int .u8 x] := fun r hr => by
    obtain ⟨x, _, rfl⟩ := List.mem_map.1 hr
    exact ⟨_, rfl⟩
  refine ⟨?_, .list _ _ _ (by rw [← hk]; exact h.rd) fun r hr d hd => ?_⟩
  · have := Has.list (Δ := E0.Δ) 5 A k c (u8R l) (fun r hr => by obtain ⟨x, rfl⟩ := hmem r hr; rw [hrow]; rfl) fun r hr cc s d hs hd => by
      obtain ⟨x, rfl⟩ := hmem r hr
      rw [hrow] at hs
      match cc with
      | 0 => cases hs; cases hd; exact .int _ _
      | cc + 1 => cases hs
    rw [hl1] at this
    exact this
  · obtain ⟨x, rfl⟩ := hmem r hr
    rw [List.mem_singleton.1 hd]; exact .int _ _
theorem lB_same (l : List Nat) (hl : ∀ c ∈ l, c < 256) (A A' : Option Addr) (k c k' c' : Nat) (w : World) {B B' : Nat} (h : Ow w B 1 (.slice A k c) k (flatV (u8R l))) (hk : k = (u8R l).length) (h' : Ow w B' 1 (.slice A' k' c') k' (flatV (u8R l))) (hk' : k' = (u8R l).length) :
    Calls Try.prog 12 #[.slice A k c, .slice A' k' c'] w fun e w' => ∃ x : Bool, e = .returned (.bool x) ∧ x = true ∧ Below w.heap.size w w' :=
  call_b sameB_h rfl rfl (ds := [.list (.slice A k c) 1 (u8R l), .list (.slice A' k' c') 1 (u8R l)]) (.cons (u8_sl h hk).1 (.cons (u8_sl h' hk').1 .nil)) (fun x hx => by
    simp only [List.mem_cons, List.not_mem_nil, or_false] at hx
    rcases hx with rfl | rfl
    · exact (u8_sl h hk).2
    · exact (u8_sl h' hk').2) (fun x => x = true) ⟨l, l, rfl, rfl, hl, hl, true, by simp, rfl⟩ rfl
end Go.Proofs.Ytccdlmiemelifaa
end

section
namespace Go.Proofs.Ytccdlmiemelifaa
open Go.RowKit
set_option linter.unusedVariables false
set_option linter.unusedSimpArgs false

def k_aClone : Nat := 25
def sg_aClone : Sig := ⟨[(false, [.list 42])], [(false, [.rows 42])], true, false, false, false, false⟩
def tr_aClone : Tree := (.ite (.isnil (.var 0))
 (.ret [.emp])
 (.ob (.cmp .le (.len (.app .emp (.var 0))) (.int .i64 1099511627776))
 (.ret [(.app .emp (.var 0))])))
theorem wk_aClone : walk E0.cx (sgsN []) 0 25 sg_aClone = tr_aClone := by kernel_rfl
theorem bo_aClone : ∃ x, bodyOf E0.P 25 = some x := bo_of (by kernel_rfl)
def aClone_s : Spec := fun ds Q => (argL ds 0).length ≤ 100000000 ∧ Q [.rows (argL ds 0)]
theorem aClone_h : Holds E0 k_aClone sg_aClone aClone_s := con_fnN wf0 mix0 g0 [] rfl wk_aClone rfl (by
  intro Φ hΦ ds Q hs hnil ⟨hn, h⟩
  have hl : ds.length = 1 := hs.length.symm
  simp only [tr_aClone, wp, den_int, den_bool, den_nili, den_ar, den_cmp, den_not, den_len, den_elem, den_isnil, den_errI, den_ifc, den_rep, den_push, den_app, den_emp, den_upd, row0_econs, row0_enil, den_and, den_beq, den_nil, toInt_int, toBool_bool, xs_rows, xs_list, dflt_int, dflt_bool, of_eq, of_ne, of_lt, of_le, of_gt, of_ge, of_add, of_sub, of_rem, List.map_cons, List.map_nil, Dat.bool.injEq, decide_eq_true_eq, decide_eq_false_iff_not, Bool.not_eq_true', Bool.not_eq_false', beq_iff_eq, bne_iff_ne, beq_eq_false_iff_ne, bne_eq_false_iff_eq, ne_eq, List.append_assoc, List.cons_append, List.nil_append, @den_var0 E0.Δ ds, den_varA, den_varB, hl, Nat.reduceLT, Nat.reduceLeDiff, Nat.reduceSub, List.getD_cons_zero, List.getD_cons_succ, argL_fold ds, argI_fold ds, List.append_assoc, List.cons_append, List.nil_append, toInt_int, toBool_bool, xs_rows, xs_list, Int.toNat_natCast, Dat.bool.injEq]
  refine ⟨fun h0 => ?_, fun _ => ⟨by omega, h⟩⟩
  have : argL ds 0 = [] := by
    rw [← argL_fold]
    exact hnil _ (getD_memL (by omega)) h0
  rw [this] at h; exact h)
noncomputable def con_aClone : Con E0 := ⟨k_aClone, sg_aClone, aClone_s, rfl, bo_aClone, aClone_h⟩
theorem abl_row14 : (E0.Δ.row 42).length = 14 := by kernel_rfl
theorem aClone_res : sg_aClone.res = [(false, [.rows 42])] := rfl
/-- an ability's cells, with another place of what is within -/
def cellsA' (r : List Dat) (u : Value) : List Value := (r.take 13).map Dat.toV ++ [u]
def rowsA : List (List Dat) → List Value → List Value
  | r :: rs, u :: us => cellsA' r u ++ rowsA rs us
  | _, _ => []
theorem cellsA'_len {r : List Dat} (h : r.length = 14) (u : Value) : (cellsA' r u).length = 14 := by
  simp [cellsA', h]
theorem rowsA_len : ∀ {rs : List (List Dat)} {us : List Value}, (∀ r ∈ rs, r.length = 14) → us.length = rs.length → (rowsA rs us).length = rs.length * 14
  | [], [], _, _ => rfl
  | r :: rs, u :: us, h14, h => by
    rw [rowsA, List.length_append, rowsA_len (fun r hr => h14 r (List.mem_cons_of_mem _ hr)) (by simpa using h), List.length_cons, cellsA'_len (h14 r (List.mem_cons_self ..))]
    omega
  | [], _ :: _, _, h => by cases h
  | _ :: _, [], _, h => by cases h
theorem rowsA_get : ∀ {rs : List (List Dat)} {us : List Value} {i c : Nat} {r : List Dat} {u : Value}, (∀ r ∈ rs, r.length = 14) → rs[i]? = some r → us[i]? = some u → c < 14 → (rowsA rs us)[i * 14 + c]? = (cellsA' r u)[c]?
  | r :: rs, u :: us, 0, c, _, _, h14, hr, hu, hc => by
    cases hr; cases hu
    rw [rowsA, Nat.zero_mul, Nat.zero_add, List.getElem?_append_left (by rw [cellsA'_len (h14 r (List.mem_cons_self ..))]; exact hc)]
  | r :: rs, u :: us, i + 1, c, _, _, h14, hr, hu, hc => by
    have e := cellsA'_len (h14 r (List.mem_cons_self ..)) u
    rw [rowsA, List.getElem?_append_right (by rw [e]; omega)]
    rw [e, show (i + 1) * 14 + c - 14 = i * 14 + c by omega]
    exact rowsA_get (fun r hr => h14 r (List.mem_cons_of_mem _ hr)) (by simpa using hr) (by simpa using hu) hc
  | [], _, i, _, _, _, _, hr, _, _ => by cases i <;> cases hr
  | _ :: _, [], i, _, _, _, _, _, hu, _ => by cases i <;> cases hu
theorem cellsA'_last {r : List Dat} (h : r.length = 14) (u : Value) : (cellsA' r u)[13]? = some u := by
  rw [cellsA', List.getElem?_append_right (by simp [h])]
  simp [h]
theorem cellsA'_head {r : List Dat} (h : r.length = 14) (u : Value) {c : Nat} (hc : c < 13) : (cellsA' r u)[c]? = (r[c]?).map Dat.toV := by
  rw [cellsA', List.getElem?_append_left (by simp [h, hc]), List.getElem?_map, List.getElem?_take, if_pos hc]
theorem rowsA_set : ∀ {rs : List (List Dat)} {us : List Value} {i : Nat} (u : Value), (∀ r ∈ rs, r.length = 14) → us.length = rs.length → i < rs.length → rowsA rs (us.set i u) = (rowsA rs us).set (i * 14 + 13) u
  | r :: rs, u0 :: us, 0, u, h14, _, _ => by
    have h := h14 r (List.mem_cons_self ..)
    rw [List.set_cons_zero, rowsA, rowsA, List.set_append_left _ _ (by rw [cellsA'_len h]; omega)]
    congr 1
    have h13 : (List.map Dat.toV (r.take 13)).length = 13 := by simp [h]
    rw [cellsA', cellsA', List.set_append_right _ _ (by rw [h13]; omega), h13]
    rfl
  | r :: rs, u0 :: us, i + 1, u, h14, hl, hi => by
    have h := h14 r (List.mem_cons_self ..)
    have e := cellsA'_len h u0
    rw [List.set_cons_succ, rowsA, rowsA, rowsA_set u (fun r hr => h14 r (List.mem_cons_of_mem _ hr)) (by simpa using hl) (by simpa using hi), List.set_append_right _ _ (by rw [e]; omega), e, show (i + 1) * 14 + 13 - 14 = i * 14 + 13 by omega]
  | [], _, i, _, _, _, hi => by cases hi
  | _ :: _, [], _, _, _, hl, _ => by cases hl
theorem set_same {l : List Value} {p : Nat} {a : Value} (h : l[p]? = some a) : l.set p a = l := by
  refine List.ext_getElem? fun k => ?_
  rw [List.getElem?_set]
  split
  · rename_i e; subst e
    rw [if_pos (List.getElem?_eq_some_iff.1 h).1, h]
  · rfl
def subA (r : List Dat) : Value := (r.getD 13 (.bool false)).toV
theorem flat_rowsA : ∀ {rs : List (List Dat)}, (∀ r ∈ rs, r.length = 14) → flatV rs = rowsA rs (rs.map subA)
  | [], _ => rfl
  | r :: rs, h => by
    have ih := flat_rowsA (rs := rs) fun r hr => h r (List.mem_cons_of_mem _ hr)
    have h14 := h r (List.mem_cons_self ..)
    rw [List.map_cons, rowsA, ← ih]
    match r, h14 with
    | [_, _, _, _, _, _, _, _, _, _, _, _, _, _], _ => rfl
/-- the sorts of an ability's cells -/
def ablS : List Srt := [.int .i64, .int .i64, .int .i64, .int .i64, .int .i64, .int .i64, .int .i64, .bool, .int .i64, .int .i64, .int .i64, .int .i64, .int .i64, .list 24]
theorem abl_rowS : E0.Δ.row 42 = ablS := by kernel_rfl
theorem abl_shape {r : List Dat} (h : All2 (Has E0.Δ) ablS r) : ∃ a0 a1 a2 a3 a4 a5 a6 a7 a8 a9 a10 a11 a12 v sub, r = [.int .i64 a0, .int .i64 a1, .int .i64 a2, .int .i64 a3, .int .i64 a4, .int .i64 a5, .int .i64 a6, .bool a7, .int .i64 a8, .int .i64 a9, .int .i64 a10, .int .i64 a11, .int .i64 a12, .list v 5 sub] ∧ Has E0.Δ (.list 24) (.list v 5 sub) := by
  unfold ablS at h
  rcases h with _ | ⟨h0, h⟩
  rcases h with _ | ⟨h1, h⟩
  rcases h with _ | ⟨h2, h⟩
  rcases h with _ | ⟨h3, h⟩
  rcases h with _ | ⟨h4, h⟩
  rcases h with _ | ⟨h5, h⟩
  rcases h with _ | ⟨h6, h⟩
  rcases h with _ | ⟨h7, h⟩
  rcases h with _ | ⟨h8, h⟩
  rcases h with _ | ⟨h9, h⟩
  rcases h with _ | ⟨h10, h⟩
  rcases h with _ | ⟨h11, h⟩
  rcases h with _ | ⟨h12, h⟩
  rcases h with _ | ⟨h13, h⟩
  rcases h with _ | _
  cases h0; cases h1; cases h2; cases h3; cases h4; cases h5; cases h6; cases h7; cases h8; cases h9; cases h10; cases h11; cases h12
  obtain ⟨v, sub, rfl⟩ := eff_list h13
  exact ⟨_, _, _, _, _, _, _, _, _, _, _, _, _, v, sub, rfl, h13⟩
/-- slice v of the call's own holds copies of these abilities -/
def TrA (w : World) (B : Nat) (v : Value) (rs : List (List Dat)) : Prop :=
  ∃ us B', us.length = rs.length ∧ Ow w B 14 v rs.length (rowsA rs us) ∧ (∀ k, blkOf v = some k → k < B') ∧ B ≤ B' ∧ ∀ (i : Nat) (r : List Dat) (u : Value), rs[i]? = some r → us[i]? = some u → TrE w B' u (effOf (r.drop 9)).subs
theorem TrA.grown {w w' : World} {B : Nat} {v : Value} {rs : List (List Dat)} (h : TrA w B v rs) {o : Option Nat} (hg : w.grownBy w' o) (ho : ∀ k, o = some k → k < B) : TrA w' B v rs := by
  obtain ⟨us, B', h1, h2, h3, h4, h5⟩ := h
  refine ⟨us, B', h1, h2.grown hg ?_, h3, h4, fun i r u hr hu => (h5 i r u hr hu).grown hg fun k hk => Nat.lt_of_lt_of_le (ho k hk) h4⟩
  cases hv : blkOf v with
  | none => exact .inl rfl
  | some k =>
    right
    intro e
    have := (h2.blk_lt k hv).1
    have := ho k e.symm
    omega
/-- it can be read and tells the same -/
theorem TrA.data {w : World} {B : Nat} {v : Value} {rs : List (List Dat)} (h : TrA w B v rs) (hh : ∀ r ∈ rs, All2 (Has E0.Δ) ablS r) : ∃ rows : List (List Dat), OkD w (.list v 14 rows) ∧ Has E0.Δ (.list 42) (.list v 14 rows) ∧ rows.map abK = rs.map abK ∧ ∀ k, AtL [.list v 14 rows] k → B ≤ k := by
  obtain ⟨us, B', h1, h2, h3, h4, h5⟩ := h
  have key : ∀ (rs : List (List Dat)) (us : List Value), us.length = rs.length → (∀ r ∈ rs, All2 (Has E0.Δ) ablS r) → (∀ (i : Nat) (r : List Dat) (u : Value), rs[i]? = some r → us[i]? = some u → TrE w B' u (effOf (r.drop 9)).subs) →
      ∃ rows : List (List Dat), flatV rows = rowsA rs us ∧ rows.map abK = rs.map abK ∧ rows.length = rs.length ∧ ∀ r ∈ rows, All2 (Has E0.Δ) ablS r ∧ OkL w r ∧ ∀ k, AtL r k → B' ≤ k := by
    intro rs
    induction rs with
    | nil =>
      intro us hu _ _
      cases us with
      | nil => exact ⟨[], rfl, rfl, rfl, fun r hr => by cases hr⟩
      | cons _ _ => cases hu
    | cons r rs ih =>
      intro us hu hh hall
      cases us with
      | nil => cases hu
      | cons u us =>
        obtain ⟨rows, r1, r2, r3, r4⟩ := ih us (by simpa using hu) (fun r hr => hh r (List.mem_cons_of_mem _ hr)) fun i e' u' he hu' => hall (i + 1) e' u' (by simpa using he) (by simpa using hu')
        obtain ⟨sub, s1, s2, s3, s4⟩ := (hall 0 r u rfl rfl).data
        have hr := hh r (List.mem_cons_self ..)
        obtain ⟨a0, a1, a2, a3, a4, a5, a6, a7, a8, a9, a10, a11, a12, v0, sub0, rfl, h13⟩ := abl_shape hr
        refine ⟨[.int .i64 a0, .int .i64 a1, .int .i64 a2, .int .i64 a3, .int .i64 a4, .int .i64 a5, .int .i64 a6, .bool a7, .int .i64 a8, .int .i64 a9, .int .i64 a10, .int .i64 a11, .int .i64 a12, .list u 5 sub] :: rows, ?_, ?_, by simp [r3], fun r hr => ?_⟩
        · rw [rowsA, ← r1]; rfl
        · rw [List.map_cons, List.map_cons, r2]
          congr 1
          have e1 : effOf [.int .i64 a9, .int .i64 a10, .int .i64 a11, .int .i64 a12, .list u 5 sub] = effOf [.int .i64 a9, .int .i64 a10, .int .i64 a11, .int .i64 a12, .list v0 5 sub0] := by
            have s3' : sub.map effOf = sub0.map effOf := s3.trans (effOf_subs _)
            rw [effOf_eq, effOf_eq]
            show Eff.mk a9 a10 a11 a12 (sub.map effOf) = Eff.mk a9 a10 a11 a12 (sub0.map effOf)
            rw [s3']
          show (_, effOf [.int .i64 a9, .int .i64 a10, .int .i64 a11, .int .i64 a12, .list u 5 sub]) = _
          rw [e1]; rfl
        · rcases List.mem_cons.1 hr with rfl | hr
          · refine ⟨.cons (.int _ _) (.cons (.int _ _) (.cons (.int _ _) (.cons (.int _ _) (.cons (.int _ _) (.cons (.int _ _) (.cons (.int _ _) (.cons (.bool _) (.cons (.int _ _) (.cons (.int _ _) (.cons (.int _ _) (.cons (.int _ _) (.cons (.int _ _) (.cons s2 .nil))))))))))))), fun d hd => ?_, fun k ⟨d, hd, hk⟩ => ?_⟩
            · simp only [List.mem_cons, List.not_mem_nil, or_false] at hd
              rcases hd with rfl | rfl | rfl | rfl | rfl | rfl | rfl | rfl | rfl | rfl | rfl | rfl | rfl | rfl
              all_goals first | exact .int _ _ | exact .bool _ | exact s1
            · simp only [List.mem_cons, List.not_mem_nil, or_false] at hd
              rcases hd with rfl | rfl | rfl | rfl | rfl | rfl | rfl | rfl | rfl | rfl | rfl | rfl | rfl | rfl
              all_goals first | (cases hk; done) | exact s4 k ⟨_, List.mem_singleton.2 rfl, hk⟩
          · exact r4 r hr
  obtain ⟨rows, r1, r2, r3, r4⟩ := key rs us h1 hh h5
  refine ⟨rows, .list v 14 rows (by rw [r1, r3]; exact h2.rd) fun r hr d hd => (r4 r hr).2.1 d hd, ?_, r2, fun k ⟨d, hd, hk⟩ => ?_⟩
  · obtain ⟨A, c, hv, _⟩ := id h2
    have := Has.list (Δ := E0.Δ) 42 A rs.length c rows (fun r hr => by rw [← (r4 r hr).1.length, abl_rowS]) fun r hr cc s d hs hd => by
      rw [abl_rowS] at hs
      obtain ⟨d', h1, h2⟩ := (r4 r hr).1.get hs
      rw [hd] at h1; cases h1; exact h2
    rw [abl_row14] at this
    rw [hv]; exact this
  · rw [List.mem_singleton.1 hd] at hk
    cases hk with
    | here h =>
      obtain ⟨A, c, hv, hnc, _⟩ := id h2
      subst hv
      cases A with
      | none => exact h.elim
      | some a =>
        obtain ⟨h1, rfl⟩ := h
        exact (h2.blk_lt a.block (by simp only [blkOf]; rw [if_pos (by omega)])).1
    | list q1 q2 q3 => exact Nat.le_trans h4 ((r4 _ q1).2.2 k ⟨_, q2, q3⟩)
end Go.Proofs.Ytccdlmiemelifaa
end
