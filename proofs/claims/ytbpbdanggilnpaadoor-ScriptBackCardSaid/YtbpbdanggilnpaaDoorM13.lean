import Derived.Test.YtbpbdanggilnpaaDoorM12
import Derived.Test.YtbpbdanggilnpaaDoorM0
import Derived.WalkSpells
import Derived.Lib.SliceRun
import Derived.Lib.Zigzag
import Derived.OwnWalk
import Derived.WalkKit
import Derived.Maps.OwnOps
import Derived.Maps.OwnSet
import Derived.Maps.RangeWalk
import Derived.Test.YtbpbdanggilnpaaDoorM8

set_option linter.unusedVariables false
set_option linter.unusedSimpArgs false

section
namespace Go.Proofs.YtbpbdanggilnpaaDoor.mth

def zag (x : Nat) : Int := if x % 2 = 0 then ((x / 2 : Nat) : Int) else -((x / 2 : Nat) : Int) - 1
theorem zag_zig (n : Int) : zag (zig n) = n := by unfold zag zig; split <;> split <;> omega
theorem zig_zag (x : Nat) : zig (zag x) = x := by unfold zag zig; split <;> split <;> omega
theorem zag_range (x : Nat) (h : x < 18446744073709551616) : -9223372036854775808 ≤ zag x ∧ zag x ≤ 9223372036854775807 := by unfold zag; split <;> omega

/-- a number, how many bytes it has, an error's number -/
def tk (i x : Nat) : List Nat → Int × Nat × Int
  | [] => (0, 0, 7)
  | c :: t =>
    if 10 ≤ i then (0, 0, 7)
    else if i = 9 ∧ 1 < c then (0, 0, 2)
    else if 128 ≤ c then tk (i + 1) (x + 128 ^ i * (c % 128)) t
    else if c = 0 ∧ 0 < i then (0, 0, 2)
    else (zag (x + 128 ^ i * c), i + 1, 0)

theorem tk_ten (i x : Nat) (l : List Nat) (h : 10 ≤ i) : tk i x l = (0, 0, 7) := by cases l <;> simp [tk, h]
theorem tk_nine {i x c : Nat} {t : List Nat} (h : i = 9) (h' : 1 < c) : tk i x (c :: t) = (0, 0, 2) := by subst h; simp [tk, h']
theorem tk_more {i x c : Nat} {t : List Nat} (h0 : i < 10) (h : ¬ (i = 9 ∧ 1 < c)) (h' : 128 ≤ c) : tk i x (c :: t) = tk (i + 1) (x + 128 ^ i * (c % 128)) t := by
  rw [tk, if_neg (by omega), if_neg h, if_pos h']
theorem tk_zero {i x c : Nat} {t : List Nat} (h0 : i < 10) (h : c = 0) (h' : 0 < i) : tk i x (c :: t) = (0, 0, 2) := by
  rw [tk, if_neg (by omega), if_neg (by omega), if_neg (by omega), if_pos ⟨h, h'⟩]
theorem tk_end {i x c : Nat} {t : List Nat} (h0 : i < 10) (h : ¬ (i = 9 ∧ 1 < c)) (h' : ¬ 128 ≤ c) (h'' : ¬ (c = 0 ∧ 0 < i)) : tk i x (c :: t) = (zag (x + 128 ^ i * c), i + 1, 0) := by
  rw [tk, if_neg (by omega), if_neg h, if_neg h', if_neg h'']

theorem pow_step (i x d : Nat) (hx : x < 128 ^ i) (hd : d < 128) : x + 128 ^ i * d < 128 ^ (i + 1) := by
  rw [Nat.pow_succ]
  have h1 : 128 ^ i * d + 128 ^ i ≤ 128 ^ i * 128 := by rw [← Nat.mul_succ]; exact Nat.mul_le_mul_left _ (by omega)
  omega
theorem pow_le9 (i : Nat) (h : i ≤ 9) : 128 ^ i ≤ 9223372036854775808 := by
  have := Nat.pow_le_pow_right (n := 128) (by omega) h
  have e : 128 ^ 9 = 9223372036854775808 := by decide
  omega
theorem below64 (i x c : Nat) (h0 : i < 10) (hx : x < 128 ^ i) (h : ¬ (i = 9 ∧ 1 < c)) (h' : c < 128) : x + 128 ^ i * c < 18446744073709551616 := by
  by_cases h9 : i = 9
  · subst h9
    have e : 128 ^ 9 = 9223372036854775808 := by decide
    rw [e] at hx ⊢
    omega
  · have := pow_step i x c hx h'
    have := pow_le9 (i + 1) (by omega)
    omega

theorem tk_back (f : Nat) : ∀ (i x y : Nat) (rest : List Nat), i + f = 9 → x < 128 ^ i → 128 ^ i * y < 18446744073709551616 → (0 < i → 0 < y) → tk i x (encF f y ++ rest) = (zag (x + 128 ^ i * y), i + (encF f y).length, 0) := by
  induction f with
  | zero =>
    intro i x y rest hi hx hy h0
    obtain rfl : i = 9 := by omega
    have e : 128 ^ 9 = 9223372036854775808 := by decide
    rw [e] at hy
    have hy1 : y ≤ 1 := by omega
    simp only [encF, List.cons_append, List.nil_append]
    rw [tk_end (by omega) (by omega) (by omega) (by omega)]
    rfl
  | succ f ih =>
    intro i x y rest hi hx hy h0
    by_cases h : y < 128
    · rw [encF_small _ _ h, List.cons_append, tk_end (by omega) (by omega) (by omega) (by omega)]
      simp
    · rw [encF_step _ _ h, List.cons_append, tk_more (by omega) (by omega) (by omega)]
      have hm : (y % 128 + 128) % 128 = y % 128 := by omega
      have hs : 128 ^ i * y = 128 ^ i * (y % 128) + 128 ^ (i + 1) * (y / 128) := by
        rw [Nat.pow_succ, Nat.mul_assoc, ← Nat.mul_add]
        congr 1
        omega
      rw [hm, ih (i + 1) _ _ _ (by omega) (pow_step i x _ hx (by omega)) (by omega) (by omega)]
      rw [hs, Nat.add_assoc, List.length_cons]
      congr 2
      omega

theorem tk_enc (n : Int) (rest : List Nat) (h1 : -9223372036854775808 ≤ n) (h2 : n ≤ 9223372036854775807) : tk 0 0 (encI n ++ rest) = (n, (encI n).length, 0) := by
  have := tk_back 9 0 0 (zig n) rest (by omega) (by simp) (by have := zig_lt n h1 h2; simpa using this) (by omega)
  simp only [Nat.pow_zero, Nat.one_mul, Nat.zero_add, zag_zig] at this
  exact this

theorem tk_bytes : ∀ (l : List Nat) (i x : Nat) (v : Int) (k : Nat), (∀ b ∈ l, b < 256) → x < 128 ^ i → tk i x l = (v, k, 0) →
    i < 10 ∧ ∃ y, l.take (k - i) = encF (9 - i) y ∧ v = zag (x + 128 ^ i * y) ∧ x + 128 ^ i * y < 18446744073709551616 ∧ i < k ∧ k ≤ i + l.length ∧ (0 < i → 0 < y)
  | [], i, x, v, k, _, _, h => by simp [tk] at h
  | c :: t, i, x, v, k, hb, hx, h => by
    by_cases h10 : 10 ≤ i
    · rw [tk_ten _ _ _ h10] at h; simp at h
    refine ⟨by omega, ?_⟩
    by_cases h9 : i = 9 ∧ 1 < c
    · rw [tk_nine h9.1 h9.2] at h; simp at h
    by_cases hc : 128 ≤ c
    · have hi8 : i ≤ 8 := by omega
      have hc2 := hb c (by simp)
      rw [tk_more (by omega) h9 hc] at h
      obtain ⟨_, y, h1, h2, h3, h4, h5, h6⟩ := tk_bytes t (i + 1) _ v k (fun b hb' => hb b (by simp [hb'])) (pow_step i x _ hx (by omega)) h
      have hy := h6 (by omega)
      have hs : x + 128 ^ i * (c % 128) + 128 ^ (i + 1) * y = x + 128 ^ i * (c % 128 + 128 * y) := by
        rw [Nat.pow_succ, Nat.mul_assoc, Nat.add_assoc, ← Nat.mul_add]
      refine ⟨c % 128 + 128 * y, ?_, by rw [h2, hs], by rw [← hs]; exact h3, by omega, by simp; omega, by omega⟩
      rw [show k - i = (k - (i + 1)) + 1 by omega, List.take_succ_cons, h1, show 9 - i = (9 - (i + 1)) + 1 by omega, encF_step _ _ (by omega)]
      congr 1
      · omega
      · congr 1; omega
    · by_cases h0 : c = 0 ∧ 0 < i
      · rw [tk_zero (by omega) h0.1 h0.2] at h; simp at h
      rw [tk_end (by omega) h9 hc h0] at h
      simp only [Prod.mk.injEq, and_true] at h
      obtain ⟨rfl, rfl⟩ := h
      refine ⟨c, ?_, rfl, below64 i x c (by omega) hx h9 (by omega), by omega, by simp, by omega⟩
      rw [show i + 1 - i = 1 by omega, encF_small _ _ (by omega)]
      rfl

/-- the bytes of what is taken, its range, its length -/
theorem tk_canon (l : List Nat) (v : Int) (k : Nat) (hb : ∀ b ∈ l, b < 256) (h : tk 0 0 l = (v, k, 0)) : l.take k = encI v ∧ 0 < k ∧ k ≤ l.length ∧ -9223372036854775808 ≤ v ∧ v ≤ 9223372036854775807 := by
  obtain ⟨_, y, h1, h2, h3, h4, h5, _⟩ := tk_bytes l 0 0 v k hb (by simp) h
  simp only [Nat.pow_zero, Nat.one_mul, Nat.zero_add, Nat.sub_zero] at *
  have := zag_range y h3
  refine ⟨?_, h4, h5, by rw [h2]; exact this.1, by rw [h2]; exact this.2⟩
  rw [h1, h2, encI, zig_zag]
  rfl
theorem tk_bad (l : List Nat) (v : Int) (k : Nat) (e : Int) : ∀ i x, tk i x l = (v, k, e) → e ≠ 0 → v = 0 ∧ k = 0 ∧ (e = 7 ∨ e = 2) := by
  induction l with
  | nil => intro i x h he; simp [tk] at h; omega
  | cons c t ih =>
    intro i x h he
    unfold tk at h
    split at h
    · simp at h; omega
    split at h
    · simp at h; omega
    split at h
    · exact ih _ _ h he
    split at h
    · simp at h; omega
    · simp at h; omega

/-- a list, what is left, an error's number -/
def pre (o : List Int) (r : List Int × List Nat × Int) : List Int × List Nat × Int := if r.2.2 = 0 then (o ++ r.1, r.2.1, 0) else ([], [], r.2.2)
def tkN : Nat → List Nat → List Int × List Nat × Int
  | 0, b => ([], b, 0)
  | m + 1, b => if (tk 0 0 b).2.2 = 0 then pre [(tk 0 0 b).1] (tkN m (b.drop (tk 0 0 b).2.1)) else ([], [], (tk 0 0 b).2.2)
def tkL (b : List Nat) (many : Int) : List Int × List Nat × Int :=
  if (tk 0 0 b).2.2 = 0 then
    if (tk 0 0 b).1 < 0 then ([], [], 1) else if many < (tk 0 0 b).1 then ([], [], 19) else tkN (tk 0 0 b).1.toNat (b.drop (tk 0 0 b).2.1)
  else ([], [], (tk 0 0 b).2.2)

theorem pre_nil (r : List Int × List Nat × Int) (h : r.2.2 ≠ 0 → r = ([], [], r.2.2)) : pre [] r = r := by
  unfold pre
  split
  · rename_i h0
    obtain ⟨a, b, c⟩ := r
    simp at h0
    simp [h0]
  · rename_i h0
    exact (h h0).symm
theorem tkN_err (m : Nat) (b : List Nat) (h : (tkN m b).2.2 ≠ 0) : tkN m b = ([], [], (tkN m b).2.2) := by
  cases m with
  | zero => simp [tkN] at h
  | succ m =>
    unfold tkN at h ⊢
    by_cases h1 : (tk 0 0 b).2.2 = 0
    · rw [if_pos h1] at h ⊢
      unfold pre at h ⊢
      by_cases h2 : (tkN m (b.drop (tk 0 0 b).2.1)).2.2 = 0
      · rw [if_pos h2] at h; simp at h
      · rw [if_neg h2]
    · rw [if_neg h1]
theorem pre_start (m : Nat) (b : List Nat) : tkN m b = pre [] (tkN m b) := (pre_nil _ (tkN_err m b)).symm
theorem pre_pre (o o' : List Int) (r : List Int × List Nat × Int) : pre o (pre o' r) = pre (o ++ o') r := by
  unfold pre
  by_cases h : r.2.2 = 0
  · simp [h]
  · simp [h]
theorem pre_step {o : List Int} {m : Nat} {b : List Nat} {v : Int} {k : Nat} (h : tk 0 0 b = (v, k, 0)) : pre o (tkN (m + 1) b) = pre (o ++ [v]) (tkN m (b.drop k)) := by
  have : tkN (m + 1) b = pre [v] (tkN m (b.drop k)) := by rw [tkN, h]; simp
  rw [this, pre_pre]
theorem pre_bad {o : List Int} {m : Nat} {b : List Nat} {v : Int} {k : Nat} {e : Int} (h : tk 0 0 b = (v, k, e)) (he : e ≠ 0) : pre o (tkN (m + 1) b) = ([], [], e) := by
  have : tkN (m + 1) b = ([], [], e) := by rw [tkN, h, if_neg he]
  rw [this, pre, if_neg he]
theorem pre_end (o : List Int) (b : List Nat) : pre o (tkN 0 b) = (o, b, 0) := by simp [tkN, pre]

def Ok (l : List Int) : Prop := ∀ n ∈ l, -9223372036854775808 ≤ n ∧ n ≤ 9223372036854775807

theorem tkN_back : ∀ (l : List Int) (rest : List Nat), Ok l → tkN l.length (encAll l ++ rest) = (l, rest, 0)
  | [], rest, _ => rfl
  | n :: l, rest, h => by
    have hn := h n (by simp)
    have ih := tkN_back l rest (fun x hx => h x (by simp [hx]))
    have ht := tk_enc n (encAll l ++ rest) hn.1 hn.2
    rw [List.length_cons, encAll, List.append_assoc, tkN, ht]
    simp [ih, pre]
theorem tkL_back (l : List Int) (rest : List Nat) (many : Int) (h : Ok l) (hl : (l.length : Int) ≤ 9223372036854775807) (hm : (l.length : Int) ≤ many) : tkL (encL l ++ rest) many = (l, rest, 0) := by
  have ht := tk_enc (l.length : Int) (encAll l ++ rest) (by omega) hl
  rw [encL, List.append_assoc, tkL, ht]
  simp only [if_true]
  rw [if_neg (by omega), if_neg (by omega)]
  simp [tkN_back l rest h]

theorem tkN_canon : ∀ (m : Nat) (b : List Nat) (l : List Int) (r : List Nat), (∀ x ∈ b, x < 256) → tkN m b = (l, r, 0) → encAll l ++ r = b ∧ l.length = m ∧ Ok l
  | 0, b, l, r, _, h => by simp [tkN] at h; obtain ⟨rfl, rfl⟩ := h; exact ⟨rfl, rfl, fun x hx => by simp at hx⟩
  | m + 1, b, l, r, hb, h => by
    obtain ⟨v, k, e, ht⟩ : ∃ v k e, tk 0 0 b = (v, k, e) := ⟨_, _, _, rfl⟩
    by_cases he : e = 0
    · subst he
      obtain ⟨h1, h2, h3, h4, h5⟩ := tk_canon b v k hb ht
      have hs : tkN (m + 1) b = pre [v] (tkN m (b.drop k)) := by rw [tkN, ht]; simp
      rw [hs] at h
      unfold pre at h
      split at h
      · rename_i h0
        obtain ⟨l', r', e', hr⟩ : ∃ l' r' e', tkN m (b.drop k) = (l', r', e') := ⟨_, _, _, rfl⟩
        rw [hr] at h h0
        simp at h0 h
        obtain ⟨rfl, rfl⟩ := h
        subst h0
        obtain ⟨g1, g2, g3⟩ := tkN_canon m (b.drop k) l' r' (fun x hx => hb x (List.mem_of_mem_drop hx)) hr
        refine ⟨?_, by simp [g2], ?_⟩
        · rw [encAll, List.append_assoc, g1, ← h1, List.take_append_drop]
        · intro x hx
          rcases List.mem_cons.1 hx with rfl | hx
          · exact ⟨h4, h5⟩
          · exact g3 x hx
      · rename_i h0; simp at h; exact absurd h.2.2 h0
    · have : tkN (m + 1) b = ([], [], e) := by rw [tkN, ht, if_neg he]
      rw [this] at h
      simp at h
      exact absurd h.2.2 he

theorem tkL_canon (b : List Nat) (many : Int) (l : List Int) (r : List Nat) (hb : ∀ x ∈ b, x < 256) (h : tkL b many = (l, r, 0)) : encL l ++ r = b ∧ Ok l ∧ (l.length : Int) ≤ many := by
  obtain ⟨v, k, e, ht⟩ : ∃ v k e, tk 0 0 b = (v, k, e) := ⟨_, _, _, rfl⟩
  unfold tkL at h
  rw [ht] at h
  simp only at h
  by_cases he : e = 0
  · rw [if_pos he] at h
    subst he
    by_cases h1 : v < 0
    · rw [if_pos h1] at h; simp at h
    by_cases h2 : many < v
    · rw [if_neg h1, if_pos h2] at h; simp at h
    rw [if_neg h1, if_neg h2] at h
    obtain ⟨g1, g2, g3⟩ := tkN_canon _ _ _ _ (fun x hx => hb x (List.mem_of_mem_drop hx)) h
    obtain ⟨c1, c2, c3, c4, c5⟩ := tk_canon b v k hb ht
    refine ⟨?_, g3, by omega⟩
    rw [encL, List.append_assoc, g1, g2, show ((v.toNat : Nat) : Int) = v by omega, ← c1, List.take_append_drop]
  · rw [if_neg he] at h
    simp at h
    exact absurd h.2.2 he

/-- unlike lists have unlike bytes, of which none begin with the other's -/
theorem encL_apart (a b : List Int) (ha : Ok a) (hb : Ok b) (hla : (a.length : Int) ≤ 9223372036854775807) (hlb : (b.length : Int) ≤ 9223372036854775807)
    (h : (encL a).take (min (encL a).length (encL b).length) = (encL b).take (min (encL a).length (encL b).length)) : a = b := by
  have key : ∀ (a b : List Int), Ok a → Ok b → (a.length : Int) ≤ 9223372036854775807 → (b.length : Int) ≤ 9223372036854775807 → (encL a).length ≤ (encL b).length → encL a = (encL b).take (encL a).length → a = b := by
    intro a b ha hb hla hlb hl h
    have e : encL b = encL a ++ (encL b).drop (encL a).length := by
      rw [← List.take_append_drop (encL a).length (encL b), ← h]
      simp
    have h1 := tkL_back a ((encL b).drop (encL a).length) (max (a.length : Int) b.length) ha hla (by omega)
    have h2 := tkL_back b [] (max (a.length : Int) b.length) hb hlb (by omega)
    rw [List.append_nil, e, h1] at h2
    simp at h2
    exact h2.1
  by_cases hl : (encL a).length ≤ (encL b).length
  · refine key a b ha hb hla hlb hl ?_
    rw [Nat.min_eq_left hl, List.take_length] at h
    exact h
  · refine (key b a hb ha hlb hla (by omega) ?_).symm
    rw [Nat.min_eq_right (by omega), List.take_length] at h
    exact h.symm
end Go.Proofs.YtbpbdanggilnpaaDoor.mth
end

section
namespace Go.Proofs.YtbpbdanggilnpaaDoor
open Go.RowKit
set_option linter.unusedVariables false

theorem zig_bits (n : Int) (h1 : -9223372036854775808 ≤ n) (h2 : n ≤ 9223372036854775807) :
    bits .xor .u64 (IntKind.u64.wrap (IntKind.u64.wrap n * 2)) (IntKind.u64.wrap (n / 9223372036854775808)) = ((mth.zig n : Nat) : Int) := by
  unfold mth.zig
  by_cases h : 0 ≤ n
  · rw [if_pos h]
    have e1 : IntKind.u64.wrap (IntKind.u64.wrap n * 2) = (((2 * n).toNat : Nat) : Int) := by rw [IntKind.wrap_u64, IntKind.wrap_u64]; omega
    have e2 : IntKind.u64.wrap (n / 9223372036854775808) = ((0 : Nat) : Int) := by rw [IntKind.wrap_u64]; omega
    rw [e1, e2, u64_xor_nat _ _ (by omega) (by omega), Nat.xor_zero]
  · rw [if_neg h]
    have e1 : IntKind.u64.wrap (IntKind.u64.wrap n * 2) = (((18446744073709551616 + 2 * n).toNat : Nat) : Int) := by rw [IntKind.wrap_u64, IntKind.wrap_u64]; omega
    have e2 : IntKind.u64.wrap (n / 9223372036854775808) = ((18446744073709551615 : Nat) : Int) := by rw [IntKind.wrap_u64]; omega
    rw [e1, e2, u64_xor_nat _ _ (by omega) (by omega)]
    have hx : ∀ a b : Nat, a < 2 ^ 64 → b = 2 ^ 64 - 1 → a ^^^ b = 2 ^ 64 - 1 - a := fun a b ha hb => by
      subst hb
      apply Nat.eq_of_testBit_eq
      intro i
      rw [Nat.testBit_xor, Nat.testBit_two_pow_sub_one, show 2 ^ 64 - 1 - a = 2 ^ 64 - (a + 1) from by omega, Nat.testBit_two_pow_sub_succ ha]
      by_cases hi : i < 64
      · simp [hi]
      · rw [Nat.testBit_lt_two_pow (Nat.lt_of_lt_of_le ha (Nat.pow_le_pow_right (by omega) (by omega)))]
        simp [hi]
    rw [hx _ _ (by omega) rfl]
    omega

theorem u8_andNot128 (c : Nat) (h : c < 256) : bits .andNot .u8 (c : Int) 128 = ((c % 128 : Nat) : Int) := by
  have : ∀ c : _root_.Fin 256, bits .andNot .u8 (c.val : Int) 128 = ((c.val % 128 : Nat) : Int) := by decide +kernel
  exact this ⟨c, h⟩
theorem u8_and128 (c : Nat) (h : c < 256) : bits .and .u8 (c : Int) 128 = if (128 : Int) ≤ (c : Int) then 128 else 0 := by
  have : ∀ c : _root_.Fin 256, bits .and .u8 (c.val : Int) 128 = if (128 : Int) ≤ (c.val : Int) then 128 else 0 := by decide +kernel
  exact this ⟨c, h⟩

theorem xor_comm_i64 (a b : Int) : bits .xor .i64 a b = bits .xor .i64 b a := by
  show IntKind.i64.wrap ((BitVec.ofInt 64 a ^^^ BitVec.ofInt 64 b).toNat : Int) = IntKind.i64.wrap ((BitVec.ofInt 64 b ^^^ BitVec.ofInt 64 a).toNat : Int)
  rw [BitVec.xor_comm]
theorem xor_zero_i64 (x : Nat) (hx : x < 9223372036854775808) : bits .xor .i64 (x : Int) 0 = (x : Int) := by
  show IntKind.i64.wrap ((BitVec.ofInt 64 (x : Int) ^^^ BitVec.ofInt 64 0).toNat : Int) = _
  have h2 : (BitVec.ofInt 64 (x : Int)).toNat = x := by
    rw [BitVec.ofInt_natCast, BitVec.toNat_ofNat]; exact Nat.mod_eq_of_lt (by omega)
  have h1 : (BitVec.ofInt 64 0).toNat = 0 := by decide
  rw [BitVec.toNat_xor, h1, h2, Nat.xor_zero, IntKind.wrap_i64]
  omega
theorem zag_bits (x : Nat) (h : x < 18446744073709551616) : bits .xor .i64 ((x : Int) / 2) (Go.RowKit.wrap64 (-Go.RowKit.wrap64 (bits .and .u64 (x : Int) 1))) = mth.zag x := by
  rw [Lib.u64_and1 (x : Int) (by omega) (by omega)]
  have e : ((x : Int) / 2) = ((x / 2 : Nat) : Int) := by omega
  unfold mth.zag
  by_cases h0 : x % 2 = 0
  · have e0 : (x : Int) % 2 = 0 := by omega
    rw [if_pos h0, e, e0]
    rw [show Go.RowKit.wrap64 (-Go.RowKit.wrap64 0) = 0 by decide +kernel]
    exact xor_zero_i64 (x / 2) (by omega)
  · have e0 : (x : Int) % 2 = 1 := by omega
    rw [if_neg h0, e, e0]
    have e1 : Go.RowKit.wrap64 (-Go.RowKit.wrap64 1) = -1 := by decide +kernel
    rw [e1, xor_comm_i64, Lib.i64_not _ (by omega)]

theorem or_part (X d k : Nat) (hX : X < 128 ^ k) (h64 : X + 128 ^ k * d < 18446744073709551616) : bits .or .u64 (X : Int) (IntKind.u64.wrap ((d : Int) * 2 ^ (k * 7))) = ((X + 128 ^ k * d : Nat) : Int) := by
  have hp : 128 ^ k = 2 ^ (k * 7) := by rw [Nat.mul_comm k 7, Nat.pow_mul]
  rw [hp] at hX h64 ⊢
  have hdn : d * 2 ^ (k * 7) < 18446744073709551616 := by rw [Nat.mul_comm]; omega
  have e : IntKind.u64.wrap ((d : Int) * 2 ^ (k * 7)) = ((d * 2 ^ (k * 7) : Nat) : Int) := by
    have h1 : (d : Int) * 2 ^ (k * 7) = ((d * 2 ^ (k * 7) : Nat) : Int) := by simp
    rw [h1, IntKind.wrap_u64]
    omega
  rw [e, u64_or_nat _ _ (by omega) hdn]
  congr 1
  have := Nat.shiftLeft_add_eq_or_of_lt hX d
  rw [Nat.shiftLeft_eq] at this
  rw [Nat.or_comm, ← this, Nat.mul_comm d, Nat.add_comm]

theorem zag_e (Y : Nat) (h : Y < 18446744073709551616) (he : Y % 2 = 0) : Go.RowKit.wrap64 (IntKind.u64.wrap ((Y : Int) / 2)) = mth.zag Y := by
  rw [IntKind.wrap_u64, mth.zag, if_pos he]
  unfold Go.RowKit.wrap64
  omega
theorem zag_o (Y : Nat) (h : Y < 18446744073709551616) (he : ¬ Y % 2 = 0) : Go.RowKit.wrap64 (Go.RowKit.wrap64 (-Go.RowKit.wrap64 (IntKind.u64.wrap ((Y : Int) / 2))) - 1) = mth.zag Y := by
  rw [IntKind.wrap_u64, mth.zag, if_neg he]
  unfold Go.RowKit.wrap64
  omega

end Go.Proofs.YtbpbdanggilnpaaDoor
end

section
namespace Go.Proofs.YtbpbdanggilnpaaDoor
open Go.RowKit
set_option linter.unusedVariables false
set_option linter.unusedSimpArgs false

/-- bytes as rows -/
def u8R (l : List Nat) : List (List Dat) := l.map fun c : Nat => [.int .u8 (c : Int)]
theorem u8R_app (a b : List Nat) : u8R (a ++ b) = u8R a ++ u8R b := by simp [u8R]
theorem u8R_len (a : List Nat) : (u8R a).length = a.length := by simp [u8R]
theorem u8R_get {l : List Nat} {i : Nat} (h : i < l.length) (d : Dat) : ((u8R l).getD i []).getD 0 d = .int .u8 (l[i] : Int) := by
  simp [u8R, List.getD_eq_getElem?_getD, List.getElem?_eq_getElem h]
theorem sh63 : (2 : Int) ^ (min (Int.toNat 63) 64) = 9223372036854775808 := by decide
theorem zig_of (n : Int) (h1 : -9223372036854775808 ≤ n) (h2 : n ≤ 9223372036854775807) :
    Ar.xor.of .u64 (Ar.shl.of .u64 (IntKind.u64.wrap n) 1) (IntKind.u64.wrap (Ar.shr.of .i64 n 63)) = ((mth.zig n : Nat) : Int) := by
  have := zig_bits n h1 h2
  have e1 : Ar.shl.of .u64 (IntKind.u64.wrap n) 1 = IntKind.u64.wrap (IntKind.u64.wrap n * 2) := rfl
  have e2 : Ar.shr.of .i64 n 63 = n / 9223372036854775808 := by
    show n.fdiv (2 ^ 63) = _
    rw [Int.fdiv_eq_ediv_of_nonneg _ (by decide)]; rfl
  rw [e1, e2]; exact this
theorem zag_of (x : Nat) (h : x < 18446744073709551616) : Ar.xor.of .i64 (IntKind.i64.wrap (Ar.shr.of .u64 (x : Int) 1)) (IntKind.i64.wrap (0 - IntKind.i64.wrap (Ar.and.of .u64 (x : Int) 1))) = mth.zag x := by
  have := zag_bits x h
  have e1 : Ar.shr.of .u64 (x : Int) 1 = (x : Int) / 2 := by
    show (x : Int).fdiv (2 ^ 1) = _
    rw [Int.fdiv_eq_ediv_of_nonneg _ (by decide)]; rfl
  have e2 : IntKind.i64.wrap ((x : Int) / 2) = (x : Int) / 2 := wrap64 (by omega) (by omega)
  have w64 : ∀ y, IntKind.i64.wrap y = RowKit.wrap64 y := fun y => by rw [IntKind.wrap_i64, RowKit.wrap64]
  rw [e1, e2, Int.zero_sub, w64, w64]; exact this
def k_Cl8 : Nat := 47
def sg_Cl8 : Sig := ⟨[(false, [.list 5])], [(false, [.rows 5])], true, false, false, false, false, [], [], none⟩
def tr_Cl8 : Tree := (.ite (.isnil (.var 0))
 (.ret [.emp])
 (.ob (.cmp .le (.len (.app .emp (.var 0))) (.int .i64 140737488355328))
 (.ret [(.app .emp (.var 0))])))
theorem wk_Cl8 : walk E0.cx (sgsN []) 0 47 sg_Cl8 = tr_Cl8 := by kernel_rfl
theorem bo_Cl8 : ∃ x, bodyOf E0.P 47 = some x := bo_of (by kernel_rfl)
def Cl8_s : Spec := fun ds Q => (argL ds 0).length ≤ 100000000 ∧ Q [.rows (argL ds 0)]
theorem Cl8_h : Holds E0 k_Cl8 sg_Cl8 Cl8_s := con_fnN wf0 mix0 g0 [] rfl wk_Cl8 rfl (by
  intro Φ hΦ ds Q hs hnil ⟨hn, h⟩
  have hl : ds.length = 1 := hs.length.symm
  simp only [tr_Cl8, wp, den_int, den_bool, den_nili, den_ar, den_cmp, den_not, den_len, den_elem, den_isnil, den_errI, den_ifc, den_rep, den_push, den_app, den_emp, den_upd, row0_econs, row0_enil, den_and, den_beq, den_nil, toInt_int, toBool_bool, xs_rows, xs_list, dflt_int, dflt_bool, of_eq, of_ne, of_lt, of_le, of_gt, of_ge, of_add, of_sub, of_rem, List.map_cons, List.map_nil, Dat.bool.injEq, decide_eq_true_eq, decide_eq_false_iff_not, Bool.not_eq_true', Bool.not_eq_false', beq_iff_eq, bne_iff_ne, beq_eq_false_iff_ne, bne_eq_false_iff_eq, ne_eq, List.append_assoc, List.cons_append, List.nil_append, @den_var0 E0.Δ ds, den_varA, den_varB, hl, Nat.reduceLT, Nat.reduceLeDiff, Nat.reduceSub, List.getD_cons_zero, List.getD_cons_succ, argL_fold ds, argI_fold ds, List.append_assoc, List.cons_append, List.nil_append, toInt_int, toBool_bool, xs_rows, xs_list, Int.toNat_natCast, Dat.bool.injEq]
  refine ⟨fun h0 => ?_, fun _ => ⟨by omega, h⟩⟩
  have : argL ds 0 = [] := by
    rw [← argL_fold]
    exact hnil _ (getD_memL (by omega)) h0
  rw [this] at h; exact h)
noncomputable def con_Cl8 : Con E0 := ⟨k_Cl8, sg_Cl8, Cl8_s, rfl, bo_Cl8, Cl8_h⟩
/-- bytes that bytes are put behind -/
def k_wPut : Nat := 38
def sg_wPut : Sig := ⟨[(false, [.list 5]), (false, [.int .i64])], [(false, [.rows 5])], true, false, false, false, false, [], [], none⟩
def tr_wPut : Tree := (.call k_Cl8 [(.var 0)] [(.rows 5)]
(.loop [(.app .emp (.var 2)), (.ar .xor .u64 (.ar .shl .u64 (.conv .u64 (.var 1)) (.int .u64 1)) (.conv .u64 (.ar .shr .i64 (.var 1) (.int .u64 63))))] [(.rows 5), (.int .u64)]
 (.ite (.cmp .ge (.var 4) (.int .u64 128))
  (.ob (.cmp .le (.len (.push (.var 3) (.econs (.ar .or .u8 (.conv .u8 (.var 4)) (.int .u8 128)) .enil))) (.int .i64 140737488355328))
  (.again 0 [(.push (.var 3) (.econs (.ar .or .u8 (.conv .u8 (.var 4)) (.int .u8 128)) .enil)), (.ar .shr .u64 (.var 4) (.int .u64 7))]))
  (.ob (.cmp .le (.len (.push (.var 3) (.econs (.conv .u8 (.var 4)) .enil))) (.int .i64 140737488355328))
  (.ret [(.push (.var 3) (.econs (.conv .u8 (.var 4)) .enil))])))))
theorem wk_wPut : walk E0.cx (sgsN [(47, sg_Cl8)]) 0 38 sg_wPut = tr_wPut := by kernel_rfl
theorem bo_wPut : ∃ x, bodyOf E0.P 38 = some x := bo_of (by kernel_rfl)
theorem sp_wPut_Cl8 : specC [con_Cl8] k_Cl8 = Cl8_s := rfl
def wPut_s : Spec := fun ds Q => (argL ds 0).length ≤ 90000000 ∧ -9223372036854775808 ≤ argI ds 1 ∧ argI ds 1 ≤ 9223372036854775807 ∧ Q [.rows (argL ds 0 ++ u8R (mth.encI (argI ds 1)))]
theorem or128_of (y : Nat) (h : y < 18446744073709551616) : Ar.or.of .u8 (IntKind.u8.wrap (y : Int)) 128 = ((y % 128 + 128 : Nat) : Int) := by
  have e : IntKind.u8.wrap (y : Int) = ((y % 256 : Nat) : Int) := by rw [IntKind.wrap_u8]; omega
  rw [e]
  have key : ∀ c : _root_.Fin 256, Ar.or.of .u8 (c.val : Int) 128 = ((c.val % 128 + 128 : Nat) : Int) := by decide +kernel
  have := key ⟨y % 256, Nat.mod_lt _ (by decide)⟩
  rw [this]
  congr 1
  show y % 256 % 128 + 128 = _
  omega
theorem shr7 (y : Nat) : Ar.shr.of .u64 (y : Int) 7 = ((y / 128 : Nat) : Int) := by
  show (y : Int).fdiv (2 ^ 7) = _
  rw [Int.fdiv_eq_ediv_of_nonneg _ (by decide)]; rfl
theorem wPut_h : Holds E0 k_wPut sg_wPut wPut_s := con_fn wf0 mix0 g0 [con_Cl8] rfl wk_wPut rfl (by
  intro Φ hΦ ds Q hs ⟨hn, n1, n2, h⟩
  have hl : ds.length = 2 := hs.length.symm
  have sp : Φ k_Cl8 = Cl8_s := by rw [hΦ]; rfl
  clear hΦ
  simp only [tr_wPut, wp, den_int, den_bool, den_nili, den_ar, den_cmp, den_not, den_len, den_elem, den_isnil, den_errI, den_ifc, den_rep, den_push, den_app, den_emp, den_upd, row0_econs, row0_enil, den_and, den_beq, den_nil, toInt_int, toBool_bool, xs_rows, xs_list, dflt_int, dflt_bool, of_eq, of_ne, of_lt, of_le, of_gt, of_ge, of_add, of_sub, of_rem, List.map_cons, List.map_nil, Dat.bool.injEq, decide_eq_true_eq, decide_eq_false_iff_not, Bool.not_eq_true', Bool.not_eq_false', beq_iff_eq, bne_iff_ne, beq_eq_false_iff_ne, bne_eq_false_iff_eq, ne_eq, List.append_assoc, List.cons_append, List.nil_append, allS, sp, Cl8_s, den_conv, argL_c0, @den_var0 E0.Δ ds, den_varA, den_varB, hl, Nat.reduceLT, Nat.reduceLeDiff, Nat.reduceSub, List.getD_cons_zero, List.getD_cons_succ, argL_fold ds, argI_fold ds, List.append_assoc, List.cons_append, List.nil_append, toInt_int, toBool_bool, xs_rows, xs_list, Int.toNat_natCast, Dat.bool.injEq]
  rw [zig_of _ n1 n2]
  have hX := mth.zig_lt _ n1 n2
  refine ⟨by omega, fun xs m => ∃ (k y : Nat) (dn : List Nat), mth.Going (mth.zig (argI ds 1)) k y dn ∧ xs = [.rows (argL ds 0 ++ u8R dn), .int .u64 (y : Int)] ∧ m = y, ⟨_, 0, _, [], mth.going_start _ hX, by simp [u8R], rfl⟩, ?_⟩
  rintro d hd n m ⟨k, y, dn, hg, e, hm⟩
  cases e
  have hlen := hg.len
  have hk := hg.hk
  have hle := hg.le
  refine ⟨fun h128 => ⟨?_, ?_⟩, fun h128 => ⟨?_, ?_⟩⟩
  · simp only [xs_rows, List.length_append, u8R_len, List.length_cons, List.length_nil]; omega
  · have hy : ¬ y < 128 := by omega
    refine ⟨y / 128, by omega, k + 1, y / 128, _, mth.going_step hg hy, ?_, rfl⟩
    rw [or128_of y (by omega), shr7, u8R_app, ← List.append_assoc]; rfl
  · simp only [xs_rows, List.length_append, u8R_len, List.length_cons, List.length_nil]; omega
  · have hy : y < 128 := by omega
    have he := (mth.going_end hg hy).1
    have ew : IntKind.u8.wrap (y : Int) = (y : Int) := by rw [IntKind.wrap_u8]; omega
    rw [ew]
    have e2 : u8R (mth.encI (argI ds 1)) = u8R dn ++ [[.int .u8 (y : Int)]] := by
      rw [mth.encI, ← he, u8R_app]; rfl
    rw [e2, ← List.append_assoc] at h
    exact h)
noncomputable def con_wPut : Con E0 := ⟨k_wPut, sg_wPut, wPut_s, rfl, bo_wPut, wPut_h⟩
theorem stands_of (n : Int) (h1 : -9223372036854775808 ≤ n) (h2 : n ≤ 9223372036854775807) : (if 0 ≤ n then Dat.int .u64 (Ar.mul.of .u64 2 (IntKind.u64.wrap n)) else Dat.int .u64 (IntKind.u64.wrap (Ar.mul.of .u64 2 (IntKind.u64.wrap (IntKind.i64.wrap (0 - IntKind.i64.wrap (n + 1)))) + 1))) = .int .u64 ((mth.zig n : Nat) : Int) := by
  by_cases h : 0 ≤ n
  · rw [if_pos h]
    congr 1
    simp only [Ar.of, mth.zig, if_pos h, IntKind.wrap_u64]
    omega
  · rw [if_neg h, wrap64 (x := n + 1) (by omega) (by omega), wrap64 (by omega) (by omega)]
    congr 1
    simp only [Ar.of, mth.zig, if_neg h, IntKind.wrap_u64]
    omega
theorem quo128 (y : Nat) (h : y < 18446744073709551616) : Ar.quo.of .u64 (y : Int) 128 = ((y / 128 : Nat) : Int) := by
  show IntKind.u64.wrap ((y : Int).tdiv 128) = _
  rw [Int.tdiv_eq_ediv_of_nonneg (by omega), IntKind.wrap_u64]
  omega
theorem rem128 (y : Nat) (h : y < 18446744073709551616) : IntKind.u8.wrap (IntKind.u8.wrap ((y : Int).tmod 128) + 128) = ((y % 128 + 128 : Nat) : Int) := by
  rw [Int.tmod_eq_emod_of_nonneg (by omega), IntKind.wrap_u8, IntKind.wrap_u8]
  omega
-- lacks mulligan/mulliganref02.Bytes : rBytes2
def rBytes2_s : Spec := fun ds Q => -9223372036854775808 ≤ argI ds 0 ∧ argI ds 0 ≤ 9223372036854775807 ∧ Q [.rows (u8R (mth.encI (argI ds 0)))]
def k_wzag : Nat := 55
def sg_wzag : Sig := ⟨[(false, [.int .u64])], [(false, [.int .i64])], false, false, false, false, false, [], [], none⟩
def tr_wzag : Tree := (.ret [(.ar .xor .i64 (.conv .i64 (.ar .shr .u64 (.var 0) (.int .u64 1))) (.ar .sub .i64 (.int .i64 0) (.conv .i64 (.ar .and .u64 (.var 0) (.int .u64 1)))))])
theorem wk_wzag : walk E0.cx (sgsN []) 0 55 sg_wzag = tr_wzag := by kernel_rfl
theorem bo_wzag : ∃ x, bodyOf E0.P 55 = some x := bo_of (by kernel_rfl)
def wzag_s : Spec := fun ds Q => ∃ x : Nat, x < 18446744073709551616 ∧ argI ds 0 = (x : Int) ∧ Q [.int .i64 (mth.zag x)]
theorem wzag_h : Holds E0 k_wzag sg_wzag wzag_s := con_fn wf0 mix0 g0 [] rfl wk_wzag rfl (by
  intro Φ hΦ ds Q hs ⟨x, hx, e, h⟩
  have hl : ds.length = 1 := hs.length.symm
  simp only [tr_wzag, wp, den_int, den_bool, den_nili, den_ar, den_cmp, den_not, den_len, den_elem, den_isnil, den_errI, den_ifc, den_rep, den_push, den_app, den_emp, den_upd, row0_econs, row0_enil, den_and, den_beq, den_nil, toInt_int, toBool_bool, xs_rows, xs_list, dflt_int, dflt_bool, of_eq, of_ne, of_lt, of_le, of_gt, of_ge, of_add, of_sub, of_rem, List.map_cons, List.map_nil, Dat.bool.injEq, decide_eq_true_eq, decide_eq_false_iff_not, Bool.not_eq_true', Bool.not_eq_false', beq_iff_eq, bne_iff_ne, beq_eq_false_iff_ne, bne_eq_false_iff_eq, ne_eq, List.append_assoc, List.cons_append, List.nil_append, den_conv, @den_var0 E0.Δ ds, den_varA, den_varB, hl, Nat.reduceLT, Nat.reduceLeDiff, Nat.reduceSub, List.getD_cons_zero, List.getD_cons_succ, argL_fold ds, argI_fold ds, List.append_assoc, List.cons_append, List.nil_append, toInt_int, toBool_bool, xs_rows, xs_list, Int.toNat_natCast, Dat.bool.injEq, e]
  rw [zag_of x hx]; exact h)
noncomputable def con_wzag : Con E0 := ⟨k_wzag, sg_wzag, wzag_s, rfl, bo_wzag, wzag_h⟩
def k_wTake : Nat := 54
def sg_wTake : Sig := ⟨[(false, [.list 5])], [(false, [.int .i64]), (false, [.list 5]), (false, [.err])], false, false, true, false, false, [], [], none⟩
def tr_wTake : Tree := (.ob (.cmp .ge (.ite (.cmp .lt (.int .i64 10) (.len (.var 0))) (.int .i64 10) (.len (.var 0))) (.int .i64 0))
(.ob (.cmp .le (.ite (.cmp .lt (.int .i64 10) (.len (.var 0))) (.int .i64 10) (.len (.var 0))) (.len (.var 0)))
(.loop [(.int .i64 0), .emp, .nili, (.int .u64 0), (.int .i64 0)] [(.int .i64), (.rows 5), .err, (.int .u64), (.int .i64)]
 (.ite (.cmp .lt (.var 5) (.len (.cut (.var 0) (.int .i64 0) (.ite (.cmp .lt (.int .i64 10) (.len (.var 0))) (.int .i64 10) (.len (.var 0))))))
  (.ob (.cmp .ge (.var 5) (.int .i64 0))
  (.ob (.cmp .ge (.conv .u64 (.ar .mul .i64 (.var 5) (.int .i64 7))) (.int .u64 0))
  (.ite (.and (.cmp .eq (.var 5) (.int .i64 9)) (.cmp .gt (.elem (.cut (.var 0) (.int .i64 0) (.ite (.cmp .lt (.int .i64 10) (.len (.var 0))) (.int .i64 10) (.len (.var 0)))) (.var 5) 0 (.int .u8)) (.int .u8 1)))
   (.share 5 .emp
   (.ret [(.int .i64 0), (.var 6), (.ifc (.int .i64 2))]))
   (.ite (.cmp .ne (.ar .and .u8 (.elem (.cut (.var 0) (.int .i64 0) (.ite (.cmp .lt (.int .i64 10) (.len (.var 0))) (.int .i64 10) (.len (.var 0)))) (.var 5) 0 (.int .u8)) (.int .u8 128)) (.int .u8 0))
    (.again 0 [(.var 1), (.var 2), (.var 3), (.ar .or .u64 (.var 4) (.ar .shl .u64 (.conv .u64 (.ar .andNot .u8 (.elem (.cut (.var 0) (.int .i64 0) (.ite (.cmp .lt (.int .i64 10) (.len (.var 0))) (.int .i64 10) (.len (.var 0)))) (.var 5) 0 (.int .u8)) (.int .u8 128))) (.conv .u64 (.ar .mul .i64 (.var 5) (.int .i64 7))))), (.ar .add .i64 (.var 5) (.int .i64 1))])
    (.ite (.and (.cmp .eq (.elem (.cut (.var 0) (.int .i64 0) (.ite (.cmp .lt (.int .i64 10) (.len (.var 0))) (.int .i64 10) (.len (.var 0)))) (.var 5) 0 (.int .u8)) (.int .u8 0)) (.cmp .gt (.var 5) (.int .i64 0)))
     (.share 5 .emp
     (.ret [(.int .i64 0), (.var 6), (.ifc (.int .i64 2))]))
     (.ob (.cmp .ge (.ar .add .i64 (.var 5) (.int .i64 1)) (.int .i64 0))
     (.ob (.cmp .le (.ar .add .i64 (.var 5) (.int .i64 1)) (.len (.var 0)))
     (.call k_wzag [(.ar .or .u64 (.var 4) (.ar .shl .u64 (.conv .u64 (.ar .andNot .u8 (.elem (.cut (.var 0) (.int .i64 0) (.ite (.cmp .lt (.int .i64 10) (.len (.var 0))) (.int .i64 10) (.len (.var 0)))) (.var 5) 0 (.int .u8)) (.int .u8 128))) (.conv .u64 (.ar .mul .i64 (.var 5) (.int .i64 7)))))] [(.int .i64)]
     (.call k_Cl8 [(.cut (.var 0) (.ar .add .i64 (.var 5) (.int .i64 1)) (.len (.var 0)))] [(.rows 5)]
     (.share 5 (.app .emp (.var 7))
     (.ret [(.var 6), (.var 8), .nili])))))))))))
  (.share 5 .emp
  (.ret [(.int .i64 0), (.var 6), (.ifc (.int .i64 7))]))))))
theorem wk_wTake : walk E0.cx (sgsN [(55, sg_wzag), (47, sg_Cl8)]) 0 54 sg_wTake = tr_wTake := by kernel_rfl
theorem bo_wTake : ∃ x, bodyOf E0.P 54 = some x := bo_of (by kernel_rfl)
theorem sp_wTake_wzag : specC [con_wzag, con_Cl8] k_wzag = wzag_s := rfl
theorem sp_wTake_Cl8 : specC [con_wzag, con_Cl8] k_Cl8 = Cl8_s := rfl
def wTake_s : Spec := fun ds Q => ∃ l : List Nat, argL ds 0 = u8R l ∧ (∀ c ∈ l, c < 256) ∧ l.length ≤ 90000000 ∧ ∀ d : Dat, d.xs = (if (mth.tk 0 0 l).2.2 = 0 then u8R (l.drop (mth.tk 0 0 l).2.1) else []) → Q [.int .i64 (mth.tk 0 0 l).1, d, errV (mth.tk 0 0 l).2.2]
theorem wTake_h : Holds E0 k_wTake sg_wTake wTake_s := con_fn wf0 mix0 g0 [con_wzag, con_Cl8] rfl wk_wTake rfl (by
  intro Φ hΦ ds Q hs ⟨l, hx, hb, hn, h⟩
  have hl : ds.length = 1 := hs.length.symm
  have sp1 : Φ k_wzag = wzag_s := by rw [hΦ]; rfl
  have sp2 : Φ k_Cl8 = Cl8_s := by rw [hΦ]; rfl
  clear hΦ
  have hH : Has E0.Δ (.list 5) (ds.getD 0 (.bool false)) := all2_get hs (i := 0) rfl
  have hlen : (argL ds 0).length = l.length := by rw [hx, u8R_len]
  simp only [tr_wTake, wp, den_int, den_bool, den_nili, den_ar, den_cmp, den_not, den_len, den_elem, den_isnil, den_errI, den_ifc, den_rep, den_push, den_app, den_emp, den_upd, row0_econs, row0_enil, den_and, den_beq, den_nil, toInt_int, toBool_bool, xs_rows, xs_list, dflt_int, dflt_bool, of_eq, of_ne, of_lt, of_le, of_gt, of_ge, of_add, of_sub, of_rem, List.map_cons, List.map_nil, Dat.bool.injEq, decide_eq_true_eq, decide_eq_false_iff_not, Bool.not_eq_true', Bool.not_eq_false', beq_iff_eq, bne_iff_ne, beq_eq_false_iff_ne, bne_eq_false_iff_eq, ne_eq, List.append_assoc, List.cons_append, List.nil_append, allS, sp1, sp2, wzag_s, Cl8_s, den_conv, den_ite, den_or, den_cutT, ite_dati, toInt_int, argL_c0, argI_c0, Int.toNat_zero, @den_var0 E0.Δ ds, den_varA, den_varB, hl, Nat.reduceLT, Nat.reduceLeDiff, Nat.reduceSub, List.getD_cons_zero, List.getD_cons_succ, argL_fold ds, argI_fold ds, List.append_assoc, List.cons_append, List.nil_append, toInt_int, toBool_bool, xs_rows, xs_list, Int.toNat_natCast, Dat.bool.injEq]
  obtain ⟨M, hM⟩ : ∃ M : Nat, M = min l.length 10 := ⟨_, rfl⟩
  have hMle : M ≤ l.length := by omega
  have hMi : (if (10 : Int) < ((argL ds 0).length : Int) then (10 : Int) else ((argL ds 0).length : Int)) = (M : Int) := by rw [hlen]; split <;> omega
  have hcut : (cutD 0 M (ds.getD 0 (.bool false))).xs = u8R (l.take M) := by
    rw [xs_cutD hH (Nat.zero_le _) (by rw [argL_fold, hlen]; exact hMle), argL_fold, hx, List.drop_zero]
    simp [u8R, List.map_take]
  rw [hMi]
  simp only [Int.toNat_natCast, hcut, u8R_len, List.length_take, Nat.min_eq_left hMle]
  refine ⟨by omega, by omega, fun xs m => ∃ (i X : Nat) (z : Int) (d1 d2 : Dat), xs = [.int .i64 z, d1, d2, .int .u64 (X : Int), .int .i64 (i : Int)] ∧ i ≤ M ∧ X < 128 ^ i ∧ mth.tk i X (l.drop i) = mth.tk 0 0 l ∧ m = M - i, ⟨_, 0, 0, _, _, _, rfl, by omega, by simp, by simp, rfl⟩, ?_⟩
  rintro z d1 hd1 d2 hd2 X' i' m ⟨i, X, _, _, _, e, hiM, hX, htk, hm⟩
  cases e
  refine ⟨fun hlt => ?_, fun hge => ?_⟩
  · have hi2 : i < M := by omega
    have hil : i < l.length := by omega
    have hi10 : i < 10 := by omega
    have hcell : ((u8R (l.take M)).getD i []).getD 0 (.int .u8 0) = .int .u8 (l[i] : Int) := by
      rw [u8R_get (by simp; omega)]; simp
    have hc := hb _ (List.getElem_mem hil)
    have e7 : IntKind.u64.wrap (Ar.mul.of .i64 (i : Int) 7) = ((i * 7 : Nat) : Int) := by
      show IntKind.u64.wrap (IntKind.i64.wrap ((i : Int) * 7)) = _
      rw [wrap64 (by omega) (by omega), IntKind.wrap_u64]; omega
    have hand : Ar.and.of .u8 (l[i] : Int) 128 = if (128 : Int) ≤ (l[i] : Int) then 128 else 0 := u8_and128 _ hc
    have handn : Ar.andNot.of .u8 (l[i] : Int) 128 = ((l[i] % 128 : Nat) : Int) := u8_andNot128 _ hc
    have hshl : ∀ d : Nat, d < 256 → X + 128 ^ i * d < 18446744073709551616 → Ar.or.of .u64 (X : Int) (Ar.shl.of .u64 (IntKind.u64.wrap (d : Int)) ((i * 7 : Nat) : Int)) = ((X + 128 ^ i * d : Nat) : Int) := fun d hd h64 => by
      have e1 : IntKind.u64.wrap (d : Int) = (d : Int) := by rw [IntKind.wrap_u64]; omega
      have e2 : Ar.shl.of .u64 (d : Int) ((i * 7 : Nat) : Int) = IntKind.u64.wrap ((d : Int) * 2 ^ (i * 7)) := by
        show IntKind.u64.wrap ((d : Int) * 2 ^ (min ((i * 7 : Nat) : Int).toNat 64)) = _
        rw [Int.toNat_natCast, Nat.min_eq_left (by omega)]
      rw [e1, e2]
      exact or_part X d i hX h64
    have hdrop : l.drop i = l[i] :: l.drop (i + 1) := List.drop_eq_getElem_cons hil
    rw [hdrop] at htk
    simp only [Int.toNat_natCast, hcell, toInt_int, e7, hand, handn]
    refine ⟨by omega, by omega, fun h9 => ?_, fun h9 => ⟨fun hm128 => ?_, fun hm128 => ⟨fun h0 => ?_, fun h0 => ?_⟩⟩⟩
    · intro A c
      simp only [Bool.and_eq_true, beq_iff_eq, decide_eq_true_eq] at h9
      rw [mth.tk_nine (by omega) (by omega)] at htk
      rw [← htk] at h
      exact h _ rfl
    · have h9' : ¬ (i = 9 ∧ 1 < l[i]) := fun hh => by
        rw [decide_eq_true (show (1 : Int) < (l[i] : Int) by omega)] at h9
        simp at h9; omega
      have h128 : 128 ≤ l[i] := by
        apply Classical.byContradiction; intro hlt2
        rw [if_neg (by omega)] at hm128; exact hm128 rfl
      have hi8 : i ≤ 8 := by omega
      rw [mth.tk_more hi10 h9' h128] at htk
      have hps := mth.pow_step i X (l[i] % 128) hX (Nat.mod_lt _ (by decide))
      have hp9 := mth.pow_le9 (i + 1) (by omega)
      rw [hshl _ (by omega) (by omega)]
      refine ⟨M - (i + 1), by omega, i + 1, _, z, d1, d2, ?_, by omega, hps, htk, rfl⟩
      rw [wrap64 (by omega) (by omega)]; rfl
    · intro A c
      simp only [Bool.and_eq_true, beq_iff_eq, decide_eq_true_eq] at h0
      rw [mth.tk_zero hi10 (by omega) (by omega)] at htk
      rw [← htk] at h
      exact h _ rfl
    · have h9' : ¬ (i = 9 ∧ 1 < l[i]) := fun hh => by
        rw [decide_eq_true (show (1 : Int) < (l[i] : Int) by omega)] at h9
        simp at h9; omega
      have h128 : ¬ 128 ≤ l[i] := fun hh => by
        rw [if_pos (by omega)] at hm128; exact absurd hm128 (by decide)
      have h0' : ¬ (l[i] = 0 ∧ 0 < i) := fun hh => by
        rw [decide_eq_true (show (0 : Int) < (i : Int) by omega)] at h0
        simp at h0; omega
      have h64 := mth.below64 i X l[i] hi10 hX h9' (by omega)
      rw [mth.tk_end hi10 h9' h128 h0'] at htk
      have em : l[i] % 128 = l[i] := Nat.mod_eq_of_lt (by omega)
      rw [em, hshl _ hc h64]
      rw [wrap64 (by omega) (by omega)]
      have hc2 : (cutD ((i : Int) + 1).toNat (argL ds 0).length (ds.getD 0 (.bool false))).xs = u8R (l.drop (i + 1)) := by
        rw [show ((i : Int) + 1).toNat = i + 1 by omega, xs_cutD hH (by rw [hlen]; omega) (by rw [argL_fold]; exact Nat.le_refl _), argL_fold, List.take_of_length_le (Nat.le_refl _), hx]
        simp [u8R, List.map_drop]
      simp only [hc2, u8R_len, List.length_drop]
      refine ⟨by omega, by rw [hlen]; omega, _, h64, rfl, by omega, fun A c => ?_⟩
      rw [← htk] at h
      refine h _ ?_
      rw [if_pos rfl]; rfl
  · intro A c
    have : mth.tk 0 0 l = (0, 0, 7) := by
      rw [← htk]
      by_cases h10 : 10 ≤ i
      · exact mth.tk_ten _ _ _ h10
      · rw [List.drop_of_length_le (by omega)]; rfl
    rw [this] at h
    exact h _ rfl)
noncomputable def con_wTake : Con E0 := ⟨k_wTake, sg_wTake, wTake_s, rfl, bo_wTake, wTake_h⟩
def k_rTake2 : Nat := 34
def sg_rTake2 : Sig := ⟨[(false, [.list 5])], [(false, [.int .i64]), (false, [.int .i64]), (false, [.int .i64])], false, false, true, false, false, [], [], none⟩
def tr_rTake2 : Tree := (.loop [(.int .i64 0), (.int .i64 0), (.int .i64 0), (.int .u64 0), (.int .u64 1), (.int .i64 0)] [(.int .i64), (.int .i64), (.int .i64), (.int .u64), (.int .u64), (.int .i64)]
 (.ite (.and (.cmp .lt (.var 6) (.len (.var 0))) (.cmp .lt (.var 6) (.int .i64 10)))
  (.ob (.or (.not (.cmp .eq (.var 6) (.int .i64 9))) (.cmp .ge (.var 6) (.int .i64 0)))
  (.ite (.and (.cmp .eq (.var 6) (.int .i64 9)) (.cmp .gt (.elem (.var 0) (.var 6) 0 (.int .u8)) (.int .u8 1)))
   (.ret [(.int .i64 0), (.int .i64 0), (.int .i64 2)])
   (.ob (.cmp .ge (.var 6) (.int .i64 0))
   (.ob (.cmp .ge (.var 6) (.int .i64 0))
   (.ite (.cmp .ge (.elem (.var 0) (.var 6) 0 (.int .u8)) (.int .u8 128))
    (.again 0 [(.var 1), (.var 2), (.var 3), (.ar .add .u64 (.var 4) (.ar .mul .u64 (.var 5) (.conv .u64 (.ar .rem .u8 (.elem (.var 0) (.var 6) 0 (.int .u8)) (.int .u8 128))))), (.ar .mul .u64 (.var 5) (.int .u64 128)), (.ar .add .i64 (.var 6) (.int .i64 1))])
    (.ob (.cmp .ge (.var 6) (.int .i64 0))
    (.ite (.and (.cmp .eq (.elem (.var 0) (.var 6) 0 (.int .u8)) (.int .u8 0)) (.cmp .gt (.var 6) (.int .i64 0)))
     (.ret [(.int .i64 0), (.int .i64 0), (.int .i64 2)])
     (.ite (.cmp .eq (.ar .rem .u64 (.ar .add .u64 (.var 4) (.ar .mul .u64 (.var 5) (.conv .u64 (.ar .rem .u8 (.elem (.var 0) (.var 6) 0 (.int .u8)) (.int .u8 128))))) (.int .u64 2)) (.int .u64 0))
      (.ret [(.conv .i64 (.ar .quo .u64 (.ar .add .u64 (.var 4) (.ar .mul .u64 (.var 5) (.conv .u64 (.ar .rem .u8 (.elem (.var 0) (.var 6) 0 (.int .u8)) (.int .u8 128))))) (.int .u64 2))), (.ar .add .i64 (.var 6) (.int .i64 1)), (.int .i64 0)])
      (.ret [(.ar .sub .i64 (.ar .sub .i64 (.int .i64 0) (.conv .i64 (.ar .quo .u64 (.ar .add .u64 (.var 4) (.ar .mul .u64 (.var 5) (.conv .u64 (.ar .rem .u8 (.elem (.var 0) (.var 6) 0 (.int .u8)) (.int .u8 128))))) (.int .u64 2)))) (.int .i64 1)), (.ar .add .i64 (.var 6) (.int .i64 1)), (.int .i64 0)])))))))))
  (.ret [(.int .i64 0), (.int .i64 0), (.int .i64 7)])))
theorem wk_rTake2 : walk E0.cx (sgsN []) 0 34 sg_rTake2 = tr_rTake2 := by kernel_rfl
theorem bo_rTake2 : ∃ x, bodyOf E0.P 34 = some x := bo_of (by kernel_rfl)
def rTake2_s : Spec := fun ds Q => ∃ l : List Nat, argL ds 0 = u8R l ∧ (∀ c ∈ l, c < 256) ∧ l.length ≤ 90000000 ∧ Q [.int .i64 (mth.tk 0 0 l).1, .int .i64 ((mth.tk 0 0 l).2.1 : Nat), .int .i64 (mth.tk 0 0 l).2.2]
theorem rTake2_h : Holds E0 k_rTake2 sg_rTake2 rTake2_s := con_fn wf0 mix0 g0 [] rfl wk_rTake2 rfl (by
  intro Φ hΦ ds Q hs ⟨l, hx, hb, hn, h⟩
  have hl : ds.length = 1 := hs.length.symm
  clear hΦ
  have hlen : (argL ds 0).length = l.length := by rw [hx, u8R_len]
  simp only [tr_rTake2, wp, den_int, den_bool, den_nili, den_ar, den_cmp, den_not, den_len, den_elem, den_isnil, den_errI, den_ifc, den_rep, den_push, den_app, den_emp, den_upd, row0_econs, row0_enil, den_and, den_beq, den_nil, toInt_int, toBool_bool, xs_rows, xs_list, dflt_int, dflt_bool, of_eq, of_ne, of_lt, of_le, of_gt, of_ge, of_add, of_sub, of_rem, List.map_cons, List.map_nil, Dat.bool.injEq, decide_eq_true_eq, decide_eq_false_iff_not, Bool.not_eq_true', Bool.not_eq_false', beq_iff_eq, bne_iff_ne, beq_eq_false_iff_ne, bne_eq_false_iff_eq, ne_eq, List.append_assoc, List.cons_append, List.nil_append, allS, den_conv, den_ite, den_or, @den_var0 E0.Δ ds, den_varA, den_varB, hl, Nat.reduceLT, Nat.reduceLeDiff, Nat.reduceSub, List.getD_cons_zero, List.getD_cons_succ, argL_fold ds, argI_fold ds, List.append_assoc, List.cons_append, List.nil_append, toInt_int, toBool_bool, xs_rows, xs_list, Int.toNat_natCast, Dat.bool.injEq]
  rw [hlen]
  refine ⟨fun xs m => ∃ (i X : Nat) (z1 z2 z3 : Int), xs = [.int .i64 z1, .int .i64 z2, .int .i64 z3, .int .u64 (X : Int), .int .u64 ((128 ^ i : Nat) : Int), .int .i64 (i : Int)] ∧ i ≤ l.length ∧ i ≤ 10 ∧ X < 128 ^ i ∧ mth.tk i X (l.drop i) = mth.tk 0 0 l ∧ m = 10 - i, ⟨_, 0, 0, _, _, _, rfl, by omega, by omega, by simp, by simp, rfl⟩, ?_⟩
  rintro z1 z2 z3 X' w' i' m ⟨i, X, _, _, _, e, hil', hi10', hX, htk, hm⟩
  cases e
  refine ⟨fun hlt => ?_, fun hge => ?_⟩
  · simp only [Bool.and_eq_true, decide_eq_true_eq] at hlt
    have hil : i < l.length := by omega
    have hi10 : i < 10 := by omega
    have hcell : ((argL ds 0).getD i []).getD 0 (.int .u8 0) = .int .u8 (l[i] : Int) := by rw [hx, u8R_get hil]
    have hc := hb _ (List.getElem_mem hil)
    have hdrop : l.drop i = l[i] :: l.drop (i + 1) := List.drop_eq_getElem_cons hil
    rw [hdrop] at htk
    have hacc : X + 128 ^ i * (l[i] % 128) < 18446744073709551616 → IntKind.u64.wrap ((X : Int) + Ar.mul.of .u64 ((128 ^ i : Nat) : Int) (IntKind.u64.wrap (Int.tmod (l[i] : Int) 128))) = ((X + 128 ^ i * (l[i] % 128) : Nat) : Int) := fun h64 => by
      rw [Int.tmod_eq_emod_of_nonneg (by omega)]
      have e1 : IntKind.u64.wrap ((l[i] : Int) % 128) = ((l[i] % 128 : Nat) : Int) := by rw [IntKind.wrap_u64]; omega
      rw [e1]
      show IntKind.u64.wrap ((X : Int) + IntKind.u64.wrap (((128 ^ i : Nat) : Int) * ((l[i] % 128 : Nat) : Int))) = _
      rw [← Int.natCast_mul, IntKind.wrap_u64, IntKind.wrap_u64]
      omega
    simp only [Int.toNat_natCast, hcell, toInt_int]
    refine ⟨by simp, fun h9 => ?_, fun h9 => ⟨by omega, by omega, fun h128 => ?_, fun h128 => ⟨by omega, fun h0 => ?_, fun h0 => ?_⟩⟩⟩
    · simp only [Bool.and_eq_true, beq_iff_eq, decide_eq_true_eq] at h9
      rw [mth.tk_nine (by omega) (by omega)] at htk
      rw [← htk] at h
      exact h
    · have h9' : ¬ (i = 9 ∧ 1 < l[i]) := fun hh => by
        rw [decide_eq_true (show (1 : Int) < (l[i] : Int) by omega)] at h9
        simp at h9; omega
      have hi8 : i ≤ 8 := by omega
      rw [mth.tk_more hi10 h9' (by omega)] at htk
      have hps := mth.pow_step i X (l[i] % 128) hX (Nat.mod_lt _ (by decide))
      have hp9 := mth.pow_le9 (i + 1) (by omega)
      rw [hacc (by omega)]
      refine ⟨10 - (i + 1), by omega, i + 1, _, z1, z2, z3, ?_, by omega, by omega, hps, htk, rfl⟩
      have e1 : Ar.mul.of .u64 ((128 ^ i : Nat) : Int) 128 = ((128 ^ (i + 1) : Nat) : Int) := by
        show IntKind.u64.wrap (((128 ^ i : Nat) : Int) * 128) = _
        have e2 : ((128 ^ i : Nat) : Int) * 128 = ((128 ^ (i + 1) : Nat) : Int) := by rw [Nat.pow_succ]; omega
        rw [e2, IntKind.wrap_u64]; omega
      rw [e1, wrap64 (by omega) (by omega)]; rfl
    · simp only [Bool.and_eq_true, beq_iff_eq, decide_eq_true_eq] at h0
      rw [mth.tk_zero hi10 (by omega) (by omega)] at htk
      rw [← htk] at h
      exact h
    · have h9' : ¬ (i = 9 ∧ 1 < l[i]) := fun hh => by
        rw [decide_eq_true (show (1 : Int) < (l[i] : Int) by omega)] at h9
        simp at h9; omega
      have h0' : ¬ (l[i] = 0 ∧ 0 < i) := fun hh => by
        rw [decide_eq_true (show (0 : Int) < (i : Int) by omega)] at h0
        simp at h0; omega
      have h64 := mth.below64 i X l[i] hi10 hX h9' (by omega)
      have em : l[i] % 128 = l[i] := Nat.mod_eq_of_lt (by omega)
      rw [mth.tk_end hi10 h9' (by omega) h0'] at htk
      rw [em] at hacc
      rw [hacc h64]
      rw [← htk] at h
      generalize X + 128 ^ i * l[i] = Y at *
      have w64 : ∀ y, IntKind.i64.wrap y = RowKit.wrap64 y := fun y => by rw [IntKind.wrap_i64, RowKit.wrap64]
      have eq1 : Ar.quo.of .u64 (Y : Int) 2 = IntKind.u64.wrap ((Y : Int) / 2) := by
        show IntKind.u64.wrap ((Y : Int).tdiv 2) = _
        rw [Int.tdiv_eq_ediv_of_nonneg (by omega)]
      rw [eq1, wrap64 (x := (i : Int) + 1) (by omega) (by omega)]
      refine ⟨fun he => ?_, fun he => ?_⟩
      · rw [Int.tmod_eq_emod_of_nonneg (by omega)] at he
        rw [w64, zag_e Y h64 (by omega)]
        exact h
      · rw [Int.tmod_eq_emod_of_nonneg (by omega)] at he
        rw [w64, w64, w64, Int.zero_sub, zag_o Y h64 (by omega)]
        exact h
  · have hge' : ¬ (i < l.length ∧ i < 10) := fun ⟨a, b⟩ => by
      rw [decide_eq_true (show (i : Int) < (l.length : Int) by omega), decide_eq_true (show (i : Int) < 10 by omega)] at hge
      cases hge
    have : mth.tk 0 0 l = (0, 0, 7) := by
      rw [← htk]
      by_cases h10 : 10 ≤ i
      · exact mth.tk_ten _ _ _ h10
      · rw [List.drop_of_length_le (by omega)]; rfl
    rw [this] at h
    exact h)
noncomputable def con_rTake2 : Con E0 := ⟨k_rTake2, sg_rTake2, rTake2_s, rfl, bo_rTake2, rTake2_h⟩
end Go.Proofs.YtbpbdanggilnpaaDoor
end

section
namespace Go.Proofs.YtbpbdanggilnpaaDoor
open Go.RowKit
set_option linter.unusedVariables false
set_option linter.unusedSimpArgs false

def i64R (l : List Int) : List (List Dat) := l.map fun n => [.int .i64 n]
theorem i64R_app (a b : List Int) : i64R (a ++ b) = i64R a ++ i64R b := List.map_append
theorem i64R_len (a : List Int) : (i64R a).length = a.length := List.length_map _
def bytes (l : List Nat) : Prop := ∀ c ∈ l, c < 256
theorem bytes_drop {l : List Nat} (h : bytes l) (k : Nat) : bytes (l.drop k) := fun c hc => h c (List.mem_of_mem_drop hc)
/-- a number that was taken -/
theorem tk_0 {l : List Nat} (hb : bytes l) (h : (mth.tk 0 0 l).2.2 = 0) : 0 < (mth.tk 0 0 l).2.1 ∧ (mth.tk 0 0 l).2.1 ≤ l.length ∧ -9223372036854775808 ≤ (mth.tk 0 0 l).1 ∧ (mth.tk 0 0 l).1 ≤ 9223372036854775807 := by
  obtain ⟨v, k, e⟩ : ∃ v k, mth.tk 0 0 l = (v, k, 0) := ⟨_, _, by rw [← h]⟩
  have := mth.tk_canon l v k hb e
  rw [e]; exact this.2
theorem tk_n {l : List Nat} (h : (mth.tk 0 0 l).2.2 ≠ 0) : (mth.tk 0 0 l).1 = 0 ∧ (mth.tk 0 0 l).2.1 = 0 := by
  have := mth.tk_bad l _ _ _ 0 0 rfl h
  exact ⟨this.1, this.2.1⟩
theorem pre_step' {o : List Int} {m : Nat} {b : List Nat} (h : (mth.tk 0 0 b).2.2 = 0) : mth.pre o (mth.tkN (m + 1) b) = mth.pre (o ++ [(mth.tk 0 0 b).1]) (mth.tkN m (b.drop (mth.tk 0 0 b).2.1)) :=
  mth.pre_step (by rw [← h])
theorem pre_bad' {o : List Int} {m : Nat} {b : List Nat} (h : (mth.tk 0 0 b).2.2 ≠ 0) : mth.pre o (mth.tkN (m + 1) b) = ([], [], (mth.tk 0 0 b).2.2) := mth.pre_bad rfl h
def k_wTakeL : Nat := 50
def sg_wTakeL : Sig := ⟨[(false, [.list 5]), (false, [.int .i64])], [(false, [.list 3]), (false, [.list 5]), (false, [.err])], false, false, true, false, false, [], [], none⟩
def tr_wTakeL : Tree := (.call k_wTake [(.var 0)] [(.int .i64), (.list 5), .err]
(.ite (.not (.isnil (.var 4)))
 (.share 3 .emp
 (.share 5 .emp
 (.ret [(.var 5), (.var 6), (.var 4)])))
 (.ite (.cmp .lt (.var 2) (.int .i64 0))
  (.share 3 .emp
  (.share 5 .emp
  (.ret [(.var 5), (.var 6), (.ifc (.int .i64 1))])))
  (.ite (.cmp .gt (.var 2) (.var 1))
   (.share 3 .emp
   (.share 5 .emp
   (.ret [(.var 5), (.var 6), (.ifc (.int .i64 19))])))
   (.loop [.emp, .emp, .nili, (.var 3), .emp, (.int .i64 0)] [(.rows 3), (.rows 5), .err, (.list 5), (.rows 3), (.int .i64)]
    (.ite (.cmp .lt (.var 10) (.var 2))
     (.call k_wTake [(.var 8)] [(.int .i64), (.list 5), .err]
     (.ite (.not (.isnil (.var 13)))
      (.share 3 .emp
      (.share 5 .emp
      (.ret [(.var 14), (.var 15), (.var 13)])))
      (.ob (.cmp .le (.len (.push (.var 9) (.econs (.var 11) .enil))) (.int .i64 17592186044416))
      (.again 0 [(.var 5), (.var 6), (.var 7), (.var 12), (.push (.var 9) (.econs (.var 11) .enil)), (.ar .add .i64 (.var 10) (.int .i64 1))]))))
     (.share 3 (.var 9)
     (.ret [(.var 11), (.var 8), .nili]))))))))
theorem wk_wTakeL : walk E0.cx (sgsN [(54, sg_wTake)]) 0 50 sg_wTakeL = tr_wTakeL := by kernel_rfl
theorem bo_wTakeL : ∃ x, bodyOf E0.P 50 = some x := bo_of (by kernel_rfl)
theorem sp_wTakeL_wTake : specC [con_wTake] k_wTake = wTake_s := rfl
def wTakeL_s : Spec := fun ds Q => ∃ l : List Nat, argL ds 0 = u8R l ∧ bytes l ∧ l.length ≤ 90000000 ∧ ∀ d1 d2 : Dat, d1.xs = i64R (mth.tkL l (argI ds 1)).1 → d2.xs = u8R (mth.tkL l (argI ds 1)).2.1 → Q [d1, d2, errV (mth.tkL l (argI ds 1)).2.2]
theorem wTakeL_h : Holds E0 k_wTakeL sg_wTakeL wTakeL_s := con_fn wf0 mix0 g0 [con_wTake] rfl wk_wTakeL rfl (by
  intro Φ hΦ ds Q hs ⟨l, hx, hb, hn, h⟩
  have hl : ds.length = 2 := hs.length.symm
  have sp : Φ k_wTake = wTake_s := by rw [hΦ]; rfl
  clear hΦ
  simp only [tr_wTakeL, wp, den_int, den_bool, den_nili, den_ar, den_cmp, den_not, den_len, den_elem, den_isnil, den_errI, den_ifc, den_rep, den_push, den_app, den_emp, den_upd, row0_econs, row0_enil, den_and, den_beq, den_nil, toInt_int, toBool_bool, xs_rows, xs_list, dflt_int, dflt_bool, of_eq, of_ne, of_lt, of_le, of_gt, of_ge, of_add, of_sub, of_rem, List.map_cons, List.map_nil, Dat.bool.injEq, decide_eq_true_eq, decide_eq_false_iff_not, Bool.not_eq_true', Bool.not_eq_false', beq_iff_eq, bne_iff_ne, beq_eq_false_iff_ne, bne_eq_false_iff_eq, ne_eq, List.append_assoc, List.cons_append, List.nil_append, allS, sp, wTake_s, argL_c0, argI_c0, @den_var0 E0.Δ ds, den_varA, den_varB, hl, Nat.reduceLT, Nat.reduceLeDiff, Nat.reduceSub, List.getD_cons_zero, List.getD_cons_succ, argL_fold ds, argI_fold ds, List.append_assoc, List.cons_append, List.nil_append, toInt_int, toBool_bool, xs_rows, xs_list, Int.toNat_natCast, Dat.bool.injEq]
  refine ⟨l, hx, hb, hn, fun d hd => ?_⟩
  rw [errV_nil]
  refine ⟨fun h0 => ?_, fun h0 => ?_⟩
  · have h0 : (mth.tk 0 0 l).2.2 ≠ 0 := by simpa using h0
    have e : mth.tkL l (argI ds 1) = ([], [], (mth.tk 0 0 l).2.2) := by rw [mth.tkL, if_neg h0]
    rw [e] at h
    exact fun A c B c' => h _ _ rfl rfl
  have h0 : (mth.tk 0 0 l).2.2 = 0 := by simpa using h0
  rw [if_pos h0] at hd
  have hk := tk_0 hb h0
  have e : mth.tkL l (argI ds 1) = (if (mth.tk 0 0 l).1 < 0 then ([], [], 1) else if argI ds 1 < (mth.tk 0 0 l).1 then ([], [], 19) else mth.tkN (mth.tk 0 0 l).1.toNat (l.drop (mth.tk 0 0 l).2.1)) := by rw [mth.tkL, if_pos h0]
  rw [e] at h
  generalize (mth.tk 0 0 l).1 = N at *
  generalize hK : (mth.tk 0 0 l).2.1 = K at *
  clear e
  refine ⟨fun hneg A c B c' => ?_, fun hpos => ⟨fun hmany A c B c' => ?_, fun hmany => ?_⟩⟩
  · rw [if_pos hneg] at h
    exact h _ _ rfl rfl
  · rw [if_neg hpos, if_pos hmany] at h
    exact h _ _ rfl rfl
  rw [if_neg hpos, if_neg hmany] at h
  refine ⟨fun xs m => ∃ (d1 d2 d3 d : Dat) (r : List Nat) (acc : List Int), xs = [d1, d2, d3, d, .rows (i64R acc), .int .i64 acc.length] ∧ d.xs = u8R r ∧ bytes r ∧ acc.length + r.length ≤ l.length ∧ acc.length ≤ N.toNat ∧ mth.tkN N.toNat (l.drop K) = mth.pre acc (mth.tkN (N.toNat - acc.length) r) ∧ m = N.toNat - acc.length, ⟨_, _, _, _, _, l.drop K, [], rfl, hd, bytes_drop hb _, by simp, by simp, by simpa using mth.pre_start _ _, rfl⟩, ?_⟩
  rintro d1 hd1 d2 hd2 d3 hd3 d4 hd4 d5 hd5 n m ⟨_, _, _, _, r, acc, e, hr, hbr, hlen, hacc, hpre, hm⟩
  obtain ⟨rfl, rfl, rfl, rfl, rfl, rfl⟩ : d1 = _ ∧ d2 = _ ∧ d3 = _ ∧ d4 = _ ∧ d5 = _ ∧ n = _ := by simpa using e
  refine ⟨fun hlt => ⟨r, hr, hbr, by omega, fun d6 hd6 => ?_⟩, fun hge => ?_⟩
  · have hs : N.toNat - acc.length = (N.toNat - (acc.length + 1)) + 1 := by omega
    rw [hs] at hpre
    rw [errV_nil]
    refine ⟨fun h1 => ?_, fun h1 => ⟨?_, ?_⟩⟩
    · have h1 : (mth.tk 0 0 r).2.2 ≠ 0 := by simpa using h1
      rw [pre_bad' h1] at hpre
      rw [hpre] at h
      exact fun A c B c' => h _ _ rfl rfl
    · simp only [xs_rows, List.length_append, i64R_len, List.length_cons, List.length_nil]; omega
    · have h1 : (mth.tk 0 0 r).2.2 = 0 := by simpa using h1
      rw [if_pos h1] at hd6
      have hk1 := tk_0 hbr h1
      rw [pre_step' h1] at hpre
      refine ⟨_, (by omega : N.toNat - (acc.length + 1) < _), d1, d2, d3, d6, r.drop (mth.tk 0 0 r).2.1, acc ++ [(mth.tk 0 0 r).1], ?_, hd6, bytes_drop hbr _, ?_, ?_, ?_, ?_⟩
      · rw [wrap64 (by omega) (by omega), xs_rows, i64R_app, List.length_append]; rfl
      · simp only [List.length_append, List.length_drop, List.length_cons, List.length_nil]; omega
      · simp only [List.length_append, List.length_cons, List.length_nil]; omega
      · simp only [List.length_append, List.length_cons, List.length_nil]; exact hpre
      · simp only [List.length_append, List.length_cons, List.length_nil]
  · have h0 : N.toNat - acc.length = 0 := by omega
    rw [h0, mth.pre_end] at hpre
    rw [hpre] at h
    exact fun A c => h _ _ (by rw [xs_list, xs_rows]) hr)
noncomputable def con_wTakeL : Con E0 := ⟨k_wTakeL, sg_wTakeL, wTakeL_s, rfl, bo_wTakeL, wTakeL_h⟩
theorem cut_u8 {r : Nat} {d : Dat} (hd : Has E0.Δ (.list r) d) {l : List Nat} (hx : d.xs = u8R l) {k : Nat} (hk : k ≤ l.length) : (cutD k l.length d).xs = u8R (l.drop k) := by
  rw [xs_cutD hd hk (by rw [hx, u8R_len]; exact Nat.le_refl _), hx, List.take_of_length_le (by rw [u8R_len]; exact Nat.le_refl _)]
  exact List.map_drop.symm
-- lacks mulligan/mulliganref02.TakeList : rTakeL
def rTakeL_s : Spec := fun ds Q => ∃ l : List Nat, argL ds 0 = u8R l ∧ bytes l ∧ l.length ≤ 90000000 ∧ ∀ (d1 : Dat) (k : Nat), d1.xs = i64R (mth.tkL l (argI ds 1)).1 → ((mth.tkL l (argI ds 1)).2.2 = 0 → k ≤ l.length ∧ (mth.tkL l (argI ds 1)).2.1 = l.drop k) → Q [d1, .int .i64 k, .int .i64 (mth.tkL l (argI ds 1)).2.2]
def rNums_s : Spec := fun ds Q => ∃ (l : List Nat) (many : Nat), argL ds 0 = u8R l ∧ bytes l ∧ l.length ≤ 90000000 ∧ argI ds 1 = many ∧ ∀ (d1 : Dat) (k : Nat), d1.xs = i64R (mth.tkN many l).1 → ((mth.tkN many l).2.2 = 0 → k ≤ l.length ∧ (mth.tkN many l).2.1 = l.drop k) → Q [d1, .int .i64 k, .int .i64 (mth.tkN many l).2.2]
end Go.Proofs.YtbpbdanggilnpaaDoor
end

section
namespace Go.Proofs.YtbpbdanggilnpaaDoor
open Go.RowKit
set_option linter.unusedVariables false
set_option linter.unusedSimpArgs false
def k_must : Nat := 33
def sg_must : Sig := ⟨[], [], false, false, false, false, false, [(false, [.v (.err)])], [], some 77⟩
noncomputable def tr_must : Tree := walk E0.cx (sgsN []) 0 33 sg_must
theorem wk_must : walk E0.cx (sgsN []) 0 33 sg_must = tr_must := rfl
theorem bo_must : ∃ x, bodyOf E0.P 33 = some x := bo_of (by kernel_rfl)
def must_s : Spec := fun ds Q => (isNilI (ds.getD 0 (.bool false)) = true → Q [.bool true]) ∧ (isNilI (ds.getD 0 (.bool false)) = false → Q [.bool false, ds.getD 0 (.bool false)])
theorem must_nil (w : World) : Calls Tryd.prog 33 #[.nilIface] w fun e w' => e = .returned (.tuple #[]) ∧ w' = w := by
  go_enter Tryd.func33, Tryd.ntmps33
  go_wp2
  exact ⟨rfl, .tuple #[], results_none (fn := Tryd.f33) rfl _ _ _, rfl, rfl⟩
theorem must_err (t : TypeId) (v : Value) (w : World) : Calls Tryd.prog 33 #[.iface t v] w fun e w' => e = .panicked [{ v := .iface 77 (.agg #[.iface t v]), recovered := false }] ∧ w' = w := by
  go_enter Tryd.func33, Tryd.ntmps33
  go_wp2
  exact ⟨rfl, rfl, rfl⟩
theorem Mem.zero {w0 w : World} {b b' : Fact} {f : Fact} (h : Mem none w0 w [b, f]) (hb : b'.holds w0.heap.size w) (hbw : b'.wr = false) (hat : ∀ k, b'.at k → b.at k) : Mem none w0 w [b', f] := by
  obtain ⟨h1, h2⟩ := List.pairwise_cons.1 h.apart
  refine ⟨h.grown, fun g hg => ?_, fun g hg hw k hk => ?_, List.pairwise_cons.2 ⟨fun g hg hw k k1 k2 => ?_, h2⟩⟩
  · rcases List.mem_cons.1 hg with rfl | hg
    · exact hb
    · exact h.holds g (List.mem_cons_of_mem _ hg)
  · rcases List.mem_cons.1 hg with rfl | hg
    · rw [hbw] at hw; cases hw
    · exact h.own g (List.mem_cons_of_mem _ hg) hw k hk
  · rw [hbw, Bool.false_or] at hw
    exact h1 g hg (by rw [hw, Bool.or_true]) k (hat k k1) k2
theorem must_h : HoldsP E0 k_must sg_must must_s := fun F op oq w0 w da db bs rows owns Q hs hB hM hΦ => by
  cases hB
  rcases hs with _ | ⟨h0, h1⟩
  rcases h1 with _ | _
  rename_i d
  have hM2 : Mem none w0 w (baseF { E0 with fr := F } E0.γ :: [.ogen op oq]) := by
    refine Mem.zero hM ⟨⟨fun d hd => (by cases hd), (hM.holds _ List.mem_cons_self).1.2⟩, baseFirm _ _⟩ rfl fun k hk => ?_
    rcases hk with ⟨d, hd, _⟩ | hk
    · cases hd
    · exact .inr hk
  have hcase : (d = .val .nilIface) ∨ ∃ n, d = .val (.iface 49 (.int .i64 n)) := by
    cases h0 with
    | nili => exact .inl rfl
    | ifc n => exact .inr ⟨n, rfl⟩
  rcases hcase with rfl | ⟨n, rfl⟩
  · refine (must_nil w).mono fun e w' ⟨he, hw⟩ => ?_
    subst hw
    exact .inl ⟨[], [], [], [], hΦ.1 rfl, .nil, .nil, hM2, (fun k ⟨d, hd, _⟩ => by cases hd), he⟩
  · refine (must_err _ _ w).mono fun e w' ⟨he, hw⟩ => ?_
    subst hw
    exact .inr ⟨_, _, rfl, hΦ.2 rfl, h0, hM2, he⟩
noncomputable def con_must : ConP E0 := ⟨k_must, sg_must, must_s, rfl, bo_must, must_h⟩
end Go.Proofs.YtbpbdanggilnpaaDoor
end

section
namespace Go.Proofs.YtbpbdanggilnpaaDoor
open Go.RowKit
set_option linter.unusedVariables false
set_option linter.unusedSimpArgs false

/-- the numbers of rows of one cell -/
def nums (l : List (List Dat)) : List Int := l.map fun r => rowI r 0
theorem nums_len (l : List (List Dat)) : (nums l).length = l.length := List.length_map _
theorem nums_get {l : List (List Dat)} {i : Nat} (h : i < l.length) : (nums l)[i]? = some (rowI (l.getD i []) 0) := by
  rw [nums, List.getElem?_map, List.getD_eq_getElem?_getD, List.getElem?_eq_getElem h]; rfl
/-- the same numbers -/
def Ints_s : Spec := fun ds Q => (argL ds 0).length ≤ 1000000 ∧ Q [.bool (decide (nums (argL ds 0) = nums (argL ds 1)))]
def k_Ints : Nat := 21
def sg_Ints : Sig := ⟨[(false, [.list 3]), (false, [.list 3])], [(false, [.bool])], false, false, false, false, false, [], [], none⟩
def tr_Ints : Tree := (.ite (.cmp .ne (.len (.var 0)) (.len (.var 1)))
 (.ret [(.bool false)])
 (.loop [(.bool false), (.int .i64 0)] [.bool, (.int .i64)]
  (.ite (.cmp .lt (.var 3) (.len (.var 0)))
   (.ob (.cmp .ge (.var 3) (.int .i64 0))
   (.ob (.cmp .ge (.var 3) (.int .i64 0))
   (.ob (.cmp .lt (.var 3) (.len (.var 1)))
   (.ite (.cmp .ne (.elem (.var 0) (.var 3) 0 (.int .i64)) (.elem (.var 1) (.var 3) 0 (.int .i64)))
    (.ret [(.bool false)])
    (.again 0 [(.var 2), (.ar .add .i64 (.var 3) (.int .i64 1))])))))
   (.ret [(.bool true)]))))
theorem wk_Ints : walk E0.cx (sgsN []) 0 21 sg_Ints = tr_Ints := by kernel_rfl
theorem bo_Ints : ∃ x, bodyOf E0.P 21 = some x := bo_of (by kernel_rfl)
theorem Ints_h : Holds E0 k_Ints sg_Ints Ints_s := con_fn wf0 mix0 g0 [] rfl wk_Ints rfl (by
  intro Φ hΦ ds Q hs ⟨hlen, h⟩
  have hl : ds.length = 2 := hs.length.symm
  clear hΦ
  simp only [tr_Ints, wp, den_int, den_bool, den_nili, den_ar, den_cmp, den_not, den_len, den_elem, den_isnil, den_errI, den_ifc, den_rep, den_push, den_app, den_emp, den_upd, row0_econs, row0_enil, den_and, den_beq, den_nil, toInt_int, toBool_bool, xs_rows, xs_list, dflt_int, dflt_bool, of_eq, of_ne, of_lt, of_le, of_gt, of_ge, of_add, of_sub, of_rem, List.map_cons, List.map_nil, Dat.bool.injEq, decide_eq_true_eq, decide_eq_false_iff_not, Bool.not_eq_true', Bool.not_eq_false', beq_iff_eq, bne_iff_ne, beq_eq_false_iff_ne, bne_eq_false_iff_eq, ne_eq, List.append_assoc, List.cons_append, List.nil_append, allS, @den_var0 E0.Δ ds, den_varA, den_varB, hl, Nat.reduceLT, Nat.reduceLeDiff, Nat.reduceSub, List.getD_cons_zero, List.getD_cons_succ, argL_fold ds, argI_fold ds, List.append_assoc, List.cons_append, List.nil_append, toInt_int, toBool_bool, xs_rows, xs_list, Int.toNat_natCast, Dat.bool.injEq]
  have fin : ∀ b : Bool, (b = true ↔ nums (argL ds 0) = nums (argL ds 1)) → Q [.bool b] := fun b hb => by
    rw [show b = decide (nums (argL ds 0) = nums (argL ds 1)) by rw [Bool.eq_iff_iff, hb, decide_eq_true_eq]]
    exact h
  refine ⟨fun hne => fin _ ⟨fun hx => Bool.noConfusion hx, fun he => ?_⟩, fun hne => ?_⟩
  · have := congrArg List.length he
    rw [nums_len, nums_len] at this
    omega
  have hll : (argL ds 0).length = (argL ds 1).length := by omega
  refine ⟨fun xs m => ∃ (i : Nat) (b : Bool), i ≤ (argL ds 0).length ∧ m = (argL ds 0).length - i ∧ xs = [.bool b, .int .i64 i] ∧ ∀ k < i, (nums (argL ds 0))[k]? = (nums (argL ds 1))[k]?, ⟨_, 0, _, by omega, rfl, rfl, by omega⟩, ?_⟩
  rintro b i' m ⟨i, _, hi, hmi, e, hall⟩
  cases e
  refine ⟨fun hlt => ⟨by omega, by omega, by omega, fun h9 => fin _ ⟨fun hx => Bool.noConfusion hx, fun he => ?_⟩, fun h9 => ?_⟩, fun hge => fin _ ⟨fun _ => ?_, fun _ => rfl⟩⟩
  · have hi2 : i < (argL ds 0).length := by omega
    have h1 := nums_get hi2
    have h2 := nums_get (l := argL ds 1) (i := i) (by omega)
    rw [he, h2] at h1
    exact absurd (Option.some.inj h1).symm h9
  · have hi2 : i < (argL ds 0).length := by omega
    refine ⟨(argL ds 0).length - (i + 1), by omega, i + 1, b, by omega, by omega, ?_, fun k hk => ?_⟩
    · rw [wrap64 (by omega) (by omega)]; rfl
    · rcases Nat.lt_succ_iff_lt_or_eq.1 hk with hk | rfl
      · exact hall k hk
      · rw [nums_get hi2, nums_get (l := argL ds 1) (by omega)]
        exact congrArg some h9
  · refine List.ext_getElem? fun k => ?_
    by_cases hk : k < i
    · exact hall k hk
    · rw [List.getElem?_eq_none (by rw [nums_len]; omega), List.getElem?_eq_none (by rw [nums_len]; omega)])
noncomputable def con_Ints : Con E0 := ⟨k_Ints, sg_Ints, Ints_s, rfl, bo_Ints, Ints_h⟩
end Go.Proofs.YtbpbdanggilnpaaDoor
end

section
namespace Go.Proofs.YtbpbdanggilnpaaDoor
open Go.RowKit Go.Maps
set_option linter.unusedVariables false
set_option linter.unusedSimpArgs false

namespace dk
abbrev TM : TypeId := 87
abbrev TI : TypeId := 3
theorem keyI : Keyed Tryd.prog TI := int_keyed Tryd.underlying3
theorem zeroI (w : World) : (zeroValue TI).run Tryd.prog w = .ok (.int .i64 0) w := by kernel_rfl
theorem at_cell9 {w wr : World} {A : Option Addr} {n k : Nat} {xs : List Value} {u : Value} (h : At w A n xs) (hk : k < n) (hu : xs[k]? = some u) (hb : Below w.heap.size w wr) :
    ∃ ad, A = some ad ∧ wr.cell? (ad.add k) = some u ∧ ∀ x : Later wr, (later wr x).cell? (ad.add k) = some u := by
  obtain ⟨ad, e, hlt, hc⟩ := h (by omega)
  have h1 : wr.cell? (ad.add k) = some u := by
    rw [hb.cell (p := ad.add k) (by rw [block_add]; exact hlt)]
    exact hc k _ hu
  refine ⟨ad, e, h1, fun x => ?_⟩
  rw [later_cell' (p := ad.add k) (by rw [block_add]; exact Nat.lt_of_lt_of_le hlt hb.size)]
  exact h1
theorem at_int9 {w wr : World} {A : Option Addr} {n k : Nat} {l : List Int} (h : At w A n (i64s l)) (hl : l.length = n) (hk : k < n) (hb : Below w.heap.size w wr) :
    ∃ ad, A = some ad ∧ wr.cell? (ad.add k) = some (.int .i64 (l[k]'(by omega))) ∧ ∀ x : Later wr, (later wr x).cell? (ad.add k) = some (.int .i64 (l[k]'(by omega))) :=
  at_cell9 h hk (by simp only [i64s, List.getElem?_map]; rw [List.getElem?_eq_getElem (by omega)]; rfl) hb
abbrev num64 (n : Int) : DataW Unit := .lit (.int .i64 n)
/-- the map reads as the counts of a list -/
structure Cnt (l : List Int) (D : DataW Unit) : Prop where
  atk : ∀ x : Int, D.atKey (.int .i64 x) (num64 0) = num64 (l.count x)
  hask : ∀ x : Int, Maps.has D (.int .i64 x) = decide (x ∈ l)
theorem Cnt.nil : Cnt [] (.map []) := ⟨fun x => rfl, fun x => rfl⟩
theorem Cnt.step {l : List Int} {D : DataW Unit} (h : Cnt l D) (hm : IsMap D) (x : Int) {c : Int} (hc : c = l.count x + 1) : Cnt (l ++ [x]) (D.put (.int .i64 x) (num64 c)) := by
  refine ⟨fun y => ?_, fun y => ?_⟩
  · by_cases e : y = x
    · subst e
      rw [atKey_put_same (k := .int .i64 y) hm trivial, hc, List.count_append, List.count_cons_self, List.count_nil]
      congr 2
    · rw [atKey_put_other (by intro hx; cases hx; exact e rfl), h.atk y, List.count_append, List.count_cons_of_ne (Ne.symm e), List.count_nil]
      rfl
  · by_cases e : y = x
    · subst e
      rw [has_put_same (k := .int .i64 y) hm trivial]
      simp
    · rw [has_put_other (by intro hx; cases hx; exact e rfl), h.hask y]
      simp [e]
def errA (n : Int) : Value := if n = 0 then .nilIface else .iface 49 (.int .i64 n)
def deckN (l : List Int) : Int := if 100 < l.length then 19 else if ∃ x ∈ l, x < 0 ∨ 112 ≤ x then 4 else if ∃ x ∈ l, 5 ≤ x ∧ 4 < l.count x then 8 else 0
theorem deck_long (A : Option Addr) (n c : Nat) (w : World) (h : 100 < n) : Calls Tryd.prog 28 #[.slice A n c] w fun e w' => e = .returned (.iface 49 (.int .i64 19)) ∧ w = w' := by
  go_enter Tryd.func28, Tryd.ntmps28
  go_wp2
  go_ret
  exact ⟨rfl, rfl⟩
set_option maxRecDepth 100000 in
theorem deck_any (A : Option Addr) (n c : Nat) (l : List Int) (w : World) (ha : At w A n (i64s l)) (hla : l.length = n) (hc : n ≤ c) (hn : n ≤ 100) (hwf : ∀ x ∈ l, (Lit.int .i64 x).wf = true) :
    Calls Tryd.prog 28 #[.slice A n c] w fun e w' => e = .returned (errA (deckN l)) ∧ Below w.heap.size w w' := by
  have hmm := @run_makeMap Tryd.prog
  have HA := Lib.hid ha
  have HLA := Lib.hid hla
  have HWF := Lib.hid hwf
  clear ha hla hwf
  go_enter Tryd.func28, Tryd.ntmps28
  go_wp2
  go_loopw [15] (fun iv wr => ∃ (k : Nat) (D : DataW Unit), k ≤ n ∧ iv = .int .i64 k ∧ (∀ x ∈ l.take k, 0 ≤ x ∧ x < 112) ∧ Cnt (l.take k) D ∧ wr.ownsMap Tryd.prog TI (plainElem Tryd.prog TI) w.heap.size k D ∧ Below w.heap.size w wr) (fun iv _ => n - (intOf iv).toNat)
  case atStart => exact ⟨0, .map [], by omega, rfl, fun x hx => by simp at hx, by rw [List.take_zero]; exact Cnt.nil, World.ownsMap_made _ _ _ _, (Below.refl _ _).alloc (Nat.le_refl _) _⟩
  case round =>
    obtain ⟨k, D, hk, rfl, hall, hcnt, hown, hbr⟩ := hrel
    have HALL := Lib.hid hall
    have HCNT := Lib.hid hcnt
    have HOWN := Lib.hid hown
    have HBR := Lib.hid hbr
    clear hall hcnt hown hbr
    by_cases hlt : k < n
    · obtain ⟨ad, rfl, hcell, _⟩ := at_int9 HA.out HLA.out hlt HBR.out
      have hk1 : k < l.length := by have := HLA.out; omega
      have HWX := Lib.hid (HWF.out _ (List.getElem_mem hk1))
      have HX := Lib.hid (rfl : l[k] = l[k])
      have HTK : Hid (l.take (k + 1) = l.take k ++ [l[k]]) := Lib.hid (List.take_succ_eq_append_getElem hk1)
      have HM : Hid (l[k] ∈ l) := Lib.hid (List.getElem_mem hk1)
      generalize l[k] = x at *
      by_cases hx : x < 0 ∨ 112 ≤ x
      · have hd : deckN l = 4 := by
          unfold deckN
          rw [if_neg (by have := HLA.out; omega), if_pos ⟨x, HM.out, hx⟩]
        have HD := Lib.hid hd
        clear hd
        rcases hx with hx | hx
        · go_wp2
          go_ret
          refine ⟨?_, HBR.out⟩
          rw [HD.out]; rfl
        · have hx0 : ¬ x < 0 := by omega
          go_wp2
          go_ret
          refine ⟨?_, HBR.out⟩
          rw [HD.out]; rfl
      · have hx0 : ¬ x < 0 := by omega
        have hx1 : ¬ 112 ≤ x := by omega
        have HK := Lib.hid (keyOf_int_mk (P := Tryd.prog) Tryd.underlying3 HWX.out)
        go_wp2_with (first
          | (at_lookup; refine wpList_lookup_own_int _ rfl _ _ TM rfl TI TI .i64 keyI Tryd.underlying87 Tryd.underlying3 (zeroI _) w.heap.size k D rfl HOWN.out _ _ rfl HK.out ?_; intro c0 hat hwc)
          | (at_mapUpdate; refine wpList_mapUpdate_own _ rfl _ _ _ TM rfl TI TI keyI Tryd.underlying87 _ w.heap.size k _ rfl HOWN.out (by unfold maxLen; omega) _ _ _ rfl rfl HK.out _ [] (plainElem_int Tryd.underlying3 (wrap64_wf _)) ?_; intro w1 hown1 hgrow1)
          | fail)
        have hcx : num64 ((l.take k).count x) = num64 c0 := (HCNT.out.atk x).symm.trans hat
        have hcx : (((l.take k).count x : Nat) : Int) = c0 := by
          have := DataW.lit.inj hcx
          cases this; rfl
        have hle : (l.take k).count x ≤ k := Nat.le_trans List.count_le_length (by rw [List.length_take]; omega)
        have hwr : Go.RowKit.wrap64 (c0 + 1) = (l.take k).count x + 1 := by
          rw [show Go.RowKit.wrap64 (c0 + 1) = IntKind.i64.wrap (c0 + 1) by rw [IntKind.wrap_i64, Go.RowKit.wrap64], IntWalk.i64_in _ (by omega)]
          omega
        rw [hwr] at hown1
        refine ⟨⟨k + 1, _, by omega, by go_num, fun y hy => ?_, ?_, hown1, HBR.out.grown hgrow1 HBR.out.size (fun j hj => by cases hj; exact Nat.le_refl _)⟩, by simp [intOf]; omega⟩
        · rw [HTK.out] at hy
          rcases List.mem_append.1 hy with hy | hy
          · exact HALL.out y hy
          · rw [List.mem_singleton.1 hy]; omega
        · rw [HTK.out]
          exact HCNT.out.step HOWN.out.isMap x rfl
    · have hkn : k = n := by omega
      have hfull : l.take k = l := List.take_of_length_le (by have := HLA.out; omega)
      have HFULL := Lib.hid hfull
      clear hfull
      have HALL2 : Hid (∀ y ∈ l, 0 ≤ y ∧ y < 112) := Lib.hid (by have := HALL.out; rw [HFULL.out] at this; exact this)
      have HCNT2 : Hid (Cnt l D) := Lib.hid (by have := HCNT.out; rw [HFULL.out] at this; exact this)
      go_wp2_with (first
        | (at_range; refine wpList_range_own _ rfl _ TM rfl TI TI keyI Tryd.underlying87 _ w.heap.size k D rfl HOWN.out ?_; intro w0 hrg0 hg0 hs0)
        | fail)
      go_frame
      go_loopw [33] (fun _ wr2 => ∃ (left : Lit → Bool) (cnt : Nat), wr2.ranges Tryd.prog TI (plainElem Tryd.prog TI) w.heap.size wr.heap.size k D left cnt ∧ (∀ y ∈ l, left (.int .i64 y) = false → ¬ (5 ≤ y ∧ 4 < l.count y)) ∧ Below w.heap.size w wr2) (fun _ wr2 => wr2.rangeLeft w.heap.size wr.heap.size)
      case atStart =>
        refine ⟨_, _, hrg0, fun y hy hf => ?_, HBR.out.grown hg0 HBR.out.size (fun j hj => by cases hj)⟩
        rw [HCNT2.out.hask y, decide_eq_true hy] at hf
        cases hf
      case round =>
        obtain ⟨left, cnt, hrg, hleft, hb2⟩ := hrel
        have HLEFT := Lib.hid hleft
        have HB2 := Lib.hid hb2
        clear hleft hb2
        go_wp2_with (first
          | (at_next; refine wpList_next_ranges_ii _ rfl _ rfl TI TI .i64 .i64 keyI Tryd.underlying3 Tryd.underlying3 w.heap.size _ k _ _ _ rfl hrg ?_ ?_)
          | fail)
        · intro _ hl0
          have hd : deckN l = 0 := by
            unfold deckN
            rw [if_neg (by have := HLA.out; omega), if_neg (fun ⟨y, hy, h⟩ => by have := HALL2.out y hy; omega), if_neg (fun ⟨y, hy, h⟩ => HLEFT.out y hy (hl0 _) h)]
          have HD := Lib.hid hd
          clear hd
          go_wp2
          go_ret
          refine ⟨?_, HB2.out⟩
          rw [HD.out]; rfl
        · intro y cy w1 cnt1 hwx hwc hlx hat hrg1 hlt1 hg1 hs1 hen
          have hcy : cy = l.count y := by
            have h1 := HCNT2.out.atk y
            rw [hat] at h1
            have := DataW.lit.inj h1
            cases this; rfl
          have HCY := Lib.hid hcy
          have HAT := Lib.hid hat
          have HRG1 := Lib.hid hrg1
          have HRG := Lib.hid hrg
          have HB3 := Lib.hid (HB2.out.grown hg1 HB2.out.size (fun j hj => by cases hj; exact HBR.out.size))
          clear hcy hat hrg1 hrg
          by_cases h5 : 5 ≤ y
          · by_cases h4 : 4 < cy
            · have hd : deckN l = 8 := by
                unfold deckN
                have hp : 4 < l.count y := by have := HCY.out; omega
                rw [if_neg (by have := HLA.out; omega), if_neg (fun ⟨z, hz, h⟩ => by have := HALL2.out z hz; omega), if_pos ⟨y, List.count_pos_iff.1 (by omega), h5, hp⟩]
              have HD := Lib.hid hd
              clear hd
              go_wp2
              go_ret
              refine ⟨?_, HB3.out⟩
              rw [HD.out]; rfl
            · go_wp2
              refine ⟨⟨_, ⟨_, HRG1.out⟩, fun z hz hf hz5 => ?_, HB3.out⟩, by rw [HRG1.out.left_eq, HRG.out.left_eq]; exact hlt1⟩
              by_cases e : z = y
              · subst e
                have := HCY.out
                omega
              · have hs : (Lit.int IntKind.i64 z).sameKey (.int .i64 y) = false := by simp [Lit.sameKey, e]
                rw [hs, Bool.not_false, Bool.and_true] at hf
                have := HLEFT.out z hz hf
                omega
          · go_wp2
            refine ⟨⟨_, ⟨_, HRG1.out⟩, fun z hz hf hz5 => ?_, HB3.out⟩, by rw [HRG1.out.left_eq, HRG.out.left_eq]; exact hlt1⟩
            by_cases e : z = y
            · subst e
              have := HCY.out
              omega
            · have hs : (Lit.int IntKind.i64 z).sameKey (.int .i64 y) = false := by simp [Lit.sameKey, e]
              rw [hs, Bool.not_false, Bool.and_true] at hf
              have := HLEFT.out z hz hf
              omega
end dk
end Go.Proofs.YtbpbdanggilnpaaDoor
end

section
namespace Go.Proofs.YtbpbdanggilnpaaDoor
open Go.RowKit
set_option linter.unusedVariables false
set_option linter.unusedSimpArgs false

theorem int_rows {A : Option Addr} {n c sz : Nat} {xs : List (List Dat)} (h : Has E0.Δ (.list 3) (.list (.slice A n c) sz xs)) : xs = (nums xs).map fun n => [Dat.int .i64 n] := by
  cases h with
  | list r A n c xs hl hh =>
    clear n c A
    induction xs with
    | nil => rfl
    | cons x xs ih =>
      have e := ih (fun r hr => hl r (List.mem_cons_of_mem _ hr)) (fun r hr => hh r (List.mem_cons_of_mem _ hr))
      have hx := hh x List.mem_cons_self
      have hlx : x.length = 1 := hl x List.mem_cons_self
      match x, hlx with
      | [d], _ =>
        have hd : Has E0.Δ (.int .i64) d := hx 0 _ d rfl rfl
        cases hd with
        | int k n =>
          show _ :: xs = _ :: (nums xs).map _
          rw [← e]; rfl
theorem flat_ints (l : List Int) : flatV (l.map fun n => [Dat.int .i64 n]) = i64s l := by
  induction l with
  | nil => rfl
  | cons a l ih =>
    unfold flatV i64s at ih ⊢
    rw [List.map_cons, List.flatten_cons, List.map_append, ih]; rfl
def in64s (l : List Int) : Prop := ∀ x ∈ l, (Lit.int .i64 x).wf = true
theorem errV_toV (n : Int) : (errV n).toV = dk.errA n := by
  unfold errV dk.errA
  split <;> rfl
theorem errV_has (n : Int) : Has E0.Δ .err (errV n) := by
  unfold errV
  split
  · exact .nili
  · exact .ifc n
def k_tDeck : Nat := 28
def sg_tDeck : Sig := ⟨[(false, [.list 3])], [(false, [.err])], false, false, false, false, false, [], [], none⟩
noncomputable def tr_tDeck : Tree := walk E0.cx (sgsN []) 0 28 sg_tDeck
theorem wk_tDeck : walk E0.cx (sgsN []) 0 28 sg_tDeck = tr_tDeck := rfl
theorem bo_tDeck : ∃ x, bodyOf E0.P 28 = some x := bo_of (by kernel_rfl)
def tDeck_s : Spec := fun ds Q => in64s (nums (argL ds 0)) ∧ Q [errV (dk.deckN (nums (argL ds 0)))]
theorem tDeck_h : Holds E0 k_tDeck sg_tDeck tDeck_s := fun w ds Q h1 h2 h3 h4 ⟨hin, h⟩ => by
  cases h1 with
  | cons hd hs =>
  cases hs
  have hok := h2 _ (List.mem_cons_self ..)
  cases hd with
  | list r A n c xs hl hh =>
  have hx := int_rows (Has.list (Δ := E0.Δ) 3 A n c xs hl hh)
  cases hok with
  | list v sz xs hr hrows =>
  obtain ⟨A', c', e, hc, hlen, hat⟩ := hr
  cases e
  have hnx : (nums xs).length = xs.length := nums_len xs
  have e1 : argL [Dat.list (.slice A xs.length c) (E0.Δ.row 3).length xs] 0 = xs := rfl
  rw [e1] at hin h
  have hat2 : At w A xs.length (i64s (nums xs)) := by
    rw [← flat_ints, ← hx]; exact hat
  have fin : ∀ e w', e = Ending.returned (dk.errA (dk.deckN (nums xs))) → Below w.heap.size w w' → Ends E0 sg_tDeck w w' (fun k => AtL [Dat.list (.slice A xs.length c) (E0.Δ.row 3).length xs] k ∨ AtL E0.γ k) Q e := fun e w' he hb => by
    refine ⟨_, h, .cons (errV_has _) .nil, hb, fun d hd => by rw [List.mem_singleton.1 hd]; unfold errV; split <;> exact .val _, fun k ⟨d, hd, hk⟩ => ?_, ?_⟩
    · rw [List.mem_singleton.1 hd] at hk
      unfold errV at hk
      split at hk <;> cases hk
    · show (if false = true then _ else _)
      rw [if_neg Bool.false_ne_true, he, ← errV_toV]; rfl
  by_cases h100 : 100 < xs.length
  · refine (dk.deck_long A xs.length c w h100).mono fun e w' ⟨he, hw⟩ => ?_
    subst hw
    refine fin e w ?_ (Below.refl _ _)
    rw [he]
    unfold dk.deckN
    rw [if_pos (by omega)]; rfl
  · exact (dk.deck_any A xs.length c (nums xs) w hat2 hnx hc (by omega) hin).mono fun e w' ⟨he, hb⟩ => fin e w' he hb
noncomputable def con_tDeck : Con E0 := ⟨k_tDeck, sg_tDeck, tDeck_s, rfl, bo_tDeck, tDeck_h⟩
theorem num_at {l : List (List Dat)} {i : Nat} (h : i < l.length) : rowI (l.getD i []) 0 = (nums l).getD i 0 := by
  rw [List.getD_eq_getElem?_getD (l := nums l), nums_get h]; rfl
def k_rDeck : Nat := 35
def sg_rDeck : Sig := ⟨[(false, [.list 3])], [(false, [.int .i64])], false, false, true, false, false, [], [], none⟩
def tr_rDeck : Tree := (.ite (.cmp .gt (.len (.var 0)) (.int .i64 100))
 (.ret [(.int .i64 19)])
 (.loop [(.int .i64 0), (.int .i64 0)] [(.int .i64), (.int .i64)]
  (.ite (.cmp .lt (.var 2) (.len (.var 0)))
   (.ob (.cmp .ge (.var 2) (.int .i64 0))
   (.ite (.or (.cmp .lt (.elem (.var 0) (.var 2) 0 (.int .i64)) (.int .i64 0)) (.cmp .gt (.elem (.var 0) (.var 2) 0 (.int .i64)) (.int .i64 111)))
    (.ret [(.int .i64 4)])
    (.again 0 [(.var 1), (.ar .add .i64 (.var 2) (.int .i64 1))])))
   (.loop [(.var 1), (.int .i64 0)] [(.int .i64), (.int .i64)]
    (.ite (.cmp .lt (.var 4) (.len (.var 0)))
     (.ob (.cmp .ge (.var 4) (.int .i64 0))
     (.loop [(.int .i64 0), (.int .i64 0)] [(.int .i64), (.int .i64)]
      (.ite (.cmp .lt (.var 6) (.len (.var 0)))
       (.ob (.cmp .ge (.var 6) (.int .i64 0))
       (.again 2 [(.ite (.cmp .eq (.elem (.var 0) (.var 6) 0 (.int .i64)) (.elem (.var 0) (.var 4) 0 (.int .i64))) (.ar .add .i64 (.var 5) (.int .i64 1)) (.var 5)), (.ar .add .i64 (.var 6) (.int .i64 1))]))
       (.ite (.and (.cmp .ge (.elem (.var 0) (.var 4) 0 (.int .i64)) (.int .i64 5)) (.cmp .gt (.var 5) (.int .i64 4)))
        (.ret [(.int .i64 8)])
        (.again 1 [(.var 3), (.ar .add .i64 (.var 4) (.int .i64 1))])))))
     (.ret [(.int .i64 0)]))))))
theorem wk_rDeck : walk E0.cx (sgsN []) 0 35 sg_rDeck = tr_rDeck := by kernel_rfl
theorem bo_rDeck : ∃ x, bodyOf E0.P 35 = some x := bo_of (by kernel_rfl)
def rDeck_s : Spec := fun ds Q => Q [.int .i64 (dk.deckN (nums (argL ds 0)))]
theorem rDeck_h : Holds E0 k_rDeck sg_rDeck rDeck_s := con_fn wf0 mix0 g0 [] rfl wk_rDeck rfl (by
  intro Φ hΦ ds Q hs h
  have h : Q [.int .i64 (dk.deckN (nums (argL ds 0)))] := h
  have hl : ds.length = 1 := hs.length.symm
  clear hΦ
  have hnl : (nums (argL ds 0)).length = (argL ds 0).length := nums_len _
  have hat : ∀ i, i < (argL ds 0).length → rowI ((argL ds 0).getD i []) 0 = (nums (argL ds 0)).getD i 0 := fun i hi => num_at hi
  simp only [tr_rDeck, wp, den_int, den_bool, den_nili, den_ar, den_cmp, den_not, den_len, den_elem, den_isnil, den_errI, den_ifc, den_rep, den_push, den_app, den_emp, den_upd, row0_econs, row0_enil, den_and, den_beq, den_nil, toInt_int, toBool_bool, xs_rows, xs_list, dflt_int, dflt_bool, of_eq, of_ne, of_lt, of_le, of_gt, of_ge, of_add, of_sub, of_rem, List.map_cons, List.map_nil, Dat.bool.injEq, decide_eq_true_eq, decide_eq_false_iff_not, Bool.not_eq_true', Bool.not_eq_false', beq_iff_eq, bne_iff_ne, beq_eq_false_iff_ne, bne_eq_false_iff_eq, ne_eq, List.append_assoc, List.cons_append, List.nil_append, allS, @den_var0 E0.Δ ds, den_varA, den_varB, hl, Nat.reduceLT, Nat.reduceLeDiff, Nat.reduceSub, List.getD_cons_zero, List.getD_cons_succ, argL_fold ds, argI_fold ds, List.append_assoc, List.cons_append, List.nil_append, toInt_int, toBool_bool, xs_rows, xs_list, Int.toNat_natCast, Dat.bool.injEq, dflt_int, toInt_getD, den_or, den_ite, List.getElem?_cons_zero, List.getElem?_cons_succ]
  generalize hL : nums (argL ds 0) = L at *
  refine ⟨fun h100 => ?_, fun h100 => ?_⟩
  · unfold dk.deckN at h
    rw [if_pos (by omega)] at h
    exact h
  refine ⟨fun xs m => ∃ (z : Int) (k : Nat), k ≤ (argL ds 0).length ∧ m = (argL ds 0).length - k ∧ xs = [.int .i64 z, .int .i64 k] ∧ ∀ y ∈ L.take k, 0 ≤ y ∧ y < 112, ⟨_, 0, 0, by omega, rfl, rfl, by simp⟩, ?_⟩
  intro z1 n1 m ⟨z, k, hk, hm, e, hall⟩
  obtain ⟨rfl, rfl⟩ : z1 = z ∧ n1 = (k : Int) := by simpa using e
  subst hm
  refine ⟨fun hlt => ⟨by omega, ?_⟩, fun hge => ?_⟩
  · have hk2 : k < (argL ds 0).length := by omega
    rw [Int.toNat_natCast, hat k hk2]
    refine ⟨fun hb => ?_, fun hb => ⟨_, (by omega : (argL ds 0).length - (k + 1) < _), z1, k + 1, by omega, rfl, by rw [wrap64 (by omega) (by omega)]; rfl, ?_⟩⟩
    · rw [Bool.or_eq_true, decide_eq_true_eq, decide_eq_true_eq] at hb
      unfold dk.deckN at h
      rw [if_neg (by omega), if_pos ⟨L.getD k 0, getD_memL (by omega), by omega⟩] at h
      exact h
    · rw [Bool.or_eq_false_iff, decide_eq_false_iff_not, decide_eq_false_iff_not] at hb
      intro y hy
      rw [take_succ_getD (d := 0) (by omega), List.mem_append, List.mem_singleton] at hy
      rcases hy with hy | hy
      · exact hall y hy
      · rw [hy]; omega
  have hk3 : k = (argL ds 0).length := by omega
  rw [hk3, ← hnl, List.take_length] at hall
  refine ⟨fun xs m => ∃ (z : Int) (k : Nat), k ≤ (argL ds 0).length ∧ m = (argL ds 0).length - k ∧ xs = [.int .i64 z, .int .i64 k] ∧ ∀ y ∈ L.take k, ¬ (5 ≤ y ∧ 4 < L.count y), ⟨_, z1, 0, by omega, rfl, rfl, by simp⟩, ?_⟩
  intro z2 n2 m2 ⟨z', k', hk', hm2, e2, hall2⟩
  obtain ⟨rfl, rfl⟩ : z2 = z' ∧ n2 = (k' : Int) := by simpa using e2
  subst hm2
  refine ⟨fun hlt => ⟨by omega, ?_⟩, fun hge => ?_⟩
  · have hk2 : k' < (argL ds 0).length := by omega
    rw [Int.toNat_natCast, hat k' hk2]
    refine ⟨fun xs m => ∃ j : Nat, j ≤ (argL ds 0).length ∧ m = (argL ds 0).length - j ∧ xs = [.int .i64 ((L.take j).count (L.getD k' 0) : Nat), .int .i64 j], ⟨_, 0, by omega, rfl, by simp⟩, ?_⟩
    intro z3 n3 m3 ⟨j, hj, hm3, e3⟩
    obtain ⟨rfl, rfl⟩ : z3 = ((L.take j).count (L.getD k' 0) : Nat) ∧ n3 = (j : Int) := by simpa using e3
    subst hm3
    have hcl : (L.take j).count (L.getD k' 0) ≤ j := Nat.le_trans List.count_le_length (by rw [List.length_take]; omega)
    refine ⟨fun hlt3 => ⟨by omega, _, (by omega : (argL ds 0).length - (j + 1) < _), j + 1, by omega, rfl, ?_⟩, fun hge3 => ?_⟩
    · have hj2 : j < (argL ds 0).length := by omega
      rw [Int.toNat_natCast, hat j hj2, wrap64 (x := (j : Int) + 1) (by omega) (by omega)]
      rw [take_succ_getD (d := 0) (by omega), List.count_append, List.count_singleton]
      by_cases hx : L.getD j 0 = L.getD k' 0
      · rw [if_pos (by simpa using hx), if_pos (by simpa using hx), wrap64 (by omega) (by omega)]; rfl
      · rw [if_neg (by simpa using hx), if_neg (by simpa using hx)]; rfl
    · have hj3 : j = (argL ds 0).length := by omega
      have htj : L.take j = L := List.take_of_length_le (by omega)
      rw [htj]
      refine ⟨fun hb => ?_, fun hb => ⟨_, (by omega : (argL ds 0).length - (k' + 1) < _), z2, k' + 1, by omega, rfl, by rw [wrap64 (by omega) (by omega)]; rfl, ?_⟩⟩
      · rw [Bool.and_eq_true, decide_eq_true_eq, decide_eq_true_eq] at hb
        unfold dk.deckN at h
        rw [if_neg (by omega), if_neg (fun ⟨y, hy, hx⟩ => by have := hall y hy; omega), if_pos ⟨L.getD k' 0, getD_memL (by omega), by omega⟩] at h
        exact h
      · rw [Bool.and_eq_false_iff, decide_eq_false_iff_not, decide_eq_false_iff_not] at hb
        intro y hy
        rw [take_succ_getD (d := 0) (by omega), List.mem_append, List.mem_singleton] at hy
        rcases hy with hy | hy
        · exact hall2 y hy
        · rw [hy]; omega
  · have hk4 : k' = (argL ds 0).length := by omega
    rw [hk4, ← hnl, List.take_length] at hall2
    unfold dk.deckN at h
    rw [if_neg (by omega), if_neg (fun ⟨y, hy, hx⟩ => by have := hall y hy; omega), if_neg (fun ⟨y, hy, hx⟩ => hall2 y hy hx)] at h
    exact h)
noncomputable def con_rDeck : Con E0 := ⟨k_rDeck, sg_rDeck, rDeck_s, rfl, bo_rDeck, rDeck_h⟩
end Go.Proofs.YtbpbdanggilnpaaDoor
end
