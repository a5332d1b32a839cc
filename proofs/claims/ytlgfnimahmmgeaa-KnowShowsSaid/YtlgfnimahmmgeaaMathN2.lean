/-
  Plain facts on who knows: bits set or cleared, told by sums.
-/
import Derived.Test.YtlgfnimahmmgeaaMathN
import Derived.Test.YtlgfnimahmmgeaaKnowD
namespace Go.Proofs.Ytlgfnimahmmgeaa.mth
open Go.RowKit

theorem or_low (x m : Nat) (hm : m < 4) : x ||| m = x / 4 * 4 + (x % 4 ||| m) := by
  have h1 : x % 4 ||| m < 2 ^ 2 := Nat.or_lt_two_pow (by omega) (by omega)
  have e : x = (x / 4) <<< 2 ||| x % 4 := by
    rw [← Nat.shiftLeft_add_eq_or_of_lt (show x % 4 < 2 ^ 2 by omega), Nat.shiftLeft_eq]; omega
  have : x ||| m = (x / 4) <<< 2 ||| (x % 4 ||| m) := by
    rw [← Nat.or_assoc, ← e]
  rw [this, ← Nat.shiftLeft_add_eq_or_of_lt h1, Nat.shiftLeft_eq]
theorem and_low (x m : Nat) (hm : m < 4) : x &&& m = x % 4 &&& m := by
  have e : m = 3 &&& m := by
    rw [Nat.and_comm, show (3 : Nat) = 2 ^ 2 - 1 from rfl, Nat.and_two_pow_sub_one_eq_mod]; omega
  have e2 : x &&& 3 = x % 4 := by rw [show (3 : Nat) = 2 ^ 2 - 1 from rfl, Nat.and_two_pow_sub_one_eq_mod]
  rw [e, ← Nat.and_assoc, e2, ← Nat.and_assoc]
  congr 1
  rw [show (3 : Nat) = 2 ^ 2 - 1 from rfl, Nat.and_two_pow_sub_one_eq_mod]; omega
theorem low3 (p : Int) : bits .and .i64 p 3 = ((if bt p 0 then 1 else 0) + (if bt p 1 then 2 else 0) : Int) := by
  have := andNot3 p 0
  have e : bits .andNot .i64 p 0 = IntKind.i64.wrap p := by
    show IntKind.i64.wrap ((BitVec.ofInt 64 p &&& ~~~BitVec.ofInt 64 0).toNat : Int) = _
    have : (BitVec.ofInt 64 p &&& ~~~BitVec.ofInt 64 0) = BitVec.ofInt 64 p := by
      apply BitVec.eq_of_getLsbD_eq
      intro i hi
      simp only [BitVec.getLsbD_and, BitVec.getLsbD_not, hi, decide_true, Bool.true_and]
      have : (BitVec.ofInt 64 0).getLsbD i = false := by rw [show BitVec.ofInt 64 0 = 0#64 from rfl]; exact BitVec.getLsbD_zero
      rw [this]; simp
    rw [this, BitVec.toNat_ofInt, IntKind.wrap_i64, IntKind.wrap_i64]; omega
  have e0 : bt 0 0 = false := by decide
  have e1 : bt 0 1 = false := by decide
  rw [e0, e1, e] at this
  simp only [Bool.not_false, Bool.and_true] at this
  have e3 : bits .and .i64 (IntKind.i64.wrap p) 3 = bits .and .i64 p 3 := by
    show IntKind.i64.wrap ((BitVec.ofInt 64 (IntKind.i64.wrap p) &&& BitVec.ofInt 64 3).toNat : Int) = IntKind.i64.wrap ((BitVec.ofInt 64 p &&& BitVec.ofInt 64 3).toNat : Int)
    congr 4
    apply BitVec.eq_of_toNat_eq
    rw [BitVec.toNat_ofInt, BitVec.toNat_ofInt, IntKind.wrap_i64]; omega
  rw [← e3]; exact this
theorem bt_mod (n : Int) (x : Nat) (h : (x : Int) = n % 18446744073709551616) : bt n 0 = decide (x % 4 = 1 ∨ x % 4 = 3) ∧ bt n 1 = decide (x % 4 = 2 ∨ x % 4 = 3) := by
  unfold bt
  constructor
  · rw [if_pos rfl, Bool.eq_iff_iff]; simp only [decide_eq_true_eq, beq_iff_eq]; omega
  · rw [if_neg (by decide), Bool.eq_iff_iff]; simp only [decide_eq_true_eq, beq_iff_eq]; omega
theorem toNat_low3 (p : Int) : (BitVec.ofInt 64 (bits .and .i64 p 3)).toNat = (if bt p 0 then 1 else 0) + (if bt p 1 then 2 else 0) := by
  rw [low3, BitVec.toNat_ofInt]
  cases bt p 0 <;> cases bt p 1 <;> rfl
/-- the bits of some players more -/
theorem orW_eq (was p : Int) (h1 : -9223372036854775808 ≤ was) (h2 : was ≤ 9223372036854775807) : orW was p = was + (if bt p 0 && !bt was 0 then 1 else 0) + (if bt p 1 && !bt was 1 then 2 else 0) := by
  have hx : ((BitVec.ofInt 64 was).toNat : Int) = was % 18446744073709551616 := by rw [BitVec.toNat_ofInt]; omega
  obtain ⟨b0, b1⟩ := bt_mod was _ hx
  have e : orW was p = IntKind.i64.wrap (((BitVec.ofInt 64 was).toNat ||| ((if bt p 0 then 1 else 0) + (if bt p 1 then 2 else 0)) : Nat) : Int) := by
    show IntKind.i64.wrap ((BitVec.ofInt 64 was ||| BitVec.ofInt 64 (bits .and .i64 p 3)).toNat : Int) = _
    rw [BitVec.toNat_or, toNat_low3]
  rw [e, or_low _ _ (by cases bt p 0 <;> cases bt p 1 <;> decide), b0, b1, IntKind.wrap_i64]
  generalize (BitVec.ofInt 64 was).toNat = x at *
  have hr : x % 4 = 0 ∨ x % 4 = 1 ∨ x % 4 = 2 ∨ x % 4 = 3 := by omega
  rcases hr with hr | hr | hr | hr <;> cases bt p 0 <;> cases bt p 1 <;> simp [hr] <;> omega
/-- .. fewer -/
theorem clrW_eq (was p : Int) (h1 : -9223372036854775808 ≤ was) (h2 : was ≤ 9223372036854775807) : clrW was p = was - (if bt p 0 && bt was 0 then 1 else 0) - (if bt p 1 && bt was 1 then 2 else 0) := by
  have hx : ((BitVec.ofInt 64 was).toNat : Int) = was % 18446744073709551616 := by rw [BitVec.toNat_ofInt]; omega
  obtain ⟨b0, b1⟩ := bt_mod was _ hx
  have e : ((BitVec.ofInt 64 was &&& ~~~BitVec.ofInt 64 (bits .and .i64 p 3)).toNat) + ((BitVec.ofInt 64 was).toNat &&& ((if bt p 0 then 1 else 0) + (if bt p 1 then 2 else 0))) = (BitVec.ofInt 64 was).toNat := by
    rw [← toNat_low3 p, ← BitVec.toNat_and]
    generalize BitVec.ofInt 64 was = x
    generalize BitVec.ofInt 64 (bits .and .i64 p 3) = m
    have h : (x &&& ~~~m) &&& (x &&& m) = 0#64 := by
      apply BitVec.eq_of_getLsbD_eq
      intro i hi
      simp only [BitVec.getLsbD_and, BitVec.getLsbD_not, BitVec.getLsbD_zero, hi, decide_true, Bool.true_and]
      cases x.getLsbD i <;> cases m.getLsbD i <;> rfl
    have h2 : (x &&& ~~~m) ||| (x &&& m) = x := by
      apply BitVec.eq_of_getLsbD_eq
      intro i hi
      simp only [BitVec.getLsbD_or, BitVec.getLsbD_and, BitVec.getLsbD_not, hi, decide_true, Bool.true_and]
      cases x.getLsbD i <;> cases m.getLsbD i <;> rfl
    rw [← BitVec.toNat_add_of_and_eq_zero h, BitVec.add_eq_or_of_and_eq_zero _ _ h, h2]
  have e2 : clrW was p = IntKind.i64.wrap ((BitVec.ofInt 64 was &&& ~~~BitVec.ofInt 64 (bits .and .i64 p 3)).toNat : Int) := rfl
  rw [and_low _ _ (by cases bt p 0 <;> cases bt p 1 <;> decide)] at e
  rw [e2, b0, b1, IntKind.wrap_i64]
  generalize (BitVec.ofInt 64 was &&& ~~~BitVec.ofInt 64 (bits .and .i64 p 3)).toNat = y at *
  generalize (BitVec.ofInt 64 was).toNat = x at *
  have key : ∀ r : Fin 4, ∀ a b : Bool, (r.val &&& ((if a then 1 else 0) + (if b then 2 else 0))) = (if a && decide (r.val = 1 ∨ r.val = 3) then 1 else 0) + (if b && decide (r.val = 2 ∨ r.val = 3) then 2 else 0) := by decide
  have k := key ⟨x % 4, by omega⟩ (bt p 0) (bt p 1)
  simp only at k
  rw [k] at e
  clear k key
  have hr : x % 4 = 0 ∨ x % 4 = 1 ∨ x % 4 = 2 ∨ x % 4 = 3 := by omega
  rcases hr with hr | hr | hr | hr <;> cases h0 : bt p 0 <;> cases h1 : bt p 1 <;> simp [hr, h0, h1] at e ⊢ <;> omega
end Go.Proofs.Ytlgfnimahmmgeaa.mth
