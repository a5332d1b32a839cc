/-
  Plain facts on who knows: the two lowest bits of a number.
-/
import Derived.Test.YtlgfnimahmmgeaaRows
import Derived.WalkKit
namespace Go.Proofs.Ytlgfnimahmmgeaa.mth
open Go.RowKit

/-- bit p of a number, p below 2 -/
def bt (n : Int) (p : Nat) : Bool := if p = 0 then n % 2 == 1 else n / 2 % 2 == 1
theorem low_bits (x : Nat) (h : x < 4) : x = (if x.testBit 0 then 1 else 0) + (if x.testBit 1 then 2 else 0) := by
  have : x = 0 ∨ x = 1 ∨ x = 2 ∨ x = 3 := by omega
  rcases this with rfl | rfl | rfl | rfl <;> decide
theorem bv_bit0 (n : Int) : (BitVec.ofInt 64 n).toNat.testBit 0 = bt n 0 := by
  rw [BitVec.toNat_ofInt, Nat.testBit_zero]
  unfold bt
  rw [if_pos rfl, Bool.eq_iff_iff]
  simp only [decide_eq_true_eq, beq_iff_eq]
  omega
theorem bv_bit1 (n : Int) : (BitVec.ofInt 64 n).toNat.testBit 1 = bt n 1 := by
  rw [BitVec.toNat_ofInt, Nat.testBit_succ, Nat.testBit_zero]
  unfold bt
  rw [if_neg (by decide), Bool.eq_iff_iff]
  simp only [decide_eq_true_eq, beq_iff_eq]
  omega
theorem ofInt_wrap (x : BitVec 64) : BitVec.ofInt 64 (IntKind.i64.wrap (x.toNat : Int)) = x := by
  apply BitVec.eq_of_toNat_eq
  rw [BitVec.toNat_ofInt, IntKind.wrap_i64]
  have := x.isLt
  omega
theorem and_le3 (x : BitVec 64) : (x &&& 3#64).toNat < 4 := by
  rw [BitVec.toNat_and]
  exact Nat.lt_of_le_of_lt Nat.and_le_right (by decide)
/-- x &^ y & 3 -/
theorem andNot3 (d c : Int) : bits .and .i64 (bits .andNot .i64 d c) 3 = ((if bt d 0 && !bt c 0 then 1 else 0) + (if bt d 1 && !bt c 1 then 2 else 0) : Int) := by
  have e : bits .and .i64 (bits .andNot .i64 d c) 3 = IntKind.i64.wrap (((BitVec.ofInt 64 d &&& ~~~BitVec.ofInt 64 c) &&& 3#64).toNat : Int) := by
    show IntKind.i64.wrap ((BitVec.ofInt 64 (IntKind.i64.wrap ((BitVec.ofInt 64 d &&& ~~~BitVec.ofInt 64 c).toNat : Int)) &&& BitVec.ofInt 64 3).toNat : Int) = _
    rw [ofInt_wrap]
    rfl
  rw [e]
  have hlt := and_le3 (BitVec.ofInt 64 d &&& ~~~BitVec.ofInt 64 c)
  have hb := low_bits _ hlt
  have h0 : ((BitVec.ofInt 64 d &&& ~~~BitVec.ofInt 64 c) &&& 3#64).toNat.testBit 0 = (bt d 0 && !bt c 0) := by
    rw [← bv_bit0, ← bv_bit0, BitVec.testBit_toNat, BitVec.testBit_toNat, BitVec.testBit_toNat]
    simp
  have h1 : ((BitVec.ofInt 64 d &&& ~~~BitVec.ofInt 64 c) &&& 3#64).toNat.testBit 1 = (bt d 1 && !bt c 1) := by
    rw [← bv_bit1, ← bv_bit1, BitVec.testBit_toNat, BitVec.testBit_toNat, BitVec.testBit_toNat]
    simp
  rw [h0, h1] at hb
  generalize ((BitVec.ofInt 64 d &&& ~~~BitVec.ofInt 64 c) &&& 3#64).toNat = x at *
  rw [IntKind.wrap_i64]
  cases h2 : (bt d 0 && !bt c 0) <;> cases h3 : (bt d 1 && !bt c 1) <;> rw [h2, h3] at hb <;> simp at hb ⊢ <;> omega
def gain (c d : Int) : Bool := (bt d 0 && !bt c 0) || (bt d 1 && !bt c 1)
theorem gain_ne (c d : Int) : (bits .and .i64 (bits .andNot .i64 d c) 3 != 0) = gain c d := by
  rw [andNot3]
  unfold gain
  cases (bt d 0 && !bt c 0) <;> cases (bt d 1 && !bt c 1) <;> decide
end Go.Proofs.Ytlgfnimahmmgeaa.mth
