/-
  Contracts of Put, in the package bits and in its reference.
-/
import Derived.Test.YtlfeaahbmahhgaaDoorBitsB
namespace Go.Proofs.YtlfeaahbmahhgaaDoor
open Go.RowKit
set_option linter.unusedVariables false

/-- bits with a part, and an error's number -/
def putV (x m wd p : Int) : Nat := if mth.isP m wd ∧ p.toNat < 2 ^ wd.toNat then mth.ofBits (mth.putB x.toNat m.toNat wd.toNat p.toNat) 64 else 0
def putE (m wd p : Int) : Int := if mth.isP m wd then (if p.toNat < 2 ^ wd.toNat then 0 else 2) else 1

theorem neq_zero_iff (P wd : Nat) (hP : P < 18446744073709551616) : (((P &&& (18446744073709551615 - mth.mask wd) : Nat) : Int) != 0) = !decide (P < 2 ^ wd) := by
  have := mth.fits_iff P wd hP
  by_cases h : P < 2 ^ wd
  · rw [this.2 h]; simp [h]
  · have h0 : ¬ P &&& (18446744073709551615 - mth.mask wd) = 0 := fun e => h (this.1 e)
    have h1 : ¬ ((P &&& (18446744073709551615 - mth.mask wd) : Nat) : Int) = 0 := by omega
    have h2 : (((P &&& (18446744073709551615 - mth.mask wd) : Nat) : Int) == 0) = false := by rw [beq_eq_false_iff_ne]; exact h1
    simp only [bne, h2, h]
    rfl

def putTo (x m wd p k : Nat) : Nat → Bool := fun i => if m ≤ i ∧ i < m + min k wd then p.testBit (i - m) else x.testBit i
theorem putTo_zero (x m wd p : Nat) : bools (putTo x m wd p 0) = bitRow x 64 := by
  unfold bools bitRow
  exact rowOf_congr fun i hi => by
    have h : ¬ (m ≤ i ∧ i < m + min 0 wd) := by omega
    simp only [putTo, if_neg h, hi, decide_true, Bool.true_and]
theorem putTo_succ (x m wd p k : Nat) (h : k < wd) : (bools (putTo x m wd p k)).setIfInBounds (m + k) (.bool (p.testBit k)) = bools (putTo x m wd p (k + 1)) := by
  unfold bools
  rw [rowOf_set]
  refine rowOf_congr fun i hi => ?_
  by_cases e : i = m + k
  · subst e
    have h1 : m ≤ m + k ∧ m + k < m + min (k + 1) wd := by omega
    simp only [putTo, if_pos h1, if_true, Nat.add_sub_cancel_left]
  · have : (m ≤ i ∧ i < m + min (k + 1) wd) = (m ≤ i ∧ i < m + min k wd) := by apply propext; omega
    simp only [putTo, e, this, if_false]
theorem putTo_stay (x m wd p k : Nat) (h : wd ≤ k) : bools (putTo x m wd p k) = bools (putTo x m wd p (k + 1)) := by
  unfold bools
  refine rowOf_congr fun i hi => ?_
  have : (m ≤ i ∧ i < m + min (k + 1) wd) = (m ≤ i ∧ i < m + min k wd) := by apply propext; omega
  simp only [putTo, this]
theorem putTo_all (x m wd p : Nat) (h : wd ≤ 64) : mth.ofBits (putTo x m wd p 64) 64 = mth.ofBits (mth.putB x m wd p) 64 :=
  mth.ofBits_congr fun i hi => by simp only [putTo, mth.putB, show min 64 wd = wd from by omega]

theorem bitRow_at (X i : Nat) (hi : i < 64) : (bitRow X 64)[i]? = some (.bool (X.testBit i)) := by
  unfold bitRow; rw [rowOf_get _ hi]; simp [hi]

end Go.Proofs.YtlfeaahbmahhgaaDoor
