/-
  Contracts of the package bits and of its reference: parts, spans, errors' numbers.
-/
import Derived.Test.YtlfeaahbmahhgaaDoorBitsA
namespace Go.Proofs.YtlfeaahbmahhgaaDoor
open Go.RowKit
set_option linter.unusedVariables false

theorem in_yes (i : Int) (h : 0 ≤ i ∧ i < 64) (w : World) : Calls Tryd.prog 14 #[.int .i64 i] w fun e w' => e = .returned (.bool true) ∧ w = w' := by
  obtain ⟨h1, h2⟩ := h
  have d1 : decide (0 ≤ i) = true := by simpa using h1
  have d2 : decide (i < 64) = true := by simpa using h2
  go_enter Tryd.func14, Tryd.ntmps14
  go_wp2
  go_ret
  exact ⟨rfl, rfl⟩
theorem in_no (i : Int) (h : ¬ (0 ≤ i ∧ i < 64)) (w : World) : Calls Tryd.prog 14 #[.int .i64 i] w fun e w' => e = .returned (.bool false) ∧ w = w' := by
  by_cases h1 : 0 ≤ i
  · have d1 : decide (0 ≤ i) = true := by simpa using h1
    have h2 : ¬ i < 64 := by omega
    have d2 : decide (i < 64) = false := by simpa using h2
    go_enter Tryd.func14, Tryd.ntmps14
    go_wp2
    go_ret
    exact ⟨rfl, rfl⟩
  · have d1 : decide (0 ≤ i) = false := by simpa using h1
    go_enter Tryd.func14, Tryd.ntmps14
    go_wp2
    go_ret
    exact ⟨rfl, rfl⟩

def spanTo (m n : Int) (k : Nat) : Nat → Bool := fun i => decide (i < k) && (decide (m ≤ (i : Int)) && decide ((i : Int) < n))
theorem spanTo_zero (m n : Int) : bools (spanTo m n 0) = rowOf 64 (fun _ => .bool false) := by
  unfold bools; exact rowOf_congr fun i _ => by simp [spanTo]
theorem spanTo_succ (m n : Int) (k : Nat) : (bools (spanTo m n k)).setIfInBounds k (.bool (decide (m ≤ (k : Int)) && decide ((k : Int) < n))) = bools (spanTo m n (k + 1)) := by
  unfold bools
  rw [rowOf_set]
  refine rowOf_congr fun i hi => ?_
  by_cases e : i = k
  · subst e; simp [spanTo]
  · have : decide (i < k + 1) = decide (i < k) := by rw [Bool.eq_iff_iff]; simp; omega
    simp [spanTo, e, this]
theorem spanTo_all (m n : Int) : mth.ofBits (spanTo m n 64) 64 = mth.span m n :=
  mth.ofBits_congr fun i hi => by simp [spanTo, hi]
/-- a part's worth; 0 where there is none -/
def partV (x m wd : Int) : Nat := if mth.isP m wd then mth.ofBits (mth.partB x.toNat m.toNat wd.toNat) 64 else 0

def partTo (x m k : Nat) : Nat → Bool := fun i => decide (i < k) && x.testBit (m + i)
theorem partTo_zero (x m : Nat) : bools (partTo x m 0) = rowOf 64 (fun _ => .bool false) := by
  unfold bools; exact rowOf_congr fun i _ => by simp [partTo]
theorem partTo_succ (x m k : Nat) : (bools (partTo x m k)).setIfInBounds k (.bool (x.testBit (m + k))) = bools (partTo x m (k + 1)) := by
  unfold bools
  rw [rowOf_set]
  refine rowOf_congr fun i hi => ?_
  by_cases e : i = k
  · subst e; simp [partTo]
  · have : decide (i < k + 1) = decide (i < k) := by rw [Bool.eq_iff_iff]; simp; omega
    simp [partTo, e, this]

end Go.Proofs.YtlfeaahbmahhgaaDoor
