/-
  Rows of numbers, told by a function: arrays and structs of numbers.
-/
import Derived.Test.YtonjilfbcofoaaaDoorKitP
namespace Go.Proofs.YtonjilfbcofoaaaDoor
open Go.RowKit
set_option linter.unusedVariables false

/-- an object, and nine numbers -/
def ints (n : Nat) (f : Nat → Int) : Array Value := rowOf n fun i => .int .i64 (f i)
theorem ints_one (n : Nat) (f : Nat → Int) : (ints n f).all (·.oneCell') = true := rowOf_oneCell fun _ _ => rfl
theorem ints_get {n : Nat} (f : Nat → Int) {i : Nat} (h : i < n) : (ints n f)[i]? = some (.int .i64 (f i)) := rowOf_get _ h
theorem ints_size (n : Nat) (f : Nat → Int) : (ints n f).size = n := size_rowOf _ _
theorem ints_set (n : Nat) (f : Nat → Int) (i : Nat) (x : Int) : (ints n f).setIfInBounds i (.int .i64 x) = ints n (fun j => if j = i then x else f j) := by
  unfold ints; rw [rowOf_set]; congr 1; funext j; by_cases h : j = i <;> simp [h]
theorem ints_congr {n : Nat} {f g : Nat → Int} (h : ∀ i, i < n → f i = g i) : ints n f = ints n g := rowOf_congr fun i hi => by rw [h i hi]

def Ok18 (f : Nat → Int) (n : Nat) : Prop := ∀ i, i < n → -9223372036854775808 ≤ f i ∧ f i ≤ 9223372036854775807
end Go.Proofs.YtonjilfbcofoaaaDoor
