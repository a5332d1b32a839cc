/-
  Strings of bytes are the same just where the bytes are.
-/
import Derived.Test.YtipmddjoajojiaaKitS
import Derived.ChangeKeysEq
namespace Go.Proofs.Ytipmddjoajojiaa
open Go.RowKit

theorem strOf_data (a : List Nat) : (strOf a).toList = a.map UInt8.ofNat := by
  rw [ByteArray.toList_eq]
  rfl
theorem ofNat_inj {x y : Nat} (hx : x < 256) (hy : y < 256) (h : UInt8.ofNat x = UInt8.ofNat y) : x = y := by
  have := congrArg UInt8.toNat h
  simp only [UInt8.toNat_ofNat'] at this
  omega
theorem map_ofNat_inj : ∀ (a b : List Nat), (∀ x ∈ a, x < 256) → (∀ x ∈ b, x < 256) → a.map UInt8.ofNat = b.map UInt8.ofNat → a = b
  | [], [], _, _, _ => rfl
  | [], y :: b, _, _, h => by simp at h
  | x :: a, [], _, _, h => by simp at h
  | x :: a, y :: b, ha, hb, h => by
    simp only [List.map_cons, List.cons.injEq] at h
    rw [ofNat_inj (ha x (by simp)) (hb y (by simp)) h.1, map_ofNat_inj a b (fun z hz => ha z (by simp [hz])) (fun z hz => hb z (by simp [hz])) h.2]
theorem strOf_beq {a b : List Nat} (ha : ∀ x ∈ a, x < 256) (hb : ∀ x ∈ b, x < 256) : ((strOf a).toList == (strOf b).toList) = decide (a = b) := by
  rw [strOf_data, strOf_data]
  by_cases h : a = b
  · subst h; simp
  · rw [decide_eq_false h]
    simpa using fun e => h (map_ofNat_inj a b ha hb e)
end Go.Proofs.Ytipmddjoajojiaa
