/-
  Contracts: small numbers, pairs and halves; the rest of an object.
-/
import Derived.Test.YtpmkdbiejeedeaaDoorKitP
import Derived.Test.YtpmkdbiejeedeaaDoorKitN
import Derived.Test.YtpmkdbiejeedeaaDoorBitsC
import Derived.Test.YtpmkdbiejeedeaaDoorMathK
namespace Go.Proofs.YtpmkdbiejeedeaaDoor
open Go.RowKit
set_option linter.unusedVariables false

def clamp (n : Int) : Int := max (min n 32767) (-32768)
theorem Short_c (n : Int) (w : World) (h1 : -9223372036854775808 ≤ n) (h2 : n ≤ 9223372036854775807) : Calls Tryd.prog 8 #[.int .i64 n] w fun e w' => e = .returned (.int .i16 (clamp n)) ∧ w = w' := by
  have hc : (n < -32768 ∧ n ≤ 32767 ∧ clamp n = -32768) ∨ (-32768 ≤ n ∧ n ≤ 32767 ∧ clamp n = n) ∨ (32767 < n ∧ clamp n = 32767) := by unfold clamp; omega
  rcases hc with ⟨g1, g2, e1⟩ | ⟨g1, g2, e1⟩ | ⟨g1, e1⟩
  all_goals (
    have E1 := Lib.hid e1
    clear e1
    go_enter Tryd.func8, Tryd.ntmps8
    go_wp2
    go_ret
    rw [E1.out]
    exact ⟨rfl, rfl⟩)
theorem or_pair (A B : Nat) (ha : A < 65536) (hb : B < 65536) : bits .or .u32 ((A : Int) * 65536) (B : Int) = (A : Int) * 65536 + B := by
  rw [show (A : Int) * 65536 = ((A * 65536 : Nat) : Int) by omega, u32_or_nat _ _ (by omega) (by omega)]
  have h : A * 65536 ||| B = 2 ^ 16 * A + B := by
    rw [Nat.mul_comm]; exact (Nat.two_pow_add_eq_or_of_lt (i := 16) (b := B) hb A).symm
  omega
theorem Pair_c (a b : Int) (w : World) (h1 : -32768 ≤ a) (h2 : a ≤ 32767) (h3 : -32768 ≤ b) (h4 : b ≤ 32767) :
    Calls Tryd.prog 9 #[.int .i16 a, .int .i16 b] w fun e w' => e = .returned (.int .u32 (a % 65536 * 65536 + b % 65536)) ∧ w = w' := by
  go_enter Tryd.func9, Tryd.ntmps9
  go_wp2
  go_ret
  refine ⟨ret_int ?_, rfl⟩
  rw [IntKind.wrap_u16, IntKind.wrap_u16]
  obtain ⟨A, hA⟩ : ∃ A : Nat, a % 65536 = A := ⟨(a % 65536).toNat, by omega⟩
  obtain ⟨B, hB⟩ : ∃ B : Nat, b % 65536 = B := ⟨(b % 65536).toNat, by omega⟩
  rw [hA, hB, show (A : Int) % 4294967296 = A by omega, show (B : Int) % 4294967296 = B by omega, show (A : Int) * 65536 % 4294967296 = A * 65536 by omega]
  exact or_pair A B (by omega) (by omega)
theorem Halves_c (x : Int) (w : World) (h1 : 0 ≤ x) (h2 : x ≤ 4294967295) :
    Calls Tryd.prog 10 #[.int .u32 x] w fun e w' => e = .returned (.tuple #[.int .i16 (IntKind.i16.wrap (x / 65536)), .int .i16 (IntKind.i16.wrap x)]) ∧ w = w' := by
  go_enter Tryd.func10, Tryd.ntmps10
  go_wp2
  go_ret2
  exact ⟨rfl, rfl⟩
end Go.Proofs.YtpmkdbiejeedeaaDoor
