/-
  Contracts of Has, Count and the library's OnesCount64.
-/
import Derived.Test.YtlfeaahbmahhgaaDoorBitsC
import Derived.Test.YtlfeaahbmahhgaaDoorMathP
namespace Go.Proofs.YtlfeaahbmahhgaaDoor
open Go.RowKit
set_option linter.unusedVariables false

theorem i64_and127 (a : Nat) (ha : a < 9223372036854775808) : bits .and .i64 (a : Int) 127 = ((a % 128 : Nat) : Int) := by
  have h1 : (BitVec.ofInt 64 (a : Int)).toNat = a := by
    rw [BitVec.ofInt_natCast, BitVec.toNat_ofNat]; exact Nat.mod_eq_of_lt (by omega)
  have h2 : (BitVec.ofInt 64 (127 : Int)).toNat = 127 := by decide
  show IntKind.i64.wrap ((BitVec.ofInt 64 (a : Int) &&& BitVec.ofInt 64 (127 : Int)).toNat : Int) = _
  rw [BitVec.toNat_and, h1, h2, nat_mask7, IntKind.wrap_i64]
  omega

theorem and_m0 (a : Nat) (ha : a < 18446744073709551616) : bits .and .u64 (a : Int) 6148914691236517205 = ((a &&& 6148914691236517205 : Nat) : Int) := u64_and_nat a 6148914691236517205 ha (by omega)
theorem and_m1 (a : Nat) (ha : a < 18446744073709551616) : bits .and .u64 (a : Int) 3689348814741910323 = ((a &&& 3689348814741910323 : Nat) : Int) := u64_and_nat a 3689348814741910323 ha (by omega)
theorem and_m2 (a : Nat) (ha : a < 18446744073709551616) : bits .and .u64 (a : Int) 1085102592571150095 = ((a &&& 1085102592571150095 : Nat) : Int) := u64_and_nat a 1085102592571150095 ha (by omega)
theorem step1 (x : Nat) (hx : x < 18446744073709551616) : IntKind.u64.wrap (bits .and .u64 ((x : Int) / 2) 6148914691236517205 + bits .and .u64 (x : Int) 6148914691236517205) = ((mth.sw1 x : Nat) : Int) := by
  have e : (x : Int) / 2 = ((x / 2 : Nat) : Int) := by omega
  have h1 : x / 2 &&& 6148914691236517205 ≤ 6148914691236517205 := Nat.and_le_right
  have h2 : x &&& 6148914691236517205 ≤ 6148914691236517205 := Nat.and_le_right
  rw [e, and_m0 _ (by omega), and_m0 _ hx, IntWalk.u64_in _ (by omega)]
  rfl
theorem step2 (x : Nat) (hx : x < 18446744073709551616) : IntKind.u64.wrap (bits .and .u64 ((x : Int) / 4) 3689348814741910323 + bits .and .u64 (x : Int) 3689348814741910323) = ((mth.sw2 x : Nat) : Int) := by
  have e : (x : Int) / 4 = ((x / 4 : Nat) : Int) := by omega
  have h1 : x / 4 &&& 3689348814741910323 ≤ 3689348814741910323 := Nat.and_le_right
  have h2 : x &&& 3689348814741910323 ≤ 3689348814741910323 := Nat.and_le_right
  rw [e, and_m1 _ (by omega), and_m1 _ hx, IntWalk.u64_in _ (by omega)]
  rfl
theorem step3 (x : Nat) (hx : x ≤ 7378697629483820646) : bits .and .u64 (IntKind.u64.wrap ((x : Int) / 16 + (x : Int))) 1085102592571150095 = ((mth.sw3 x : Nat) : Int) := by
  have e : (x : Int) / 16 = ((x / 16 : Nat) : Int) := by omega
  rw [e, IntWalk.u64_in _ (by omega), ← Int.natCast_add, and_m2 _ (by omega)]
  rfl
theorem sw1_lt (x : Nat) : mth.sw1 x < 18446744073709551616 := by
  have h1 : x / 2 &&& 6148914691236517205 ≤ 6148914691236517205 := Nat.and_le_right
  have h2 : x &&& 6148914691236517205 ≤ 6148914691236517205 := Nat.and_le_right
  unfold mth.sw1; omega
theorem sw2_le (x : Nat) : mth.sw2 x ≤ 7378697629483820646 := by
  have h1 : x / 4 &&& 3689348814741910323 ≤ 3689348814741910323 := Nat.and_le_right
  have h2 : x &&& 3689348814741910323 ≤ 3689348814741910323 := Nat.and_le_right
  unfold mth.sw2; omega
theorem sw3_le (x : Nat) : mth.sw3 x ≤ 1085102592571150095 := Nat.and_le_right
theorem step6 (x : Nat) (hx : x ≤ 1085102592571150095) :
    bits .and .i64 (wrap64 (IntKind.u64.wrap (IntKind.u64.wrap (IntKind.u64.wrap ((x : Int) + (x : Int) / 256) + IntKind.u64.wrap ((x : Int) + (x : Int) / 256) / 65536) +
      IntKind.u64.wrap (IntKind.u64.wrap ((x : Int) + (x : Int) / 256) + IntKind.u64.wrap ((x : Int) + (x : Int) / 256) / 65536) / 4294967296))) 127 = ((mth.sw6 x : Nat) : Int) := by
  have e1 : IntKind.u64.wrap ((x : Int) + (x : Int) / 256) = ((x + x / 256 : Nat) : Int) := by rw [IntWalk.u64_in _ (by omega)]; omega
  rw [e1]
  obtain ⟨y, hy⟩ : ∃ y, y = x + x / 256 := ⟨_, rfl⟩
  rw [← hy]
  have e2 : IntKind.u64.wrap ((y : Int) + (y : Int) / 65536) = ((y + y / 65536 : Nat) : Int) := by rw [IntWalk.u64_in _ (by omega)]; omega
  rw [e2]
  obtain ⟨z, hz⟩ : ∃ z, z = y + y / 65536 := ⟨_, rfl⟩
  rw [← hz]
  have e3 : IntKind.u64.wrap ((z : Int) + (z : Int) / 4294967296) = ((z + z / 4294967296 : Nat) : Int) := by rw [IntWalk.u64_in _ (by omega)]; omega
  rw [e3, IntWalk.wrap64_in _ (by omega), i64_and127 _ (by omega), hz, hy]
  rfl

theorem OnesCount64_c (x : Nat) (hx : x < 18446744073709551616) (w : World) : Calls Tryd.prog 15 #[.int .u64 x] w fun e w' => e = .returned (.int .i64 (mth.popc x : Nat)) ∧ w = w' := by
  go_enter Tryd.func15, Tryd.ntmps15
  go_wp2
  go_ret
  refine ⟨ret_int ?_, rfl⟩
  simp only [step1 x hx]
  have h1 := sw1_lt x
  have HE := Lib.hid (mth.popc_eq x hx)
  generalize mth.sw1 x = y at *
  simp only [step2 y h1]
  have h2 := sw2_le y
  generalize mth.sw2 y = z at *
  simp only [step3 z h2]
  have h3 := sw3_le z
  generalize mth.sw3 z = u at *
  rw [← HE.out, ← step6 u h3]

theorem Count_c (x : Int) (h1 : 0 ≤ x) (h2 : x ≤ 18446744073709551615) (w : World) : Calls Tryd.prog 7 #[.int .u64 x] w fun e w' => e = .returned (.int .i64 (mth.popc x.toNat : Nat)) ∧ w = w' := by
  obtain ⟨X, rfl⟩ := Int.eq_ofNat_of_zero_le h1
  rw [Int.toNat_natCast]
  have hX : X < 18446744073709551616 := by omega
  go_enter Tryd.func7, Tryd.ntmps7
  go_wp2_with (go_at_call 15; refine (OnesCount64_c _ hX _).mono ?_; rintro e w' ⟨rfl, rfl⟩)
  go_ret
  exact ⟨rfl, rfl⟩

/-- is i in the set x? -/
def hasB (x i : Int) : Bool := decide (0 ≤ i) && (decide (i < 64) && x.toNat.testBit i.toNat)

theorem Has_c (x i : Int) (h1 : 0 ≤ x) (h2 : x ≤ 18446744073709551615) (w : World) : Calls Tryd.prog 6 #[.int .u64 x, .int .i64 i] w fun e w' => e = .returned (.bool (hasB x i)) ∧ w = w' := by
  unfold hasB
  by_cases hi : 0 ≤ i ∧ i < 64
  · obtain ⟨i1, i2⟩ := id hi
    obtain ⟨X, rfl⟩ := Int.eq_ofNat_of_zero_le h1
    obtain ⟨I, rfl⟩ := Int.eq_ofNat_of_zero_le i1
    go_enter Tryd.func6, Tryd.ntmps6
    go_wp2_with (go_at_call 14; refine (in_yes _ hi _).mono ?_; rintro e w' ⟨rfl, rfl⟩)
    go_ret
    refine ⟨ret_bool ?_, rfl⟩
    have e : (X : Int) / 2 ^ I = ((X / 2 ^ I : Nat) : Int) := by rw [Int.natCast_ediv, Int.natCast_pow]; rfl
    have hle : X / 2 ^ I ≤ X := Nat.div_le_self _ _
    have e1 : bits .and .u64 ((X / 2 ^ I : Nat) : Int) 1 = ((X / 2 ^ I % 2 : Nat) : Int) := by
      have := u64_and_nat (X / 2 ^ I) 1 (by omega) (by omega)
      rw [nat_mask1] at this
      exact this
    rw [e, e1, Int.toNat_natCast, Int.toNat_natCast, Nat.testBit_eq_decide_div_mod_eq, Bool.eq_iff_iff]
    simp [i2]
    omega
  · have HI := Lib.hid hi
    have hf : (decide (0 ≤ i) && (decide (i < 64) && x.toNat.testBit i.toNat)) = false := by
      rw [← Bool.and_assoc, Bool.and_eq_false_iff]
      left
      simpa using hi
    clear hi
    rw [hf]
    clear hf
    go_enter Tryd.func6, Tryd.ntmps6
    go_wp2_with (go_at_call 14; refine (in_no _ HI.out _).mono ?_; rintro e w' ⟨rfl, rfl⟩)
    go_ret
    exact ⟨rfl, rfl⟩
end Go.Proofs.YtlfeaahbmahhgaaDoor
