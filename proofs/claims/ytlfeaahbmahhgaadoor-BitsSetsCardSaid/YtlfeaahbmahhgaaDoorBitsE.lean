/-
  Contracts of With, Without, Least, the library's TrailingZeros64, and the reference's Set.
-/
import Derived.Test.YtlfeaahbmahhgaaDoorBitsD
import Derived.Test.YtlfeaahbmahhgaaDoorMathL
namespace Go.Proofs.YtlfeaahbmahhgaaDoor
open Go.RowKit
set_option linter.unusedVariables false

theorem wrap_small (p : Nat) (hp : p ≤ 9223372036854775808) : IntKind.u64.wrap (p : Int) = (p : Int) := IntWalk.u64_in _ (by omega)

/-- the set with i in it, or not; the set itself where there is no such number -/
def setV (x i : Int) (is : Bool) : Nat := if 0 ≤ i ∧ i < 64 then mth.ofBits (mth.setB x.toNat i.toNat is) 64 else x.toNat

theorem With_c (x i : Int) (h1 : 0 ≤ x) (h2 : x ≤ 18446744073709551615) (w : World) :
    Calls Tryd.prog 9 #[.int .u64 x, .int .i64 i] w fun e w' => e = .returned (.int .u64 (setV x i true : Nat)) ∧ w = w' := by
  unfold setV
  obtain ⟨X, rfl⟩ := Int.eq_ofNat_of_zero_le h1
  rw [Int.toNat_natCast]
  by_cases hi : 0 ≤ i ∧ i < 64
  · rw [if_pos hi]
    obtain ⟨i1, i2⟩ := id hi
    obtain ⟨I, rfl⟩ := Int.eq_ofNat_of_zero_le i1
    go_enter Tryd.func9, Tryd.ntmps9
    go_wp2_with (go_at_call 14; refine (in_yes _ hi _).mono ?_; rintro e w' ⟨rfl, rfl⟩)
    go_ret
    refine ⟨ret_int ?_, rfl⟩
    have hp : 2 ^ I ≤ 2 ^ 63 := Nat.pow_le_pow_right (by omega) (by omega)
    have h63 : (2 : Nat) ^ 63 = 9223372036854775808 := rfl
    have e : IntKind.u64.wrap (2 ^ I) = ((2 ^ I : Nat) : Int) := by
      have e0 : (2 : Int) ^ I = ((2 ^ I : Nat) : Int) := by rw [Int.natCast_pow]; rfl
      rw [e0]
      exact wrap_small _ (Nat.le_trans hp (by omega))
    rw [e, u64_or_nat _ _ (by omega) (by omega), Int.toNat_natCast, mth.with_eq _ _ (by omega) (by omega)]
  · rw [if_neg hi]
    have HI := Lib.hid hi
    clear hi
    go_enter Tryd.func9, Tryd.ntmps9
    go_wp2_with (go_at_call 14; refine (in_no _ HI.out _).mono ?_; rintro e w' ⟨rfl, rfl⟩)
    go_ret
    exact ⟨rfl, rfl⟩

theorem Without_c (x i : Int) (h1 : 0 ≤ x) (h2 : x ≤ 18446744073709551615) (w : World) :
    Calls Tryd.prog 11 #[.int .u64 x, .int .i64 i] w fun e w' => e = .returned (.int .u64 (setV x i false : Nat)) ∧ w = w' := by
  unfold setV
  obtain ⟨X, rfl⟩ := Int.eq_ofNat_of_zero_le h1
  rw [Int.toNat_natCast]
  by_cases hi : 0 ≤ i ∧ i < 64
  · rw [if_pos hi]
    obtain ⟨i1, i2⟩ := id hi
    obtain ⟨I, rfl⟩ := Int.eq_ofNat_of_zero_le i1
    go_enter Tryd.func11, Tryd.ntmps11
    go_wp2_with (go_at_call 14; refine (in_yes _ hi _).mono ?_; rintro e w' ⟨rfl, rfl⟩)
    go_ret
    refine ⟨ret_int ?_, rfl⟩
    have hp : 2 ^ I ≤ 2 ^ 63 := Nat.pow_le_pow_right (by omega) (by omega)
    have h63 : (2 : Nat) ^ 63 = 9223372036854775808 := rfl
    have e : IntKind.u64.wrap (2 ^ I) = ((2 ^ I : Nat) : Int) := by
      have e0 : (2 : Int) ^ I = ((2 ^ I : Nat) : Int) := by rw [Int.natCast_pow]; rfl
      rw [e0]
      exact wrap_small _ (Nat.le_trans hp (by omega))
    rw [e, u64_andNot_nat _ _ (by omega) (by omega), Int.toNat_natCast, mth.without_eq _ _ (by omega) (by omega)]
  · rw [if_neg hi]
    have HI := Lib.hid hi
    clear hi
    go_enter Tryd.func11, Tryd.ntmps11
    go_wp2_with (go_at_call 14; refine (in_no _ HI.out _).mono ?_; rintro e w' ⟨rfl, rfl⟩)
    go_ret
    exact ⟨rfl, rfl⟩

theorem setRow_bits (x i : Nat) (is : Bool) : (bitRow x 64).setIfInBounds i (.bool is) = bools (mth.setB x i is) := by
  unfold bitRow bools
  rw [rowOf_set]
  refine rowOf_congr fun j hj => ?_
  by_cases e : j = i
  · subst e; simp [mth.setB]
  · simp [mth.setB, e, hj]
theorem bools_testBit (x : Nat) : bitRow x 64 = bools (fun i => x.testBit i) := by
  unfold bitRow bools
  exact rowOf_congr fun i hi => by simp [hi]

theorem Set_ref (x i : Int) (is : Bool) (h1 : 0 ≤ x) (h2 : x ≤ 18446744073709551615) (w : World) :
    Calls Tryd.prog 10 #[.int .u64 x, .int .i64 i, .bool is] w (Ret w (.int .u64 (setV x i is : Nat))) := by
  unfold setV
  obtain ⟨X, rfl⟩ := Int.eq_ofNat_of_zero_le h1
  rw [Int.toNat_natCast]
  by_cases hi : 0 ≤ i ∧ i < 64
  · rw [if_pos hi]
    obtain ⟨i1, i2⟩ := id hi
    obtain ⟨I, rfl⟩ := Int.eq_ofNat_of_zero_le i1
    have d1 : decide (0 ≤ (I : Int)) = true := by simp
    have d2 : decide ((I : Int) < 64) = true := by simpa using i2
    rw [Int.toNat_natCast]
    have HS := Lib.hid (setRow_bits X I is)
    have hc : (bitRow X 64)[I]? = some (.bool (decide (I < 64) && X.testBit I)) := rowOf_get _ (by omega)
    go_enter Tryd.func10, Tryd.ntmps10
    go_wp2_with fail
    refine (Bits_ci _ h1 h2 _).mono ?_
    rintro e w1 ⟨rfl, hb1⟩
    rw [Int.toNat_natCast]
    have hs1 := hb1.size
    go_wp2_with (first
      | (refine wpList_alloc_agg rfl _ rfl _ boolArr_zero ?_)
      | (refine wpList_store_row rfl rfl _ _ _ rfl w1.heap.size rfl _ (rowOf 64 (fun _ => .bool false)) (bitRow X 64) rfl (heap_alloc_new _ _) (by rw [boolArr_size]; rfl) rfl (rowOf_oneCell fun _ _ => rfl) ?_; rw [World.setRow_alloc_new])
      | (refine wpList_load_row rfl _ _ rfl w1.heap.size rfl _ (bools (mth.setB X I is)) (0, 0) _ (by rw [← HS.out]; exact heap_alloc_new _ _) Tryd.underlying24 rfl (by rw [boolArr_size]; rfl) ?_)
      | (go_at_call 17; refine (Of_c _ _).mono ?_; rintro e w2 ⟨rfl, hb2⟩))
    go_ret
    exact ⟨rfl, (hb1.alloc (by omega) _).trans (hb2.mono (by simp; omega))⟩
  · rw [if_neg hi]
    have hX := mth.ofBits_testBit X 64 (show X < 2 ^ 64 by have : (2 : Nat) ^ 64 = 18446744073709551616 := rfl; omega)
    have HX := Lib.hid hX
    clear hX
    have d : (decide (0 ≤ i) = true ∧ decide (i < 64) = false) ∨ decide (0 ≤ i) = false := by
      by_cases h : 0 ≤ i
      · left; exact ⟨by simpa using h, by simp; omega⟩
      · right; simpa using h
    clear hi
    rcases d with ⟨d1, d2⟩ | d1
    all_goals
      go_enter Tryd.func10, Tryd.ntmps10
      go_wp2_with fail
      refine (Bits_ci _ h1 h2 _).mono ?_
      rintro e w1 ⟨rfl, hb1⟩
      rw [Int.toNat_natCast]
      have hs1 := hb1.size
      go_wp2_with (first
        | (refine wpList_alloc_agg rfl _ rfl _ boolArr_zero ?_)
        | (refine wpList_store_row rfl rfl _ _ _ rfl w1.heap.size rfl _ (rowOf 64 (fun _ => .bool false)) (bitRow X 64) rfl (heap_alloc_new _ _) (by rw [boolArr_size]; rfl) rfl (rowOf_oneCell fun _ _ => rfl) ?_; rw [World.setRow_alloc_new, bools_testBit])
        | (refine wpList_load_row rfl _ _ rfl w1.heap.size rfl _ (bools (fun i => X.testBit i)) (0, 0) _ (heap_alloc_new _ _) Tryd.underlying24 rfl (by rw [boolArr_size]; rfl) ?_)
        | (go_at_call 17; refine (Of_c _ _).mono ?_; rintro e w2 ⟨rfl, hb2⟩))
      go_ret
      exact ⟨ret_int (by rw [HX.out]), (hb1.alloc (by omega) _).trans (hb2.mono (by simp; omega))⟩

/-- the library's table lies where it is looked for -/
def Tab (w : World) : Prop := 0 < w.heap.size ∧ ∀ i, i < 64 → w.cell? ⟨0, i, none⟩ = some (.int .u8 ((mth.tab.getD i 0 : Nat) : Int))
theorem Tab.below {w w' : World} (h : Tab w) (hb : Below w.heap.size w w') : Tab w' :=
  ⟨Nat.lt_of_lt_of_le h.1 hb.size, fun i hi => (hb.cell (p := ⟨0, i, none⟩) h.1).trans (h.2 i hi)⟩

theorem TrailingZeros64_c (x k : Nat) (hx : x < 18446744073709551616) (h0 : x ≠ 0) (hk : mth.leastFrom x 0 64 = (k : Int)) (w : World) (ht : Tab w) :
    Calls Tryd.prog 16 #[.int .u64 x] w fun e w' => e = .returned (.int .i64 k) ∧ w = w' := by
  obtain ⟨i, e, _, hi, hb, hl⟩ := mth.leastFrom_some x 64 0 (by rw [hk]; omega)
  obtain rfl : i = k := by omega
  have hand := mth.and_neg x i hx hb (fun j hj => hl j (by omega) hj)
  obtain ⟨t1, t2⟩ := mth.tab_at i (by omega)
  have hcell := ht.2 _ t1
  rw [t2] at hcell
  have e0 : ((x : Int) == 0) = false := by simpa using h0
  have e1 : bits .and .u64 (x : Int) (IntKind.u64.wrap (-(x : Int))) = ((2 ^ i : Nat) : Int) := by
    have : IntKind.u64.wrap (-(x : Int)) = ((18446744073709551616 - x : Nat) : Int) := by rw [IntKind.wrap_u64]; omega
    rw [this, u64_and_nat _ _ hx (by omega), hand]
  have e2 : IntKind.u64.wrap (((2 ^ i : Nat) : Int) * 285870213051353865) = ((2 ^ i * 285870213051353865 % 18446744073709551616 : Nat) : Int) := by
    rw [IntKind.wrap_u64]; omega
  generalize hp : 2 ^ i = p at *
  generalize hq : p * 285870213051353865 % 18446744073709551616 = q at *
  clear hand e hb hl hk hp hq ht t2 h0
  have hj : (q : Int) / 288230376151711744 < 64 := by omega
  have hi64 : (i : Int) ≤ 255 := by omega
  go_enter Tryd.func16, Tryd.ntmps16
  go_wp2
  go_ret
  exact ⟨rfl, rfl⟩

theorem Least_c (x : Int) (h1 : 0 ≤ x) (h2 : x ≤ 18446744073709551615) (w : World) (ht : Tab w) :
    Calls Tryd.prog 8 #[.int .u64 x] w fun e w' => e = .returned (.int .i64 (mth.leastFrom x.toNat 0 64)) ∧ w = w' := by
  obtain ⟨X, rfl⟩ := Int.eq_ofNat_of_zero_le h1
  rw [Int.toNat_natCast]
  by_cases h0 : X = 0
  · subst h0
    rw [mth.leastFrom_zero]
    go_enter Tryd.func8, Tryd.ntmps8
    go_wp2_with fail
    go_ret
    exact ⟨rfl, rfl⟩
  · have hne := mth.leastFrom_ne X (by have : (2 : Nat) ^ 64 = 18446744073709551616 := rfl; omega) h0
    obtain ⟨i, e, _, _, _, _⟩ := mth.leastFrom_some X 64 0 hne
    rw [e]
    have HE := Lib.hid e
    have HT := Lib.hid ht
    have e0 : ((X : Int) == 0) = false := by simpa using h0
    have hX : X < 18446744073709551616 := by omega
    clear e hne ht
    go_enter Tryd.func8, Tryd.ntmps8
    go_wp2_with (go_at_call 16; refine (TrailingZeros64_c _ _ hX h0 HE.out _ HT.out).mono ?_; rintro e w' ⟨rfl, rfl⟩)
    go_ret
    exact ⟨rfl, rfl⟩
end Go.Proofs.YtlfeaahbmahhgaaDoor
