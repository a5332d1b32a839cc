/-
  Contracts of the package bits and of its reference: what each function returns.
-/
import Derived.Test.YtlfeaahbmahhgaaDoorKitA
import Derived.Test.YtlfeaahbmahhgaaDoorMathA
namespace Go.Proofs.YtlfeaahbmahhgaaDoor
open Go.RowKit
set_option linter.unusedVariables false

/-- the bits of a number below n, the others false -/
def bitRow (x n : Nat) : Array Value := rowOf 64 fun i => .bool (decide (i < n) && x.testBit i)

theorem zero64 : rowOf 64 (fun _ => .bool false) = (Array.replicate 64 (Value.bool false)) := by
  apply Array.ext_getElem?
  intro j
  by_cases hj : j < 64
  · rw [rowOf_get _ hj]; simp [hj]
  · rw [rowOf_get_none _ (by omega)]; simp; omega

theorem boolArr_zero : (Tryd.prog.info? 24).map (fun i => i.zero) = some (some (.agg (rowOf 64 (fun _ => .bool false)))) := by
  rw [zero64]; kernel_rfl
theorem boolArr_size : (Tryd.prog.info? 24).map (·.size) = some 64 := by kernel_rfl

theorem bitRow_zero (x : Nat) : bitRow x 0 = rowOf 64 (fun _ => .bool false) := by
  unfold bitRow; exact rowOf_congr fun i _ => by simp
theorem bitRow_succ (x k : Nat) : (bitRow x k).setIfInBounds k (.bool ((((x / 2 ^ k : Nat) : Int) % 2) == 1)) = bitRow x (k + 1) := by
  unfold bitRow
  rw [rowOf_set]
  refine rowOf_congr fun i _ => ?_
  by_cases e : i = k
  · subst e
    have : (((x / 2 ^ i : Nat) : Int) % 2 == 1) = x.testBit i := by
      rw [Nat.testBit_eq_decide_div_mod_eq, Bool.eq_iff_iff, beq_iff_eq, decide_eq_true_eq]; omega
    rw [if_pos rfl, this]; simp
  · have : decide (i < k + 1) = decide (i < k) := by rw [Bool.eq_iff_iff]; simp; omega
    simp [e, this]
theorem div_pow_succ (x k : Nat) : x / 2 ^ k / 2 = x / 2 ^ (k + 1) := by rw [Nat.div_div_eq_div_mul, Nat.pow_succ]

theorem Bits_c (x : Nat) (hx : x < 18446744073709551616) (w : World) : Calls Tryd.prog 5 #[.int .u64 x] w (Ret w (.agg (bitRow x 64))) := by
  go_enter Tryd.func5, Tryd.ntmps5
  go_wp2_with (refine wpList_alloc_agg rfl _ rfl _ boolArr_zero ?_)
  go_loopw [0, 4] (fun xv iv wr => ∃ k : Nat, k ≤ 64 ∧ iv = .int .i64 k ∧ xv = .int .u64 ((x / 2 ^ k : Nat) : Int) ∧ wr = (w.alloc (.cells (bitRow x 0) 24)).alloc (.cells (bitRow x k) 24)) (fun _ iv _ => 64 - (intOf iv).toNat)
  case atStart => exact ⟨0, by omega, by go_num, by simp, by rw [bitRow_zero]⟩
  case round =>
    obtain ⟨k, hk, rfl, rfl, rfl⟩ := hrel
    have hb : x / 2 ^ k ≤ x := Nat.div_le_self _ _
    have hs : 0 ≤ (k : Int) := by omega
    generalize hy : x / 2 ^ k = y at *
    have HY := Lib.hid hy
    clear hy
    by_cases hlt : k < 64
    · have hc : (bitRow x k)[k]? = some (.bool (decide (k < k) && x.testBit k)) := rowOf_get _ hlt
      go_wp2
      go_roundw
      case rel =>
        refine ⟨k + 1, by omega, by go_num, ?_, ?_⟩
        · rw [← div_pow_succ, HY.out]; rfl
        · rw [← bitRow_succ, HY.out]
      case measure => simp [intOf]; omega
    · obtain rfl : k = 64 := by omega
      go_wp2_with (first
        | (refine wpList_load_row rfl _ _ rfl (w.heap.size + 1) rfl _ (bitRow x 64) (0, 0) _ (heap_alloc2_new _ _ _) Tryd.underlying24 rfl (by rw [boolArr_size]; rfl) ?_)
        | (refine wpList_store_row rfl rfl _ _ _ rfl w.heap.size rfl _ (bitRow x 0) (bitRow x 64) rfl (heap_alloc2_old _ _ _) (by rw [boolArr_size]; rfl) rfl (rowOf_oneCell fun _ _ => rfl) ?_))
      refine bodyPost_ret (results_cell_row rfl _ _ w.heap.size _ (bitRow x 64) (0, 0) _ rfl (setRow_heap _ _ _ _ _ _ (heap_alloc2_old _ _ _)) Tryd.underlying24 rfl (by rw [boolArr_size]; rfl)) rfl ?_
      exact ⟨rfl, below_setRow (((Below.refl _ _).alloc (Nat.le_refl _) _).alloc (by simp) _) (Nat.le_refl _) _⟩

/-- a row of 64 bools -/
def bools (f : Nat → Bool) : Array Value := rowOf 64 fun i => .bool (f i)

theorem ofBits_step (f : Nat → Bool) (k : Nat) : mth.ofBits f (k + 1) = mth.ofBits f k + if f k then 2 ^ k else 0 := rfl

theorem Of_c (f : Nat → Bool) (w : World) : Calls Tryd.prog 17 #[.agg (bools f)] w (Ret w (.int .u64 (mth.ofBits f 64 : Nat))) := by
  go_enter Tryd.func17, Tryd.ntmps17
  go_wp2_with (refine wpList_box_agg rfl _ _ rfl (bools f) rfl ?_)
  go_loop [3, 4, 5] (fun xv yv iv => ∃ k : Nat, k ≤ 64 ∧ iv = .int .i64 k ∧ xv = .int .u64 (mth.ofBits f k : Nat) ∧ yv = .int .u64 ((2 ^ k % 18446744073709551616 : Nat) : Int)) (fun _ _ iv => 64 - (intOf iv).toNat)
  case atStart => exact ⟨0, by omega, by go_num, by rfl, by rfl⟩
  case round =>
    obtain ⟨k, hk, rfl, rfl, rfl⟩ := hrel
    by_cases hlt : k < 64
    · have h1 := mth.ofBits_lt f k
      have h2 : 2 ^ (k + 1) ≤ 2 ^ 64 := Nat.pow_le_pow_right (by omega) (by omega)
      have h3 : 2 ^ (k + 1) = 2 * 2 ^ k := by rw [Nat.pow_succ]; omega
      have HX := Lib.hid (ofBits_step f k)
      have HY := Lib.hid h3
      have h64 : (2 : Nat) ^ 64 = 18446744073709551616 := rfl
      have h4 : 2 ^ k ≤ 9223372036854775808 := by omega
      have h5 : 2 ^ k % 18446744073709551616 = 2 ^ k := Nat.mod_eq_of_lt (by omega)
      rw [h5]
      clear h2 h3 h64 h5
      generalize mth.ofBits f k = x at *
      generalize 2 ^ k = y at *
      have h6 : (x : Int) + y ≤ 18446744073709551615 := by omega
      have hc : (bools f)[k]? = some (.bool (f k)) := rowOf_get _ hlt
      cases hf : f k
      all_goals
        have HF := Lib.hid hf
        rw [hf] at hc
        clear hf
        go_wp2
        go_round
        case rel =>
          refine ⟨k + 1, by omega, by go_num, ?_, ?_⟩
          · rw [HX.out, HF.out]; first | rfl | go_num
          · rw [HY.out, IntKind.wrap_u64]; go_num
        case measure => simp [intOf]; omega
    · obtain rfl : k = 64 := by omega
      go_wp2
      go_ret
      exact ⟨rfl, (Below.refl _ _).alloc (Nat.le_refl _) _⟩

theorem Narrow_c (n width : Int) (w : World) (h1 : -9223372036854775808 ≤ n) (h2 : n ≤ 9223372036854775807) :
    Calls Tryd.prog 12 #[.int .i64 n, .int .i64 width] w fun e w' => e = .returned (.int .i64 (mth.narrow n width)) ∧ w = w' := by
  by_cases ha : width < 1
  · go_enter Tryd.func12, Tryd.ntmps12
    go_wp2
    go_ret
    exact ⟨ret_int (by unfold mth.narrow; rw [if_pos (.inl ha)]), rfl⟩
  · by_cases hb : 64 < width
    · go_enter Tryd.func12, Tryd.ntmps12
      go_wp2
      go_ret
      exact ⟨ret_int (by unfold mth.narrow; rw [if_pos (.inr hb)]), rfl⟩
    · have ha' : 1 ≤ width := by omega
      have hb' : width ≤ 64 := by omega
      go_enter Tryd.func12, Tryd.ntmps12
      go_wp2
      go_ret
      refine ⟨ret_int ?_, rfl⟩
      obtain ⟨k, rfl⟩ := Int.eq_ofNat_of_zero_le (show 0 ≤ width by omega)
      have e : ((64 : Int) - (k : Int)).toNat = 64 - k := by omega
      rw [e]
      unfold wrap64
      exact mth.narrow_shifts n k (by omega) (by omega)

theorem below_c (n : Int) (w : World) : Calls Tryd.prog 18 #[.int .i64 n] w fun e w' => e = .returned (.int .u64 (mth.mask n : Nat)) ∧ w = w' := by
  by_cases h1 : 64 ≤ n
  · go_enter Tryd.func18, Tryd.ntmps18
    go_wp2
    go_ret
    exact ⟨ret_int (by unfold mth.mask; rw [show min n.toNat 64 = 64 from by omega]; rfl), rfl⟩
  · by_cases h2 : n ≤ 0
    · go_enter Tryd.func18, Tryd.ntmps18
      go_wp2
      all_goals
        go_ret
        refine ⟨ret_int ?_, rfl⟩
        unfold mth.mask
        rw [show min n.toNat 64 = 0 from by omega]
        first | rfl | (rw [show n.toNat = 0 from by omega]; rfl)
    · go_enter Tryd.func18, Tryd.ntmps18
      go_wp2
      all_goals
        go_ret
        refine ⟨ret_int ?_, rfl⟩
        unfold mth.mask
        rw [show min n.toNat 64 = n.toNat from by omega]
        have h3 : 2 ^ n.toNat ≤ 2 ^ 63 := Nat.pow_le_pow_right (by omega) (by omega)
        have h4 : (2 : Nat) ^ 63 = 9223372036854775808 := rfl
        have h5 := Nat.two_pow_pos n.toNat
        have h6 : (2 : Int) ^ n.toNat = ((2 ^ n.toNat : Nat) : Int) := by rw [Int.natCast_pow]; rfl
        rw [h6, IntKind.wrap_u64, IntKind.wrap_u64]
        omega

theorem Span_c (m n : Int) (w : World) : Calls Tryd.prog 13 #[.int .i64 m, .int .i64 n] w fun e w' => e = .returned (.int .u64 (mth.span m n : Nat)) ∧ w = w' := by
  have h1 := mth.mask_lt m
  have h2 := mth.mask_lt n
  have HE := Lib.hid (mth.span_eq m n)
  go_enter Tryd.func13, Tryd.ntmps13
  go_wp2_with (go_at_call 18; refine (below_c _ _).mono ?_; rintro e w' ⟨rfl, rfl⟩)
  go_ret
  exact ⟨ret_int (by rw [u64_andNot_nat _ _ h2 h1, HE.out]), rfl⟩

theorem Bits_ci (x : Int) (h1 : 0 ≤ x) (h2 : x ≤ 18446744073709551615) (w : World) : Calls Tryd.prog 5 #[.int .u64 x] w (Ret w (.agg (bitRow x.toNat 64))) := by
  obtain ⟨n, rfl⟩ := Int.eq_ofNat_of_zero_le h1
  rw [Int.toNat_natCast]
  exact Bits_c n (by omega) w

/-- a number's bits, those from wd on below k being its bit wd-1 -/
def tops (u wd k : Nat) : Nat → Bool := fun i => if wd ≤ i ∧ i < k then u.testBit (wd - 1) else u.testBit i
theorem tops_none (u wd : Nat) : bools (tops u wd wd) = bitRow u 64 := by
  unfold bools bitRow
  exact rowOf_congr fun i hi => by simp [tops, hi]; intro h1 h2; omega
theorem tops_all (u wd : Nat) : bools (tops u wd 64) = bools (mth.nbits u wd) := by
  unfold bools
  refine rowOf_congr fun i hi => ?_
  simp only [tops, mth.nbits]
  by_cases h : i < wd
  · rw [if_neg (by omega), if_pos h]
  · rw [if_pos (by omega), if_neg h]
theorem tops_succ (u wd k : Nat) (h : wd ≤ k) : (bools (tops u wd k)).setIfInBounds k (.bool (u.testBit (wd - 1))) = bools (tops u wd (k + 1)) := by
  unfold bools
  rw [rowOf_set]
  refine rowOf_congr fun i hi => ?_
  by_cases e : i = k
  · subst e; simp [tops, h]
  · have : (wd ≤ i ∧ i < k + 1) = (wd ≤ i ∧ i < k) := by apply propext; omega
    simp [tops, e, this]
end Go.Proofs.YtlfeaahbmahhgaaDoor
