/-
  Contracts of the package bits and of its reference: what each function returns.
-/
import Derived.Test.YtlfeaahbmahhgaaKitA
import Derived.Test.YtlfeaahbmahhgaaMathA
namespace Go.Proofs.Ytlfeaahbmahhgaa
open Go.RowKit
set_option linter.unusedVariables false

/-- the bits of a number below n, the others false -/
def bitRow (x n : Nat) : Array Value := rowOf 64 fun i => .bool (decide (i < n) && x.testBit i)

theorem zero64 : rowOf 64 (fun _ => .bool false) = (Array.replicate 64 (Value.bool false)) := by
  apply Array.ext_getElem?
  intro j
  by_cases hj : j < 64
  · rw [rowOf_get _ hj]; simp [hj]
  · rw [rowOf_get_none _ (by omega)]; simp; omega

theorem boolArr_zero : (Try.prog.info? 40).map (fun i => i.zero) = some (some (.agg (rowOf 64 (fun _ => .bool false)))) := by
  rw [zero64]; kernel_rfl
theorem boolArr_size : (Try.prog.info? 40).map (·.size) = some 64 := by kernel_rfl

theorem bitRow_zero (x : Nat) : bitRow x 0 = rowOf 64 (fun _ => .bool false) := by
  unfold bitRow; exact rowOf_congr fun i _ => by simp
theorem bitRow_succ (x k : Nat) : (bitRow x k).setIfInBounds k (.bool ((((x / 2 ^ k : Nat) : Int) % 2) == 1)) = bitRow x (k + 1) := by
  unfold bitRow
  rw [rowOf_set]
  refine rowOf_congr fun i _ => ?_
  by_cases e : i = k
  · subst e
    have : (((x / 2 ^ i : Nat) : Int) % 2 == 1) = x.testBit i := by
      rw [Nat.testBit_eq_decide_div_mod_eq, Bool.eq_iff_iff, beq_iff_eq, decide_eq_true_eq]; omega
    rw [if_pos rfl, this]; simp
  · have : decide (i < k + 1) = decide (i < k) := by rw [Bool.eq_iff_iff]; simp; omega
    simp [e, this]
theorem div_pow_succ (x k : Nat) : x / 2 ^ k / 2 = x / 2 ^ (k + 1) := by rw [Nat.div_div_eq_div_mul, Nat.pow_succ]

theorem Bits_c (x : Nat) (hx : x < 18446744073709551616) (w : World) : Calls Try.prog 19 #[.int .u64 x] w (Ret w (.agg (bitRow x 64))) := by
  go_enter Try.func19, Try.ntmps19
  go_wp2_with (refine wpList_alloc_agg rfl _ rfl _ boolArr_zero ?_)
  go_loopw [0, 4] (fun xv iv wr => ∃ k : Nat, k ≤ 64 ∧ iv = .int .i64 k ∧ xv = .int .u64 ((x / 2 ^ k : Nat) : Int) ∧ wr = (w.alloc (.cells (bitRow x 0) 40)).alloc (.cells (bitRow x k) 40)) (fun _ iv _ => 64 - (intOf iv).toNat)
  case atStart => exact ⟨0, by omega, by go_num, by simp, by rw [bitRow_zero]⟩
  case round =>
    obtain ⟨k, hk, rfl, rfl, rfl⟩ := hrel
    have hb : x / 2 ^ k ≤ x := Nat.div_le_self _ _
    have hs : 0 ≤ (k : Int) := by omega
    generalize hy : x / 2 ^ k = y at *
    have HY := Lib.hid hy
    clear hy
    by_cases hlt : k < 64
    · have hc : (bitRow x k)[k]? = some (.bool (decide (k < k) && x.testBit k)) := rowOf_get _ hlt
      go_wp2
      go_roundw
      case rel =>
        refine ⟨k + 1, by omega, by go_num, ?_, ?_⟩
        · rw [← div_pow_succ, HY.out]; rfl
        · rw [← bitRow_succ, HY.out]
      case measure => simp [intOf]; omega
    · obtain rfl : k = 64 := by omega
      go_wp2_with (first
        | (refine wpList_load_row rfl _ _ rfl (w.heap.size + 1) rfl _ (bitRow x 64) (0, 0) _ (heap_alloc2_new _ _ _) Try.underlying40 rfl (by rw [boolArr_size]; rfl) ?_)
        | (refine wpList_store_row rfl rfl _ _ _ rfl w.heap.size rfl _ (bitRow x 0) (bitRow x 64) rfl (heap_alloc2_old _ _ _) (by rw [boolArr_size]; rfl) rfl (rowOf_oneCell fun _ _ => rfl) ?_))
      refine bodyPost_ret (results_cell_row rfl _ _ w.heap.size _ (bitRow x 64) (0, 0) _ rfl (setRow_heap _ _ _ _ _ _ (heap_alloc2_old _ _ _)) Try.underlying40 rfl (by rw [boolArr_size]; rfl)) rfl ?_
      exact ⟨rfl, below_setRow (((Below.refl _ _).alloc (Nat.le_refl _) _).alloc (by simp) _) (Nat.le_refl _) _⟩

/-- a row of 64 bools -/
def bools (f : Nat → Bool) : Array Value := rowOf 64 fun i => .bool (f i)

theorem ofBits_step (f : Nat → Bool) (k : Nat) : mth.ofBits f (k + 1) = mth.ofBits f k + if f k then 2 ^ k else 0 := rfl

theorem Of_c (f : Nat → Bool) (w : World) : Calls Try.prog 20 #[.agg (bools f)] w (Ret w (.int .u64 (mth.ofBits f 64 : Nat))) := by
  go_enter Try.func20, Try.ntmps20
  go_wp2_with (refine wpList_box_agg rfl _ _ rfl (bools f) rfl ?_)
  go_loop [3, 4, 5] (fun xv yv iv => ∃ k : Nat, k ≤ 64 ∧ iv = .int .i64 k ∧ xv = .int .u64 (mth.ofBits f k : Nat) ∧ yv = .int .u64 ((2 ^ k % 18446744073709551616 : Nat) : Int)) (fun _ _ iv => 64 - (intOf iv).toNat)
  case atStart => exact ⟨0, by omega, by go_num, by rfl, by rfl⟩
  case round =>
    obtain ⟨k, hk, rfl, rfl, rfl⟩ := hrel
    by_cases hlt : k < 64
    · have h1 := mth.ofBits_lt f k
      have h2 : 2 ^ (k + 1) ≤ 2 ^ 64 := Nat.pow_le_pow_right (by omega) (by omega)
      have h3 : 2 ^ (k + 1) = 2 * 2 ^ k := by rw [Nat.pow_succ]; omega
      have HX := Lib.hid (ofBits_step f k)
      have HY := Lib.hid h3
      have h64 : (2 : Nat) ^ 64 = 18446744073709551616 := rfl
      have h4 : 2 ^ k ≤ 9223372036854775808 := by omega
      have h5 : 2 ^ k % 18446744073709551616 = 2 ^ k := Nat.mod_eq_of_lt (by omega)
      rw [h5]
      clear h2 h3 h64 h5
      generalize mth.ofBits f k = x at *
      generalize 2 ^ k = y at *
      have h6 : (x : Int) + y ≤ 18446744073709551615 := by omega
      have hc : (bools f)[k]? = some (.bool (f k)) := rowOf_get _ hlt
      cases hf : f k
      all_goals
        have HF := Lib.hid hf
        rw [hf] at hc
        clear hf
        go_wp2
        go_round
        case rel =>
          refine ⟨k + 1, by omega, by go_num, ?_, ?_⟩
          · rw [HX.out, HF.out]; first | rfl | go_num
          · rw [HY.out, IntKind.wrap_u64]; go_num
        case measure => simp [intOf]; omega
    · obtain rfl : k = 64 := by omega
      go_wp2
      go_ret
      exact ⟨rfl, (Below.refl _ _).alloc (Nat.le_refl _) _⟩

theorem Narrow_c (n width : Int) (w : World) (h1 : -9223372036854775808 ≤ n) (h2 : n ≤ 9223372036854775807) :
    Calls Try.prog 8 #[.int .i64 n, .int .i64 width] w fun e w' => e = .returned (.int .i64 (mth.narrow n width)) ∧ w = w' := by
  by_cases ha : width < 1
  · go_enter Try.func8, Try.ntmps8
    go_wp2
    go_ret
    exact ⟨ret_int (by unfold mth.narrow; rw [if_pos (.inl ha)]), rfl⟩
  · by_cases hb : 64 < width
    · go_enter Try.func8, Try.ntmps8
      go_wp2
      go_ret
      exact ⟨ret_int (by unfold mth.narrow; rw [if_pos (.inr hb)]), rfl⟩
    · have ha' : 1 ≤ width := by omega
      have hb' : width ≤ 64 := by omega
      go_enter Try.func8, Try.ntmps8
      go_wp2
      go_ret
      refine ⟨ret_int ?_, rfl⟩
      obtain ⟨k, rfl⟩ := Int.eq_ofNat_of_zero_le (show 0 ≤ width by omega)
      have e : ((64 : Int) - (k : Int)).toNat = 64 - k := by omega
      rw [e]
      unfold wrap64
      exact mth.narrow_shifts n k (by omega) (by omega)

theorem below_c (n : Int) (w : World) : Calls Try.prog 22 #[.int .i64 n] w fun e w' => e = .returned (.int .u64 (mth.mask n : Nat)) ∧ w = w' := by
  by_cases h1 : 64 ≤ n
  · go_enter Try.func22, Try.ntmps22
    go_wp2
    go_ret
    exact ⟨ret_int (by unfold mth.mask; rw [show min n.toNat 64 = 64 from by omega]; rfl), rfl⟩
  · by_cases h2 : n ≤ 0
    · go_enter Try.func22, Try.ntmps22
      go_wp2
      all_goals
        go_ret
        refine ⟨ret_int ?_, rfl⟩
        unfold mth.mask
        rw [show min n.toNat 64 = 0 from by omega]
        first | rfl | (rw [show n.toNat = 0 from by omega]; rfl)
    · go_enter Try.func22, Try.ntmps22
      go_wp2
      all_goals
        go_ret
        refine ⟨ret_int ?_, rfl⟩
        unfold mth.mask
        rw [show min n.toNat 64 = n.toNat from by omega]
        have h3 : 2 ^ n.toNat ≤ 2 ^ 63 := Nat.pow_le_pow_right (by omega) (by omega)
        have h4 : (2 : Nat) ^ 63 = 9223372036854775808 := rfl
        have h5 := Nat.two_pow_pos n.toNat
        have h6 : (2 : Int) ^ n.toNat = ((2 ^ n.toNat : Nat) : Int) := by rw [Int.natCast_pow]; rfl
        rw [h6, IntKind.wrap_u64, IntKind.wrap_u64]
        omega

theorem Span_c (m n : Int) (w : World) : Calls Try.prog 15 #[.int .i64 m, .int .i64 n] w fun e w' => e = .returned (.int .u64 (mth.span m n : Nat)) ∧ w = w' := by
  have h1 := mth.mask_lt m
  have h2 := mth.mask_lt n
  have HE := Lib.hid (mth.span_eq m n)
  go_enter Try.func15, Try.ntmps15
  go_wp2_with (go_at_call 22; refine (below_c _ _).mono ?_; rintro e w' ⟨rfl, rfl⟩)
  go_ret
  exact ⟨ret_int (by rw [u64_andNot_nat _ _ h2 h1, HE.out]), rfl⟩

theorem Bits_ci (x : Int) (h1 : 0 ≤ x) (h2 : x ≤ 18446744073709551615) (w : World) : Calls Try.prog 19 #[.int .u64 x] w (Ret w (.agg (bitRow x.toNat 64))) := by
  obtain ⟨n, rfl⟩ := Int.eq_ofNat_of_zero_le h1
  rw [Int.toNat_natCast]
  exact Bits_c n (by omega) w

/-- a number's bits, those from wd on below k being its bit wd-1 -/
def tops (u wd k : Nat) : Nat → Bool := fun i => if wd ≤ i ∧ i < k then u.testBit (wd - 1) else u.testBit i
theorem tops_none (u wd : Nat) : bools (tops u wd wd) = bitRow u 64 := by
  unfold bools bitRow
  exact rowOf_congr fun i hi => by simp [tops, hi]; intro h1 h2; omega
theorem tops_all (u wd : Nat) : bools (tops u wd 64) = bools (mth.nbits u wd) := by
  unfold bools
  refine rowOf_congr fun i hi => ?_
  simp only [tops, mth.nbits]
  by_cases h : i < wd
  · rw [if_neg (by omega), if_pos h]
  · rw [if_pos (by omega), if_neg h]
theorem tops_succ (u wd k : Nat) (h : wd ≤ k) : (bools (tops u wd k)).setIfInBounds k (.bool (u.testBit (wd - 1))) = bools (tops u wd (k + 1)) := by
  unfold bools
  rw [rowOf_set]
  refine rowOf_congr fun i hi => ?_
  by_cases e : i = k
  · subst e; simp [tops, h]
  · have : (wd ≤ i ∧ i < k + 1) = (wd ≤ i ∧ i < k) := by apply propext; omega
    simp [tops, e, this]
theorem Narrow_ref (n width : Int) (w : World) (h1 : -9223372036854775808 ≤ n) (h2 : n ≤ 9223372036854775807) :
    Calls Try.prog 7 #[.int .i64 n, .int .i64 width] w (Ret w (.int .i64 (mth.narrow n width))) := by
  by_cases ha : width < 1
  · go_enter Try.func7, Try.ntmps7
    go_wp2
    go_ret
    exact ⟨ret_int (by unfold mth.narrow; rw [if_pos (.inl ha)]), Below.refl _ _⟩
  · by_cases hb : 64 < width
    · go_enter Try.func7, Try.ntmps7
      go_wp2
      go_ret
      exact ⟨ret_int (by unfold mth.narrow; rw [if_pos (.inr hb)]), Below.refl _ _⟩
    · have ha' : 1 ≤ width := by omega
      have hb' : width ≤ 64 := by omega
      clear ha hb
      obtain ⟨wd, rfl⟩ := Int.eq_ofNat_of_zero_le (show 0 ≤ width by omega)
      have hu0 := IntKind.wrap_u64 n
      have hu1 : 0 ≤ IntKind.u64.wrap n := by rw [hu0]; omega
      have hu2 : IntKind.u64.wrap n ≤ 18446744073709551615 := by rw [hu0]; omega
      have HU := Lib.hid hu0
      clear hu0
      go_enter Try.func7, Try.ntmps7
      go_wp2_with fail
      refine (Bits_ci _ hu1 hu2 _).mono ?_
      rintro e w1 ⟨rfl, hb1⟩
      obtain ⟨u, hu⟩ : ∃ u, u = (IntKind.u64.wrap n).toNat := ⟨_, rfl⟩
      rw [← hu]
      have HV : Hid ((u : Int) = n % 18446744073709551616) := Lib.hid (by have := HU.out; omega)
      clear hu HU hu1 hu2
      go_wp2_with (first
        | (refine wpList_alloc_agg rfl _ rfl _ boolArr_zero ?_)
        | (refine wpList_store_row rfl rfl _ _ _ rfl w1.heap.size rfl _ (rowOf 64 (fun _ => .bool false)) (bitRow u 64) rfl (heap_alloc_new _ _) (by rw [boolArr_size]; rfl) rfl (rowOf_oneCell fun _ _ => rfl) ?_; rw [World.setRow_alloc_new]))
      go_loopw [6] (fun iv wr => ∃ k : Nat, wd ≤ k ∧ k ≤ 64 ∧ iv = .int .i64 k ∧ wr = w1.alloc (.cells (bools (tops u wd k)) 40)) (fun iv _ => 64 - (intOf iv).toNat)
      case atStart => exact ⟨wd, by omega, by omega, rfl, by rw [tops_none]⟩
      case round =>
        obtain ⟨k, hk0, hk, rfl, rfl⟩ := hrel
        by_cases hlt : k < 64
        · have hc1 : (bools (tops u wd k))[wd - 1]? = some (.bool (u.testBit (wd - 1))) := by
            unfold bools
            rw [rowOf_get _ (by omega)]
            simp [tops]
          have hc2 : (bools (tops u wd k))[k]? = some (.bool (tops u wd k k)) := rowOf_get _ hlt
          have HS := Lib.hid (tops_succ u wd k hk0)
          go_wp2
          go_roundw
          case rel =>
            refine ⟨k + 1, by omega, by omega, by go_num, ?_⟩
            rw [HS.out]
          case measure => simp [intOf]; omega
        · obtain rfl : k = 64 := by omega
          go_wp2_with (first
            | (refine wpList_load_row rfl _ _ rfl w1.heap.size rfl _ (bools (tops u wd 64)) (0, 0) _ (heap_alloc_new _ _) Try.underlying40 rfl (by rw [boolArr_size]; rfl) ?_)
            | (go_at_call 20; refine (Of_c _ _).mono ?_; rintro e w2 ⟨rfl, hb2⟩))
          go_ret
          refine ⟨ret_int ?_, (hb1.alloc (by simp [hb1.size]) _).trans (hb2.mono (by have := hb1.size; simp; omega))⟩
          unfold wrap64
          rw [show mth.ofBits (tops u wd 64) 64 = mth.ofBits (mth.nbits u wd) 64 from mth.ofBits_congr fun i hi => ?_]
          · exact mth.narrow_bits n u wd (by omega) (by omega) HV.out
          · simp only [tops, mth.nbits]
            by_cases h : i < wd
            · rw [if_neg (by omega), if_pos h]
            · rw [if_pos (by omega), if_neg h]

theorem Fits_c (n width : Int) (w : World) (h1 : -9223372036854775808 ≤ n) (h2 : n ≤ 9223372036854775807) :
    Calls Try.prog 9 #[.int .i64 n, .int .i64 width] w fun e w' => e = .returned (.bool (decide (1 ≤ width) && decide (width ≤ 64) && (mth.narrow n width == n))) ∧ w = w' := by
  by_cases ha : 1 ≤ width
  · by_cases hb : width ≤ 64
    · have hd1 : decide (1 ≤ width) = true := by simpa using ha
      have hd2 : decide (width ≤ 64) = true := by simpa using hb
      go_enter Try.func9, Try.ntmps9
      go_wp2_with (go_at_call 8; refine (Narrow_c _ _ _ h1 h2).mono ?_; rintro e w' ⟨rfl, rfl⟩)
      go_ret
      exact ⟨ret_bool (by rw [hd1, hd2]; rfl), rfl⟩
    · have hd1 : decide (1 ≤ width) = true := by simpa using ha
      have hd2 : decide (width ≤ 64) = false := by simpa using hb
      go_enter Try.func9, Try.ntmps9
      go_wp2_with fail
      go_ret
      exact ⟨rfl, rfl⟩
  · have hd1 : decide (1 ≤ width) = false := by simpa using ha
    go_enter Try.func9, Try.ntmps9
    go_wp2_with fail
    go_ret
    exact ⟨rfl, rfl⟩
end Go.Proofs.Ytlfeaahbmahhgaa
