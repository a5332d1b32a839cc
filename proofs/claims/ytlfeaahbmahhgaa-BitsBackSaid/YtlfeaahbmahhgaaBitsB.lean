/-
  Contracts of the package bits and of its reference: parts, spans, errors' numbers.
-/
import Derived.Test.YtlfeaahbmahhgaaBitsA
namespace Go.Proofs.Ytlfeaahbmahhgaa
open Go.RowKit
set_option linter.unusedVariables false

/-- an error by its number -/
def errV (n : Int) : Value := if n = 0 then .nilIface else .iface 44 (.int .i64 n)

theorem Num_nil (w : World) : Calls Try.prog 12 #[.nilIface] w fun e w' => e = .returned (.int .i64 0) ∧ w = w' := by
  go_enter Try.func12, Try.ntmps12
  go_wp2
  go_ret
  exact ⟨rfl, rfl⟩
theorem run_assert_errno (n : Int) (w : World) : (Instr.typeAssert (.iface 44 (.int .i64 n)) 29 44 true).run Try.prog w = .ok (.tuple #[.int .i64 n, .bool true]) w := by
  simp [Instr.typeAssert, run_underlying Try.underlying44]
theorem Num_err (n : Int) (hn : n ≠ 0) (w : World) : Calls Try.prog 12 #[.iface 44 (.int .i64 n)] w fun e w' => e = .returned (.int .i64 n) ∧ w = w' := by
  have h1 : ((n : Int) == 0) = false := by simpa using hn
  have h2 : ((n : Int) != 0) = true := by simpa using hn
  have ha := run_assert_errno n
  go_enter Try.func12, Try.ntmps12
  go_wp2
  go_ret
  exact ⟨rfl, rfl⟩
theorem Num_c (n : Int) (w : World) : Calls Try.prog 12 #[errV n] w fun e w' => e = .returned (.int .i64 n) ∧ w = w' := by
  unfold errV
  by_cases h : n = 0
  · subst h; exact Num_nil w
  · rw [if_neg h]; exact Num_err n h w

theorem in_yes (i : Int) (h : 0 ≤ i ∧ i < 64) (w : World) : Calls Try.prog 24 #[.int .i64 i] w fun e w' => e = .returned (.bool true) ∧ w = w' := by
  obtain ⟨h1, h2⟩ := h
  have d1 : decide (0 ≤ i) = true := by simpa using h1
  have d2 : decide (i < 64) = true := by simpa using h2
  go_enter Try.func24, Try.ntmps24
  go_wp2
  go_ret
  exact ⟨rfl, rfl⟩
theorem in_no (i : Int) (h : ¬ (0 ≤ i ∧ i < 64)) (w : World) : Calls Try.prog 24 #[.int .i64 i] w fun e w' => e = .returned (.bool false) ∧ w = w' := by
  by_cases h1 : 0 ≤ i
  · have d1 : decide (0 ≤ i) = true := by simpa using h1
    have h2 : ¬ i < 64 := by omega
    have d2 : decide (i < 64) = false := by simpa using h2
    go_enter Try.func24, Try.ntmps24
    go_wp2
    go_ret
    exact ⟨rfl, rfl⟩
  · have d1 : decide (0 ≤ i) = false := by simpa using h1
    go_enter Try.func24, Try.ntmps24
    go_wp2
    go_ret
    exact ⟨rfl, rfl⟩

theorem part_yes (m wd : Int) (h : mth.isP m wd) (w : World) : Calls Try.prog 21 #[.int .i64 m, .int .i64 wd] w fun e w' => e = .returned (.bool true) ∧ w = w' := by
  obtain ⟨h1, h2, h3, h4⟩ := h
  go_enter Try.func21, Try.ntmps21
  go_wp2_with (go_at_call 24; refine (in_yes _ ⟨h1, h2⟩ _).mono ?_; rintro e w' ⟨rfl, rfl⟩)
  go_ret
  exact ⟨ret_bool (by first | (simp; done) | (simp; omega)), rfl⟩
theorem part_no (m wd : Int) (h : ¬ mth.isP m wd) (w : World) : Calls Try.prog 21 #[.int .i64 m, .int .i64 wd] w fun e w' => e = .returned (.bool false) ∧ w = w' := by
  by_cases hi : 0 ≤ m ∧ m < 64
  · have h' : ¬ (1 ≤ wd ∧ wd ≤ 64 - m) := fun k => h ⟨hi.1, hi.2, k⟩
    obtain ⟨i1, i2⟩ := hi
    by_cases h3 : 1 ≤ wd
    · have h4 : 64 - m < wd := by omega
      go_enter Try.func21, Try.ntmps21
      go_wp2_with (go_at_call 24; refine (in_yes _ ⟨i1, i2⟩ _).mono ?_; rintro e w' ⟨rfl, rfl⟩)
      go_ret
      exact ⟨ret_bool (by first | (simp; done) | (simp; omega)), rfl⟩
    · have d3 : decide (1 ≤ wd) = false := by simpa using h3
      go_enter Try.func21, Try.ntmps21
      go_wp2_with (go_at_call 24; refine (in_yes _ ⟨i1, i2⟩ _).mono ?_; rintro e w' ⟨rfl, rfl⟩)
      go_ret
      exact ⟨rfl, rfl⟩
  · have HI := Lib.hid hi
    clear hi
    go_enter Try.func21, Try.ntmps21
    go_wp2_with (go_at_call 24; refine (in_no _ HI.out _).mono ?_; rintro e w' ⟨rfl, rfl⟩)
    go_ret
    exact ⟨rfl, rfl⟩

theorem Is_yes (m wd : Int) (h : mth.isP m wd) (w : World) : Calls Try.prog 23 #[.int .i64 m, .int .i64 wd] w fun e w' => e = .returned (.bool true) ∧ w = w' := by
  obtain ⟨h1, h2, h3, h4⟩ := h
  have h5 : wd ≤ 64 := by omega
  have h6 : m ≤ 64 - wd := by omega
  go_enter Try.func23, Try.ntmps23
  go_wp2
  go_ret
  exact ⟨ret_bool (by first | (simp; done) | (simp; omega)), rfl⟩
theorem Is_no (m wd : Int) (h : ¬ mth.isP m wd) (w : World) : Calls Try.prog 23 #[.int .i64 m, .int .i64 wd] w fun e w' => e = .returned (.bool false) ∧ w = w' := by
  unfold mth.isP at h
  have h' : ¬ (0 ≤ m ∧ m < 64 ∧ 1 ≤ wd ∧ wd ≤ 64 ∧ m ≤ 64 - wd) := by omega
  clear h
  by_cases h1 : 0 ≤ m
  · by_cases h2 : m < 64
    · by_cases h3 : 1 ≤ wd
      · by_cases h4 : wd ≤ 64
        · have h5 : 64 - wd < m := by omega
          clear h'
          go_enter Try.func23, Try.ntmps23
          go_wp2
          go_ret
          exact ⟨ret_bool (by first | (simp; done) | (simp; omega)), rfl⟩
        · clear h'
          go_enter Try.func23, Try.ntmps23
          go_wp2
          go_ret
          exact ⟨ret_bool (by first | (simp; done) | (simp; omega)), rfl⟩
      · clear h'
        go_enter Try.func23, Try.ntmps23
        go_wp2
        go_ret
        exact ⟨ret_bool (by first | (simp; done) | (simp; omega)), rfl⟩
    · clear h'
      go_enter Try.func23, Try.ntmps23
      go_wp2
      go_ret
      exact ⟨ret_bool (by first | (simp; done) | (simp; omega)), rfl⟩
  · clear h'
    go_enter Try.func23, Try.ntmps23
    go_wp2
    go_ret
    exact ⟨ret_bool (by first | (simp; done) | (simp; omega)), rfl⟩

def spanTo (m n : Int) (k : Nat) : Nat → Bool := fun i => decide (i < k) && (decide (m ≤ (i : Int)) && decide ((i : Int) < n))
theorem spanTo_zero (m n : Int) : bools (spanTo m n 0) = rowOf 64 (fun _ => .bool false) := by
  unfold bools; exact rowOf_congr fun i _ => by simp [spanTo]
theorem spanTo_succ (m n : Int) (k : Nat) : (bools (spanTo m n k)).setIfInBounds k (.bool (decide (m ≤ (k : Int)) && decide ((k : Int) < n))) = bools (spanTo m n (k + 1)) := by
  unfold bools
  rw [rowOf_set]
  refine rowOf_congr fun i hi => ?_
  by_cases e : i = k
  · subst e; simp [spanTo]
  · have : decide (i < k + 1) = decide (i < k) := by rw [Bool.eq_iff_iff]; simp; omega
    simp [spanTo, e, this]
theorem spanTo_all (m n : Int) : mth.ofBits (spanTo m n 64) 64 = mth.span m n :=
  mth.ofBits_congr fun i hi => by simp [spanTo, hi]
/-- a part's worth; 0 where there is none -/
def partV (x m wd : Int) : Nat := if mth.isP m wd then mth.ofBits (mth.partB x.toNat m.toNat wd.toNat) 64 else 0

theorem Span_ref (m n : Int) (w : World) : Calls Try.prog 16 #[.int .i64 m, .int .i64 n] w (Ret w (.int .u64 (mth.span m n : Nat))) := by
  go_enter Try.func16, Try.ntmps16
  go_wp2_with (refine wpList_alloc_agg rfl _ rfl _ boolArr_zero ?_)
  go_loopw [6] (fun iv wr => ∃ k : Nat, k ≤ 64 ∧ iv = .int .i64 k ∧ wr = w.alloc (.cells (bools (spanTo m n k)) 40)) (fun iv _ => 64 - (intOf iv).toNat)
  case atStart => exact ⟨0, by omega, rfl, by rw [spanTo_zero]⟩
  case round =>
    obtain ⟨k, hk, rfl, rfl⟩ := hrel
    by_cases hlt : k < 64
    · have hc : (bools (spanTo m n k))[k]? = some (.bool (spanTo m n k k)) := rowOf_get _ hlt
      have HS := Lib.hid (spanTo_succ m n k)
      by_cases h1 : m ≤ k
      · have d1 : decide (m ≤ (k : Int)) = true := by simpa using h1
        go_wp2
        go_roundw
        case rel =>
          refine ⟨k + 1, by omega, by go_num, ?_⟩
          rw [← HS.out, d1]; rfl
        case measure => simp [intOf]; omega
      · have d1 : decide (m ≤ (k : Int)) = false := by simpa using h1
        go_wp2
        go_roundw
        case rel =>
          refine ⟨k + 1, by omega, by go_num, ?_⟩
          rw [← HS.out, d1]; rfl
        case measure => simp [intOf]; omega
    · obtain rfl : k = 64 := by omega
      have HE := Lib.hid (spanTo_all m n)
      go_wp2_with (first
        | (refine wpList_load_row rfl _ _ rfl w.heap.size rfl _ (bools (spanTo m n 64)) (0, 0) _ (heap_alloc_new _ _) Try.underlying40 rfl (by rw [boolArr_size]; rfl) ?_)
        | (go_at_call 20; refine (Of_c _ _).mono ?_; rintro e w2 ⟨rfl, hb2⟩))
      go_ret
      refine ⟨ret_int ?_, ((Below.refl _ _).alloc (Nat.le_refl _) _).trans (hb2.mono (by simp))⟩
      rw [HE.out]

theorem Part_c (x m wd : Int) (h1 : 0 ≤ x) (h2 : x ≤ 18446744073709551615) (w : World) :
    Calls Try.prog 13 #[.int .u64 x, .int .i64 m, .int .i64 wd] w fun e w' => e = .returned (.int .u64 (partV x m wd : Nat)) ∧ w = w' := by
  unfold partV
  by_cases hp : mth.isP m wd
  · rw [if_pos hp]
    obtain ⟨p1, p2, p3, p4⟩ := id hp
    go_enter Try.func13, Try.ntmps13
    go_wp2_with (first
      | (go_at_call 21; refine (part_yes _ _ hp _).mono ?_; rintro e w' ⟨rfl, rfl⟩)
      | (go_at_call 22; refine (below_c _ _).mono ?_; rintro e w' ⟨rfl, rfl⟩))
    go_ret
    refine ⟨ret_int ?_, rfl⟩
    obtain ⟨X, rfl⟩ := Int.eq_ofNat_of_zero_le h1
    obtain ⟨M, rfl⟩ := Int.eq_ofNat_of_zero_le p1
    obtain ⟨D, rfl⟩ := Int.eq_ofNat_of_zero_le (show 0 ≤ wd by omega)
    have e : (X : Int) / 2 ^ ((M : Int).toNat) = ((X / 2 ^ M : Nat) : Int) := by
      rw [Int.toNat_natCast, Int.natCast_ediv, Int.natCast_pow]; rfl
    have hle : X / 2 ^ M ≤ X := Nat.div_le_self _ _
    rw [e, u64_and_nat _ _ (by omega) (mth.mask_lt _), Int.toNat_natCast, Int.toNat_natCast, Int.toNat_natCast, mth.part_eq]
  · rw [if_neg hp]
    have HP := Lib.hid hp
    clear hp
    go_enter Try.func13, Try.ntmps13
    go_wp2_with (go_at_call 21; refine (part_no _ _ HP.out _).mono ?_; rintro e w' ⟨rfl, rfl⟩)
    go_ret
    exact ⟨rfl, rfl⟩

def partTo (x m k : Nat) : Nat → Bool := fun i => decide (i < k) && x.testBit (m + i)
theorem partTo_zero (x m : Nat) : bools (partTo x m 0) = rowOf 64 (fun _ => .bool false) := by
  unfold bools; exact rowOf_congr fun i _ => by simp [partTo]
theorem partTo_succ (x m k : Nat) : (bools (partTo x m k)).setIfInBounds k (.bool (x.testBit (m + k))) = bools (partTo x m (k + 1)) := by
  unfold bools
  rw [rowOf_set]
  refine rowOf_congr fun i hi => ?_
  by_cases e : i = k
  · subst e; simp [partTo]
  · have : decide (i < k + 1) = decide (i < k) := by rw [Bool.eq_iff_iff]; simp; omega
    simp [partTo, e, this]

theorem Part_ref (x m wd : Int) (h1 : 0 ≤ x) (h2 : x ≤ 18446744073709551615) (w : World) :
    Calls Try.prog 14 #[.int .u64 x, .int .i64 m, .int .i64 wd] w (Ret w (.int .u64 (partV x m wd : Nat))) := by
  unfold partV
  by_cases hp : mth.isP m wd
  · rw [if_pos hp]
    obtain ⟨p1, p2, p3, p4⟩ := id hp
    obtain ⟨X, rfl⟩ := Int.eq_ofNat_of_zero_le h1
    obtain ⟨M, rfl⟩ := Int.eq_ofNat_of_zero_le p1
    obtain ⟨D, rfl⟩ := Int.eq_ofNat_of_zero_le (show 0 ≤ wd by omega)
    go_enter Try.func14, Try.ntmps14
    go_wp2_with (first
      | (go_at_call 23; refine (Is_yes _ _ hp _).mono ?_; rintro e w' ⟨rfl, rfl⟩)
      | (go_at_call 19; refine (Bits_ci _ h1 h2 _).mono ?_; rintro e w1 ⟨rfl, hb1⟩; rw [Int.toNat_natCast])
      | (refine wpList_alloc_agg rfl _ rfl _ boolArr_zero ?_)
      | (refine wpList_store_row rfl rfl _ _ _ rfl w1.heap.size rfl _ (rowOf 64 (fun _ => .bool false)) (bitRow X 64) rfl (heap_alloc_new _ _) (by rw [boolArr_size]; rfl) rfl (rowOf_oneCell fun _ _ => rfl) ?_; rw [World.setRow_alloc_new]))
    have hsz := hb1.size
    have hbX : ∀ i, i < 64 → (bitRow X 64)[i]? = some (.bool (X.testBit i)) := fun i hi => by
      unfold bitRow; rw [rowOf_get _ hi]; simp [hi]
    have HX := Lib.hid hbX
    clear hbX
    go_loopw [9] (fun iv wr => ∃ k : Nat, k ≤ D ∧ iv = .int .i64 k ∧ wr = (w1.alloc (.cells (bitRow X 64) 40)).alloc (.cells (bools (partTo X M k)) 40)) (fun iv _ => D - (intOf iv).toNat)
    case atStart => exact ⟨0, by omega, rfl, by rw [partTo_zero]⟩
    case round =>
      obtain ⟨k, hk, rfl, rfl⟩ := hrel
      by_cases hlt : k < D
      · have hc1 := HX.out (M + k) (by omega)
        have hc2 : (bools (partTo X M k))[k]? = some (.bool (partTo X M k k)) := rowOf_get _ (by omega)
        have HS := Lib.hid (partTo_succ X M k)
        go_wp2
        go_roundw
        case rel =>
          refine ⟨k + 1, by omega, by go_num, ?_⟩
          rw [← HS.out]
        case measure => simp [intOf]; omega
      · obtain rfl : k = D := by omega
        go_wp2_with (first
          | (refine wpList_load_row rfl _ _ rfl (w1.heap.size + 1) rfl _ (bools (partTo X M k)) (0, 0) _ (heap_alloc2_new _ _ _) Try.underlying40 rfl (by rw [boolArr_size]; rfl) ?_)
          | (go_at_call 20; refine (Of_c _ _).mono ?_; rintro e w2 ⟨rfl, hb2⟩))
        go_ret
        refine ⟨rfl, ((hb1.alloc (by simp [hsz]) _).alloc (by simp; omega) _).trans (hb2.mono (by simp; omega))⟩
  · rw [if_neg hp]
    have HP := Lib.hid hp
    clear hp
    go_enter Try.func14, Try.ntmps14
    go_wp2_with (go_at_call 23; refine (Is_no _ _ HP.out _).mono ?_; rintro e w' ⟨rfl, rfl⟩)
    go_ret
    exact ⟨rfl, Below.refl _ _⟩
end Go.Proofs.Ytlfeaahbmahhgaa
