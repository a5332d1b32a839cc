/-
  Contracts of the package bits and of its reference: parts, spans, errors' numbers.
-/
import Derived.Test.YtpmkdbiejeedeaaDoorBitsA
import Derived.Test.YtpmkdbiejeedeaaDoorKitN
namespace Go.Proofs.YtpmkdbiejeedeaaDoor
open Go.RowKit
set_option linter.unusedVariables false

theorem in_yes (i : Int) (h : 0 ≤ i ∧ i < 64) (w : World) : Calls Tryd.prog 23 #[.int .i64 i] w fun e w' => e = .returned (.bool true) ∧ w = w' := by
  obtain ⟨h1, h2⟩ := h
  have d1 : decide (0 ≤ i) = true := by simpa using h1
  have d2 : decide (i < 64) = true := by simpa using h2
  go_enter Tryd.func23, Tryd.ntmps23
  go_wp2
  go_ret
  exact ⟨rfl, rfl⟩
theorem in_no (i : Int) (h : ¬ (0 ≤ i ∧ i < 64)) (w : World) : Calls Tryd.prog 23 #[.int .i64 i] w fun e w' => e = .returned (.bool false) ∧ w = w' := by
  by_cases h1 : 0 ≤ i
  · have d1 : decide (0 ≤ i) = true := by simpa using h1
    have h2 : ¬ i < 64 := by omega
    have d2 : decide (i < 64) = false := by simpa using h2
    go_enter Tryd.func23, Tryd.ntmps23
    go_wp2
    go_ret
    exact ⟨rfl, rfl⟩
  · have d1 : decide (0 ≤ i) = false := by simpa using h1
    go_enter Tryd.func23, Tryd.ntmps23
    go_wp2
    go_ret
    exact ⟨rfl, rfl⟩

theorem part_yes (m wd : Int) (h : mth.isP m wd) (w : World) : Calls Tryd.prog 21 #[.int .i64 m, .int .i64 wd] w fun e w' => e = .returned (.bool true) ∧ w = w' := by
  obtain ⟨h1, h2, h3, h4⟩ := h
  go_enter Tryd.func21, Tryd.ntmps21
  go_wp2_with (go_at_call 23; refine (in_yes _ ⟨h1, h2⟩ _).mono ?_; rintro e w' ⟨rfl, rfl⟩)
  go_ret
  exact ⟨ret_bool (by first | (simp; done) | (simp; omega)), rfl⟩
theorem part_no (m wd : Int) (h : ¬ mth.isP m wd) (w : World) : Calls Tryd.prog 21 #[.int .i64 m, .int .i64 wd] w fun e w' => e = .returned (.bool false) ∧ w = w' := by
  by_cases hi : 0 ≤ m ∧ m < 64
  · have h' : ¬ (1 ≤ wd ∧ wd ≤ 64 - m) := fun k => h ⟨hi.1, hi.2, k⟩
    obtain ⟨i1, i2⟩ := hi
    by_cases h3 : 1 ≤ wd
    · have h4 : 64 - m < wd := by omega
      go_enter Tryd.func21, Tryd.ntmps21
      go_wp2_with (go_at_call 23; refine (in_yes _ ⟨i1, i2⟩ _).mono ?_; rintro e w' ⟨rfl, rfl⟩)
      go_ret
      exact ⟨ret_bool (by first | (simp; done) | (simp; omega)), rfl⟩
    · have d3 : decide (1 ≤ wd) = false := by simpa using h3
      go_enter Tryd.func21, Tryd.ntmps21
      go_wp2_with (go_at_call 23; refine (in_yes _ ⟨i1, i2⟩ _).mono ?_; rintro e w' ⟨rfl, rfl⟩)
      go_ret
      exact ⟨rfl, rfl⟩
  · have HI := Lib.hid hi
    clear hi
    go_enter Tryd.func21, Tryd.ntmps21
    go_wp2_with (go_at_call 23; refine (in_no _ HI.out _).mono ?_; rintro e w' ⟨rfl, rfl⟩)
    go_ret
    exact ⟨rfl, rfl⟩

def spanTo (m n : Int) (k : Nat) : Nat → Bool := fun i => decide (i < k) && (decide (m ≤ (i : Int)) && decide ((i : Int) < n))
theorem spanTo_zero (m n : Int) : bools (spanTo m n 0) = rowOf 64 (fun _ => .bool false) := by
  unfold bools; exact rowOf_congr fun i _ => by simp [spanTo]
theorem spanTo_succ (m n : Int) (k : Nat) : (bools (spanTo m n k)).setIfInBounds k (.bool (decide (m ≤ (k : Int)) && decide ((k : Int) < n))) = bools (spanTo m n (k + 1)) := by
  unfold bools
  rw [rowOf_set]
  refine rowOf_congr fun i hi => ?_
  by_cases e : i = k
  · subst e; simp [spanTo]
  · have : decide (i < k + 1) = decide (i < k) := by rw [Bool.eq_iff_iff]; simp; omega
    simp [spanTo, e, this]
theorem spanTo_all (m n : Int) : mth.ofBits (spanTo m n 64) 64 = mth.span m n :=
  mth.ofBits_congr fun i hi => by simp [spanTo, hi]
/-- a part's worth; 0 where there is none -/
def partV (x m wd : Int) : Nat := if mth.isP m wd then mth.ofBits (mth.partB x.toNat m.toNat wd.toNat) 64 else 0

theorem Part_c (x m wd : Int) (h1 : 0 ≤ x) (h2 : x ≤ 18446744073709551615) (w : World) :
    Calls Tryd.prog 20 #[.int .u64 x, .int .i64 m, .int .i64 wd] w fun e w' => e = .returned (.int .u64 (partV x m wd : Nat)) ∧ w = w' := by
  unfold partV
  by_cases hp : mth.isP m wd
  · rw [if_pos hp]
    obtain ⟨p1, p2, p3, p4⟩ := id hp
    go_enter Tryd.func20, Tryd.ntmps20
    go_wp2_with (first
      | (go_at_call 21; refine (part_yes _ _ hp _).mono ?_; rintro e w' ⟨rfl, rfl⟩)
      | (go_at_call 22; refine (below_c _ _).mono ?_; rintro e w' ⟨rfl, rfl⟩))
    go_ret
    refine ⟨ret_int ?_, rfl⟩
    obtain ⟨X, rfl⟩ := Int.eq_ofNat_of_zero_le h1
    obtain ⟨M, rfl⟩ := Int.eq_ofNat_of_zero_le p1
    obtain ⟨D, rfl⟩ := Int.eq_ofNat_of_zero_le (show 0 ≤ wd by omega)
    have e : (X : Int) / 2 ^ ((M : Int).toNat) = ((X / 2 ^ M : Nat) : Int) := by
      rw [Int.toNat_natCast, Int.natCast_ediv, Int.natCast_pow]; rfl
    have hle : X / 2 ^ M ≤ X := Nat.div_le_self _ _
    rw [e, u64_and_nat _ _ (by omega) (mth.mask_lt _), Int.toNat_natCast, Int.toNat_natCast, Int.toNat_natCast, mth.part_eq]
  · rw [if_neg hp]
    have HP := Lib.hid hp
    clear hp
    go_enter Tryd.func20, Tryd.ntmps20
    go_wp2_with (go_at_call 21; refine (part_no _ _ HP.out _).mono ?_; rintro e w' ⟨rfl, rfl⟩)
    go_ret
    exact ⟨rfl, rfl⟩

def partTo (x m k : Nat) : Nat → Bool := fun i => decide (i < k) && x.testBit (m + i)
theorem partTo_zero (x m : Nat) : bools (partTo x m 0) = rowOf 64 (fun _ => .bool false) := by
  unfold bools; exact rowOf_congr fun i _ => by simp [partTo]
theorem partTo_succ (x m k : Nat) : (bools (partTo x m k)).setIfInBounds k (.bool (x.testBit (m + k))) = bools (partTo x m (k + 1)) := by
  unfold bools
  rw [rowOf_set]
  refine rowOf_congr fun i hi => ?_
  by_cases e : i = k
  · subst e; simp [partTo]
  · have : decide (i < k + 1) = decide (i < k) := by rw [Bool.eq_iff_iff]; simp; omega
    simp [partTo, e, this]

end Go.Proofs.YtpmkdbiejeedeaaDoor
