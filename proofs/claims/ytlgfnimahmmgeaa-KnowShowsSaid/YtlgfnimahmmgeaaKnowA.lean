/-
  Contracts: who knows an object.
-/
import Derived.Test.YtlgfnimahmmgeaaKitI
import Derived.Test.YtlgfnimahmmgeaaKitG
import Derived.Test.YtlgfnimahmmgeaaKitN
import Derived.Test.YtlgfnimahmmgeaaMathN
import Derived.Lib.Zigzag
namespace Go.Proofs.Ytlgfnimahmmgeaa
open Go.RowKit
set_option linter.unusedVariables false

/-- does player p know an object with these bits? -/
def kn (n p : Int) : Bool := (p == 0 && mth.bt n 0) || (p == 1 && mth.bt n 1)
theorem kn0 (n : Int) : kn n 0 = mth.bt n 0 := by simp [kn]
theorem kn1 (n : Int) : kn n 1 = mth.bt n 1 := by simp [kn]
theorem kn_no {n p : Int} (h0 : p ≠ 0) (h1 : p ≠ 1) : kn n p = false := by simp [kn, h0, h1]
theorem bt0_u (n : Int) : (IntKind.u64.wrap n % 2 == 1) = mth.bt n 0 := by
  rw [IntKind.wrap_u64, mth.bt, if_pos rfl, Bool.eq_iff_iff]; simp only [beq_iff_eq]; omega
theorem bt1_u (n : Int) : (IntKind.u64.wrap n / 2 % 2 == 1) = mth.bt n 1 := by
  rw [IntKind.wrap_u64, mth.bt, if_neg (by decide), Bool.eq_iff_iff]; simp only [beq_iff_eq]; omega
theorem u64_bd (n : Int) : 0 ≤ IntKind.u64.wrap n ∧ IntKind.u64.wrap n ≤ 18446744073709551615 := by rw [IntKind.wrap_u64]; omega

theorem inP_c (i : Int) (h : i = 0 ∨ i = 1) (w : World) : Calls Try.prog 32 #[.int .i64 i] w fun e w' => e = .returned (.bool true) ∧ w = w' := by
  rcases h with rfl | rfl
  all_goals (
    go_enter Try.func32, Try.ntmps32
    go_wp2
    go_ret
    exact ⟨rfl, rfl⟩)
theorem Has0_c (x : Int) (h1 : 0 ≤ x) (h2 : x ≤ 18446744073709551615) (w : World) : Calls Try.prog 26 #[.int .u64 x, .int .i64 0] w fun e w' => e = .returned (.bool (x % 2 == 1)) ∧ w = w' := by
  have e := Lib.u64_and1 x h1 (by omega)
  go_enter Try.func26, Try.ntmps26
  go_wp2_with (go_at_call 32; refine (inP_c _ (.inl rfl) _).mono ?_; rintro e w' ⟨rfl, rfl⟩)
  go_ret
  exact ⟨ret_bool (by simp), rfl⟩
theorem Has1_c (x : Int) (h1 : 0 ≤ x) (h2 : x ≤ 18446744073709551615) (w : World) : Calls Try.prog 26 #[.int .u64 x, .int .i64 1] w fun e w' => e = .returned (.bool (x / 2 % 2 == 1)) ∧ w = w' := by
  have e := Lib.u64_and1 (x / 2) (by omega) (by omega)
  go_enter Try.func26, Try.ntmps26
  go_wp2_with (go_at_call 32; refine (inP_c _ (.inr rfl) _).mono ?_; rintro e w' ⟨rfl, rfl⟩)
  go_ret
  exact ⟨ret_bool (by simp), rfl⟩
theorem is_c (p : Int) (w : World) (h : p ≠ 0 ∧ p ≠ 1) : Calls Try.prog 25 #[.int .i64 p] w fun e w' => e = .returned (.bool false) ∧ w = w' := by
  obtain ⟨h0, h1⟩ := h
  have e0 : ((p : Int) == 0) = false := by simpa using h0
  have e1 : ((p : Int) == 1) = false := by simpa using h1
  go_enter Try.func25, Try.ntmps25
  go_wp2
  go_ret
  exact ⟨rfl, rfl⟩
theorem isP_c (p : Int) (w : World) (h : p = 0 ∨ p = 1) : Calls Try.prog 25 #[.int .i64 p] w fun e w' => e = .returned (.bool true) ∧ w = w' := by
  rcases h with rfl | rfl
  all_goals (
    go_enter Try.func25, Try.ntmps25
    go_wp2
    go_ret
    exact ⟨rfl, rfl⟩)

theorem Knows_c (f : Nat → Int) (p : Int) (w : World) : Calls Try.prog 12 #[.agg (ints 18 f), .int .i64 p] w (Ret w (.bool (kn (f 17) p))) := by
  have hc := ints_get (n := 18) f (show 17 < 18 by omega)
  obtain ⟨u1, u2⟩ := u64_bd (f 17)
  have H0 := Lib.hid (bt0_u (f 17))
  have H1 := Lib.hid (bt1_u (f 17))
  by_cases h0 : p = 0
  · subst h0
    rw [kn0]
    go_enter Try.func12, Try.ntmps12
    go_wp2_with (first
      | (refine wpList_box_agg rfl _ _ rfl (ints 18 f) rfl ?_)
      | (go_at_call 25; refine (isP_c _ _ (.inl rfl)).mono ?_; rintro e w' ⟨rfl, rfl⟩)
      | (go_at_call 26; refine (Has0_c _ u1 u2 _).mono ?_; rintro e w' ⟨rfl, rfl⟩; rw [H0.out]))
    go_ret
    exact ⟨rfl, (Below.refl _ _).alloc (Nat.le_refl _) _⟩
  by_cases h1 : p = 1
  · subst h1
    rw [kn1]
    clear h0
    go_enter Try.func12, Try.ntmps12
    go_wp2_with (first
      | (refine wpList_box_agg rfl _ _ rfl (ints 18 f) rfl ?_)
      | (go_at_call 25; refine (isP_c _ _ (.inr rfl)).mono ?_; rintro e w' ⟨rfl, rfl⟩)
      | (go_at_call 26; refine (Has1_c _ u1 u2 _).mono ?_; rintro e w' ⟨rfl, rfl⟩; rw [H1.out]))
    go_ret
    exact ⟨rfl, (Below.refl _ _).alloc (Nat.le_refl _) _⟩
  · rw [kn_no h0 h1]
    have HP := Lib.hid (And.intro h0 h1)
    clear h0 h1
    go_enter Try.func12, Try.ntmps12
    go_wp2_with (first
      | (refine wpList_box_agg rfl _ _ rfl (ints 18 f) rfl ?_)
      | (go_at_call 25; refine (is_c _ _ HP.out).mono ?_; rintro e w' ⟨rfl, rfl⟩))
    go_ret
    exact ⟨rfl, (Below.refl _ _).alloc (Nat.le_refl _) _⟩

theorem refKnows_c (f : Nat → Int) (p : Int) (w : World) : Calls Try.prog 13 #[.agg (ints 18 f), .int .i64 p] w (Ret w (.bool (kn (f 17) p))) := by
  have hc := ints_get (n := 18) f (show 17 < 18 by omega)
  obtain ⟨u1, u2⟩ := u64_bd (f 17)
  have H0 := bt0_u (f 17)
  have H1 := bt1_u (f 17)
  by_cases h0 : p = 0
  · subst h0
    rw [kn0]
    cases hbt : mth.bt (f 17) 0
    all_goals (
      rw [hbt] at H0
      clear hbt
      go_enter Try.func13, Try.ntmps13
      go_wp2_with (refine wpList_box_agg rfl _ _ rfl (ints 18 f) rfl ?_)
      go_ret
      exact ⟨rfl, (Below.refl _ _).alloc (Nat.le_refl _) _⟩)
  by_cases h1 : p = 1
  · subst h1
    rw [kn1]
    clear h0
    cases hbt : mth.bt (f 17) 1
    all_goals (
      rw [hbt] at H1
      clear hbt
      go_enter Try.func13, Try.ntmps13
      go_wp2_with (refine wpList_box_agg rfl _ _ rfl (ints 18 f) rfl ?_)
      go_ret
      exact ⟨rfl, (Below.refl _ _).alloc (Nat.le_refl _) _⟩)
  · rw [kn_no h0 h1]
    have e0 : (p == 0) = false := by simpa using h0
    have e1 : (p == 1) = false := by simpa using h1
    clear h0 h1
    go_enter Try.func13, Try.ntmps13
    go_wp2_with (refine wpList_box_agg rfl _ _ rfl (ints 18 f) rfl ?_)
    go_ret
    exact ⟨rfl, (Below.refl _ _).alloc (Nat.le_refl _) _⟩
end Go.Proofs.Ytlgfnimahmmgeaa
