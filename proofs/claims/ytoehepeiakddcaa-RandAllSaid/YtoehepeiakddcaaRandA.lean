/-
  Contracts: a draw below a number.
-/
import Derived.Test.YtoehepeiakddcaaKitW
import Derived.Test.YtoehepeiakddcaaKitN
import Derived.Test.YtoehepeiakddcaaMathR
namespace Go.Proofs.Ytoehepeiakddcaa
open Go.RowKit
set_option linter.unusedVariables false

theorem below_c (d n : Int) (w : World) (d1 : -9223372036854775808 ≤ d) (d2 : d ≤ 9223372036854775807) (hn : 1 ≤ n) (hn2 : n ≤ 9223372036854775807) :
    Calls Try.prog 17 #[.int .i64 d, .int .i64 n] w fun e w' => e = .returned (.int .i64 (d % n)) ∧ w = w' := by
  have hb := mth.tmod_bd d n hn
  have HN := Lib.hid (fun h => mth.tmod_neg (d := d) hn h)
  have HP := Lib.hid (fun h => mth.tmod_pos (d := d) hn h)
  have h0 : ¬ n = 0 := by omega
  go_enter Try.func17, Try.ntmps17
  go_wp2
  all_goals go_ret
  · exact ⟨ret_int (HN.out (by assumption)), rfl⟩
  · exact ⟨ret_int (HP.out (by omega)), rfl⟩

theorem below_k (d n : Int) (k : Nat) (w : World) (d1 : -9223372036854775808 ≤ d) (d2 : d ≤ 9223372036854775807) (hn : 1 ≤ n) (hn2 : n ≤ 9223372036854775807) (h : d % n = (k : Int)) :
    Calls Try.prog 17 #[.int .i64 d, .int .i64 n] w fun e w' => e = .returned (.int .i64 k) ∧ w = w' := by
  rw [← h]; exact below_c d n w d1 d2 hn hn2
set_option maxRecDepth 100000 in
theorem refBelow_c (d n : Int) (w : World) (d1 : -9223372036854775808 ≤ d) (d2 : d ≤ 9223372036854775807) (hn : 1 ≤ n) (hn2 : n ≤ 2305843009213693952) :
    Calls Try.prog 18 #[.int .i64 d, .int .i64 n] w fun e w' => e = .returned (.int .i64 (d % n)) ∧ w = w' := by
  have hb := mth.tmod_bd d n hn
  have HA := Lib.hid (mth.tmod_all (d := d) hn)
  have HH := Lib.hid (fun k h1 h2 h => mth.tmod_hit (d := d) (k := k) hn h1 h2 h)
  have h0 : ¬ n = 0 := by omega
  go_enter Try.func18, Try.ntmps18
  go_wp2
  go_loop [5] (fun iv => ∃ k : Nat, iv = .int .i64 k ∧ (k : Int) ≤ 400) (fun iv => 400 - (intOf iv).toNat)
  case atStart => exact ⟨0, rfl, by omega⟩
  case round =>
    obtain ⟨k, rfl, hk⟩ := hrel
    obtain ⟨hb1, hb2⟩ := hb
    by_cases h1 : (k : Int) < n ∧ (k : Int) < 400
    · obtain ⟨h1, h2⟩ := h1
      by_cases h3 : ((d.tmod n + n - k).tmod n == 0) = true
      · go_wp2
        go_ret
        exact ⟨ret_int (HH.out k (by omega) h1 (by simpa using h3)).symm, rfl⟩
      · have h3 : ((d.tmod n + n - k).tmod n == 0) = false := by simpa using h3
        go_wp2
        go_round
        case rel => exact ⟨k + 1, by go_num, by omega⟩
        case measure => simp [intOf]; omega
    · have h2 : ((k : Int) < n ∧ ¬ (k : Int) < 400) ∨ ¬ (k : Int) < n := by omega
      clear h1
      rcases h2 with ⟨h1, h2⟩ | h1
      all_goals (
        go_wp2
        go_ret
        exact ⟨ret_int (mth.tmod_mod hn), rfl⟩)

theorem Check_many (A : Option Addr) (n c : Nat) (w : World) (h : (4096 : Int) < (n : Int)) :
    Calls Try.prog 16 #[.slice A n c] w fun e w' => e = .returned (.iface 43 (.int .i64 19)) ∧ w = w' := by
  go_enter Try.func16, Try.ntmps16
  go_wp2
  go_ret
  exact ⟨rfl, rfl⟩
theorem Check_ok (A : Option Addr) (n c : Nat) (w : World) (h : ¬ (4096 : Int) < (n : Int)) :
    Calls Try.prog 16 #[.slice A n c] w fun e w' => e = .returned .nilIface ∧ w = w' := by
  go_enter Try.func16, Try.ntmps16
  go_wp2
  go_ret
  exact ⟨rfl, rfl⟩
def leftN (n : Nat) (x : Int) : Int := if 0 ≤ x then max ((n : Int) - x) 0 else 0
theorem Left_c (A : Option Addr) (n c : Nat) (x : Int) (w : World) (hn : (n : Int) ≤ 9223372036854775807) (h1 : -9223372036854775808 ≤ x) (h2 : x ≤ 9223372036854775807) :
    Calls Try.prog 12 #[.slice A n c, .int .i64 x] w fun e w' => e = .returned (.int .i64 (leftN n x)) ∧ w = w' := by
  have e0 : Hid (leftN n x = if 0 ≤ x then max ((n : Int) - x) 0 else 0) := Lib.hid rfl
  go_enter Try.func12, Try.ntmps12
  go_wp2
  all_goals go_ret
  all_goals exact ⟨ret_int (by rw [e0.out]; split <;> omega), rfl⟩
theorem Needs_c (n : Int) (w : World) (h1 : -9223372036854775808 ≤ n) (h2 : n ≤ 9223372036854775807) :
    Calls Try.prog 13 #[.int .i64 n] w fun e w' => e = .returned (.int .i64 (max n 1 - 1)) ∧ w = w' := by
  go_enter Try.func13, Try.ntmps13
  go_wp2
  all_goals go_ret
  all_goals exact ⟨ret_int (by omega), rfl⟩

/-- what Pick hands back, its error as e tells it -/
def PickV (E : Int → Value) (d : List Int) (c n : Int) : Value :=
  .tuple #[.int .i64 (mth.pkX d c n), .int .i64 (mth.pkC d c n), E (mth.pkE d.length c n)]
theorem pickV_err {E : Int → Value} {l : List Int} {c m x : Int} {v : Value} (h : mth.pkE l.length c m = x ∧ mth.pkX l c m = 0 ∧ mth.pkC l c m = 0) (hv : E x = v) : (.returned (.tuple #[.int .i64 0, .int .i64 0, v]) : Ending) = .returned (PickV E l c m) := by
  unfold PickV; rw [h.1, h.2.1, h.2.2, hv]
theorem pickV_ok {E : Int → Value} {l : List Int} {c m x y : Int} {v : Value} (h : mth.pkE l.length c m = 0 ∧ mth.pkX l c m = x ∧ mth.pkC l c m = y) (hv : E 0 = v) : (.returned (.tuple #[.int .i64 x, .int .i64 y, v]) : Ending) = .returned (PickV E l c m) := by
  unfold PickV; rw [h.1, h.2.1, h.2.2, hv]
theorem getD_toNat {l : List Int} {k : Nat} (h : k < l.length) : l.getD ((k : Int)).toNat 0 = l[k] := mth.getD_get h
theorem leftN_zero {n : Nat} {c : Int} (h : 0 ≤ c) (h1 : (n : Int) ≤ c) : leftN n c = 0 := by unfold leftN; rw [if_pos h]; omega
theorem leftN_pos {n : Nat} {c : Int} (h : 0 ≤ c) (h1 : c < (n : Int)) : leftN n c = (n : Int) - c := by unfold leftN; rw [if_pos h]; omega
set_option maxRecDepth 100000 in
theorem Pick_c (A : Option Addr) (n cp : Nat) (l : List Int) (c m : Int) (w : World) (ha : At w A n (i64s l)) (hl : l.length = n) (hok : Ok64 l) (hn : (n : Int) ≤ 9223372036854775807)
    (c1 : -9223372036854775808 ≤ c) (c2 : c ≤ 9223372036854775807) (m1 : -9223372036854775808 ≤ m) (m2 : m ≤ 9223372036854775807) :
    Calls Try.prog 14 #[.slice A n cp, .int .i64 c, .int .i64 m] w fun e w' => e = .returned (PickV errV l c m) ∧ w = w' := by
  have HA := Lib.hid ha
  have HL := Lib.hid hl
  have HO := Lib.hid hok
  clear ha hl hok
  have hcases := mth.pk_cases l c m
  rcases hcases with ⟨h1, e1⟩ | ⟨h1, h2, e1⟩ | ⟨h1, h2, h3, e1⟩ | ⟨h1, h2, h3, e1⟩
  all_goals (
    have E1 := Lib.hid e1
    clear e1
    rw [HL.out] at h1)
  · go_enter Try.func14, Try.ntmps14
    go_wp2_with (go_at_call 16; refine (Check_many _ _ _ _ h1).mono ?_; rintro e w1 ⟨rfl, rfl⟩)
    go_ret3
    exact ⟨pickV_err E1.out rfl, rfl⟩
  · have h3 : m < 1 ∨ (¬ m < 1 ∧ c < 0) := by omega
    clear h2
    rcases h3 with h2 | ⟨h2, h3⟩
    all_goals (
      go_enter Try.func14, Try.ntmps14
      go_wp2_with (go_at_call 16; refine (Check_ok _ _ _ _ h1).mono ?_; rintro e w1 ⟨rfl, rfl⟩)
      go_ret3
      exact ⟨pickV_err E1.out rfl, rfl⟩)
  · obtain ⟨h4, h5⟩ : ¬ m < 1 ∧ ¬ c < 0 := by omega
    clear h2
    rw [HL.out] at h3
    have e0 := leftN_zero (n := n) (c := c) (by omega) h3
    go_enter Try.func14, Try.ntmps14
    go_wp2_with (first
      | (go_at_call 16; refine (Check_ok _ _ _ _ h1).mono ?_; rintro e w1 ⟨rfl, rfl⟩)
      | (go_at_call 12; refine (Left_c _ _ _ _ _ hn c1 c2).mono ?_; rintro e w1 ⟨rfl, rfl⟩))
    go_ret3
    exact ⟨pickV_err E1.out rfl, rfl⟩
  · obtain ⟨h4, h5⟩ : ¬ m < 1 ∧ ¬ c < 0 := by omega
    clear h2
    rw [HL.out] at h3
    obtain ⟨k, rfl⟩ : ∃ k : Nat, c = (k : Int) := ⟨c.toNat, by omega⟩
    have hk : k < n := by omega
    have e0 := leftN_pos (n := n) (c := (k : Int)) (by omega) (by omega)
    have e2 : (((n : Int) - (k : Int)) == 0) = false := by simp; omega
    obtain ⟨ad, rfl, hcell, _⟩ := HA.out.int' HL.out hk (Below.refl _ _)
    have hx := HO.out (l[k]'(by have := HL.out; omega)) (List.getElem_mem _)
    have HX : Hid (l.getD ((k : Int)).toNat 0 = l[k]'(by have := HL.out; omega)) := Lib.hid (getD_toNat (by have := HL.out; omega))
    rw [HX.out] at E1
    clear HX
    generalize l[k]'(by have := HL.out; omega) = x at *
    go_enter Try.func14, Try.ntmps14
    go_wp2_with (first
      | (go_at_call 16; refine (Check_ok _ _ _ _ h1).mono ?_; rintro e w1 ⟨rfl, rfl⟩)
      | (go_at_call 17; refine (below_c _ _ _ hx.1 hx.2 (by omega) m2).mono ?_; rintro e w1 ⟨rfl, rfl⟩)
      | (go_at_call 12; refine (Left_c _ _ _ _ _ hn c1 c2).mono ?_; rintro e w1 ⟨rfl, rfl⟩))
    go_ret3
    exact ⟨pickV_ok E1.out rfl, rfl⟩
end Go.Proofs.Ytoehepeiakddcaa
