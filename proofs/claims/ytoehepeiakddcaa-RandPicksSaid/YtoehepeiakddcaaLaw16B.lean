/-
  RandPicks: for any draws, cursor and number the law answers true.
-/
import Derived.Test.YtoehepeiakddcaaLaw16A
namespace Go.Proofs.Ytoehepeiakddcaa
open Go.RowKit
set_option linter.unusedVariables false

theorem left_want (n : Nat) (c : Int) : leftN n c = if 0 ≤ c ∧ c < n then (n : Int) - c else 0 := by
  unfold leftN
  by_cases h : 0 ≤ c
  · rw [if_pos h]
    by_cases h2 : c < n
    · rw [if_pos ⟨h, h2⟩]; omega
    · rw [if_neg (by omega)]; omega
  · rw [if_neg h, if_neg (by omega)]

set_option maxRecDepth 100000 in
set_option maxHeartbeats 2000000 in
theorem RandPicks_c (A : Option Addr) (n cp : Nat) (l : List Int) (c m : Int) (w : World) (ha : At w A n (i64s l)) (hl : l.length = n) (hok : Ok64 l) (hcap : n ≤ cp)
    (c1 : -9223372036854775808 ≤ c) (c2 : c ≤ 9223372036854775807) (m1 : -9223372036854775808 ≤ m) (m2 : m ≤ 9223372036854775807) :
    Calls Try.prog 6 #[.slice A n cp, .int .i64 c, .int .i64 m] w (Ret w (.bool true)) := by
  have HA := Lib.hid ha
  have HL := Lib.hid hl
  have HO := Lib.hid hok
  clear ha hl hok
  by_cases hn : (5000 : Int) < (n : Int)
  · go_enter Try.func6, Try.ntmps6
    go_wp2_with (go_at_call 7; refine (alive_c _).mono ?_; rintro e w1 ⟨rfl, hb1⟩)
    go_ret
    exact ⟨rfl, hb1⟩
  obtain ⟨E, hE⟩ : ∃ E, mth.pkE l.length c m = E := ⟨_, rfl⟩
  obtain ⟨X, hX⟩ : ∃ X, mth.pkX l c m = X := ⟨_, rfl⟩
  obtain ⟨C, hC⟩ : ∃ X, mth.pkC l c m = X := ⟨_, rfl⟩
  have HP : Hid (∀ F, PickV F l c m = .tuple #[.int .i64 X, .int .i64 C, F E]) := Lib.hid (fun F => by unfold PickV; rw [hE, hX, hC])
  clear hE hX hC
  have hlw := left_want n c
  have HW := Lib.hid hlw
  clear hlw
  have hmx : (1 < m ∧ max m 1 - 1 = m - 1) ∨ (¬ 1 < m ∧ max m 1 - 1 = 0) := by omega
  have hcc : (0 ≤ c ∧ c < n ∧ leftN n c = n - c) ∨ (0 ≤ c ∧ ¬ c < n ∧ leftN n c = 0) ∨ (¬ 0 ≤ c ∧ leftN n c = 0) := by
    rw [HW.out]
    by_cases h : 0 ≤ c
    · by_cases h2 : c < n
      · exact .inl ⟨h, h2, by rw [if_pos ⟨h, h2⟩]⟩
      · exact .inr (.inl ⟨h, h2, by rw [if_neg (by omega)]⟩)
    · exact .inr (.inr ⟨h, by rw [if_neg (by omega)]⟩)
  have hnc : (4096 : Int) < n ∨ ¬ (4096 : Int) < n := by omega
  rcases hmx with ⟨hm, e1⟩ | ⟨hm, e1⟩ <;> rcases hcc with ⟨g1, g2, e2⟩ | ⟨g1, g2, e2⟩ | ⟨g1, e2⟩ <;> rcases hnc with hnc | hnc
  all_goals (
    have E1 := Lib.hid e1
    have E2 := Lib.hid e2
    clear e1 e2
    go_enter Try.func6, Try.ntmps6
    go_wp2_with (first
      | (go_at_call 7; refine (alive_c _).mono ?_; rintro e w1 ⟨rfl, hb1⟩; have HB1 := Lib.hid hb1; clear hb1)
      | (go_at_call 14; refine (Pick_c A n cp l c m _ (HA.out.keep HB1.out) HL.out HO.out (by omega) c1 c2 m1 m2).mono ?_; rintro e w3 ⟨rfl, rfl⟩; rw [HP.out])
      | (go_at_call 15; refine (refPick_c A n cp l c m _ (HA.out.keep HB1.out) HL.out HO.out (by omega) c1 c2 m1 m2).mono ?_; rintro e w3 ⟨rfl, rfl⟩; rw [HP.out]; simp only [intV])
      | (go_at_call 11; refine (Num_c E _).mono ?_; rintro e w' ⟨rfl, rfl⟩)
      | (go_at_call 12; refine (Left_c _ _ _ _ _ (by omega) c1 c2).mono ?_; rintro e w' ⟨rfl, rfl⟩; rw [E2.out])
      | (go_at_call 13; refine (Needs_c _ _ m1 m2).mono ?_; rintro e w' ⟨rfl, rfl⟩; rw [E1.out])
      | (go_at_call 16; first | (refine (Check_many _ _ _ _ (by omega)).mono ?_; rintro e w' ⟨rfl, rfl⟩) | (refine (Check_ok _ _ _ _ (by omega)).mono ?_; rintro e w' ⟨rfl, rfl⟩)))
    go_ret
    first | exact ⟨rfl, HB1.out⟩ | exact ⟨ret_bool (by simp; omega), HB1.out⟩)
end Go.Proofs.Ytoehepeiakddcaa
