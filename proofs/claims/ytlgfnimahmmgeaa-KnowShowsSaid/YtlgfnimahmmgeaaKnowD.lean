/-
  Contracts: who knows what stands where; the event by which more of them know, or fewer.
-/
import Derived.Test.YtlgfnimahmmgeaaKnowC
namespace Go.Proofs.Ytlgfnimahmmgeaa
open Go.RowKit
set_option linter.unusedVariables false

theorem Side_out (z : Int) (w : World) (h : z < 0 ∨ 11 ≤ z) : Calls Try.prog 27 #[.int .i64 z] w fun e w' => e = .returned (.tuple #[.int .i64 0, .int .i64 0, .bool false]) ∧ w = w' := by
  have hc : z < 0 ∨ (¬ z < 0 ∧ 11 ≤ z) := by omega
  clear h
  rcases hc with h | ⟨h, h2⟩
  all_goals (
    go_enter Try.func27, Try.ntmps27
    go_wp2
    go_ret3
    exact ⟨rfl, rfl⟩)
def sB (z : Int) : Int := if z < 8 then z - z % 2 else z
def sP (z : Int) : Int := if z < 8 then z % 2 else 0
def sO (z : Int) : Bool := decide (z < 8)
theorem in11 {z : Int} (h : 0 ≤ z ∧ z < 11) : z = 0 ∨ z = 1 ∨ z = 2 ∨ z = 3 ∨ z = 4 ∨ z = 5 ∨ z = 6 ∨ z = 7 ∨ z = 8 ∨ z = 9 ∨ z = 10 := by omega
theorem Side_in (z : Int) (hz : 0 ≤ z ∧ z < 11) (w : World) : Calls Try.prog 27 #[.int .i64 z] w fun e w' => e = .returned (.tuple #[.int .i64 (sB z), .int .i64 (sP z), .bool (sO z)]) ∧ w = w' := by
  rcases in11 hz with rfl | rfl | rfl | rfl | rfl | rfl | rfl | rfl | rfl | rfl | rfl
  all_goals (
    clear hz
    go_enter Try.func27, Try.ntmps27
    go_wp2
    go_ret3
    exact ⟨rfl, rfl⟩)
/-- who knows what stands there -/
def zn (z : Int) : Int := if z = 2 then 1 else if z = 3 then 2 else if 4 ≤ z ∧ z ≤ 10 then 3 else 0
theorem Zone_c (z : Int) (w : World) : Calls Try.prog 16 #[.int .i64 z] w fun e w' => e = .returned (.int .i64 (zn z)) ∧ w = w' := by
  by_cases hz : 0 ≤ z ∧ z < 11
  · rcases in11 hz with rfl | rfl | rfl | rfl | rfl | rfl | rfl | rfl | rfl | rfl | rfl
    · go_enter Try.func16, Try.ntmps16
      go_wp2_with (go_at_call 27; refine (Side_in 0 (by omega) _).mono ?_; rintro e w' ⟨rfl, rfl⟩; rw [show sB 0 = 0 from rfl, show sP 0 = 0 from rfl, show sO 0 = true from rfl])
      go_ret
      exact ⟨rfl, rfl⟩
    · go_enter Try.func16, Try.ntmps16
      go_wp2_with (go_at_call 27; refine (Side_in 1 (by omega) _).mono ?_; rintro e w' ⟨rfl, rfl⟩; rw [show sB 1 = 0 from rfl, show sP 1 = 1 from rfl, show sO 1 = true from rfl])
      go_ret
      exact ⟨rfl, rfl⟩
    · go_enter Try.func16, Try.ntmps16
      go_wp2_with (go_at_call 27; refine (Side_in 2 (by omega) _).mono ?_; rintro e w' ⟨rfl, rfl⟩; rw [show sB 2 = 2 from rfl, show sP 2 = 0 from rfl, show sO 2 = true from rfl])
      go_ret
      exact ⟨rfl, rfl⟩
    · go_enter Try.func16, Try.ntmps16
      go_wp2_with (go_at_call 27; refine (Side_in 3 (by omega) _).mono ?_; rintro e w' ⟨rfl, rfl⟩; rw [show sB 3 = 2 from rfl, show sP 3 = 1 from rfl, show sO 3 = true from rfl])
      go_ret
      exact ⟨rfl, rfl⟩
    · go_enter Try.func16, Try.ntmps16
      go_wp2_with (go_at_call 27; refine (Side_in 4 (by omega) _).mono ?_; rintro e w' ⟨rfl, rfl⟩; rw [show sB 4 = 4 from rfl, show sP 4 = 0 from rfl, show sO 4 = true from rfl])
      go_ret
      exact ⟨rfl, rfl⟩
    · go_enter Try.func16, Try.ntmps16
      go_wp2_with (go_at_call 27; refine (Side_in 5 (by omega) _).mono ?_; rintro e w' ⟨rfl, rfl⟩; rw [show sB 5 = 4 from rfl, show sP 5 = 1 from rfl, show sO 5 = true from rfl])
      go_ret
      exact ⟨rfl, rfl⟩
    · go_enter Try.func16, Try.ntmps16
      go_wp2_with (go_at_call 27; refine (Side_in 6 (by omega) _).mono ?_; rintro e w' ⟨rfl, rfl⟩; rw [show sB 6 = 6 from rfl, show sP 6 = 0 from rfl, show sO 6 = true from rfl])
      go_ret
      exact ⟨rfl, rfl⟩
    · go_enter Try.func16, Try.ntmps16
      go_wp2_with (go_at_call 27; refine (Side_in 7 (by omega) _).mono ?_; rintro e w' ⟨rfl, rfl⟩; rw [show sB 7 = 6 from rfl, show sP 7 = 1 from rfl, show sO 7 = true from rfl])
      go_ret
      exact ⟨rfl, rfl⟩
    · go_enter Try.func16, Try.ntmps16
      go_wp2_with (go_at_call 27; refine (Side_in 8 (by omega) _).mono ?_; rintro e w' ⟨rfl, rfl⟩; rw [show sB 8 = 8 from rfl, show sP 8 = 0 from rfl, show sO 8 = false from rfl])
      go_ret
      exact ⟨rfl, rfl⟩
    · go_enter Try.func16, Try.ntmps16
      go_wp2_with (go_at_call 27; refine (Side_in 9 (by omega) _).mono ?_; rintro e w' ⟨rfl, rfl⟩; rw [show sB 9 = 9 from rfl, show sP 9 = 0 from rfl, show sO 9 = false from rfl])
      go_ret
      exact ⟨rfl, rfl⟩
    · go_enter Try.func16, Try.ntmps16
      go_wp2_with (go_at_call 27; refine (Side_in 10 (by omega) _).mono ?_; rintro e w' ⟨rfl, rfl⟩; rw [show sB 10 = 10 from rfl, show sP 10 = 0 from rfl, show sO 10 = false from rfl])
      go_ret
      exact ⟨rfl, rfl⟩
  · have hc : z < 0 ∨ (¬ z < 0 ∧ 11 ≤ z) := by omega
    have h0 : Hid (z < 0 ∨ 11 ≤ z) := Lib.hid (by omega)
    have HZ : Hid (zn z = 0) := Lib.hid (by unfold zn; rw [if_neg (by omega), if_neg (by omega), if_neg (by omega)])
    clear hz
    rcases hc with h | ⟨h, h2⟩
    all_goals (
      go_enter Try.func16, Try.ntmps16
      go_wp2_with (go_at_call 27; refine (Side_out _ _ h0.out).mono ?_; rintro e w' ⟨rfl, rfl⟩)
      go_ret
      rw [HZ.out]
      exact ⟨rfl, rfl⟩)

/-- the two ways the bits turn -/
def orW (was players : Int) : Int := bits .or .i64 was (bits .and .i64 players 3)
def clrW (was players : Int) : Int := bits .andNot .i64 was (bits .and .i64 players 3)
theorem ShowF_c (was players : Int) (b : Nat) (w : World) (hc : w.cell? ⟨b, 0, none⟩ = some (.int .i64 players)) : Calls Try.prog 29 #[.int .i64 was, .pointer (some ⟨b, 0, none⟩)] w fun e w' => e = .returned (.int .i64 (orW was players)) ∧ w = w' := by
  have e0 : Hid (orW was players = bits .or .i64 was (bits .and .i64 players 3)) := Lib.hid rfl
  go_enter Try.func29, Try.ntmps29
  go_wp2
  go_ret
  rw [e0.out]
  exact ⟨rfl, rfl⟩
theorem HideF_c (was players : Int) (b : Nat) (w : World) (hc : w.cell? ⟨b, 0, none⟩ = some (.int .i64 players)) : Calls Try.prog 30 #[.int .i64 was, .pointer (some ⟨b, 0, none⟩)] w fun e w' => e = .returned (.int .i64 (clrW was players)) ∧ w = w' := by
  have e0 : Hid (clrW was players = bits .andNot .i64 was (bits .and .i64 players 3)) := Lib.hid rfl
  go_enter Try.func30, Try.ntmps30
  go_wp2
  go_ret
  rw [e0.out]
  exact ⟨rfl, rfl⟩
end Go.Proofs.Ytlgfnimahmmgeaa
