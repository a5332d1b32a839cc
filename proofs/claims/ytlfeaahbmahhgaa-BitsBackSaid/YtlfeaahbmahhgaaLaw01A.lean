/-
  BitsNarrows: for any number and any width the law answers true.
-/
import Derived.Test.YtlfeaahbmahhgaaBitsA
namespace Go.Proofs.Ytlfeaahbmahhgaa
open Go.RowKit
set_option linter.unusedVariables false

theorem alive_c (w : World) : Calls Try.prog 6 #[] w fun e w' => e = .returned (.bool true) ∧ w = w' := by
  have HN := Lib.hid mth.narrow_ex
  have HS := Lib.hid mth.span_ex
  go_enter Try.func6, Try.ntmps6
  go_wp2_with (first
    | (go_at_call 8; refine (Narrow_c _ _ _ (by omega) (by omega)).mono ?_; rintro e w' ⟨rfl, rfl⟩; rw [HN.out])
    | (go_at_call 15; refine (Span_c _ _ _).mono ?_; rintro e w' ⟨rfl, rfl⟩; rw [HS.out]))
  go_ret
  exact ⟨rfl, rfl⟩

theorem BitsNarrows_c (n width : Int) (w : World) (h1 : -9223372036854775808 ≤ n) (h2 : n ≤ 9223372036854775807) :
    Calls Try.prog 3 #[.int .i64 n, .int .i64 width] w (Ret w (.bool true)) := by
  go_enter Try.func3, Try.ntmps3
  go_wp2_with (first
    | (go_at_call 6; refine (alive_c _).mono ?_; rintro e w' ⟨rfl, rfl⟩)
    | (go_at_call 7; refine (Narrow_ref _ _ _ h1 h2).mono ?_; rintro e w1 ⟨rfl, hb1⟩)
    | (go_at_call 8; refine (Narrow_c _ _ _ h1 h2).mono ?_; rintro e w' ⟨rfl, rfl⟩)
    | (go_at_call 9; refine (Fits_c _ _ _ h1 h2).mono ?_; rintro e w' ⟨rfl, rfl⟩))
  all_goals go_ret
  all_goals exact ⟨rfl, hb1⟩
end Go.Proofs.Ytlfeaahbmahhgaa
