/-
  BitsNarrows: for any number and any width the law answers true.
-/
import Derived.Test.YtlfeaahbmahhgaaDoorBitsA
namespace Go.Proofs.YtlfeaahbmahhgaaDoor
open Go.RowKit
set_option linter.unusedVariables false

theorem alive_c (w : World) : Calls Tryd.prog 4 #[] w fun e w' => e = .returned (.bool true) ∧ w = w' := by
  have HN := Lib.hid mth.narrow_ex
  have HS := Lib.hid mth.span_ex
  go_enter Tryd.func4, Tryd.ntmps4
  go_wp2_with (first
    | (go_at_call 12; refine (Narrow_c _ _ _ (by omega) (by omega)).mono ?_; rintro e w' ⟨rfl, rfl⟩; rw [HN.out])
    | (go_at_call 13; refine (Span_c _ _ _).mono ?_; rintro e w' ⟨rfl, rfl⟩; rw [HS.out]))
  go_ret
  exact ⟨rfl, rfl⟩

end Go.Proofs.YtlfeaahbmahhgaaDoor
