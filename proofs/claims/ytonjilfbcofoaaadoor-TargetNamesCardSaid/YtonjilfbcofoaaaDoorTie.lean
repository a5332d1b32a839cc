/-
  DERIVED. GIVEN WITH THE SEED: THE PROGRAM's TIES (one call each: nine closed facts by the kernel) AND EACH ROW's TIE, after the 31st guide's Derived/Test/Toyas{Tie, Card}.lean. No idea stands in it: it is a product of the set-up. Laid BY PROGRAM, IN A SANDBOX (cutbox-door.mjs). By AI agents, Wed Nov 11 2026. No macro, syntax, notation, axiom, sorry.
-/
import Derived.Test.YtonjilfbcofoaaaDoorRows
import Derived.LaidByTextLater
import Derived.SevenTiedAt
import Derived.LaidSub
import Derived.LaidOnce
namespace Go.Proofs.YtonjilfbcofoaaaDoor
open Go
set_option maxRecDepth 100000
theorem seatTie1 : Tryd.prog.laidByTextLater [("mulligan/state.any", Rows.laid_mulligan_state_any), ("mulligan/state.flag", Rows.laid_mulligan_state_flag), ("mulligan/state.resting", Rows.laid_mulligan_state_resting)] [.data, .data, .widerDeep] true :=
  Program.laidByTextLater_by_one 24 8 10 (by kernel_rfl) (by kernel_rfl) (by kernel_rfl) (by kernel_rfl) (by kernel_rfl) (by kernel_rfl) (fun _ _ => by kernel_rfl)
theorem noOwnUnsafe : Tryd.pinned.checked.prog.headLifts.contains "ownunsafe" = false := by kernel_rfl
theorem tie : Tryd.prog.laidByTextLater [("mulligan/state.any", Rows.laid_mulligan_state_any), ("mulligan/state.flag", Rows.laid_mulligan_state_flag), ("mulligan/state.resting", Rows.laid_mulligan_state_resting)] [.data, .data, .widerDeep] true :=
  Program.laidByTextLater.sub seatTie1 ["mulligan/state.any", "mulligan/state.flag", "mulligan/state.resting"] (by kernel_rfl) (by kernel_rfl)
theorem targetLists_row_tie : Rows.targetListsRow.laidByTextAt .later Tryd.pinned [.data, .data, .widerDeep] true :=
  OpenClaim.laidByTextAt_later rfl rfl tie noOwnUnsafe
theorem targetChecks_row_tie : Rows.targetChecksRow.laidByTextAt .later Tryd.pinned [.data, .data, .widerDeep] true :=
  OpenClaim.laidByTextAt_later rfl rfl tie noOwnUnsafe
theorem targetNames_row_tie : Rows.targetNamesRow.laidByTextAt .later Tryd.pinned [.data, .data, .widerDeep] true :=
  OpenClaim.laidByTextAt_later rfl rfl tie noOwnUnsafe
theorem targetMore_row_tie : Rows.targetMoreRow.laidByTextAt .later Tryd.pinned [.data, .data, .widerDeep] true :=
  OpenClaim.laidByTextAt_later rfl rfl tie noOwnUnsafe
theorem targetListsUpto_row_tie : Rows.targetListsUptoRow.laidByTextAt .later Tryd.pinned [.data, .data, .widerDeep] true :=
  OpenClaim.laidByTextAt_later rfl rfl tie noOwnUnsafe
theorem targetChecksUpto_row_tie : Rows.targetChecksUptoRow.laidByTextAt .later Tryd.pinned [.data, .data, .widerDeep] true :=
  OpenClaim.laidByTextAt_later rfl rfl tie noOwnUnsafe
theorem targetNamesUpto_row_tie : Rows.targetNamesUptoRow.laidByTextAt .later Tryd.pinned [.data, .data, .widerDeep] true :=
  OpenClaim.laidByTextAt_later rfl rfl tie noOwnUnsafe
theorem targetMoreUpto_row_tie : Rows.targetMoreUptoRow.laidByTextAt .later Tryd.pinned [.data, .data, .widerDeep] true :=
  OpenClaim.laidByTextAt_later rfl rfl tie noOwnUnsafe
end Go.Proofs.YtonjilfbcofoaaaDoor
