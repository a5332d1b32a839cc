/-
  DERIVED. GIVEN WITH THE SEED: THE PROGRAM's TIES (one call each: nine closed facts by the kernel) AND EACH ROW's TIE, after the 31st guide's Derived/Test/Toyas{Tie, Card}.lean. No idea stands in it: it is a product of the set-up. Laid BY PROGRAM, IN A SANDBOX (cutbox-door.mjs). By AI agents, Wed Nov 11 2026. No macro, syntax, notation, axiom, sorry.
-/
import Derived.Test.YtnhahmgbgocdgaaDoorRows
import Derived.LaidByTextLater
import Derived.SevenTiedAt
import Derived.LaidSub
import Derived.LaidOnce
namespace Go.Proofs.YtnhahmgbgocdgaaDoor
open Go
set_option maxRecDepth 100000
theorem seatTie1 : Tryd.prog.laidByTextLater [("mulligan/pack.parts", Rows.laid_mulligan_pack_parts), ("mulligan/pack.others", Rows.laid_mulligan_pack_others), ("mulligan/state.any", Rows.laid_mulligan_state_any), ("mulligan/state.flag", Rows.laid_mulligan_state_flag), ("mulligan/state.resting", Rows.laid_mulligan_state_resting)] [.data, .data, .data, .data, .widerDeep] true :=
  Program.laidByTextLater_by_one 43 8 19 (by kernel_rfl) (by kernel_rfl) (by kernel_rfl) (by kernel_rfl) (by kernel_rfl) (by kernel_rfl) (fun _ _ => by kernel_rfl)
theorem noOwnUnsafe : Tryd.pinned.checked.prog.headLifts.contains "ownunsafe" = false := by kernel_rfl
theorem tie : Tryd.prog.laidByTextLater [("mulligan/pack.parts", Rows.laid_mulligan_pack_parts), ("mulligan/pack.others", Rows.laid_mulligan_pack_others), ("mulligan/state.any", Rows.laid_mulligan_state_any), ("mulligan/state.flag", Rows.laid_mulligan_state_flag), ("mulligan/state.resting", Rows.laid_mulligan_state_resting)] [.data, .data, .data, .data, .widerDeep] true :=
  Program.laidByTextLater.sub seatTie1 ["mulligan/pack.parts", "mulligan/pack.others", "mulligan/state.any", "mulligan/state.flag", "mulligan/state.resting"] (by kernel_rfl) (by kernel_rfl)
theorem canonApart_row_tie : Rows.canonApartRow.laidByTextAt .later Tryd.pinned [.data, .data, .data, .data, .widerDeep] true :=
  OpenClaim.laidByTextAt_later rfl rfl tie noOwnUnsafe
theorem canonParses_row_tie : Rows.canonParsesRow.laidByTextAt .later Tryd.pinned [.data, .data, .data, .data, .widerDeep] true :=
  OpenClaim.laidByTextAt_later rfl rfl tie noOwnUnsafe
theorem canonBack_row_tie : Rows.canonBackRow.laidByTextAt .later Tryd.pinned [.data, .data, .data, .data, .widerDeep] true :=
  OpenClaim.laidByTextAt_later rfl rfl tie noOwnUnsafe
theorem canonApartUpto_row_tie : Rows.canonApartUptoRow.laidByTextAt .later Tryd.pinned [.data, .data, .data, .data, .widerDeep] true :=
  OpenClaim.laidByTextAt_later rfl rfl tie noOwnUnsafe
theorem canonParsesUpto_row_tie : Rows.canonParsesUptoRow.laidByTextAt .later Tryd.pinned [.data, .data, .data, .data, .widerDeep] true :=
  OpenClaim.laidByTextAt_later rfl rfl tie noOwnUnsafe
theorem canonBackUpto_row_tie : Rows.canonBackUptoRow.laidByTextAt .later Tryd.pinned [.data, .data, .data, .data, .widerDeep] true :=
  OpenClaim.laidByTextAt_later rfl rfl tie noOwnUnsafe
end Go.Proofs.YtnhahmgbgocdgaaDoor
