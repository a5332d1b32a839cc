/-
  DERIVED. GIVEN WITH THE SEED: THE PROGRAM's TIES (one call each: nine closed facts by the kernel) AND EACH ROW's TIE, after the 31st guide's Derived/Test/Toyas{Tie, Card}.lean. No idea stands in it: it is a product of the set-up. Laid BY PROGRAM, IN A SANDBOX (cutbox-door.mjs). By AI agents, Wed Nov 11 2026. No macro, syntax, notation, axiom, sorry.
-/
import Derived.Test.YtpmkdbiejeedeaaDoorRows
import Derived.LaidByTextLater
import Derived.SevenTiedAt
import Derived.LaidSub
import Derived.LaidOnce
namespace Go.Proofs.YtpmkdbiejeedeaaDoor
open Go
set_option maxRecDepth 100000
theorem seatTie1 : Tryd.prog.laidByTextLater [("mulligan/pack.parts", Rows.laid_mulligan_pack_parts), ("mulligan/pack.others", Rows.laid_mulligan_pack_others)] [.data, .data] true :=
  Program.laidByTextLater_by_one 28 8 19 (by kernel_rfl) (by kernel_rfl) (by kernel_rfl) (by kernel_rfl) (by kernel_rfl) (by kernel_rfl) (fun _ _ => by kernel_rfl)
theorem noOwnUnsafe : Tryd.pinned.checked.prog.headLifts.contains "ownunsafe" = false := by kernel_rfl
theorem tie : Tryd.prog.laidByTextLater [("mulligan/pack.parts", Rows.laid_mulligan_pack_parts)] [.data] true :=
  Program.laidByTextLater.sub seatTie1 ["mulligan/pack.parts"] (by kernel_rfl) (by kernel_rfl)
theorem packShorts_row_tie : Rows.packShortsRow.laidByTextAt .later Tryd.pinned [.data] true :=
  OpenClaim.laidByTextAt_later rfl rfl tie noOwnUnsafe
theorem tie2 : Tryd.prog.laidByTextLater [("mulligan/pack.parts", Rows.laid_mulligan_pack_parts), ("mulligan/pack.others", Rows.laid_mulligan_pack_others)] [.data, .data] true :=
  Program.laidByTextLater.sub seatTie1 ["mulligan/pack.parts", "mulligan/pack.others"] (by kernel_rfl) (by kernel_rfl)
theorem packHeads_row_tie : Rows.packHeadsRow.laidByTextAt .later Tryd.pinned [.data, .data] true :=
  OpenClaim.laidByTextAt_later rfl rfl tie2 noOwnUnsafe
theorem packObjects_row_tie : Rows.packObjectsRow.laidByTextAt .later Tryd.pinned [.data, .data] true :=
  OpenClaim.laidByTextAt_later rfl rfl tie2 noOwnUnsafe
theorem packBack_row_tie : Rows.packBackRow.laidByTextAt .later Tryd.pinned [.data, .data] true :=
  OpenClaim.laidByTextAt_later rfl rfl tie2 noOwnUnsafe
theorem packShortsUpto_row_tie : Rows.packShortsUptoRow.laidByTextAt .later Tryd.pinned [.data] true :=
  OpenClaim.laidByTextAt_later rfl rfl tie noOwnUnsafe
theorem packHeadsUpto_row_tie : Rows.packHeadsUptoRow.laidByTextAt .later Tryd.pinned [.data, .data] true :=
  OpenClaim.laidByTextAt_later rfl rfl tie2 noOwnUnsafe
theorem packObjectsUpto_row_tie : Rows.packObjectsUptoRow.laidByTextAt .later Tryd.pinned [.data, .data] true :=
  OpenClaim.laidByTextAt_later rfl rfl tie2 noOwnUnsafe
theorem packBackUpto_row_tie : Rows.packBackUptoRow.laidByTextAt .later Tryd.pinned [.data, .data] true :=
  OpenClaim.laidByTextAt_later rfl rfl tie2 noOwnUnsafe
end Go.Proofs.YtpmkdbiejeedeaaDoor
