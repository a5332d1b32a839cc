/-
  DERIVED. GIVEN WITH THE SEED: THE CARDS: each row of YtlfeaahbmahhgaaDoorRows.lean that lists a variable, with what it lists TIED to the program's text (the seventh form; the later family's looks); each row that meets fmt, with fmt's text TOLD by the authors' own Lean function (tested against real Go, not proved from fmt's source: count such statements apart). THE CARD IS WHAT COUNTS. Prove the row's statement (the work); the ties are given (YtlfeaahbmahhgaaDoorTie.lean); close each card by the builder's one call (the guide's Derived/Test/ToyasCard.lean, 'card_holds'). Laid BY PROGRAM, IN A SANDBOX (cutbox-door.mjs). By AI agents, Wed Nov 11 2026. No macro, syntax, notation, axiom, sorry.
-/
import Derived.Test.YtlfeaahbmahhgaaDoorRows
import GoSem.ClaimSeven
namespace Go.Proofs.YtlfeaahbmahhgaaDoor
namespace Rows

/-- THE TIED CARD OF 'mulliganlaw01.BitsSets'. -/
def bitsSetsCard : Claim7 := { stood := { row := bitsSetsRow, standIns := [], harness := (true, "dc11ec0f6f35a07d3baa2eb3d5c385f68f5dc565ace5a666cd2648cd61ff3ecc"), looks := false }, kinds := [], alts := [], laidByText := true, laidKinds := [.data], laidTests := true, laidLooks := .later }
def BitsSetsCardSaid : Prop := Claim7.holds Tryd.pinned (.plain (OpenSpec.ofChange bitsSetsSpec)) bitsSetsCard

/-- THE SECOND FORM's CARD OF 'mulliganlaw01.BitsSets'. -/
def bitsSetsUptoCard : Claim7 := { stood := { row := bitsSetsUptoRow, standIns := [], harness := (true, "dc11ec0f6f35a07d3baa2eb3d5c385f68f5dc565ace5a666cd2648cd61ff3ecc"), looks := false }, kinds := [], alts := [], laidByText := true, laidKinds := [.data], laidTests := true, laidLooks := .later }
def BitsSetsUptoCardSaid : Prop := Claim7.holds Tryd.pinned (.plain (OpenSpec.upto bitsSetsSpec)) bitsSetsUptoCard
end Rows
end Go.Proofs.YtlfeaahbmahhgaaDoor
