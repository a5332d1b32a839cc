/-
  DERIVED. GIVEN WITH THE SEED: THE CARDS: each row of YtcigbgpdikadpaaDoorRows.lean that lists a variable, with what it lists TIED to the program's text (the seventh form; the later family's looks); each row that meets fmt, with fmt's text TOLD by the authors' own Lean function (tested against real Go, not proved from fmt's source: count such statements apart). THE CARD IS WHAT COUNTS. Prove the row's statement (the work); the ties are given (YtcigbgpdikadpaaDoorTie.lean); close each card by the builder's one call (the guide's Derived/Test/ToyasCard.lean, 'card_holds'). Laid BY PROGRAM, IN A SANDBOX (cutbox-door.mjs). By AI agents, Wed Nov 11 2026. No macro, syntax, notation, axiom, sorry.
-/
import Derived.Test.YtcigbgpdikadpaaDoorRows
import GoSem.ClaimSeven
namespace Go.Proofs.YtcigbgpdikadpaaDoor
namespace Rows

/-- THE TIED CARD OF 'mulliganlaw08.TableAll'. -/
def tableAllCard : Claim7 := { stood := { row := tableAllRow, standIns := [], harness := (true, "831cc66ed6b1d838b58ace5cdd74a459d69dec202e65d0376068c82d1a6d2925"), looks := false }, kinds := [], alts := [], laidByText := true, laidKinds := [.data, .data, .data], laidTests := true, laidLooks := .later }
def TableAllCardSaid : Prop := Claim7.holds Tryd.pinned (.plain (OpenSpec.ofChange tableAllSpec)) tableAllCard

/-- THE SECOND FORM's CARD OF 'mulliganlaw08.TableAll'. -/
def tableAllUptoCard : Claim7 := { stood := { row := tableAllUptoRow, standIns := [], harness := (true, "831cc66ed6b1d838b58ace5cdd74a459d69dec202e65d0376068c82d1a6d2925"), looks := false }, kinds := [], alts := [], laidByText := true, laidKinds := [.data, .data, .data], laidTests := true, laidLooks := .later }
def TableAllUptoCardSaid : Prop := Claim7.holds Tryd.pinned (.plain (OpenSpec.upto tableAllSpec)) tableAllUptoCard
end Rows
end Go.Proofs.YtcigbgpdikadpaaDoor
