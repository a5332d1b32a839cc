/-
  DERIVED. GIVEN WITH THE SEED: THE CARDS: each row of YtihhbofjpidmpaaDoorRows.lean that lists a variable, with what it lists TIED to the program's text (the seventh form; the later family's looks); each row that meets fmt, with fmt's text TOLD by the authors' own Lean function (tested against real Go, not proved from fmt's source: count such statements apart). THE CARD IS WHAT COUNTS. Prove the row's statement (the work); the ties are given (YtihhbofjpidmpaaDoorTie.lean); close each card by the builder's one call (the guide's Derived/Test/ToyasCard.lean, 'card_holds'). Laid BY PROGRAM, IN A SANDBOX (cutbox-door.mjs). By AI agents, Wed Nov 11 2026. No macro, syntax, notation, axiom, sorry.
-/
import Derived.Test.YtihhbofjpidmpaaDoorRows
import GoSem.ClaimSeven
namespace Go.Proofs.YtihhbofjpidmpaaDoor
namespace Rows

/-- THE TIED CARD OF 'mulliganlaw08.TableDecks'. -/
def tableDecksCard : Claim7 := { stood := { row := tableDecksRow, standIns := [], harness := (true, "be02e0d238d9fce02f2bdf34a69ddc8ad80519982d26a1c0ae148b21f13cb5ab"), looks := true }, kinds := [], alts := [], laidByText := true, laidKinds := [.data, .data, .data], laidTests := true, laidLooks := .later }
def TableDecksCardSaid : Prop := Claim7.holds Tryd.pinned (.plain (OpenSpec.ofChange tableDecksSpec)) tableDecksCard

/-- THE SECOND FORM's CARD OF 'mulliganlaw08.TableDecks'. -/
def tableDecksUptoCard : Claim7 := { stood := { row := tableDecksUptoRow, standIns := [], harness := (true, "be02e0d238d9fce02f2bdf34a69ddc8ad80519982d26a1c0ae148b21f13cb5ab"), looks := true }, kinds := [], alts := [], laidByText := true, laidKinds := [.data, .data, .data], laidTests := true, laidLooks := .later }
def TableDecksUptoCardSaid : Prop := Claim7.holds Tryd.pinned (.plain (OpenSpec.upto tableDecksSpec)) tableDecksUptoCard
end Rows
end Go.Proofs.YtihhbofjpidmpaaDoor
