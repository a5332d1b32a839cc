/-
  DERIVED. GIVEN WITH THE SEED: THE CARDS: each row of YtcoacgfciilplaaDoorRows.lean that lists a variable, with what it lists TIED to the program's text (the seventh form; the later family's looks); each row that meets fmt, with fmt's text TOLD by the authors' own Lean function (tested against real Go, not proved from fmt's source: count such statements apart). THE CARD IS WHAT COUNTS. Prove the row's statement (the work); the ties are given (YtcoacgfciilplaaDoorTie.lean); close each card by the builder's one call (the guide's Derived/Test/ToyasCard.lean, 'card_holds'). Laid BY PROGRAM, IN A SANDBOX (cutbox-door.mjs). By AI agents, Wed Nov 11 2026. No macro, syntax, notation, axiom, sorry.
-/
import Derived.Test.YtcoacgfciilplaaDoorRows
import GoSem.ClaimSeven
namespace Go.Proofs.YtcoacgfciilplaaDoor
namespace Rows

/-- THE TIED CARD OF 'mulliganlaw35.ScriptChecks'. -/
def scriptChecksCard : Claim7 := { stood := { row := scriptChecksRow, standIns := [], harness := (true, "930767ddce3c41ea8a26ebc4f30e25c69938e3db3ff3aa9315c2ba79e3a8bc06"), looks := true }, kinds := [], alts := [], laidByText := true, laidKinds := [.data, .data], laidTests := true, laidLooks := .later }
def ScriptChecksCardSaid : Prop := Claim7.holds Tryd.pinned (.plain (OpenSpec.ofChange scriptChecksSpec)) scriptChecksCard

/-- THE TIED CARD OF 'mulliganlaw35.ScriptSame'. -/
def scriptSameCard : Claim7 := { stood := { row := scriptSameRow, standIns := [], harness := (true, "930767ddce3c41ea8a26ebc4f30e25c69938e3db3ff3aa9315c2ba79e3a8bc06"), looks := true }, kinds := [], alts := [], laidByText := true, laidKinds := [.data, .data], laidTests := true, laidLooks := .later }
def ScriptSameCardSaid : Prop := Claim7.holds Tryd.pinned (.plain (OpenSpec.ofChange scriptSameSpec)) scriptSameCard

/-- THE SECOND FORM's CARD OF 'mulliganlaw35.ScriptChecks'. -/
def scriptChecksUptoCard : Claim7 := { stood := { row := scriptChecksUptoRow, standIns := [], harness := (true, "930767ddce3c41ea8a26ebc4f30e25c69938e3db3ff3aa9315c2ba79e3a8bc06"), looks := true }, kinds := [], alts := [], laidByText := true, laidKinds := [.data, .data], laidTests := true, laidLooks := .later }
def ScriptChecksUptoCardSaid : Prop := Claim7.holds Tryd.pinned (.plain (OpenSpec.upto scriptChecksSpec)) scriptChecksUptoCard

/-- THE SECOND FORM's CARD OF 'mulliganlaw35.ScriptSame'. -/
def scriptSameUptoCard : Claim7 := { stood := { row := scriptSameUptoRow, standIns := [], harness := (true, "930767ddce3c41ea8a26ebc4f30e25c69938e3db3ff3aa9315c2ba79e3a8bc06"), looks := true }, kinds := [], alts := [], laidByText := true, laidKinds := [.data, .data], laidTests := true, laidLooks := .later }
def ScriptSameUptoCardSaid : Prop := Claim7.holds Tryd.pinned (.plain (OpenSpec.upto scriptSameSpec)) scriptSameUptoCard
end Rows
end Go.Proofs.YtcoacgfciilplaaDoor
