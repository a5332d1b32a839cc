/-
  DERIVED. GIVEN WITH THE SEED: THE CARDS: each row of YtnhahmgbgocdgaaDoorRows.lean that lists a variable, with what it lists TIED to the program's text (the seventh form; the later family's looks); each row that meets fmt, with fmt's text TOLD by the authors' own Lean function (tested against real Go, not proved from fmt's source: count such statements apart). THE CARD IS WHAT COUNTS. Prove the row's statement (the work); the ties are given (YtnhahmgbgocdgaaDoorTie.lean); close each card by the builder's one call (the guide's Derived/Test/ToyasCard.lean, 'card_holds'). Laid BY PROGRAM, IN A SANDBOX (cutbox-door.mjs). By AI agents, Wed Nov 11 2026. No macro, syntax, notation, axiom, sorry.
-/
import Derived.Test.YtnhahmgbgocdgaaDoorRows
import GoSem.ClaimSeven
namespace Go.Proofs.YtnhahmgbgocdgaaDoor
namespace Rows

/-- THE TIED CARD OF 'mulliganlaw11.CanonApart'. -/
def canonApartCard : Claim7 := { stood := { row := canonApartRow, standIns := [], harness := (true, "85beb551e22d05f00cf9ceb74eed19b9c2a94363f653333da466889432285dce"), looks := true }, kinds := [], alts := [], laidByText := true, laidKinds := [.data, .data, .data, .data, .widerDeep], laidTests := true, laidLooks := .later }
def CanonApartCardSaid : Prop := Claim7.holds Tryd.pinned (.plain (OpenSpec.ofChange canonApartSpec)) canonApartCard

/-- THE TIED CARD OF 'mulliganlaw11.CanonParses'. -/
def canonParsesCard : Claim7 := { stood := { row := canonParsesRow, standIns := [], harness := (true, "85beb551e22d05f00cf9ceb74eed19b9c2a94363f653333da466889432285dce"), looks := true }, kinds := [], alts := [], laidByText := true, laidKinds := [.data, .data, .data, .data, .widerDeep], laidTests := true, laidLooks := .later }
def CanonParsesCardSaid : Prop := Claim7.holds Tryd.pinned (.plain (OpenSpec.ofChange canonParsesSpec)) canonParsesCard

/-- THE TIED CARD OF 'mulliganlaw11.CanonBack'. -/
def canonBackCard : Claim7 := { stood := { row := canonBackRow, standIns := [], harness := (true, "85beb551e22d05f00cf9ceb74eed19b9c2a94363f653333da466889432285dce"), looks := true }, kinds := [], alts := [], laidByText := true, laidKinds := [.data, .data, .data, .data, .widerDeep], laidTests := true, laidLooks := .later }
def CanonBackCardSaid : Prop := Claim7.holds Tryd.pinned (.plain (OpenSpec.ofChange canonBackSpec)) canonBackCard

/-- THE SECOND FORM's CARD OF 'mulliganlaw11.CanonApart'. -/
def canonApartUptoCard : Claim7 := { stood := { row := canonApartUptoRow, standIns := [], harness := (true, "85beb551e22d05f00cf9ceb74eed19b9c2a94363f653333da466889432285dce"), looks := true }, kinds := [], alts := [], laidByText := true, laidKinds := [.data, .data, .data, .data, .widerDeep], laidTests := true, laidLooks := .later }
def CanonApartUptoCardSaid : Prop := Claim7.holds Tryd.pinned (.plain (OpenSpec.upto canonApartSpec)) canonApartUptoCard

/-- THE SECOND FORM's CARD OF 'mulliganlaw11.CanonParses'. -/
def canonParsesUptoCard : Claim7 := { stood := { row := canonParsesUptoRow, standIns := [], harness := (true, "85beb551e22d05f00cf9ceb74eed19b9c2a94363f653333da466889432285dce"), looks := true }, kinds := [], alts := [], laidByText := true, laidKinds := [.data, .data, .data, .data, .widerDeep], laidTests := true, laidLooks := .later }
def CanonParsesUptoCardSaid : Prop := Claim7.holds Tryd.pinned (.plain (OpenSpec.upto canonParsesSpec)) canonParsesUptoCard

/-- THE SECOND FORM's CARD OF 'mulliganlaw11.CanonBack'. -/
def canonBackUptoCard : Claim7 := { stood := { row := canonBackUptoRow, standIns := [], harness := (true, "85beb551e22d05f00cf9ceb74eed19b9c2a94363f653333da466889432285dce"), looks := true }, kinds := [], alts := [], laidByText := true, laidKinds := [.data, .data, .data, .data, .widerDeep], laidTests := true, laidLooks := .later }
def CanonBackUptoCardSaid : Prop := Claim7.holds Tryd.pinned (.plain (OpenSpec.upto canonBackSpec)) canonBackUptoCard
end Rows
end Go.Proofs.YtnhahmgbgocdgaaDoor
