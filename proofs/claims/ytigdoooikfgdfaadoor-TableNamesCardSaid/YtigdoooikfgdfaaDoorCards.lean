/-
  DERIVED. GIVEN WITH THE SEED: THE CARDS: each row of YtigdoooikfgdfaaDoorRows.lean that lists a variable, with what it lists TIED to the program's text (the seventh form; the later family's looks); each row that meets fmt, with fmt's text TOLD by the authors' own Lean function (tested against real Go, not proved from fmt's source: count such statements apart). THE CARD IS WHAT COUNTS. Prove the row's statement (the work); the ties are given (YtigdoooikfgdfaaDoorTie.lean); close each card by the builder's one call (the guide's Derived/Test/ToyasCard.lean, 'card_holds'). Laid BY PROGRAM, IN A SANDBOX (cutbox-door.mjs). By AI agents, Wed Nov 11 2026. No macro, syntax, notation, axiom, sorry.
-/
import Derived.Test.YtigdoooikfgdfaaDoorRows
import GoSem.ClaimSeven
namespace Go.Proofs.YtigdoooikfgdfaaDoor
namespace Rows

/-- THE TIED CARD OF 'mulliganlaw08.TableCards'. -/
def tableCardsCard : Claim7 := { stood := { row := tableCardsRow, standIns := [], harness := (true, "ab452f9d2204a389b551934dec66c2d8e8b497cf1bebaac07dfc98e8575c4d93"), looks := true }, kinds := [], alts := [], laidByText := true, laidKinds := [.data, .data, .data], laidTests := true, laidLooks := .later }
def TableCardsCardSaid : Prop := Claim7.holds Tryd.pinned (.plain (OpenSpec.ofChange tableCardsSpec)) tableCardsCard

/-- THE TIED CARD OF 'mulliganlaw08.TableNames'. -/
def tableNamesCard : Claim7 := { stood := { row := tableNamesRow, standIns := [], harness := (true, "ab452f9d2204a389b551934dec66c2d8e8b497cf1bebaac07dfc98e8575c4d93"), looks := true }, kinds := [], alts := [], laidByText := true, laidKinds := [.data, .data, .data, .sentinel, .sentinel], laidTests := true, laidLooks := .later }
def TableNamesCardSaid : Prop := Claim7.holds Tryd.pinned (.plain (OpenSpec.ofChange tableNamesSpec)) tableNamesCard

/-- THE SECOND FORM's CARD OF 'mulliganlaw08.TableCards'. -/
def tableCardsUptoCard : Claim7 := { stood := { row := tableCardsUptoRow, standIns := [], harness := (true, "ab452f9d2204a389b551934dec66c2d8e8b497cf1bebaac07dfc98e8575c4d93"), looks := true }, kinds := [], alts := [], laidByText := true, laidKinds := [.data, .data, .data], laidTests := true, laidLooks := .later }
def TableCardsUptoCardSaid : Prop := Claim7.holds Tryd.pinned (.plain (OpenSpec.upto tableCardsSpec)) tableCardsUptoCard

/-- THE SECOND FORM's CARD OF 'mulliganlaw08.TableNames'. -/
def tableNamesUptoCard : Claim7 := { stood := { row := tableNamesUptoRow, standIns := [], harness := (true, "ab452f9d2204a389b551934dec66c2d8e8b497cf1bebaac07dfc98e8575c4d93"), looks := true }, kinds := [], alts := [], laidByText := true, laidKinds := [.data, .data, .data, .sentinel, .sentinel], laidTests := true, laidLooks := .later }
def TableNamesUptoCardSaid : Prop := Claim7.holds Tryd.pinned (.plain (OpenSpec.upto tableNamesSpec)) tableNamesUptoCard
end Rows
end Go.Proofs.YtigdoooikfgdfaaDoor
