/-
  DERIVED. GIVEN WITH THE SEED: THE CARDS: each row of YtonjilfbcofoaaaDoorRows.lean that lists a variable, with what it lists TIED to the program's text (the seventh form; the later family's looks); each row that meets fmt, with fmt's text TOLD by the authors' own Lean function (tested against real Go, not proved from fmt's source: count such statements apart). THE CARD IS WHAT COUNTS. Prove the row's statement (the work); the ties are given (YtonjilfbcofoaaaDoorTie.lean); close each card by the builder's one call (the guide's Derived/Test/ToyasCard.lean, 'card_holds'). Laid BY PROGRAM, IN A SANDBOX (cutbox-door.mjs). By AI agents, Wed Nov 11 2026. No macro, syntax, notation, axiom, sorry.
-/
import Derived.Test.YtonjilfbcofoaaaDoorRows
import GoSem.ClaimSeven
namespace Go.Proofs.YtonjilfbcofoaaaDoor
namespace Rows

/-- THE TIED CARD OF 'mulliganlaw18.TargetLists'. -/
def targetListsCard : Claim7 := { stood := { row := targetListsRow, standIns := [], harness := (true, "7c2359d20f1ac5c53eb26867bfb9c612d9b4de4d753796758b50e14239eebf58"), looks := true }, kinds := [], alts := [], laidByText := true, laidKinds := [.data, .data, .widerDeep], laidTests := true, laidLooks := .later }
def TargetListsCardSaid : Prop := Claim7.holds Tryd.pinned (.plain (OpenSpec.ofChange targetListsSpec)) targetListsCard

/-- THE TIED CARD OF 'mulliganlaw18.TargetChecks'. -/
def targetChecksCard : Claim7 := { stood := { row := targetChecksRow, standIns := [], harness := (true, "7c2359d20f1ac5c53eb26867bfb9c612d9b4de4d753796758b50e14239eebf58"), looks := true }, kinds := [], alts := [], laidByText := true, laidKinds := [.data, .data, .widerDeep], laidTests := true, laidLooks := .later }
def TargetChecksCardSaid : Prop := Claim7.holds Tryd.pinned (.plain (OpenSpec.ofChange targetChecksSpec)) targetChecksCard

/-- THE TIED CARD OF 'mulliganlaw18.TargetNames'. -/
def targetNamesCard : Claim7 := { stood := { row := targetNamesRow, standIns := [], harness := (true, "7c2359d20f1ac5c53eb26867bfb9c612d9b4de4d753796758b50e14239eebf58"), looks := true }, kinds := [], alts := [], laidByText := true, laidKinds := [.data, .data, .widerDeep], laidTests := true, laidLooks := .later }
def TargetNamesCardSaid : Prop := Claim7.holds Tryd.pinned (.plain (OpenSpec.ofChange targetNamesSpec)) targetNamesCard

/-- THE TIED CARD OF 'mulliganlaw18.TargetMore'. -/
def targetMoreCard : Claim7 := { stood := { row := targetMoreRow, standIns := [], harness := (true, "7c2359d20f1ac5c53eb26867bfb9c612d9b4de4d753796758b50e14239eebf58"), looks := true }, kinds := [], alts := [], laidByText := true, laidKinds := [.data, .data, .widerDeep], laidTests := true, laidLooks := .later }
def TargetMoreCardSaid : Prop := Claim7.holds Tryd.pinned (.plain (OpenSpec.ofChange targetMoreSpec)) targetMoreCard

/-- THE SECOND FORM's CARD OF 'mulliganlaw18.TargetLists'. -/
def targetListsUptoCard : Claim7 := { stood := { row := targetListsUptoRow, standIns := [], harness := (true, "7c2359d20f1ac5c53eb26867bfb9c612d9b4de4d753796758b50e14239eebf58"), looks := true }, kinds := [], alts := [], laidByText := true, laidKinds := [.data, .data, .widerDeep], laidTests := true, laidLooks := .later }
def TargetListsUptoCardSaid : Prop := Claim7.holds Tryd.pinned (.plain (OpenSpec.upto targetListsSpec)) targetListsUptoCard

/-- THE SECOND FORM's CARD OF 'mulliganlaw18.TargetChecks'. -/
def targetChecksUptoCard : Claim7 := { stood := { row := targetChecksUptoRow, standIns := [], harness := (true, "7c2359d20f1ac5c53eb26867bfb9c612d9b4de4d753796758b50e14239eebf58"), looks := true }, kinds := [], alts := [], laidByText := true, laidKinds := [.data, .data, .widerDeep], laidTests := true, laidLooks := .later }
def TargetChecksUptoCardSaid : Prop := Claim7.holds Tryd.pinned (.plain (OpenSpec.upto targetChecksSpec)) targetChecksUptoCard

/-- THE SECOND FORM's CARD OF 'mulliganlaw18.TargetNames'. -/
def targetNamesUptoCard : Claim7 := { stood := { row := targetNamesUptoRow, standIns := [], harness := (true, "7c2359d20f1ac5c53eb26867bfb9c612d9b4de4d753796758b50e14239eebf58"), looks := true }, kinds := [], alts := [], laidByText := true, laidKinds := [.data, .data, .widerDeep], laidTests := true, laidLooks := .later }
def TargetNamesUptoCardSaid : Prop := Claim7.holds Tryd.pinned (.plain (OpenSpec.upto targetNamesSpec)) targetNamesUptoCard

/-- THE SECOND FORM's CARD OF 'mulliganlaw18.TargetMore'. -/
def targetMoreUptoCard : Claim7 := { stood := { row := targetMoreUptoRow, standIns := [], harness := (true, "7c2359d20f1ac5c53eb26867bfb9c612d9b4de4d753796758b50e14239eebf58"), looks := true }, kinds := [], alts := [], laidByText := true, laidKinds := [.data, .data, .widerDeep], laidTests := true, laidLooks := .later }
def TargetMoreUptoCardSaid : Prop := Claim7.holds Tryd.pinned (.plain (OpenSpec.upto targetMoreSpec)) targetMoreUptoCard
end Rows
end Go.Proofs.YtonjilfbcofoaaaDoor
