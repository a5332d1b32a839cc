/-
  DERIVED. GIVEN WITH THE SEED: THE CARDS: each row of YtelfhmeobfimiaaDoorRows.lean that lists a variable, with what it lists TIED to the program's text (the seventh form; the later family's looks); each row that meets fmt, with fmt's text TOLD by the authors' own Lean function (tested against real Go, not proved from fmt's source: count such statements apart). THE CARD IS WHAT COUNTS. Prove the row's statement (the work); the ties are given (YtelfhmeobfimiaaDoorTie.lean); close each card by the builder's one call (the guide's Derived/Test/ToyasCard.lean, 'card_holds'). Laid BY PROGRAM, IN A SANDBOX (cutbox-door.mjs). By AI agents, Wed Nov 11 2026. No macro, syntax, notation, axiom, sorry.
-/
import Derived.Test.YtelfhmeobfimiaaDoorRows
import GoSem.ClaimSeven
namespace Go.Proofs.YtelfhmeobfimiaaDoor
namespace Rows

/-- THE TIED CARD OF 'mulliganlaw10.StateSame'. -/
def stateSameCard : Claim7 := { stood := { row := stateSameRow, standIns := [], harness := (true, "3d6f2651e3c9b41f7b6f1516790290e2d9710d9763e109791bb6d563f63463af"), looks := true }, kinds := [], alts := [], laidByText := true, laidKinds := [.data, .data, .widerDeep], laidTests := true, laidLooks := .later }
def StateSameCardSaid : Prop := Claim7.holds Tryd.pinned (.plain (OpenSpec.ofChange stateSameSpec)) stateSameCard

/-- THE TIED CARD OF 'mulliganlaw18.TargetLists'. -/
def targetListsCard : Claim7 := { stood := { row := targetListsRow, standIns := [], harness := (true, "3d6f2651e3c9b41f7b6f1516790290e2d9710d9763e109791bb6d563f63463af"), looks := true }, kinds := [], alts := [], laidByText := true, laidKinds := [.data, .data, .widerDeep], laidTests := true, laidLooks := .later }
def TargetListsCardSaid : Prop := Claim7.holds Tryd.pinned (.plain (OpenSpec.ofChange targetListsSpec)) targetListsCard

/-- THE TIED CARD OF 'mulliganlaw08.TableAll'. -/
def tableAllCard : Claim7 := { stood := { row := tableAllRow, standIns := [], harness := (true, "3d6f2651e3c9b41f7b6f1516790290e2d9710d9763e109791bb6d563f63463af"), looks := true }, kinds := [], alts := [], laidByText := true, laidKinds := [.data, .data, .data], laidTests := true, laidLooks := .later }
def TableAllCardSaid : Prop := Claim7.holds Tryd.pinned (.plain (OpenSpec.ofChange tableAllSpec)) tableAllCard

/-- THE TIED CARD OF 'mulliganlaw08.TableDecks'. -/
def tableDecksCard : Claim7 := { stood := { row := tableDecksRow, standIns := [], harness := (true, "3d6f2651e3c9b41f7b6f1516790290e2d9710d9763e109791bb6d563f63463af"), looks := true }, kinds := [], alts := [], laidByText := true, laidKinds := [.data, .data, .data], laidTests := true, laidLooks := .later }
def TableDecksCardSaid : Prop := Claim7.holds Tryd.pinned (.plain (OpenSpec.ofChange tableDecksSpec)) tableDecksCard

/-- THE TIED CARD OF 'mulliganlaw17.ShapeGrows'. -/
def shapeGrowsCard : Claim7 := { stood := { row := shapeGrowsRow, standIns := [], harness := (true, "3d6f2651e3c9b41f7b6f1516790290e2d9710d9763e109791bb6d563f63463af"), looks := true }, kinds := [], alts := [], laidByText := true, laidKinds := [.data, .data, .widerDeep], laidTests := true, laidLooks := .later }
def ShapeGrowsCardSaid : Prop := Claim7.holds Tryd.pinned (.plain (OpenSpec.ofChange shapeGrowsSpec)) shapeGrowsCard

/-- THE TIED CARD OF 'mulliganlaw18.TargetChecks'. -/
def targetChecksCard : Claim7 := { stood := { row := targetChecksRow, standIns := [], harness := (true, "3d6f2651e3c9b41f7b6f1516790290e2d9710d9763e109791bb6d563f63463af"), looks := true }, kinds := [], alts := [], laidByText := true, laidKinds := [.data, .data, .widerDeep], laidTests := true, laidLooks := .later }
def TargetChecksCardSaid : Prop := Claim7.holds Tryd.pinned (.plain (OpenSpec.ofChange targetChecksSpec)) targetChecksCard

/-- THE TIED CARD OF 'mulliganlaw18.TargetMore'. -/
def targetMoreCard : Claim7 := { stood := { row := targetMoreRow, standIns := [], harness := (true, "3d6f2651e3c9b41f7b6f1516790290e2d9710d9763e109791bb6d563f63463af"), looks := true }, kinds := [], alts := [], laidByText := true, laidKinds := [.data, .data, .widerDeep], laidTests := true, laidLooks := .later }
def TargetMoreCardSaid : Prop := Claim7.holds Tryd.pinned (.plain (OpenSpec.ofChange targetMoreSpec)) targetMoreCard

/-- THE TIED CARD OF 'mulliganlaw17.ShapeOf'. -/
def shapeOfCard : Claim7 := { stood := { row := shapeOfRow, standIns := [], harness := (true, "3d6f2651e3c9b41f7b6f1516790290e2d9710d9763e109791bb6d563f63463af"), looks := true }, kinds := [], alts := [], laidByText := true, laidKinds := [.data, .data, .widerDeep], laidTests := true, laidLooks := .later }
def ShapeOfCardSaid : Prop := Claim7.holds Tryd.pinned (.plain (OpenSpec.ofChange shapeOfSpec)) shapeOfCard

/-- THE TIED CARD OF 'mulliganlaw17.ShapePlain'. -/
def shapePlainCard : Claim7 := { stood := { row := shapePlainRow, standIns := [], harness := (true, "3d6f2651e3c9b41f7b6f1516790290e2d9710d9763e109791bb6d563f63463af"), looks := true }, kinds := [], alts := [], laidByText := true, laidKinds := [.data, .data, .widerDeep], laidTests := true, laidLooks := .later }
def ShapePlainCardSaid : Prop := Claim7.holds Tryd.pinned (.plain (OpenSpec.ofChange shapePlainSpec)) shapePlainCard

/-- THE TIED CARD OF 'mulliganlaw17.ShapeHas'. -/
def shapeHasCard : Claim7 := { stood := { row := shapeHasRow, standIns := [], harness := (true, "3d6f2651e3c9b41f7b6f1516790290e2d9710d9763e109791bb6d563f63463af"), looks := true }, kinds := [], alts := [], laidByText := true, laidKinds := [.data, .data, .widerDeep], laidTests := true, laidLooks := .later }
def ShapeHasCardSaid : Prop := Claim7.holds Tryd.pinned (.plain (OpenSpec.ofChange shapeHasSpec)) shapeHasCard

/-- THE TIED CARD OF 'mulliganlaw08.TableCards'. -/
def tableCardsCard : Claim7 := { stood := { row := tableCardsRow, standIns := [], harness := (true, "3d6f2651e3c9b41f7b6f1516790290e2d9710d9763e109791bb6d563f63463af"), looks := true }, kinds := [], alts := [], laidByText := true, laidKinds := [.data, .data, .data], laidTests := true, laidLooks := .later }
def TableCardsCardSaid : Prop := Claim7.holds Tryd.pinned (.plain (OpenSpec.ofChange tableCardsSpec)) tableCardsCard

/-- THE TIED CARD OF 'mulliganlaw08.TableNames'. -/
def tableNamesCard : Claim7 := { stood := { row := tableNamesRow, standIns := [], harness := (true, "3d6f2651e3c9b41f7b6f1516790290e2d9710d9763e109791bb6d563f63463af"), looks := true }, kinds := [], alts := [], laidByText := true, laidKinds := [.data, .data, .data, .sentinel, .sentinel], laidTests := true, laidLooks := .later }
def TableNamesCardSaid : Prop := Claim7.holds Tryd.pinned (.plain (OpenSpec.ofChange tableNamesSpec)) tableNamesCard

/-- THE SECOND FORM's CARD OF 'mulliganlaw10.StateSame'. -/
def stateSameUptoCard : Claim7 := { stood := { row := stateSameUptoRow, standIns := [], harness := (true, "3d6f2651e3c9b41f7b6f1516790290e2d9710d9763e109791bb6d563f63463af"), looks := true }, kinds := [], alts := [], laidByText := true, laidKinds := [.data, .data, .widerDeep], laidTests := true, laidLooks := .later }
def StateSameUptoCardSaid : Prop := Claim7.holds Tryd.pinned (.plain (OpenSpec.upto stateSameSpec)) stateSameUptoCard

/-- THE SECOND FORM's CARD OF 'mulliganlaw18.TargetLists'. -/
def targetListsUptoCard : Claim7 := { stood := { row := targetListsUptoRow, standIns := [], harness := (true, "3d6f2651e3c9b41f7b6f1516790290e2d9710d9763e109791bb6d563f63463af"), looks := true }, kinds := [], alts := [], laidByText := true, laidKinds := [.data, .data, .widerDeep], laidTests := true, laidLooks := .later }
def TargetListsUptoCardSaid : Prop := Claim7.holds Tryd.pinned (.plain (OpenSpec.upto targetListsSpec)) targetListsUptoCard

/-- THE SECOND FORM's CARD OF 'mulliganlaw08.TableAll'. -/
def tableAllUptoCard : Claim7 := { stood := { row := tableAllUptoRow, standIns := [], harness := (true, "3d6f2651e3c9b41f7b6f1516790290e2d9710d9763e109791bb6d563f63463af"), looks := true }, kinds := [], alts := [], laidByText := true, laidKinds := [.data, .data, .data], laidTests := true, laidLooks := .later }
def TableAllUptoCardSaid : Prop := Claim7.holds Tryd.pinned (.plain (OpenSpec.upto tableAllSpec)) tableAllUptoCard

/-- THE SECOND FORM's CARD OF 'mulliganlaw08.TableDecks'. -/
def tableDecksUptoCard : Claim7 := { stood := { row := tableDecksUptoRow, standIns := [], harness := (true, "3d6f2651e3c9b41f7b6f1516790290e2d9710d9763e109791bb6d563f63463af"), looks := true }, kinds := [], alts := [], laidByText := true, laidKinds := [.data, .data, .data], laidTests := true, laidLooks := .later }
def TableDecksUptoCardSaid : Prop := Claim7.holds Tryd.pinned (.plain (OpenSpec.upto tableDecksSpec)) tableDecksUptoCard

/-- THE SECOND FORM's CARD OF 'mulliganlaw17.ShapeGrows'. -/
def shapeGrowsUptoCard : Claim7 := { stood := { row := shapeGrowsUptoRow, standIns := [], harness := (true, "3d6f2651e3c9b41f7b6f1516790290e2d9710d9763e109791bb6d563f63463af"), looks := true }, kinds := [], alts := [], laidByText := true, laidKinds := [.data, .data, .widerDeep], laidTests := true, laidLooks := .later }
def ShapeGrowsUptoCardSaid : Prop := Claim7.holds Tryd.pinned (.plain (OpenSpec.upto shapeGrowsSpec)) shapeGrowsUptoCard

/-- THE SECOND FORM's CARD OF 'mulliganlaw18.TargetChecks'. -/
def targetChecksUptoCard : Claim7 := { stood := { row := targetChecksUptoRow, standIns := [], harness := (true, "3d6f2651e3c9b41f7b6f1516790290e2d9710d9763e109791bb6d563f63463af"), looks := true }, kinds := [], alts := [], laidByText := true, laidKinds := [.data, .data, .widerDeep], laidTests := true, laidLooks := .later }
def TargetChecksUptoCardSaid : Prop := Claim7.holds Tryd.pinned (.plain (OpenSpec.upto targetChecksSpec)) targetChecksUptoCard

/-- THE SECOND FORM's CARD OF 'mulliganlaw18.TargetMore'. -/
def targetMoreUptoCard : Claim7 := { stood := { row := targetMoreUptoRow, standIns := [], harness := (true, "3d6f2651e3c9b41f7b6f1516790290e2d9710d9763e109791bb6d563f63463af"), looks := true }, kinds := [], alts := [], laidByText := true, laidKinds := [.data, .data, .widerDeep], laidTests := true, laidLooks := .later }
def TargetMoreUptoCardSaid : Prop := Claim7.holds Tryd.pinned (.plain (OpenSpec.upto targetMoreSpec)) targetMoreUptoCard

/-- THE SECOND FORM's CARD OF 'mulliganlaw17.ShapeOf'. -/
def shapeOfUptoCard : Claim7 := { stood := { row := shapeOfUptoRow, standIns := [], harness := (true, "3d6f2651e3c9b41f7b6f1516790290e2d9710d9763e109791bb6d563f63463af"), looks := true }, kinds := [], alts := [], laidByText := true, laidKinds := [.data, .data, .widerDeep], laidTests := true, laidLooks := .later }
def ShapeOfUptoCardSaid : Prop := Claim7.holds Tryd.pinned (.plain (OpenSpec.upto shapeOfSpec)) shapeOfUptoCard

/-- THE SECOND FORM's CARD OF 'mulliganlaw17.ShapePlain'. -/
def shapePlainUptoCard : Claim7 := { stood := { row := shapePlainUptoRow, standIns := [], harness := (true, "3d6f2651e3c9b41f7b6f1516790290e2d9710d9763e109791bb6d563f63463af"), looks := true }, kinds := [], alts := [], laidByText := true, laidKinds := [.data, .data, .widerDeep], laidTests := true, laidLooks := .later }
def ShapePlainUptoCardSaid : Prop := Claim7.holds Tryd.pinned (.plain (OpenSpec.upto shapePlainSpec)) shapePlainUptoCard

/-- THE SECOND FORM's CARD OF 'mulliganlaw17.ShapeHas'. -/
def shapeHasUptoCard : Claim7 := { stood := { row := shapeHasUptoRow, standIns := [], harness := (true, "3d6f2651e3c9b41f7b6f1516790290e2d9710d9763e109791bb6d563f63463af"), looks := true }, kinds := [], alts := [], laidByText := true, laidKinds := [.data, .data, .widerDeep], laidTests := true, laidLooks := .later }
def ShapeHasUptoCardSaid : Prop := Claim7.holds Tryd.pinned (.plain (OpenSpec.upto shapeHasSpec)) shapeHasUptoCard

/-- THE SECOND FORM's CARD OF 'mulliganlaw08.TableCards'. -/
def tableCardsUptoCard : Claim7 := { stood := { row := tableCardsUptoRow, standIns := [], harness := (true, "3d6f2651e3c9b41f7b6f1516790290e2d9710d9763e109791bb6d563f63463af"), looks := true }, kinds := [], alts := [], laidByText := true, laidKinds := [.data, .data, .data], laidTests := true, laidLooks := .later }
def TableCardsUptoCardSaid : Prop := Claim7.holds Tryd.pinned (.plain (OpenSpec.upto tableCardsSpec)) tableCardsUptoCard

/-- THE SECOND FORM's CARD OF 'mulliganlaw08.TableNames'. -/
def tableNamesUptoCard : Claim7 := { stood := { row := tableNamesUptoRow, standIns := [], harness := (true, "3d6f2651e3c9b41f7b6f1516790290e2d9710d9763e109791bb6d563f63463af"), looks := true }, kinds := [], alts := [], laidByText := true, laidKinds := [.data, .data, .data, .sentinel, .sentinel], laidTests := true, laidLooks := .later }
def TableNamesUptoCardSaid : Prop := Claim7.holds Tryd.pinned (.plain (OpenSpec.upto tableNamesSpec)) tableNamesUptoCard
end Rows
end Go.Proofs.YtelfhmeobfimiaaDoor
