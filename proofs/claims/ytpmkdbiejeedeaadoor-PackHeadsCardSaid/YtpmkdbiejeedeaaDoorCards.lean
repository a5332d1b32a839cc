/-
  DERIVED. GIVEN WITH THE SEED: THE CARDS: each row of YtpmkdbiejeedeaaDoorRows.lean that lists a variable, with what it lists TIED to the program's text (the seventh form; the later family's looks); each row that meets fmt, with fmt's text TOLD by the authors' own Lean function (tested against real Go, not proved from fmt's source: count such statements apart). THE CARD IS WHAT COUNTS. Prove the row's statement (the work); the ties are given (YtpmkdbiejeedeaaDoorTie.lean); close each card by the builder's one call (the guide's Derived/Test/ToyasCard.lean, 'card_holds'). Laid BY PROGRAM, IN A SANDBOX (cutbox-door.mjs). By AI agents, Wed Nov 11 2026. No macro, syntax, notation, axiom, sorry.
-/
import Derived.Test.YtpmkdbiejeedeaaDoorRows
import GoSem.ClaimSeven
namespace Go.Proofs.YtpmkdbiejeedeaaDoor
namespace Rows

/-- THE TIED CARD OF 'mulliganlaw03.PackShorts'. -/
def packShortsCard : Claim7 := { stood := { row := packShortsRow, standIns := [], harness := (true, "93abc63507d5432130c629b7634b73f6164fbebc23779c6ebecc34454e0d3f5d"), looks := true }, kinds := [], alts := [], laidByText := true, laidKinds := [.data], laidTests := true, laidLooks := .later }
def PackShortsCardSaid : Prop := Claim7.holds Tryd.pinned (.plain (OpenSpec.ofChange packShortsSpec)) packShortsCard

/-- THE TIED CARD OF 'mulliganlaw03.PackHeads'. -/
def packHeadsCard : Claim7 := { stood := { row := packHeadsRow, standIns := [], harness := (true, "93abc63507d5432130c629b7634b73f6164fbebc23779c6ebecc34454e0d3f5d"), looks := true }, kinds := [], alts := [], laidByText := true, laidKinds := [.data, .data], laidTests := true, laidLooks := .later }
def PackHeadsCardSaid : Prop := Claim7.holds Tryd.pinned (.plain (OpenSpec.ofChange packHeadsSpec)) packHeadsCard

/-- THE TIED CARD OF 'mulliganlaw03.PackObjects'. -/
def packObjectsCard : Claim7 := { stood := { row := packObjectsRow, standIns := [], harness := (true, "93abc63507d5432130c629b7634b73f6164fbebc23779c6ebecc34454e0d3f5d"), looks := true }, kinds := [], alts := [], laidByText := true, laidKinds := [.data, .data], laidTests := true, laidLooks := .later }
def PackObjectsCardSaid : Prop := Claim7.holds Tryd.pinned (.plain (OpenSpec.ofChange packObjectsSpec)) packObjectsCard

/-- THE TIED CARD OF 'mulliganlaw03.PackBack'. -/
def packBackCard : Claim7 := { stood := { row := packBackRow, standIns := [], harness := (true, "93abc63507d5432130c629b7634b73f6164fbebc23779c6ebecc34454e0d3f5d"), looks := true }, kinds := [], alts := [], laidByText := true, laidKinds := [.data, .data], laidTests := true, laidLooks := .later }
def PackBackCardSaid : Prop := Claim7.holds Tryd.pinned (.plain (OpenSpec.ofChange packBackSpec)) packBackCard

/-- THE SECOND FORM's CARD OF 'mulliganlaw03.PackShorts'. -/
def packShortsUptoCard : Claim7 := { stood := { row := packShortsUptoRow, standIns := [], harness := (true, "93abc63507d5432130c629b7634b73f6164fbebc23779c6ebecc34454e0d3f5d"), looks := true }, kinds := [], alts := [], laidByText := true, laidKinds := [.data], laidTests := true, laidLooks := .later }
def PackShortsUptoCardSaid : Prop := Claim7.holds Tryd.pinned (.plain (OpenSpec.upto packShortsSpec)) packShortsUptoCard

/-- THE SECOND FORM's CARD OF 'mulliganlaw03.PackHeads'. -/
def packHeadsUptoCard : Claim7 := { stood := { row := packHeadsUptoRow, standIns := [], harness := (true, "93abc63507d5432130c629b7634b73f6164fbebc23779c6ebecc34454e0d3f5d"), looks := true }, kinds := [], alts := [], laidByText := true, laidKinds := [.data, .data], laidTests := true, laidLooks := .later }
def PackHeadsUptoCardSaid : Prop := Claim7.holds Tryd.pinned (.plain (OpenSpec.upto packHeadsSpec)) packHeadsUptoCard

/-- THE SECOND FORM's CARD OF 'mulliganlaw03.PackObjects'. -/
def packObjectsUptoCard : Claim7 := { stood := { row := packObjectsUptoRow, standIns := [], harness := (true, "93abc63507d5432130c629b7634b73f6164fbebc23779c6ebecc34454e0d3f5d"), looks := true }, kinds := [], alts := [], laidByText := true, laidKinds := [.data, .data], laidTests := true, laidLooks := .later }
def PackObjectsUptoCardSaid : Prop := Claim7.holds Tryd.pinned (.plain (OpenSpec.upto packObjectsSpec)) packObjectsUptoCard

/-- THE SECOND FORM's CARD OF 'mulliganlaw03.PackBack'. -/
def packBackUptoCard : Claim7 := { stood := { row := packBackUptoRow, standIns := [], harness := (true, "93abc63507d5432130c629b7634b73f6164fbebc23779c6ebecc34454e0d3f5d"), looks := true }, kinds := [], alts := [], laidByText := true, laidKinds := [.data, .data], laidTests := true, laidLooks := .later }
def PackBackUptoCardSaid : Prop := Claim7.holds Tryd.pinned (.plain (OpenSpec.upto packBackSpec)) packBackUptoCard
end Rows
end Go.Proofs.YtpmkdbiejeedeaaDoor
