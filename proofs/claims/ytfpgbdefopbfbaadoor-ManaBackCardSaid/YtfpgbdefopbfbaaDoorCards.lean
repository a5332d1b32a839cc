/-
  DERIVED. GIVEN WITH THE SEED: THE CARDS: each row of YtfpgbdefopbfbaaDoorRows.lean that lists a variable, with what it lists TIED to the program's text (the seventh form; the later family's looks); each row that meets fmt, with fmt's text TOLD by the authors' own Lean function (tested against real Go, not proved from fmt's source: count such statements apart). THE CARD IS WHAT COUNTS. Prove the row's statement (the work); the ties are given (YtfpgbdefopbfbaaDoorTie.lean); close each card by the builder's one call (the guide's Derived/Test/ToyasCard.lean, 'card_holds'). Laid BY PROGRAM, IN A SANDBOX (cutbox-door.mjs). By AI agents, Wed Nov 11 2026. No macro, syntax, notation, axiom, sorry.
-/
import Derived.Test.YtfpgbdefopbfbaaDoorRows
import GoSem.ClaimSeven
namespace Go.Proofs.YtfpgbdefopbfbaaDoor
namespace Rows

/-- THE TIED CARD OF 'mulliganlaw04.ManaTexts'. -/
def manaTextsCard : Claim7 := { stood := { row := manaTextsRow, standIns := [], harness := (true, "95bac262eeebcfb22f0dbe583eba63403eb35b8864520d8b342eeaf67d291e88"), looks := true }, kinds := [], alts := [], laidByText := true, laidKinds := [.data, .data, .data], laidTests := true, laidLooks := .later }
def ManaTextsCardSaid : Prop := Claim7.holds Tryd.pinned (.plain (OpenSpec.ofChange manaTextsSpec)) manaTextsCard

/-- THE TIED CARD OF 'mulliganlaw04.ManaAdds'. -/
def manaAddsCard : Claim7 := { stood := { row := manaAddsRow, standIns := [], harness := (true, "95bac262eeebcfb22f0dbe583eba63403eb35b8864520d8b342eeaf67d291e88"), looks := true }, kinds := [], alts := [], laidByText := true, laidKinds := [.data, .data, .data], laidTests := true, laidLooks := .later }
def ManaAddsCardSaid : Prop := Claim7.holds Tryd.pinned (.plain (OpenSpec.ofChange manaAddsSpec)) manaAddsCard

/-- THE TIED CARD OF 'mulliganlaw04.ManaParses'. -/
def manaParsesCard : Claim7 := { stood := { row := manaParsesRow, standIns := [], harness := (true, "95bac262eeebcfb22f0dbe583eba63403eb35b8864520d8b342eeaf67d291e88"), looks := true }, kinds := [], alts := [], laidByText := true, laidKinds := [.data, .data, .data, .data, .sentinel, .sentinel, .pinned], laidTests := true, laidLooks := .later }
def ManaParsesCardSaid : Prop := Claim7.holds Tryd.pinned (.plain (OpenSpec.ofChange manaParsesSpec)) manaParsesCard

/-- THE TIED CARD OF 'mulliganlaw04.ManaBack'. -/
def manaBackCard : Claim7 := { stood := { row := manaBackRow, standIns := [], harness := (true, "95bac262eeebcfb22f0dbe583eba63403eb35b8864520d8b342eeaf67d291e88"), looks := true }, kinds := [], alts := [], laidByText := true, laidKinds := [.data, .data, .data, .data, .sentinel, .sentinel, .pinned], laidTests := true, laidLooks := .later }
def ManaBackCardSaid : Prop := Claim7.holds Tryd.pinned (.plain (OpenSpec.ofChange manaBackSpec)) manaBackCard

/-- THE SECOND FORM's CARD OF 'mulliganlaw04.ManaTexts'. -/
def manaTextsUptoCard : Claim7 := { stood := { row := manaTextsUptoRow, standIns := [], harness := (true, "95bac262eeebcfb22f0dbe583eba63403eb35b8864520d8b342eeaf67d291e88"), looks := true }, kinds := [], alts := [], laidByText := true, laidKinds := [.data, .data, .data], laidTests := true, laidLooks := .later }
def ManaTextsUptoCardSaid : Prop := Claim7.holds Tryd.pinned (.plain (OpenSpec.upto manaTextsSpec)) manaTextsUptoCard

/-- THE SECOND FORM's CARD OF 'mulliganlaw04.ManaAdds'. -/
def manaAddsUptoCard : Claim7 := { stood := { row := manaAddsUptoRow, standIns := [], harness := (true, "95bac262eeebcfb22f0dbe583eba63403eb35b8864520d8b342eeaf67d291e88"), looks := true }, kinds := [], alts := [], laidByText := true, laidKinds := [.data, .data, .data], laidTests := true, laidLooks := .later }
def ManaAddsUptoCardSaid : Prop := Claim7.holds Tryd.pinned (.plain (OpenSpec.upto manaAddsSpec)) manaAddsUptoCard

/-- THE SECOND FORM's CARD OF 'mulliganlaw04.ManaParses'. -/
def manaParsesUptoCard : Claim7 := { stood := { row := manaParsesUptoRow, standIns := [], harness := (true, "95bac262eeebcfb22f0dbe583eba63403eb35b8864520d8b342eeaf67d291e88"), looks := true }, kinds := [], alts := [], laidByText := true, laidKinds := [.data, .data, .data, .data, .sentinel, .sentinel, .pinned], laidTests := true, laidLooks := .later }
def ManaParsesUptoCardSaid : Prop := Claim7.holds Tryd.pinned (.plain (OpenSpec.upto manaParsesSpec)) manaParsesUptoCard

/-- THE SECOND FORM's CARD OF 'mulliganlaw04.ManaBack'. -/
def manaBackUptoCard : Claim7 := { stood := { row := manaBackUptoRow, standIns := [], harness := (true, "95bac262eeebcfb22f0dbe583eba63403eb35b8864520d8b342eeaf67d291e88"), looks := true }, kinds := [], alts := [], laidByText := true, laidKinds := [.data, .data, .data, .data, .sentinel, .sentinel, .pinned], laidTests := true, laidLooks := .later }
def ManaBackUptoCardSaid : Prop := Claim7.holds Tryd.pinned (.plain (OpenSpec.upto manaBackSpec)) manaBackUptoCard
end Rows
end Go.Proofs.YtfpgbdefopbfbaaDoor
