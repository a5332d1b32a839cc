/-
  NARROWER THAN 'FOR EVERY INPUT', by the rows' own cells (each row's printed sentence says how): CanonApart: laid · CanonParses: laid · CanonBack: laid.
  DERIVED. THE GIVEN ROWS OF THIS SEAT. 3 by the template 'for every input the law returns true; each argument reads behind the call as it read before'; 0 by the template 'total and deterministic' (their statements: YtnhahmgbgocdgaaDoorTotals.lean).
  GIVEN WITH THE SEED: the statements are not yours to turn. If you find one false, say at which input.
  Laid BY PROGRAM, IN A SANDBOX (cutbox-rows.mjs): the forced cells as the released guide's own fill.sh prints them over the translation 0b5608ca617870c2… (all of the seat's roots in one cut). By AI agents, Wed Nov 11 2026. No macro, syntax, notation, axiom, sorry.
-/
import Derived.Test.YtnhahmgbgocdgaaDoorChecked
import GoSem.Claim
import GoSem.ClaimJoined
import GoSem.ClaimMapViews
import Derived.JoinedTies
import Derived.KernelRfl
namespace Go.Proofs.YtnhahmgbgocdgaaDoor
/- THE CELL 'sum', in the pinned program and in every row, IS THE sha256 OF THE DUMP (.gsa) THAT YtnhahmgbgocdgaaDoorProg.lean LOADS. Nothing in Lean hashes anything: it is a label: what it is worth is what the hold of that sum in a sandbox is worth. -/
noncomputable def Tryd.pinned : Pinned := { name := "ytnhahmgbgocdgaadoor", sum := "0b5608ca617870c240210ddc37d28a542b0c21a56d09093460295c951f6c416f", checked := Tryd.checked }
namespace Rows
def none {H : Type} : Left H := { results := [], args := [] }

/- WHAT THE LISTED PACKAGE-LEVEL VARIABLES READ AS WHEN THE CALL BEGINS. Each datum BY PROGRAM (the guide's laid-datum.mjs) off the statement by which the dump's own 'gosem.cut.vars' lays the variable. In a bare row this is a premise. The card (YtnhahmgbgocdgaaDoorCards.lean) ties it to the program's text. -/
def laid_mulligan_pack_parts {H : Type} : DataW H := .agg [.agg [.lit (.int .i64 1), .lit (.int .i64 1)], .agg [.lit (.int .i64 2), .lit (.int .i64 1)], .agg [.lit (.int .i64 3), .lit (.int .i64 4)], .agg [.lit (.int .i64 4), .lit (.int .i64 1)], .agg [.lit (.int .i64 5), .lit (.int .i64 1)], .agg [.lit (.int .i64 11), .lit (.int .i64 1)], .agg [.lit (.int .i64 13), .lit (.int .i64 2)], .agg [.lit (.int .i64 17), .lit (.int .i64 2)], .agg [.lit (.int .i64 10), .lit (.int .i64 8)]]
def laid_mulligan_pack_others {H : Type} : DataW H := .agg [.lit (.int .i64 0), .lit (.int .i64 6), .lit (.int .i64 7), .lit (.int .i64 8), .lit (.int .i64 9), .lit (.int .i64 12), .lit (.int .i64 14), .lit (.int .i64 15), .lit (.int .i64 16)]
def laid_mulligan_state_any {H : Type} : DataW H := .agg [.lit (.int .i64 (-1073741824)), .lit (.int .i64 1073741824)]
def laid_mulligan_state_flag {H : Type} : DataW H := .agg [.lit (.int .i64 0), .lit (.int .i64 1)]
def laid_mulligan_state_resting {H : Type} : DataW H := .agg [.lit (.int .i64 4), .lit (.int .i64 5), .lit (.int .i64 6), .lit (.int .i64 7), .lit (.int .i64 8), .lit (.int .i64 9), .lit (.int .i64 10), .lit (.int .i64 11), .lit (.int .i64 12)]

/-- 'mulliganlaw11.CanonApart': WHATEVER THE INPUT: true; the input reads as it did. -/
def canonApartSpec : ChangeSpec := { name := "canonApart", fn := fun _ => fun
  | [d1, d2] => { results := [.lit (.bool true)], args := [d1, d2] }
  | _ => none }
def canonApartRow : OpenClaim := { program := "ytnhahmgbgocdgaadoor", sum := "0b5608ca617870c240210ddc37d28a542b0c21a56d09093460295c951f6c416f", func := "mulligan/mulliganlaw11.CanonApart", spec := "canonApart", unfollowed := true, recurses := true, named := ["mulligan/state.flag", "mulligan/state.any", "mulligan/state.resting", "mulligan/pack.parts", "mulligan/pack.others"], apart := false, laid := [("mulligan/pack.parts", laid_mulligan_pack_parts), ("mulligan/pack.others", laid_mulligan_pack_others), ("mulligan/state.any", laid_mulligan_state_any), ("mulligan/state.flag", laid_mulligan_state_flag), ("mulligan/state.resting", laid_mulligan_state_resting)] }
def CanonApartSaid : Prop := canonApartRow.holds Tryd.pinned (OpenSpec.ofChange canonApartSpec)

/-- ITS FALSE NEIGHBOUR: 'it returns false'. Refute it at one input. -/
def canonApartWrong : ChangeSpec := { name := "canonApart", fn := fun _ => fun
  | [d1, d2] => { results := [.lit (.bool false)], args := [d1, d2] }
  | _ => none }
def CanonApartWrongFalsely : Prop := canonApartRow.holds Tryd.pinned (OpenSpec.ofChange canonApartWrong)

/-- 'mulliganlaw11.CanonParses': WHATEVER THE INPUT: true; the input reads as it did. -/
def canonParsesSpec : ChangeSpec := { name := "canonParses", fn := fun _ => fun
  | [d] => { results := [.lit (.bool true)], args := [d] }
  | _ => none }
def canonParsesRow : OpenClaim := { program := "ytnhahmgbgocdgaadoor", sum := "0b5608ca617870c240210ddc37d28a542b0c21a56d09093460295c951f6c416f", func := "mulligan/mulliganlaw11.CanonParses", spec := "canonParses", unfollowed := true, recurses := true, named := ["mulligan/state.flag", "mulligan/state.any", "mulligan/state.resting", "mulligan/pack.parts", "mulligan/pack.others"], apart := false, laid := [("mulligan/pack.parts", laid_mulligan_pack_parts), ("mulligan/pack.others", laid_mulligan_pack_others), ("mulligan/state.any", laid_mulligan_state_any), ("mulligan/state.flag", laid_mulligan_state_flag), ("mulligan/state.resting", laid_mulligan_state_resting)] }
def CanonParsesSaid : Prop := canonParsesRow.holds Tryd.pinned (OpenSpec.ofChange canonParsesSpec)

/-- ITS FALSE NEIGHBOUR: 'it returns false'. Refute it at one input. -/
def canonParsesWrong : ChangeSpec := { name := "canonParses", fn := fun _ => fun
  | [d] => { results := [.lit (.bool false)], args := [d] }
  | _ => none }
def CanonParsesWrongFalsely : Prop := canonParsesRow.holds Tryd.pinned (OpenSpec.ofChange canonParsesWrong)

/-- 'mulliganlaw11.CanonBack': WHATEVER THE INPUT: true; the input reads as it did. -/
def canonBackSpec : ChangeSpec := { name := "canonBack", fn := fun _ => fun
  | [d1, d2] => { results := [.lit (.bool true)], args := [d1, d2] }
  | _ => none }
def canonBackRow : OpenClaim := { program := "ytnhahmgbgocdgaadoor", sum := "0b5608ca617870c240210ddc37d28a542b0c21a56d09093460295c951f6c416f", func := "mulligan/mulliganlaw11.CanonBack", spec := "canonBack", unfollowed := true, recurses := true, named := ["mulligan/state.flag", "mulligan/state.any", "mulligan/state.resting", "mulligan/pack.parts", "mulligan/pack.others"], apart := false, laid := [("mulligan/pack.parts", laid_mulligan_pack_parts), ("mulligan/pack.others", laid_mulligan_pack_others), ("mulligan/state.any", laid_mulligan_state_any), ("mulligan/state.flag", laid_mulligan_state_flag), ("mulligan/state.resting", laid_mulligan_state_resting)] }
def CanonBackSaid : Prop := canonBackRow.holds Tryd.pinned (OpenSpec.ofChange canonBackSpec)

/-- ITS FALSE NEIGHBOUR: 'it returns false'. Refute it at one input. -/
def canonBackWrong : ChangeSpec := { name := "canonBack", fn := fun _ => fun
  | [d1, d2] => { results := [.lit (.bool false)], args := [d1, d2] }
  | _ => none }
def CanonBackWrongFalsely : Prop := canonBackRow.holds Tryd.pinned (OpenSpec.ofChange canonBackWrong)

/- THE SECOND FORM. 'bulk': how many values and letters a reading holds, each counted each time it is reached (what is shared counts as often as it is met; a slice's spare places count too). A statement '..UptoSaid' is the law's where the arguments, and the package variables that the reading takes, are together of bulk at most 1048576: NARROWER than '..Said'. Prove '..Said' where nothing that the law and all that it calls make is longer than what came in: it says more and counts as full. Else prove '..UptoSaid'. A law counts once. -/
mutual
def uptoBulk {H : Type} : DataW H → Nat
  | .lit (.string bytes) => bytes.length + 1
  | .lit _ => 1
  | .nil => 1
  | .ptr d => uptoBulk d + 1
  | .slice elems spare => uptoBulkAll elems + uptoBulkAll spare + 1
  | .agg parts => uptoBulkAll parts + 1
  | .iface _ d => uptoBulk d + 1
  | .map entries => uptoBulkEntries entries + 1
  | .held _ => 1
def uptoBulkAll {H : Type} : List (DataW H) → Nat
  | [] => 0
  | d :: r => uptoBulk d + uptoBulkAll r
def uptoBulkEntries {H : Type} : List (Lit × DataW H) → Nat
  | [] => 0
  | x :: r => uptoBulkEntry x + uptoBulkEntries r
def uptoBulkEntry {H : Type} : Lit × DataW H → Nat
  | (.string bytes, d) => bytes.length + uptoBulk d + 1
  | (_, d) => uptoBulk d + 1
 end
def uptoSmall : (H : Type) → List (DataW H) → Bool := fun _ ds => decide (uptoBulkAll ds ≤ 1048576)
def OpenSpec.upto (s : _root_.Go.ChangeSpec) : _root_.Go.OpenSpec := { _root_.Go.OpenSpec.ofChange s with cond := some uptoSmall }

/-- 'mulliganlaw11.CanonApart', WHERE WHAT IT READS IS OF BULK AT MOST 1048576: true; the input reads as it did. -/
def canonApartUptoRow : OpenClaim := { program := "ytnhahmgbgocdgaadoor", sum := "0b5608ca617870c240210ddc37d28a542b0c21a56d09093460295c951f6c416f", func := "mulligan/mulliganlaw11.CanonApart", spec := "canonApart", unfollowed := true, recurses := true, named := ["mulligan/state.flag", "mulligan/state.any", "mulligan/state.resting", "mulligan/pack.parts", "mulligan/pack.others"], apart := false, laid := [("mulligan/pack.parts", laid_mulligan_pack_parts), ("mulligan/pack.others", laid_mulligan_pack_others), ("mulligan/state.any", laid_mulligan_state_any), ("mulligan/state.flag", laid_mulligan_state_flag), ("mulligan/state.resting", laid_mulligan_state_resting)], narrowed := true }
def CanonApartUptoSaid : Prop := canonApartUptoRow.holds Tryd.pinned (OpenSpec.upto canonApartSpec)

/-- 'mulliganlaw11.CanonParses', WHERE WHAT IT READS IS OF BULK AT MOST 1048576: true; the input reads as it did. -/
def canonParsesUptoRow : OpenClaim := { program := "ytnhahmgbgocdgaadoor", sum := "0b5608ca617870c240210ddc37d28a542b0c21a56d09093460295c951f6c416f", func := "mulligan/mulliganlaw11.CanonParses", spec := "canonParses", unfollowed := true, recurses := true, named := ["mulligan/state.flag", "mulligan/state.any", "mulligan/state.resting", "mulligan/pack.parts", "mulligan/pack.others"], apart := false, laid := [("mulligan/pack.parts", laid_mulligan_pack_parts), ("mulligan/pack.others", laid_mulligan_pack_others), ("mulligan/state.any", laid_mulligan_state_any), ("mulligan/state.flag", laid_mulligan_state_flag), ("mulligan/state.resting", laid_mulligan_state_resting)], narrowed := true }
def CanonParsesUptoSaid : Prop := canonParsesUptoRow.holds Tryd.pinned (OpenSpec.upto canonParsesSpec)

/-- 'mulliganlaw11.CanonBack', WHERE WHAT IT READS IS OF BULK AT MOST 1048576: true; the input reads as it did. -/
def canonBackUptoRow : OpenClaim := { program := "ytnhahmgbgocdgaadoor", sum := "0b5608ca617870c240210ddc37d28a542b0c21a56d09093460295c951f6c416f", func := "mulligan/mulliganlaw11.CanonBack", spec := "canonBack", unfollowed := true, recurses := true, named := ["mulligan/state.flag", "mulligan/state.any", "mulligan/state.resting", "mulligan/pack.parts", "mulligan/pack.others"], apart := false, laid := [("mulligan/pack.parts", laid_mulligan_pack_parts), ("mulligan/pack.others", laid_mulligan_pack_others), ("mulligan/state.any", laid_mulligan_state_any), ("mulligan/state.flag", laid_mulligan_state_flag), ("mulligan/state.resting", laid_mulligan_state_resting)], narrowed := true }
def CanonBackUptoSaid : Prop := canonBackUptoRow.holds Tryd.pinned (OpenSpec.upto canonBackSpec)

end Rows
end Go.Proofs.YtnhahmgbgocdgaaDoor
