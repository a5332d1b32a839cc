/-
  NARROWER THAN 'FOR EVERY INPUT', by the rows' own cells (each row's printed sentence says how): TargetLists: laid · TargetChecks: laid · TargetNames: laid · TargetMore: laid.
  DERIVED. THE GIVEN ROWS OF THIS SEAT. 4 by the template 'for every input the law returns true; each argument reads behind the call as it read before'; 0 by the template 'total and deterministic' (their statements: YtonjilfbcofoaaaDoorTotals.lean).
  GIVEN WITH THE SEED: the statements are not yours to turn. If you find one false, say at which input.
  Laid BY PROGRAM, IN A SANDBOX (cutbox-rows.mjs): the forced cells as the released guide's own fill.sh prints them over the translation 2be39b1205bab248… (all of the seat's roots in one cut). By AI agents, Wed Nov 11 2026. No macro, syntax, notation, axiom, sorry.
-/
import Derived.Test.YtonjilfbcofoaaaDoorChecked
import GoSem.Claim
import GoSem.ClaimJoined
import GoSem.ClaimMapViews
import Derived.JoinedTies
import Derived.KernelRfl
namespace Go.Proofs.YtonjilfbcofoaaaDoor
/- THE CELL 'sum', in the pinned program and in every row, IS THE sha256 OF THE DUMP (.gsa) THAT YtonjilfbcofoaaaDoorProg.lean LOADS. Nothing in Lean hashes anything: it is a label: what it is worth is what the hold of that sum in a sandbox is worth. -/
noncomputable def Tryd.pinned : Pinned := { name := "ytonjilfbcofoaaadoor", sum := "2be39b1205bab24842fe7affaeb977d0fbefc0d9435d76d65bf3da61a0f12003", checked := Tryd.checked }
namespace Rows
def none {H : Type} : Left H := { results := [], args := [] }

/- WHAT THE LISTED PACKAGE-LEVEL VARIABLES READ AS WHEN THE CALL BEGINS. Each datum BY PROGRAM (the guide's laid-datum.mjs) off the statement by which the dump's own 'gosem.cut.vars' lays the variable. In a bare row this is a premise. The card (YtonjilfbcofoaaaDoorCards.lean) ties it to the program's text. -/
def laid_mulligan_state_any {H : Type} : DataW H := .agg [.lit (.int .i64 (-1073741824)), .lit (.int .i64 1073741824)]
def laid_mulligan_state_flag {H : Type} : DataW H := .agg [.lit (.int .i64 0), .lit (.int .i64 1)]
def laid_mulligan_state_resting {H : Type} : DataW H := .agg [.lit (.int .i64 4), .lit (.int .i64 5), .lit (.int .i64 6), .lit (.int .i64 7), .lit (.int .i64 8), .lit (.int .i64 9), .lit (.int .i64 10), .lit (.int .i64 11), .lit (.int .i64 12)]

/-- 'mulliganlaw18.TargetLists': WHATEVER THE INPUT: true; the input reads as it did. -/
def targetListsSpec : ChangeSpec := { name := "targetLists", fn := fun _ => fun
  | [d1, d2] => { results := [.lit (.bool true)], args := [d1, d2] }
  | _ => none }
def targetListsRow : OpenClaim := { program := "ytonjilfbcofoaaadoor", sum := "2be39b1205bab24842fe7affaeb977d0fbefc0d9435d76d65bf3da61a0f12003", func := "mulligan/mulliganlaw18.TargetLists", spec := "targetLists", unfollowed := true, recurses := true, named := ["mulligan/state.flag", "mulligan/state.any", "mulligan/state.resting"], apart := false, laid := [("mulligan/state.any", laid_mulligan_state_any), ("mulligan/state.flag", laid_mulligan_state_flag), ("mulligan/state.resting", laid_mulligan_state_resting)] }
def TargetListsSaid : Prop := targetListsRow.holds Tryd.pinned (OpenSpec.ofChange targetListsSpec)

/-- ITS FALSE NEIGHBOUR: 'it returns false'. Refute it at one input. -/
def targetListsWrong : ChangeSpec := { name := "targetLists", fn := fun _ => fun
  | [d1, d2] => { results := [.lit (.bool false)], args := [d1, d2] }
  | _ => none }
def TargetListsWrongFalsely : Prop := targetListsRow.holds Tryd.pinned (OpenSpec.ofChange targetListsWrong)

/-- 'mulliganlaw18.TargetChecks': WHATEVER THE INPUT: true; the input reads as it did. -/
def targetChecksSpec : ChangeSpec := { name := "targetChecks", fn := fun _ => fun
  | [d1, d2] => { results := [.lit (.bool true)], args := [d1, d2] }
  | _ => none }
def targetChecksRow : OpenClaim := { program := "ytonjilfbcofoaaadoor", sum := "2be39b1205bab24842fe7affaeb977d0fbefc0d9435d76d65bf3da61a0f12003", func := "mulligan/mulliganlaw18.TargetChecks", spec := "targetChecks", unfollowed := true, recurses := true, named := ["mulligan/state.flag", "mulligan/state.any", "mulligan/state.resting"], apart := false, laid := [("mulligan/state.any", laid_mulligan_state_any), ("mulligan/state.flag", laid_mulligan_state_flag), ("mulligan/state.resting", laid_mulligan_state_resting)] }
def TargetChecksSaid : Prop := targetChecksRow.holds Tryd.pinned (OpenSpec.ofChange targetChecksSpec)

/-- ITS FALSE NEIGHBOUR: 'it returns false'. Refute it at one input. -/
def targetChecksWrong : ChangeSpec := { name := "targetChecks", fn := fun _ => fun
  | [d1, d2] => { results := [.lit (.bool false)], args := [d1, d2] }
  | _ => none }
def TargetChecksWrongFalsely : Prop := targetChecksRow.holds Tryd.pinned (OpenSpec.ofChange targetChecksWrong)

/-- 'mulliganlaw18.TargetNames': WHATEVER THE INPUT: true; the input reads as it did. -/
def targetNamesSpec : ChangeSpec := { name := "targetNames", fn := fun _ => fun
  | [d] => { results := [.lit (.bool true)], args := [d] }
  | _ => none }
def targetNamesRow : OpenClaim := { program := "ytonjilfbcofoaaadoor", sum := "2be39b1205bab24842fe7affaeb977d0fbefc0d9435d76d65bf3da61a0f12003", func := "mulligan/mulliganlaw18.TargetNames", spec := "targetNames", unfollowed := true, recurses := true, named := ["mulligan/state.flag", "mulligan/state.any", "mulligan/state.resting"], apart := false, laid := [("mulligan/state.any", laid_mulligan_state_any), ("mulligan/state.flag", laid_mulligan_state_flag), ("mulligan/state.resting", laid_mulligan_state_resting)] }
def TargetNamesSaid : Prop := targetNamesRow.holds Tryd.pinned (OpenSpec.ofChange targetNamesSpec)

/-- ITS FALSE NEIGHBOUR: 'it returns false'. Refute it at one input. -/
def targetNamesWrong : ChangeSpec := { name := "targetNames", fn := fun _ => fun
  | [d] => { results := [.lit (.bool false)], args := [d] }
  | _ => none }
def TargetNamesWrongFalsely : Prop := targetNamesRow.holds Tryd.pinned (OpenSpec.ofChange targetNamesWrong)

/-- 'mulliganlaw18.TargetMore': WHATEVER THE INPUT: true; the input reads as it did. -/
def targetMoreSpec : ChangeSpec := { name := "targetMore", fn := fun _ => fun
  | [d1, d2, d3] => { results := [.lit (.bool true)], args := [d1, d2, d3] }
  | _ => none }
def targetMoreRow : OpenClaim := { program := "ytonjilfbcofoaaadoor", sum := "2be39b1205bab24842fe7affaeb977d0fbefc0d9435d76d65bf3da61a0f12003", func := "mulligan/mulliganlaw18.TargetMore", spec := "targetMore", unfollowed := true, recurses := true, named := ["mulligan/state.flag", "mulligan/state.any", "mulligan/state.resting"], apart := false, laid := [("mulligan/state.any", laid_mulligan_state_any), ("mulligan/state.flag", laid_mulligan_state_flag), ("mulligan/state.resting", laid_mulligan_state_resting)] }
def TargetMoreSaid : Prop := targetMoreRow.holds Tryd.pinned (OpenSpec.ofChange targetMoreSpec)

/-- ITS FALSE NEIGHBOUR: 'it returns false'. Refute it at one input. -/
def targetMoreWrong : ChangeSpec := { name := "targetMore", fn := fun _ => fun
  | [d1, d2, d3] => { results := [.lit (.bool false)], args := [d1, d2, d3] }
  | _ => none }
def TargetMoreWrongFalsely : Prop := targetMoreRow.holds Tryd.pinned (OpenSpec.ofChange targetMoreWrong)

/- THE SECOND FORM. 'bulk': how many values and letters a reading holds, each counted each time it is reached (what is shared counts as often as it is met; a slice's spare places count too). A statement '..UptoSaid' is the law's where the arguments, and the package variables that the reading takes, are together of bulk at most 1048576: NARROWER than '..Said'. Prove '..Said' where nothing that the law and all that it calls make is longer than what came in: it says more and counts as full. Else prove '..UptoSaid'. A law counts once. -/
mutual
def uptoBulk {H : Type} : DataW H → Nat
  | .lit (.string bytes) => bytes.length + 1
  | .lit _ => 1
  | .nil => 1
  | .ptr d => uptoBulk d + 1
  | .slice elems spare => uptoBulkAll elems + uptoBulkAll spare + 1
  | .agg parts => uptoBulkAll parts + 1
  | .iface _ d => uptoBulk d + 1
  | .map entries => uptoBulkEntries entries + 1
  | .held _ => 1
def uptoBulkAll {H : Type} : List (DataW H) → Nat
  | [] => 0
  | d :: r => uptoBulk d + uptoBulkAll r
def uptoBulkEntries {H : Type} : List (Lit × DataW H) → Nat
  | [] => 0
  | x :: r => uptoBulkEntry x + uptoBulkEntries r
def uptoBulkEntry {H : Type} : Lit × DataW H → Nat
  | (.string bytes, d) => bytes.length + uptoBulk d + 1
  | (_, d) => uptoBulk d + 1
 end
def uptoSmall : (H : Type) → List (DataW H) → Bool := fun _ ds => decide (uptoBulkAll ds ≤ 1048576)
def OpenSpec.upto (s : _root_.Go.ChangeSpec) : _root_.Go.OpenSpec := { _root_.Go.OpenSpec.ofChange s with cond := some uptoSmall }

/-- 'mulliganlaw18.TargetLists', WHERE WHAT IT READS IS OF BULK AT MOST 1048576: true; the input reads as it did. -/
def targetListsUptoRow : OpenClaim := { program := "ytonjilfbcofoaaadoor", sum := "2be39b1205bab24842fe7affaeb977d0fbefc0d9435d76d65bf3da61a0f12003", func := "mulligan/mulliganlaw18.TargetLists", spec := "targetLists", unfollowed := true, recurses := true, named := ["mulligan/state.flag", "mulligan/state.any", "mulligan/state.resting"], apart := false, laid := [("mulligan/state.any", laid_mulligan_state_any), ("mulligan/state.flag", laid_mulligan_state_flag), ("mulligan/state.resting", laid_mulligan_state_resting)], narrowed := true }
def TargetListsUptoSaid : Prop := targetListsUptoRow.holds Tryd.pinned (OpenSpec.upto targetListsSpec)

/-- 'mulliganlaw18.TargetChecks', WHERE WHAT IT READS IS OF BULK AT MOST 1048576: true; the input reads as it did. -/
def targetChecksUptoRow : OpenClaim := { program := "ytonjilfbcofoaaadoor", sum := "2be39b1205bab24842fe7affaeb977d0fbefc0d9435d76d65bf3da61a0f12003", func := "mulligan/mulliganlaw18.TargetChecks", spec := "targetChecks", unfollowed := true, recurses := true, named := ["mulligan/state.flag", "mulligan/state.any", "mulligan/state.resting"], apart := false, laid := [("mulligan/state.any", laid_mulligan_state_any), ("mulligan/state.flag", laid_mulligan_state_flag), ("mulligan/state.resting", laid_mulligan_state_resting)], narrowed := true }
def TargetChecksUptoSaid : Prop := targetChecksUptoRow.holds Tryd.pinned (OpenSpec.upto targetChecksSpec)

/-- 'mulliganlaw18.TargetNames', WHERE WHAT IT READS IS OF BULK AT MOST 1048576: true; the input reads as it did. -/
def targetNamesUptoRow : OpenClaim := { program := "ytonjilfbcofoaaadoor", sum := "2be39b1205bab24842fe7affaeb977d0fbefc0d9435d76d65bf3da61a0f12003", func := "mulligan/mulliganlaw18.TargetNames", spec := "targetNames", unfollowed := true, recurses := true, named := ["mulligan/state.flag", "mulligan/state.any", "mulligan/state.resting"], apart := false, laid := [("mulligan/state.any", laid_mulligan_state_any), ("mulligan/state.flag", laid_mulligan_state_flag), ("mulligan/state.resting", laid_mulligan_state_resting)], narrowed := true }
def TargetNamesUptoSaid : Prop := targetNamesUptoRow.holds Tryd.pinned (OpenSpec.upto targetNamesSpec)

/-- 'mulliganlaw18.TargetMore', WHERE WHAT IT READS IS OF BULK AT MOST 1048576: true; the input reads as it did. -/
def targetMoreUptoRow : OpenClaim := { program := "ytonjilfbcofoaaadoor", sum := "2be39b1205bab24842fe7affaeb977d0fbefc0d9435d76d65bf3da61a0f12003", func := "mulligan/mulliganlaw18.TargetMore", spec := "targetMore", unfollowed := true, recurses := true, named := ["mulligan/state.flag", "mulligan/state.any", "mulligan/state.resting"], apart := false, laid := [("mulligan/state.any", laid_mulligan_state_any), ("mulligan/state.flag", laid_mulligan_state_flag), ("mulligan/state.resting", laid_mulligan_state_resting)], narrowed := true }
def TargetMoreUptoSaid : Prop := targetMoreUptoRow.holds Tryd.pinned (OpenSpec.upto targetMoreSpec)

end Rows
end Go.Proofs.YtonjilfbcofoaaaDoor
