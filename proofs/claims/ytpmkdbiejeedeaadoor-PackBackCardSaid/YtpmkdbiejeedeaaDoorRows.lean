/-
  NARROWER THAN 'FOR EVERY INPUT', by the rows' own cells (each row's printed sentence says how): PackShorts: laid · PackHeads: laid · PackObjects: laid · PackBack: laid.
  DERIVED. THE GIVEN ROWS OF THIS SEAT. 4 by the template 'for every input the law returns true; each argument reads behind the call as it read before'; 0 by the template 'total and deterministic' (their statements: YtpmkdbiejeedeaaDoorTotals.lean).
  GIVEN WITH THE SEED: the statements are not yours to turn. If you find one false, say at which input.
  Laid BY PROGRAM, IN A SANDBOX (cutbox-rows.mjs): the forced cells as the released guide's own fill.sh prints them over the translation cf0bd793e03749d6… (all of the seat's roots in one cut). By AI agents, Wed Nov 11 2026. No macro, syntax, notation, axiom, sorry.
-/
import Derived.Test.YtpmkdbiejeedeaaDoorChecked
import GoSem.Claim
import GoSem.ClaimJoined
import GoSem.ClaimMapViews
import Derived.JoinedTies
import Derived.KernelRfl
namespace Go.Proofs.YtpmkdbiejeedeaaDoor
/- THE CELL 'sum', in the pinned program and in every row, IS THE sha256 OF THE DUMP (.gsa) THAT YtpmkdbiejeedeaaDoorProg.lean LOADS. Nothing in Lean hashes anything: it is a label: what it is worth is what the hold of that sum in a sandbox is worth. -/
noncomputable def Tryd.pinned : Pinned := { name := "ytpmkdbiejeedeaadoor", sum := "cf0bd793e03749d6ef28f324b8c273ecb6980d1acbfad3b5bcdee14c853bb5c3", checked := Tryd.checked }
namespace Rows
def none {H : Type} : Left H := { results := [], args := [] }

/- WHAT THE LISTED PACKAGE-LEVEL VARIABLES READ AS WHEN THE CALL BEGINS. Each datum BY PROGRAM (the guide's laid-datum.mjs) off the statement by which the dump's own 'gosem.cut.vars' lays the variable. In a bare row this is a premise. The card (YtpmkdbiejeedeaaDoorCards.lean) ties it to the program's text. -/
def laid_mulligan_pack_parts {H : Type} : DataW H := .agg [.agg [.lit (.int .i64 1), .lit (.int .i64 1)], .agg [.lit (.int .i64 2), .lit (.int .i64 1)], .agg [.lit (.int .i64 3), .lit (.int .i64 4)], .agg [.lit (.int .i64 4), .lit (.int .i64 1)], .agg [.lit (.int .i64 5), .lit (.int .i64 1)], .agg [.lit (.int .i64 11), .lit (.int .i64 1)], .agg [.lit (.int .i64 13), .lit (.int .i64 2)], .agg [.lit (.int .i64 17), .lit (.int .i64 2)], .agg [.lit (.int .i64 10), .lit (.int .i64 8)]]
def laid_mulligan_pack_others {H : Type} : DataW H := .agg [.lit (.int .i64 0), .lit (.int .i64 6), .lit (.int .i64 7), .lit (.int .i64 8), .lit (.int .i64 9), .lit (.int .i64 12), .lit (.int .i64 14), .lit (.int .i64 15), .lit (.int .i64 16)]

/-- 'mulliganlaw03.PackShorts': WHATEVER THE INPUT: true; the input reads as it did. -/
def packShortsSpec : ChangeSpec := { name := "packShorts", fn := fun _ => fun
  | [d1, d2, d3] => { results := [.lit (.bool true)], args := [d1, d2, d3] }
  | _ => none }
def packShortsRow : OpenClaim := { program := "ytpmkdbiejeedeaadoor", sum := "cf0bd793e03749d6ef28f324b8c273ecb6980d1acbfad3b5bcdee14c853bb5c3", func := "mulligan/mulliganlaw03.PackShorts", spec := "packShorts", named := ["mulligan/pack.parts"], apart := false, laid := [("mulligan/pack.parts", laid_mulligan_pack_parts)] }
def PackShortsSaid : Prop := packShortsRow.holds Tryd.pinned (OpenSpec.ofChange packShortsSpec)

/-- ITS FALSE NEIGHBOUR: 'it returns false'. Refute it at one input. -/
def packShortsWrong : ChangeSpec := { name := "packShorts", fn := fun _ => fun
  | [d1, d2, d3] => { results := [.lit (.bool false)], args := [d1, d2, d3] }
  | _ => none }
def PackShortsWrongFalsely : Prop := packShortsRow.holds Tryd.pinned (OpenSpec.ofChange packShortsWrong)

/-- 'mulliganlaw03.PackHeads': WHATEVER THE INPUT: true; the input reads as it did. -/
def packHeadsSpec : ChangeSpec := { name := "packHeads", fn := fun _ => fun
  | [d] => { results := [.lit (.bool true)], args := [d] }
  | _ => none }
def packHeadsRow : OpenClaim := { program := "ytpmkdbiejeedeaadoor", sum := "cf0bd793e03749d6ef28f324b8c273ecb6980d1acbfad3b5bcdee14c853bb5c3", func := "mulligan/mulliganlaw03.PackHeads", spec := "packHeads", named := ["mulligan/pack.parts", "mulligan/pack.others"], apart := false, laid := [("mulligan/pack.parts", laid_mulligan_pack_parts), ("mulligan/pack.others", laid_mulligan_pack_others)] }
def PackHeadsSaid : Prop := packHeadsRow.holds Tryd.pinned (OpenSpec.ofChange packHeadsSpec)

/-- ITS FALSE NEIGHBOUR: 'it returns false'. Refute it at one input. -/
def packHeadsWrong : ChangeSpec := { name := "packHeads", fn := fun _ => fun
  | [d] => { results := [.lit (.bool false)], args := [d] }
  | _ => none }
def PackHeadsWrongFalsely : Prop := packHeadsRow.holds Tryd.pinned (OpenSpec.ofChange packHeadsWrong)

/-- 'mulliganlaw03.PackObjects': WHATEVER THE INPUT: true; the input reads as it did. -/
def packObjectsSpec : ChangeSpec := { name := "packObjects", fn := fun _ => fun
  | [d1, d2] => { results := [.lit (.bool true)], args := [d1, d2] }
  | _ => none }
def packObjectsRow : OpenClaim := { program := "ytpmkdbiejeedeaadoor", sum := "cf0bd793e03749d6ef28f324b8c273ecb6980d1acbfad3b5bcdee14c853bb5c3", func := "mulligan/mulliganlaw03.PackObjects", spec := "packObjects", named := ["mulligan/pack.parts", "mulligan/pack.others"], apart := false, laid := [("mulligan/pack.parts", laid_mulligan_pack_parts), ("mulligan/pack.others", laid_mulligan_pack_others)] }
def PackObjectsSaid : Prop := packObjectsRow.holds Tryd.pinned (OpenSpec.ofChange packObjectsSpec)

/-- ITS FALSE NEIGHBOUR: 'it returns false'. Refute it at one input. -/
def packObjectsWrong : ChangeSpec := { name := "packObjects", fn := fun _ => fun
  | [d1, d2] => { results := [.lit (.bool false)], args := [d1, d2] }
  | _ => none }
def PackObjectsWrongFalsely : Prop := packObjectsRow.holds Tryd.pinned (OpenSpec.ofChange packObjectsWrong)

/-- 'mulliganlaw03.PackBack': WHATEVER THE INPUT: true; the input reads as it did. -/
def packBackSpec : ChangeSpec := { name := "packBack", fn := fun _ => fun
  | [d1, d2] => { results := [.lit (.bool true)], args := [d1, d2] }
  | _ => none }
def packBackRow : OpenClaim := { program := "ytpmkdbiejeedeaadoor", sum := "cf0bd793e03749d6ef28f324b8c273ecb6980d1acbfad3b5bcdee14c853bb5c3", func := "mulligan/mulliganlaw03.PackBack", spec := "packBack", named := ["mulligan/pack.parts", "mulligan/pack.others"], apart := false, laid := [("mulligan/pack.parts", laid_mulligan_pack_parts), ("mulligan/pack.others", laid_mulligan_pack_others)] }
def PackBackSaid : Prop := packBackRow.holds Tryd.pinned (OpenSpec.ofChange packBackSpec)

/-- ITS FALSE NEIGHBOUR: 'it returns false'. Refute it at one input. -/
def packBackWrong : ChangeSpec := { name := "packBack", fn := fun _ => fun
  | [d1, d2] => { results := [.lit (.bool false)], args := [d1, d2] }
  | _ => none }
def PackBackWrongFalsely : Prop := packBackRow.holds Tryd.pinned (OpenSpec.ofChange packBackWrong)

/- THE SECOND FORM. 'bulk': how many values and letters a reading holds, each counted each time it is reached (what is shared counts as often as it is met; a slice's spare places count too). A statement '..UptoSaid' is the law's where the arguments, and the package variables that the reading takes, are together of bulk at most 1048576: NARROWER than '..Said'. Prove '..Said' where nothing that the law and all that it calls make is longer than what came in: it says more and counts as full. Else prove '..UptoSaid'. A law counts once. -/
mutual
def uptoBulk {H : Type} : DataW H → Nat
  | .lit (.string bytes) => bytes.length + 1
  | .lit _ => 1
  | .nil => 1
  | .ptr d => uptoBulk d + 1
  | .slice elems spare => uptoBulkAll elems + uptoBulkAll spare + 1
  | .agg parts => uptoBulkAll parts + 1
  | .iface _ d => uptoBulk d + 1
  | .map entries => uptoBulkEntries entries + 1
  | .held _ => 1
def uptoBulkAll {H : Type} : List (DataW H) → Nat
  | [] => 0
  | d :: r => uptoBulk d + uptoBulkAll r
def uptoBulkEntries {H : Type} : List (Lit × DataW H) → Nat
  | [] => 0
  | x :: r => uptoBulkEntry x + uptoBulkEntries r
def uptoBulkEntry {H : Type} : Lit × DataW H → Nat
  | (.string bytes, d) => bytes.length + uptoBulk d + 1
  | (_, d) => uptoBulk d + 1
 end
def uptoSmall : (H : Type) → List (DataW H) → Bool := fun _ ds => decide (uptoBulkAll ds ≤ 1048576)
def OpenSpec.upto (s : _root_.Go.ChangeSpec) : _root_.Go.OpenSpec := { _root_.Go.OpenSpec.ofChange s with cond := some uptoSmall }

/-- 'mulliganlaw03.PackShorts', WHERE WHAT IT READS IS OF BULK AT MOST 1048576: true; the input reads as it did. -/
def packShortsUptoRow : OpenClaim := { program := "ytpmkdbiejeedeaadoor", sum := "cf0bd793e03749d6ef28f324b8c273ecb6980d1acbfad3b5bcdee14c853bb5c3", func := "mulligan/mulliganlaw03.PackShorts", spec := "packShorts", named := ["mulligan/pack.parts"], apart := false, laid := [("mulligan/pack.parts", laid_mulligan_pack_parts)], narrowed := true }
def PackShortsUptoSaid : Prop := packShortsUptoRow.holds Tryd.pinned (OpenSpec.upto packShortsSpec)

/-- 'mulliganlaw03.PackHeads', WHERE WHAT IT READS IS OF BULK AT MOST 1048576: true; the input reads as it did. -/
def packHeadsUptoRow : OpenClaim := { program := "ytpmkdbiejeedeaadoor", sum := "cf0bd793e03749d6ef28f324b8c273ecb6980d1acbfad3b5bcdee14c853bb5c3", func := "mulligan/mulliganlaw03.PackHeads", spec := "packHeads", named := ["mulligan/pack.parts", "mulligan/pack.others"], apart := false, laid := [("mulligan/pack.parts", laid_mulligan_pack_parts), ("mulligan/pack.others", laid_mulligan_pack_others)], narrowed := true }
def PackHeadsUptoSaid : Prop := packHeadsUptoRow.holds Tryd.pinned (OpenSpec.upto packHeadsSpec)

/-- 'mulliganlaw03.PackObjects', WHERE WHAT IT READS IS OF BULK AT MOST 1048576: true; the input reads as it did. -/
def packObjectsUptoRow : OpenClaim := { program := "ytpmkdbiejeedeaadoor", sum := "cf0bd793e03749d6ef28f324b8c273ecb6980d1acbfad3b5bcdee14c853bb5c3", func := "mulligan/mulliganlaw03.PackObjects", spec := "packObjects", named := ["mulligan/pack.parts", "mulligan/pack.others"], apart := false, laid := [("mulligan/pack.parts", laid_mulligan_pack_parts), ("mulligan/pack.others", laid_mulligan_pack_others)], narrowed := true }
def PackObjectsUptoSaid : Prop := packObjectsUptoRow.holds Tryd.pinned (OpenSpec.upto packObjectsSpec)

/-- 'mulliganlaw03.PackBack', WHERE WHAT IT READS IS OF BULK AT MOST 1048576: true; the input reads as it did. -/
def packBackUptoRow : OpenClaim := { program := "ytpmkdbiejeedeaadoor", sum := "cf0bd793e03749d6ef28f324b8c273ecb6980d1acbfad3b5bcdee14c853bb5c3", func := "mulligan/mulliganlaw03.PackBack", spec := "packBack", named := ["mulligan/pack.parts", "mulligan/pack.others"], apart := false, laid := [("mulligan/pack.parts", laid_mulligan_pack_parts), ("mulligan/pack.others", laid_mulligan_pack_others)], narrowed := true }
def PackBackUptoSaid : Prop := packBackUptoRow.holds Tryd.pinned (OpenSpec.upto packBackSpec)

end Rows
end Go.Proofs.YtpmkdbiejeedeaaDoor
