/-
  NARROWER THAN 'FOR EVERY INPUT', by the rows' own cells (each row's printed sentence says how): ScriptParses: laid · ScriptBack: laid.
  DERIVED. THE GIVEN ROWS OF THIS SEAT. 2 by the template 'for every input the law returns true; each argument reads behind the call as it read before'; 0 by the template 'total and deterministic' (their statements: YtbpbdanggilnpaaDoorTotals.lean).
  GIVEN WITH THE SEED: the statements are not yours to turn. If you find one false, say at which input.
  Laid BY PROGRAM, IN A SANDBOX (cutbox-rows.mjs): the forced cells as the released guide's own fill.sh prints them over the translation 84c98c96294fadcb… (all of the seat's roots in one cut). By AI agents, Wed Nov 11 2026. No macro, syntax, notation, axiom, sorry.
-/
import Derived.Test.YtbpbdanggilnpaaDoorChecked
import GoSem.Claim
import GoSem.ClaimJoined
import GoSem.ClaimMapViews
import Derived.JoinedTies
import Derived.KernelRfl
namespace Go.Proofs.YtbpbdanggilnpaaDoor
/- THE CELL 'sum', in the pinned program and in every row, IS THE sha256 OF THE DUMP (.gsa) THAT YtbpbdanggilnpaaDoorProg.lean LOADS. Nothing in Lean hashes anything: it is a label: what it is worth is what the hold of that sum in a sandbox is worth. -/
noncomputable def Tryd.pinned : Pinned := { name := "ytbpbdanggilnpaadoor", sum := "84c98c96294fadcbf5ea252f1cbe8d5479cd3bd788bf738e2f17ba9bc260be03", checked := Tryd.checked }
namespace Rows
def none {H : Type} : Left H := { results := [], args := [] }

/- WHAT THE LISTED PACKAGE-LEVEL VARIABLES READ AS WHEN THE CALL BEGINS. Each datum BY PROGRAM (the guide's laid-datum.mjs) off the statement by which the dump's own 'gosem.cut.vars' lays the variable. In a bare row this is a premise. The card (YtbpbdanggilnpaaDoorCards.lean) ties it to the program's text. -/
def laid_mulligan_decide_asks {H : Type} : DataW H := .agg [.lit (.int .u64 0), .lit (.int .u64 5), .lit (.int .u64 7), .lit (.int .u64 8), .lit (.int .u64 8), .lit (.int .u64 1), .lit (.int .u64 2)]
def laid_mulligan_script_forms {H : Type} : DataW H := .agg [.agg [.lit (.string [100, 101, 99, 105, 100, 101]), .lit (.int .i64 0), .lit (.int .i64 1), .lit (.int .i64 1)], .agg [.lit (.string [116, 97, 107, 101, 98, 97, 99, 107]), .lit (.int .i64 1), .lit (.int .i64 0), .lit (.int .i64 0)], .agg [.lit (.string [114, 101, 119, 105, 110, 100]), .lit (.int .i64 1), .lit (.int .i64 0), .lit (.int .i64 0)], .agg [.lit (.string [98, 97, 99, 107, 117, 112]), .lit (.int .i64 2), .lit (.int .i64 0), .lit (.int .i64 0)], .agg [.lit (.string [108, 111, 111, 112]), .lit (.int .i64 2), .lit (.int .i64 1), .lit (.int .i64 16)], .agg [.lit (.string [121, 105, 101, 108, 100]), .lit (.int .i64 2), .lit (.int .i64 0), .lit (.int .i64 0)], .agg [.lit (.string [98, 108, 111, 99, 107]), .lit (.int .i64 0), .lit (.int .i64 1), .lit (.int .i64 5)], .agg [.lit (.string [112, 117, 110, 105, 115, 104]), .lit (.int .i64 2), .lit (.int .i64 0), .lit (.int .i64 0)], .agg [.lit (.string [110, 101, 120, 116]), .lit (.int .i64 0), .lit (.int .i64 0), .lit (.int .i64 0)]]

/-- 'mulliganlaw35.ScriptParses': WHATEVER THE INPUT: true; the input reads as it did. -/
def scriptParsesSpec : ChangeSpec := { name := "scriptParses", fn := fun _ => fun
  | [d] => { results := [.lit (.bool true)], args := [d] }
  | _ => none }
def scriptParsesRow : OpenClaim := { program := "ytbpbdanggilnpaadoor", sum := "84c98c96294fadcbf5ea252f1cbe8d5479cd3bd788bf738e2f17ba9bc260be03", func := "mulligan/mulliganlaw35.ScriptParses", spec := "scriptParses", unfollowed := true, recurses := true, named := ["mulligan/script.forms", "mulligan/decide.asks"], apart := false, laid := [("mulligan/decide.asks", laid_mulligan_decide_asks), ("mulligan/script.forms", laid_mulligan_script_forms)] }
def ScriptParsesSaid : Prop := scriptParsesRow.holds Tryd.pinned (OpenSpec.ofChange scriptParsesSpec)

/-- ITS FALSE NEIGHBOUR: 'it returns false'. Refute it at one input. -/
def scriptParsesWrong : ChangeSpec := { name := "scriptParses", fn := fun _ => fun
  | [d] => { results := [.lit (.bool false)], args := [d] }
  | _ => none }
def ScriptParsesWrongFalsely : Prop := scriptParsesRow.holds Tryd.pinned (OpenSpec.ofChange scriptParsesWrong)

/-- 'mulliganlaw35.ScriptBack': WHATEVER THE INPUT: true; the input reads as it did. -/
def scriptBackSpec : ChangeSpec := { name := "scriptBack", fn := fun _ => fun
  | [d1, d2] => { results := [.lit (.bool true)], args := [d1, d2] }
  | _ => none }
def scriptBackRow : OpenClaim := { program := "ytbpbdanggilnpaadoor", sum := "84c98c96294fadcbf5ea252f1cbe8d5479cd3bd788bf738e2f17ba9bc260be03", func := "mulligan/mulliganlaw35.ScriptBack", spec := "scriptBack", unfollowed := true, recurses := true, named := ["mulligan/script.forms", "mulligan/decide.asks"], apart := false, laid := [("mulligan/decide.asks", laid_mulligan_decide_asks), ("mulligan/script.forms", laid_mulligan_script_forms)] }
def ScriptBackSaid : Prop := scriptBackRow.holds Tryd.pinned (OpenSpec.ofChange scriptBackSpec)

/-- ITS FALSE NEIGHBOUR: 'it returns false'. Refute it at one input. -/
def scriptBackWrong : ChangeSpec := { name := "scriptBack", fn := fun _ => fun
  | [d1, d2] => { results := [.lit (.bool false)], args := [d1, d2] }
  | _ => none }
def ScriptBackWrongFalsely : Prop := scriptBackRow.holds Tryd.pinned (OpenSpec.ofChange scriptBackWrong)

/- THE SECOND FORM. 'bulk': how many values and letters a reading holds, each counted each time it is reached (what is shared counts as often as it is met; a slice's spare places count too). A statement '..UptoSaid' is the law's where the arguments, and the package variables that the reading takes, are together of bulk at most 1048576: NARROWER than '..Said'. Prove '..Said' where nothing that the law and all that it calls make is longer than what came in: it says more and counts as full. Else prove '..UptoSaid'. A law counts once. -/
mutual
def uptoBulk {H : Type} : DataW H → Nat
  | .lit (.string bytes) => bytes.length + 1
  | .lit _ => 1
  | .nil => 1
  | .ptr d => uptoBulk d + 1
  | .slice elems spare => uptoBulkAll elems + uptoBulkAll spare + 1
  | .agg parts => uptoBulkAll parts + 1
  | .iface _ d => uptoBulk d + 1
  | .map entries => uptoBulkEntries entries + 1
  | .held _ => 1
def uptoBulkAll {H : Type} : List (DataW H) → Nat
  | [] => 0
  | d :: r => uptoBulk d + uptoBulkAll r
def uptoBulkEntries {H : Type} : List (Lit × DataW H) → Nat
  | [] => 0
  | x :: r => uptoBulkEntry x + uptoBulkEntries r
def uptoBulkEntry {H : Type} : Lit × DataW H → Nat
  | (.string bytes, d) => bytes.length + uptoBulk d + 1
  | (_, d) => uptoBulk d + 1
 end
def uptoSmall : (H : Type) → List (DataW H) → Bool := fun _ ds => decide (uptoBulkAll ds ≤ 1048576)
def OpenSpec.upto (s : _root_.Go.ChangeSpec) : _root_.Go.OpenSpec := { _root_.Go.OpenSpec.ofChange s with cond := some uptoSmall }

/-- 'mulliganlaw35.ScriptParses', WHERE WHAT IT READS IS OF BULK AT MOST 1048576: true; the input reads as it did. -/
def scriptParsesUptoRow : OpenClaim := { program := "ytbpbdanggilnpaadoor", sum := "84c98c96294fadcbf5ea252f1cbe8d5479cd3bd788bf738e2f17ba9bc260be03", func := "mulligan/mulliganlaw35.ScriptParses", spec := "scriptParses", unfollowed := true, recurses := true, named := ["mulligan/script.forms", "mulligan/decide.asks"], apart := false, laid := [("mulligan/decide.asks", laid_mulligan_decide_asks), ("mulligan/script.forms", laid_mulligan_script_forms)], narrowed := true }
def ScriptParsesUptoSaid : Prop := scriptParsesUptoRow.holds Tryd.pinned (OpenSpec.upto scriptParsesSpec)

/-- 'mulliganlaw35.ScriptBack', WHERE WHAT IT READS IS OF BULK AT MOST 1048576: true; the input reads as it did. -/
def scriptBackUptoRow : OpenClaim := { program := "ytbpbdanggilnpaadoor", sum := "84c98c96294fadcbf5ea252f1cbe8d5479cd3bd788bf738e2f17ba9bc260be03", func := "mulligan/mulliganlaw35.ScriptBack", spec := "scriptBack", unfollowed := true, recurses := true, named := ["mulligan/script.forms", "mulligan/decide.asks"], apart := false, laid := [("mulligan/decide.asks", laid_mulligan_decide_asks), ("mulligan/script.forms", laid_mulligan_script_forms)], narrowed := true }
def ScriptBackUptoSaid : Prop := scriptBackUptoRow.holds Tryd.pinned (OpenSpec.upto scriptBackSpec)

end Rows
end Go.Proofs.YtbpbdanggilnpaaDoor
