/-
  NARROWER THAN 'FOR EVERY INPUT', by the rows' own cells (each row's printed sentence says how): EffectChecks: loops · EffectSame: loops · EffectBytes: loops · EffectBack: loops.
  DERIVED. THE GIVEN ROWS OF THIS SEAT. 4 by the template 'for every input the law returns true; each argument reads behind the call as it read before'; 0 by the template 'total and deterministic' (their statements: YtkilkcgnfhlfiaaTotals.lean).
  GIVEN WITH THE SEED: the statements are not yours to turn. If you find one false, say at which input.
  Laid BY PROGRAM, IN A SANDBOX (cutbox-rows.mjs): the forced cells as the released guide's own fill.sh prints them over the translation 63f959376f4a1ee8… (all of the seat's roots in one cut). By AI agents, Wed Nov 11 2026. No macro, syntax, notation, axiom, sorry.
-/
import Derived.Test.YtkilkcgnfhlfiaaChecked
import GoSem.Claim
import GoSem.ClaimJoined
import GoSem.ClaimMapViews
import Derived.JoinedTies
import Derived.KernelRfl
namespace Go.Proofs.Ytkilkcgnfhlfiaa
/- THE CELL 'sum', in the pinned program and in every row, IS THE sha256 OF THE DUMP (.gsa) THAT YtkilkcgnfhlfiaaProg.lean LOADS. Nothing in Lean hashes anything: it is a label: what it is worth is what the hold of that sum in a sandbox is worth. -/
noncomputable def Try.pinned : Pinned := { name := "ytkilkcgnfhlfiaa", sum := "63f959376f4a1ee8d11e8a3e5fe5165c4d82540f3ef1ce40e8ca59997312e416", checked := Try.checked }
namespace Rows
def none {H : Type} : Left H := { results := [], args := [] }

/-- 'mulliganlaw06.EffectChecks': WHATEVER THE INPUT: true; the input reads as it did. -/
def effectChecksSpec : ChangeSpec := { name := "effectChecks", fn := fun _ => fun
  | [d1, d2, d3] => { results := [.lit (.bool true)], args := [d1, d2, d3] }
  | _ => none }
def effectChecksRow : OpenClaim := { program := "ytkilkcgnfhlfiaa", sum := "63f959376f4a1ee8d11e8a3e5fe5165c4d82540f3ef1ce40e8ca59997312e416", func := "mulligan/mulliganlaw06.EffectChecks", spec := "effectChecks", unfollowed := true, recurses := true, loops := true, apart := false }
def EffectChecksSaid : Prop := effectChecksRow.holds Try.pinned (OpenSpec.ofChange effectChecksSpec)

/-- ITS FALSE NEIGHBOUR: 'it returns false'. Refute it at one input. -/
def effectChecksWrong : ChangeSpec := { name := "effectChecks", fn := fun _ => fun
  | [d1, d2, d3] => { results := [.lit (.bool false)], args := [d1, d2, d3] }
  | _ => none }
def EffectChecksWrongFalsely : Prop := effectChecksRow.holds Try.pinned (OpenSpec.ofChange effectChecksWrong)

/-- 'mulliganlaw06.EffectSame': WHATEVER THE INPUT: true; the input reads as it did. -/
def effectSameSpec : ChangeSpec := { name := "effectSame", fn := fun _ => fun
  | [d1, d2] => { results := [.lit (.bool true)], args := [d1, d2] }
  | _ => none }
def effectSameRow : OpenClaim := { program := "ytkilkcgnfhlfiaa", sum := "63f959376f4a1ee8d11e8a3e5fe5165c4d82540f3ef1ce40e8ca59997312e416", func := "mulligan/mulliganlaw06.EffectSame", spec := "effectSame", unfollowed := true, recurses := true, loops := true, apart := false }
def EffectSameSaid : Prop := effectSameRow.holds Try.pinned (OpenSpec.ofChange effectSameSpec)

/-- ITS FALSE NEIGHBOUR: 'it returns false'. Refute it at one input. -/
def effectSameWrong : ChangeSpec := { name := "effectSame", fn := fun _ => fun
  | [d1, d2] => { results := [.lit (.bool false)], args := [d1, d2] }
  | _ => none }
def EffectSameWrongFalsely : Prop := effectSameRow.holds Try.pinned (OpenSpec.ofChange effectSameWrong)

/-- 'mulliganlaw06.EffectBytes': WHATEVER THE INPUT: true; the input reads as it did. -/
def effectBytesSpec : ChangeSpec := { name := "effectBytes", fn := fun _ => fun
  | [d1, d2] => { results := [.lit (.bool true)], args := [d1, d2] }
  | _ => none }
def effectBytesRow : OpenClaim := { program := "ytkilkcgnfhlfiaa", sum := "63f959376f4a1ee8d11e8a3e5fe5165c4d82540f3ef1ce40e8ca59997312e416", func := "mulligan/mulliganlaw06.EffectBytes", spec := "effectBytes", recurses := true, loops := true, apart := false }
def EffectBytesSaid : Prop := effectBytesRow.holds Try.pinned (OpenSpec.ofChange effectBytesSpec)

/-- ITS FALSE NEIGHBOUR: 'it returns false'. Refute it at one input. -/
def effectBytesWrong : ChangeSpec := { name := "effectBytes", fn := fun _ => fun
  | [d1, d2] => { results := [.lit (.bool false)], args := [d1, d2] }
  | _ => none }
def EffectBytesWrongFalsely : Prop := effectBytesRow.holds Try.pinned (OpenSpec.ofChange effectBytesWrong)

/-- 'mulliganlaw06.EffectBack': WHATEVER THE INPUT: true; the input reads as it did. -/
def effectBackSpec : ChangeSpec := { name := "effectBack", fn := fun _ => fun
  | [d1, d2, d3] => { results := [.lit (.bool true)], args := [d1, d2, d3] }
  | _ => none }
def effectBackRow : OpenClaim := { program := "ytkilkcgnfhlfiaa", sum := "63f959376f4a1ee8d11e8a3e5fe5165c4d82540f3ef1ce40e8ca59997312e416", func := "mulligan/mulliganlaw06.EffectBack", spec := "effectBack", unfollowed := true, recurses := true, loops := true, apart := false }
def EffectBackSaid : Prop := effectBackRow.holds Try.pinned (OpenSpec.ofChange effectBackSpec)

/-- ITS FALSE NEIGHBOUR: 'it returns false'. Refute it at one input. -/
def effectBackWrong : ChangeSpec := { name := "effectBack", fn := fun _ => fun
  | [d1, d2, d3] => { results := [.lit (.bool false)], args := [d1, d2, d3] }
  | _ => none }
def EffectBackWrongFalsely : Prop := effectBackRow.holds Try.pinned (OpenSpec.ofChange effectBackWrong)

/- THE SECOND FORM. 'bulk': how many values and letters a reading holds, each counted each time it is reached (what is shared counts as often as it is met; a slice's spare places count too). A statement '..UptoSaid' is the law's where the arguments, and the package variables that the reading takes, are together of bulk at most 1048576: NARROWER than '..Said'. Prove '..Said' where nothing that the law and all that it calls make is longer than what came in: it says more and counts as full. Else prove '..UptoSaid'. A law counts once. -/
mutual
def uptoBulk {H : Type} : DataW H → Nat
  | .lit (.string bytes) => bytes.length + 1
  | .lit _ => 1
  | .nil => 1
  | .ptr d => uptoBulk d + 1
  | .slice elems spare => uptoBulkAll elems + uptoBulkAll spare + 1
  | .agg parts => uptoBulkAll parts + 1
  | .iface _ d => uptoBulk d + 1
  | .map entries => uptoBulkEntries entries + 1
  | .held _ => 1
def uptoBulkAll {H : Type} : List (DataW H) → Nat
  | [] => 0
  | d :: r => uptoBulk d + uptoBulkAll r
def uptoBulkEntries {H : Type} : List (Lit × DataW H) → Nat
  | [] => 0
  | x :: r => uptoBulkEntry x + uptoBulkEntries r
def uptoBulkEntry {H : Type} : Lit × DataW H → Nat
  | (.string bytes, d) => bytes.length + uptoBulk d + 1
  | (_, d) => uptoBulk d + 1
 end
def uptoSmall : (H : Type) → List (DataW H) → Bool := fun _ ds => decide (uptoBulkAll ds ≤ 1048576)
def OpenSpec.upto (s : _root_.Go.ChangeSpec) : _root_.Go.OpenSpec := { _root_.Go.OpenSpec.ofChange s with cond := some uptoSmall }

/-- 'mulliganlaw06.EffectChecks', WHERE WHAT IT READS IS OF BULK AT MOST 1048576: true; the input reads as it did. -/
def effectChecksUptoRow : OpenClaim := { program := "ytkilkcgnfhlfiaa", sum := "63f959376f4a1ee8d11e8a3e5fe5165c4d82540f3ef1ce40e8ca59997312e416", func := "mulligan/mulliganlaw06.EffectChecks", spec := "effectChecks", unfollowed := true, recurses := true, loops := true, apart := false, narrowed := true }
def EffectChecksUptoSaid : Prop := effectChecksUptoRow.holds Try.pinned (OpenSpec.upto effectChecksSpec)

/-- 'mulliganlaw06.EffectSame', WHERE WHAT IT READS IS OF BULK AT MOST 1048576: true; the input reads as it did. -/
def effectSameUptoRow : OpenClaim := { program := "ytkilkcgnfhlfiaa", sum := "63f959376f4a1ee8d11e8a3e5fe5165c4d82540f3ef1ce40e8ca59997312e416", func := "mulligan/mulliganlaw06.EffectSame", spec := "effectSame", unfollowed := true, recurses := true, loops := true, apart := false, narrowed := true }
def EffectSameUptoSaid : Prop := effectSameUptoRow.holds Try.pinned (OpenSpec.upto effectSameSpec)

/-- 'mulliganlaw06.EffectBytes', WHERE WHAT IT READS IS OF BULK AT MOST 1048576: true; the input reads as it did. -/
def effectBytesUptoRow : OpenClaim := { program := "ytkilkcgnfhlfiaa", sum := "63f959376f4a1ee8d11e8a3e5fe5165c4d82540f3ef1ce40e8ca59997312e416", func := "mulligan/mulliganlaw06.EffectBytes", spec := "effectBytes", recurses := true, loops := true, apart := false, narrowed := true }
def EffectBytesUptoSaid : Prop := effectBytesUptoRow.holds Try.pinned (OpenSpec.upto effectBytesSpec)

/-- 'mulliganlaw06.EffectBack', WHERE WHAT IT READS IS OF BULK AT MOST 1048576: true; the input reads as it did. -/
def effectBackUptoRow : OpenClaim := { program := "ytkilkcgnfhlfiaa", sum := "63f959376f4a1ee8d11e8a3e5fe5165c4d82540f3ef1ce40e8ca59997312e416", func := "mulligan/mulliganlaw06.EffectBack", spec := "effectBack", unfollowed := true, recurses := true, loops := true, apart := false, narrowed := true }
def EffectBackUptoSaid : Prop := effectBackUptoRow.holds Try.pinned (OpenSpec.upto effectBackSpec)

end Rows
end Go.Proofs.Ytkilkcgnfhlfiaa
