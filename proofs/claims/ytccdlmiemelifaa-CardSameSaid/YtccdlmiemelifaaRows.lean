/-
  NARROWER THAN 'FOR EVERY INPUT', by the rows' own cells (each row's printed sentence says how): EffectSame: loops · CardSame: loops.
  DERIVED. THE GIVEN ROWS OF THIS SEAT. 2 by the template 'for every input the law returns true; each argument reads behind the call as it read before'; 0 by the template 'total and deterministic' (their statements: YtccdlmiemelifaaTotals.lean).
  GIVEN WITH THE SEED: the statements are not yours to turn. If you find one false, say at which input.
  Laid BY PROGRAM, IN A SANDBOX (cutbox-rows.mjs): the forced cells as the released guide's own fill.sh prints them over the translation 930fe7c795ba40b3… (all of the seat's roots in one cut). By AI agents, Wed Nov 11 2026. No macro, syntax, notation, axiom, sorry.
-/
import Derived.Test.YtccdlmiemelifaaChecked
import GoSem.Claim
import GoSem.ClaimJoined
import GoSem.ClaimMapViews
import Derived.JoinedTies
import Derived.KernelRfl
namespace Go.Proofs.Ytccdlmiemelifaa
/- THE CELL 'sum', in the pinned program and in every row, IS THE sha256 OF THE DUMP (.gsa) THAT YtccdlmiemelifaaProg.lean LOADS. Nothing in Lean hashes anything: it is a label: what it is worth is what the hold of that sum in a sandbox is worth. -/
noncomputable def Try.pinned : Pinned := { name := "ytccdlmiemelifaa", sum := "930fe7c795ba40b3c61d956fc56cde5e9082b0c17cfe22d0a715848451b28ed6", checked := Try.checked }
namespace Rows
def none {H : Type} : Left H := { results := [], args := [] }

/-- 'mulliganlaw06.EffectSame': WHATEVER THE INPUT: true; the input reads as it did. -/
def effectSameSpec : ChangeSpec := { name := "effectSame", fn := fun _ => fun
  | [d1, d2] => { results := [.lit (.bool true)], args := [d1, d2] }
  | _ => none }
def effectSameRow : OpenClaim := { program := "ytccdlmiemelifaa", sum := "930fe7c795ba40b3c61d956fc56cde5e9082b0c17cfe22d0a715848451b28ed6", func := "mulligan/mulliganlaw06.EffectSame", spec := "effectSame", unfollowed := true, recurses := true, loops := true, apart := false }
def EffectSameSaid : Prop := effectSameRow.holds Try.pinned (OpenSpec.ofChange effectSameSpec)

/-- ITS FALSE NEIGHBOUR: 'it returns false'. Refute it at one input. -/
def effectSameWrong : ChangeSpec := { name := "effectSame", fn := fun _ => fun
  | [d1, d2] => { results := [.lit (.bool false)], args := [d1, d2] }
  | _ => none }
def EffectSameWrongFalsely : Prop := effectSameRow.holds Try.pinned (OpenSpec.ofChange effectSameWrong)

/-- 'mulliganlaw07.CardSame': WHATEVER THE INPUT: true; the input reads as it did. -/
def cardSameSpec : ChangeSpec := { name := "cardSame", fn := fun _ => fun
  | [d1, d2] => { results := [.lit (.bool true)], args := [d1, d2] }
  | _ => none }
def cardSameRow : OpenClaim := { program := "ytccdlmiemelifaa", sum := "930fe7c795ba40b3c61d956fc56cde5e9082b0c17cfe22d0a715848451b28ed6", func := "mulligan/mulliganlaw07.CardSame", spec := "cardSame", unfollowed := true, recurses := true, loops := true, apart := false }
def CardSameSaid : Prop := cardSameRow.holds Try.pinned (OpenSpec.ofChange cardSameSpec)

/-- ITS FALSE NEIGHBOUR: 'it returns false'. Refute it at one input. -/
def cardSameWrong : ChangeSpec := { name := "cardSame", fn := fun _ => fun
  | [d1, d2] => { results := [.lit (.bool false)], args := [d1, d2] }
  | _ => none }
def CardSameWrongFalsely : Prop := cardSameRow.holds Try.pinned (OpenSpec.ofChange cardSameWrong)

/- THE SECOND FORM. 'bulk': how many values and letters a reading holds, each counted each time it is reached (what is shared counts as often as it is met; a slice's spare places count too). A statement '..UptoSaid' is the law's where the arguments, and the package variables that the reading takes, are together of bulk at most 1048576: NARROWER than '..Said'. Prove '..Said' where nothing that the law and all that it calls make is longer than what came in: it says more and counts as full. Else prove '..UptoSaid'. A law counts once. -/
mutual
def uptoBulk {H : Type} : DataW H → Nat
  | .lit (.string bytes) => bytes.length + 1
  | .lit _ => 1
  | .nil => 1
  | .ptr d => uptoBulk d + 1
  | .slice elems spare => uptoBulkAll elems + uptoBulkAll spare + 1
  | .agg parts => uptoBulkAll parts + 1
  | .iface _ d => uptoBulk d + 1
  | .map entries => uptoBulkEntries entries + 1
  | .held _ => 1
def uptoBulkAll {H : Type} : List (DataW H) → Nat
  | [] => 0
  | d :: r => uptoBulk d + uptoBulkAll r
def uptoBulkEntries {H : Type} : List (Lit × DataW H) → Nat
  | [] => 0
  | x :: r => uptoBulkEntry x + uptoBulkEntries r
def uptoBulkEntry {H : Type} : Lit × DataW H → Nat
  | (.string bytes, d) => bytes.length + uptoBulk d + 1
  | (_, d) => uptoBulk d + 1
 end
def uptoSmall : (H : Type) → List (DataW H) → Bool := fun _ ds => decide (uptoBulkAll ds ≤ 1048576)
def OpenSpec.upto (s : _root_.Go.ChangeSpec) : _root_.Go.OpenSpec := { _root_.Go.OpenSpec.ofChange s with cond := some uptoSmall }

/-- 'mulliganlaw06.EffectSame', WHERE WHAT IT READS IS OF BULK AT MOST 1048576: true; the input reads as it did. -/
def effectSameUptoRow : OpenClaim := { program := "ytccdlmiemelifaa", sum := "930fe7c795ba40b3c61d956fc56cde5e9082b0c17cfe22d0a715848451b28ed6", func := "mulligan/mulliganlaw06.EffectSame", spec := "effectSame", unfollowed := true, recurses := true, loops := true, apart := false, narrowed := true }
def EffectSameUptoSaid : Prop := effectSameUptoRow.holds Try.pinned (OpenSpec.upto effectSameSpec)

/-- 'mulliganlaw07.CardSame', WHERE WHAT IT READS IS OF BULK AT MOST 1048576: true; the input reads as it did. -/
def cardSameUptoRow : OpenClaim := { program := "ytccdlmiemelifaa", sum := "930fe7c795ba40b3c61d956fc56cde5e9082b0c17cfe22d0a715848451b28ed6", func := "mulligan/mulliganlaw07.CardSame", spec := "cardSame", unfollowed := true, recurses := true, loops := true, apart := false, narrowed := true }
def CardSameUptoSaid : Prop := cardSameUptoRow.holds Try.pinned (OpenSpec.upto cardSameSpec)

end Rows
end Go.Proofs.Ytccdlmiemelifaa
