/-
  NARROWER THAN 'FOR EVERY INPUT', by the rows' own cells (each row's printed sentence says how): StateSame: laid · TargetLists: laid · TableAll: laid · TableDecks: laid · ShapeGrows: laid · TargetChecks: laid · TargetMore: laid · ShapeOf: laid · ShapePlain: laid · ShapeHas: laid · TableCards: laid · TableNames: laid.
  DERIVED. THE GIVEN ROWS OF THIS SEAT. 12 by the template 'for every input the law returns true; each argument reads behind the call as it read before'; 0 by the template 'total and deterministic' (their statements: YtelfhmeobfimiaaDoorTotals.lean).
  GIVEN WITH THE SEED: the statements are not yours to turn. If you find one false, say at which input.
  Laid BY PROGRAM, IN A SANDBOX (cutbox-rows.mjs): the forced cells as the released guide's own fill.sh prints them over the translation 8481f02036b4ef5c… (all of the seat's roots in one cut). By AI agents, Wed Nov 11 2026. No macro, syntax, notation, axiom, sorry.
-/
import Derived.Test.YtelfhmeobfimiaaDoorChecked
import GoSem.Claim
import GoSem.ClaimJoined
import GoSem.ClaimMapViews
import Derived.JoinedTies
import Derived.KernelRfl
namespace Go.Proofs.YtelfhmeobfimiaaDoor
/- THE CELL 'sum', in the pinned program and in every row, IS THE sha256 OF THE DUMP (.gsa) THAT YtelfhmeobfimiaaDoorProg.lean LOADS. Nothing in Lean hashes anything: it is a label: what it is worth is what the hold of that sum in a sandbox is worth. -/
noncomputable def Tryd.pinned : Pinned := { name := "ytelfhmeobfimiaadoor", sum := "8481f02036b4ef5c03c351ad5e49557256a575b9697132055f3ed46ee3a01775", checked := Tryd.checked }
namespace Rows
def none {H : Type} : Left H := { results := [], args := [] }

/- WHAT THE LISTED PACKAGE-LEVEL VARIABLES READ AS WHEN THE CALL BEGINS. Each datum BY PROGRAM (the guide's laid-datum.mjs) off the statement by which the dump's own 'gosem.cut.vars' lays the variable. In a bare row this is a premise. The card (YtelfhmeobfimiaaDoorCards.lean) ties it to the program's text. -/
def laid_mulligan_state_any {H : Type} : DataW H := .agg [.lit (.int .i64 (-1073741824)), .lit (.int .i64 1073741824)]
def laid_mulligan_state_flag {H : Type} : DataW H := .agg [.lit (.int .i64 0), .lit (.int .i64 1)]
def laid_mulligan_state_resting {H : Type} : DataW H := .agg [.lit (.int .i64 4), .lit (.int .i64 5), .lit (.int .i64 6), .lit (.int .i64 7), .lit (.int .i64 8), .lit (.int .i64 9), .lit (.int .i64 10), .lit (.int .i64 11), .lit (.int .i64 12)]
def laid_math_bits_deBruijn32tab {H : Type} : DataW H := .agg [.lit (.int .u8 0), .lit (.int .u8 1), .lit (.int .u8 28), .lit (.int .u8 2), .lit (.int .u8 29), .lit (.int .u8 14), .lit (.int .u8 24), .lit (.int .u8 3), .lit (.int .u8 30), .lit (.int .u8 22), .lit (.int .u8 20), .lit (.int .u8 15), .lit (.int .u8 25), .lit (.int .u8 17), .lit (.int .u8 4), .lit (.int .u8 8), .lit (.int .u8 31), .lit (.int .u8 27), .lit (.int .u8 13), .lit (.int .u8 23), .lit (.int .u8 21), .lit (.int .u8 19), .lit (.int .u8 16), .lit (.int .u8 7), .lit (.int .u8 26), .lit (.int .u8 12), .lit (.int .u8 18), .lit (.int .u8 6), .lit (.int .u8 11), .lit (.int .u8 5), .lit (.int .u8 10), .lit (.int .u8 9)]
def laid_math_bits_deBruijn64tab {H : Type} : DataW H := .agg [.lit (.int .u8 0), .lit (.int .u8 1), .lit (.int .u8 56), .lit (.int .u8 2), .lit (.int .u8 57), .lit (.int .u8 49), .lit (.int .u8 28), .lit (.int .u8 3), .lit (.int .u8 61), .lit (.int .u8 58), .lit (.int .u8 42), .lit (.int .u8 50), .lit (.int .u8 38), .lit (.int .u8 29), .lit (.int .u8 17), .lit (.int .u8 4), .lit (.int .u8 62), .lit (.int .u8 47), .lit (.int .u8 59), .lit (.int .u8 36), .lit (.int .u8 45), .lit (.int .u8 43), .lit (.int .u8 51), .lit (.int .u8 22), .lit (.int .u8 53), .lit (.int .u8 39), .lit (.int .u8 33), .lit (.int .u8 30), .lit (.int .u8 24), .lit (.int .u8 18), .lit (.int .u8 12), .lit (.int .u8 5), .lit (.int .u8 63), .lit (.int .u8 55), .lit (.int .u8 48), .lit (.int .u8 27), .lit (.int .u8 60), .lit (.int .u8 41), .lit (.int .u8 37), .lit (.int .u8 16), .lit (.int .u8 46), .lit (.int .u8 35), .lit (.int .u8 44), .lit (.int .u8 21), .lit (.int .u8 52), .lit (.int .u8 32), .lit (.int .u8 23), .lit (.int .u8 11), .lit (.int .u8 54), .lit (.int .u8 26), .lit (.int .u8 40), .lit (.int .u8 15), .lit (.int .u8 34), .lit (.int .u8 20), .lit (.int .u8 31), .lit (.int .u8 10), .lit (.int .u8 25), .lit (.int .u8 14), .lit (.int .u8 19), .lit (.int .u8 9), .lit (.int .u8 13), .lit (.int .u8 8), .lit (.int .u8 7), .lit (.int .u8 6)]
def laid_internal_strconv_uint64pow10 {H : Type} : DataW H := .agg [.lit (.int .u64 1), .lit (.int .u64 10), .lit (.int .u64 100), .lit (.int .u64 1000), .lit (.int .u64 10000), .lit (.int .u64 100000), .lit (.int .u64 1000000), .lit (.int .u64 10000000), .lit (.int .u64 100000000), .lit (.int .u64 1000000000), .lit (.int .u64 10000000000), .lit (.int .u64 100000000000), .lit (.int .u64 1000000000000), .lit (.int .u64 10000000000000), .lit (.int .u64 100000000000000), .lit (.int .u64 1000000000000000), .lit (.int .u64 10000000000000000), .lit (.int .u64 100000000000000000), .lit (.int .u64 1000000000000000000), .lit (.int .u64 10000000000000000000)]
def laid_strconv_ErrRange {H : Type} : DataW H := .iface "*errors.errorString" (.ptr (.agg [.lit (.string [118, 97, 108, 117, 101, 32, 111, 117, 116, 32, 111, 102, 32, 114, 97, 110, 103, 101])]))
def laid_strconv_ErrSyntax {H : Type} : DataW H := .iface "*errors.errorString" (.ptr (.agg [.lit (.string [105, 110, 118, 97, 108, 105, 100, 32, 115, 121, 110, 116, 97, 120])]))

/-- 'mulliganlaw10.StateSame': WHATEVER THE INPUT: true; the input reads as it did. -/
def stateSameSpec : ChangeSpec := { name := "stateSame", fn := fun _ => fun
  | [d1, d2] => { results := [.lit (.bool true)], args := [d1, d2] }
  | _ => none }
def stateSameRow : OpenClaim := { program := "ytelfhmeobfimiaadoor", sum := "8481f02036b4ef5c03c351ad5e49557256a575b9697132055f3ed46ee3a01775", func := "mulligan/mulliganlaw10.StateSame", spec := "stateSame", unfollowed := true, recurses := true, named := ["mulligan/state.flag", "mulligan/state.any", "mulligan/state.resting"], apart := false, laid := [("mulligan/state.any", laid_mulligan_state_any), ("mulligan/state.flag", laid_mulligan_state_flag), ("mulligan/state.resting", laid_mulligan_state_resting)] }
def StateSameSaid : Prop := stateSameRow.holds Tryd.pinned (OpenSpec.ofChange stateSameSpec)

/-- ITS FALSE NEIGHBOUR: 'it returns false'. Refute it at one input. -/
def stateSameWrong : ChangeSpec := { name := "stateSame", fn := fun _ => fun
  | [d1, d2] => { results := [.lit (.bool false)], args := [d1, d2] }
  | _ => none }
def StateSameWrongFalsely : Prop := stateSameRow.holds Tryd.pinned (OpenSpec.ofChange stateSameWrong)

/-- 'mulliganlaw18.TargetLists': WHATEVER THE INPUT: true; the input reads as it did. -/
def targetListsSpec : ChangeSpec := { name := "targetLists", fn := fun _ => fun
  | [d1, d2] => { results := [.lit (.bool true)], args := [d1, d2] }
  | _ => none }
def targetListsRow : OpenClaim := { program := "ytelfhmeobfimiaadoor", sum := "8481f02036b4ef5c03c351ad5e49557256a575b9697132055f3ed46ee3a01775", func := "mulligan/mulliganlaw18.TargetLists", spec := "targetLists", unfollowed := true, recurses := true, named := ["mulligan/state.flag", "mulligan/state.any", "mulligan/state.resting"], apart := false, laid := [("mulligan/state.any", laid_mulligan_state_any), ("mulligan/state.flag", laid_mulligan_state_flag), ("mulligan/state.resting", laid_mulligan_state_resting)] }
def TargetListsSaid : Prop := targetListsRow.holds Tryd.pinned (OpenSpec.ofChange targetListsSpec)

/-- ITS FALSE NEIGHBOUR: 'it returns false'. Refute it at one input. -/
def targetListsWrong : ChangeSpec := { name := "targetLists", fn := fun _ => fun
  | [d1, d2] => { results := [.lit (.bool false)], args := [d1, d2] }
  | _ => none }
def TargetListsWrongFalsely : Prop := targetListsRow.holds Tryd.pinned (OpenSpec.ofChange targetListsWrong)

/-- 'mulliganlaw08.TableAll': WHATEVER THE INPUT: true; the input reads as it did. -/
def tableAllSpec : ChangeSpec := { name := "tableAll", fn := fun _ => fun
  | [d] => { results := [.lit (.bool true)], args := [d] }
  | _ => none }
def tableAllRow : OpenClaim := { program := "ytelfhmeobfimiaadoor", sum := "8481f02036b4ef5c03c351ad5e49557256a575b9697132055f3ed46ee3a01775", func := "mulligan/mulliganlaw08.TableAll", spec := "tableAll", unfollowed := true, recurses := true, named := ["internal/strconv.uint64pow10", "math/bits.deBruijn32tab", "math/bits.deBruijn64tab"], apart := false, laid := [("math/bits.deBruijn32tab", laid_math_bits_deBruijn32tab), ("math/bits.deBruijn64tab", laid_math_bits_deBruijn64tab), ("internal/strconv.uint64pow10", laid_internal_strconv_uint64pow10)] }
def TableAllSaid : Prop := tableAllRow.holds Tryd.pinned (OpenSpec.ofChange tableAllSpec)

/-- ITS FALSE NEIGHBOUR: 'it returns false'. Refute it at one input. -/
def tableAllWrong : ChangeSpec := { name := "tableAll", fn := fun _ => fun
  | [d] => { results := [.lit (.bool false)], args := [d] }
  | _ => none }
def TableAllWrongFalsely : Prop := tableAllRow.holds Tryd.pinned (OpenSpec.ofChange tableAllWrong)

/-- 'mulliganlaw08.TableDecks': WHATEVER THE INPUT: true; the input reads as it did. -/
def tableDecksSpec : ChangeSpec := { name := "tableDecks", fn := fun _ => fun
  | [d] => { results := [.lit (.bool true)], args := [d] }
  | _ => none }
def tableDecksRow : OpenClaim := { program := "ytelfhmeobfimiaadoor", sum := "8481f02036b4ef5c03c351ad5e49557256a575b9697132055f3ed46ee3a01775", func := "mulligan/mulliganlaw08.TableDecks", spec := "tableDecks", named := ["internal/strconv.uint64pow10", "math/bits.deBruijn32tab", "math/bits.deBruijn64tab"], apart := false, laid := [("math/bits.deBruijn32tab", laid_math_bits_deBruijn32tab), ("math/bits.deBruijn64tab", laid_math_bits_deBruijn64tab), ("internal/strconv.uint64pow10", laid_internal_strconv_uint64pow10)] }
def TableDecksSaid : Prop := tableDecksRow.holds Tryd.pinned (OpenSpec.ofChange tableDecksSpec)

/-- ITS FALSE NEIGHBOUR: 'it returns false'. Refute it at one input. -/
def tableDecksWrong : ChangeSpec := { name := "tableDecks", fn := fun _ => fun
  | [d] => { results := [.lit (.bool false)], args := [d] }
  | _ => none }
def TableDecksWrongFalsely : Prop := tableDecksRow.holds Tryd.pinned (OpenSpec.ofChange tableDecksWrong)

/-- 'mulliganlaw17.ShapeGrows': WHATEVER THE INPUT: true; the input reads as it did. -/
def shapeGrowsSpec : ChangeSpec := { name := "shapeGrows", fn := fun _ => fun
  | [d1, d2] => { results := [.lit (.bool true)], args := [d1, d2] }
  | _ => none }
def shapeGrowsRow : OpenClaim := { program := "ytelfhmeobfimiaadoor", sum := "8481f02036b4ef5c03c351ad5e49557256a575b9697132055f3ed46ee3a01775", func := "mulligan/mulliganlaw17.ShapeGrows", spec := "shapeGrows", unfollowed := true, recurses := true, named := ["mulligan/state.flag", "mulligan/state.any", "mulligan/state.resting"], apart := false, laid := [("mulligan/state.any", laid_mulligan_state_any), ("mulligan/state.flag", laid_mulligan_state_flag), ("mulligan/state.resting", laid_mulligan_state_resting)] }
def ShapeGrowsSaid : Prop := shapeGrowsRow.holds Tryd.pinned (OpenSpec.ofChange shapeGrowsSpec)

/-- ITS FALSE NEIGHBOUR: 'it returns false'. Refute it at one input. -/
def shapeGrowsWrong : ChangeSpec := { name := "shapeGrows", fn := fun _ => fun
  | [d1, d2] => { results := [.lit (.bool false)], args := [d1, d2] }
  | _ => none }
def ShapeGrowsWrongFalsely : Prop := shapeGrowsRow.holds Tryd.pinned (OpenSpec.ofChange shapeGrowsWrong)

/-- 'mulliganlaw18.TargetChecks': WHATEVER THE INPUT: true; the input reads as it did. -/
def targetChecksSpec : ChangeSpec := { name := "targetChecks", fn := fun _ => fun
  | [d1, d2] => { results := [.lit (.bool true)], args := [d1, d2] }
  | _ => none }
def targetChecksRow : OpenClaim := { program := "ytelfhmeobfimiaadoor", sum := "8481f02036b4ef5c03c351ad5e49557256a575b9697132055f3ed46ee3a01775", func := "mulligan/mulliganlaw18.TargetChecks", spec := "targetChecks", unfollowed := true, recurses := true, named := ["mulligan/state.flag", "mulligan/state.any", "mulligan/state.resting"], apart := false, laid := [("mulligan/state.any", laid_mulligan_state_any), ("mulligan/state.flag", laid_mulligan_state_flag), ("mulligan/state.resting", laid_mulligan_state_resting)] }
def TargetChecksSaid : Prop := targetChecksRow.holds Tryd.pinned (OpenSpec.ofChange targetChecksSpec)

/-- ITS FALSE NEIGHBOUR: 'it returns false'. Refute it at one input. -/
def targetChecksWrong : ChangeSpec := { name := "targetChecks", fn := fun _ => fun
  | [d1, d2] => { results := [.lit (.bool false)], args := [d1, d2] }
  | _ => none }
def TargetChecksWrongFalsely : Prop := targetChecksRow.holds Tryd.pinned (OpenSpec.ofChange targetChecksWrong)

/-- 'mulliganlaw18.TargetMore': WHATEVER THE INPUT: true; the input reads as it did. -/
def targetMoreSpec : ChangeSpec := { name := "targetMore", fn := fun _ => fun
  | [d1, d2, d3] => { results := [.lit (.bool true)], args := [d1, d2, d3] }
  | _ => none }
def targetMoreRow : OpenClaim := { program := "ytelfhmeobfimiaadoor", sum := "8481f02036b4ef5c03c351ad5e49557256a575b9697132055f3ed46ee3a01775", func := "mulligan/mulliganlaw18.TargetMore", spec := "targetMore", unfollowed := true, recurses := true, named := ["mulligan/state.flag", "mulligan/state.any", "mulligan/state.resting"], apart := false, laid := [("mulligan/state.any", laid_mulligan_state_any), ("mulligan/state.flag", laid_mulligan_state_flag), ("mulligan/state.resting", laid_mulligan_state_resting)] }
def TargetMoreSaid : Prop := targetMoreRow.holds Tryd.pinned (OpenSpec.ofChange targetMoreSpec)

/-- ITS FALSE NEIGHBOUR: 'it returns false'. Refute it at one input. -/
def targetMoreWrong : ChangeSpec := { name := "targetMore", fn := fun _ => fun
  | [d1, d2, d3] => { results := [.lit (.bool false)], args := [d1, d2, d3] }
  | _ => none }
def TargetMoreWrongFalsely : Prop := targetMoreRow.holds Tryd.pinned (OpenSpec.ofChange targetMoreWrong)

/-- 'mulliganlaw17.ShapeOf': WHATEVER THE INPUT: true; the input reads as it did. -/
def shapeOfSpec : ChangeSpec := { name := "shapeOf", fn := fun _ => fun
  | [d1, d2] => { results := [.lit (.bool true)], args := [d1, d2] }
  | _ => none }
def shapeOfRow : OpenClaim := { program := "ytelfhmeobfimiaadoor", sum := "8481f02036b4ef5c03c351ad5e49557256a575b9697132055f3ed46ee3a01775", func := "mulligan/mulliganlaw17.ShapeOf", spec := "shapeOf", unfollowed := true, recurses := true, named := ["mulligan/state.flag", "mulligan/state.any", "mulligan/state.resting"], apart := false, laid := [("mulligan/state.any", laid_mulligan_state_any), ("mulligan/state.flag", laid_mulligan_state_flag), ("mulligan/state.resting", laid_mulligan_state_resting)] }
def ShapeOfSaid : Prop := shapeOfRow.holds Tryd.pinned (OpenSpec.ofChange shapeOfSpec)

/-- ITS FALSE NEIGHBOUR: 'it returns false'. Refute it at one input. -/
def shapeOfWrong : ChangeSpec := { name := "shapeOf", fn := fun _ => fun
  | [d1, d2] => { results := [.lit (.bool false)], args := [d1, d2] }
  | _ => none }
def ShapeOfWrongFalsely : Prop := shapeOfRow.holds Tryd.pinned (OpenSpec.ofChange shapeOfWrong)

/-- 'mulliganlaw17.ShapePlain': WHATEVER THE INPUT: true; the input reads as it did. -/
def shapePlainSpec : ChangeSpec := { name := "shapePlain", fn := fun _ => fun
  | [d] => { results := [.lit (.bool true)], args := [d] }
  | _ => none }
def shapePlainRow : OpenClaim := { program := "ytelfhmeobfimiaadoor", sum := "8481f02036b4ef5c03c351ad5e49557256a575b9697132055f3ed46ee3a01775", func := "mulligan/mulliganlaw17.ShapePlain", spec := "shapePlain", unfollowed := true, recurses := true, named := ["mulligan/state.flag", "mulligan/state.any", "mulligan/state.resting"], apart := false, laid := [("mulligan/state.any", laid_mulligan_state_any), ("mulligan/state.flag", laid_mulligan_state_flag), ("mulligan/state.resting", laid_mulligan_state_resting)] }
def ShapePlainSaid : Prop := shapePlainRow.holds Tryd.pinned (OpenSpec.ofChange shapePlainSpec)

/-- ITS FALSE NEIGHBOUR: 'it returns false'. Refute it at one input. -/
def shapePlainWrong : ChangeSpec := { name := "shapePlain", fn := fun _ => fun
  | [d] => { results := [.lit (.bool false)], args := [d] }
  | _ => none }
def ShapePlainWrongFalsely : Prop := shapePlainRow.holds Tryd.pinned (OpenSpec.ofChange shapePlainWrong)

/-- 'mulliganlaw17.ShapeHas': WHATEVER THE INPUT: true; the input reads as it did. -/
def shapeHasSpec : ChangeSpec := { name := "shapeHas", fn := fun _ => fun
  | [d1, d2, d3] => { results := [.lit (.bool true)], args := [d1, d2, d3] }
  | _ => none }
def shapeHasRow : OpenClaim := { program := "ytelfhmeobfimiaadoor", sum := "8481f02036b4ef5c03c351ad5e49557256a575b9697132055f3ed46ee3a01775", func := "mulligan/mulliganlaw17.ShapeHas", spec := "shapeHas", unfollowed := true, recurses := true, named := ["mulligan/state.flag", "mulligan/state.any", "mulligan/state.resting"], apart := false, laid := [("mulligan/state.any", laid_mulligan_state_any), ("mulligan/state.flag", laid_mulligan_state_flag), ("mulligan/state.resting", laid_mulligan_state_resting)] }
def ShapeHasSaid : Prop := shapeHasRow.holds Tryd.pinned (OpenSpec.ofChange shapeHasSpec)

/-- ITS FALSE NEIGHBOUR: 'it returns false'. Refute it at one input. -/
def shapeHasWrong : ChangeSpec := { name := "shapeHas", fn := fun _ => fun
  | [d1, d2, d3] => { results := [.lit (.bool false)], args := [d1, d2, d3] }
  | _ => none }
def ShapeHasWrongFalsely : Prop := shapeHasRow.holds Tryd.pinned (OpenSpec.ofChange shapeHasWrong)

/-- 'mulliganlaw08.TableCards': WHATEVER THE INPUT: true; the input reads as it did. -/
def tableCardsSpec : ChangeSpec := { name := "tableCards", fn := fun _ => fun
  | [d] => { results := [.lit (.bool true)], args := [d] }
  | _ => none }
def tableCardsRow : OpenClaim := { program := "ytelfhmeobfimiaadoor", sum := "8481f02036b4ef5c03c351ad5e49557256a575b9697132055f3ed46ee3a01775", func := "mulligan/mulliganlaw08.TableCards", spec := "tableCards", unfollowed := true, recurses := true, named := ["internal/strconv.uint64pow10", "math/bits.deBruijn32tab", "math/bits.deBruijn64tab"], apart := false, laid := [("math/bits.deBruijn32tab", laid_math_bits_deBruijn32tab), ("math/bits.deBruijn64tab", laid_math_bits_deBruijn64tab), ("internal/strconv.uint64pow10", laid_internal_strconv_uint64pow10)] }
def TableCardsSaid : Prop := tableCardsRow.holds Tryd.pinned (OpenSpec.ofChange tableCardsSpec)

/-- ITS FALSE NEIGHBOUR: 'it returns false'. Refute it at one input. -/
def tableCardsWrong : ChangeSpec := { name := "tableCards", fn := fun _ => fun
  | [d] => { results := [.lit (.bool false)], args := [d] }
  | _ => none }
def TableCardsWrongFalsely : Prop := tableCardsRow.holds Tryd.pinned (OpenSpec.ofChange tableCardsWrong)

/-- 'mulliganlaw08.TableNames': WHATEVER THE INPUT: true; the input reads as it did. -/
def tableNamesSpec : ChangeSpec := { name := "tableNames", fn := fun _ => fun
  | [d] => { results := [.lit (.bool true)], args := [d] }
  | _ => none }
def tableNamesRow : OpenClaim := { program := "ytelfhmeobfimiaadoor", sum := "8481f02036b4ef5c03c351ad5e49557256a575b9697132055f3ed46ee3a01775", func := "mulligan/mulliganlaw08.TableNames", spec := "tableNames", inPlace := ["internal/bytealg.IndexByteString", "internal/bytealg.IndexString"], recurses := true, named := ["internal/strconv.uint64pow10", "math/bits.deBruijn32tab", "math/bits.deBruijn64tab", "internal/bytealg.MaxLen", "strconv.ErrSyntax", "strconv.ErrRange"], apart := false, laid := [("math/bits.deBruijn32tab", laid_math_bits_deBruijn32tab), ("math/bits.deBruijn64tab", laid_math_bits_deBruijn64tab), ("internal/strconv.uint64pow10", laid_internal_strconv_uint64pow10), ("strconv.ErrRange", laid_strconv_ErrRange), ("strconv.ErrSyntax", laid_strconv_ErrSyntax)] }
def TableNamesSaid : Prop := tableNamesRow.holds Tryd.pinned (OpenSpec.ofChange tableNamesSpec)

/-- ITS FALSE NEIGHBOUR: 'it returns false'. Refute it at one input. -/
def tableNamesWrong : ChangeSpec := { name := "tableNames", fn := fun _ => fun
  | [d] => { results := [.lit (.bool false)], args := [d] }
  | _ => none }
def TableNamesWrongFalsely : Prop := tableNamesRow.holds Tryd.pinned (OpenSpec.ofChange tableNamesWrong)

/- THE SECOND FORM. 'bulk': how many values and letters a reading holds, each counted each time it is reached (what is shared counts as often as it is met; a slice's spare places count too). A statement '..UptoSaid' is the law's where the arguments, and the package variables that the reading takes, are together of bulk at most 1048576: NARROWER than '..Said'. Prove '..Said' where nothing that the law and all that it calls make is longer than what came in: it says more and counts as full. Else prove '..UptoSaid'. A law counts once. -/
mutual
def uptoBulk {H : Type} : DataW H → Nat
  | .lit (.string bytes) => bytes.length + 1
  | .lit _ => 1
  | .nil => 1
  | .ptr d => uptoBulk d + 1
  | .slice elems spare => uptoBulkAll elems + uptoBulkAll spare + 1
  | .agg parts => uptoBulkAll parts + 1
  | .iface _ d => uptoBulk d + 1
  | .map entries => uptoBulkEntries entries + 1
  | .held _ => 1
def uptoBulkAll {H : Type} : List (DataW H) → Nat
  | [] => 0
  | d :: r => uptoBulk d + uptoBulkAll r
def uptoBulkEntries {H : Type} : List (Lit × DataW H) → Nat
  | [] => 0
  | x :: r => uptoBulkEntry x + uptoBulkEntries r
def uptoBulkEntry {H : Type} : Lit × DataW H → Nat
  | (.string bytes, d) => bytes.length + uptoBulk d + 1
  | (_, d) => uptoBulk d + 1
 end
def uptoSmall : (H : Type) → List (DataW H) → Bool := fun _ ds => decide (uptoBulkAll ds ≤ 1048576)
def OpenSpec.upto (s : _root_.Go.ChangeSpec) : _root_.Go.OpenSpec := { _root_.Go.OpenSpec.ofChange s with cond := some uptoSmall }

/-- 'mulliganlaw10.StateSame', WHERE WHAT IT READS IS OF BULK AT MOST 1048576: true; the input reads as it did. -/
def stateSameUptoRow : OpenClaim := { program := "ytelfhmeobfimiaadoor", sum := "8481f02036b4ef5c03c351ad5e49557256a575b9697132055f3ed46ee3a01775", func := "mulligan/mulliganlaw10.StateSame", spec := "stateSame", unfollowed := true, recurses := true, named := ["mulligan/state.flag", "mulligan/state.any", "mulligan/state.resting"], apart := false, laid := [("mulligan/state.any", laid_mulligan_state_any), ("mulligan/state.flag", laid_mulligan_state_flag), ("mulligan/state.resting", laid_mulligan_state_resting)], narrowed := true }
def StateSameUptoSaid : Prop := stateSameUptoRow.holds Tryd.pinned (OpenSpec.upto stateSameSpec)

/-- 'mulliganlaw18.TargetLists', WHERE WHAT IT READS IS OF BULK AT MOST 1048576: true; the input reads as it did. -/
def targetListsUptoRow : OpenClaim := { program := "ytelfhmeobfimiaadoor", sum := "8481f02036b4ef5c03c351ad5e49557256a575b9697132055f3ed46ee3a01775", func := "mulligan/mulliganlaw18.TargetLists", spec := "targetLists", unfollowed := true, recurses := true, named := ["mulligan/state.flag", "mulligan/state.any", "mulligan/state.resting"], apart := false, laid := [("mulligan/state.any", laid_mulligan_state_any), ("mulligan/state.flag", laid_mulligan_state_flag), ("mulligan/state.resting", laid_mulligan_state_resting)], narrowed := true }
def TargetListsUptoSaid : Prop := targetListsUptoRow.holds Tryd.pinned (OpenSpec.upto targetListsSpec)

/-- 'mulliganlaw08.TableAll', WHERE WHAT IT READS IS OF BULK AT MOST 1048576: true; the input reads as it did. -/
def tableAllUptoRow : OpenClaim := { program := "ytelfhmeobfimiaadoor", sum := "8481f02036b4ef5c03c351ad5e49557256a575b9697132055f3ed46ee3a01775", func := "mulligan/mulliganlaw08.TableAll", spec := "tableAll", unfollowed := true, recurses := true, named := ["internal/strconv.uint64pow10", "math/bits.deBruijn32tab", "math/bits.deBruijn64tab"], apart := false, laid := [("math/bits.deBruijn32tab", laid_math_bits_deBruijn32tab), ("math/bits.deBruijn64tab", laid_math_bits_deBruijn64tab), ("internal/strconv.uint64pow10", laid_internal_strconv_uint64pow10)], narrowed := true }
def TableAllUptoSaid : Prop := tableAllUptoRow.holds Tryd.pinned (OpenSpec.upto tableAllSpec)

/-- 'mulliganlaw08.TableDecks', WHERE WHAT IT READS IS OF BULK AT MOST 1048576: true; the input reads as it did. -/
def tableDecksUptoRow : OpenClaim := { program := "ytelfhmeobfimiaadoor", sum := "8481f02036b4ef5c03c351ad5e49557256a575b9697132055f3ed46ee3a01775", func := "mulligan/mulliganlaw08.TableDecks", spec := "tableDecks", named := ["internal/strconv.uint64pow10", "math/bits.deBruijn32tab", "math/bits.deBruijn64tab"], apart := false, laid := [("math/bits.deBruijn32tab", laid_math_bits_deBruijn32tab), ("math/bits.deBruijn64tab", laid_math_bits_deBruijn64tab), ("internal/strconv.uint64pow10", laid_internal_strconv_uint64pow10)], narrowed := true }
def TableDecksUptoSaid : Prop := tableDecksUptoRow.holds Tryd.pinned (OpenSpec.upto tableDecksSpec)

/-- 'mulliganlaw17.ShapeGrows', WHERE WHAT IT READS IS OF BULK AT MOST 1048576: true; the input reads as it did. -/
def shapeGrowsUptoRow : OpenClaim := { program := "ytelfhmeobfimiaadoor", sum := "8481f02036b4ef5c03c351ad5e49557256a575b9697132055f3ed46ee3a01775", func := "mulligan/mulliganlaw17.ShapeGrows", spec := "shapeGrows", unfollowed := true, recurses := true, named := ["mulligan/state.flag", "mulligan/state.any", "mulligan/state.resting"], apart := false, laid := [("mulligan/state.any", laid_mulligan_state_any), ("mulligan/state.flag", laid_mulligan_state_flag), ("mulligan/state.resting", laid_mulligan_state_resting)], narrowed := true }
def ShapeGrowsUptoSaid : Prop := shapeGrowsUptoRow.holds Tryd.pinned (OpenSpec.upto shapeGrowsSpec)

/-- 'mulliganlaw18.TargetChecks', WHERE WHAT IT READS IS OF BULK AT MOST 1048576: true; the input reads as it did. -/
def targetChecksUptoRow : OpenClaim := { program := "ytelfhmeobfimiaadoor", sum := "8481f02036b4ef5c03c351ad5e49557256a575b9697132055f3ed46ee3a01775", func := "mulligan/mulliganlaw18.TargetChecks", spec := "targetChecks", unfollowed := true, recurses := true, named := ["mulligan/state.flag", "mulligan/state.any", "mulligan/state.resting"], apart := false, laid := [("mulligan/state.any", laid_mulligan_state_any), ("mulligan/state.flag", laid_mulligan_state_flag), ("mulligan/state.resting", laid_mulligan_state_resting)], narrowed := true }
def TargetChecksUptoSaid : Prop := targetChecksUptoRow.holds Tryd.pinned (OpenSpec.upto targetChecksSpec)

/-- 'mulliganlaw18.TargetMore', WHERE WHAT IT READS IS OF BULK AT MOST 1048576: true; the input reads as it did. -/
def targetMoreUptoRow : OpenClaim := { program := "ytelfhmeobfimiaadoor", sum := "8481f02036b4ef5c03c351ad5e49557256a575b9697132055f3ed46ee3a01775", func := "mulligan/mulliganlaw18.TargetMore", spec := "targetMore", unfollowed := true, recurses := true, named := ["mulligan/state.flag", "mulligan/state.any", "mulligan/state.resting"], apart := false, laid := [("mulligan/state.any", laid_mulligan_state_any), ("mulligan/state.flag", laid_mulligan_state_flag), ("mulligan/state.resting", laid_mulligan_state_resting)], narrowed := true }
def TargetMoreUptoSaid : Prop := targetMoreUptoRow.holds Tryd.pinned (OpenSpec.upto targetMoreSpec)

/-- 'mulliganlaw17.ShapeOf', WHERE WHAT IT READS IS OF BULK AT MOST 1048576: true; the input reads as it did. -/
def shapeOfUptoRow : OpenClaim := { program := "ytelfhmeobfimiaadoor", sum := "8481f02036b4ef5c03c351ad5e49557256a575b9697132055f3ed46ee3a01775", func := "mulligan/mulliganlaw17.ShapeOf", spec := "shapeOf", unfollowed := true, recurses := true, named := ["mulligan/state.flag", "mulligan/state.any", "mulligan/state.resting"], apart := false, laid := [("mulligan/state.any", laid_mulligan_state_any), ("mulligan/state.flag", laid_mulligan_state_flag), ("mulligan/state.resting", laid_mulligan_state_resting)], narrowed := true }
def ShapeOfUptoSaid : Prop := shapeOfUptoRow.holds Tryd.pinned (OpenSpec.upto shapeOfSpec)

/-- 'mulliganlaw17.ShapePlain', WHERE WHAT IT READS IS OF BULK AT MOST 1048576: true; the input reads as it did. -/
def shapePlainUptoRow : OpenClaim := { program := "ytelfhmeobfimiaadoor", sum := "8481f02036b4ef5c03c351ad5e49557256a575b9697132055f3ed46ee3a01775", func := "mulligan/mulliganlaw17.ShapePlain", spec := "shapePlain", unfollowed := true, recurses := true, named := ["mulligan/state.flag", "mulligan/state.any", "mulligan/state.resting"], apart := false, laid := [("mulligan/state.any", laid_mulligan_state_any), ("mulligan/state.flag", laid_mulligan_state_flag), ("mulligan/state.resting", laid_mulligan_state_resting)], narrowed := true }
def ShapePlainUptoSaid : Prop := shapePlainUptoRow.holds Tryd.pinned (OpenSpec.upto shapePlainSpec)

/-- 'mulliganlaw17.ShapeHas', WHERE WHAT IT READS IS OF BULK AT MOST 1048576: true; the input reads as it did. -/
def shapeHasUptoRow : OpenClaim := { program := "ytelfhmeobfimiaadoor", sum := "8481f02036b4ef5c03c351ad5e49557256a575b9697132055f3ed46ee3a01775", func := "mulligan/mulliganlaw17.ShapeHas", spec := "shapeHas", unfollowed := true, recurses := true, named := ["mulligan/state.flag", "mulligan/state.any", "mulligan/state.resting"], apart := false, laid := [("mulligan/state.any", laid_mulligan_state_any), ("mulligan/state.flag", laid_mulligan_state_flag), ("mulligan/state.resting", laid_mulligan_state_resting)], narrowed := true }
def ShapeHasUptoSaid : Prop := shapeHasUptoRow.holds Tryd.pinned (OpenSpec.upto shapeHasSpec)

/-- 'mulliganlaw08.TableCards', WHERE WHAT IT READS IS OF BULK AT MOST 1048576: true; the input reads as it did. -/
def tableCardsUptoRow : OpenClaim := { program := "ytelfhmeobfimiaadoor", sum := "8481f02036b4ef5c03c351ad5e49557256a575b9697132055f3ed46ee3a01775", func := "mulligan/mulliganlaw08.TableCards", spec := "tableCards", unfollowed := true, recurses := true, named := ["internal/strconv.uint64pow10", "math/bits.deBruijn32tab", "math/bits.deBruijn64tab"], apart := false, laid := [("math/bits.deBruijn32tab", laid_math_bits_deBruijn32tab), ("math/bits.deBruijn64tab", laid_math_bits_deBruijn64tab), ("internal/strconv.uint64pow10", laid_internal_strconv_uint64pow10)], narrowed := true }
def TableCardsUptoSaid : Prop := tableCardsUptoRow.holds Tryd.pinned (OpenSpec.upto tableCardsSpec)

/-- 'mulliganlaw08.TableNames', WHERE WHAT IT READS IS OF BULK AT MOST 1048576: true; the input reads as it did. -/
def tableNamesUptoRow : OpenClaim := { program := "ytelfhmeobfimiaadoor", sum := "8481f02036b4ef5c03c351ad5e49557256a575b9697132055f3ed46ee3a01775", func := "mulligan/mulliganlaw08.TableNames", spec := "tableNames", inPlace := ["internal/bytealg.IndexByteString", "internal/bytealg.IndexString"], recurses := true, named := ["internal/strconv.uint64pow10", "math/bits.deBruijn32tab", "math/bits.deBruijn64tab", "internal/bytealg.MaxLen", "strconv.ErrSyntax", "strconv.ErrRange"], apart := false, laid := [("math/bits.deBruijn32tab", laid_math_bits_deBruijn32tab), ("math/bits.deBruijn64tab", laid_math_bits_deBruijn64tab), ("internal/strconv.uint64pow10", laid_internal_strconv_uint64pow10), ("strconv.ErrRange", laid_strconv_ErrRange), ("strconv.ErrSyntax", laid_strconv_ErrSyntax)], narrowed := true }
def TableNamesUptoSaid : Prop := tableNamesUptoRow.holds Tryd.pinned (OpenSpec.upto tableNamesSpec)

end Rows
end Go.Proofs.YtelfhmeobfimiaaDoor
