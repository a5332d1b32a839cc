import Derived.Test.YtcigbgpdikadpaaDoorM6

set_option linter.unusedVariables false
set_option linter.unusedSimpArgs false

section
namespace Go.Proofs.YtcigbgpdikadpaaDoor
open Go.RowKit
set_option linter.unusedVariables false

/-- a cell of an argument: a value, or a pointer into one of the blocks that are handed over -/
inductive PC where
  | v (s : Srt)
  | b (k off : Nat)
/-- a cell of a block that is handed over: a value, a slice of the call's own, a pointer to another such block -/
inductive Cel where
  | v (s : Srt)
  | own (r : Nat)
  | b (k : Nat)
structure Sig where
  params : List (Bool × List Srt)
  res : List (Bool × List Srt)
  own : Bool
  unr : Bool
  mrg : Bool
  lend : Bool
  lit : Bool
  ins : List (Bool × List PC) := []
  blks : List (Nat × List Cel) := []
  pan : Option Nat := none
def Sig.isP (s : Sig) : Bool := !s.blks.isEmpty || s.pan.isSome
structure DI where
  m0 : Nat
  M : List Nat
  D : List Nat
  hoist : Bool
inductive K where
  | code (c : Code)
  | blk (id : Nat)
  | again (lvl : Nat) (H : St) (n m : Nat) (srcs : List Src) (ss : List Srt)
  | inl (b : Code)
  | ops (l os : List Oper)
  | drw (d : DI) (fuel : Nat) (listed : List Bool) (os : List Oper)
  | ev (d : DI) (fuel : Nat) (listed : List Bool) (os : List Oper) (l : List Nat)
  | fin
  | back (sl : List AV) (dst : Option Nat) (res : List ResultVar)
  | rgn (sl : List AV) (dst : Option Nat) (res : List ResultVar) (d : DI) (fuel : Nat) (listed : List Bool) (os : List Oper)

def exitK (id : Nat) : List K → Option (List K)
  | .blk id' :: k => if id' = id then some k else exitK id k
  | .code _ :: k => exitK id k
  | .again _ _ _ _ _ _ :: k => exitK id k
  | .inl _ :: k => exitK id k
  | _ => none
def retK : List K → Option (List K)
  | .fin :: k => some (.fin :: k)
  | .back a b c :: k => some (.back a b c :: k)
  | .rgn a b c d e f g :: k => some (.rgn a b c d e f g :: k)
  | .blk _ :: k => retK k
  | .code _ :: k => retK k
  | .again _ _ _ _ _ _ :: k => retK k
  | .inl _ :: k => retK k
  | _ => none

def isB : Tm → Bool
  | .bool _ | .cmp _ _ _ | .not _ | .beq _ _ | .and _ _ | .or _ _ | .isnil _ | .seq _ _ => true
  | _ => false
/-- what a test tells -/
def splitK : Tm → Bool → List (Tm × Bool)
  | .and a b, true => (.and a b, true) :: (splitK a true ++ splitK b true)
  | .or a b, false => (.or a b, false) :: if isB a && isB b then splitK a false ++ splitK b false else []
  | .not a, v => (.not a, v) :: if isB a then splitK a (!v) else []
  | t, v => [(t, v)]
def St.know (S : St) (t : Tm) (b : Bool) : St := { S with known := splitK t b ++ S.known }

/-- the terms of an argument -/
def tmsS : List Srt → List C → Option (List Tm)
  | [], [] => some []
  | s :: ss, .p (.tm t s') :: l => if s = s' ∧ s.one = true then (tmsS ss l).map (t :: ·) else none
  | .list r :: ss, .p .nils :: l => (tmsS ss l).map (.nil r :: ·)
  | _, _ => none
def argOf (ag : Bool) (ss : List Srt) : AV → Option (List Tm)
  | .v (.agg l) => if ag then tmsS ss l else none
  | .v (.c c) => if ag || ss.length != 1 then none else tmsS ss [c]
  | .tup _ => none
def argTms : List (Bool × List Srt) → List AV → Option (List Tm)
  | [], [] => some []
  | (ag, ss) :: ps, x :: xs => (argOf ag ss x).bind fun ts => (argTms ps xs).map (ts ++ ·)
  | _, _ => none
def varsC : List Srt → Nat → List C
  | [], _ => []
  | s :: ss, n => .p (.tm (.var n) s) :: varsC ss (n + 1)
def resA : List (Bool × List Srt) → Nat → List A1
  | [], _ => []
  | (ag, ss) :: l, n => (if ag then .agg (varsC ss n) else .c ((varsC ss n).headD .unk)) :: resA l (n + ss.length)
def retAV : List A1 → AV
  | [x] => .v x
  | l => .tup l
def groupV : List (Bool × List Srt) → List Dat → List Value
  | [], _ => []
  | (ag, ss) :: l, ds => (if ag then .agg ((ds.take ss.length).map Dat.toV).toArray else (ds.headD (.bool false)).toV) :: groupV l (ds.drop ss.length)
def retV : List Value → Value
  | [v] => v
  | l => .tuple l.toArray

def ownC : C → Option Nat
  | .p (.own j) => some j
  | _ => none
def firstOwnC : List C → Option Nat
  | [] => none
  | c :: l => match ownC c with
    | some j => some j
    | none => firstOwnC l
def firstOwn : List AV → Option Nat
  | [] => none
  | .v (.c c) :: l => match ownC c with
    | some j => some j
    | none => firstOwn l
  | .v (.agg cs) :: l => match firstOwnC cs with
    | some j => some j
    | none => firstOwn l
  | .tup _ :: l => firstOwn l
def replC (j : Nat) (x : CP) (c : C) : C := match c with
  | .p (.own i) => if i = j then .p x else c
  | _ => c
def replA1 (j : Nat) (x : CP) : A1 → A1
  | .c c => .c (replC j x c)
  | .agg l => .agg (l.map (replC j x))
def replA (j : Nat) (x : CP) : AV → AV
  | .v y => .v (replA1 j x y)
  | .tup l => .tup (l.map (replA1 j x))
def replO (j : Nat) (x : CP) : Ob → Ob
  | .blk cs ty => .blk (cs.map (replC j x)) ty
  | o => o
def St.share (S : St) (j r : Nat) : St :=
  { S with slots := S.slots.map (replA j (.tm (.var S.n) (.list r))), objs := (S.objs.set j .dead).map (replO j (.tm (.var S.n) (.list r))), n := S.n + 1 }

/-- a result as it lies in the frame -/
def resOf (X : Ctx) (S : St) : ResultVar → Option A1
  | .tmp t => match S.slots[t]? with
    | some (.v y) => some y
    | _ => none
  | .cell a ty => match (S.slots[a]?).bind fun x => qLoad X S.objs ty x with
    | some (.v y, []) => some y
    | _ => none
def resAll (X : Ctx) (S : St) (l : List ResultVar) : Option (List A1) := allSome (l.map (resOf X S))

/-- slots that a code writes -/
def writes : Code → List Nat
  | .region _ ops _ => ops.toList.filterMap (·.dst)
  | .seq a b => writes a ++ writes b
  | .cond _ a b => writes a ++ writes b
  | .block _ b => writes b
  | .loop b => writes b
  | .scope b => writes b
  | _ => []
def opsOf : Code → List Oper
  | .region _ ops _ => ops.toList
  | .seq a b => opsOf a ++ opsOf b
  | .cond _ a b => opsOf a ++ opsOf b
  | .block _ b => opsOf b
  | .loop b => opsOf b
  | .scope b => opsOf b
  | _ => []
/-- from which slot an address comes -/
def rootOf (os : List Oper) : Nat → Operand → Option Nat
  | 0, _ => none
  | n + 1, .tmp t => match os.find? (fun o => o.dst == some t) with
    | some o => match o.op with
      | .fieldAddr _ x _ => rootOf os n x
      | .indexAddr _ x _ => rootOf os n x
      | .move x => rootOf os n x
      | _ => some t
    | none => some t
  | _, _ => none
def storeRoots (os : List Oper) : List Nat := os.filterMap fun o => match o.op with
  | .store _ x _ => rootOf os 20 x
  | _ => none
/-- the elements' type of a slice that lies at a cell -/
def elemAt (P : Program) : Nat → TypeId → Nat → Option TypeId
  | 0, _, _ => none
  | d + 1, t, c => match P.underlying t with
    | some (.slice e) => if c = 0 then some e else none
    | some (.array _ e) => match szT P e with
      | some (k + 1) => elemAt P d e (c % (k + 1))
      | _ => none
    | some (.struct fs) => (fs.toList.find? fun f => decide (f.offset ≤ c) && (match szT P f.type with
        | some n => decide (c < f.offset + n)
        | none => false)).bind fun f => elemAt P d f.type (c - f.offset)
    | _ => none
/-- which cells of which object an address may mean -/
def slotRng (S : St) (len : Nat) (t : Nat) : Option (Nat × Nat × Nat) := match S.slots[t]? with
  | some (.v (.c (.p (.ref (.ob j) off [])))) => some (j, off, len)
  | some (.v (.c (.p (.ref (.ob j) _ _)))) => some (j, 0, 100000)
  | some (.v (.c (.p (.sb (.ob j) _ _ _)))) => some (j, 0, 100000)
  | some (.v (.c (.p (.own j)))) => some (j, 0, 100000)
  | _ => none
/-- an index that is known: it lies in a slot that the loop doesn't write -/
def idxK (S : St) (os : List Oper) (W : List Nat) : Nat → Operand → Option Nat
  | 0, _ => none
  | n + 1, .tmp t => match os.find? (fun o => o.dst == some t) with
    | some o => match o.op with
      | .move x => idxK S os W n x
      | _ => none
    | none => if W.contains t then none else match S.slots[t]? with
      | some (.v (.c (.p (.tm u _)))) => (litI u).map Int.toNat
      | _ => none
  | _, _ => none
def rngOf (X : Ctx) (S : St) (os : List Oper) (W : List Nat) : Nat → Nat → Operand → Option (Nat × Nat × Nat)
  | 0, _, _ => none
  | n + 1, len, .tmp t => match os.find? (fun o => o.dst == some t) with
    | some o => match o.op with
      | .fieldAddr ty x k => match X.P.underlying ty with
        | some (.struct fs) => match fs[k]? with
          | some f => (rngOf X S os W n 0 x).map fun r => if r.2.2 = 100000 then r else (r.1, r.2.1 + f.offset, (szT X.P f.type).getD 0)
          | none => none
        | _ => none
      | .indexAddr ty x ix => match X.P.underlying ty with
        | some (.array _ e) => (rngOf X S os W n 0 x).map fun r => if r.2.2 = 100000 then r else match idxK S os W 5 ix, szT X.P e with
          | some k, some z => (r.1, r.2.1 + k * z, z)
          | _, _ => (r.1, r.2.1, (szT X.P ty).getD 0)
        | _ => (rngOf X S os W n 0 x).map fun r => (r.1, 0, 100000)
      | .slice _ x _ _ _ => (rngOf X S os W n 0 x).map fun r => (r.1, 0, 100000)
      | .move x => rngOf X S os W n len x
      | .nilCheck x => rngOf X S os W n len x
      | .load ty x => match X.P.underlying ty with
        | some (.slice _) => (rngOf X S os W n 0 x).bind fun r => match S.objs[r.1]? with
          | some (.blk cs _) => (match cs[r.2.1]? with
            | some (.p (.own q)) => some (q, 0, 100000)
            | _ => none)
          | _ => none
        | _ => if W.contains t then none else slotRng S len t
      | _ => if W.contains t then none else slotRng S len t
    | none => slotRng S len t
  | _, _, _ => none
def capRng : List CP → List (Nat × Nat × Nat)
  | [] => []
  | .ref (.ob j) _ _ :: l => (j, 0, 100000) :: capRng l
  | .sb (.ob j) _ _ _ :: l => (j, 0, 100000) :: capRng l
  | _ :: l => capRng l
def fnRng (S : St) : Operand → List (Nat × Nat × Nat)
  | .tmp t => match S.slots[t]? with
    | some (.v (.c (.fn _ caps))) => capRng caps
    | _ => []
  | _ => []
/-- what a loop's operations may write -/
def rngs (X : Ctx) (S : St) (os : List Oper) (W : List Nat) : List (Nat × Nat × Nat) := os.flatMap fun o => match o.op with
  | .store ty x _ => (rngOf X S os W 20 ((szT X.P ty).getD 0) x).toList
  | .call c => match c.callee with
    | .builtin _ => []
    | _ => c.operands.toList.flatMap fun x => fnRng S x ++ (rngOf X S os W 20 100000 x).toList
  | _ => []
def inR (R : List (Nat × Nat × Nat)) (j c : Nat) : Bool := R.any fun r => r.1 == j && (decide (r.2.1 ≤ c) && decide (c < r.2.1 + r.2.2))
def hvCs (os : List Ob) (ow : Bool) (q : Nat → Bool) (mk mo : Nat → Src) : List C → Nat → Nat → Nat → List C × List Src × List Nat × List Ob
  | [], _, _, _ => ([], [], [], [])
  | x :: l, c, n, m => if q c then (match x with
      | .p (.tm _ s) => let r := hvCs os ow q mk mo l (c + 1) (n + 1) m; (.p (.tm (.var n) s) :: r.1, mk c :: r.2.1, r.2.2.1, r.2.2.2)
      | .p (.own j) => if ow then (match os[j]? with
          | some (.own k _) => let r := hvCs os ow q mk mo l (c + 1) (n + 1) (m + 1); (.p (.own m) :: r.1, mo c :: r.2.1, j :: r.2.2.1, .own k (.var n) :: r.2.2.2)
          | _ => let r := hvCs os ow q mk mo l (c + 1) n m; (.unk :: r.1, r.2.1, r.2.2.1, r.2.2.2)) else let r := hvCs os ow q mk mo l (c + 1) n m; (.unk :: r.1, r.2.1, r.2.2.1, r.2.2.2)
      | x => let r := hvCs os ow q mk mo l (c + 1) n m; (x :: r.1, r.2.1, r.2.2.1, r.2.2.2)) else let r := hvCs os ow q mk mo l (c + 1) n m; (x :: r.1, r.2.1, r.2.2.1, r.2.2.2)
/-- does a slice of the call's own lie at a cell? -/
def inCell (j : Nat) (os : List Ob) : Bool := os.any fun o => match o with
  | .blk cs _ => cs.any fun c => match c with
    | .p (.own k) => k == j
    | _ => false
  | _ => false
/-- slots at a loop's head: what is written there is any -/
def hvSlots (W : List Nat) (S : St) : List AV → Nat → Nat → Nat → List AV × List Src × List Nat × List Ob
  | [], _, _, _ => ([], [], [], [])
  | x :: l, i, n, m => if W.contains i then (match x with
      | .v (.c (.p (.tm _ s))) => let r := hvSlots W S l (i + 1) (n + 1) m; (.v (.c (.p (.tm (.var n) s))) :: r.1, .sl i :: r.2.1, r.2.2.1, r.2.2.2)
      | .v (.c (.p (.own j))) => (match (if inCell j S.objs then none else S.objs[j]?) with
        | some (.own k _) => let r := hvSlots W S l (i + 1) (n + 1) (m + 1); (.v (.c (.p (.own m))) :: r.1, .ow i :: r.2.1, j :: r.2.2.1, .own k (.var n) :: r.2.2.2)
        | _ => let r := hvSlots W S l (i + 1) n m; (.v (.c .unk) :: r.1, r.2.1, r.2.2.1, r.2.2.2))
      | .v (.agg cs) => let h := hvCs S.objs false (fun _ => true) (.sc i) (.sc i) cs 0 n m; let r := hvSlots W S l (i + 1) (n + h.2.1.length) m; (.v (.agg h.1) :: r.1, h.2.1 ++ r.2.1, r.2.2.1, r.2.2.2)
      | _ => let r := hvSlots W S l (i + 1) n m; (.v (.c .unk) :: r.1, r.2.1, r.2.2.1, r.2.2.2))
    else let r := hvSlots W S l (i + 1) n m; (x :: r.1, r.2.1, r.2.2.1, r.2.2.2)
/-- blocks -/
def hvBlks (os : List Ob) (R : List (Nat × Nat × Nat)) : List Ob → Nat → Nat → Nat → List Ob × List Src × List Nat × List Ob
  | [], _, _, _ => ([], [], [], [])
  | .blk cs ty :: l, j, n, m => let h := hvCs os true (inR R j) (.ob j) (.bo j) cs 0 n m
    let r := hvBlks os R l (j + 1) (n + h.2.1.length) (m + h.2.2.1.length); (.blk h.1 ty :: r.1, h.2.1 ++ r.2.1, h.2.2.1 ++ r.2.2.1, h.2.2.2 ++ r.2.2.2)
  | o :: l, j, n, m => let r := hvBlks os R l (j + 1) n m; (o :: r.1, r.2.1, r.2.2.1, r.2.2.2)
/-- slices of the call's own that are written in place; and those that are handed to the loop -/
def hvOwns (R : List (Nat × Nat × Nat)) (dead : List Nat) : List Ob → Nat → Nat → List Ob × List Src
  | [], _, _ => ([], [])
  | o :: l, j, n => if dead.contains j then let r := hvOwns R dead l (j + 1) n; (.dead :: r.1, r.2)
    else match o with
      | .own q _ => if R.any (fun r => r.1 == j) then let r := hvOwns R dead l (j + 1) (n + 1); (.own q (.var n) :: r.1, .oc j :: r.2) else let r := hvOwns R dead l (j + 1) n; (o :: r.1, r.2)
      | _ => let r := hvOwns R dead l (j + 1) n; (o :: r.1, r.2)
def mkHead (X : Ctx) (S : St) (b : Code) : St × List Src :=
  let os := opsOf b
  let W := writes b
  let R := rngs X S os W
  let h := hvSlots W S S.slots 0 S.n S.objs.length
  let g := hvBlks S.objs R S.objs 0 (S.n + h.2.1.length) (S.objs.length + h.2.2.1.length)
  let f := hvOwns R (h.2.2.1 ++ g.2.2.1) g.1 0 (S.n + h.2.1.length + g.2.1.length)
  ({ slots := h.1, objs := f.1 ++ h.2.2.2 ++ g.2.2.2, n := S.n + h.2.1.length + g.2.1.length + f.2.length, known := S.known.filter fun x => x.1.bnd S.n }, h.2.1 ++ g.2.1 ++ f.2)
/-- a slice that is nil, as one of the call's own, or as one that is read -/
def St.fixNil (S : St) (j c e : Nat) (own : Bool) : St := match S.objs[j]? with
  | some (.blk cs ty) => match cs[c]? with
    | some (.p .nils) => if own then { S with objs := S.objs.set j (.blk (cs.set c (.p (.own S.objs.length))) ty) ++ [.own e .emp] } else { S with objs := S.objs.set j (.blk (cs.set c (.p (.tm (.nil e) (.list e)))) ty) }
    | _ => S
  | _ => S
def St.slotNil (S : St) (t e : Nat) : St := match S.slots[t]? with
  | some (.v (.c (.p .nils))) => { S with slots := S.slots.set t (.v (.c (.p (.own S.objs.length)))), objs := S.objs ++ [.own e .emp] }
  | _ => S
def appTypes (P : Program) (os : List Oper) : List TypeId := os.filterMap fun o => match o.op with
  | .call c => match c.callee, c.argTypes.toList with
    | .builtin .append, t :: _ => match P.underlying t with
      | some (.slice e) => some e
      | _ => none
    | _, _ => none
  | _ => none
def nilCell (P : Program) (R : List (Nat × Nat × Nat)) (j ty : Nat) : List C → Nat → Option (Nat × TypeId)
  | [], _ => none
  | .p .nils :: l, c => if inR R j c then (match elemAt P 8 ty c with
      | some e => some (c, e)
      | none => nilCell P R j ty l (c + 1)) else nilCell P R j ty l (c + 1)
  | _ :: l, c => nilCell P R j ty l (c + 1)
def nilObj (P : Program) (R : List (Nat × Nat × Nat)) (es : List TypeId) : List Ob → Nat → Option (Nat × Nat × TypeId × Bool)
  | [], _ => none
  | .blk cs ty :: l, j => match nilCell P R j ty cs 0 with
    | some (c, e) => some (j, c, e, es.contains e)
    | none => nilObj P R es l (j + 1)
  | _ :: l, j => nilObj P R es l (j + 1)
def nilFix (X : Ctx) (S : St) (b : Code) : Option (Nat × Nat × TypeId × Bool) :=
  let os := opsOf b
  nilObj X.P (rngs X S os (writes b)) (appTypes X.P os) S.objs 0
def nilArg (P : Program) (S : St) (o : Oper) : Option (Nat × TypeId) := match o.op with
  | .call c => match c.callee, c.args.toList, c.argTypes.toList with
    | .builtin .append, .tmp t :: _, ty :: _ => match S.slots[t]?, P.underlying ty with
      | some (.v (.c (.p .nils))), some (.slice e) => some (t, e)
      | _, _ => none
    | _, _, _ => none
  | _ => none
def srcTms (S : St) (srcs : List Src) : Option (List (Tm × Srt)) := allSome (srcs.map (getSrc S))

inductive Gd where
  | yes
  | no
  | ask (t : Tm)
  | bad
def guardOf (S : St) (os : List Oper) (o : Oper) : Gd := match o.guard with
  | none => .yes
  | some (j, want) => match (os[j]?).bind (·.dst) with
    | some d => match S.slots[d]? with
      | some (.v (.c .undef)) => .no
      | some (.v (.c (.p (.tm t .bool)))) => match knows S.known t with
        | some b => if b = want then .yes else .no
        | none => .ask t
      | _ => .bad
    | none => .bad
def idxs (f : Ob → Bool) : List Ob → Nat → List Nat
  | [], _ => []
  | o :: l, j => if f o then j :: idxs f l (j + 1) else idxs f l (j + 1)
def isOwn : Ob → Bool
  | .own _ _ => true
  | _ => false
def isBlk : Ob → Bool
  | .blk _ _ => true
  | _ => false
def isFr : Ob → Bool
  | .fr => true
  | _ => false
def isDeadO : Ob → Bool
  | .dead => true
  | _ => false
/-- what a region that draws its order may write -/
def regInfo (P : Program) (S : St) (ops : List Oper) : DI :=
  let ts := storeRoots ops
  let known : List Nat := ts.filterMap fun (t : Nat) => match (S.slots[t]? : Option AV) with
    | some (.v (.c (.p (.ref (.ob j) _ _)))) => some j
    | _ => none
  let odd : Bool := ts.any fun (t : Nat) => match (S.slots[t]? : Option AV) with
    | some (.v (.c (.p (.ref (.ob _) _ _)))) => false
    | some (.v (.c (.p (.own _)))) => false
    | _ => !(ops.any fun o => o.dst == some t && (match o.op with
      | .alloc _ => true
      | .box _ _ => true
      | .load ty _ => (match P.underlying ty with
        | some (.slice _) => true
        | _ => false)
      | _ => false))
  let bs := if odd then idxs isBlk S.objs 0 else known.filter fun j => (idxs isBlk S.objs 0).contains j
  { m0 := S.objs.length, M := idxs isOwn S.objs 0 ++ idxs isFr S.objs 0 ++ bs, D := idxs isDeadO S.objs 0, hoist := true }
/-- the place of an element of a slice of the call's own: no memory is looked at -/
def idxOwn (X : Ctx) (S : St) (o : Oper) : Option (AV × List Tm) := match o.op with
  | .indexAddr t x i => match opd S.slots x with
    | .v (.c (.p (.own j))) => qIndexAddr X S.objs t (.v (.c (.p (.own j)))) (opd S.slots i)
    | _ => none
  | _ => none
/-- what hangs on the slots alone -/
def slotQ (X : Ctx) (S : St) (o : Oper) : Option (AV × List Tm) := match o.op with
  | .move x => some (opd S.slots x, [])
  | .fieldAddr t x k => qFieldAddr X.P t (opd S.slots x) k
  | _ => none
def pickD (X : Ctx) (S : St) (d : DI) (os : List Oper) (listed : Array Bool) : List Nat → Option (Nat × Option (AV × List Tm))
  | [] => none
  | i :: l => match os[i]? with
    | some o => if Region.free .any os.toArray listed i then (match guardOf S os o with
        | .no => some (i, none)
        | .yes => (match (if d.hoist && plainOp o.op then evalQ X S.slots (maskO d.m0 d.M S.objs 0) S.known o else none) with
          | some r => some (i, some r)
          | none => match idxOwn X S o with
            | some r => some (i, some r)
            | none => match (if d.hoist then none else slotQ X S o) with
              | some r => some (i, some r)
              | none => pickD X S d os listed l)
        | _ => pickD X S d os listed l) else pickD X S d os listed l
    | none => pickD X S d os listed l
def askD (S : St) (os : List Oper) : List Nat → Option Tm
  | [] => none
  | i :: l => match os[i]? with
    | some o => (match guardOf S os o with
      | .ask t => some t
      | _ => askD S os l)
    | none => askD S os l
def mayW (d : DI) (j : Nat) : Bool := decide (d.m0 ≤ j) || d.M.contains j
def hoistOk (S : St) (d : DI) : Bool := d.hoist && ((d.D.all fun j => isDead S.objs[j]?) && (List.range S.objs.length).all fun j => mayW d j || (S.objs[j]?).all fun o => !isFr o)
def okTgt (d : DI) : Option Nat → Bool
  | some j => mayW d j
  | none => true
def scal : Srt → Bool
  | .list _ => false
  | .rows _ => false
  | _ => true
def obT (K : List (Tm × Bool)) : List Tm → Tree → Tree
  | [], k => k
  | t :: l, k => match knows K t with
    | some true => obT K l k
    | _ => .ob t (obT K l k)
/-! What is handed on is reckoned first: each of these hands on just what it gets. -/
def fNat {α : Type} (n : Nat) (k : Nat → α) : α := match n with
  | 0 => k 0
  | m + 1 => k (m + 1)
def fInt {α : Type} (n : Int) (k : Int → α) : α := match n with
  | .ofNat m => fNat m fun m => k (.ofNat m)
  | .negSucc m => fNat m fun m => k (.negSucc m)
def fBool {α : Type} (b : Bool) (k : Bool → α) : α := match b with
  | true => k true
  | false => k false
def fL {α β : Type} (f : β → (β → α) → α) : List β → (List β → α) → α
  | [], k => k []
  | x :: l, k => f x fun x => fL f l fun l => k (x :: l)
def fId {α β : Type} (x : β) (k : β → α) : α := k x
def fIK {α : Type} (x : IntKind) (k : IntKind → α) : α := match x with
  | .i8 => k .i8
  | .i16 => k .i16
  | .i32 => k .i32
  | .i64 => k .i64
  | .u8 => k .u8
  | .u16 => k .u16
  | .u32 => k .u32
  | .u64 => k .u64
def fSrt {α : Type} (s : Srt) (k : Srt → α) : α := match s with
  | .int i => fIK i fun i => k (.int i)
  | .bool => k .bool
  | .str => k .str
  | .err => k .err
  | .val => k .val
  | .list r => fNat r fun r => k (.list r)
  | .rows r => fNat r fun r => k (.rows r)
def fTm {α : Type} : Tm → (Tm → α) → α
  | .var i, k => fNat i fun i => k (.var i)
  | .int i n, k => fIK i fun i => fInt n fun n => k (.int i n)
  | .bool b, k => fBool b fun b => k (.bool b)
  | .nili, k => k .nili
  | .ifc a, k => fTm a fun a => k (.ifc a)
  | .errI a, k => fTm a fun a => k (.errI a)
  | .cut a b c, k => fTm a fun a => fTm b fun b => fTm c fun c => k (.cut a b c)
  | .rep a b, k => fTm a fun a => fTm b fun b => k (.rep a b)
  | .str l, k => fL fNat l fun l => k (.str l)
  | .nil r, k => fNat r fun r => k (.nil r)
  | .ar o i a b, k => fIK i fun i => fTm a fun a => fTm b fun b => k (.ar o i a b)
  | .cmp c a b, k => fTm a fun a => fTm b fun b => k (.cmp c a b)
  | .not a, k => fTm a fun a => k (.not a)
  | .beq a b, k => fTm a fun a => fTm b fun b => k (.beq a b)
  | .and a b, k => fTm a fun a => fTm b fun b => k (.and a b)
  | .or a b, k => fTm a fun a => fTm b fun b => k (.or a b)
  | .conv i a, k => fIK i fun i => fTm a fun a => k (.conv i a)
  | .len a, k => fTm a fun a => k (.len a)
  | .elem s i c t, k => fTm s fun s => fTm i fun i => fNat c fun c => fSrt t fun t => k (.elem s i c t)
  | .sel a i t, k => fTm a fun a => fTm i fun i => fSrt t fun t => k (.sel a i t)
  | .ite a b c, k => fTm a fun a => fTm b fun b => fTm c fun c => k (.ite a b c)
  | .isnil a, k => fTm a fun a => k (.isnil a)
  | .enil, k => k .enil
  | .econs a b, k => fTm a fun a => fTm b fun b => k (.econs a b)
  | .emp, k => k .emp
  | .push a b, k => fTm a fun a => fTm b fun b => k (.push a b)
  | .app a b, k => fTm a fun a => fTm b fun b => k (.app a b)
  | .upd a i c v, k => fTm a fun a => fTm i fun i => fTm v fun v => k (.upd a i c v)
  | .sof a, k => fTm a fun a => k (.sof a)
  | .seq a b, k => fTm a fun a => fTm b fun b => k (.seq a b)
  | .slen a, k => fTm a fun a => k (.slen a)
  | .sidx a b, k => fTm a fun a => fTm b fun b => k (.sidx a b)
  | .scut a b c, k => fTm a fun a => fTm b fun b => fTm c fun c => k (.scut a b c)
  | .sapp a b, k => fTm a fun a => fTm b fun b => k (.sapp a b)
  | .sbytes a, k => fTm a fun a => k (.sbytes a)
  | .cap a, k => fTm a fun a => k (.cap a)
def fBs {α : Type} (b : Bs) (k : Bs → α) : α := match b with
  | .ob j => fNat j fun j => k (.ob j)
  | .gl g => fNat g fun g => k (.gl g)
  | .el s r i => fTm s fun s => fNat r fun r => fTm i fun i => k (.el s r i)
  | .oe j r i => fNat j fun j => fNat r fun r => fTm i fun i => k (.oe j r i)
def fDyn {α : Type} (x : Tm × Nat × Nat) (k : Tm × Nat × Nat → α) : α := match x with
  | (t, a, b) => fTm t fun t => fNat a fun a => fNat b fun b => k (t, a, b)
def fCP {α : Type} (x : CP) (k : CP → α) : α := match x with
  | .tm t s => fTm t fun t => fSrt s fun s => k (.tm t s)
  | .ref b o d => fBs b fun b => fNat o fun o => fL fDyn d fun d => k (.ref b o d)
  | .own j => fNat j fun j => k (.own j)
  | .nils => k .nils
  | .sb b o d n => fBs b fun b => fNat o fun o => fL fDyn d fun d => fNat n fun n => k (.sb b o d n)
def fC {α : Type} (x : C) (k : C → α) : α := match x with
  | .unk => k .unk
  | .undef => k .undef
  | .p x => fCP x fun x => k (.p x)
  | .fn f l => fNat f fun f => fL fCP l fun l => k (.fn f l)
def fA1 {α : Type} (x : A1) (k : A1 → α) : α := match x with
  | .c x => fC x fun x => k (.c x)
  | .agg l => fL fC l fun l => k (.agg l)
def fAV {α : Type} (x : AV) (k : AV → α) : α := match x with
  | .v x => fA1 x fun x => k (.v x)
  | .tup l => fL fA1 l fun l => k (.tup l)
def fOb {α : Type} (x : Ob) (k : Ob → α) : α := match x with
  | .blk cs ty => fL fC cs fun cs => fNat ty fun ty => k (.blk cs ty)
  | .own r t => fNat r fun r => fTm t fun t => k (.own r t)
  | .dead => k .dead
  | .fr => k .fr
def fKn {α : Type} (x : Tm × Bool) (k : Tm × Bool → α) : α := match x with
  | (t, b) => fTm t fun t => fBool b fun b => k (t, b)
/-- slots that were changed -/
def fSt {α : Type} (S : St) (k : St → α) : α := match S with
  | ⟨sl, os, n, kn⟩ => fL fId sl fun sl => fL fId os fun os => fNat n fun n => fL fId kn fun kn => k ⟨sl, os, n, kn⟩
def fSet {α β : Type} : List β → Nat → β → (List β → α) → α
  | [], _, _, k => k []
  | _ :: l, 0, x, k => k (x :: l)
  | y :: l, n + 1, x, k => fSet l n x fun l => k (y :: l)
def fPut {α : Type} (S : St) (d : Option Nat) (x : AV) (k : St → α) : α := match S with
  | ⟨sl, os, n, kn⟩ => match d with
    | some d => fSet sl d x fun sl => k ⟨sl, os, n, kn⟩
    | none => k ⟨sl, os, n, kn⟩
def fKnow {α : Type} (S : St) (t : Tm) (b : Bool) (k : St → α) : α := match S with
  | ⟨sl, os, n, kn⟩ => fL fKn (splitK t b) fun l => fL fId (l ++ kn) fun kn => k ⟨sl, os, n, kn⟩
def fDeep {α : Type} (S : St) (k : St → α) : α := match S with
  | ⟨sl, os, n, kn⟩ => fL fAV sl fun sl => fL fOb os fun os => fNat n fun n => fL fKn kn fun kn => k ⟨sl, os, n, kn⟩
section
variable {α : Type}
theorem fNat_eq (n : Nat) (k : Nat → α) : fNat n k = k n := by cases n <;> rfl
theorem fInt_eq (n : Int) (k : Int → α) : fInt n k = k n := by cases n <;> simp [fInt, fNat_eq]
theorem fBool_eq (n : Bool) (k : Bool → α) : fBool n k = k n := by cases n <;> rfl
theorem fIK_eq (n : IntKind) (k : IntKind → α) : fIK n k = k n := by cases n <;> rfl
theorem fSrt_eq (n : Srt) (k : Srt → α) : fSrt n k = k n := by cases n <;> simp [fSrt, fIK_eq, fNat_eq]
theorem fL_eq {β : Type} {f : β → (β → α) → α} (hf : ∀ x k, f x k = k x) : ∀ (l : List β) (k : List β → α), fL f l k = k l
  | [], _ => rfl
  | x :: l, k => by rw [fL, hf, fL_eq hf l]
theorem fTm_eq : ∀ (t : Tm) (k : Tm → α), fTm t k = k t
  | .var i, k => by rw [fTm, fNat_eq]
  | .int i n, k => by rw [fTm, fIK_eq, fInt_eq]
  | .bool b, k => by rw [fTm, fBool_eq]
  | .nili, k => rfl
  | .ifc a, k => by rw [fTm, fTm_eq a]
  | .errI a, k => by rw [fTm, fTm_eq a]
  | .cut a b c, k => by rw [fTm, fTm_eq a, fTm_eq b, fTm_eq c]
  | .rep a b, k => by rw [fTm, fTm_eq a, fTm_eq b]
  | .str l, k => by rw [fTm, fL_eq fNat_eq]
  | .nil r, k => by rw [fTm, fNat_eq]
  | .ar o i a b, k => by rw [fTm, fIK_eq, fTm_eq a, fTm_eq b]
  | .cmp c a b, k => by rw [fTm, fTm_eq a, fTm_eq b]
  | .not a, k => by rw [fTm, fTm_eq a]
  | .beq a b, k => by rw [fTm, fTm_eq a, fTm_eq b]
  | .and a b, k => by rw [fTm, fTm_eq a, fTm_eq b]
  | .or a b, k => by rw [fTm, fTm_eq a, fTm_eq b]
  | .conv i a, k => by rw [fTm, fIK_eq, fTm_eq a]
  | .len a, k => by rw [fTm, fTm_eq a]
  | .elem s i c t, k => by rw [fTm, fTm_eq s, fTm_eq i, fNat_eq, fSrt_eq]
  | .sel a i t, k => by rw [fTm, fTm_eq a, fTm_eq i, fSrt_eq]
  | .ite a b c, k => by rw [fTm, fTm_eq a, fTm_eq b, fTm_eq c]
  | .isnil a, k => by rw [fTm, fTm_eq a]
  | .enil, k => rfl
  | .econs a b, k => by rw [fTm, fTm_eq a, fTm_eq b]
  | .emp, k => rfl
  | .push a b, k => by rw [fTm, fTm_eq a, fTm_eq b]
  | .app a b, k => by rw [fTm, fTm_eq a, fTm_eq b]
  | .upd a i c v, k => by rw [fTm, fTm_eq a, fTm_eq i, fTm_eq v]
  | .sof a, k => by rw [fTm, fTm_eq a]
  | .seq a b, k => by rw [fTm, fTm_eq a, fTm_eq b]
  | .slen a, k => by rw [fTm, fTm_eq a]
  | .sidx a b, k => by rw [fTm, fTm_eq a, fTm_eq b]
  | .scut a b c, k => by rw [fTm, fTm_eq a, fTm_eq b, fTm_eq c]
  | .sapp a b, k => by rw [fTm, fTm_eq a, fTm_eq b]
  | .sbytes a, k => by rw [fTm, fTm_eq a]
  | .cap a, k => by rw [fTm, fTm_eq a]
theorem fBs_eq (b : Bs) (k : Bs → α) : fBs b k = k b := by cases b <;> simp [fBs, fNat_eq, fTm_eq]
theorem fDyn_eq (b : Tm × Nat × Nat) (k : Tm × Nat × Nat → α) : fDyn b k = k b := by obtain ⟨t, a, c⟩ := b; simp [fDyn, fNat_eq, fTm_eq]
theorem fCP_eq (x : CP) (k : CP → α) : fCP x k = k x := by cases x <;> simp [fCP, fNat_eq, fTm_eq, fSrt_eq, fBs_eq, fL_eq fDyn_eq]
theorem fC_eq (x : C) (k : C → α) : fC x k = k x := by cases x <;> simp [fC, fNat_eq, fCP_eq, fL_eq fCP_eq]
theorem fA1_eq (x : A1) (k : A1 → α) : fA1 x k = k x := by cases x <;> simp [fA1, fC_eq, fL_eq fC_eq]
theorem fAV_eq (x : AV) (k : AV → α) : fAV x k = k x := by cases x <;> simp [fAV, fA1_eq, fL_eq fA1_eq]
theorem fOb_eq (x : Ob) (k : Ob → α) : fOb x k = k x := by cases x <;> simp [fOb, fNat_eq, fTm_eq, fL_eq fC_eq]
theorem fKn_eq (x : Tm × Bool) (k : Tm × Bool → α) : fKn x k = k x := by obtain ⟨t, b⟩ := x; simp [fKn, fTm_eq, fBool_eq]
theorem fId_eq {β : Type} (x : β) (k : β → α) : fId x k = k x := rfl
theorem fSt_eq (S : St) (k : St → α) : fSt S k = k S := by obtain ⟨sl, os, n, kn⟩ := S; simp [fSt, fNat_eq, fL_eq fId_eq]
theorem fDeep_eq (S : St) (k : St → α) : fDeep S k = k S := by obtain ⟨sl, os, n, kn⟩ := S; simp [fDeep, fNat_eq, fL_eq fAV_eq, fL_eq fOb_eq, fL_eq fKn_eq]
theorem fSet_eq {β : Type} : ∀ (l : List β) (d : Nat) (x : β) (k : List β → α), fSet l d x k = k (l.set d x)
  | [], _, _, _ => rfl
  | _ :: l, 0, x, k => rfl
  | y :: l, n + 1, x, k => by rw [fSet, fSet_eq l]; rfl
theorem fPut_eq (S : St) (d : Option Nat) (x : AV) (k : St → α) : fPut S d x k = k { S with slots := putO S.slots d x } := by
  obtain ⟨sl, os, n, kn⟩ := S
  cases d <;> simp [fPut, fSet_eq, putO]
theorem fKnow_eq (S : St) (t : Tm) (b : Bool) (k : St → α) : fKnow S t b k = k (S.know t b) := by
  obtain ⟨sl, os, n, kn⟩ := S
  simp only [fKnow, St.know, fL_eq fKn_eq, fL_eq fId_eq]
end

def PC.srt : PC → List Srt
  | .v s => [s]
  | .b _ _ => []
def Cel.srt : Cel → List Srt
  | .v s => [s]
  | .own r => [.rows r]
  | .b _ => []
def Cel.isOwn : Cel → Bool
  | .own _ => true
  | _ => false
/-- where what the caller has besides stands among the objects -/
def frAt (sg : Sig) : Nat := sg.blks.length + (sg.blks.flatMap fun b => b.2.filter Cel.isOwn).length
def Sig.asrt (sg : Sig) : List Srt := sg.ins.flatMap fun p => p.2.flatMap PC.srt
def Sig.bsrt (sg : Sig) : List Srt := sg.blks.flatMap fun b => b.2.flatMap Cel.srt
/-- a block's cells: their terms, and which slices of the call's own hang on them -/
def takeC (os : List Ob) (js : List Nat) : List Cel → List C → Option (List Tm × List Nat)
  | [], [] => some ([], [])
  | .v s :: l, c :: cs => match c with
    | .p (.tm t s') => if s = s' ∧ s.one = true then (takeC os js l cs).map fun p => (t :: p.1, p.2) else none
    | .p .nils => match s with
      | .list r => (takeC os js l cs).map fun p => (.nil r :: p.1, p.2)
      | _ => none
    | _ => none
  | .own r :: l, c :: cs => match c with
    | .p (.own j) => match os[j]? with
      | some (.own r' t) => if r = r' then (takeC os js l cs).map fun p => (t :: p.1, j :: p.2) else none
      | _ => none
    | _ => none
  | .b k :: l, c :: cs => match c with
    | .p (.ref (.ob j) 0 []) => if js[k]? = some j then takeC os js l cs else none
    | _ => none
  | _, _ => none
def takeB (os : List Ob) (js : List Nat) : List (Nat × List Cel) → List Nat → Option (List Tm × List Nat)
  | [], [] => some ([], [])
  | b :: l, j :: r => match os[j]? with
    | some (.blk cs ty) => if ty = b.1 then (takeC os js b.2 cs).bind fun p => (takeB os js l r).map fun q => (p.1 ++ q.1, p.2 ++ q.2) else none
    | _ => none
  | _, _ => none
def argC (js : List Nat) : List PC → List C → Option (List Tm)
  | [], [] => some []
  | .v s :: l, c :: cs => match c with
    | .p (.tm t s') => if s = s' ∧ s.one = true then (argC js l cs).map (t :: ·) else none
    | .p .nils => match s with
      | .list r => (argC js l cs).map (.nil r :: ·)
      | _ => none
    | _ => none
  | .b k off :: l, c :: cs => match c with
    | .p (.ref (.ob j) off' []) => if js[k]? = some j ∧ off = off' then argC js l cs else none
    | _ => none
  | _, _ => none
def argP (js : List Nat) : List (Bool × List PC) → List AV → Option (List Tm)
  | [], [] => some []
  | p :: ps, x :: xs => match x with
    | .v (.agg cs) => if p.1 then (argC js p.2 cs).bind fun a => (argP js ps xs).map (a ++ ·) else none
    | .v (.c c) => if !p.1 && p.2.length == 1 then (argC js p.2 [c]).bind fun a => (argP js ps xs).map (a ++ ·) else none
    | _ => none
  | _, _ => none
/-- which objects are handed over -/
def setJ (l : List (Option Nat)) (k j : Nat) : List (Option Nat) := l.set k (some j)
def findC : List PC → List C → List (Option Nat) → List (Option Nat)
  | .b k _ :: l, .p (.ref (.ob j) _ _) :: cs, o => findC l cs (setJ o k j)
  | _ :: l, _ :: cs, o => findC l cs o
  | _, _, o => o
def findP : List (Bool × List PC) → List AV → List (Option Nat) → List (Option Nat)
  | p :: ps, .v (.agg cs) :: xs, o => findP ps xs (findC p.2 cs o)
  | p :: ps, .v (.c c) :: xs, o => findP ps xs (findC p.2 [c] o)
  | _, _, o => o
def findL : List Cel → List C → List (Option Nat) → List (Option Nat)
  | .b k :: l, .p (.ref (.ob j) _ _) :: cs, o => findL l cs (setJ o k j)
  | _ :: l, _ :: cs, o => findL l cs o
  | _, _, o => o
def findB (os : List Ob) : List (Nat × List Cel) → Nat → List (Option Nat) → List (Option Nat)
  | [], _, o => o
  | b :: l, k, o => match (o[k]?).bind id with
    | some j => match os[j]? with
      | some (.blk cs _) => findB os l (k + 1) (findL b.2 cs o)
      | _ => findB os l (k + 1) o
    | none => findB os l (k + 1) o
def findJs (S : St) (sg : Sig) (args : List AV) : Option (List Nat) := allSome (findB S.objs sg.blks 0 (findP sg.ins args (List.replicate sg.blks.length none)))
inductive InA where
  | go (ts : List Tm) (js ow : List Nat)
  | sh (j r : Nat) (t : Tm)
  | nl (j c e : Nat)
  | no
/-- what is to be done first: slices of the call's own where values are wanted; nil where slices of the call's own are -/
def prepC (os : List Ob) (j : Nat) : List Cel → List C → Nat → Option InA
  | .v (.list _) :: l, .p (.own i) :: cs, c => match os[i]? with
    | some (.own r t) => some (.sh i r t)
    | _ => prepC os j l cs (c + 1)
  | .own r :: l, .p .nils :: cs, c => some (.nl j c r)
  | _ :: l, _ :: cs, c => prepC os j l cs (c + 1)
  | _, _, _ => none
def prepB (os : List Ob) : List (Nat × List Cel) → List Nat → Option InA
  | b :: l, j :: r => match os[j]? with
    | some (.blk cs _) => match prepC os j b.2 cs 0 with
      | some x => some x
      | none => prepB os l r
    | _ => prepB os l r
  | _, _ => none
def inD (S : St) (sg : Sig) (caps : List CP) (args : List AV) : InA := if caps.isEmpty then (match findJs S sg args with
  | none => .no
  | some js => match argP js sg.ins args, takeB S.objs js sg.blks js with
    | some a, some p => if (js ++ p.2).Nodup ∧ sg.own = false then .go (a ++ p.1) js p.2 else .no
    | _, _ => (prepB S.objs sg.blks js).getD .no) else .no
/-- blocks whose cells are variables from n on; slices of the call's own from m on -/
def celC (js : List Nat) : List Cel → Nat → Nat → List C × List Ob
  | [], _, _ => ([], [])
  | .v s :: l, n, m => let r := celC js l (n + 1) m; (.p (.tm (.var n) s) :: r.1, r.2)
  | .own q :: l, n, m => let r := celC js l (n + 1) (m + 1); (.p (.own m) :: r.1, .own q (.var n) :: r.2)
  | .b k :: l, n, m => let r := celC js l n m; (.p (.ref (.ob (js.getD k 0)) 0 []) :: r.1, r.2)
def blkC (js : List Nat) : List (Nat × List Cel) → Nat → Nat → List Ob × List Ob
  | [], _, _ => ([], [])
  | b :: l, n, m => let c := celC js b.2 n m
    let r := blkC js l (n + (b.2.flatMap Cel.srt).length) (m + c.2.length); (.blk c.1 b.1 :: r.1, c.2 ++ r.2)
def setAll {α : Type} (os : List α) : List Nat → List α → List α
  | j :: js, o :: l => setAll (os.set j o) js l
  | _, _ => os
/-- behind a call to which blocks were handed over -/
def callStP (S : St) (sg : Sig) (js ow : List Nat) (dst : Option Nat) : St :=
  let n := S.n + (sg.res.flatMap (·.2)).length
  let r := blkC js sg.blks n S.objs.length
  { S with slots := putO S.slots dst (retAV (resA sg.res S.n)), n := n + sg.bsrt.length, objs := setAll (setAll S.objs ow (ow.map fun _ => .dead)) js r.1 ++ r.2 }
structure Fin where
  sg : Sig
  res : List ResultVar
def finTms (X : Ctx) (F : Fin) (S : St) : Option (List Tm) := (resAll X S F.res).bind fun l =>
  if F.sg.isP then (match argTms F.sg.res (l.map AV.v), takeB S.objs (List.range F.sg.blks.length) F.sg.blks (List.range F.sg.blks.length) with
    | some a, some p => if p.2.Nodup ∧ F.sg.own = false ∧ S.objs[frAt F.sg]? = some .fr then some (match F.sg.pan with
        | none => a ++ p.1
        | some _ => .bool true :: (a ++ p.1)) else none
    | _, _ => none) else
  if F.sg.own then (match l, F.sg.res with
    | [.c (.p (.own j))], [(false, [.rows r])] => match S.objs[j]? with
      | some (.own r' t) => if r = r' then some [t] else none
      | _ => none
    | _, _ => none)
  else argTms F.sg.res (l.map AV.v)
/-- a call of a function of which a contract is known: the state behind it -/
def callSt (S : St) (sg : Sig) (dst : Option Nat) : St :=
  if sg.own then (match sg.res with
    | [(false, [.rows r])] => { S with n := S.n + 1, objs := S.objs ++ [.own r (.app .emp (.var S.n))], slots := putO S.slots dst (.v (.c (.p (.own S.objs.length)))) }
    | _ => S)
  else { S with n := S.n + (sg.res.flatMap (·.2)).length, slots := putO S.slots dst (retAV (resA sg.res S.n)) }
def fCall {α : Type} (S : St) (sg : Sig) (dst : Option Nat) (k : St → α) : α :=
  if sg.own then fDeep (callSt S sg dst) k else match S with
    | ⟨sl, os, n, kn⟩ => fAV (retAV (resA sg.res n)) fun x => fNat (n + (sg.res.flatMap (·.2)).length) fun n => fPut ⟨sl, os, n, kn⟩ dst x k
theorem fCall_eq {α : Type} (S : St) (sg : Sig) (dst : Option Nat) (k : St → α) : fCall S sg dst k = k (callSt S sg dst) := by
  obtain ⟨sl, os, n, kn⟩ := S
  unfold fCall callSt
  split
  · rw [fDeep_eq]
  · simp only [fAV_eq, fNat_eq, fPut_eq]
def callee (S : St) (o : Oper) : Option (Nat × List CP × List AV) := match o.op with
  | .call c => match c.callee with
    | .value f => match opd S.slots f with
      | .v (.c (.fn f caps)) => some (f, caps, c.args.toList.map (opd S.slots))
      | _ => none
    | _ => none
  | _ => none
/-- what can be entered -/
def bodyOf (P : Program) (f : Nat) : Option (Func × Code) := match P.funcs[f]? with
  | some fn => match fn.body with
    | some c => if fn.name == "runtime.NumGoroutine" then none else some (fn, c)
    | none => none
  | none => none
/-- the objects that may be written live, and what is neither that nor dead is a variable -/
def okReg (S : St) (d : DI) : Bool := d.M.all (fun j => decide (j < S.objs.length) && !isDead S.objs[j]?) && d.D.all (fun j => isDead S.objs[j]?) && (List.range S.objs.length).all fun j => d.M.contains j || d.D.contains j || !isDead S.objs[j]?
/-- what is first to be handed on, so that it is read alone from here on -/
def ownArg (S : St) (l : List AV) : Option (Nat × Nat × Tm) := match firstOwn l with
  | none => none
  | some j => match S.objs[j]? with
    | some (.own r t) => some (j, r, t)
    | _ => none
def shareD (S : St) (sgs : Nat → Option Sig) (o : Oper) : Option (Nat × Nat × Tm) := match o.op with
  | .store _ x y => match opdR (opd S.slots x) with
    | some (.ob _, _, []) => none
    | some _ => ownArg S [opd S.slots y]
    | none => none
  | .buildSlice _ _ parts => ownArg S (parts.toList.map fun p => opd S.slots p.2)
  | .slice _ x _ _ none => ownArg S [opd S.slots x]
  | _ => match callee S o with
    | none => none
    | some (f, _, args) => match sgs f with
      | none => none
      | some _ => ownArg S args
/-- the like for what hangs on blocks that are handed over -/
def preD (S : St) (sgs : Nat → Option Sig) (o : Oper) : Option ((Nat × Nat × Tm) ⊕ (Nat × Nat × Nat)) := match callee S o with
  | none => none
  | some (f, caps, args) => match sgs f with
    | none => none
    | some sg => if !sg.isP then none else match inD S sg caps args with
      | .sh j r t => if S.objs[j]? = some (.own r t) then some (.inl (j, r, t)) else none
      | .nl j c e => some (.inr (j, c, e))
      | _ => none
/-- cells, each a row of its own -/
def idxC : Nat → List C → List (Nat × List C)
  | _, [] => []
  | k, c :: l => (k, [c]) :: idxC (k + 1) l
/-- an array's slice, that lies in slot t, is data from here on; the array is not used any more -/
def St.shareB (S : St) (t j r : Nat) : St :=
  { S with slots := S.slots.set t (.v (.c (.p (.tm (.var S.n) (.list r))))), objs := S.objs.set j .dead, n := S.n + 1 }
/-- an argument that is a slice of an array of the call's own: slot, object, from where, how many, of what sort -/
def blkArg (S : St) : List Operand → List (Bool × List Srt) → Option (Nat × Nat × Nat × Nat × Nat)
  | .tmp t :: l, g :: gs => match S.slots[t]?, g.2 with
    | some (.v (.c (.p (.sb (.ob j) off [] n)))), [.list r] => some (t, j, off, n, r)
    | _, _ => blkArg S l gs
  | _ :: l, _ :: gs => blkArg S l gs
  | _, _ => none
def blkTm (X : Ctx) (S : St) (q : Nat × Nat × Nat × Nat × Nat) : Option (Nat × Nat × Nat × Tm) := match S.slots[q.1]?, S.objs[q.2.1]? with
  | some (.v (.c (.p (.sb (.ob j) off [] n)))), some (.blk cs _) => if j = q.2.1 ∧ ((cs.drop off).take n).length = n ∧ ((cs.drop off).take n).all C.one = true ∧ (X.Δ.row q.2.2.2.2).length = 1 then
      (rowsTm (X.Δ.row q.2.2.2.2) 0 .emp (idxC 0 ((cs.drop off).take n))).map fun ct => (q.1, q.2.1, q.2.2.2.2, ct) else none
  | _, _ => none
def blkD (X : Ctx) (on : Bool) (S : St) (sgs : Nat → Option Sig) (o : Oper) : Option (Nat × Nat × Nat × Tm) := if on then (match o.op with
  | .call c => match callee S o with
    | some (f, _, _) => match sgs f with
      | some sg => (blkArg S c.args.toList sg.params).bind (blkTm X S)
      | none => none
    | none => none
  | _ => none) else none
/-- no result is a slice that may be one of the arguments -/
def noRef (Δ : Tab) (sg : Sig) : Bool := if sg.own then (match sg.res with
    | [(false, [.rows r])] => (Δ.row r).all scal
    | _ => false) else (sg.res.flatMap (·.2)).all scal
/-- slices of the call's own that are lent: variables behind all others -/
def lendCs (os : List Ob) : List C → Nat → List C × List (Nat × Tm)
  | [], _ => ([], [])
  | .p (.own j) :: l, n => (match os[j]? with
    | some (.own r t) => let q := lendCs os l (n + 1); (.p (.tm (.var n) (.list r)) :: q.1, (r, t) :: q.2)
    | _ => let q := lendCs os l n; (.p (.own j) :: q.1, q.2))
  | c :: l, n => let q := lendCs os l n; (c :: q.1, q.2)
def lendAs (os : List Ob) : List AV → Nat → List AV × List (Nat × Tm)
  | [], _ => ([], [])
  | .v (.c c) :: l, n => let q := lendCs os [c] n; let p := lendAs os l (n + q.2.length); (.v (.c (q.1.headD .unk)) :: p.1, q.2 ++ p.2)
  | .v (.agg cs) :: l, n => let q := lendCs os cs n; let p := lendAs os l (n + q.2.length); (.v (.agg q.1) :: p.1, q.2 ++ p.2)
  | .tup x :: l, n => let p := lendAs os l n; (.tup x :: p.1, p.2)
def lendD (X : Ctx) (on : Bool) (S : St) (sgs : Nat → Option Sig) (o : Oper) : Option (Nat × Sig × List (Nat × Tm) × List Tm) := if on then (match callee S o with
  | some (f, [], args) => match sgs f with
    | some sg => if !sg.isP && noRef X.Δ sg then (match lendAs S.objs args S.n with
      | (_, []) => none
      | (xs, x :: l) => (argTms sg.params xs).map fun ts => (f, sg, x :: l, ts)) else none
    | none => none
  | _ => none) else none
/-- a literal slice that is read alone from its beginning on -/
def litD (X : Ctx) (on : Bool) (S : St) (o : Oper) : Option (Nat × Tm) := if on then (match o.op with
  | .buildSlice t n parts => match X.P.underlying t with
    | some (.slice e) => (partsOf S.slots parts.toList).bind fun ps => (rowsTm (X.Δ.row e) 0 .emp ps).bind fun ct => if ps.length = n ∧ szT X.P e = some (X.Δ.row e).length ∧ (X.Δ.row e).length ≠ 0 ∧ n * (X.Δ.row e).length ≤ 2 ^ 24 ∧ (zeroC X.P e).map (·.length) = some (X.Δ.row e).length then some (e, ct) else none
    | _ => none
  | _ => none) else none
def litSt (S : St) (dst : Option Nat) (e : Nat) (ct : Tm) : St :=
  St.share { S with objs := S.objs ++ [.own e ct], slots := putO S.slots dst (.v (.c (.p (.own S.objs.length)))) } S.objs.length e
/-- a slice that is read, and has no room, with more behind it -/
def evalA (X : Ctx) (S : St) (o : Oper) : Option (St × List Tm) := match o.op with
  | .call c => match c.callee, c.args.toList, c.argTypes.toList with
    | .builtin .append, [x, y], [t, t'] => match X.P.underlying t with
      | some (.slice e) => if t = t' then match opd S.slots x, contentOf S.objs (opd S.slots y) with
        | .v (.c (.p (.tm u (.list r)))), some (r', u') => if r = r' then match X.P.info? e with
            | some i => if i.size = (X.Δ.row r).length ∧ (i.zero.map (fun z => z.cells.size) = some i.size) ∧ (X.Δ.row r).all (·.one) = true then
                some ({ S with objs := S.objs ++ [.own r (.app (.app .emp u) u')], slots := putO S.slots o.dst (.v (.c (.p (.own S.objs.length)))) }, [.cmp .eq (.cap u) (.len u), .cmp .ge (.len u') (.int .i64 1), .cmp .le (.len (.app (.app .emp u) u')) (.int .i64 (140737488355328 / max 1 i.bytes : Nat))])
              else none
            | none => none
          else none
        | _, _ => none
      else none
      | _ => none
    | _, _, _ => none
  | _ => none
/-! Straight ways are gone through at once, and laid into one another. -/
def mkIteB (c a b : Tm) : Tm := match c with
  | .bool true => a
  | .bool false => b
  | _ => if a = b then a else match a, b with
    | .bool true, .bool false => c
    | .bool false, .bool true => mkNot c
    | a, b => if a = c then .or c b else if b = c then .and c a else match a, b with
    | .bool true, b => .or c b
    | .bool false, b => .and (mkNot c) b
    | a, .bool false => .and c a
    | a, .bool true => .or (mkNot c) a
    | a, b => .ite c a b
def mrgC (t : Tm) (x y : C) : C := if x = y then x else match x, y with
  | .p (.tm p s), .p (.tm q s') => if s = s' then .p (.tm (if s = .bool then mkIteB t p q else mkIte t p q) s) else .unk
  | _, _ => .unk
def zipL {α : Type} (f : α → α → α) : List α → List α → Option (List α)
  | [], [] => some []
  | x :: l, y :: m => (zipL f l m).map (f x y :: ·)
  | _, _ => none
def mrgA1 (t : Tm) (x y : A1) : A1 := match x, y with
  | .c x, .c y => .c (mrgC t x y)
  | .agg l, .agg m => match zipL (mrgC t) l m with
    | some l => .agg l
    | none => .c .unk
  | _, _ => .c .unk
def mrgA (t : Tm) (x y : AV) : AV := match x, y with
  | .v x, .v y => .v (mrgA1 t x y)
  | x, y => if x = y then x else .v (.c .unk)
def mrgO (t : Tm) (x y : Ob) : Option Ob := if x = y then some x else match x, y with
  | .blk cs ty, .blk cs' ty' => if ty = ty' then (zipL (mrgC t) cs cs').map (.blk · ty) else none
  | _, _ => none
def mrgOs (t : Tm) : List Ob → List Ob → Option (List Ob)
  | [], [] => some []
  | x :: l, y :: m => (mrgO t x y).bind fun o => (mrgOs t l m).map (o :: ·)
  | _, _ => none
def mrgS (t : Tm) (S Sa Sb : St) : Option St := if Sa.n = S.n ∧ Sb.n = S.n then (zipL (mrgA t) Sa.slots Sb.slots).bind fun sl => (mrgOs t Sa.objs Sb.objs).map fun os => { S with slots := sl, objs := os } else none
def imp (t : Tm) : List Tm → List Tm
  | [] => []
  | .bool true :: l => imp t l
  | o :: l => .or t o :: imp t l
/-- operations, one after the other; st: stores too -/
def pureOps (X : Ctx) (F : St → List Code → List ResultVar → Option (List A1 × List Tm)) (st : Bool) (os : List Oper) : Nat → List Oper → St → Option (St × List Tm)
  | _, [], S => some (S, [])
  | 0, _ :: _, _ => none
  | n + 1, o :: l, S => match guardOf S os o with
    | .no => pureOps X F st os n l { S with slots := putO S.slots o.dst (.v (.c .undef)) }
    | .yes => match evalN X S o with
     | some S' => if S'.objs = S.objs ∧ S'.n = S.n ∧ S'.known = S.known then pureOps X F st os n l S' else none
     | none => match evalQ X S.slots S.objs S.known o with
      | some (x, obs) => (pureOps X F st os n l { S with slots := putO S.slots o.dst x }).map fun p => (p.1, obs ++ p.2)
      | none => match (match st, o.op with
          | true, .store _ _ _ => evalW X S o
          | _, _ => none) with
        | some (S', obs) => (pureOps X F st os n l S').map fun p => (p.1, obs ++ p.2)
        | none => match callee S o with
          | some (f, caps, args) => match bodyOf X.P f with
            | some (fn, c) => (F { S with slots := (args ++ caps.map fun x => .v (.c (.p x))) ++ List.replicate (fn.ntmps - (args.length + caps.length)) (.v (.c .undef)) } [c] fn.results.toList).bind fun r =>
                (pureOps X F st os n l { S with slots := putO S.slots o.dst (retAV r.1) }).map fun p => (p.1, r.2 ++ p.2)
            | none => none
          | none => none
    | .ask t => if t.bnd S.n then (pureOps X F st os n (o :: l) (S.know t true)).bind fun p => (pureOps X F st os n (o :: l) (S.know t false)).bind fun q => (mrgS t S p.1 q.1).bind fun S' => if st = true ∨ S'.objs = S.objs then some (S', imp (mkNot t) p.2 ++ imp t q.2) else none else none
    | .bad => none
/-- what a body without loops, calls and stores answers -/
def pureF (X : Ctx) : Nat → St → List Code → List ResultVar → Option (List A1 × List Tm)
  | 0, _, _, _ => none
  | n + 1, S, [], res => (resAll X S res).map fun l => (l, [])
  | n + 1, S, .ret :: _, res => (resAll X S res).map fun l => (l, [])
  | n + 1, S, .skip :: k, res => pureF X n S k res
  | n + 1, S, .seq a b :: k, res => pureF X n S (a :: b :: k) res
  | n + 1, S, .block _ b :: k, res => pureF X n S (b :: k) res
  | n + 1, S, .region _ ops false :: k, res => (pureOps X (pureF X n) false ops.toList 400 ops.toList S).bind fun p => (pureF X n p.1 k res).map fun q => (q.1, p.2 ++ q.2)
  | n + 1, S, .cond c a b :: k, res => (opdB (opd S.slots c)).bind fun t => match knows S.known t with
    | some true => pureF X n S (a :: k) res
    | some false => pureF X n S (b :: k) res
    | none => if t.bnd S.n then (pureF X n (S.know t true) (a :: k) res).bind fun p => (pureF X n (S.know t false) (b :: k) res).bind fun q => (zipL (mrgA1 t) p.1 q.1).map fun l => (l, imp (mkNot t) p.2 ++ imp t q.2) else none
  | _, _, _, _ => none
/-- a function that is entered, and goes straight -/
def callF (X : Ctx) (S : St) (f : Nat) (caps : List CP) (args : List AV) : Option (List A1 × List Tm) := match bodyOf X.P f with
  | some (fn, c) => pureF X 200 { S with slots := (args ++ caps.map fun x => .v (.c (.p x))) ++ List.replicate (fn.ntmps - (args.length + caps.length)) (.v (.c .undef)) } [c] fn.results.toList
  | none => none
/-- a straight way -/
def pureC (X : Ctx) : Nat → St → Code → Option (St × List Tm)
  | 0, _, _ => none
  | n + 1, S, .skip => some (S, [])
  | n + 1, S, .seq a b => (pureC X n S a).bind fun p => (pureC X n p.1 b).map fun q => (q.1, p.2 ++ q.2)
  | n + 1, S, .block _ b => pureC X n S b
  | n + 1, S, .region _ ops false => pureOps X (pureF X n) true ops.toList 400 ops.toList S
  | n + 1, S, .cond c a b => (opdB (opd S.slots c)).bind fun t => match knows S.known t with
    | some true => pureC X n S a
    | some false => pureC X n S b
    | none => if t.bnd S.n then (pureC X n (S.know t true) a).bind fun p => (pureC X n (S.know t false) b).bind fun q => (mrgS t S p.1 q.1).map fun S' => (S', imp (mkNot t) p.2 ++ imp t q.2) else none
  | _, _, _ => none
/-- is it known whether a loop's head goes on? then it is gone through once more -/
def probeOps (X : Ctx) (os : List Ob) (K : List (Tm × Bool)) : List Oper → List AV → Option (List AV)
  | [], sl => some sl
  | o :: l, sl => match o.guard with
    | none => match evalQ X sl os K o with
      | some (x, _) => probeOps X os K l (putO sl o.dst x)
      | none => none
    | some _ => none
inductive Pr where
  | on (sl : List AV)
  | yes
  | no
def probe (X : Ctx) (S : St) : Code → List AV → Pr
  | .skip, sl => .on sl
  | .region _ ops false, sl => match probeOps X S.objs S.known ops.toList sl with
    | some sl => .on sl
    | none => .no
  | .seq a b, sl => match probe X S a sl with
    | .on sl => probe X S b sl
    | r => r
  | .block _ b, sl => probe X S b sl
  | .cond c _ _, sl => match opdB (opd sl c) with
    | some t => match knows S.known t with
      | some _ => .yes
      | none => .no
    | none => .no
  | _, _ => .no
def unrolls (X : Ctx) (F : Fin) (S : St) (b : Code) : Bool := F.sg.unr && (match probe X S b S.slots with
  | .yes => true
  | _ => false)
/-- if several operations may come next, each is tried -/
def bothT (a : Tree) (l : List Nat) (b : Tree) : Tree := match l with
  | [] => a
  | _ :: _ => .both a b
/-! A function that neither a contract nor a straight walk covers: in a region that draws its order it is entered as it comes, and then nothing there is read ahead. -/
inductive Hd where
  | f (n : Nat)
  | c (c : Code)
  | o (o : Oper)
def hard (P : Program) : Nat → Hd → Bool
  | 0, _ => true
  | n + 1, .f f => match bodyOf P f with
    | none => false
    | some (_, c) => hard P n (.c c)
  | n + 1, .c c => match c with
    | .loop _ => true
    | .seq a b => hard P n (.c a) || hard P n (.c b)
    | .cond _ a b => hard P n (.c a) || hard P n (.c b)
    | .block _ b => hard P n (.c b)
    | .region _ ops dr => dr || ops.toList.any fun o => hard P n (.o o)
    | _ => false
  | n + 1, .o o => match o.op with
    | .store _ _ _ => true
    | .call c => (match c.callee with
      | .value x => (match opd [] x with
        | .v (.c (.fn f _)) => hard P n (.f f)
        | _ => false)
      | _ => false)
    | _ => false
def hoistB (X : Ctx) (sgs : Nat → Option Sig) (S : St) (os : List Oper) : Bool := !(os.any fun o => match o.op with
  | .call c => (match c.callee with
    | .value x => (match opd S.slots x with
      | .v (.c (.fn f _)) => (match sgs f with
        | none => hard X.P 400 (.f f)
        | some sg => sg.isP)
      | _ => false)
    | _ => false)
  | _ => false)
def run (X : Ctx) (sgs : Nat → Option Sig) (F : Fin) : Nat → Nat → St → List K → Tree
  | 0, _, _, _ => .fail 0
  | _ + 1, _, _, [] => .fail 1
  | n + 1, lv, S, .code c :: k => match c with
    | .skip => run X sgs F n lv S k
    | .seq a b => run X sgs F n lv S (.code a :: .code b :: k)
    | .cond c a b => match (if F.sg.mrg then pureC X 200 S (.cond c a b) else none) with
     | some (S', obs) => obT S.known obs (fDeep S' fun S' => run X sgs F n lv S' k)
     | none => match opdB (opd S.slots c) with
      | none => .fail 2
      | some t => match knows S.known t with
        | some true => run X sgs F n lv S (.code a :: k)
        | some false => run X sgs F n lv S (.code b :: k)
        | none => if t.bnd S.n then .ite t (fKnow S t true fun S => run X sgs F n lv S (.code a :: k)) (fKnow S t false fun S => run X sgs F n lv S (.code b :: k)) else .fail 3
    | .block id b => run X sgs F n lv S (.code b :: .blk id :: k)
    | .exit id => match exitK id k with
      | some k' => run X sgs F n lv S k'
      | none => .fail 4
    | .ret => match retK k with
      | some k' => run X sgs F n lv S k'
      | none => .fail 5
    | .region _ ops false => run X sgs F n lv S (.ops ops.toList ops.toList :: k)
    | .region _ ops true => if Region.noSelect ops then (fL fNat (regInfo X.P S ops.toList).M fun M => fL fNat (regInfo X.P S ops.toList).D fun D => fNat S.objs.length fun m0 => fL fBool (List.replicate ops.size false) fun ls => fBool (hoistB X sgs S ops.toList) fun hs =>
        if decide (m0 = S.objs.length) && okReg S ⟨m0, M, D, hs⟩ then run X sgs F n lv S (.drw ⟨m0, M, D, hs⟩ ops.size ls ops.toList :: k) else .fail 32) else .fail 6
    | .loop b => if unrolls X F S b then run X sgs F n lv S (.code b :: .inl b :: k) else match nilFix X S b with
     | some (j, c, e, own) => fDeep (S.fixNil j c e own) fun S => run X sgs F n lv S (.code (.loop b) :: k)
     | none => let h := mkHead X S b
      match srcTms S h.2 with
      | some l => if chk S.n S.objs.length h.2 (l.map (·.2)) (l.map (·.1)) h.1 S then
          .loop (l.map (·.1)) (l.map (·.2)) (fDeep h.1 fun H => run X sgs F n (lv + 1) H (.code b :: .again lv H S.n S.objs.length h.2 (l.map (·.2)) :: k)) else .fail 7
      | none => .fail 8
    | _ => .fail 9
  | n + 1, lv, S, .blk _ :: k => run X sgs F n lv S k
  | n + 1, lv, S, .inl b :: k => if unrolls X F S b then run X sgs F n lv S (.code b :: .inl b :: k) else match nilFix X S b with
     | some (j, c, e, own) => fDeep (S.fixNil j c e own) fun S => run X sgs F n lv S (.inl b :: k)
     | none => let h := mkHead X S b
      match srcTms S h.2 with
      | some l => if chk S.n S.objs.length h.2 (l.map (·.2)) (l.map (·.1)) h.1 S then
          .loop (l.map (·.1)) (l.map (·.2)) (fDeep h.1 fun H => run X sgs F n (lv + 1) H (.code b :: .again lv H S.n S.objs.length h.2 (l.map (·.2)) :: k)) else .fail 7
      | none => .fail 8
  | n + 1, lv, S, .again lvl H n0 m0 srcs ss :: k => match srcTms S srcs with
    | some l => if chk n0 m0 srcs ss (l.map (·.1)) H S then .again lvl (l.map (·.1)) else .fail 10
    | none => .fail 11
  | n + 1, lv, S, .ops [] _ :: k => run X sgs F n lv S k
  | n + 1, lv, S, .ops (o :: l) os :: k => match guardOf S os o with
    | .bad => .fail 12
    | .no => fPut S o.dst (.v (.c .undef)) fun S => run X sgs F n lv S (.ops l os :: k)
    | .ask t => match (if F.sg.mrg then pureOps X (pureF X 200) true os 400 (o :: l) S else none) with
      | some (S', obs) => obT S.known obs (fDeep S' fun S' => run X sgs F n lv S' k)
      | none => if t.bnd S.n then .ite t (fKnow S t true fun S => run X sgs F n lv S (.ops (o :: l) os :: k)) (fKnow S t false fun S => run X sgs F n lv S (.ops (o :: l) os :: k)) else .fail 13
    | .yes => match nilArg X.P S o with
     | some (t, e) => fDeep (S.slotNil t e) fun S => run X sgs F n lv S (.ops (o :: l) os :: k)
     | none => match lendD X F.sg.lend S sgs o with
     | some (f, sg, le, ts) => .lend f le ts (sg.res.flatMap (·.2)) (fCall S sg o.dst fun S => run X sgs F n lv S (.ops l os :: k))
     | none => match litD X F.sg.lit S o with
     | some (e, ct) => .lit e ct (fDeep (litSt S o.dst e ct) fun S => run X sgs F n lv S (.ops l os :: k))
     | none => match blkD X F.sg.lit S sgs o with
     | some (t, j, r, ct) => .share r ct (fDeep (S.shareB t j r) fun S => run X sgs F n lv S (.ops (o :: l) os :: k))
     | none => match shareD S sgs o with
     | some (j, r, t) => .share r t (fDeep (S.share j r) fun S => run X sgs F n lv S (.ops (o :: l) os :: k))
     | none => match preD S sgs o with
     | some (.inl (j, r, t)) => .share r t (fDeep (S.share j r) fun S => run X sgs F n lv S (.ops (o :: l) os :: k))
     | some (.inr (j, c, e)) => fDeep (S.fixNil j c e true) fun S => run X sgs F n lv S (.ops (o :: l) os :: k)
     | none => match evalN X S o with
      | some S' => fDeep S' fun S' => run X sgs F n lv S' (.ops l os :: k)
      | none => match evalQ X S.slots S.objs S.known o with
        | some (x, obs) => obT S.known obs (fAV x fun x => fPut S o.dst x fun S => run X sgs F n lv S (.ops l os :: k))
        | none => match evalW X S o with
          | some (S', obs) => obT S.known obs (fDeep S' fun S' => run X sgs F n lv S' (.ops l os :: k))
          | none => match evalA X S o with
          | some (S', obs) => obT S.known obs (fDeep S' fun S' => run X sgs F n lv S' (.ops l os :: k))
          | none => match callee S o with
            | none => .fail 14
            | some (f, caps, args) => match (if F.sg.mrg && (sgs f).isNone then pureOps X (pureF X 200) false os 400 [o] S else none) with
             | some (S', obs) => obT S.known obs (fDeep S' fun S' => run X sgs F n lv S' (.ops l os :: k))
             | none => match sgs f with
              | some sg => if sg.isP then (match inD S sg caps args with
                  | .go ts js ow => match sg.pan with
                    | none => .call f ts (sg.res.flatMap (·.2) ++ sg.bsrt) (fDeep (callStP S sg js ow o.dst) fun S => run X sgs F n lv S (.ops l os :: k))
                    | some T => if F.sg.pan = some T ∧ S.objs[frAt F.sg]? = some .fr then .callx f ts (sg.res.flatMap (·.2) ++ sg.bsrt) (fDeep (callStP S sg js ow o.dst) fun S => run X sgs F n lv S (.ops l os :: k)) else .fail 41
                  | _ => .fail 38) else if caps.isEmpty then (match argTms sg.params args with
                    | some ts => .call f ts (sg.res.flatMap (·.2)) (fCall S sg o.dst fun S => run X sgs F n lv S (.ops l os :: k))
                    | none => .fail 16) else .fail 17
              | none => match bodyOf X.P f with
                | some (fn, c) => run X sgs F n lv { S with slots := (args ++ caps.map fun x => .v (.c (.p x))) ++ List.replicate (fn.ntmps - (args.length + caps.length)) (.v (.c .undef)) } (.code c :: .back S.slots o.dst fn.results.toList :: .ops l os :: k)
                | none => .fail 18
  | n + 1, lv, S, .drw d fuel listed os :: k => match Region.ready .any os.toArray listed.toArray with
    | [] => run X sgs F n lv S k
    | r => match fuel with
      | 0 => .fail 19
      | fuel + 1 => match (if hoistOk S d || !d.hoist then pickD X S d os listed.toArray r else none) with
        | some (i, some (x, obs)) => (match os[i]? with
          | some o => obT S.known obs (fAV x fun x => fPut S o.dst x fun S => fSet listed i true fun listed => run X sgs F n lv S (.drw d fuel listed os :: k))
          | none => .fail 20)
        | some (i, none) => (match os[i]? with
          | some o => fPut S o.dst (.v (.c .undef)) fun S => fSet listed i true fun listed => run X sgs F n lv S (.drw d fuel listed os :: k)
          | none => .fail 20)
        | none => match askD S os r with
          | some t => if t.bnd S.n then .ite t (fKnow S t true fun S => run X sgs F n lv S (.drw d (fuel + 1) listed os :: k)) (fKnow S t false fun S => run X sgs F n lv S (.drw d (fuel + 1) listed os :: k)) else .fail 21
          | none => fL fNat r fun r => run X sgs F n lv S (.ev d fuel listed os r :: k)
  | n + 1, lv, S, .ev d fuel listed os l :: k => match l with
    | [] => .fail 36
    | i :: l => bothT (match os[i]? with
              | none => .fail 22
              | some o => match guardOf S os o with
                | .no => fPut S o.dst (.v (.c .undef)) fun S => fSet listed i true fun listed => run X sgs F n lv S (.drw d fuel listed os :: k)
                | .yes => (match nilArg X.P S o with
                 | some (t, e) => fDeep (S.slotNil t e) fun S => run X sgs F n lv S (.drw d (fuel + 1) listed os :: k)
                 | none => match lendD X F.sg.lend S sgs o with
                 | some (f, sg, le, ts) => .lend f le ts (sg.res.flatMap (·.2)) (fCall S sg o.dst fun S => fSet listed i true fun listed => run X sgs F n lv S (.drw d fuel listed os :: k))
                 | none => match litD X F.sg.lit S o with
                 | some (e, ct) => .lit e ct (fDeep (litSt S o.dst e ct) fun S => fSet listed i true fun listed => run X sgs F n lv S (.drw d fuel listed os :: k))
                 | none => match blkD X F.sg.lit S sgs o with
                 | some (t, j, r, ct) => .share r ct (fDeep (S.shareB t j r) fun S => run X sgs F n lv S (.drw d (fuel + 1) listed os :: k))
                 | none => match shareD S sgs o with
                 | some (j, r, t) => if mayW d j then .share r t (fDeep (S.share j r) fun S => run X sgs F n lv S (.drw d (fuel + 1) listed os :: k)) else .fail 33
                 | none => match (if d.hoist then none else preD S sgs o) with
                 | some (.inl (j, r, t)) => .share r t (fDeep (S.share j r) fun S => run X sgs F n lv S (.drw d (fuel + 1) listed os :: k))
                 | some (.inr (j, c, e)) => fDeep (S.fixNil j c e true) fun S => run X sgs F n lv S (.drw d (fuel + 1) listed os :: k)
                 | none => match evalN X S o with
                  | some S' => fDeep S' fun S' => fSet listed i true fun listed => run X sgs F n lv S' (.drw d fuel listed os :: k)
                  | none => match evalQ X S.slots S.objs S.known o with
                    | some (x, obs) => obT S.known obs (fAV x fun x => fPut S o.dst x fun S => fSet listed i true fun listed => run X sgs F n lv S (.drw d fuel listed os :: k))
                    | none => match (if okTgt d (tgtW S o) then evalW X S o else none) with
                      | some (S', obs) => obT S.known obs (fDeep S' fun S' => fSet listed i true fun listed => run X sgs F n lv S' (.drw d fuel listed os :: k))
                      | none => match evalA X S o with
                      | some (S', obs) => obT S.known obs (fDeep S' fun S' => fSet listed i true fun listed => run X sgs F n lv S' (.drw d fuel listed os :: k))
                      | none => match callee S o with
                        | none => .fail 23
                        | some (f, caps, args) => match sgs f with
                          | some sg => if sg.isP then (if d.hoist then .fail 39 else match inD S sg caps args with
                              | .go ts js ow => match sg.pan with
                                | none => .call f ts (sg.res.flatMap (·.2) ++ sg.bsrt) (fDeep (callStP S sg js ow o.dst) fun S => fSet listed i true fun listed => run X sgs F n lv S (.drw d fuel listed os :: k))
                                | some T => if F.sg.pan = some T ∧ S.objs[frAt F.sg]? = some .fr then .callx f ts (sg.res.flatMap (·.2) ++ sg.bsrt) (fDeep (callStP S sg js ow o.dst) fun S => fSet listed i true fun listed => run X sgs F n lv S (.drw d fuel listed os :: k)) else .fail 41
                              | _ => .fail 38) else if caps.isEmpty then (match argTms sg.params args with
                                | some ts => .call f ts (sg.res.flatMap (·.2)) (fCall S sg o.dst fun S => fSet listed i true fun listed => run X sgs F n lv S (.drw d fuel listed os :: k))
                                | none => .fail 25) else .fail 26
                          | none => match (if F.sg.mrg then callF X S f caps args else none) with
                            | some (xs, obs) => obT S.known obs (fDeep { S with slots := putO S.slots o.dst (retAV xs) } fun S => fSet listed i true fun listed => run X sgs F n lv S (.drw d fuel listed os :: k))
                            | none => if d.hoist then .fail 27 else match bodyOf X.P f with
                              | some (fn, c) => fSet listed i true fun listed => run X sgs F n lv { S with slots := (args ++ caps.map fun x => .v (.c (.p x))) ++ List.replicate (fn.ntmps - (args.length + caps.length)) (.v (.c .undef)) } (.code c :: .rgn S.slots o.dst fn.results.toList d fuel listed os :: k)
                              | none => .fail 35)
                | _ => .fail 34) l (run X sgs F n lv S (.ev d fuel listed os l :: k))
  | n + 1, lv, S, .fin :: _ => match finTms X F S with
    | some ts => .ret ts
    | none => match (resAll X S F.res).bind fun l => firstOwn (l.map AV.v) with
      | some j => match S.objs[j]? with
        | some (.own r t) => .share r t (fDeep (S.share j r) fun S => run X sgs F n lv S (.fin :: []))
        | _ => .fail 28
      | none => match prepB S.objs F.sg.blks (List.range F.sg.blks.length) with
        | some (.sh j r t) => if S.objs[j]? = some (.own r t) then .share r t (fDeep (S.share j r) fun S => run X sgs F n lv S (.fin :: [])) else .fail 40
        | some (.nl j c e) => fDeep (S.fixNil j c e true) fun S => run X sgs F n lv S (.fin :: [])
        | _ => .fail 29
  | n + 1, lv, S, .back sl dst res :: k => match resAll X S res with
    | some l => fDeep { S with slots := putO sl dst (retAV l) } fun S => run X sgs F n lv S k
    | none => .fail 30
  | n + 1, lv, S, .rgn sl dst res d fuel listed os :: k => match resAll X S res with
    | some l => fDeep { S with slots := putO sl dst (retAV l) } fun S => run X sgs F n lv S (.drw d fuel listed os :: k)
    | none => .fail 37
/-- arguments' cells -/
def pcC : List PC → Nat → List C
  | [], _ => []
  | .v s :: l, n => .p (.tm (.var n) s) :: pcC l (n + 1)
  | .b k off :: l, n => .p (.ref (.ob k) off []) :: pcC l n
def insA : List (Bool × List PC) → Nat → List A1
  | [], _ => []
  | p :: l, n => (if p.1 then .agg (pcC p.2 n) else .c ((pcC p.2 n).headD .unk)) :: insA l (n + (p.2.flatMap PC.srt).length)
/-- where a call to which blocks were handed over begins -/
def startP (sg : Sig) (γ : Nat) (nt : Nat) : St :=
  let ps := insA sg.ins γ
  let r := blkC (List.range sg.blks.length) sg.blks (γ + sg.asrt.length) sg.blks.length
  { slots := ps.map AV.v ++ List.replicate (nt - ps.length) (.v (.c .undef)), objs := r.1 ++ (r.2 ++ [.fr]), n := γ + sg.asrt.length + sg.bsrt.length, known := [] }
def walkP (X : Ctx) (sgs : Nat → Option Sig) (γ : Nat) (f : Nat) (sg : Sig) : Tree := match bodyOf X.P f with
  | some (fn, c) => run X sgs ⟨sg, fn.results.toList⟩ 100000 0 (startP sg γ fn.ntmps) [.code c, .fin]
  | none => .fail 31
def start (sg : Sig) (γ : Nat) (nt : Nat) : St :=
  let ps := resA sg.params γ
  { slots := ps.map AV.v ++ List.replicate (nt - ps.length) (.v (.c .undef)), objs := [], n := γ + (sg.params.flatMap (·.2)).length, known := [] }
/-- arguments that are known -/
def startAt (γ : Nat) (nt : Nat) (ps : List (Tm × Srt)) : St :=
  { slots := (ps.map fun p => AV.v (.c (.p (.tm p.1 p.2)))) ++ List.replicate (nt - ps.length) (.v (.c .undef)), objs := [], n := γ + ps.length, known := [] }
def walkAt (X : Ctx) (sgs : Nat → Option Sig) (γ : Nat) (f : Nat) (sg : Sig) (ps : List (Tm × Srt)) : Tree := match bodyOf X.P f with
  | some (fn, c) => run X sgs ⟨sg, fn.results.toList⟩ 100000 0 (startAt γ fn.ntmps ps) [.code c, .fin]
  | none => .fail 31
def walk (X : Ctx) (sgs : Nat → Option Sig) (γ : Nat) (f : Nat) (sg : Sig) : Tree := match bodyOf X.P f with
  | some (fn, c) => run X sgs ⟨sg, fn.results.toList⟩ 100000 0 (start sg γ fn.ntmps) [.code c, .fin]
  | none => .fail 31
end Go.Proofs.YtcigbgpdikadpaaDoor
end
