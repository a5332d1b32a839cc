import Derived.Test.YtcigbgpdikadpaaDoorM3

set_option linter.unusedVariables false
set_option linter.unusedSimpArgs false

section
namespace Go.Proofs.YtcigbgpdikadpaaDoor
open Go.RowKit
set_option linter.unusedVariables false

/-- a value's block -/
def blkV : Value → Option Nat
  | .pointer (some a) => some a.block
  | v => blkOf v
def deadF : Fact := .gen (fun _ => True) (fun _ => False)
theorem deadFirm : Firm (fun _ => True) (fun _ => False) := ⟨fun _ _ _ _ _ _ => trivial, fun _ _ _ h => h.elim⟩
section
variable {E : Env} {w0 w w' : World} {ρ : List Dat} {σ : List Value} {S : St} {a : Act} {o : Oper} {L : List Fact} {b b' : Fact}
/-- some of what is known, in another order -/
theorem Mem.pick {ob : Option Nat} (h : Mem ob w0 w (b :: L)) {Ln : List Fact} (p : Nat → Option Nat) (hb : b'.holds w0.heap.size w) (hbw : b'.wr = false)
    (hat : ∀ k, b'.at k → b.at k ∨ ∃ q f, L[q]? = some f ∧ f.at k ∧ ∀ i, p i ≠ some q)
    (hp : ∀ (i : Nat) f, Ln[i]? = some f → f = deadF ∨ ∃ q, p i = some q ∧ L[q]? = some f) (inj : ∀ i i' q, p i = some q → p i' = some q → i = i') : Mem ob w0 w (b' :: Ln) := by
  obtain ⟨hbL, hLL⟩ := List.pairwise_cons.1 h.apart
  have hpair := List.pairwise_iff_getElem.1 hLL
  have two : ∀ {q q' : Nat} {f g : Fact}, L[q]? = some f → L[q']? = some g → q ≠ q' → (f.wr || g.wr) = true → ∀ k, f.at k → g.at k → False := fun {q q' f g} h1 h2 hne hw k k1 k2 => by
    obtain ⟨l1, rfl⟩ := List.getElem?_eq_some_iff.1 h1
    obtain ⟨l2, rfl⟩ := List.getElem?_eq_some_iff.1 h2
    rcases Nat.lt_or_gt_of_ne hne with hlt | hlt
    · exact hpair _ _ l1 l2 hlt hw k k1 k2
    · exact hpair _ _ l2 l1 hlt (by rw [Bool.or_comm]; exact hw) k k2 k1
  refine ⟨h.grown, fun f hf => ?_, fun f hf hw k hk => ?_, ?_⟩
  · rcases List.mem_cons.1 hf with rfl | hf
    · exact hb
    · obtain ⟨i, hi⟩ := List.getElem?_of_mem hf
      rcases hp i f hi with rfl | ⟨q, _, hq⟩
      · exact ⟨trivial, deadFirm⟩
      · exact h.holds f (List.mem_cons_of_mem _ (List.mem_of_getElem? hq))
  · rcases List.mem_cons.1 hf with rfl | hf
    · rw [hbw] at hw; cases hw
    · obtain ⟨i, hi⟩ := List.getElem?_of_mem hf
      rcases hp i f hi with rfl | ⟨q, _, hq⟩
      · cases hw
      · exact h.own f (List.mem_cons_of_mem _ (List.mem_of_getElem? hq)) hw k hk
  · rw [List.pairwise_cons]
    refine ⟨fun g hg hw k k1 k2 => ?_, List.pairwise_iff_getElem.2 fun i j hi hj hij hw k k1 k2 => ?_⟩
    · rw [hbw, Bool.false_or] at hw
      obtain ⟨i, hi⟩ := List.getElem?_of_mem hg
      rcases hp i g hi with rfl | ⟨q, hpq, hq⟩
      · exact k2
      · rcases hat k k1 with h1 | ⟨q', f, hq', h1, hno⟩
        · exact hbL g (List.mem_of_getElem? hq) (by rw [hw, Bool.or_true]) k h1 k2
        · exact two hq' hq (fun e => hno i (by rw [hpq, e])) (by rw [hw, Bool.or_true]) k h1 k2
    · rcases hp i _ (List.getElem?_eq_getElem hi) with e | ⟨q, hpq, hq⟩
      · rw [e] at k1; exact k1
      · rcases hp j _ (List.getElem?_eq_getElem hj) with e | ⟨q', hpq', hq'⟩
        · rw [e] at k2; exact k2
        · exact two hq hq' (fun e => by have := inj i j q hpq (e ▸ hpq'); omega) hw k k1 k2
theorem base_holds (hM : Mem none w0 w (baseF E ρ :: L)) : (baseF E ρ).holds w0.heap.size w := hM.holds _ List.mem_cons_self
theorem Mem.snoc {f : Fact} (h : Mem none w0 w (f :: baseF E ρ :: L)) : Mem none w0 w (baseF E ρ :: (L ++ [f])) := by
  have h1 := h.rot
  exact h1
theorem blk_new {n : Nat} : ∀ x ∈ [Value.pointer (some ⟨n, 0, none⟩)], ∀ k, blkV x = some k → n ≤ k := fun x hx k hk => by
  rw [List.mem_singleton.1 hx] at hk
  cases hk; exact Nat.le_refl _
/-- a new object -/
theorem Rel.new (h : Rel E w0 ρ σ S a w) {f : Fact} {x : Ob} {v : Value} (hm : ∀ L, Mem none w0 w (baseF E ρ :: L) → Mem none w0 w' (f :: baseF E ρ :: L)) (ho : ObR E ρ (σ ++ [v]) x v f) : Rel E w0 ρ (σ ++ [v]) { S with objs := S.objs ++ [x] } a w' := by
  obtain ⟨L, hO, hM⟩ := h.mem
  exact ⟨h.slots.mono fun _ _ hr => by simpa using hr.more [] [v], h.defers, h.n, h.known, ⟨L ++ [f], hO.push ho, (hm L hM).snoc⟩, h.pre, h.reach⟩
end

/-- the cells of a value -/
def cellsA : A1 → List C
  | .c x => [x]
  | .agg l => l
def C.one : C → Bool
  | .p _ => true
  | .fn _ _ => true
  | _ => false
theorem CPR.one {E : Env} {ρ : List Dat} {σ : List Value} {x : CP} {v : Value} (h : CPR E ρ σ x v) : v.oneCell' = true := by
  cases x with
  | tm t s =>
    obtain ⟨d, _, h2, rfl, h4⟩ := h
    cases h2 <;> first | rfl | assumption | cases h4
  | ref b off dyn =>
    obtain ⟨A, p, q, _, _, rfl⟩ := h
    rw [pt_eq]; rfl
  | own j => obtain ⟨_, A, n, c, rfl⟩ := h; rfl
  | nils => cases h; rfl
  | sb b off dyn n => obtain ⟨A, p, q, m, _, _, _, rfl⟩ := h; rfl
theorem CR.oneCell {E : Env} {ρ : List Dat} {σ : List Value} {x : C} {v : Value} (h : CR E ρ σ x v) (h1 : x.one = true) : v.oneCell' = true := by
  cases x with
  | unk => cases h1
  | undef => cases h1
  | p x => exact CPR.one h
  | fn f caps => obtain ⟨vs, _, rfl⟩ := h; rfl
theorem cells_of_one {v : Value} (h : v.oneCell' = true) : v.cells = #[v] := by cases v <;> first | rfl | cases h
theorem all_one {E : Env} {ρ : List Dat} {σ : List Value} {l : List C} {vs : List Value} (h : All2 (CR E ρ σ) l vs) (h1 : l.all C.one = true) : vs.toArray.all (·.oneCell') = true := by
  rw [Array.all_eq_true_iff_forall_mem]
  intro v hv
  obtain ⟨i, hi⟩ := List.getElem?_of_mem (by simpa using hv : v ∈ vs)
  obtain ⟨c, h2, h3⟩ := h.get2 hi
  exact h3.oneCell (List.all_eq_true.1 h1 c (List.mem_of_getElem? h2))
theorem cellsA_ok {E : Env} {ρ : List Dat} {σ : List Value} {x : A1} {v : Value} (h : AR E ρ σ x v) (h1 : (cellsA x).all C.one = true) : All2 (CR E ρ σ) (cellsA x) v.cells.toList := by
  cases x with
  | c x =>
    have : v.cells = #[v] := cells_of_one (CR.oneCell h (by simpa [cellsA] using h1))
    rw [this]; exact .one h
  | agg l => obtain ⟨vs, h2, rfl⟩ := h; exact h2
def zeroC (P : Program) (t : TypeId) : Option (List C) := match P.info? t with
  | some i => match i.zero with
    | some z => some (cellsA (match constA z with | .v x => x | .tup _ => .c .unk))
    | none => none
  | none => none
def putO (l : List AV) (d : Option Nat) (x : AV) : List AV := match d with
  | some d => l.set d x
  | none => l
def refO (j : Nat) : AV := .v (.c (.p (.ref (.ob j) 0 [])))

/-- store a cell where the condition holds -/
def stC (cs : List C) (off : Nat) (c : Tm) (x : C) : Option (List C) := match c with
  | .bool true => if off < cs.length then some (cs.set off x) else none
  | _ => match cs[off]?, x with
    | some (.p (.tm u s')), .p (.tm t s) => if s = s' then some (cs.set off (.p (.tm (mkIte c t u) s))) else none
    | _, _ => none
def mkAnd (a b : Tm) : Tm := match a with
  | .bool true => b
  | _ => .and a b
def stD (off : Nat) (x : C) : List (Tm × Nat × Nat) → Tm → Nat → List C → Option (List C)
  | [], c, o, cs => stC cs (off + o) c x
  | (i, st, m) :: l, c, o, cs => (List.range m).foldl (fun acc (k : Nat) => acc.bind fun cs => stD off x l (mkAnd c (.cmp .eq i (.int .i64 k))) (o + k * st) cs) (some cs)

def setMany : List Value → Nat → List Value → List Value
  | vs, _, [] => vs
  | vs, p, u :: us => setMany (vs.set p u) (p + 1) us
theorem setMany_eq : ∀ (us vs : List Value) (p : Nat), p + us.length ≤ vs.length → setMany vs p us = vs.take p ++ us ++ vs.drop (p + us.length)
  | [], vs, p, h => by simp [setMany]
  | u :: us, vs, p, h => by
    simp only [List.length_cons] at h
    rw [setMany, setMany_eq us (vs.set p u) (p + 1) (by simp; omega)]
    apply List.ext_getElem?
    intro i
    simp only [List.append_assoc, List.getElem?_append, List.length_take, List.length_set, List.length_cons, List.getElem?_take, List.getElem?_drop, List.getElem?_set]
    by_cases h1 : i < p
    · rw [if_pos (by omega), if_pos (by omega), if_neg (by omega), if_pos (by omega), if_pos h1]
    · by_cases h2 : i = p
      · subst h2
        rw [if_pos (by omega), if_pos (by omega), if_pos rfl, if_pos (by omega), if_neg (by omega), if_pos (by omega)]
        simp [show i - min i vs.length = 0 by omega]
      · rw [if_neg (show ¬ i < min (p + 1) vs.length by omega), if_neg (show ¬ i < min p vs.length by omega)]
        rw [show i - min p vs.length = (i - min (p + 1) vs.length) + 1 by omega]
        simp only [List.getElem?_cons_succ]
        by_cases h3 : i - min (p + 1) vs.length < us.length
        · rw [if_pos h3, if_pos (by omega)]
        · rw [if_neg h3, if_neg (by omega), if_neg (by omega)]
          congr 1; omega

/-- parts laid into cells -/
def fillC (place : Nat → Option (Nat × Nat)) : List C → List (Nat × List C) → Option (List C)
  | cs, [] => some cs
  | cs, (i, ys) :: rest => match place i with
    | none => none
    | some (off, size) => if ys.length ≠ size ∨ off + ys.length > cs.length then none else fillC place (cs.take off ++ ys ++ cs.drop (off + ys.length)) rest
theorem foldl_set : ∀ (us : List Value) (off k : Nat) (cs : Array Value), ((us.zipIdx k).foldl (fun cs (p : Value × Nat) => cs.setIfInBounds (off + p.2) p.1) cs).toList = setMany cs.toList (off + k) us
  | [], _, _, _ => rfl
  | u :: us, off, k, cs => by
    rw [List.zipIdx_cons, List.foldl_cons, foldl_set us off (k + 1), setMany, Array.toList_setIfInBounds, show off + (k + 1) = off + k + 1 by omega]
theorem fillC_ok {E : Env} {ρ : List Dat} {σ : List Value} {place : Nat → Option (Nat × Nat)} : ∀ {parts : List (Nat × List C)} {vps : List (Nat × Value)} {cs cs' : List C} {vs : Array Value}, All2 (fun (p : Nat × List C) (q : Nat × Value) => p.1 = q.1 ∧ All2 (CR E ρ σ) p.2 q.2.cells.toList) parts vps → All2 (CR E ρ σ) cs vs.toList → fillC place cs parts = some cs' →
    ∃ vs', Instr.fill place vs vps = some vs' ∧ All2 (CR E ρ σ) cs' vs'.toList
  | [], _, cs, cs', vs, hp, h, he => by cases hp; cases he; exact ⟨vs, rfl, h⟩
  | (i, ys) :: parts, _, cs, cs', vs, hp, h, he => by
    cases hp with
    | cons h1 h2 =>
    rename_i q vps
    obtain ⟨j, v⟩ := q
    obtain ⟨rfl, hv⟩ := h1
    simp only at hv
    simp only [fillC] at he
    split at he
    · cases he
    · rename_i off size hpl
      split at he
      · cases he
      · rename_i hc
        simp only [not_or, Decidable.not_not, Nat.not_lt, ne_eq] at hc
        obtain ⟨c1, c2⟩ := hc
        have l1 := hv.length
        have l2 := h.length
        simp only [Array.length_toList] at l1 l2
        let vs2 : Array Value := v.cells.zipIdx.foldl (fun cs (p : Value × Nat) => cs.setIfInBounds (off + p.2) p.1) vs
        have hvs2 : vs2.toList = vs.toList.take off ++ v.cells.toList ++ vs.toList.drop (off + v.cells.toList.length) := by
          have : vs2 = (v.cells.toList.zipIdx 0).foldl (fun cs (p : Value × Nat) => cs.setIfInBounds (off + p.2) p.1) vs := by
            simp only [vs2]
            rw [← Array.foldl_toList, Array.toList_zipIdx]
          rw [this, foldl_set, Nat.add_zero, setMany_eq]
          simp only [Array.length_toList]; omega
        have hrel : All2 (CR E ρ σ) (cs.take off ++ ys ++ cs.drop (off + ys.length)) vs2.toList := by
          rw [hvs2]
          have e1 : All2 (CR E ρ σ) (cs.take off) (vs.toList.take off) := All2.of (by simp [l2]) fun k a b ha hb => by
            rw [List.getElem?_take] at ha hb
            split at ha
            · rename_i hk
              rw [if_pos hk] at hb
              obtain ⟨b', g1, g2⟩ := h.get ha
              rw [hb] at g1; cases g1; exact g2
            · cases ha
          have e2 : All2 (CR E ρ σ) (cs.drop (off + ys.length)) (vs.toList.drop (off + v.cells.toList.length)) := All2.of (by simp [l1, l2]) fun k a b ha hb => by
            rw [List.getElem?_drop] at ha hb
            obtain ⟨b', g1, g2⟩ := h.get ha
            rw [show off + v.cells.toList.length + k = off + ys.length + k by simp [l1]] at hb
            rw [hb] at g1; cases g1; exact g2
          exact (e1.append hv).append e2
        obtain ⟨vs', f1, f2⟩ := fillC_ok h2 hrel he
        refine ⟨vs', ?_, f2⟩
        simp only [Instr.fill, hpl]
        rw [if_neg (by simp; omega)]
        exact f1
def partsOf (l : List AV) : List (Nat × Operand) → Option (List (Nat × List C))
  | [] => some []
  | (i, x) :: ps => match opd l x with
    | .v y => if (cellsA y).all C.one then (partsOf l ps).map ((i, cellsA y) :: ·) else none
    | .tup _ => none
def placesOf (P : Program) (t : TypeId) : Option (Nat → Option (Nat × Nat)) := match P.underlying t with
  | some (.array _ e) => (P.info? e).map fun ie => fun i => some (i * ie.size, ie.size)
  | some (.struct fs) => (fs.toList.mapM fun f => (P.info? f.type).map fun i => (f.offset, i.size)).map fun pl => (pl.toArray[·]?)
  | _ => none
def capsOf (l : List AV) : List Operand → Option (List CP)
  | [] => some []
  | x :: xs => match opd l x with
    | .v (.c (.p y)) => (capsOf l xs).map (y :: ·)
    | _ => none
/-- a row's terms, of the sorts -/
def rowTm : List Srt → List C → Option (List Tm)
  | [], [] => some []
  | s :: ss, .p (.tm t s') :: l => if s = s' ∧ s.one = true then (rowTm ss l).map (t :: ·) else none
  | .list r :: ss, .p .nils :: l => (rowTm ss l).map (.nil r :: ·)
  | _, _ => none
def rowsTm (ss : List Srt) : Nat → Tm → List (Nat × List C) → Option Tm
  | _, t, [] => some t
  | k, t, (i, ys) :: ps => if i = k then (rowTm ss ys).bind fun ts => rowsTm ss (k + 1) (.push t (econsL ts)) ps else none
def zeroRow (P : Program) (e : TypeId) (ss : List Srt) : Option (List Tm) := (zeroC P e).bind (rowTm ss)
/-- what an operation makes -/
def evalN (X : Ctx) (S : St) (o : Oper) : Option St := match o.op with
  | .alloc t => (zeroC X.P t).bind fun cs => if cs.all C.one then some { S with objs := S.objs ++ [.blk cs t], slots := putO S.slots o.dst (refO S.objs.length) } else none
  | .box t x => match opd S.slots x with
    | .v y => if (cellsA y).all C.one then some { S with objs := S.objs ++ [.blk (cellsA y) t], slots := putO S.slots o.dst (refO S.objs.length) } else none
    | .tup _ => none
  | .assign (.const (.slice none 0 0)) => match X.P.underlying o.type with
    | some (.slice e) => some { S with objs := S.objs ++ [.own e .emp], slots := putO S.slots o.dst (.v (.c (.p (.own S.objs.length)))) }
    | _ => none
  | .build t parts => (zeroC X.P t).bind fun z => if z.all C.one then (placesOf X.P t).bind fun pl => (partsOf S.slots parts.toList).bind fun ps => (fillC pl z ps).bind fun cs => some { S with slots := putO S.slots o.dst (.v (.agg cs)) } else none
  | .makeFunc (.func f) first caps => if first.size = 0 then (capsOf S.slots caps.toList).bind fun cs => some { S with slots := putO S.slots o.dst (.v (.c (.fn f cs))) } else none
  | .slice t x lo (some hi) (some mx) => match lo, opdI (opd S.slots hi), opdI (opd S.slots mx), X.P.underlying t with
    | none, some (.int .i64 0, .i64), some (.int .i64 0, .i64), some (.slice e) => (szT X.P e).bind fun _ => (match opd S.slots x with
      | .v (.c (.p (.tm _ (.list r)))) => if e = r then some { S with objs := S.objs ++ [.own r .emp], slots := putO S.slots o.dst (.v (.c (.p (.own S.objs.length)))) } else none
      | _ => none)
    | _, _, _, _ => none
  | .buildSlice t n parts => match X.P.underlying t with
    | some (.slice e) => (partsOf S.slots parts.toList).bind fun ps => match rowsTm (X.Δ.row e) 0 .emp ps with
     | none => (szT X.P e).bind fun sz => if ps.map (·.1) = List.range' 0 n ∧ (ps.all fun p => p.2.length == sz) = true ∧ sz ≠ 0 ∧ n * sz ≤ 2 ^ 24 ∧ (zeroC X.P e).map (·.length) = some sz then
        some { S with objs := S.objs ++ [.blk (ps.flatMap (·.2)) e], slots := putO S.slots o.dst (.v (.c (.p (.sb (.ob S.objs.length) 0 [] n)))) } else none
     | some ct => if ps.length = n ∧ szT X.P e = some (X.Δ.row e).length ∧ (X.Δ.row e).length ≠ 0 ∧ n * (X.Δ.row e).length ≤ 2 ^ 24 ∧ (zeroC X.P e).map (·.length) = some (X.Δ.row e).length then
        some { S with objs := S.objs ++ [.own e ct], slots := putO S.slots o.dst (.v (.c (.p (.own S.objs.length)))) } else none
    | _ => none
  | _ => none
section
variable {E : Env} {w0 w w' : World} {ρ : List Dat} {σ : List Value} {S S' : St} {a : Act} {o : Oper} {L : List Fact} {Q : Exit → Act → World → Prop}
theorem putO_ok {sl : List AV} (h : All2 (VR E ρ σ) sl a.tmps.toList) {x : AV} {v : Value} (hv : VR E ρ σ x v) (d : Option Nat) : All2 (VR E ρ σ) (putO sl d x) (a.put d v).tmps.toList := by
  cases d with
  | none => exact h
  | some d => simp only [putO, Act.put, Array.toList_setIfInBounds]; exact h.set hv d
theorem put_defers (a : Act) (d : Option Nat) (v : Value) : (a.put d v).defers = a.defers := by cases d <;> rfl
theorem Rel.puts (h : Rel E w0 ρ σ S a w) {x : AV} {v : Value} (hv : VR E ρ σ x v) (d : Option Nat) : Rel E w0 ρ σ { S with slots := putO S.slots d x } (a.put d v) w :=
  ⟨putO_ok h.slots hv d, by rw [put_defers]; exact h.defers, h.n, h.known, h.mem, h.pre, h.reach⟩
theorem refO_ok {b : Nat} {ty : TypeId} {cs : List C} (h : Rel E w0 ρ σ S a w) : VR E ρ (σ ++ [.pointer (some ⟨b, 0, none⟩)]) (refO S.objs.length) (.pointer (some ⟨b, 0, none⟩)) := by
  obtain ⟨L, hO, _⟩ := h.mem
  exact ⟨some ⟨b, 0, none⟩, 0, 0, ⟨b, by rw [hO.l1]; simp, rfl, rfl⟩, rfl, rfl⟩
theorem partsOf_ok (h : Rel E w0 ρ σ S a w) : ∀ {ps : List (Nat × Operand)} {qs : List (Nat × List C)}, partsOf S.slots ps = some qs → All2 (fun (p : Nat × List C) (q : Nat × Value) => p.1 = q.1 ∧ All2 (CR E ρ σ) p.2 q.2.cells.toList) qs (ps.map fun p => (p.1, a.eval p.2))
  | [], qs, e => by cases e; exact .nil
  | (i, x) :: ps, qs, e => by
    simp only [partsOf] at e
    split at e
    case h_2 => cases e
    rename_i y hy
    split at e
    case isFalse => cases e
    rename_i h1
    simp only [Option.map_eq_some_iff] at e
    obtain ⟨qs', e1, rfl⟩ := e
    have hx := opd_ok h.slots x
    rw [hy] at hx
    exact .cons ⟨rfl, cellsA_ok (v := a.eval x) hx h1⟩ (partsOf_ok h e1)
theorem capsOf_ok (h : Rel E w0 ρ σ S a w) : ∀ {xs : List Operand} {cs : List CP}, capsOf S.slots xs = some cs → All2 (CPR E ρ σ) cs (xs.map a.eval)
  | [], cs, e => by cases e; exact .nil
  | x :: xs, cs, e => by
    simp only [capsOf] at e
    split at e
    case h_2 => cases e
    rename_i y hy
    simp only [Option.map_eq_some_iff] at e
    obtain ⟨cs', e1, rfl⟩ := e
    have hx := opd_ok h.slots x
    rw [hy] at hx
    exact .cons hx (capsOf_ok h e1)
theorem zeroC_ok (E : Env) (ρ : List Dat) (σ : List Value) {t : TypeId} {cs : List C} (hz : zeroC E.P t = some cs) (h1 : cs.all C.one = true) : ∃ i z, E.P.info? t = some i ∧ i.zero = some z ∧ All2 (CR E ρ σ) cs z.cells.toList := by
  unfold zeroC at hz
  split at hz
  case h_2 => cases hz
  rename_i i hi
  split at hz
  case h_2 => cases hz
  rename_i z hz'
  cases hz
  have hAV : ∃ y, constA z = .v y := by
    unfold constA; split <;> exact ⟨_, rfl⟩
  obtain ⟨y, hy⟩ := hAV
  rw [hy] at h1 ⊢
  exact ⟨i, z, hi, hz', cellsA_ok (by have := constA_ok E ρ σ z; rw [hy] at this; exact this) h1⟩
theorem placesOf_ok {P : Program} {t : TypeId} {pl : Nat → Option (Nat × Nat)} {i : TypeInfo} {z : Value} (hi : P.info? t = some i) (hz : i.zero = some z) (h : placesOf P t = some pl) {vps : List (Nat × Value)} {vs : Array Value} (hf : Instr.fill pl z.cells vps = some vs) : P.built t vps = some vs := by
  unfold placesOf at h
  unfold Program.built
  simp only [hi]
  split at h
  · rename_i n e hu
    simp only [Option.map_eq_some_iff] at h
    obtain ⟨ie, hie, rfl⟩ := h
    simp only [hu, hz, hie]; exact hf
  · rename_i fs hu
    simp only [Option.map_eq_some_iff] at h
    obtain ⟨ps, hps, rfl⟩ := h
    simp only [hu, hz, hps]; exact hf
  · cases h
theorem rowTm_ok : ∀ {ss : List Srt} {l : List C} {vs : List Value} {ts : List Tm}, All2 (CR E ρ σ) l vs → rowTm ss l = some ts → ∃ ds, All2 (Den E.Δ ρ) ts ds ∧ All2 (Has E.Δ) ss ds ∧ vs = ds.map Dat.toV
  | [], [], _, ts, h, e => by cases h; cases e; exact ⟨[], .nil, .nil, rfl⟩
  | s :: ss, .p (.tm t s') :: l, _, ts, h, e => by
    cases h with
    | cons h1 h2 =>
    have e' : (if s = s' ∧ s.one = true then (rowTm ss l).map (t :: ·) else none) = some ts := by cases s <;> exact e
    split at e'
    case isFalse => cases e'
    rename_i hs
    obtain ⟨rfl, ho⟩ := hs
    simp only [Option.map_eq_some_iff] at e'
    obtain ⟨ts', e1, rfl⟩ := e'
    obtain ⟨ds, i1, i2, rfl⟩ := rowTm_ok h2 e1
    obtain ⟨d, d1, d2, rfl, _⟩ := h1
    exact ⟨d :: ds, .cons d1 i1, .cons d2 i2, rfl⟩
  | .list r :: ss, .p .nils :: l, _, ts, h, e => by
    cases h with
    | cons h1 h2 =>
    simp only [rowTm, Option.map_eq_some_iff] at e
    obtain ⟨ts', e1, rfl⟩ := e
    obtain ⟨ds, i1, i2, rfl⟩ := rowTm_ok h2 e1
    cases h1
    exact ⟨.list (.slice none 0 0) (E.Δ.row r).length [] :: ds, .cons (fun _ => rfl) i1, .cons (.list r none 0 0 [] (by simp) (by simp)) i2, rfl⟩
  | [], _ :: _, _, _, _, e => by simp [rowTm] at e
  | s :: ss, [], _, _, _, e => by cases s <;> simp [rowTm] at e
  | s :: ss, .unk :: l, _, _, _, e => by cases s <;> simp [rowTm] at e
  | s :: ss, .undef :: l, _, _, _, e => by cases s <;> simp [rowTm] at e
  | s :: ss, .fn _ _ :: l, _, _, _, e => by cases s <;> simp [rowTm] at e
  | s :: ss, .p (.ref _ _ _) :: l, _, _, _, e => by cases s <;> simp [rowTm] at e
  | s :: ss, .p (.own _) :: l, _, _, _, e => by cases s <;> simp [rowTm] at e
  | s :: ss, .p (.sb _ _ _ _) :: l, _, _, _, e => by cases s <;> simp [rowTm] at e
  | .int _ :: ss, .p .nils :: l, _, _, _, e => by simp [rowTm] at e
  | .bool :: ss, .p .nils :: l, _, _, _, e => by simp [rowTm] at e
  | .str :: ss, .p .nils :: l, _, _, _, e => by simp [rowTm] at e
  | .err :: ss, .p .nils :: l, _, _, _, e => by simp [rowTm] at e
  | .val :: ss, .p .nils :: l, _, _, _, e => by simp [rowTm] at e
  | .rows _ :: ss, .p .nils :: l, _, _, _, e => by simp [rowTm] at e
theorem econsL_den {ts : List Tm} {ds : List Dat} (h : All2 (Den E.Δ ρ) ts ds) (e : List Dat) : (den E.Δ (ρ ++ e) (econsL ts)).row0 = ds := by
  rw [den_econsL]
  induction h with
  | nil => rfl
  | cons h _ ih => rw [List.map_cons, ih, h e]
/-- a row of the sort -/
def RowHas (Δ : Tab) (ss : List Srt) (row : List Dat) : Prop := row.length = ss.length ∧ ∀ (c : Nat) (s : Srt) (d : Dat), ss[c]? = some s → row[c]? = some d → Has Δ s d
theorem RowHas.of {Δ : Tab} {ss : List Srt} {ds : List Dat} (h : All2 (Has Δ) ss ds) : RowHas Δ ss ds := ⟨h.length.symm, fun c s d hs hd => by
  obtain ⟨d', h1, h2⟩ := h.get hs
  rw [hd] at h1; cases h1; exact h2⟩
theorem rowsTm_ok {ss : List Srt} : ∀ {ps : List (Nat × List C)} {vps : List (Nat × Value)} {k : Nat} {t t' : Tm} {xs : List (List Dat)}, All2 (fun (p : Nat × List C) (q : Nat × Value) => p.1 = q.1 ∧ All2 (CR E ρ σ) p.2 q.2.cells.toList) ps vps → Den E.Δ ρ t (.rows xs) → rowsTm ss k t ps = some t' →
    ∃ ys, Den E.Δ ρ t' (.rows (xs ++ ys)) ∧ (∀ row ∈ ys, RowHas E.Δ ss row) ∧ ys.length = ps.length ∧ flatV ys = (vps.map (·.2)).flatMap (fun v => v.cells.toList) ∧ vps.map (·.1) = List.range' k ps.length ∧ ∀ v ∈ vps.map (·.2), v.cells.size = ss.length
  | [], _, k, t, t', xs, hp, hd, e => by cases hp; cases e; exact ⟨[], by simpa using hd, by simp, rfl, rfl, rfl, by simp⟩
  | (i, ys) :: ps, _, k, t, t', xs, hp, hd, e => by
    cases hp with
    | cons h1 h2 =>
    rename_i q vps
    obtain ⟨j, v⟩ := q
    obtain ⟨rfl, hv⟩ := h1
    simp only [rowsTm] at e
    split at e
    case isFalse => cases e
    rename_i hik
    subst hik
    simp only [Option.bind_eq_some_iff] at e
    obtain ⟨ts, e1, e2⟩ := e
    obtain ⟨ds, r1, r2, r3⟩ := rowTm_ok hv e1
    have hd2 : Den E.Δ ρ (.push t (econsL ts)) (.rows (xs ++ [ds])) := fun e => by simp only [den, hd e, Dat.xs, econsL_den r1 e]
    obtain ⟨zs, i1, i2, i3, i4, i5, i6⟩ := rowsTm_ok h2 hd2 e2
    refine ⟨ds :: zs, by simpa using i1, ?_, by simp [i3], ?_, ?_, ?_⟩
    · intro row hr
      rcases List.mem_cons.1 hr with rfl | hr
      · exact RowHas.of r2
      · exact i2 row hr
    · have r3' : v.cells.toList = ds.map Dat.toV := r3
      have e1 : flatV (ds :: zs) = ds.map Dat.toV ++ flatV zs := by simp [flatV]
      rw [e1, i4, List.map_cons, List.flatMap_cons, r3']
    · simp only [List.map_cons, i5, List.length_cons, List.range'_succ]
    · intro u hu
      rcases List.mem_cons.1 hu with rfl | hu
      · have := r2.length
        have h3 := congrArg List.length r3
        simp at h3; omega
      · exact i6 u hu
theorem run_bs {P : Program} {t e : TypeId} {sz n : Nat} {i : TypeInfo} {z : Value} (hu : P.underlying t = some (.slice e)) (h1 : P.info? e = some i) (h2 : i.zero = some z) (h3 : i.size = sz) (h5 : z.cells.size = sz) {parts : Array (Nat × Value)} {vs : List Value} (hparts : parts.toList = (vs.zipIdx 0).map fun x => (x.2, x.1))
    (hlen : vs.length = n) (hpos : 0 < sz) (hbig : n * sz ≤ 2 ^ 24) (hsz : ∀ v ∈ vs, v.cells.size = sz) (w : World) :
    (Instr.buildSlice t n parts).run P w = .ok (.slice (some ⟨w.heap.size, 0, none⟩) n n) (w.alloc (.cells (vs.flatMap fun v => v.cells.toList).toArray e)) ∧
      Ow (w.alloc (.cells (vs.flatMap fun v => v.cells.toList).toArray e)) w.heap.size sz (.slice (some ⟨w.heap.size, 0, none⟩) n n) n (vs.flatMap fun v => v.cells.toList) := by
  subst h3
  have hfl : (vs.flatMap fun v => v.cells.toList).length = n * i.size := by
    rw [← hlen]
    clear hparts hbig hlen
    induction vs with
    | nil => simp
    | cons v vs ih =>
      rw [List.flatMap_cons, List.length_append, ih (fun u hu => hsz u (by simp [hu])), List.length_cons, Nat.add_mul]
      have := hsz v (by simp)
      simp [this]; omega
  rcases Nat.eq_zero_or_pos n with hn | hn
  · subst hn
    have : vs = [] := List.eq_nil_of_length_eq_zero hlen
    subst this
    have hp0 : parts = #[] := by apply Array.ext'; rw [hparts]; rfl
    subst hp0
    refine ⟨?_, Ow.empty w e w.heap.size _⟩
    have he : (Array.map (fun x => (default : Value)) (Array.range 0)) = #[] := by simp
    simp [Instr.buildSlice, run_underlying hu, sizeOf, typeInfo, h1, Instr.fill, newRow, newObj, he, Sem.run_bind]
    rfl
  have hrun := run_buildSlice (P := P) w t e n parts _ i z hu h1 h2 (by omega) (by have := Nat.mul_pos hn hpos; omega) (by
    rw [hparts]
    exact Great.fill_whole hpos vs _ hsz (by simp [hlen]))
  have hR := Row.new w (vs.flatMap fun v => v.cells.toList).toArray e
  refine ⟨hrun, ⟨_, n, rfl, Nat.le_refl _, hfl, fun hn => ⟨_, rfl, hR.lt, fun j u hu => ?_⟩, fun hn => ⟨_, 0, rfl, Nat.le_refl _, hR.lt, fun j hj => ⟨?_, hR.free _⟩⟩⟩⟩
  · rw [Addr.add_lit, Nat.zero_add]; exact hR.cell (by simpa using hu)
  · rw [Nat.zero_add, hR.cell (i := j) (v := (vs.flatMap fun v => v.cells.toList)[j]'(by omega)) (by simp [List.getElem?_eq_getElem (show j < (vs.flatMap fun v => v.cells.toList).length by omega)])]; rfl
theorem Rel.newOwn (h : Rel E w0 ρ σ S a w) {r : Nat} {t : Tm} {A : Option Addr} {n c : Nat} {xs : List (List Dat)} (hb : Below w.heap.size w w') (ho : Ow w' w.heap.size (E.Δ.row r).length (.slice A n c) n (flatV xs)) (hd : Den E.Δ ρ t (.rows xs)) (hh : Has E.Δ (.rows r) (.rows xs)) (hn : xs.length = n) (dst : Option Nat) :
    Rel E w0 ρ (σ ++ [.slice A n c]) { S with objs := S.objs ++ [.own r t], slots := putO S.slots dst (.v (.c (.p (.own S.objs.length)))) } (a.put dst (.slice A n c)) w' := by
  have hr := h.new (x := .own r t) (v := .slice A n c) (f := .ow (E.Δ.row r).length (.slice A n c) n (flatV xs)) (w' := w') (fun L hM => hM.addOw hb ho) ⟨A, n, c, xs, rfl, hd, hh, hn, rfl⟩
  obtain ⟨L, hO, _⟩ := h.mem
  exact hr.puts (x := .v (.c (.p (.own S.objs.length)))) (v := .slice A n c) ⟨by rw [hO.l1]; simp, A, n, c, rfl⟩ dst
theorem zero_size {P : Program} {e : TypeId} {i : TypeInfo} {m : Nat} (hi : P.info? e = some i) (h : (zeroC P e).map (·.length) = some m) : ∃ z, i.zero = some z ∧ z.cells.size = m := by
  rw [Option.map_eq_some_iff] at h
  obtain ⟨zc, hzc, hzl⟩ := h
  unfold zeroC at hzc
  rw [hi] at hzc
  simp only at hzc
  split at hzc
  case h_2 => cases hzc
  rename_i z hz
  refine ⟨z, hz, ?_⟩
  cases hzc
  rw [← hzl]
  cases z <;> simp [constA, cellsA, Value.cells]
theorem parts_zip {xs : List (Nat × Value)} {n : Nat} (h : xs.map (·.1) = List.range' 0 n) : xs = ((xs.map (·.2)).zipIdx 0).map fun x => (x.2, x.1) := by
  apply List.ext_getElem?
  intro k
  have e2 := congrArg (fun l => l[k]?) h
  simp only [List.getElem?_map] at e2
  simp only [List.getElem?_map, List.getElem?_zipIdx]
  cases hq : xs[k]? with
  | none => rfl
  | some p =>
    rw [hq] at e2
    have hk : k < n := by
      have h1 := (List.getElem?_eq_some_iff.1 hq).1
      have h2 := congrArg List.length h
      simp at h2; omega
    rw [List.getElem?_range' hk] at e2
    simp at e2
    simp [← e2]
theorem all2_flat {E : Env} {ρ : List Dat} {σ : List Value} {ps : List (Nat × List C)} {qs : List (Nat × Value)} (h : All2 (fun (p : Nat × List C) (q : Nat × Value) => p.1 = q.1 ∧ All2 (CR E ρ σ) p.2 q.2.cells.toList) ps qs) :
    All2 (CR E ρ σ) (ps.flatMap (·.2)) ((qs.map (·.2)).flatMap fun v => v.cells.toList) := by
  induction h with
  | nil => exact .nil
  | cons h _ ih =>
    simp only [List.flatMap_cons, List.map_cons]
    exact h.2.append ih
/-- a literal slice of what is no data: a block, and a slice over it -/
theorem ptrs_ok (h : Rel E w0 ρ σ S a w) {t e : TypeId} {n sz : Nat} {parts : Array (Nat × Operand)} {ps : List (Nat × List C)} (ho : o.op = .buildSlice t n parts) (hu : E.P.underlying t = some (.slice e))
    (hp : All2 (fun (p : Nat × List C) (q : Nat × Value) => p.1 = q.1 ∧ All2 (CR E ρ σ) p.2 q.2.cells.toList) ps (parts.toList.map fun p => (p.1, a.eval p.2)))
    (c1 : ps.map (·.1) = List.range' 0 n) (c2 : (ps.all fun p => p.2.length == sz) = true) (c3 : sz ≠ 0) (c4 : n * sz ≤ 2 ^ 24) (hsz : szT E.P e = some sz) (c5 : (zeroC E.P e).map (·.length) = some sz) :
    ∃ v σ' w' u, σ' = σ ++ v ∧ (∀ x ∈ v, ∀ k, blkV x = some k → w.heap.size ≤ k) ∧ Below w.heap.size w w' ∧ (execOp a.eval o).run E.P w = .ok (.value u) w' ∧ Rel E w0 ρ σ' { S with objs := S.objs ++ [.blk (ps.flatMap (·.2)) e], slots := putO S.slots o.dst (.v (.c (.p (.sb (.ob S.objs.length) 0 [] n)))) } (a.put o.dst u) w' := by
  simp only [szT, Option.map_eq_some_iff] at hsz
  obtain ⟨i, hi, hsz⟩ := hsz
  obtain ⟨z, hz, hzs⟩ := zero_size hi c5
  have hmap : ∀ {xs : List (Nat × List C)} {ys : List (Nat × Value)}, All2 (fun (p : Nat × List C) (q : Nat × Value) => p.1 = q.1 ∧ All2 (CR E ρ σ) p.2 q.2.cells.toList) xs ys → xs.map (·.1) = ys.map (·.1) ∧ ((xs.all fun p => p.2.length == sz) = true → ∀ v ∈ ys.map (·.2), v.cells.size = sz) := fun {xs ys} hh => by
    induction hh with
    | nil => exact ⟨rfl, fun _ v hv => by cases hv⟩
    | cons hh _ ih =>
      refine ⟨by rw [List.map_cons, List.map_cons, hh.1, ih.1], fun hall v hv => ?_⟩
      simp only [List.all_cons, Bool.and_eq_true, beq_iff_eq] at hall
      rcases List.mem_cons.1 hv with rfl | hv
      · have := hh.2.length
        simp only [Array.length_toList] at this
        simp only
        omega
      · exact ih.2 hall.2 v hv
  obtain ⟨m1, m2⟩ := hmap hp
  have hparts : (parts.map fun (i, x) => (i, a.eval x)).toList = (((parts.toList.map fun p => (p.1, a.eval p.2)).map (·.2)).zipIdx 0).map fun x => (x.2, x.1) := by
    rw [← parts_zip (n := n) (by rw [← m1]; exact c1)]
    simp
  have hlen : ((parts.toList.map fun p => (p.1, a.eval p.2)).map (·.2)).length = n := by
    have h1 := congrArg List.length c1
    have h2 := hp.length
    simp only [List.length_map, List.length_range'] at h1 h2 ⊢
    omega
  have hb := run_bs (P := E.P) (n := n) hu hi hz hsz hzs hparts hlen (Nat.pos_of_ne_zero c3) c4 (m2 c2) w
  have hc := all2_flat hp
  generalize hvs : (((parts.toList.map fun p => (p.1, a.eval p.2)).map (·.2)).flatMap fun v => v.cells.toList) = vs at hb hc
  refine ⟨[.pointer (some ⟨w.heap.size, 0, none⟩)], _, w.alloc (.cells vs.toArray e), .slice (some ⟨w.heap.size, 0, none⟩) n n, rfl, blk_new, (Below.refl _ _).alloc (Nat.le_refl _) _, ?_, ?_⟩
  · unfold execOp
    simp only [ho, Sem.run_bind, hb.1, Result.andThen_ok, Sem.run_pure]
  · have hr := h.new (x := .blk (ps.flatMap (·.2)) e) (v := .pointer (some ⟨w.heap.size, 0, none⟩)) (f := .row w.heap.size vs.toArray e) (w' := w.alloc (.cells vs.toArray e))
      (fun L hM => hM.addNew (f := .row w.heap.size vs.toArray e) ((Below.refl _ _).alloc (Nat.le_refl _) (.cells vs.toArray e)) (Row.new w vs.toArray e) (fun k hk => by cases hk; exact Nat.le_refl _))
      ⟨_, vs, rfl, hc.mono (fun _ _ hr => by simpa using hr.more [] _), rfl⟩
    obtain ⟨L, hO, _⟩ := h.mem
    exact hr.puts (x := .v (.c (.p (.sb (.ob S.objs.length) 0 [] n)))) (v := .slice (some ⟨w.heap.size, 0, none⟩) n n) ⟨some ⟨w.heap.size, 0, none⟩, 0, 0, n, ⟨w.heap.size, by rw [hO.l1]; simp, rfl, rfl⟩, rfl, Nat.le_refl _, by simp [Addr.add]⟩ o.dst
/-- a literal slice -/
theorem build_ok (h : Rel E w0 ρ σ S a w) {t : TypeId} {n : Nat} {parts : Array (Nat × Operand)} (ho : o.op = .buildSlice t n parts) {e : TypeId} (hu : E.P.underlying t = some (.slice e)) {ps : List (Nat × List C)} (hps : partsOf S.slots parts.toList = some ps) {ct : Tm} (hct : rowsTm (E.Δ.row e) 0 .emp ps = some ct)
    (hc : ps.length = n ∧ szT E.P e = some (E.Δ.row e).length ∧ (E.Δ.row e).length ≠ 0 ∧ n * (E.Δ.row e).length ≤ 2 ^ 24 ∧ (zeroC E.P e).map (·.length) = some (E.Δ.row e).length) :
    ∃ w', Below w.heap.size w w' ∧ (execOp a.eval o).run E.P w = .ok (.value (.slice (some ⟨w.heap.size, 0, none⟩) n n)) w' ∧ (∀ k, blkV (.slice (some ⟨w.heap.size, 0, none⟩) n n) = some k → w.heap.size ≤ k) ∧
      Rel E w0 ρ (σ ++ [.slice (some ⟨w.heap.size, 0, none⟩) n n]) { S with objs := S.objs ++ [.own e ct], slots := putO S.slots o.dst (.v (.c (.p (.own S.objs.length)))) } (a.put o.dst (.slice (some ⟨w.heap.size, 0, none⟩) n n)) w' := by
  obtain ⟨c1, c2, c3, c4, c5⟩ := hc
  have hp := partsOf_ok h hps
  obtain ⟨ys, y1, y2, y3, y4, y5, y6⟩ := rowsTm_ok (xs := []) hp (fun _ => rfl) hct
  replace c2 : szT E.P e = some (E.Δ.row e).length := c2
  replace c5 : (zeroC E.P e).map (·.length) = some (E.Δ.row e).length := c5
  simp only [szT, Option.map_eq_some_iff] at c2 c5
  obtain ⟨i, hi, hsz⟩ := c2
  obtain ⟨zc, hzc, hzl⟩ := c5
  have hz : ∃ z, i.zero = some z ∧ z.cells.size = (E.Δ.row e).length := by
    unfold zeroC at hzc
    rw [hi] at hzc
    simp only at hzc
    split at hzc
    case h_2 => cases hzc
    rename_i z hz
    refine ⟨z, hz, ?_⟩
    cases hzc
    rw [← hzl]
    cases z <;> simp [constA, cellsA, Value.cells]
  obtain ⟨z, hz, hzs⟩ := hz
  have hlenP := hp.length
  have hparts : (parts.map fun (i, x) => (i, a.eval x)).toList = ((((parts.toList.map fun p => (p.1, a.eval p.2)).map (·.2))).zipIdx 0).map fun x => (x.2, x.1) := by
    apply List.ext_getElem?
    intro k
    have e2 := congrArg (fun l => l[k]?) y5
    simp only [List.getElem?_map] at e2
    simp only [Array.toList_map, List.getElem?_map, List.getElem?_zipIdx]
    cases hq : parts.toList[k]? with
    | none => rfl
    | some p =>
      rw [hq] at e2
      have hk : k < ps.length := by
        have := (List.getElem?_eq_some_iff.1 hq).1
        simp at hlenP this; omega
      rw [List.getElem?_range' hk] at e2
      simp at e2
      simp [e2]
  have hb := run_bs (P := E.P) (n := n) hu hi hz hsz hzs hparts (by rw [List.length_map, ← hlenP]; exact c1) (Nat.pos_of_ne_zero c3) c4 y6 w
  refine ⟨_, (Below.refl _ _).alloc (Nat.le_refl _) _, ?_, fun k hk => (hb.2.blk_lt k hk).1, h.newOwn (xs := ys) ((Below.refl _ _).alloc (Nat.le_refl _) _) (by rw [y4]; exact hb.2) (by simpa using y1) (.rows _ _ (fun row hr => (y2 row hr).1) (fun row hr => (y2 row hr).2)) (by rw [y3]; exact c1) o.dst⟩
  unfold execOp
  simp only [ho, Sem.run_bind, hb.1, Result.andThen_ok, Sem.run_pure]
/-- an operation that makes something, and leaves what was there -/
theorem evalN_ok (h : Rel E w0 ρ σ S a w) (he : evalN E.cx S o = some S') : ∃ v σ' w' u, σ' = σ ++ v ∧ (∀ x ∈ v, ∀ k, blkV x = some k → w.heap.size ≤ k) ∧ Below w.heap.size w w' ∧ (execOp a.eval o).run E.P w = .ok (.value u) w' ∧ Rel E w0 ρ σ' S' (a.put o.dst u) w' := by
  unfold evalN at he
  split at he
  · rename_i t ho
    simp only [Option.bind_eq_some_iff] at he
    obtain ⟨cs, hz, he⟩ := he
    split at he
    case isFalse => cases he
    rename_i h1
    cases he
    unfold zeroC at hz
    split at hz
    case h_2 => cases hz
    rename_i i hi
    split at hz
    case h_2 => cases hz
    rename_i z hz'
    cases hz
    have hAV : ∃ y, constA z = .v y := by
      unfold constA; split <;> exact ⟨_, rfl⟩
    obtain ⟨y, hy⟩ := hAV
    rw [hy] at h1
    have hc : All2 (CR E ρ σ) (cellsA y) z.cells.toList := cellsA_ok (by have := constA_ok E ρ σ z; rw [hy] at this; exact this) h1
    refine ⟨[.pointer (some ⟨w.heap.size, 0, none⟩)], _, w.alloc (.cells z.cells t), .pointer (some ⟨w.heap.size, 0, none⟩), rfl, blk_new, (Below.refl _ _).alloc (Nat.le_refl _) _, ?_, ?_⟩
    · unfold execOp
      simp [ho, Instr.alloc, zeroValue, typeInfo, show E.P.info? t = some i from hi, hz', newVar, newRow, newObj, Sem.run_bind]
      rfl
    · have hr := h.new (x := .blk (cellsA y) t) (v := .pointer (some ⟨w.heap.size, 0, none⟩)) (f := .row w.heap.size z.cells t) (w' := w.alloc (.cells z.cells t))
        (fun L hM => hM.addNew (f := .row w.heap.size z.cells t) ((Below.refl _ _).alloc (Nat.le_refl _) (.cells z.cells t)) (Row.new w z.cells t) (fun k hk => by cases hk; exact Nat.le_refl _))
        ⟨_, z.cells.toList, rfl, hc.mono (fun _ _ hr => by simpa using hr.more [] _), rfl⟩
      have := hr.puts (refO_ok (ty := t) (cs := []) h) o.dst
      rw [hy]; exact this
  · rename_i t x ho
    split at he
    case h_2 => cases he
    rename_i y hy
    split at he
    case isFalse => cases he
    rename_i h1
    cases he
    have hx := opd_ok h.slots x
    rw [hy] at hx
    have hc := cellsA_ok (v := a.eval x) hx h1
    refine ⟨[.pointer (some ⟨w.heap.size, 0, none⟩)], _, w.alloc (.cells (a.eval x).cells t), .pointer (some ⟨w.heap.size, 0, none⟩), rfl, blk_new, (Below.refl _ _).alloc (Nat.le_refl _) _, ?_, ?_⟩
    · unfold execOp
      simp [ho, Instr.box, newVar, newRow, newObj, Sem.run_bind]
      rfl
    · have hr := h.new (x := .blk (cellsA y) t) (v := .pointer (some ⟨w.heap.size, 0, none⟩)) (f := .row w.heap.size (a.eval x).cells t) (w' := w.alloc (.cells (a.eval x).cells t))
        (fun L hM => hM.addNew (f := .row w.heap.size (a.eval x).cells t) ((Below.refl _ _).alloc (Nat.le_refl _) (.cells (a.eval x).cells t)) (Row.new w _ t) (fun k hk => by cases hk; exact Nat.le_refl _))
        ⟨_, (a.eval x).cells.toList, rfl, hc.mono (fun _ _ hr => by simpa using hr.more [] _), rfl⟩
      exact hr.puts (refO_ok (ty := t) (cs := []) h) o.dst
  · rename_i ho
    split at he
    case h_2 => cases he
    rename_i e hu
    cases he
    refine ⟨[.slice none 0 0], _, w, .slice none 0 0, rfl, (fun x hx k hk => by rw [List.mem_singleton.1 hx] at hk; cases hk), Below.refl _ _, ?_, ?_⟩
    · unfold execOp; simp [ho, Act.eval]
    · have hr := h.new (x := .own e .emp) (v := .slice none 0 0) (f := .ow (E.Δ.row e).length (.slice none 0 0) 0 (flatV [])) (w' := w)
        (fun L hM => hM.addNil _)
        ⟨none, 0, 0, [], rfl, fun _ => rfl, .rows e [] (by simp) (by simp), rfl, rfl⟩
      obtain ⟨L, hO, _⟩ := h.mem
      exact hr.puts (x := .v (.c (.p (.own S.objs.length)))) (v := .slice none 0 0) ⟨by rw [hO.l1]; simp, none, 0, 0, rfl⟩ o.dst
  · rename_i t parts ho
    simp only [Option.bind_eq_some_iff] at he
    obtain ⟨z, hz, he⟩ := he
    split at he
    case isFalse => cases he
    rename_i h1
    simp only [Option.bind_eq_some_iff, Option.some.injEq] at he
    obtain ⟨pl, hpl, ps, hps, cs, hcs, rfl⟩ := he
    obtain ⟨i, zv, hi, hzv, hzr⟩ := zeroC_ok E ρ σ hz h1
    obtain ⟨vs, f1, f2⟩ := fillC_ok (partsOf_ok h hps) hzr hcs
    have hb := placesOf_ok hi hzv hpl f1
    refine ⟨[], σ, w, .agg vs, by simp, (fun x hx => by cases hx), Below.refl _ _, ?_, h.puts (x := .v (.agg cs)) (v := .agg vs) ⟨vs.toList, f2, rfl⟩ o.dst⟩
    have hrun := run_build (P := E.P) w t (parts.map fun (i, x) => (i, a.eval x)) vs (by simpa using hb)
    unfold execOp
    simp only [ho, Sem.run_bind, hrun, Result.andThen_ok, Sem.run_pure]
  · rename_i f first caps ho
    split at he
    case isFalse => cases he
    rename_i hf
    simp only [Option.bind_eq_some_iff, Option.some.injEq] at he
    obtain ⟨cs, hcs, rfl⟩ := he
    have hc := capsOf_ok h hcs
    refine ⟨[], σ, w, .func (.func f) #[] (caps.map a.eval), by simp, (fun x hx => by cases hx), Below.refl _ _, ?_, h.puts (x := .v (.c (.fn f cs))) (v := .func (.func f) #[] (caps.map a.eval)) ⟨_, hc, by rw [← Array.toList_map, Array.toArray_toList]⟩ o.dst⟩
    have hfe : first = #[] := Array.eq_empty_of_size_eq_zero hf
    subst hfe
    unfold execOp
    simp [ho, Instr.makeFunc]
  · rename_i t x lo hi mx ho
    split at he
    case h_2 => cases he
    rename_i e hhi hmx hu
    simp only [Option.bind_eq_some_iff] at he
    obtain ⟨st, hst, he⟩ := he
    split at he
    case h_2 => cases he
    rename_i u r hx
    split at he
    case isFalse => cases he
    rename_i her
    subst her
    cases he
    have hxv := opd_ok h.slots x
    rw [hx] at hxv
    obtain ⟨d, f1, f2, f3, _⟩ := hxv
    cases f2 with
    | list _ A m c xs _ _ =>
    obtain ⟨n1, g1, e1⟩ := opdI_ok (opd_ok h.slots hi) hhi
    obtain ⟨n2, g2, e2⟩ := opdI_ok (opd_ok h.slots mx) hmx
    have q1 := g1.now
    have q2 := g2.now
    simp only [den, Dat.int.injEq, true_and] at q1 q2
    subst q1 q2
    refine ⟨_, _, w, .slice A 0 0, rfl, (fun x hx k hk => by rw [List.mem_singleton.1 hx] at hk; cases A <;> simp [blkV, blkOf] at hk), Below.refl _ _, ?_, h.newOwn (xs := []) (A := A) (n := 0) (c := 0) (Below.refl _ _) (Ow.zero w A _ _) (fun _ => rfl) (.rows _ [] (by simp) (by simp)) rfl o.dst⟩
    replace hu : E.P.underlying t = some (.slice e) := hu
    replace hst : szT E.P e = some st := hst
    simp only [szT, Option.map_eq_some_iff] at hst
    obtain ⟨ii, hii, rfl⟩ := hst
    have hb : (Instr.sliceBounds true m c none (some (.int .i64 0)) (some (.int .i64 0))).run E.P w = .ok (0, 0, 0) w := by
      simp [Instr.sliceBounds, Instr.sliceBound, asIntOf, Sem.run_bind]
    unfold execOp
    simp [ho, f3, e1, e2, Dat.toV, Instr.sliceAt, Instr.slice, Sem.run_bind, run_underlying hu, hb, sizeOf, typeInfo, hii]
  · rename_i t n parts ho
    split at he
    case h_2 => cases he
    rename_i e hu
    simp only [Option.bind_eq_some_iff] at he
    obtain ⟨ps, hps, he⟩ := he
    split at he
    · rename_i hnone
      simp only [Option.bind_eq_some_iff] at he
      obtain ⟨sz, hsz0, he⟩ := he
      split at he
      case isFalse => cases he
      rename_i hc
      obtain ⟨c1, c2, c3, c4, c5⟩ := hc
      cases he
      have hp := partsOf_ok h hps
      exact ptrs_ok h ho hu hp c1 c2 c3 c4 hsz0 c5
    rename_i ct hct
    split at he
    case isFalse => cases he
    rename_i hc
    cases he
    obtain ⟨w', b1, b2, b3, b4⟩ := build_ok h ho hu hps hct hc
    exact ⟨_, _, w', _, rfl, (fun x hx k hk => by rw [List.mem_singleton.1 hx] at hk; exact b3 k hk), b1, b2, b4⟩
  · cases he
end
end Go.Proofs.YtcigbgpdikadpaaDoor
end
