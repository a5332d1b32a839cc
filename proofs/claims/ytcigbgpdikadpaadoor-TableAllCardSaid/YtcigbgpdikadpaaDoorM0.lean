import Derived.Test.YtcigbgpdikadpaaDoorRows
import Derived.WalkKit
import Derived.ProofKit
import Derived.OpenShut
import Derived.Carry
import Derived.Lib.Hide
import Derived.Deep.WholeRow
import Derived.Deep.QuietTactic
import Derived.BigQuiet
import Derived.ChangeOld
import Derived.OrdersHeld
import Derived.Deep.RegionHeld3
import Derived.ArgAppend
import Derived.Deep.Draws
import Derived.Laws.CopyRow

set_option linter.unusedVariables false
set_option linter.unusedSimpArgs false

section
namespace Go.Proofs.YtcigbgpdikadpaaDoor
open Go.RowKit Go.ChangeShapes Go.WideShapes Go.ChangeAt

/-- what a call that makes memory of its own leaves: the value, and all that was there before -/
def Ret (w : World) (v : Value) (e : Ending) (w' : World) : Prop := e = .returned v ∧ Below w.heap.size w w'

theorem Ret.mk {w w' : World} {v : Value} {e : Ending} (h : e = .returned v) (hb : Below w.heap.size w w') : Ret w v e w' := ⟨h, hb⟩

theorem ret_int {k : IntKind} {a b : Int} (h : a = b) : Ending.returned (.int k a) = .returned (.int k b) := by rw [h]
theorem ret_int_v {k : IntKind} {a b : Int} {v : Value} (h : a = b) : Ending.returned (.tuple #[.int k a, v]) = .returned (.tuple #[.int k b, v]) := by rw [h]
theorem ret_bool {a b : Bool} (h : a = b) : Ending.returned (.bool a) = .returned (.bool b) := by rw [h]

/-- a row of n cells, told by a function -/
def rowOf (n : Nat) (g : Nat → Value) : Array Value := ((List.range n).map g).toArray

theorem size_rowOf (n : Nat) (g : Nat → Value) : (rowOf n g).size = n := by simp [rowOf]
theorem rowOf_get {n : Nat} (g : Nat → Value) {i : Nat} (h : i < n) : (rowOf n g)[i]? = some (g i) := by
  simp [rowOf, h]
theorem rowOf_get_none {n : Nat} (g : Nat → Value) {i : Nat} (h : n ≤ i) : (rowOf n g)[i]? = none := by
  simp [rowOf]; omega
theorem rowOf_congr {n : Nat} {g g' : Nat → Value} (h : ∀ i, i < n → g i = g' i) : rowOf n g = rowOf n g' := by
  unfold rowOf
  congr 1
  exact List.map_congr_left fun i hi => h i (List.mem_range.1 hi)
theorem rowOf_set (n : Nat) (g : Nat → Value) (i : Nat) (v : Value) : (rowOf n g).setIfInBounds i v = rowOf n (fun j => if j = i then v else g j) := by
  apply Array.ext_getElem?
  intro j
  rw [Array.getElem?_setIfInBounds, size_rowOf]
  by_cases hj : j < n
  · rw [rowOf_get _ hj, rowOf_get _ hj]
    by_cases e : i = j
    · subst e; simp [hj]
    · have e' : ¬ j = i := fun h => e h.symm
      simp [e, e']
  · rw [rowOf_get_none _ (by omega), rowOf_get_none _ (by omega)]
    split
    · rw [if_neg (by omega)]
    · rfl

theorem wrap_u64_nat (a m : Nat) : IntKind.u64.wrap ((a : Int) * 2 ^ m) = ((a * 2 ^ m % 18446744073709551616 : Nat) : Int) := by
  rw [IntKind.wrap_u64, Int.natCast_emod, Int.natCast_mul, Int.natCast_pow]; rfl

section
variable {P : Program} {ops : Array Oper} {rest : List Oper} {o : Oper} {a : Act} {w : World} {Q : Exit → Act → World → Prop}

/-- a new variable of an array's or a struct's type: its cells are the type's zero -/
theorem wpList_alloc_agg (hgd : o.guard = none) (t : TypeId) (ho : o.op = .alloc t) (cs : Array Value) (hz : (P.info? t).map (fun i => i.zero) = some (some (.agg cs)))
    (h : wpList P ops Q rest (a.put o.dst (.pointer (some ⟨w.heap.size, 0, none⟩))) (w.alloc (.cells cs t))) : wpList P ops Q (o :: rest) a w := by
  refine wpList_plain hgd fun K hK => ?_
  unfold Oper.wp execOp
  cases hq : P.info? t with
  | none => simp [hq] at hz
  | some i =>
    simp only [hq, Option.map_some, Option.some.injEq] at hz
    simp [ho, Instr.alloc, zeroValue, typeInfo, hq, hz, newVar, newRow, newObj, Value.cells, Sem.run_bind, Oper.upon]
    exact hK _ _ h

/-- a parameter that is laid in a variable of its own -/
theorem wpList_box_agg (hgd : o.guard = none) (t : TypeId) (x : Operand) (ho : o.op = .box t x) (cs : Array Value) (hx : a.eval x = .agg cs)
    (h : wpList P ops Q rest (a.put o.dst (.pointer (some ⟨w.heap.size, 0, none⟩))) (w.alloc (.cells cs t))) : wpList P ops Q (o :: rest) a w := by
  refine wpList_plain hgd fun K hK => ?_
  unfold Oper.wp execOp
  simp [ho, Instr.box, hx, newVar, newRow, newObj, Value.cells, Oper.upon]
  exact hK _ _ h

/-- a whole row into a block -/
theorem wpList_store_row (hgd : o.guard = none) (hdst : o.dst = none) (ty : TypeId) (x y : Operand) (ho : o.op = .store ty x y) (g : Nat) (hx : a.eval x = .pointer (some ⟨g, 0, none⟩)) (t : TypeId) (cs cs' : Array Value)
    (hy : a.eval y = .agg cs') (hg : w.heap[g]? = some (.cells cs t (0, 0))) (hi : (P.info? ty).map (·.size) = some cs'.size) (hs : cs.size = cs'.size) (h1 : cs'.all (·.oneCell') = true)
    (h : wpList P ops Q rest a (w.setRow g cs')) : wpList P ops Q (o :: rest) a w := by
  refine wpList_plain hgd fun K hK => ?_
  unfold Oper.wp execOp
  have hr := run_storeVar_row (P := P) w g t ty cs cs' hg hi hs h1
  simp only [ho, hx, hy, Instr.storeAt, Instr.sureAddr, Sem.run_bind, Sem.run_pure, Result.andThen_ok, hr, Oper.upon, hdst, Act.put]
  exact hK _ _ h

end

theorem heap_setRow_other (w : World) (g : Nat) (cs : Array Value) (k : Nat) (h : k ≠ g) : (w.setRow g cs).heap[k]? = w.heap[k]? := by
  simp only [World.setRow, Array.getElem?_modify]
  rw [if_neg (by omega)]
theorem below_setRow {B : Nat} {w w' : World} (h : Below B w w') {g : Nat} (hg : B ≤ g) (cs : Array Value) : Below B w (w'.setRow g cs) :=
  h.trans ⟨rfl, rfl, rfl, by simp [World.setRow], fun k hk => heap_setRow_other _ _ _ _ (by omega)⟩

theorem setRow_alloc_at (w : World) (c c' : Array Value) (t : TypeId) (n : Nat) (hn : n = w.heap.size) : (w.alloc (.cells c t)).setRow n c' = w.alloc (.cells c' t) := by
  subst hn; exact World.setRow_alloc_new w c c' t
theorem setRow_alloc_past (w : World) (o : Obj) (n : Nat) (c : Array Value) (hn : n < w.heap.size) : (w.alloc o).setRow n c = (w.setRow n c).alloc o := by
  simp only [World.setRow, World.alloc]
  congr 1
  apply Array.ext_getElem?
  intro i
  rw [Array.getElem?_modify, Array.getElem?_push, Array.getElem?_push, Array.getElem?_modify, Array.size_modify]
  by_cases h : n = i
  · subst h
    have h1 : ¬ n = w.heap.size := by omega
    simp [h1]
  · simp [h]

/-- a world in which at most new blocks have come: the class for a region that draws its order -/
structure Later (w : World) where
  to : World
  below : Below w.heap.size w to
instance (w : World) : Inhabited (Later w) := ⟨⟨w, Below.refl _ _⟩⟩
def later (w : World) (x : Later w) : World := x.to
@[go_sem] theorem later_cell {w : World} {x : Later w} {b o : Nat} (h : b < w.heap.size) : (later w x).cell? ⟨b, o, none⟩ = w.cell? ⟨b, o, none⟩ := x.below.cell (p := ⟨b, o, none⟩) h
theorem later_cell' {w : World} {x : Later w} {p : Addr} (h : p.block < w.heap.size) : (later w x).cell? p = w.cell? p := x.below.cell h

theorem wp_region_later {P : Program} {id : Nat} {Q : Exit → Act → World → Prop} {a : Act} {w : World} {l : List Oper} (hm : P.follows .mixedOrders = true) (hB : Region.lexB .any l.toArray = true)
    (h : wpQuiet P l.toArray (fun w' => ∃ x, w' = later w x) (fun a' => ∀ w', Below w.heap.size w w' → Q .normal a' w') l a) : (Code.region id l.toArray true).wp P Q a w := by
  refine wp_region_quiet (C := fun w' => ∃ x, w' = later w x) hm hB ⟨⟨w.drew, (Below.refl _ _).drew⟩, rfl⟩ ?_
  have e : (fun a' => ∀ w', Below w.heap.size w w' → Q .normal a' w') = fun a' => ∀ w', (∃ x, w' = later w x) → Q .normal a' w' := by
    funext a'
    apply propext
    constructor
    · rintro h w' ⟨x, rfl⟩; exact h _ x.below
    · intro h w' hb; exact h _ ⟨⟨w', hb⟩, rfl⟩
  rw [← e]
  simpa using h

theorem calls_later {P : Program} {f : FuncId} {args : Array Value} {w : World} {x : Later w} {v : Value} (h : Calls P f args (later w x) (Ret (later w x) v)) :
    Calls P f args (later w x) fun e w'' => e = .returned v ∧ ∃ y, w'' = later w y :=
  h.mono fun _ w'' ⟨he, hb⟩ => ⟨he, ⟨w'', x.below.trans (hb.mono x.below.size)⟩, rfl⟩
theorem calls_later_same {P : Program} {f : FuncId} {args : Array Value} {w : World} {x : Later w} {v : Value} (h : Calls P f args (later w x) fun e w' => e = .returned v ∧ later w x = w') :
    Calls P f args (later w x) fun e w'' => e = .returned v ∧ ∃ y, w'' = later w y :=
  h.mono fun _ _ ⟨he, hw⟩ => ⟨he, x, hw.symm⟩

theorem rowOf_oneCell {n : Nat} {g : Nat → Value} (h : ∀ i, i < n → (g i).oneCell' = true) : (rowOf n g).all (·.oneCell') = true := by
  simp only [rowOf, List.all_toArray, List.all_eq_true, List.mem_map, List.mem_range]
  rintro v ⟨i, hi, rfl⟩
  exact h i hi

end Go.Proofs.YtcigbgpdikadpaaDoor
end

section
namespace Go.Proofs.YtcigbgpdikadpaaDoor
open Go.ChangeShapes Go.WideShapes Go.ChangeAt Go.RowKit

theorem bd_i64 {n : Int} (h : (Lit.int .i64 n).wf = true) : -9223372036854775808 ≤ n ∧ n ≤ 9223372036854775807 := by
  simpa [Lit.wf, IntKind.min, IntKind.max, IntKind.signed, IntKind.bits] using h
theorem bd_u64 {n : Int} (h : (Lit.int .u64 n).wf = true) : 0 ≤ n ∧ n ≤ 18446744073709551615 := by
  simpa [Lit.wf, IntKind.min, IntKind.max, IntKind.signed, IntKind.bits] using h
theorem bd_u32 {n : Int} (h : (Lit.int .u32 n).wf = true) : 0 ≤ n ∧ n ≤ 4294967295 := by
  simpa [Lit.wf, IntKind.min, IntKind.max, IntKind.signed, IntKind.bits] using h
theorem bd_u8 {n : Int} (h : (Lit.int .u8 n).wf = true) : 0 ≤ n ∧ n ≤ 255 := by
  simpa [Lit.wf, IntKind.min, IntKind.max, IntKind.signed, IntKind.bits] using h

section
variable {H : Type} {enc : TypeId × Value → H} {P : Program}

theorem trodAll_below (hl : laidOutB P = true) {W W' : World} (hb : Below W.heap.size W W') :
    ∀ (ts : List TypeId) (vs : List Value) (ds : List (DataW H)) (ps : List MemPlace), (∀ t ∈ ts, P.readableRec t = true ∧ t < P.types.size) → (∀ x ∈ ps, x.block < W.heap.size) →
      DataW.TrodAll enc P W 0 (fun _ => true) true ts vs ds ps → DataW.TrodAll enc P W' 0 (fun b => decide (b < W.heap.size)) true ts vs ds ps
  | [], [], [], _, _, _, h => h
  | t :: ts, v :: vs, d :: ds, _, ht, hlt, h => by
    obtain ⟨p, q, h1, h2, rfl⟩ := h
    have ht1 := ht t (by simp)
    exact ⟨p, q, Below.trod hl ht1.1 ht1.2 h1 hb (fun x hx => hlt x (List.mem_append.2 (.inl hx))),
      trodAll_below hl hb ts vs ds q (fun t' ht' => ht t' (by simp [ht'])) (fun x hx => hlt x (List.mem_append.2 (.inr hx))) h2, rfl⟩
  | [], [], _ :: _, _, _, _, h => h.elim
  | [], _ :: _, _, _, _, _, h => h.elim
  | _ :: _, [], _, _, _, _, h => h.elim
  | _ :: _, _ :: _, [], _, _, _, h => h.elim

theorem post_law {f : Func} {s : ChangeSpec} {W W' : World} {args : Array Value} {ds gs : List (DataW H)} {before : List MemPlace} {B : TypeId} (hl : laidOutB P = true)
    (hW : DataW.Whole enc P f.params.toList s.vars false W args.toList ds gs before) (hv : s.vars = []) (hs : s.fn H (ds ++ gs) = { results := [.lit (.bool true)], args := ds })
    (hr : f.resultTypes = #[B]) (hB : P.underlying B = some .bool) (hp : ∀ t ∈ f.params.toList, P.readableRec t = true ∧ t < P.types.size) (hb : Below W.heap.size W W') :
    s.post enc P f false true false false W args (.bool true) W' := by
  have hlt : ∀ x ∈ before, x.block < W.heap.size := fun x hx => hW.lt x hx
  have hW' := hW
  obtain ⟨p, q, hA, hV, rfl, hfz, hnd⟩ := hW
  refine ⟨ds, gs, _, [], p, [], hW', ?_, ?_, ?_, hb.frame _, fun h => by cases h⟩
  · rw [hs, hr]
    exact trodAll_mk1 (shut_bool hB true)
  · rw [hs]
    exact trodAll_below hl hb _ _ _ _ hp (fun x hx => hlt x (List.mem_append.2 (.inl hx))) hA
  · rw [hs, hv]
    exact rfl
end
end Go.Proofs.YtcigbgpdikadpaaDoor
end

section
namespace Go.Proofs.YtcigbgpdikadpaaDoor
open Go.RowKit

def Lat (w : World) : World → Prop := fun w' => ∃ x, w' = later w x
theorem Lat.self (w : World) : Lat w w := ⟨⟨w, Below.refl _ _⟩, rfl⟩
theorem Lat.below {w w' : World} (h : Lat w w') : Below w.heap.size w w' := by obtain ⟨x, rfl⟩ := h; exact x.below
theorem Lat.of {w w' : World} (h : Below w.heap.size w w') : Lat w w' := ⟨⟨w', h⟩, rfl⟩
theorem Lat.trans {w w' w'' : World} (h : Lat w w') (k : Lat w' w'') : Lat w w'' := .of (h.below.trans (k.below.mono h.below.size))

/-- an operation that is no call of a function: it yields a value, or nothing -/
def plainOp : Op → Bool
  | .move _ | .assign _ | .pick .. | .load .. | .binOp .. | .unOp .. | .convert .. | .makeInterface .. | .slice .. | .fieldAddr .. | .field .. | .indexAddr .. | .index .. | .extract .. | .typeAssert .. => true
  | .call { callee := .builtin .len, .. } | .call { callee := .builtin .cap, .. } | .call { callee := .builtin .min, .. } | .call { callee := .builtin .max, .. } => true
  | _ => false

section
variable {P : Program} {ops : Array Oper} {md : Region.Mode}

/-- in every world that may be by then, the operation leaves v and does nothing else -/
def YieldsE (P : Program) (ops : Array Oper) (w : World) (o : Oper) (v : Value) (a : Act) : Prop :=
  (Region.wanted o (yielded ops a.tmps) = true ∧ ∀ w', Lat w w' → ((execOp a.eval o).run P w' = .ok (.value v) w' ∨ ((execOp a.eval o).run P w' = .ok .skip w' ∧ v = undef))) ∨
  (Region.wanted o (yielded ops a.tmps) = false ∧ v = undef)

theorem YieldsE.later {w w' : World} {o : Oper} {v : Value} {a : Act} (h : YieldsE P ops w o v a) (hw : Lat w w') : YieldsE P ops w' o v a :=
  h.imp (fun ⟨h1, h2⟩ => ⟨h1, fun w'' hw'' => h2 w'' (hw.trans hw'')⟩) id

theorem YieldsE.wpOp {i : Nat} {o : Oper} {v : Value} {a : Act} {Q : Exit → Act → World → Prop} (hi : ops[i]? = some o) {w : World} (hy : YieldsE P ops w o v a)
    {K : Act → World → Prop} (h : K (a.put o.dst v) w) : wpOp P ops Q i K a w := by
  unfold Go.wpOp
  simp only [hi]
  rcases hy with ⟨hw, hv⟩ | ⟨hw, rfl⟩
  · rcases hv w (Lat.self w) with e | ⟨e, rfl⟩
    · simp only [hw, if_true, Oper.wp, e, Oper.upon]; exact .inl h
    · simp only [hw, if_true, Oper.wp, e, Oper.upon]; exact .inl h
  · simp only [hw, Bool.false_eq_true, if_false]; exact h

theorem YieldsE.of_same {o : Oper} {v : Value} {a a' : Act} {w : World} (hy : YieldsE P ops w o v a) (he : execOp a'.eval o = execOp a.eval o)
    (hw : Region.wanted o (yielded ops a'.tmps) = Region.wanted o (yielded ops a.tmps)) : YieldsE P ops w o v a' := by
  unfold YieldsE at *
  rw [he, hw]
  exact hy

/-- the post that no panic meets -/
def calm (Q : Act → World → Prop) : Exit → Act → World → Prop
  | .normal, a, w => Q a w
  | _, _, _ => False

theorem wpOp_putE {Q : Act → World → Prop} {j : Nat} {oi oj : Oper} {v : Value} (hj : ops[j]? = some oj) (hap : oi.apart ops oj = true)
    (hsi : ∀ cs b, oi.op ≠ .select cs b) (hsj : ∀ cs b, oj.op ≠ .select cs b) {K : Act → World → Prop} {a : Act} {w : World}
    (hy : YieldsE P ops w oi v a) (h : wpOp P ops (calm Q) j K (a.put oi.dst v) w) :
    wpOp P ops (calm Q) j (fun a' w' => YieldsE P ops w oi v a' ∧ K (a'.put oi.dst v) w') a w := by
  obtain ⟨h1, h2, h3⟩ := Oper.apart_spec hap
  have keep : ∀ (a : Act), YieldsE P ops w oi v a → ∀ u, YieldsE P ops w oi v (a.put oj.dst u) := fun a hy u =>
    hy.of_same (execOp_put oi hsi a oj.dst u h3) (wanted_put oi a oj.dst u h3)
  have keepD : ∀ d, YieldsE P ops w oi v { a with defers := d :: a.defers } := fun d => hy.of_same rfl rfl
  unfold wpOp at *
  simp only [hj] at *
  rw [wanted_put oj a oi.dst v h1] at h
  split
  · rename_i hw
    simp only [hw, if_true] at h
    rcases h with h | ⟨hasks, hlets⟩
    case inr => exact .inr ⟨by unfold Oper.asks at *; rw [execOp_put oj hsj a oi.dst v h1] at hasks; exact hasks, hlets⟩
    refine .inl ?_
    unfold Oper.wp at *
    rw [execOp_put oj hsj a oi.dst v h1] at h
    generalize (execOp a.eval oj).run P w = r at *
    cases r with
    | ok n w' =>
      cases n <;> simp only [Oper.upon] at h ⊢
      case value u => exact ⟨keep a hy u, by rw [← Act.put_comm a v u h2]; exact h⟩
      case skip => exact ⟨keep a hy _, by rw [← Act.put_comm a v undef h2]; exact h⟩
      case defer d =>
        refine ⟨keep _ (keepD d) _, ?_⟩
        rw [← Act.put_comm _ v undef h2, ← Act.put_defers]
        exact h
      case enter f args =>
        refine Calls.mono h fun e w'' he => ?_
        cases e with
        | returned u => exact ⟨keep a hy u, by rw [← Act.put_comm a v u h2]; exact he⟩
        | panicked c => exact he
        | outgrown => exact he
      case row row args => exact Rows.mono h fun u w'' he => ⟨keep a hy u, by rw [← Act.put_comm a v u h2]; exact he⟩
    | halt x w' =>
      cases x <;> simp only [Oper.upon] at h ⊢
      case panic u => exact h
  · rename_i hw
    simp only [hw] at h
    exact ⟨keep a hy _, by rw [← Act.put_comm a v undef h2]; exact h⟩

/-- whatever order is picked from here on; each operation leaves what was there -/
def wpAnyE (P : Program) (md : Region.Mode) (ops : Array Oper) (Q : Act → World → Prop) : Nat → Array Bool → Act → World → Prop
  | 0, listed, a, w => Region.ready md ops listed = [] ∧ Q a w
  | fuel + 1, listed, a, w =>
    (Region.ready md ops listed = [] → Q a w) ∧
    ∀ i ∈ Region.ready md ops listed, wpOp P ops (calm Q) i (fun a' w' => Lat w w' ∧ wpAnyE P md ops Q fuel (listed.setIfInBounds i true) a' w') a w

theorem wpAny_of_E {Q : Act → World → Prop} : ∀ (fuel : Nat) (listed : Array Bool) (a : Act) (w : World), wpAnyE P md ops Q fuel listed a w → wpAny P md ops (calm Q) fuel listed a w
  | 0, _, _, _, h => h
  | fuel + 1, _, _, _, h => ⟨h.1, fun i hi => wpOp_mono (fun a' w' h' => wpAny_of_E fuel _ a' w' h'.2) (h.2 i hi)⟩

theorem wpAnyE_first {Q : Act → World → Prop} {i : Nat} {oi : Oper} {v : Value} (hi : ops[i]? = some oi) (hsel : ∀ (j : Nat) (o : Oper) cs b, ops[j]? = some o → o.op ≠ .select cs b) :
    ∀ (fuel : Nat) (listed : Array Bool) (a : Act) (w : World),
      (∀ j oj, ops[j]? = some oj → j ≠ i → listed.getD j true = false → (∀ e ∈ oj.after, Region.binds md e = true → e.on ≠ i) → oi.apart ops oj = true) →
      i ∈ Region.ready md ops listed → YieldsE P ops w oi v a →
      wpAnyE P md ops Q fuel (listed.setIfInBounds i true) (a.put oi.dst v) w → wpAnyE P md ops Q (fuel + 1) listed a w := by
  intro fuel
  induction fuel with
  | zero =>
    intro listed a w hfree hr hy H
    refine ⟨fun h => (by rw [h] at hr; cases hr), fun j hj => ?_⟩
    by_cases hji : j = i
    · subst hji; exact hy.wpOp hi ⟨Lat.self w, H⟩
    · have := ready_mono hj hji
      rw [H.1] at this
      cases this
  | succ fuel ih =>
    intro listed a w hfree hr hy H
    refine ⟨fun h => (by rw [h] at hr; cases hr), fun j hj => ?_⟩
    by_cases hji : j = i
    · subst hji; exact hy.wpOp hi ⟨Lat.self w, H⟩
    · have h1 := H.2 j (ready_mono hj hji)
      obtain ⟨hjun, oj, hoj, hall⟩ := mem_ready.1 hj
      have hnot : ∀ e ∈ oj.after, Region.binds md e = true → e.on ≠ i := fun e he hb heq => by
        have h1 := hall e he hb
        have h0 := (mem_ready.1 hr).1
        rw [heq] at h1
        rcases Nat.lt_or_ge i listed.size with h' | h'
        · simp [h'] at h0 h1; rw [h0] at h1; cases h1
        · simp [Array.getElem?_eq_none h'] at h1
      have h2 := wpOp_putE hoj (hfree j oj hoj hji hjun hnot) (fun cs b => hsel i oi cs b hi) (fun cs b => hsel j oj cs b hoj) hy h1
      have hfree' : ∀ k ok, ops[k]? = some ok → k ≠ i → (listed.setIfInBounds j true).getD k true = false →
          (∀ e ∈ ok.after, Region.binds md e = true → e.on ≠ i) → oi.apart ops ok = true := fun k ok hk hki hun hno => by
        refine hfree k ok hk hki ?_ hno
        by_cases hjk : j = k
        · subst hjk; exact hjun
        · rw [getD_set_ne true hjk] at hun; exact hun
      refine wpOp_mono (fun a' w' h3 => ⟨h3.2.1, ih (listed.setIfInBounds j true) a' w' hfree' (ready_mono hr (Ne.symm hji)) (h3.1.later h3.2.1) ?_⟩) h2
      rw [Array.setIfInBounds_comm _ _ hji]
      exact h3.2.2

/-- the walk: (true, i): operation i only reads; (false, i): it is a call, and no other may come up -/
def wpE (P : Program) (ops : Array Oper) (Q : Act → World → Prop) : List (Bool × Nat) → Act → World → Prop
  | [], a, w => Q a w
  | (true, i) :: rest, a, w => ∃ o, ops[i]? = some o ∧ wpQuiet P ops (fun w' => ∃ x, w' = later w x) (fun a' => wpE P ops Q rest a' w) [o] a
  | (false, i) :: rest, a, w => ∃ o, ops[i]? = some o ∧ if Region.wanted o (yielded ops a.tmps) then o.wp P a w (fun a' w' => Lat w w' ∧ wpE P ops Q rest a' w') (calm Q) else wpE P ops Q rest (a.put o.dst undef) w

def orderB (md : Region.Mode) (ops : Array Oper) : List (Bool × Nat) → Array Bool → Bool
  | [], listed => (Region.ready md ops listed).isEmpty
  | (true, i) :: rest, listed => (Region.ready md ops listed).contains i && Region.free md ops listed i && ((ops[i]?).map fun o => plainOp o.op).getD false && orderB md ops rest (listed.setIfInBounds i true)
  | (false, i) :: rest, listed => (Region.ready md ops listed == [i]) && orderB md ops rest (listed.setIfInBounds i true)

theorem plain_run {o : Oper} (h : plainOp o.op = true) (ρ : Operand → Value) (w w' : World) (n : Next) (hr : (execOp ρ o).run P w = .ok n w') : (∃ v, n = .value v) ∨ n = .skip := by
  have key : ∀ (s : Sem Value), (Sem.run P (do pure (Next.value (← s))) w = .ok n w') → ∃ v, n = .value v := fun s hs => by
    rw [Sem.run_bind] at hs
    cases hq : Sem.run P s w with
    | ok v w2 => rw [hq] at hs; simp at hs; exact ⟨v, hs.1.symm⟩
    | halt x w2 => rw [hq] at hs; simp [Result.andThen] at hs
  obtain ⟨dst, op, type, pos, after, guard⟩ := o
  cases op <;> simp only [plainOp, Bool.false_eq_true] at h <;> simp only [execOp] at hr
  all_goals try (exact .inl (key _ hr))
  case move => simp at hr; exact .inl ⟨_, hr.1.symm⟩
  case assign => simp at hr; exact .inl ⟨_, hr.1.symm⟩
  case pick c x y =>
    rw [Sem.run_bind] at hr
    cases hq : Sem.run P (asBool (ρ c)) w with
    | ok v w2 => rw [hq] at hr; simp at hr; exact .inl ⟨_, hr.1.symm⟩
    | halt x w2 => rw [hq] at hr; simp [Result.andThen] at hr
  case call c =>
    obtain ⟨callee, args, argTypes⟩ := c
    cases callee with
    | value f => simp at h
    | invoke r m => simp at h
    | builtin b =>
      cases b <;> simp at h <;> simp [resolve, invoke, builtin] at hr
      all_goals exact .inl (key _ (by simpa using hr))

theorem wpAnyE_of {Q : Act → World → Prop} (hs : Region.noSelect ops = true) : ∀ (l : List (Bool × Nat)) (listed : Array Bool) (a : Act) (w : World),
    orderB md ops l listed = true → wpE P ops Q l a w → wpAnyE P md ops Q l.length listed a w
  | [], listed, a, w, hB, h => ⟨by simpa [orderB] using hB, h⟩
  | (true, i) :: rest, listed, a, w, hB, h => by
    simp only [orderB, Bool.and_eq_true] at hB
    obtain ⟨⟨⟨hr, hf⟩, hp⟩, hB'⟩ := hB
    obtain ⟨o, ho, hq⟩ := h
    simp only [ho, Option.map_some, Option.getD_some] at hp
    simp only [wpQuiet] at hq
    have hY : ∃ v, YieldsE P ops w o v a ∧ wpE P ops Q rest (a.put o.dst v) w := by
      by_cases hw : Region.wanted o (yielded ops a.tmps) = true
      · rw [if_pos hw] at hq
        obtain ⟨v, hv, hK⟩ := hq
        refine ⟨v, .inl ⟨hw, fun w' hw' => ?_⟩, hK⟩
        have h1 := hv w' hw'
        unfold Oper.quietAt at h1
        cases hrun : (execOp a.eval o).run P w' with
        | ok n w'' =>
          rw [hrun] at h1
          rcases plain_run hp _ _ _ _ hrun with ⟨u, rfl⟩ | rfl
          · obtain ⟨e1, e2⟩ := h1; subst e1 e2; exact .inl rfl
          · obtain ⟨e1, e2⟩ := h1; subst e1 e2; exact .inr ⟨rfl, rfl⟩
        | halt x w'' => rw [hrun] at h1; exact h1.elim
      · rw [if_neg hw] at hq
        exact ⟨undef, .inr ⟨by simpa using hw, rfl⟩, hq⟩
    obtain ⟨v, hy, hK⟩ := hY
    exact wpAnyE_first ho (Region.noSelect_spec hs) rest.length listed a w (Region.free_spec ho hf) (by simpa using hr) hy (wpAnyE_of hs rest _ _ _ hB' hK)
  | (false, i) :: rest, listed, a, w, hB, h => by
    simp only [orderB, Bool.and_eq_true, beq_iff_eq] at hB
    obtain ⟨hr, hB'⟩ := hB
    obtain ⟨o, ho, hq⟩ := h
    refine ⟨fun h0 => (by rw [hr] at h0; cases h0), fun j hj => ?_⟩
    rw [hr] at hj
    obtain rfl : j = i := by simpa using hj
    unfold wpOp
    simp only [ho]
    split
    · rename_i hw
      rw [if_pos hw] at hq
      refine .inl ?_
      unfold Oper.wp at *
      generalize (execOp a.eval o).run P w = r at *
      cases r with
      | ok n w' =>
        cases n <;> simp only [Oper.upon] at hq ⊢
        case value u => exact ⟨hq.1, wpAnyE_of hs rest _ _ _ hB' hq.2⟩
        case skip => exact ⟨hq.1, wpAnyE_of hs rest _ _ _ hB' hq.2⟩
        case defer d => exact ⟨hq.1, wpAnyE_of hs rest _ _ _ hB' hq.2⟩
        case enter f args =>
          refine Calls.mono hq fun e w'' he => ?_
          cases e with
          | returned u => exact ⟨he.1, wpAnyE_of hs rest _ _ _ hB' he.2⟩
          | panicked c => exact he
          | outgrown => exact he
        case row row args => exact Rows.mono hq fun u w'' he => ⟨he.1, wpAnyE_of hs rest _ _ _ hB' he.2⟩
      | halt x w' =>
        cases x <;> simp only [Oper.upon] at hq ⊢
        case panic u => exact hq
    · rename_i hw
      rw [if_neg hw] at hq
      exact ⟨Lat.self w, wpAnyE_of hs rest _ _ _ hB' hq⟩

/-- one walk serves every order -/
theorem wp_region_E {id : Nat} {Q : Exit → Act → World → Prop} {a : Act} {w : World} (l : List (Bool × Nat)) (hm : P.follows .mixedOrders = true) (hs : Region.noSelect ops = true)
    (hl : l.length = ops.size) (hB : orderB .any ops l (Array.replicate ops.size false) = true)
    (h : wpE P ops (fun a' w' => Q .normal a' w') l a w.drew) : (Code.region id ops true).wp P Q a w := by
  refine Code.wp_mono (Q := calm (fun a' w' => Q .normal a' w')) (fun e a w h => ?_) (wp_region_any hm (wpAny_of_E _ _ _ _ ?_))
  · cases e <;> first | exact h | exact h.elim
  · rw [← hl]
    exact wpAnyE_of hs l _ _ _ (by rw [hl]; exact hB) h

def nth {α : Type} : List α → Nat → Option α
  | [], _ => none
  | x :: _, 0 => some x
  | _ :: l, n + 1 => nth l n
theorem nth_eq {α : Type} : ∀ (l : List α) (i : Nat), l.toArray[i]? = nth l i
  | [], i => by simp [nth]
  | x :: l, 0 => by simp [nth]
  | x :: l, i + 1 => by have := nth_eq l i; simp [nth] at *; exact this

theorem wpE_quiet {os : List Oper} {Q : Act → World → Prop} {i : Nat} {rest : List (Bool × Nat)} {a : Act} {w : World} {o : Oper} (ho : nth os i = some o)
    (h : wpQuiet P os.toArray (fun w' => ∃ x, w' = later w x) (fun a' => wpE P os.toArray Q rest a' w) [o] a) : wpE P os.toArray Q ((true, i) :: rest) a w := ⟨o, (nth_eq os i).trans ho, h⟩
theorem wpE_skip {os : List Oper} {Q : Act → World → Prop} {i : Nat} {rest : List (Bool × Nat)} {a : Act} {w : World} {o : Oper} (ho : nth os i = some o) (hw : Region.wanted o (yielded os.toArray a.tmps) = false)
    (h : wpE P os.toArray Q rest (a.put o.dst undef) w) : wpE P os.toArray Q ((false, i) :: rest) a w := ⟨o, (nth_eq os i).trans ho, by rw [if_neg (by rw [hw]; exact Bool.false_ne_true)]; exact h⟩
theorem wpE_event {os : List Oper} {Q : Act → World → Prop} {i : Nat} {rest : List (Bool × Nat)} {a : Act} {w : World} {o : Oper} (ho : nth os i = some o) (hw : Region.wanted o (yielded os.toArray a.tmps) = true)
    (h : ∀ K : Act → World → Prop, (∀ a' w', Lat w w' → wpE P os.toArray Q rest a' w' → K a' w') → o.wp P a w K (calm Q)) : wpE P os.toArray Q ((false, i) :: rest) a w :=
  ⟨o, (nth_eq os i).trans ho, by rw [if_pos hw]; exact h _ (fun _ _ h1 h2 => ⟨h1, h2⟩)⟩
theorem wpE_nil {Q : Act → World → Prop} {a : Act} {w : World} (h : Q a w) : wpE P ops Q [] a w := h

end
end Go.Proofs.YtcigbgpdikadpaaDoor
end

section
namespace Go.Proofs.YtcigbgpdikadpaaDoor
open Go.RowKit

theorem block_add (a : Addr) (n : Nat) : (a.add n).block = a.block := by unfold Addr.add; split <;> rfl
theorem add_add' (a : Addr) (i j : Nat) : (a.add i).add j = a.add (i + j) := by
  unfold Addr.add
  by_cases hi : i = 0 <;> by_cases hj : j = 0 <;> simp [hi, hj, Nat.add_assoc]

/-- the cells from an address on -/
def At (w : World) (A : Option Addr) (m : Nat) (xs : List Value) : Prop := 0 < m → ∃ ad, A = some ad ∧ ad.block < w.heap.size ∧ ∀ j u, xs[j]? = some u → w.cell? (ad.add j) = some u

/-- a slice value of m elements (of sz cells each) that holds the cells xs -/
def Rd (w : World) (sz : Nat) (v : Value) (m : Nat) (xs : List Value) : Prop := ∃ A c, v = .slice A m c ∧ m ≤ c ∧ xs.length = m * sz ∧ At w A m xs

/-- besides, what lies behind its length is the call's own, from block B on -/
def Sl (w : World) (B sz : Nat) (v : Value) (n : Nat) (xs : List Value) : Prop :=
  ∃ A c, v = .slice A n c ∧ n ≤ c ∧ xs.length = n * sz ∧ At w A n xs ∧
    (n < c → ∃ g off, A = some ⟨g, off, none⟩ ∧ B ≤ g ∧ g < w.heap.size ∧ ∀ j, j < c * sz → (w.cell? ⟨g, off + j, none⟩).isSome = true ∧ w.frozen? ⟨g, off + j, none⟩ = false)

/-- the block that an append may write -/
def ownOf : Value → Option Nat
  | .slice (some a) n c => if n < c then some a.block else none
  | _ => none

section
variable {w w' : World} {A : Option Addr} {B B' sz n m : Nat} {v x : Value} {xs news : List Value}

theorem At.mono (h : At w A m xs) (hs : w.heap.size ≤ w'.heap.size) (hk : ∀ p : Addr, p.block < w.heap.size → w'.cell? p = w.cell? p) : At w' A m xs := fun hm => by
  obtain ⟨ad, e, hb, hc⟩ := h hm
  exact ⟨ad, e, by omega, fun j u hu => (hk _ (by rw [block_add]; exact hb)).trans (hc j u hu)⟩
theorem Rd.below (h : Rd w sz v m xs) (hb : Below w.heap.size w w') : Rd w' sz v m xs := by
  obtain ⟨A, c, e, hc, hl, ha⟩ := h
  exact ⟨A, c, e, hc, hl, ha.mono hb.size fun p hp => hb.cell hp⟩
theorem Rd.len (h : Rd w sz v m xs) : xs.length = m * sz := by obtain ⟨A, c, e, hc, hl, ha⟩ := h; exact hl
theorem Sl.rd (h : Sl w B sz v n xs) : Rd w sz v n xs := by
  obtain ⟨A, c, e, hc, hl, ha, _⟩ := h
  exact ⟨A, c, e, hc, hl, ha⟩
theorem Sl.len (h : Sl w B sz v n xs) : xs.length = n * sz := h.rd.len
theorem Sl.below (h : Sl w B sz v n xs) (hb : Below w.heap.size w w') : Sl w' B sz v n xs := by
  obtain ⟨A, c, e, hc, hl, ha, ho⟩ := h
  refine ⟨A, c, e, hc, hl, ha.mono hb.size fun p hp => hb.cell hp, fun hn => ?_⟩
  obtain ⟨g, off, hA, hB, hg, hj⟩ := ho hn
  exact ⟨g, off, hA, hB, Nat.lt_of_lt_of_le hg hb.size, fun j hjc => by rw [hb.cell (p := ⟨g, off + j, none⟩) hg, hb.frozen (p := ⟨g, off + j, none⟩) hg]; exact hj j hjc⟩
theorem Sl.weak (h : Sl w B sz v n xs) (hB : B' ≤ B) : Sl w B' sz v n xs := by
  obtain ⟨A, c, e, hc, hl, ha, ho⟩ := h
  exact ⟨A, c, e, hc, hl, ha, fun hn => by obtain ⟨g, off, hA, hB', r⟩ := ho hn; exact ⟨g, off, hA, by omega, r⟩⟩
theorem Sl.nil (w : World) (B sz : Nat) : Sl w B sz (.slice none 0 0) 0 [] := ⟨none, 0, rfl, Nat.le_refl _, by simp, fun h => absurd h (by omega), fun h => absurd h (by omega)⟩

theorem World_isSome_setCells (b : Nat) : ∀ (vs : List Value) (o : Nat) (w : World) (x : Addr), (w.cell? x).isSome = true → ((w.setCells b o vs).cell? x).isSome = true
  | [], _, _, _, h => h
  | v :: vs, o, w, x, h => World_isSome_setCells b vs (o + 1) _ x (by
      by_cases e : (⟨b, o, none⟩ : Addr) = x
      · subst e
        obtain ⟨u, hu⟩ := Option.isSome_iff_exists.1 h
        rw [World.cell?_setCell_same (u := u) (h := hu)]; rfl
      · rw [World.cell?_setCell_other (h := e)]; exact h)

theorem setCells_heap (b : Nat) : ∀ (vs : List Value) (o : Nat) (w : World) (k : Nat), k ≠ b → (w.setCells b o vs).heap[k]? = w.heap[k]?
  | [], _, _, _, _ => rfl
  | v :: vs, o, w, k, hk => (setCells_heap b vs (o + 1) _ k hk).trans (Below.heap_setCell w ⟨b, o, none⟩ v k hk)
theorem setCells_size (b : Nat) : ∀ (vs : List Value) (o : Nat) (w : World), (w.setCells b o vs).heap.size = w.heap.size
  | [], _, _ => rfl
  | v :: vs, o, w => (setCells_size b vs (o + 1) _).trans (by simp)
theorem setCells_rest (b : Nat) : ∀ (vs : List Value) (o : Nat) (w : World), (w.setCells b o vs).os = w.os ∧ (w.setCells b o vs).tape = w.tape ∧ (w.setCells b o vs).output = w.output
  | [], _, _ => ⟨rfl, rfl, rfl⟩
  | _ :: vs, o, _ => setCells_rest b vs (o + 1) _
theorem grownBy_setCells (w : World) (b o : Nat) (vs : List Value) : w.grownBy (w.setCells b o vs) (some b) :=
  ⟨(setCells_rest b vs o w).1, (setCells_rest b vs o w).2.1, (setCells_rest b vs o w).2.2, by rw [setCells_size]; exact Nat.le_refl _, fun k _ hk => setCells_heap b vs o w k (fun e => hk (by rw [e]))⟩
theorem Sl.ownOf_ge (h : Sl w B sz v n xs) : ∀ k, ownOf v = some k → B ≤ k := by
  obtain ⟨A, c, rfl, hc, hl, ha, ho⟩ := h
  intro k hk
  cases A with
  | none => simp [ownOf] at hk
  | some a =>
    simp only [ownOf] at hk
    split at hk
    · rename_i hn
      obtain ⟨g, off, hA, hB, _⟩ := ho hn
      cases hA
      cases hk
      exact hB
    · cases hk

variable {P : Program}

theorem append_none (t ty e : TypeId) (i : TypeInfo) (ht : P.underlying t = some (.slice e)) (hi : P.info? e = some i) (A A' : Option Addr) (n c c' : Nat) (hc : n ≤ c) (w : World) :
    (Builtin.append_ #[t, t] ty #[.slice A n c, .slice A' 0 c']).run P w = .ok (.slice A n c) w := by
  cases A <;> cases A' <;> simp [Builtin.append_, run_underlying ht, sizeOf, typeInfo, hi, Builtin.lenOf, Builtin.firstCells, loadCells, loadCellsFrom, storeCells, hc]

theorem append_grow_any (t ty e : TypeId) (i : TypeInfo) (z : Value) (ht : P.underlying t = some (.slice e)) (hi : P.info? e = some i) (hz : i.zero = some z)
    (w : World) (A : Option Addr) (n c : Nat) (xs : List Value) (hl : xs.length = n * i.size) (ha : At w A n xs)
    (a : Addr) (m c' : Nat) (news : List Value) (hl' : news.length = m * i.size) (hnews : ∀ j v, news[j]? = some v → w.cell? (a.add j) = some v)
    (hA : A = none → c = 0) (hg : c < n + m) (h63 : ((n + m : Nat) : Int) ≤ 9223372036854775807) (hfit : Builtin.nextslicecap (n + m) c * i.bytes ≤ 281474976710656) :
    (Builtin.append_ #[t, t] ty #[.slice A n c, .slice (some a) m c']).run P w =
      .ok (.slice (some ⟨w.heap.size, 0, none⟩) (n + m) (grownCap w (n + m) c e)) (w.drew.alloc (.cells (xs.toArray ++ news.toArray ++ Builtin.zeroCells z.cells (grownCap w (n + m) c e - (n + m))) e)) := by
  cases A with
  | some b =>
    refine run_append_grow (P := P) w t ty e i z ht hi hz b n c xs hl (fun j u hu => ?_) a m c' news hl' hnews hg h63 hfit
    by_cases hn : 0 < n
    · obtain ⟨ad, e1, _, hc⟩ := ha hn
      cases e1
      exact hc j u hu
    · have h0 : n = 0 := by omega
      subst h0
      have : xs = [] := List.eq_nil_of_length_eq_zero (by simpa using hl)
      subst this
      simp at hu
  | none =>
    have hn : n = 0 := by
      apply Classical.byContradiction
      intro hn
      obtain ⟨ad, e1, _⟩ := ha (by omega)
      cases e1
    subst hn
    have : xs = [] := List.eq_nil_of_length_eq_zero (by simpa using hl)
    subst this
    obtain rfl := hA rfl
    simp only [Nat.zero_add] at *
    have := run_append_nil (P := P) w t ty e i z ht hi hz a m c' news hl' hnews (by omega) h63 (by
      have h2 := nextslicecap_zero (need := m) (by omega)
      rwa [h2] at hfit)
    rw [this]
    simp

theorem run_append_sl (t ty e : TypeId) (i : TypeInfo) (z : Value) (bytes : Nat) (ht : P.underlying t = some (.slice e)) (hi : P.info? e = some i) (hz : i.zero = some z)
    (hsize : i.size = sz) (hby : i.bytes = bytes) (hzs : z.cells.size = sz) (hs : Sl w B sz v n xs) (hr : Rd w sz x m news) (h1 : ∀ u ∈ news, u.oneCell' = true)
    (h63 : n + m ≤ maxLen) (hbytes : (n + m) * bytes ≤ 140737488355328) (hB : B ≤ w.heap.size) :
    ∃ v' w', (Builtin.append_ #[t, t] ty #[v, x]).run P w = .ok v' w' ∧ Sl w' B sz v' (n + m) (xs ++ news) ∧ w.grownBy w' (ownOf v) := by
  subst hsize hby
  obtain ⟨A, c, rfl, hc, hl, ha, ho⟩ := hs
  obtain ⟨A', c', rfl, hc', hl', ha'⟩ := hr
  have hlen : (xs ++ news).length = (n + m) * i.size := by rw [List.length_append, hl, hl', Nat.add_mul]
  by_cases hm : m = 0
  · subst hm
    have : news = [] := List.eq_nil_of_length_eq_zero (by simpa using hl')
    subst this
    refine ⟨_, w, append_none t ty e i ht hi A A' n c c' hc w, ?_, World.grownBy.refl w _⟩
    simp only [Nat.add_zero, List.append_nil]
    exact ⟨A, c, rfl, hc, hl, ha, ho⟩
  · obtain ⟨a, rfl, hab, hnews⟩ := ha' (by omega)
    by_cases hroom : n + m ≤ c
    · obtain ⟨g, off, rfl, hBg, hg, hj⟩ := ho (by omega)
      have hle : (n + m) * i.size ≤ c * i.size := Nat.mul_le_mul_right _ hroom
      rw [Nat.add_mul] at hle
      have hrun := run_append_room_cells (P := P) w t ty e i ht hi g off n c a m c' news hl' hnews h1 hroom
        (fun j hjl => by have := (hj (n * i.size + j) (by omega)).1; rwa [← Nat.add_assoc] at this)
        (fun j hjl => by have := (hj (n * i.size + j) (by omega)).2; rwa [← Nat.add_assoc] at this)
      refine ⟨_, _, hrun, ⟨some ⟨g, off, none⟩, c, rfl, hroom, hlen, fun _ => ⟨⟨g, off, none⟩, rfl, by rw [setCells_size]; exact hg, ?_⟩, fun _ => ⟨g, off, rfl, hBg, by rw [setCells_size]; exact hg, ?_⟩⟩, ?_⟩
      · intro j u hu
        rw [Addr.add_lit]
        rcases Nat.lt_or_ge j xs.length with hjx | hjx
        · rw [List.getElem?_append_left hjx] at hu
          obtain ⟨ad, e1, _, hcell⟩ := ha (by
            rcases Nat.eq_zero_or_pos n with h0 | h0
            · subst h0; rw [hl] at hjx; omega
            · exact h0)
          cases e1
          rw [World.cell?_setCells_out g news _ w ⟨g, off + j, none⟩ (fun _ _ => .inl (show off + j < off + n * i.size by omega))]
          have := hcell j u hu
          rwa [Addr.add_lit] at this
        · rw [List.getElem?_append_right hjx] at hu
          have hk : j - xs.length < news.length := (List.getElem?_eq_some_iff.1 hu).1
          have := World.cell?_setCells_in g news (off + n * i.size) w (fun q hq => by
            have := (hj (n * i.size + q) (by omega)).1
            rwa [← Nat.add_assoc] at this) (j - xs.length) hk
          rw [show off + n * i.size + (j - xs.length) = off + j by omega] at this
          rw [this]
          rw [List.getElem?_eq_getElem hk] at hu
          exact hu
      · intro j hjc
        refine ⟨World_isSome_setCells g news _ w _ (hj j hjc).1, ?_⟩
        rw [World.frozen?_setCells]
        exact (hj j hjc).2
      · have : ownOf (.slice (some ⟨g, off, none⟩) n c) = some g := by simp only [ownOf]; rw [if_pos (by omega)]
        rw [this]
        exact grownBy_setCells w g _ news
    · have h63' : ((n + m : Nat) : Int) ≤ 9223372036854775807 := by simp only [maxLen] at h63; omega
      have hrun := append_grow_any t ty e i z ht hi hz w A n c xs hl ha a m c' news hl' hnews (fun hn => by
        subst hn
        have hn0 : n = 0 := by
          apply Classical.byContradiction
          intro h
          obtain ⟨ad, e1, _⟩ := ha (by omega)
          cases e1
        apply Classical.byContradiction
        intro h
        obtain ⟨g, off, e1, _⟩ := ho (by omega)
        cases e1) (by omega) h63' (growslice_fits (by omega) hbytes)
      have hge := grownCap_ge w (n + m) c e
      have hsz : ∀ q : Nat, (xs.toArray ++ news.toArray ++ Builtin.zeroCells z.cells (q - (n + m))).size = (n + m) * i.size + (q - (n + m)) * i.size := fun q => by
        simp only [Array.size_append, List.size_toArray, size_zeroCells, hzs, hl, hl', Nat.add_mul]
      generalize grownCap w (n + m) c e = q at *
      refine ⟨_, _, hrun, ⟨some ⟨w.heap.size, 0, none⟩, q, rfl, hge, hlen, fun _ => ⟨⟨w.heap.size, 0, none⟩, rfl, by simp, ?_⟩, fun _ => ⟨w.heap.size, 0, rfl, hB, by simp, ?_⟩⟩, ⟨rfl, rfl, rfl, by simp, fun k hk _ => (Below.heap_alloc w.drew _ k hk)⟩⟩
      · intro j u hu
        rw [Addr.add_lit, Nat.zero_add]
        have h := World.cell?_alloc_new (w := w.drew) (xs.toArray ++ news.toArray ++ Builtin.zeroCells z.cells (q - (n + m))) e j
        rw [World.size_drew] at h
        rw [h, Array.getElem?_append_left (by
          have := (List.getElem?_eq_some_iff.1 hu).1
          simpa using this)]
        simpa using hu
      · intro j hj
        rw [Nat.zero_add]
        have h := World.cell?_alloc_new (w := w.drew) (xs.toArray ++ news.toArray ++ Builtin.zeroCells z.cells (q - (n + m))) e j
        have h' := World.frozen?_alloc_new (w := w.drew) (xs.toArray ++ news.toArray ++ Builtin.zeroCells z.cells (q - (n + m))) e j
        rw [World.size_drew] at h h'
        refine ⟨?_, h'⟩
        rw [h]
        have : j < (xs.toArray ++ news.toArray ++ Builtin.zeroCells z.cells (q - (n + m))).size := by
          rw [hsz, ← Nat.add_mul, show n + m + (q - (n + m)) = q by omega]; exact hj
        rw [Array.getElem?_eq_getElem this]
        rfl
end

section
variable {P : Program} {ops : Array Oper} {rest : List Oper} {o : Oper} {a : Act} {w : World} {Q : Exit → Act → World → Prop} {B sz n m : Nat} {v x : Value} {xs news : List Value}

theorem wpList_append_sl (hgd : o.guard = none) (s y : Operand) (t : TypeId) (ho : o.op = .call { callee := .builtin .append, args := #[s, y], argTypes := #[t, t] })
    (e : TypeId) (i : TypeInfo) (z : Value) (bytes : Nat) (ht : P.underlying t = some (.slice e)) (hi : P.info? e = some i) (hz : i.zero = some z) (hsize : i.size = sz) (hby : i.bytes = bytes) (hzs : z.cells.size = sz)
    (hs : Sl w B sz (a.eval s) n xs) (hr : Rd w sz (a.eval y) m news) (h1 : ∀ u ∈ news, u.oneCell' = true)
    (h63 : n + m ≤ maxLen) (hbytes : (n + m) * bytes ≤ 140737488355328) (hB : B ≤ w.heap.size)
    (h : ∀ v' w', Sl w' B sz v' (n + m) (xs ++ news) → Below B w w' → w.grownBy w' (ownOf (a.eval s)) → wpList P ops Q rest (a.put o.dst v') w') : wpList P ops Q (o :: rest) a w := by
  refine wpList_plain hgd fun K hK => ?_
  obtain ⟨v', w', hrun, h2, h3⟩ := run_append_sl (P := P) t o.type e i z bytes ht hi hz hsize hby hzs hs hr h1 h63 hbytes hB
  unfold Oper.wp execOp
  simp only [ho, resolve, invoke, builtin, Sem.run_bind, Sem.run_pure, Result.andThen_ok, List.map_toArray, List.map_cons, List.map_nil, hrun]
  exact hK _ _ (h v' w' h2 ((Below.refl _ _).grown h3 hB hs.ownOf_ge) h3)
end
def u8s (l : List Nat) : List Value := l.map fun n : Nat => Value.int .u8 (n : Int)
def i64s (l : List Int) : List Value := l.map fun n : Int => Value.int .i64 n
theorem u8s_one (l : List Nat) : ∀ u ∈ u8s l, u.oneCell' = true := by
  intro u hu; simp only [u8s, List.mem_map] at hu; obtain ⟨n, _, rfl⟩ := hu; rfl
theorem i64s_one (l : List Int) : ∀ u ∈ i64s l, u.oneCell' = true := by
  intro u hu; simp only [i64s, List.mem_map] at hu; obtain ⟨n, _, rfl⟩ := hu; rfl
theorem u8s_append (a b : List Nat) : u8s (a ++ b) = u8s a ++ u8s b := by simp [u8s]
theorem i64s_append (a b : List Int) : i64s (a ++ b) = i64s a ++ i64s b := by simp [i64s]
theorem u8s_len (a : List Nat) : (u8s a).length = a.length := by simp [u8s]
theorem i64s_len (a : List Int) : (i64s a).length = a.length := by simp [i64s]

/-- what a function leaves that hands back a slice of its own -/
def RetSl (w : World) (sz n : Nat) (xs : List Value) (e : Ending) (w' : World) : Prop := ∃ v, e = .returned v ∧ Sl w' w.heap.size sz v n xs ∧ Below w.heap.size w w'

def Ok64 (l : List Int) : Prop := ∀ n ∈ l, -9223372036854775808 ≤ n ∧ n ≤ 9223372036854775807

theorem take_snoc (l : List Int) (k : Nat) (h : k < l.length) : l.take (k + 1) = l.take k ++ [l[k]] := by
  rw [List.take_succ_eq_append_getElem h]
/-- an element of a slice of ints, asked for in a later world -/
theorem At.int {w wr : World} {A : Option Addr} {n k : Nat} {l : List Int} (h : At w A n (i64s l)) (hl : l.length = n) (hk : k < n) (hb : Below w.heap.size w wr) :
    ∃ ad, A = some ad ∧ wr.cell? (ad.add k) = some (.int .i64 (l[k]'(by omega))) := by
  obtain ⟨ad, e, hlt, hc⟩ := h (by omega)
  refine ⟨ad, e, ?_⟩
  rw [hb.cell (p := ad.add k) (by rw [block_add]; exact hlt)]
  refine hc k _ ?_
  simp only [i64s, List.getElem?_map]
  rw [List.getElem?_eq_getElem (by omega)]
  rfl

theorem news_one {w : World} {v : Value} {T : TypeId} : Rd (w.alloc (.cells #[v] T)) 1 (.slice (some ⟨w.heap.size, 0, none⟩) 1 1) 1 [v] := by
  refine ⟨_, 1, rfl, by omega, rfl, fun _ => ⟨_, rfl, by simp, fun j u hu => ?_⟩⟩
  match j, hu with
  | 0, hu => simp at hu; subst hu; simp [Addr.add]
theorem sl_empty (w : World) (T : TypeId) (B sz : Nat) : Sl (w.alloc (.cells #[] T)) B sz (.slice (some ⟨w.heap.size, 0, none⟩) 0 0) 0 [] :=
  ⟨_, 0, rfl, by omega, by simp, fun h => absurd h (by omega), fun h => absurd h (by omega)⟩


/-- the string of bytes -/
def strOf (l : List Nat) : ByteArray := ⟨(l.map UInt8.ofNat).toArray⟩
theorem strOf_append (a b : List Nat) : strOf a ++ strOf b = strOf (a ++ b) := by
  unfold strOf
  rw [ByteArray.mk_append_mk, List.map_append]
theorem strOf_size (a : List Nat) : (strOf a).size = a.length := by simp [strOf, ByteArray.size]
theorem strOf_fold (l : List Nat) : ∀ s : List UInt8, ((l.map fun n : Nat => (n : Int)).foldl (fun r n => r.push (UInt8.ofNat n.toNat)) (⟨s.toArray⟩ : ByteArray)) = ⟨(s ++ l.map UInt8.ofNat).toArray⟩ := by
  induction l with
  | nil => intro s; simp
  | cons n l ih =>
    intro s
    simp only [List.map_cons, List.foldl_cons, Int.toNat_natCast]
    have : (⟨s.toArray⟩ : ByteArray).push (UInt8.ofNat n) = ⟨(s ++ [UInt8.ofNat n]).toArray⟩ := by simp [ByteArray.push]
    rw [this, ih]
    simp

theorem run_str {P : Program} {w : World} {src dst e : TypeId} {v : Value} {n : Nat} {l : List Nat} (hs : P.underlying src = some (.slice e)) (he : P.underlying e = some (.int .u8)) (hd : P.underlying dst = some .string)
    (h : Rd w 1 v n (u8s l)) : (convert src dst v).run P w = .ok (.string (strOf l)) w := by
  obtain ⟨A, c, rfl, hc, hl, ha⟩ := h
  rw [run_convert_bytes_string w src dst e A n c hs he hd]
  rw [u8s_len] at hl
  cases A with
  | none =>
    have hn : n = 0 := by
      apply Classical.byContradiction
      intro hn
      obtain ⟨ad, e1, _⟩ := ha (by omega)
      cases e1
    subst hn
    have : l = [] := List.eq_nil_of_length_eq_zero (by omega)
    subst this
    simp [Conv.bytesToString, strOf]
    rfl
  | some ad =>
    have hload : (loadCells ad n).run P w = .ok (((l.map fun n : Nat => (n : Int)).map (Value.int .u8)).toArray) w := by
      have e1 : (l.map fun n : Nat => (n : Int)).map (Value.int .u8) = u8s l := by simp [u8s]
      rw [e1]
      have := run_loadCells_list (P := P) w ad (u8s l) (fun j u hu => by
        have hj : j < n := by
          have := (List.getElem?_eq_some_iff.1 hu).1
          rw [u8s_len] at this; omega
        obtain ⟨ad', e2, _, hcell⟩ := ha (by omega)
        cases e2
        exact hcell j u hu)
      rwa [u8s_len, show l.length = n by omega] at this
    have := run_bytesToString w ad n c (l.map fun n : Nat => (n : Int)) hload
    rw [this]
    congr 2
    have h0 := strOf_fold l []
    have e : ByteArray.empty = (⟨([] : List UInt8).toArray⟩ : ByteArray) := rfl
    rw [e, h0]
    rfl

/-- two strings behind one another -/
theorem run_add {P : Program} (w : World) (a b : List Nat) (h : a.length + b.length ≤ 9223372036854775807) : (Op.stringOp .add (strOf a) (strOf b)).run P w = .ok (.string (strOf (a ++ b))) w := by
  rw [run_string_add_sum (P := P) (w := w) (a := strOf a) (b := strOf b) (by rw [strOf_size, strOf_size]; exact h), strOf_append]

end Go.Proofs.YtcigbgpdikadpaaDoor
end

section
namespace Go.Proofs.YtcigbgpdikadpaaDoor
open Go.RowKit

/-- where a slice has elements, they stand in blocks from B on -/
def Fresh (B : Nat) (v : Value) : Prop := ∀ A n c, v = .slice A n c → 0 < n → ∃ ad, A = some ad ∧ B ≤ ad.block

section
variable {w w' : World} {A : Option Addr} {B B' sz n m : Nat} {v x : Value} {xs news : List Value} {P : Program}

theorem Fresh.nil (B : Nat) : Fresh B (.slice none 0 0) := fun A n c e h => by cases e; exact absurd h (by omega)
theorem Fresh.weak (h : Fresh B v) (hB : B' ≤ B) : Fresh B' v := fun A n c e hn => by
  obtain ⟨ad, e1, h1⟩ := h A n c e hn
  exact ⟨ad, e1, by omega⟩

theorem cell_grown {o : Option Nat} (hg : w.grownBy w' o) {p : Addr} (hp : p.block < w.heap.size) (hn : some p.block ≠ o) : w'.cell? p = w.cell? p := by
  have := hg.block p.block hp hn
  simp only [World.cell?, this]
theorem frozen_grown {o : Option Nat} (hg : w.grownBy w' o) {p : Addr} (hp : p.block < w.heap.size) (hn : some p.block ≠ o) : w'.frozen? p = w.frozen? p := by
  have := hg.block p.block hp hn
  simp only [World.frozen?, this]

theorem Sl.grown (h : Sl w B sz v n xs) (hf : Fresh B v) {o : Option Nat} (hg : w.grownBy w' o) (ho : ∀ k, o = some k → k < B) : Sl w' B sz v n xs := by
  have hsize := hg.size
  obtain ⟨A, c, rfl, hc, hl, ha, hs⟩ := h
  refine ⟨A, c, rfl, hc, hl, fun hn => ?_, fun hn => ?_⟩
  · obtain ⟨ad, e, hb, hcell⟩ := ha hn
    obtain ⟨ad', e', hB⟩ := hf A n c rfl hn
    rw [e] at e'
    cases e'
    refine ⟨ad, e, by omega, fun j u hu => ?_⟩
    rw [cell_grown hg (by rw [block_add]; exact hb) (by rw [block_add]; intro e2; have := ho _ e2.symm; omega)]
    exact hcell j u hu
  · obtain ⟨g, off, e, hB, hb, hj⟩ := hs hn
    refine ⟨g, off, e, hB, by omega, fun j hjc => ?_⟩
    have hne : some g ≠ o := fun e2 => by have := ho _ e2.symm; omega
    rw [cell_grown (p := ⟨g, off + j, none⟩) hg hb hne, frozen_grown (p := ⟨g, off + j, none⟩) hg hb hne]
    exact hj j hjc
theorem Sl.ownOf_lt (h : Sl w B sz v n xs) : ∀ k, ownOf v = some k → k < w.heap.size := by
  obtain ⟨A, c, rfl, hc, hl, ha, ho⟩ := h
  intro k hk
  cases A with
  | none => simp [ownOf] at hk
  | some a =>
    simp only [ownOf] at hk
    split at hk
    · rename_i hn
      obtain ⟨g, off, hA, hB, hg, _⟩ := ho hn
      cases hA
      cases hk
      exact hg
    · cases hk

theorem run_append_fr (t ty e : TypeId) (i : TypeInfo) (z : Value) (bytes : Nat) (ht : P.underlying t = some (.slice e)) (hi : P.info? e = some i) (hz : i.zero = some z)
    (hsize : i.size = sz) (hby : i.bytes = bytes) (hzs : z.cells.size = sz) (hs : Sl w B sz v n xs) (hr : Rd w sz x m news) (h1 : ∀ u ∈ news, u.oneCell' = true)
    (h63 : n + m ≤ maxLen) (hbytes : (n + m) * bytes ≤ 140737488355328) (hB : B ≤ w.heap.size) :
    ∃ v' w', (Builtin.append_ #[t, t] ty #[v, x]).run P w = .ok v' w' ∧ Sl w' B sz v' (n + m) (xs ++ news) ∧ w.grownBy w' (ownOf v) ∧ ((0 < m ∨ Fresh B v) → Fresh B v') := by
  obtain ⟨v', w', hrun, h2, h3⟩ := run_append_sl (P := P) t ty e i z bytes ht hi hz hsize hby hzs hs hr h1 h63 hbytes hB
  refine ⟨v', w', hrun, h2, h3, fun hor => ?_⟩
  subst hsize hby
  obtain ⟨A, c, rfl, hc, hl, ha, ho⟩ := hs
  obtain ⟨A', c', rfl, hc', hl', ha'⟩ := hr
  by_cases hm : m = 0
  · subst hm
    rw [append_none t ty e i ht hi A A' n c c' hc w] at hrun
    cases hrun
    rcases hor with h | h
    · exact absurd h (by omega)
    · exact h
  · obtain ⟨a, rfl, hab, hnews⟩ := ha' (by omega)
    by_cases hroom : n + m ≤ c
    · obtain ⟨g, off, rfl, hBg, hg, hj⟩ := ho (by omega)
      have hle : (n + m) * i.size ≤ c * i.size := Nat.mul_le_mul_right _ hroom
      rw [Nat.add_mul] at hle
      rw [run_append_room_cells (P := P) w t ty e i ht hi g off n c a m c' news hl' hnews h1 hroom
        (fun j hjl => by have := (hj (n * i.size + j) (by omega)).1; rwa [← Nat.add_assoc] at this)
        (fun j hjl => by have := (hj (n * i.size + j) (by omega)).2; rwa [← Nat.add_assoc] at this)] at hrun
      cases hrun
      intro A n c e _
      cases e
      exact ⟨_, rfl, hBg⟩
    · have h63' : ((n + m : Nat) : Int) ≤ 9223372036854775807 := by simp only [maxLen] at h63; omega
      rw [append_grow_any t ty e i z ht hi hz w A n c xs hl ha a m c' news hl' hnews (fun hn => by
        subst hn
        have hn0 : n = 0 := by
          apply Classical.byContradiction
          intro h
          obtain ⟨ad, e1, _⟩ := ha (by omega)
          cases e1
        apply Classical.byContradiction
        intro h
        obtain ⟨g, off, e1, _⟩ := ho (by omega)
        cases e1) (by omega) h63' (growslice_fits (by omega) hbytes)] at hrun
      cases hrun
      intro A n c e _
      cases e
      exact ⟨_, rfl, hB⟩

theorem wpList_append_fr {Q : Exit → Act → World → Prop} {ops : Array Oper} {rest : List Oper} {a : Act} {o : Oper} (hgd : o.guard = none) (s y : Operand) (t : TypeId) (ho : o.op = .call { callee := .builtin .append, args := #[s, y], argTypes := #[t, t] })
    (e : TypeId) (i : TypeInfo) (z : Value) (bytes : Nat) (ht : P.underlying t = some (.slice e)) (hi : P.info? e = some i) (hz : i.zero = some z) (hsize : i.size = sz) (hby : i.bytes = bytes) (hzs : z.cells.size = sz)
    (hs : Sl w B sz (a.eval s) n xs) (hr : Rd w sz (a.eval y) m news) (h1 : ∀ u ∈ news, u.oneCell' = true)
    (h63 : n + m ≤ maxLen) (hbytes : (n + m) * bytes ≤ 140737488355328) (hB : B ≤ w.heap.size)
    (h : ∀ v' w', Sl w' B sz v' (n + m) (xs ++ news) → Below B w w' → w.grownBy w' (ownOf (a.eval s)) → ((0 < m ∨ Fresh B (a.eval s)) → Fresh B v') → wpList P ops Q rest (a.put o.dst v') w') : wpList P ops Q (o :: rest) a w := by
  refine wpList_plain hgd fun K hK => ?_
  obtain ⟨v', w', hrun, h2, h3, h4⟩ := run_append_fr (P := P) t o.type e i z bytes ht hi hz hsize hby hzs hs hr h1 h63 hbytes hB
  unfold Oper.wp execOp
  simp only [ho, resolve, invoke, builtin, Sem.run_bind, Sem.run_pure, Result.andThen_ok, List.map_toArray, List.map_cons, List.map_nil, hrun]
  exact hK _ _ (h v' w' h2 ((Below.refl _ _).grown h3 hB hs.ownOf_ge) h3 h4)
end
end Go.Proofs.YtcigbgpdikadpaaDoor
end

section
namespace Go.Proofs.YtcigbgpdikadpaaDoor
open Go.RowKit Go.ChangeShapes Go.WideShapes Go.ChangeAt

/-- block b is just these cells -/
def Row (w : World) (b : Nat) (cs : Array Value) (T : TypeId) : Prop := w.heap[b]? = some (.cells cs T (0, 0))

section
variable {w w' : World} {b b' i : Nat} {cs cs' : Array Value} {T : TypeId} {v : Value} {B : Nat}

theorem Row.lt (h : Row w b cs T) : b < w.heap.size := (Array.getElem?_eq_some_iff.1 h).1
theorem Row.new (w : World) (cs : Array Value) (T : TypeId) : Row (w.alloc (.cells cs T)) w.heap.size cs T := heap_alloc_new w _
theorem Row.below (h : Row w b cs T) (hb : Below w.heap.size w w') : Row w' b cs T := (hb.block b h.lt).trans h
theorem Row.alloc (h : Row w b cs T) (o : Obj) : Row (w.alloc o) b cs T := h.below ((Below.refl _ _).alloc (Nat.le_refl _) _)
theorem Row.drew (h : Row w b cs T) : Row w.drew b cs T := h
theorem Row.cell (h : Row w b cs T) (hi : cs[i]? = some v) : w.cell? ⟨b, i, none⟩ = some v := by rw [cell_of_row w b i cs T (0, 0) h]; exact hi
theorem Row.free (h : Row w b cs T) (i : Nat) : w.frozen? ⟨b, i, none⟩ = false := by
  have h' : w.heap[b]? = some (.cells cs T (0, 0)) := h
  simp [World.frozen?, h']
theorem Row.set (h : Row w b cs T) (i : Nat) (v : Value) : Row (w.setCell ⟨b, i, none⟩ v) b (cs.setIfInBounds i v) T := heap_setCell_same w b i cs T v h
theorem Row.other (h : Row w b cs T) (hne : b ≠ b') (i : Nat) (v : Value) : Row (w.setCell ⟨b', i, none⟩ v) b cs T := (heap_setCell_other w ⟨b', i, none⟩ b v hne).trans h
theorem Row.setRow (h : Row w b cs T) (cs' : Array Value) : Row (w.setRow b cs') b cs' T := setRow_heap w b cs cs' T _ h
theorem Row.otherRow (h : Row w b cs T) (hne : b ≠ b') (cs' : Array Value) : Row (w.setRow b' cs') b cs T := (heap_setRow_other w b' cs' b hne).trans h
end

section
variable {P : Program} {ops : Array Oper} {rest : List Oper} {o : Oper} {a : Act} {w : World} {Q : Exit → Act → World → Prop}

theorem run_loadVar_cells (w : World) (ad : Addr) (ty : TypeId) (cs : Array Value) (d : TypeDesc)
    (hu : P.underlying ty = some d) (hd : (match d with | .struct _ | .array _ _ => true | _ => false) = true) (hi : (P.info? ty).map (·.size) = some cs.size) (hc : ∀ j v, cs[j]? = some v → w.cell? (ad.add j) = some v) :
    (loadVar ty ad).run P w = .ok (.agg cs) w := by
  have hl : (loadCells ad cs.toList.length).run P w = .ok cs.toList.toArray w := run_loadCells_list (P := P) w ad cs.toList (fun j v hv => hc j v (by simpa using hv))
  cases hq : P.info? ty with
  | none => simp [hq] at hi
  | some i =>
    have hs : i.size = cs.size := by simpa [hq] using hi
    have hagg : (isAgg ty).run P w = .ok true w := by
      unfold isAgg
      rw [Sem.run_bind, run_underlying hu w]
      cases d <;> simp_all
    simp only [Array.length_toList, Array.toArray_toList] at hl
    simp [loadVar, Sem.run_bind, hagg, sizeOf, typeInfo, hq, hs, hl]

theorem wpList_load_cells (hgd : o.guard = none) (ty : TypeId) (x : Operand) (ho : o.op = .load ty x) (ad : Addr) (hx : a.eval x = .pointer (some ad)) (cs : Array Value) (d : TypeDesc)
    (hu : P.underlying ty = some d) (hd : (match d with | .struct _ | .array _ _ => true | _ => false) = true) (hi : (P.info? ty).map (·.size) = some cs.size) (hc : ∀ j v, cs[j]? = some v → w.cell? (ad.add j) = some v)
    (h : wpList P ops Q rest (a.put o.dst (.agg cs)) w) : wpList P ops Q (o :: rest) a w := by
  refine wpList_plain hgd fun K hK => ?_
  unfold Oper.wp execOp
  simp only [ho, hx, Instr.loadAt, Instr.sureAddr, Sem.run_bind, Sem.run_pure, Result.andThen_ok, run_loadVar_cells w ad ty cs d hu hd hi hc]
  exact hK _ _ h
/-- the same where the row fills its block -/
theorem wpList_load_Row {b : Nat} {cs : Array Value} {T : TypeId} (hr : Row w b cs T) (hgd : o.guard = none) (ty : TypeId) (x : Operand) (ho : o.op = .load ty x) (hx : a.eval x = .pointer (some ⟨b, 0, none⟩)) (d : TypeDesc)
    (hu : P.underlying ty = some d) (hd : (match d with | .struct _ | .array _ _ => true | _ => false) = true) (hi : (P.info? ty).map (·.size) = some cs.size)
    (h : wpList P ops Q rest (a.put o.dst (.agg cs)) w) : wpList P ops Q (o :: rest) a w :=
  wpList_load_row hgd ty x ho b hx T cs (0, 0) d hr hu hd hi h
theorem wpList_wanted (hw : Region.wanted o (yielded ops a.tmps) = true) (h : ∀ K : Act → World → Prop, (∀ a w, wpList P ops Q rest a w → K a w) → o.wp P a w K Q) : wpList P ops Q (o :: rest) a w :=
  wpList_step fun K hK => by rw [if_pos hw]; exact h K hK
theorem wpList_load_cellsW (hw : Region.wanted o (yielded ops a.tmps) = true) (ty : TypeId) (x : Operand) (ho : o.op = .load ty x) (ad : Addr) (hx : a.eval x = .pointer (some ad)) (cs : Array Value) (d : TypeDesc)
    (hu : P.underlying ty = some d) (hd : (match d with | .struct _ | .array _ _ => true | _ => false) = true) (hi : (P.info? ty).map (·.size) = some cs.size) (hc : ∀ j v, cs[j]? = some v → w.cell? (ad.add j) = some v)
    (h : wpList P ops Q rest (a.put o.dst (.agg cs)) w) : wpList P ops Q (o :: rest) a w := by
  refine wpList_wanted hw fun K hK => ?_
  unfold Oper.wp execOp
  simp only [ho, hx, Instr.loadAt, Instr.sureAddr, Sem.run_bind, Sem.run_pure, Result.andThen_ok, run_loadVar_cells w ad ty cs d hu hd hi hc]
  exact hK _ _ h
/-- the same under a guard that holds -/
theorem wpList_load_RowW {b : Nat} {cs : Array Value} {T : TypeId} (hr : Row w b cs T) (hw : Region.wanted o (yielded ops a.tmps) = true) (ty : TypeId) (x : Operand) (ho : o.op = .load ty x) (hx : a.eval x = .pointer (some ⟨b, 0, none⟩)) (d : TypeDesc)
    (hu : P.underlying ty = some d) (hd : (match d with | .struct _ | .array _ _ => true | _ => false) = true) (hi : (P.info? ty).map (·.size) = some cs.size)
    (h : wpList P ops Q rest (a.put o.dst (.agg cs)) w) : wpList P ops Q (o :: rest) a w := by
  refine wpList_wanted hw fun K hK => ?_
  exact wp_load_row ty x ho b hx T cs (0, 0) d hr hu hd hi (hK _ _ h)
theorem wpList_store_Row {b : Nat} {cs cs' : Array Value} {T : TypeId} (hr : Row w b cs T) (hgd : o.guard = none) (hdst : o.dst = none) (ty : TypeId) (x y : Operand) (ho : o.op = .store ty x y) (hx : a.eval x = .pointer (some ⟨b, 0, none⟩))
    (hy : a.eval y = .agg cs') (hi : (P.info? ty).map (·.size) = some cs'.size) (hs : cs.size = cs'.size) (h1 : cs'.all (·.oneCell') = true)
    (h : wpList P ops Q rest a (w.setRow b cs')) : wpList P ops Q (o :: rest) a w :=
  wpList_store_row hgd hdst ty x y ho b hx T cs cs' hy hr hi hs h1 h
theorem results_Row {fn : Func} {p : Tmp} {ty : TypeId} {b : Nat} {cs : Array Value} {T : TypeId} (hr : Row w b cs T) (h : fn.results = #[.cell p ty]) (tmps : Array Value) (d : TypeDesc)
    (hp : tmps.getD p undef = .pointer (some ⟨b, 0, none⟩)) (hu : P.underlying ty = some d) (hd : (match d with | .struct _ | .array _ _ => true | _ => false) = true) (hi : (P.info? ty).map (·.size) = some cs.size) :
    (results fn tmps).run P w = .ok (.agg cs) w := results_cell_row h tmps w b T cs (0, 0) d hp hr hu hd hi
theorem results_Row2 {fn : Func} {p q : Tmp} {ty : TypeId} {b : Nat} {cs : Array Value} {T : TypeId} (hr : Row w b cs T) (h : fn.results = #[.cell p ty, .tmp q]) (tmps : Array Value) (d : TypeDesc)
    (hp : tmps.getD p undef = .pointer (some ⟨b, 0, none⟩)) (hu : P.underlying ty = some d) (hd : (match d with | .struct _ | .array _ _ => true | _ => false) = true) (hi : (P.info? ty).map (·.size) = some cs.size) :
    (results fn tmps).run P w = .ok (.tuple #[.agg cs, tmps.getD q undef]) w := by
  have hp' : tmps[p]?.getD undef = .pointer (some ⟨b, 0, none⟩) := by simpa using hp
  simp [results, h, hp', asAddr, run_loadVar_row w b T ty cs (0, 0) d hr hu hd hi]
end

section
variable {P : Program} {ops : Array Oper} {rest : List Oper} {o : Oper} {a : Act} {w : World} {Q : Exit → Act → World → Prop}
/-- what a store into a row leaves: that row is another, the others stand -/
structure Stored (w w' : World) (b : Nat) (cs : Array Value) (T : TypeId) : Prop where
  row : Row w' b cs T
  others : ∀ b' cs' T', b' ≠ b → Row w b' cs' T' → Row w' b' cs' T'
  below : ∀ B w0, Below B w0 w → B ≤ b → Below B w0 w'
  size : w'.heap.size = w.heap.size
  grown : w.grownBy w' (some b)
theorem run_store_cell (w : World) (b i : Nat) (t ty : TypeId) (cs : Array Value) (v : Value) (hg : Row w b cs t) (hi : i < cs.size) (hs : (P.info? ty).map (·.size) = some 1) (h1 : v.oneCell' = true) :
    ∃ w', (storeVar ty ⟨b, i, none⟩ v).run P w = .ok () w' ∧ Stored w w' b (cs.setIfInBounds i v) t := by
  have hr := run_storeCells_at (P := P) b i t [v] 0 cs w hg (by simp; omega) (fun x hx => by simp at hx; subst hx; exact h1)
  have hc : v.cells = #[v] := by cases v <;> first | rfl | cases h1
  cases hq : P.info? ty with
  | none => simp [hq] at hs
  | some ii =>
    have hs1 : ii.size = 1 := by simpa [hq] using hs
    have hrow : ((cs.toList.take (i + 0) ++ [v] ++ cs.toList.drop (i + 0 + [v].length)).toArray : Array Value) = cs.setIfInBounds i v := by
      rw [← Array.toList_inj]
      simp only [Nat.add_zero, List.length_singleton, Array.toList_setIfInBounds, List.append_assoc, List.singleton_append]
      rw [List.set_eq_take_append_cons_drop, if_pos (by simpa using hi)]
    rw [hrow] at hr
    refine ⟨w.setRow b (cs.setIfInBounds i v), by simp [storeVar, sizeOf, typeInfo, hq, hc, hs1, hr], hg.setRow _, fun b' cs' T' hne h => h.otherRow hne _, fun B w0 hb hB => below_setRow hb hB _, by simp [World.setRow], ⟨rfl, rfl, rfl, by simp [World.setRow], fun k _ hk => heap_setRow_other _ _ _ _ (fun e => hk (by rw [e]))⟩⟩
theorem wpList_store_cell {b i : Nat} {cs : Array Value} {T : TypeId} (hr : Row w b cs T) (hgd : o.guard = none) (hdst : o.dst = none) (ty : TypeId) (x y : Operand) (ho : o.op = .store ty x y) (hx : a.eval x = .pointer (some ⟨b, i, none⟩))
    (v : Value) (hy : a.eval y = v) (hi : i < cs.size) (hs : (P.info? ty).map (·.size) = some 1) (h1 : v.oneCell' = true)
    (h : ∀ w', Stored w w' b (cs.setIfInBounds i v) T → wpList P ops Q rest a w') : wpList P ops Q (o :: rest) a w := by
  refine wpList_plain hgd fun K hK => ?_
  obtain ⟨w', hrun, hst⟩ := run_store_cell (P := P) w b i T ty cs v hr hi hs h1
  unfold Oper.wp execOp
  simp only [ho, hx, hy, Instr.storeAt, Instr.sureAddr, Sem.run_bind, Sem.run_pure, Result.andThen_ok, hrun, Oper.upon, hdst, Act.put]
  exact hK _ _ (h w' hst)
end

section
variable {H : Type} {enc : TypeId × Value → H} {P : Program} {W : World}

theorem okWide_array {r : Reach} {b0 : Nat} {t e : TypeId} {n : Nat} {v : Value} (ht : P.underlying t = some (.array n e)) (h : Value.okWide P W r b0 t v) : ∃ cs : Array Value, v = .agg cs ∧ cs.size = P.cellsOf t := by
  simp only [Value.okWide, ht] at h
  obtain ⟨cs, h1, h2, _⟩ := h
  exact ⟨cs, h1, h2⟩
theorem list_of_nth {n : Nat} {cs : List Value} (hl : cs.length = n) {k : IntKind} (h : ∀ i, i < n → ∃ x : Int, (cs.drop i).take 1 = [.int k x] ∧ (Lit.int k x).wf = true) :
    ∃ f : Nat → Int, cs = (rowOf n fun i => .int k (f i)).toList ∧ ∀ i, i < n → (Lit.int k (f i)).wf = true := by
  refine ⟨fun i => if hi : i < n then Classical.choose (h i hi) else 0, ?_, fun i hi => ?_⟩
  · apply List.ext_getElem?
    intro i
    by_cases hi : i < n
    · obtain ⟨h1, _⟩ := Classical.choose_spec (h i hi)
      have e1 : (rowOf n fun i => Value.int k (if hi : i < n then Classical.choose (h i hi) else 0)).toList[i]? = some (.int k (Classical.choose (h i hi))) := by
        rw [Array.getElem?_toList, rowOf_get _ hi]; simp [hi]
      rw [e1]
      have := congrArg (fun l => l[0]?) h1
      simpa using this
    · rw [List.getElem?_eq_none (by omega), List.getElem?_eq_none (by simp [size_rowOf]; omega)]
  · simp only [hi, dif_pos]
    exact (Classical.choose_spec (h i hi)).2
/-- an array of numbers that came in -/
theorem open_arr_ints {r : Reach} {b0 n : Nat} {t e : TypeId} {k : IntKind} {v : Value} {d : DataW H} {ps : List MemPlace} (ht : P.underlying t = some (.array n e)) (he : P.underlying e = some (.int k)) (hc : P.cellsOf e = 1) (hct : P.cellsOf t = n)
    (hval : Value.okWide P W r b0 t v) (hd : DataW.Trod enc P W 0 (fun _ => true) true t v d ps) :
    ∃ f : Nat → Int, v = .agg (rowOf n fun i => .int k (f i)) ∧ ∀ i, i < n → (Lit.int k (f i)).wf = true := by
  obtain ⟨cs, rfl, hsz⟩ := okWide_array ht hval
  obtain ⟨fuel, hf⟩ := hd
  obtain ⟨xs, m, _, _, hl, hxl, hel⟩ := DataW.trod_array ht hf
  simp only [Value.cells] at hl hel
  obtain ⟨f, hcs, hwf⟩ := list_of_nth (n := n) (cs := cs.toList) (k := k) (by rw [hl, hct]) (fun i hi => by
    have h1 := hel i hi
    have hix : i < xs.length := by omega
    rw [hc, Nat.mul_one, List.getElem?_eq_getElem hix] at h1
    have h1' : DataW.trod enc P W 0 (fun _ => true) true m e ((cs.toList.drop i).take 1) = some (xs[i]) := h1
    have hone : ((cs.toList.drop i).take 1).length = 1 := by simp; rw [hsz, hct]; omega
    obtain ⟨c, hcc⟩ : ∃ c, (cs.toList.drop i).take 1 = [c] := by
      match hh : (cs.toList.drop i).take 1, hone with
      | [c], _ => exact ⟨c, rfl⟩
    rw [hcc] at h1' ⊢
    obtain ⟨a, ea, _, wa⟩ := DataW.trod_int he h1'
    exact ⟨a, ea, wa⟩)
  refine ⟨f, ?_, hwf⟩
  congr 1
  rw [← Array.toList_inj]; exact hcs
end

section
variable {P : Program} (w : World)
theorem run_part_int (e : TypeId) (k : IntKind) (he : P.underlying e = some (.int k)) (cs : Array Value) (i : Nat) (v : Value) (hv : cs[i]? = some v) : (part e cs i).run P w = .ok v w := by
  simp [part, isAgg, Sem.run_bind, run_underlying he, hv]
/-- arrays of numbers side by side -/
def sameTo (f g : Nat → Int) (s m : Nat) : Bool := (List.range' s m).all fun i => f i == g i
theorem sameTo_iff (f g : Nat → Int) (n : Nat) : sameTo f g 0 n = decide (∀ i, i < n → f i = g i) := by
  rw [Bool.eq_iff_iff]
  simp [sameTo]
theorem run_equalIn_arr (d n : Nat) (t e : TypeId) (k : IntKind) (f g : Nat → Int) (ht : P.underlying t = some (.array n e)) (he : P.underlying e = some (.int k)) (hs : (P.info? e).map (·.size) = some 1) :
    (Op.equalIn (d + 2) t (.agg (rowOf n fun i => .int k (f i))) (.agg (rowOf n fun i => .int k (g i)))).run P w = .ok (sameTo f g 0 n) w := by
  obtain ⟨ei, hei, hsz⟩ : ∃ ei, P.info? e = some ei ∧ ei.size = 1 := by
    cases hq : P.info? e with
    | none => simp [hq] at hs
    | some ei => exact ⟨ei, rfl, by simpa [hq] using hs⟩
  have hso : (sizeOf e).run P w = .ok 1 w := by simp [sizeOf, typeInfo, hei, hsz]
  rw [Op.equalIn]
  simp only [Sem.run_bind, run_underlying ht, Result.andThen_ok, hso, Nat.mul_one]
  rw [Std.Legacy.Range.forIn_eq_forIn_range']
  simp only [Std.Legacy.Range.size, Nat.sub_zero, Nat.add_sub_cancel, Nat.div_one]
  have key : ∀ (m s : Nat), s + m = n → ((forIn (List.range' s m) ((none, ()) : Option Bool × Unit) fun i r => do
      if (!(← Op.equalIn (d + 1) e (← part e (rowOf n fun i => .int k (f i)) i) (← part e (rowOf n fun i => .int k (g i)) i))) = true then pure (ForInStep.done (some false, ())) else pure (ForInStep.yield (none, ()))) : Sem _).run P w
      = .ok (if sameTo f g s m = true then (none, ()) else (some false, ())) w := by
    intro m
    induction m with
    | zero => intro s hs; rfl
    | succ m ih =>
      intro s hs
      rw [List.range'_succ, List.forIn_cons]
      simp only [Sem.run_bind, run_part_int w e k he _ s _ (rowOf_get (fun i => Value.int k (f i)) (show s < n by omega)), run_part_int w e k he _ s _ (rowOf_get (fun i => Value.int k (g i)) (show s < n by omega)), Result.andThen_ok, run_equalIn_int w d e k k _ _ he]
      have hst : sameTo f g s (m + 1) = ((f s == g s) && sameTo f g (s + 1) m) := by simp [sameTo, List.range'_succ]
      rw [hst]
      cases hb : f s == g s
      · simp [Sem.run_pure]
      · simp only [Bool.not_true, Bool.false_eq_true, if_false, Sem.run_pure, Result.andThen_ok, Bool.true_and]
        exact ih (s + 1) (by omega)
  have := key n 0 (by omega)
  rw [this]
  cases sameTo f g 0 n <;> simp
theorem run_eql_arr (n : Nat) (t e : TypeId) (k : IntKind) (f g : Nat → Int) (ht : P.underlying t = some (.array n e)) (he : P.underlying e = some (.int k)) (hs : (P.info? e).map (·.size) = some 1) :
    (binOp .eql t (.agg (rowOf n fun i => .int k (f i))) (.agg (rowOf n fun i => .int k (g i)))).run P w = .ok (.bool (sameTo f g 0 n)) w := by
  rw [run_eql_struct, run_equalIn_arr w 9998 n t e k f g ht he hs]; rfl
theorem run_neq_arr (n : Nat) (t e : TypeId) (k : IntKind) (f g : Nat → Int) (ht : P.underlying t = some (.array n e)) (he : P.underlying e = some (.int k)) (hs : (P.info? e).map (·.size) = some 1) :
    (binOp .neq t (.agg (rowOf n fun i => .int k (f i))) (.agg (rowOf n fun i => .int k (g i)))).run P w = .ok (.bool (!sameTo f g 0 n)) w := by
  rw [run_neq_struct, run_equalIn_arr w 9998 n t e k f g ht he hs]; rfl
end
end Go.Proofs.YtcigbgpdikadpaaDoor
end

section
namespace Go.Proofs.YtcigbgpdikadpaaDoor
open Go.RowKit

/-- a world in which at most new blocks have come, and block bo is another -/
structure Gro (bo : Option Nat) (w : World) where
  to : World
  grown : w.grownBy to bo
instance (bo : Option Nat) (w : World) : Inhabited (Gro bo w) := ⟨⟨w, World.grownBy.refl w bo⟩⟩
def gro (bo : Option Nat) (w : World) (x : Gro bo w) : World := x.to
@[go_sem] theorem gro_cell {bo : Option Nat} {w : World} {x : Gro bo w} {b o : Nat} (h : b < w.heap.size) (hn : some b ≠ bo) : (gro bo w x).cell? ⟨b, o, none⟩ = w.cell? ⟨b, o, none⟩ := cell_grown (p := ⟨b, o, none⟩) x.grown h hn
@[go_sem] theorem gro_cell1 {g : Nat} {w : World} {x : Gro (some g) w} {b o : Nat} (h : b < w.heap.size) (hn : b ≠ g) : (gro (some g) w x).cell? ⟨b, o, none⟩ = w.cell? ⟨b, o, none⟩ := cell_grown (p := ⟨b, o, none⟩) x.grown h (by simpa using hn)
theorem gro_cell' {bo : Option Nat} {w : World} {x : Gro bo w} {p : Addr} (h : p.block < w.heap.size) (hn : some p.block ≠ bo) : (gro bo w x).cell? p = w.cell? p := cell_grown x.grown h hn
def LatG (bo : Option Nat) (w : World) : World → Prop := fun w' => ∃ x, w' = gro bo w x
section
variable {bo : Option Nat}
theorem grown_trans {w w' w'' : World} (h : w.grownBy w' bo) (k : w'.grownBy w'' bo) : w.grownBy w'' bo :=
  ⟨k.os.trans h.os, k.tape.trans h.tape, k.output.trans h.output, Nat.le_trans h.size k.size, fun i hi hne => (k.block i (Nat.lt_of_lt_of_le hi h.size) hne).trans (h.block i hi hne)⟩
theorem LatG.self (w : World) : LatG bo w w := ⟨⟨w, World.grownBy.refl w bo⟩, rfl⟩
theorem LatG.grown {w w' : World} (h : LatG bo w w') : w.grownBy w' bo := by obtain ⟨x, rfl⟩ := h; exact x.grown
theorem LatG.of {w w' : World} (h : w.grownBy w' bo) : LatG bo w w' := ⟨⟨w', h⟩, rfl⟩
theorem LatG.below {w w' : World} (h : Below w.heap.size w w') : LatG bo w w' := .of ⟨h.os, h.tape, h.output, h.size, fun k hk _ => h.block k hk⟩
theorem LatG.trans {w w' w'' : World} (h : LatG bo w w') (k : LatG bo w' w'') : LatG bo w w'' := .of (grown_trans h.grown k.grown)
end

section
variable {P : Program} {ops : Array Oper} {md : Region.Mode} {bo : Option Nat}

/-- in every world that may be by then, the operation leaves v and does nothing else -/
def YieldsG (P : Program) (ops : Array Oper) (bo : Option Nat) (w : World) (o : Oper) (v : Value) (a : Act) : Prop :=
  (Region.wanted o (yielded ops a.tmps) = true ∧ ∀ w', LatG bo w w' → ((execOp a.eval o).run P w' = .ok (.value v) w' ∨ ((execOp a.eval o).run P w' = .ok .skip w' ∧ v = undef))) ∨
  (Region.wanted o (yielded ops a.tmps) = false ∧ v = undef)

theorem YieldsG.later {w w' : World} {o : Oper} {v : Value} {a : Act} (h : YieldsG P ops bo w o v a) (hw : LatG bo w w') : YieldsG P ops bo w' o v a :=
  h.imp (fun ⟨h1, h2⟩ => ⟨h1, fun w'' hw'' => h2 w'' (hw.trans hw'')⟩) id

theorem YieldsG.wpOp {i : Nat} {o : Oper} {v : Value} {a : Act} {Q : Exit → Act → World → Prop} (hi : ops[i]? = some o) {w : World} (hy : YieldsG P ops bo w o v a)
    {K : Act → World → Prop} (h : K (a.put o.dst v) w) : wpOp P ops Q i K a w := by
  unfold Go.wpOp
  simp only [hi]
  rcases hy with ⟨hw, hv⟩ | ⟨hw, rfl⟩
  · rcases hv w (LatG.self w) with e | ⟨e, rfl⟩
    · simp only [hw, if_true, Oper.wp, e, Oper.upon]; exact .inl h
    · simp only [hw, if_true, Oper.wp, e, Oper.upon]; exact .inl h
  · simp only [hw, Bool.false_eq_true, if_false]; exact h

theorem YieldsG.of_same {o : Oper} {v : Value} {a a' : Act} {w : World} (hy : YieldsG P ops bo w o v a) (he : execOp a'.eval o = execOp a.eval o)
    (hw : Region.wanted o (yielded ops a'.tmps) = Region.wanted o (yielded ops a.tmps)) : YieldsG P ops bo w o v a' := by
  unfold YieldsG at *
  rw [he, hw]
  exact hy

theorem wpOp_putG {Q : Act → World → Prop} {j : Nat} {oi oj : Oper} {v : Value} (hj : ops[j]? = some oj) (hap : oi.apart ops oj = true)
    (hsi : ∀ cs b, oi.op ≠ .select cs b) (hsj : ∀ cs b, oj.op ≠ .select cs b) {K : Act → World → Prop} {a : Act} {w : World}
    (hy : YieldsG P ops bo w oi v a) (h : wpOp P ops (calm Q) j K (a.put oi.dst v) w) :
    wpOp P ops (calm Q) j (fun a' w' => YieldsG P ops bo w oi v a' ∧ K (a'.put oi.dst v) w') a w := by
  obtain ⟨h1, h2, h3⟩ := Oper.apart_spec hap
  have keep : ∀ (a : Act), YieldsG P ops bo w oi v a → ∀ u, YieldsG P ops bo w oi v (a.put oj.dst u) := fun a hy u =>
    hy.of_same (execOp_put oi hsi a oj.dst u h3) (wanted_put oi a oj.dst u h3)
  have keepD : ∀ d, YieldsG P ops bo w oi v { a with defers := d :: a.defers } := fun d => hy.of_same rfl rfl
  unfold wpOp at *
  simp only [hj] at *
  rw [wanted_put oj a oi.dst v h1] at h
  split
  · rename_i hw
    simp only [hw, if_true] at h
    rcases h with h | ⟨hasks, hlets⟩
    case inr => exact .inr ⟨by unfold Oper.asks at *; rw [execOp_put oj hsj a oi.dst v h1] at hasks; exact hasks, hlets⟩
    refine .inl ?_
    unfold Oper.wp at *
    rw [execOp_put oj hsj a oi.dst v h1] at h
    generalize (execOp a.eval oj).run P w = r at *
    cases r with
    | ok n w' =>
      cases n <;> simp only [Oper.upon] at h ⊢
      case value u => exact ⟨keep a hy u, by rw [← Act.put_comm a v u h2]; exact h⟩
      case skip => exact ⟨keep a hy _, by rw [← Act.put_comm a v undef h2]; exact h⟩
      case defer d =>
        refine ⟨keep _ (keepD d) _, ?_⟩
        rw [← Act.put_comm _ v undef h2, ← Act.put_defers]
        exact h
      case enter f args =>
        refine Calls.mono h fun e w'' he => ?_
        cases e with
        | returned u => exact ⟨keep a hy u, by rw [← Act.put_comm a v u h2]; exact he⟩
        | panicked c => exact he
        | outgrown => exact he
      case row row args => exact Rows.mono h fun u w'' he => ⟨keep a hy u, by rw [← Act.put_comm a v u h2]; exact he⟩
    | halt x w' =>
      cases x <;> simp only [Oper.upon] at h ⊢
      case panic u => exact h
  · rename_i hw
    simp only [hw] at h
    exact ⟨keep a hy _, by rw [← Act.put_comm a v undef h2]; exact h⟩

/-- whatever order is picked from here on; each operation leaves what was there -/
def wpAnyG (P : Program) (md : Region.Mode) (ops : Array Oper) (bo : Option Nat) (Q : Act → World → Prop) : Nat → Array Bool → Act → World → Prop
  | 0, listed, a, w => Region.ready md ops listed = [] ∧ Q a w
  | fuel + 1, listed, a, w =>
    (Region.ready md ops listed = [] → Q a w) ∧
    ∀ i ∈ Region.ready md ops listed, wpOp P ops (calm Q) i (fun a' w' => LatG bo w w' ∧ wpAnyG P md ops bo Q fuel (listed.setIfInBounds i true) a' w') a w

theorem wpAny_of_G {Q : Act → World → Prop} : ∀ (fuel : Nat) (listed : Array Bool) (a : Act) (w : World), wpAnyG P md ops bo Q fuel listed a w → wpAny P md ops (calm Q) fuel listed a w
  | 0, _, _, _, h => h
  | fuel + 1, _, _, _, h => ⟨h.1, fun i hi => wpOp_mono (fun a' w' h' => wpAny_of_G fuel _ a' w' h'.2) (h.2 i hi)⟩

theorem wpAnyG_first {Q : Act → World → Prop} {i : Nat} {oi : Oper} {v : Value} (hi : ops[i]? = some oi) (hsel : ∀ (j : Nat) (o : Oper) cs b, ops[j]? = some o → o.op ≠ .select cs b) :
    ∀ (fuel : Nat) (listed : Array Bool) (a : Act) (w : World),
      (∀ j oj, ops[j]? = some oj → j ≠ i → listed.getD j true = false → (∀ e ∈ oj.after, Region.binds md e = true → e.on ≠ i) → oi.apart ops oj = true) →
      i ∈ Region.ready md ops listed → YieldsG P ops bo w oi v a →
      wpAnyG P md ops bo Q fuel (listed.setIfInBounds i true) (a.put oi.dst v) w → wpAnyG P md ops bo Q (fuel + 1) listed a w := by
  intro fuel
  induction fuel with
  | zero =>
    intro listed a w hfree hr hy H
    refine ⟨fun h => (by rw [h] at hr; cases hr), fun j hj => ?_⟩
    by_cases hji : j = i
    · subst hji; exact hy.wpOp hi ⟨LatG.self w, H⟩
    · have := ready_mono hj hji
      rw [H.1] at this
      cases this
  | succ fuel ih =>
    intro listed a w hfree hr hy H
    refine ⟨fun h => (by rw [h] at hr; cases hr), fun j hj => ?_⟩
    by_cases hji : j = i
    · subst hji; exact hy.wpOp hi ⟨LatG.self w, H⟩
    · have h1 := H.2 j (ready_mono hj hji)
      obtain ⟨hjun, oj, hoj, hall⟩ := mem_ready.1 hj
      have hnot : ∀ e ∈ oj.after, Region.binds md e = true → e.on ≠ i := fun e he hb heq => by
        have h1 := hall e he hb
        have h0 := (mem_ready.1 hr).1
        rw [heq] at h1
        rcases Nat.lt_or_ge i listed.size with h' | h'
        · simp [h'] at h0 h1; rw [h0] at h1; cases h1
        · simp [Array.getElem?_eq_none h'] at h1
      have h2 := wpOp_putG hoj (hfree j oj hoj hji hjun hnot) (fun cs b => hsel i oi cs b hi) (fun cs b => hsel j oj cs b hoj) hy h1
      have hfree' : ∀ k ok, ops[k]? = some ok → k ≠ i → (listed.setIfInBounds j true).getD k true = false →
          (∀ e ∈ ok.after, Region.binds md e = true → e.on ≠ i) → oi.apart ops ok = true := fun k ok hk hki hun hno => by
        refine hfree k ok hk hki ?_ hno
        by_cases hjk : j = k
        · subst hjk; exact hjun
        · rw [getD_set_ne true hjk] at hun; exact hun
      refine wpOp_mono (fun a' w' h3 => ⟨h3.2.1, ih (listed.setIfInBounds j true) a' w' hfree' (ready_mono hr (Ne.symm hji)) (h3.1.later h3.2.1) ?_⟩) h2
      rw [Array.setIfInBounds_comm _ _ hji]
      exact h3.2.2

/-- the walk: (true, i): operation i only reads; (false, i): it is a call, and no other may come up -/
def wpG (P : Program) (ops : Array Oper) (bo : Option Nat) (Q : Act → World → Prop) : List (Bool × Nat) → Act → World → Prop
  | [], a, w => Q a w
  | (true, i) :: rest, a, w => ∃ o, ops[i]? = some o ∧ wpQuiet P ops (fun w' => ∃ x, w' = gro bo w x) (fun a' => wpG P ops bo Q rest a' w) [o] a
  | (false, i) :: rest, a, w => ∃ o, ops[i]? = some o ∧ if Region.wanted o (yielded ops a.tmps) then o.wp P a w (fun a' w' => LatG bo w w' ∧ wpG P ops bo Q rest a' w') (calm Q) else wpG P ops bo Q rest (a.put o.dst undef) w

theorem wpAnyG_of {Q : Act → World → Prop} (hs : Region.noSelect ops = true) : ∀ (l : List (Bool × Nat)) (listed : Array Bool) (a : Act) (w : World),
    orderB md ops l listed = true → wpG P ops bo Q l a w → wpAnyG P md ops bo Q l.length listed a w
  | [], listed, a, w, hB, h => ⟨by simpa [orderB] using hB, h⟩
  | (true, i) :: rest, listed, a, w, hB, h => by
    simp only [orderB, Bool.and_eq_true] at hB
    obtain ⟨⟨⟨hr, hf⟩, hp⟩, hB'⟩ := hB
    obtain ⟨o, ho, hq⟩ := h
    simp only [ho, Option.map_some, Option.getD_some] at hp
    simp only [wpQuiet] at hq
    have hY : ∃ v, YieldsG P ops bo w o v a ∧ wpG P ops bo Q rest (a.put o.dst v) w := by
      by_cases hw : Region.wanted o (yielded ops a.tmps) = true
      · rw [if_pos hw] at hq
        obtain ⟨v, hv, hK⟩ := hq
        refine ⟨v, .inl ⟨hw, fun w' hw' => ?_⟩, hK⟩
        have h1 := hv w' hw'
        unfold Oper.quietAt at h1
        cases hrun : (execOp a.eval o).run P w' with
        | ok n w'' =>
          rw [hrun] at h1
          rcases plain_run hp _ _ _ _ hrun with ⟨u, rfl⟩ | rfl
          · obtain ⟨e1, e2⟩ := h1; subst e1 e2; exact .inl rfl
          · obtain ⟨e1, e2⟩ := h1; subst e1 e2; exact .inr ⟨rfl, rfl⟩
        | halt x w'' => rw [hrun] at h1; exact h1.elim
      · rw [if_neg hw] at hq
        exact ⟨undef, .inr ⟨by simpa using hw, rfl⟩, hq⟩
    obtain ⟨v, hy, hK⟩ := hY
    exact wpAnyG_first ho (Region.noSelect_spec hs) rest.length listed a w (Region.free_spec ho hf) (by simpa using hr) hy (wpAnyG_of hs rest _ _ _ hB' hK)
  | (false, i) :: rest, listed, a, w, hB, h => by
    simp only [orderB, Bool.and_eq_true, beq_iff_eq] at hB
    obtain ⟨hr, hB'⟩ := hB
    obtain ⟨o, ho, hq⟩ := h
    refine ⟨fun h0 => (by rw [hr] at h0; cases h0), fun j hj => ?_⟩
    rw [hr] at hj
    obtain rfl : j = i := by simpa using hj
    unfold wpOp
    simp only [ho]
    split
    · rename_i hw
      rw [if_pos hw] at hq
      refine .inl ?_
      unfold Oper.wp at *
      generalize (execOp a.eval o).run P w = r at *
      cases r with
      | ok n w' =>
        cases n <;> simp only [Oper.upon] at hq ⊢
        case value u => exact ⟨hq.1, wpAnyG_of hs rest _ _ _ hB' hq.2⟩
        case skip => exact ⟨hq.1, wpAnyG_of hs rest _ _ _ hB' hq.2⟩
        case defer d => exact ⟨hq.1, wpAnyG_of hs rest _ _ _ hB' hq.2⟩
        case enter f args =>
          refine Calls.mono hq fun e w'' he => ?_
          cases e with
          | returned u => exact ⟨he.1, wpAnyG_of hs rest _ _ _ hB' he.2⟩
          | panicked c => exact he
          | outgrown => exact he
        case row row args => exact Rows.mono hq fun u w'' he => ⟨he.1, wpAnyG_of hs rest _ _ _ hB' he.2⟩
      | halt x w' =>
        cases x <;> simp only [Oper.upon] at hq ⊢
        case panic u => exact hq
    · rename_i hw
      rw [if_neg hw] at hq
      exact ⟨LatG.self w, wpAnyG_of hs rest _ _ _ hB' hq⟩

/-- one walk serves every order -/
theorem wp_region_G {id : Nat} {Q : Exit → Act → World → Prop} {a : Act} {w : World} (l : List (Bool × Nat)) (hm : P.follows .mixedOrders = true) (hs : Region.noSelect ops = true)
    (hl : l.length = ops.size) (hB : orderB .any ops l (Array.replicate ops.size false) = true)
    (h : wpG P ops bo (fun a' w' => Q .normal a' w') l a w.drew) : (Code.region id ops true).wp P Q a w := by
  refine Code.wp_mono (Q := calm (fun a' w' => Q .normal a' w')) (fun e a w h => ?_) (wp_region_any hm (wpAny_of_G (bo := bo) _ _ _ _ ?_))
  · cases e <;> first | exact h | exact h.elim
  · rw [← hl]
    exact wpAnyG_of hs l _ _ _ (by rw [hl]; exact hB) h

theorem wpG_quiet {os : List Oper} {Q : Act → World → Prop} {i : Nat} {rest : List (Bool × Nat)} {a : Act} {w : World} {o : Oper} (ho : nth os i = some o)
    (h : wpQuiet P os.toArray (fun w' => ∃ x, w' = gro bo w x) (fun a' => wpG P os.toArray bo Q rest a' w) [o] a) : wpG P os.toArray bo Q ((true, i) :: rest) a w := ⟨o, (nth_eq os i).trans ho, h⟩
theorem wpG_skip {os : List Oper} {Q : Act → World → Prop} {i : Nat} {rest : List (Bool × Nat)} {a : Act} {w : World} {o : Oper} (ho : nth os i = some o) (hw : Region.wanted o (yielded os.toArray a.tmps) = false)
    (h : wpG P os.toArray bo Q rest (a.put o.dst undef) w) : wpG P os.toArray bo Q ((false, i) :: rest) a w := ⟨o, (nth_eq os i).trans ho, by rw [if_neg (by rw [hw]; exact Bool.false_ne_true)]; exact h⟩
theorem wpG_event {os : List Oper} {Q : Act → World → Prop} {i : Nat} {rest : List (Bool × Nat)} {a : Act} {w : World} {o : Oper} (ho : nth os i = some o) (hw : Region.wanted o (yielded os.toArray a.tmps) = true)
    (h : ∀ K : Act → World → Prop, (∀ a' w', LatG bo w w' → wpG P os.toArray bo Q rest a' w' → K a' w') → o.wp P a w K (calm Q)) : wpG P os.toArray bo Q ((false, i) :: rest) a w :=
  ⟨o, (nth_eq os i).trans ho, by rw [if_pos hw]; exact h _ (fun _ _ h1 h2 => ⟨h1, h2⟩)⟩
theorem wpG_nil {Q : Act → World → Prop} {a : Act} {w : World} (h : Q a w) : wpG P ops bo Q [] a w := h

end

section
variable {P : Program}
/-- a store into the block that may be another -/
theorem wpG_store {os : List Oper} {Q : Act → World → Prop} {i b k : Nat} {rest : List (Bool × Nat)} {a : Act} {w : World} {o : Oper} {cs : Array Value} {T : TypeId} (hr : Row w b cs T) (ho : nth os i = some o) (hw : Region.wanted o (yielded os.toArray a.tmps) = true)
    (hdst : o.dst = none) (ty : TypeId) (x y : Operand) (hop : o.op = .store ty x y) (hx : a.eval x = .pointer (some ⟨b, k, none⟩)) (v : Value) (hy : a.eval y = v) (hi : k < cs.size) (hs : (P.info? ty).map (·.size) = some 1) (h1 : v.oneCell' = true)
    (h : ∀ w', Stored w w' b (cs.setIfInBounds k v) T → wpG P os.toArray (some b) Q rest a w') : wpG P os.toArray (some b) Q ((false, i) :: rest) a w := by
  refine wpG_event ho hw fun K hK => ?_
  obtain ⟨w', hrun, hst⟩ := run_store_cell (P := P) w b k T ty cs v hr hi hs h1
  unfold Oper.wp execOp
  simp only [hop, hx, hy, Instr.storeAt, Instr.sureAddr, Sem.run_bind, Sem.run_pure, Result.andThen_ok, hrun, Oper.upon, hdst, Act.put]
  exact hK _ _ (LatG.of hst.grown) (h w' hst)
end

section
variable {P : Program}
theorem Row.addr {w : World} {b : Nat} {cs : Array Value} {T : TypeId} (h : Row w b cs T) : ∀ j v, cs[j]? = some v → w.cell? ((⟨b, 0, none⟩ : Addr).add j) = some v := fun j v hv => by
  rw [Addr.add_lit, Nat.zero_add]; exact h.cell hv
/-- a whole row, loaded in a region that draws its order -/
theorem wpE_load {os : List Oper} {Q : Act → World → Prop} {i b : Nat} {rest : List (Bool × Nat)} {a : Act} {w : World} {o : Oper} {cs : Array Value} {T ty : TypeId} {d : TypeDesc} (hr : Row w b cs T) (ho : nth os i = some o) (hw : Region.wanted o (yielded os.toArray a.tmps) = true)
    (x : Operand) (hop : o.op = .load ty x) (hx : a.eval x = .pointer (some ⟨b, 0, none⟩)) (hu : P.underlying ty = some d) (hd : (match d with | .struct _ | .array _ _ => true | _ => false) = true) (hi : (P.info? ty).map (·.size) = some cs.size)
    (h : wpE P os.toArray Q rest (a.put o.dst (.agg cs)) w) : wpE P os.toArray Q ((true, i) :: rest) a w := by
  refine wpE_quiet ho ?_
  simp only [wpQuiet]
  rw [if_pos hw]
  refine ⟨.agg cs, ?_, h⟩
  rintro w' ⟨x', rfl⟩
  have hrun : (execOp a.eval o).run P (later w x') = .ok (.value (.agg cs)) (later w x') := by
    have hl := run_loadVar_cells (P := P) (later w x') ⟨b, 0, none⟩ ty cs d hu hd hi (hr.below x'.below).addr
    unfold execOp
    simp only [hop, hx, Instr.loadAt, Instr.sureAddr, Sem.run_bind, Sem.run_pure, Result.andThen_ok, hl]
  unfold Oper.quietAt
  rw [hrun]
  exact ⟨rfl, rfl⟩
end
end Go.Proofs.YtcigbgpdikadpaaDoor
end
