/-
  Words and laws for the walks of this family: rows of cells told by a function, operations on whole arrays, and the last step of a law's row.
-/
import Derived.Test.YtonjilfbcofoaaaDoorRows
import Derived.WalkKit
import Derived.ProofKit
import Derived.OpenShut
import Derived.Carry
import Derived.Lib.Hide
import Derived.Deep.WholeRow
import Derived.Deep.QuietTactic
import Derived.BigQuiet
namespace Go.Proofs.YtonjilfbcofoaaaDoor
open Go.RowKit Go.ChangeShapes Go.WideShapes Go.ChangeAt

/-- what a call that makes memory of its own leaves: the value, and all that was there before -/
def Ret (w : World) (v : Value) (e : Ending) (w' : World) : Prop := e = .returned v ∧ Below w.heap.size w w'

theorem Ret.mk {w w' : World} {v : Value} {e : Ending} (h : e = .returned v) (hb : Below w.heap.size w w') : Ret w v e w' := ⟨h, hb⟩

theorem ret_int {k : IntKind} {a b : Int} (h : a = b) : Ending.returned (.int k a) = .returned (.int k b) := by rw [h]
theorem ret_int_v {k : IntKind} {a b : Int} {v : Value} (h : a = b) : Ending.returned (.tuple #[.int k a, v]) = .returned (.tuple #[.int k b, v]) := by rw [h]
theorem ret_bool {a b : Bool} (h : a = b) : Ending.returned (.bool a) = .returned (.bool b) := by rw [h]

/-- a row of n cells, told by a function -/
def rowOf (n : Nat) (g : Nat → Value) : Array Value := ((List.range n).map g).toArray

theorem size_rowOf (n : Nat) (g : Nat → Value) : (rowOf n g).size = n := by simp [rowOf]
theorem rowOf_get {n : Nat} (g : Nat → Value) {i : Nat} (h : i < n) : (rowOf n g)[i]? = some (g i) := by
  simp [rowOf, h]
theorem rowOf_get_none {n : Nat} (g : Nat → Value) {i : Nat} (h : n ≤ i) : (rowOf n g)[i]? = none := by
  simp [rowOf]; omega
theorem rowOf_congr {n : Nat} {g g' : Nat → Value} (h : ∀ i, i < n → g i = g' i) : rowOf n g = rowOf n g' := by
  unfold rowOf
  congr 1
  exact List.map_congr_left fun i hi => h i (List.mem_range.1 hi)
theorem rowOf_set (n : Nat) (g : Nat → Value) (i : Nat) (v : Value) : (rowOf n g).setIfInBounds i v = rowOf n (fun j => if j = i then v else g j) := by
  apply Array.ext_getElem?
  intro j
  rw [Array.getElem?_setIfInBounds, size_rowOf]
  by_cases hj : j < n
  · rw [rowOf_get _ hj, rowOf_get _ hj]
    by_cases e : i = j
    · subst e; simp [hj]
    · have e' : ¬ j = i := fun h => e h.symm
      simp [e, e']
  · rw [rowOf_get_none _ (by omega), rowOf_get_none _ (by omega)]
    split
    · rw [if_neg (by omega)]
    · rfl

theorem wrap_u64_nat (a m : Nat) : IntKind.u64.wrap ((a : Int) * 2 ^ m) = ((a * 2 ^ m % 18446744073709551616 : Nat) : Int) := by
  rw [IntKind.wrap_u64, Int.natCast_emod, Int.natCast_mul, Int.natCast_pow]; rfl

section
variable {P : Program} {ops : Array Oper} {rest : List Oper} {o : Oper} {a : Act} {w : World} {Q : Exit → Act → World → Prop}

/-- a new variable of an array's or a struct's type: its cells are the type's zero -/
theorem wpList_alloc_agg (hgd : o.guard = none) (t : TypeId) (ho : o.op = .alloc t) (cs : Array Value) (hz : (P.info? t).map (fun i => i.zero) = some (some (.agg cs)))
    (h : wpList P ops Q rest (a.put o.dst (.pointer (some ⟨w.heap.size, 0, none⟩))) (w.alloc (.cells cs t))) : wpList P ops Q (o :: rest) a w := by
  refine wpList_plain hgd fun K hK => ?_
  unfold Oper.wp execOp
  cases hq : P.info? t with
  | none => simp [hq] at hz
  | some i =>
    simp only [hq, Option.map_some, Option.some.injEq] at hz
    simp [ho, Instr.alloc, zeroValue, typeInfo, hq, hz, newVar, newRow, newObj, Value.cells, Sem.run_bind, Oper.upon]
    exact hK _ _ h

/-- a parameter that is laid in a variable of its own -/
theorem wpList_box_agg (hgd : o.guard = none) (t : TypeId) (x : Operand) (ho : o.op = .box t x) (cs : Array Value) (hx : a.eval x = .agg cs)
    (h : wpList P ops Q rest (a.put o.dst (.pointer (some ⟨w.heap.size, 0, none⟩))) (w.alloc (.cells cs t))) : wpList P ops Q (o :: rest) a w := by
  refine wpList_plain hgd fun K hK => ?_
  unfold Oper.wp execOp
  simp [ho, Instr.box, hx, newVar, newRow, newObj, Value.cells, Oper.upon]
  exact hK _ _ h

/-- a whole row into a block -/
theorem wpList_store_row (hgd : o.guard = none) (hdst : o.dst = none) (ty : TypeId) (x y : Operand) (ho : o.op = .store ty x y) (g : Nat) (hx : a.eval x = .pointer (some ⟨g, 0, none⟩)) (t : TypeId) (cs cs' : Array Value)
    (hy : a.eval y = .agg cs') (hg : w.heap[g]? = some (.cells cs t (0, 0))) (hi : (P.info? ty).map (·.size) = some cs'.size) (hs : cs.size = cs'.size) (h1 : cs'.all (·.oneCell') = true)
    (h : wpList P ops Q rest a (w.setRow g cs')) : wpList P ops Q (o :: rest) a w := by
  refine wpList_plain hgd fun K hK => ?_
  unfold Oper.wp execOp
  have hr := run_storeVar_row (P := P) w g t ty cs cs' hg hi hs h1
  simp only [ho, hx, hy, Instr.storeAt, Instr.sureAddr, Sem.run_bind, Sem.run_pure, Result.andThen_ok, hr, Oper.upon, hdst, Act.put]
  exact hK _ _ h

end

theorem heap_setRow_other (w : World) (g : Nat) (cs : Array Value) (k : Nat) (h : k ≠ g) : (w.setRow g cs).heap[k]? = w.heap[k]? := by
  simp only [World.setRow, Array.getElem?_modify]
  rw [if_neg (by omega)]
theorem below_setRow {B : Nat} {w w' : World} (h : Below B w w') {g : Nat} (hg : B ≤ g) (cs : Array Value) : Below B w (w'.setRow g cs) :=
  h.trans ⟨rfl, rfl, rfl, by simp [World.setRow], fun k hk => heap_setRow_other _ _ _ _ (by omega)⟩

theorem setRow_alloc_at (w : World) (c c' : Array Value) (t : TypeId) (n : Nat) (hn : n = w.heap.size) : (w.alloc (.cells c t)).setRow n c' = w.alloc (.cells c' t) := by
  subst hn; exact World.setRow_alloc_new w c c' t
theorem setRow_alloc_past (w : World) (o : Obj) (n : Nat) (c : Array Value) (hn : n < w.heap.size) : (w.alloc o).setRow n c = (w.setRow n c).alloc o := by
  simp only [World.setRow, World.alloc]
  congr 1
  apply Array.ext_getElem?
  intro i
  rw [Array.getElem?_modify, Array.getElem?_push, Array.getElem?_push, Array.getElem?_modify, Array.size_modify]
  by_cases h : n = i
  · subst h
    have h1 : ¬ n = w.heap.size := by omega
    simp [h1]
  · simp [h]

/-- a world in which at most new blocks have come: the class for a region that draws its order -/
structure Later (w : World) where
  to : World
  below : Below w.heap.size w to
instance (w : World) : Inhabited (Later w) := ⟨⟨w, Below.refl _ _⟩⟩
def later (w : World) (x : Later w) : World := x.to
@[go_sem] theorem later_cell {w : World} {x : Later w} {b o : Nat} (h : b < w.heap.size) : (later w x).cell? ⟨b, o, none⟩ = w.cell? ⟨b, o, none⟩ := x.below.cell (p := ⟨b, o, none⟩) h
theorem later_cell' {w : World} {x : Later w} {p : Addr} (h : p.block < w.heap.size) : (later w x).cell? p = w.cell? p := x.below.cell h

theorem wp_region_later {P : Program} {id : Nat} {Q : Exit → Act → World → Prop} {a : Act} {w : World} {l : List Oper} (hm : P.follows .mixedOrders = true) (hB : Region.lexB .any l.toArray = true)
    (h : wpQuiet P l.toArray (fun w' => ∃ x, w' = later w x) (fun a' => ∀ w', Below w.heap.size w w' → Q .normal a' w') l a) : (Code.region id l.toArray true).wp P Q a w := by
  refine wp_region_quiet (C := fun w' => ∃ x, w' = later w x) hm hB ⟨⟨w.drew, (Below.refl _ _).drew⟩, rfl⟩ ?_
  have e : (fun a' => ∀ w', Below w.heap.size w w' → Q .normal a' w') = fun a' => ∀ w', (∃ x, w' = later w x) → Q .normal a' w' := by
    funext a'
    apply propext
    constructor
    · rintro h w' ⟨x, rfl⟩; exact h _ x.below
    · intro h w' hb; exact h _ ⟨⟨w', hb⟩, rfl⟩
  rw [← e]
  simpa using h

theorem calls_later {P : Program} {f : FuncId} {args : Array Value} {w : World} {x : Later w} {v : Value} (h : Calls P f args (later w x) (Ret (later w x) v)) :
    Calls P f args (later w x) fun e w'' => e = .returned v ∧ ∃ y, w'' = later w y :=
  h.mono fun _ w'' ⟨he, hb⟩ => ⟨he, ⟨w'', x.below.trans (hb.mono x.below.size)⟩, rfl⟩
theorem calls_later_same {P : Program} {f : FuncId} {args : Array Value} {w : World} {x : Later w} {v : Value} (h : Calls P f args (later w x) fun e w' => e = .returned v ∧ later w x = w') :
    Calls P f args (later w x) fun e w'' => e = .returned v ∧ ∃ y, w'' = later w y :=
  h.mono fun _ _ ⟨he, hw⟩ => ⟨he, x, hw.symm⟩

theorem rowOf_oneCell {n : Nat} {g : Nat → Value} (h : ∀ i, i < n → (g i).oneCell' = true) : (rowOf n g).all (·.oneCell') = true := by
  simp only [rowOf, List.all_toArray, List.all_eq_true, List.mem_map, List.mem_range]
  rintro v ⟨i, hi, rfl⟩
  exact h i hi

end Go.Proofs.YtonjilfbcofoaaaDoor
