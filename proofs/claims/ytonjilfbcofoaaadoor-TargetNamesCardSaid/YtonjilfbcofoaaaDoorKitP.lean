/-
  Rows that stand in blocks of their own: arrays and structs; a row that is read cell by cell.
-/
import Derived.Test.YtonjilfbcofoaaaDoorKitA
import Derived.Laws.CopyRow
namespace Go.Proofs.YtonjilfbcofoaaaDoor
open Go.RowKit Go.ChangeShapes Go.WideShapes Go.ChangeAt

/-- block b is just these cells -/
def Row (w : World) (b : Nat) (cs : Array Value) (T : TypeId) : Prop := w.heap[b]? = some (.cells cs T (0, 0))

section
variable {w w' : World} {b b' i : Nat} {cs cs' : Array Value} {T : TypeId} {v : Value} {B : Nat}

theorem Row.lt (h : Row w b cs T) : b < w.heap.size := (Array.getElem?_eq_some_iff.1 h).1
theorem Row.new (w : World) (cs : Array Value) (T : TypeId) : Row (w.alloc (.cells cs T)) w.heap.size cs T := heap_alloc_new w _
theorem Row.below (h : Row w b cs T) (hb : Below w.heap.size w w') : Row w' b cs T := (hb.block b h.lt).trans h
theorem Row.alloc (h : Row w b cs T) (o : Obj) : Row (w.alloc o) b cs T := h.below ((Below.refl _ _).alloc (Nat.le_refl _) _)
theorem Row.drew (h : Row w b cs T) : Row w.drew b cs T := h
theorem Row.cell (h : Row w b cs T) (hi : cs[i]? = some v) : w.cell? ⟨b, i, none⟩ = some v := by rw [cell_of_row w b i cs T (0, 0) h]; exact hi
theorem Row.free (h : Row w b cs T) (i : Nat) : w.frozen? ⟨b, i, none⟩ = false := by
  have h' : w.heap[b]? = some (.cells cs T (0, 0)) := h
  simp [World.frozen?, h']
theorem Row.set (h : Row w b cs T) (i : Nat) (v : Value) : Row (w.setCell ⟨b, i, none⟩ v) b (cs.setIfInBounds i v) T := heap_setCell_same w b i cs T v h
theorem Row.other (h : Row w b cs T) (hne : b ≠ b') (i : Nat) (v : Value) : Row (w.setCell ⟨b', i, none⟩ v) b cs T := (heap_setCell_other w ⟨b', i, none⟩ b v hne).trans h
theorem Row.setRow (h : Row w b cs T) (cs' : Array Value) : Row (w.setRow b cs') b cs' T := setRow_heap w b cs cs' T _ h
theorem Row.otherRow (h : Row w b cs T) (hne : b ≠ b') (cs' : Array Value) : Row (w.setRow b' cs') b cs T := (heap_setRow_other w b' cs' b hne).trans h
end

section
variable {P : Program} {ops : Array Oper} {rest : List Oper} {o : Oper} {a : Act} {w : World} {Q : Exit → Act → World → Prop}

theorem run_loadVar_cells (w : World) (ad : Addr) (ty : TypeId) (cs : Array Value) (d : TypeDesc)
    (hu : P.underlying ty = some d) (hd : (match d with | .struct _ | .array _ _ => true | _ => false) = true) (hi : (P.info? ty).map (·.size) = some cs.size) (hc : ∀ j v, cs[j]? = some v → w.cell? (ad.add j) = some v) :
    (loadVar ty ad).run P w = .ok (.agg cs) w := by
  have hl : (loadCells ad cs.toList.length).run P w = .ok cs.toList.toArray w := run_loadCells_list (P := P) w ad cs.toList (fun j v hv => hc j v (by simpa using hv))
  cases hq : P.info? ty with
  | none => simp [hq] at hi
  | some i =>
    have hs : i.size = cs.size := by simpa [hq] using hi
    have hagg : (isAgg ty).run P w = .ok true w := by
      unfold isAgg
      rw [Sem.run_bind, run_underlying hu w]
      cases d <;> simp_all
    simp only [Array.length_toList, Array.toArray_toList] at hl
    simp [loadVar, Sem.run_bind, hagg, sizeOf, typeInfo, hq, hs, hl]

theorem wpList_load_cells (hgd : o.guard = none) (ty : TypeId) (x : Operand) (ho : o.op = .load ty x) (ad : Addr) (hx : a.eval x = .pointer (some ad)) (cs : Array Value) (d : TypeDesc)
    (hu : P.underlying ty = some d) (hd : (match d with | .struct _ | .array _ _ => true | _ => false) = true) (hi : (P.info? ty).map (·.size) = some cs.size) (hc : ∀ j v, cs[j]? = some v → w.cell? (ad.add j) = some v)
    (h : wpList P ops Q rest (a.put o.dst (.agg cs)) w) : wpList P ops Q (o :: rest) a w := by
  refine wpList_plain hgd fun K hK => ?_
  unfold Oper.wp execOp
  simp only [ho, hx, Instr.loadAt, Instr.sureAddr, Sem.run_bind, Sem.run_pure, Result.andThen_ok, run_loadVar_cells w ad ty cs d hu hd hi hc]
  exact hK _ _ h
/-- the same where the row fills its block -/
theorem wpList_load_Row {b : Nat} {cs : Array Value} {T : TypeId} (hr : Row w b cs T) (hgd : o.guard = none) (ty : TypeId) (x : Operand) (ho : o.op = .load ty x) (hx : a.eval x = .pointer (some ⟨b, 0, none⟩)) (d : TypeDesc)
    (hu : P.underlying ty = some d) (hd : (match d with | .struct _ | .array _ _ => true | _ => false) = true) (hi : (P.info? ty).map (·.size) = some cs.size)
    (h : wpList P ops Q rest (a.put o.dst (.agg cs)) w) : wpList P ops Q (o :: rest) a w :=
  wpList_load_row hgd ty x ho b hx T cs (0, 0) d hr hu hd hi h
theorem wpList_wanted (hw : Region.wanted o (yielded ops a.tmps) = true) (h : ∀ K : Act → World → Prop, (∀ a w, wpList P ops Q rest a w → K a w) → o.wp P a w K Q) : wpList P ops Q (o :: rest) a w :=
  wpList_step fun K hK => by rw [if_pos hw]; exact h K hK
theorem wpList_load_cellsW (hw : Region.wanted o (yielded ops a.tmps) = true) (ty : TypeId) (x : Operand) (ho : o.op = .load ty x) (ad : Addr) (hx : a.eval x = .pointer (some ad)) (cs : Array Value) (d : TypeDesc)
    (hu : P.underlying ty = some d) (hd : (match d with | .struct _ | .array _ _ => true | _ => false) = true) (hi : (P.info? ty).map (·.size) = some cs.size) (hc : ∀ j v, cs[j]? = some v → w.cell? (ad.add j) = some v)
    (h : wpList P ops Q rest (a.put o.dst (.agg cs)) w) : wpList P ops Q (o :: rest) a w := by
  refine wpList_wanted hw fun K hK => ?_
  unfold Oper.wp execOp
  simp only [ho, hx, Instr.loadAt, Instr.sureAddr, Sem.run_bind, Sem.run_pure, Result.andThen_ok, run_loadVar_cells w ad ty cs d hu hd hi hc]
  exact hK _ _ h
/-- the same under a guard that holds -/
theorem wpList_load_RowW {b : Nat} {cs : Array Value} {T : TypeId} (hr : Row w b cs T) (hw : Region.wanted o (yielded ops a.tmps) = true) (ty : TypeId) (x : Operand) (ho : o.op = .load ty x) (hx : a.eval x = .pointer (some ⟨b, 0, none⟩)) (d : TypeDesc)
    (hu : P.underlying ty = some d) (hd : (match d with | .struct _ | .array _ _ => true | _ => false) = true) (hi : (P.info? ty).map (·.size) = some cs.size)
    (h : wpList P ops Q rest (a.put o.dst (.agg cs)) w) : wpList P ops Q (o :: rest) a w := by
  refine wpList_wanted hw fun K hK => ?_
  exact wp_load_row ty x ho b hx T cs (0, 0) d hr hu hd hi (hK _ _ h)
theorem wpList_store_Row {b : Nat} {cs cs' : Array Value} {T : TypeId} (hr : Row w b cs T) (hgd : o.guard = none) (hdst : o.dst = none) (ty : TypeId) (x y : Operand) (ho : o.op = .store ty x y) (hx : a.eval x = .pointer (some ⟨b, 0, none⟩))
    (hy : a.eval y = .agg cs') (hi : (P.info? ty).map (·.size) = some cs'.size) (hs : cs.size = cs'.size) (h1 : cs'.all (·.oneCell') = true)
    (h : wpList P ops Q rest a (w.setRow b cs')) : wpList P ops Q (o :: rest) a w :=
  wpList_store_row hgd hdst ty x y ho b hx T cs cs' hy hr hi hs h1 h
theorem results_Row {fn : Func} {p : Tmp} {ty : TypeId} {b : Nat} {cs : Array Value} {T : TypeId} (hr : Row w b cs T) (h : fn.results = #[.cell p ty]) (tmps : Array Value) (d : TypeDesc)
    (hp : tmps.getD p undef = .pointer (some ⟨b, 0, none⟩)) (hu : P.underlying ty = some d) (hd : (match d with | .struct _ | .array _ _ => true | _ => false) = true) (hi : (P.info? ty).map (·.size) = some cs.size) :
    (results fn tmps).run P w = .ok (.agg cs) w := results_cell_row h tmps w b T cs (0, 0) d hp hr hu hd hi
theorem results_Row2 {fn : Func} {p q : Tmp} {ty : TypeId} {b : Nat} {cs : Array Value} {T : TypeId} (hr : Row w b cs T) (h : fn.results = #[.cell p ty, .tmp q]) (tmps : Array Value) (d : TypeDesc)
    (hp : tmps.getD p undef = .pointer (some ⟨b, 0, none⟩)) (hu : P.underlying ty = some d) (hd : (match d with | .struct _ | .array _ _ => true | _ => false) = true) (hi : (P.info? ty).map (·.size) = some cs.size) :
    (results fn tmps).run P w = .ok (.tuple #[.agg cs, tmps.getD q undef]) w := by
  have hp' : tmps[p]?.getD undef = .pointer (some ⟨b, 0, none⟩) := by simpa using hp
  simp [results, h, hp', asAddr, run_loadVar_row w b T ty cs (0, 0) d hr hu hd hi]
end

section
variable {P : Program} {ops : Array Oper} {rest : List Oper} {o : Oper} {a : Act} {w : World} {Q : Exit → Act → World → Prop}
/-- what a store into a row leaves: that row is another, the others stand -/
structure Stored (w w' : World) (b : Nat) (cs : Array Value) (T : TypeId) : Prop where
  row : Row w' b cs T
  others : ∀ b' cs' T', b' ≠ b → Row w b' cs' T' → Row w' b' cs' T'
  below : ∀ B w0, Below B w0 w → B ≤ b → Below B w0 w'
  size : w'.heap.size = w.heap.size
  grown : w.grownBy w' (some b)
theorem run_store_cell (w : World) (b i : Nat) (t ty : TypeId) (cs : Array Value) (v : Value) (hg : Row w b cs t) (hi : i < cs.size) (hs : (P.info? ty).map (·.size) = some 1) (h1 : v.oneCell' = true) :
    ∃ w', (storeVar ty ⟨b, i, none⟩ v).run P w = .ok () w' ∧ Stored w w' b (cs.setIfInBounds i v) t := by
  have hr := run_storeCells_at (P := P) b i t [v] 0 cs w hg (by simp; omega) (fun x hx => by simp at hx; subst hx; exact h1)
  have hc : v.cells = #[v] := by cases v <;> first | rfl | cases h1
  cases hq : P.info? ty with
  | none => simp [hq] at hs
  | some ii =>
    have hs1 : ii.size = 1 := by simpa [hq] using hs
    have hrow : ((cs.toList.take (i + 0) ++ [v] ++ cs.toList.drop (i + 0 + [v].length)).toArray : Array Value) = cs.setIfInBounds i v := by
      rw [← Array.toList_inj]
      simp only [Nat.add_zero, List.length_singleton, Array.toList_setIfInBounds, List.append_assoc, List.singleton_append]
      rw [List.set_eq_take_append_cons_drop, if_pos (by simpa using hi)]
    rw [hrow] at hr
    refine ⟨w.setRow b (cs.setIfInBounds i v), by simp [storeVar, sizeOf, typeInfo, hq, hc, hs1, hr], hg.setRow _, fun b' cs' T' hne h => h.otherRow hne _, fun B w0 hb hB => below_setRow hb hB _, by simp [World.setRow], ⟨rfl, rfl, rfl, by simp [World.setRow], fun k _ hk => heap_setRow_other _ _ _ _ (fun e => hk (by rw [e]))⟩⟩
theorem wpList_store_cell {b i : Nat} {cs : Array Value} {T : TypeId} (hr : Row w b cs T) (hgd : o.guard = none) (hdst : o.dst = none) (ty : TypeId) (x y : Operand) (ho : o.op = .store ty x y) (hx : a.eval x = .pointer (some ⟨b, i, none⟩))
    (v : Value) (hy : a.eval y = v) (hi : i < cs.size) (hs : (P.info? ty).map (·.size) = some 1) (h1 : v.oneCell' = true)
    (h : ∀ w', Stored w w' b (cs.setIfInBounds i v) T → wpList P ops Q rest a w') : wpList P ops Q (o :: rest) a w := by
  refine wpList_plain hgd fun K hK => ?_
  obtain ⟨w', hrun, hst⟩ := run_store_cell (P := P) w b i T ty cs v hr hi hs h1
  unfold Oper.wp execOp
  simp only [ho, hx, hy, Instr.storeAt, Instr.sureAddr, Sem.run_bind, Sem.run_pure, Result.andThen_ok, hrun, Oper.upon, hdst, Act.put]
  exact hK _ _ (h w' hst)
end

section
variable {H : Type} {enc : TypeId × Value → H} {P : Program} {W : World}

theorem okWide_array {r : Reach} {b0 : Nat} {t e : TypeId} {n : Nat} {v : Value} (ht : P.underlying t = some (.array n e)) (h : Value.okWide P W r b0 t v) : ∃ cs : Array Value, v = .agg cs ∧ cs.size = P.cellsOf t := by
  simp only [Value.okWide, ht] at h
  obtain ⟨cs, h1, h2, _⟩ := h
  exact ⟨cs, h1, h2⟩
theorem list_of_nth {n : Nat} {cs : List Value} (hl : cs.length = n) {k : IntKind} (h : ∀ i, i < n → ∃ x : Int, (cs.drop i).take 1 = [.int k x] ∧ (Lit.int k x).wf = true) :
    ∃ f : Nat → Int, cs = (rowOf n fun i => .int k (f i)).toList ∧ ∀ i, i < n → (Lit.int k (f i)).wf = true := by
  refine ⟨fun i => if hi : i < n then Classical.choose (h i hi) else 0, ?_, fun i hi => ?_⟩
  · apply List.ext_getElem?
    intro i
    by_cases hi : i < n
    · obtain ⟨h1, _⟩ := Classical.choose_spec (h i hi)
      have e1 : (rowOf n fun i => Value.int k (if hi : i < n then Classical.choose (h i hi) else 0)).toList[i]? = some (.int k (Classical.choose (h i hi))) := by
        rw [Array.getElem?_toList, rowOf_get _ hi]; simp [hi]
      rw [e1]
      have := congrArg (fun l => l[0]?) h1
      simpa using this
    · rw [List.getElem?_eq_none (by omega), List.getElem?_eq_none (by simp [size_rowOf]; omega)]
  · simp only [hi, dif_pos]
    exact (Classical.choose_spec (h i hi)).2
/-- an array of numbers that came in -/
theorem open_arr_ints {r : Reach} {b0 n : Nat} {t e : TypeId} {k : IntKind} {v : Value} {d : DataW H} {ps : List MemPlace} (ht : P.underlying t = some (.array n e)) (he : P.underlying e = some (.int k)) (hc : P.cellsOf e = 1) (hct : P.cellsOf t = n)
    (hval : Value.okWide P W r b0 t v) (hd : DataW.Trod enc P W 0 (fun _ => true) true t v d ps) :
    ∃ f : Nat → Int, v = .agg (rowOf n fun i => .int k (f i)) ∧ ∀ i, i < n → (Lit.int k (f i)).wf = true := by
  obtain ⟨cs, rfl, hsz⟩ := okWide_array ht hval
  obtain ⟨fuel, hf⟩ := hd
  obtain ⟨xs, m, _, _, hl, hxl, hel⟩ := DataW.trod_array ht hf
  simp only [Value.cells] at hl hel
  obtain ⟨f, hcs, hwf⟩ := list_of_nth (n := n) (cs := cs.toList) (k := k) (by rw [hl, hct]) (fun i hi => by
    have h1 := hel i hi
    have hix : i < xs.length := by omega
    rw [hc, Nat.mul_one, List.getElem?_eq_getElem hix] at h1
    have h1' : DataW.trod enc P W 0 (fun _ => true) true m e ((cs.toList.drop i).take 1) = some (xs[i]) := h1
    have hone : ((cs.toList.drop i).take 1).length = 1 := by simp; rw [hsz, hct]; omega
    obtain ⟨c, hcc⟩ : ∃ c, (cs.toList.drop i).take 1 = [c] := by
      match hh : (cs.toList.drop i).take 1, hone with
      | [c], _ => exact ⟨c, rfl⟩
    rw [hcc] at h1' ⊢
    obtain ⟨a, ea, _, wa⟩ := DataW.trod_int he h1'
    exact ⟨a, ea, wa⟩)
  refine ⟨f, ?_, hwf⟩
  congr 1
  rw [← Array.toList_inj]; exact hcs
end

section
variable {P : Program} (w : World)
theorem run_part_int (e : TypeId) (k : IntKind) (he : P.underlying e = some (.int k)) (cs : Array Value) (i : Nat) (v : Value) (hv : cs[i]? = some v) : (part e cs i).run P w = .ok v w := by
  simp [part, isAgg, Sem.run_bind, run_underlying he, hv]
/-- arrays of numbers side by side -/
def sameTo (f g : Nat → Int) (s m : Nat) : Bool := (List.range' s m).all fun i => f i == g i
theorem sameTo_iff (f g : Nat → Int) (n : Nat) : sameTo f g 0 n = decide (∀ i, i < n → f i = g i) := by
  rw [Bool.eq_iff_iff]
  simp [sameTo]
theorem run_equalIn_arr (d n : Nat) (t e : TypeId) (k : IntKind) (f g : Nat → Int) (ht : P.underlying t = some (.array n e)) (he : P.underlying e = some (.int k)) (hs : (P.info? e).map (·.size) = some 1) :
    (Op.equalIn (d + 2) t (.agg (rowOf n fun i => .int k (f i))) (.agg (rowOf n fun i => .int k (g i)))).run P w = .ok (sameTo f g 0 n) w := by
  obtain ⟨ei, hei, hsz⟩ : ∃ ei, P.info? e = some ei ∧ ei.size = 1 := by
    cases hq : P.info? e with
    | none => simp [hq] at hs
    | some ei => exact ⟨ei, rfl, by simpa [hq] using hs⟩
  have hso : (sizeOf e).run P w = .ok 1 w := by simp [sizeOf, typeInfo, hei, hsz]
  rw [Op.equalIn]
  simp only [Sem.run_bind, run_underlying ht, Result.andThen_ok, hso, Nat.mul_one]
  rw [Std.Legacy.Range.forIn_eq_forIn_range']
  simp only [Std.Legacy.Range.size, Nat.sub_zero, Nat.add_sub_cancel, Nat.div_one]
  have key : ∀ (m s : Nat), s + m = n → ((forIn (List.range' s m) ((none, ()) : Option Bool × Unit) fun i r => do
      if (!(← Op.equalIn (d + 1) e (← part e (rowOf n fun i => .int k (f i)) i) (← part e (rowOf n fun i => .int k (g i)) i))) = true then pure (ForInStep.done (some false, ())) else pure (ForInStep.yield (none, ()))) : Sem _).run P w
      = .ok (if sameTo f g s m = true then (none, ()) else (some false, ())) w := by
    intro m
    induction m with
    | zero => intro s hs; rfl
    | succ m ih =>
      intro s hs
      rw [List.range'_succ, List.forIn_cons]
      simp only [Sem.run_bind, run_part_int w e k he _ s _ (rowOf_get (fun i => Value.int k (f i)) (show s < n by omega)), run_part_int w e k he _ s _ (rowOf_get (fun i => Value.int k (g i)) (show s < n by omega)), Result.andThen_ok, run_equalIn_int w d e k k _ _ he]
      have hst : sameTo f g s (m + 1) = ((f s == g s) && sameTo f g (s + 1) m) := by simp [sameTo, List.range'_succ]
      rw [hst]
      cases hb : f s == g s
      · simp [Sem.run_pure]
      · simp only [Bool.not_true, Bool.false_eq_true, if_false, Sem.run_pure, Result.andThen_ok, Bool.true_and]
        exact ih (s + 1) (by omega)
  have := key n 0 (by omega)
  rw [this]
  cases sameTo f g 0 n <;> simp
theorem run_eql_arr (n : Nat) (t e : TypeId) (k : IntKind) (f g : Nat → Int) (ht : P.underlying t = some (.array n e)) (he : P.underlying e = some (.int k)) (hs : (P.info? e).map (·.size) = some 1) :
    (binOp .eql t (.agg (rowOf n fun i => .int k (f i))) (.agg (rowOf n fun i => .int k (g i)))).run P w = .ok (.bool (sameTo f g 0 n)) w := by
  rw [run_eql_struct, run_equalIn_arr w 9998 n t e k f g ht he hs]; rfl
theorem run_neq_arr (n : Nat) (t e : TypeId) (k : IntKind) (f g : Nat → Int) (ht : P.underlying t = some (.array n e)) (he : P.underlying e = some (.int k)) (hs : (P.info? e).map (·.size) = some 1) :
    (binOp .neq t (.agg (rowOf n fun i => .int k (f i))) (.agg (rowOf n fun i => .int k (g i)))).run P w = .ok (.bool (!sameTo f g 0 n)) w := by
  rw [run_neq_struct, run_equalIn_arr w 9998 n t e k f g ht he hs]; rfl
end
end Go.Proofs.YtonjilfbcofoaaaDoor
