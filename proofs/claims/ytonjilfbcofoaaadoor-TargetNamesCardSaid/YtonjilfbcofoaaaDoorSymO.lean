/-
  Arguments opened: what came in of whatever type is data of its sort.
-/
import Derived.Test.YtonjilfbcofoaaaDoorKitR
import Derived.ChangeSlices
import Derived.Test.YtonjilfbcofoaaaDoorSymJ
import Derived.Lib.SmallJoins
namespace Go.Proofs.YtonjilfbcofoaaaDoor
open Go.ChangeShapes Go.WideShapes Go.ChangeAt Go.RowKit
set_option linter.unusedVariables false

theorem All2.getO {α β : Type} {R : α → β → Prop} : ∀ {l : List α} {m : List β}, All2 R l m → ∀ {i : Nat} {s : α}, l[i]? = some s → ∃ d, m[i]? = some d ∧ R s d
  | _, _, .cons h t, 0, s, e => by cases e; exact ⟨_, rfl, h⟩
  | _, _, .cons h t, i + 1, s, e => t.getO (i := i) (by simpa using e)
/-- numbers are within their kinds, and no list is too long -/
inductive InD : Dat → Prop where
  | int (k : IntKind) (n : Int) (h : (Lit.int k n).wf = true) : InD (.int k n)
  | bool (b : Bool) : InD (.bool b)
  | str (s : ByteArray) (h : s.size ≤ maxLen) : InD (.val (.string s))
  | list (v : Value) (sz : Nat) (xs : List (List Dat)) (hl : xs.length ≤ maxLen) (h : ∀ row ∈ xs, ∀ d ∈ row, InD d) : InD (.list v sz xs)
def InL (l : List Dat) : Prop := ∀ d ∈ l, InD d
section
variable (P : Program) (R : List TypeId)
def srtFs (g : TypeId → Option (List Srt)) (total : Nat) : List Field → Nat → Option (List Srt)
  | [], off => if off = total then some [] else none
  | f :: fs, off => if f.offset = off then (g f.type).bind fun l => if l.length = P.cellsOf f.type then (srtFs g total fs (off + l.length)).map (l ++ ·) else none else none
/-- the sorts of a type's cells; R: which elements' rows are known -/
def srtT : Nat → TypeId → Option (List Srt)
  | 0, _ => none
  | d + 1, t => match P.underlying t with
    | some (.int k) => some [.int k]
    | some .bool => some [.bool]
    | some .string => some [.str]
    | some (.slice e) => if R.contains e then some [.list e] else none
    | some (.array m e) => (srtT d e).bind fun l => if P.cellsOf t = m * P.cellsOf e ∧ l.length = P.cellsOf e then some (List.replicate m l).flatten else none
    | some (.struct fs) => srtFs P (srtT d) (P.cellsOf t) fs.toList 0
    | _ => none
def tabOk (Δ : Tab) (D : Nat) : Bool := R.all fun e => (srtT P R D e == some (Δ.row e)) && (P.cellsOf e == (Δ.row e).length) && decide (0 < P.cellsOf e)
end
section
variable {H : Type} {enc : TypeId × Value → H} {P : Program} {W : World} {R : List TypeId} {Δ : Tab}
/-- cells that are data of these sorts -/
def OD (Δ : Tab) (W : World) (ss : List Srt) (cs : List Value) : Prop := ∃ ds : List Dat, cs = ds.map Dat.toV ∧ All2 (Has Δ) ss ds ∧ OkL W ds ∧ InL ds
theorem OD.append {ss ss' : List Srt} {cs cs' : List Value} (h : OD Δ W ss cs) (h' : OD Δ W ss' cs') : OD Δ W (ss ++ ss') (cs ++ cs') := by
  obtain ⟨ds, rfl, h1, h2, h3⟩ := h
  obtain ⟨ds', rfl, h1', h2', h3'⟩ := h'
  refine ⟨ds ++ ds', by simp, h1.append h1', fun d hd => ?_, fun d hd => ?_⟩
  · rcases List.mem_append.1 hd with hd | hd
    · exact h2 d hd
    · exact h2' d hd
  · rcases List.mem_append.1 hd with hd | hd
    · exact h3 d hd
    · exact h3' d hd
theorem OD.nil : OD Δ W [] [] := ⟨[], rfl, .nil, fun _ h => absurd h List.not_mem_nil, fun _ h => absurd h List.not_mem_nil⟩
theorem OD.one {s : Srt} {d : Dat} (h1 : Has Δ s d) (h2 : OkD W d) (h3 : InD d) : OD Δ W [s] [d.toV] :=
  ⟨[d], rfl, .cons h1 .nil, fun x hx => by rw [List.mem_singleton.1 hx]; exact h2, fun x hx => by rw [List.mem_singleton.1 hx]; exact h3⟩
theorem OD.chunks {ss : List Srt} {c : Nat} : ∀ (m : Nat) (cs : List Value), cs.length = m * c → (∀ i, i < m → OD Δ W ss ((cs.drop (i * c)).take c)) → OD Δ W (List.replicate m ss).flatten cs
  | 0, cs, hl, _ => by
    have : cs = [] := List.length_eq_zero_iff.1 (by omega)
    subst this; exact OD.nil
  | m + 1, cs, hl, h => by
    rw [List.replicate_succ, List.flatten_cons, ← List.take_append_drop c cs]
    refine OD.append (by simpa using h 0 (by omega)) (OD.chunks (c := c) m _ (by rw [List.length_drop, hl, Nat.succ_mul]; omega) fun i hi => ?_)
    have := h (i + 1) (by omega)
    rw [List.drop_drop]
    rw [Nat.succ_mul, Nat.add_comm] at this
    exact this
theorem OD.fields {g : TypeId → Option (List Srt)} {cs : List Value} : ∀ (fs : List Field) (off : Nat) (ss : List Srt), srtFs P g cs.length fs off = some ss →
    (∀ f ∈ fs, ∀ l, g f.type = some l → OD Δ W l ((cs.drop f.offset).take (P.cellsOf f.type))) → OD Δ W ss (cs.drop off)
  | [], off, ss, h, _ => by
    simp only [srtFs] at h
    split at h
    · rename_i ho; cases h; subst ho; rw [List.drop_length]; exact OD.nil
    · cases h
  | f :: fs, off, ss, h, hf => by
    simp only [srtFs] at h
    split at h
    case isFalse => cases h
    rename_i ho
    subst ho
    simp only [Option.bind_eq_some_iff] at h
    obtain ⟨l, hl, h⟩ := h
    split at h
    case isFalse => cases h
    rename_i hc
    simp only [Option.map_eq_some_iff] at h
    obtain ⟨ss', h', rfl⟩ := h
    have i1 := hf f (by simp) l hl
    have i2 := OD.fields fs _ ss' h' fun f hm => hf f (by simp [hm])
    have e : cs.drop f.offset = (cs.drop f.offset).take (P.cellsOf f.type) ++ cs.drop (f.offset + l.length) := by
      rw [hc, ← List.drop_drop, List.take_append_drop]
    rw [e]
    exact i1.append i2
theorem open_trod {D : Nat} (ht : tabOk P R Δ D = true) : ∀ (fuel d : Nat) (t : TypeId) (ss : List Srt) (cs : List Value) (x : DataW H × List MemPlace), srtT P R d t = some ss → DataW.trod enc P W 0 (fun _ => true) true fuel t cs = some x → OD Δ W ss cs
  | 0, _, _, _, _, _, _, hx => by simp [DataW.trod] at hx
  | fuel + 1, 0, _, _, _, _, h, _ => by simp [srtT] at h
  | fuel + 1, d + 1, t, ss, cs, x, h, hx => by
    unfold srtT at h
    cases hu : P.underlying t with
    | none => simp [hu] at h
    | some kd =>
      cases kd with
      | int q =>
        simp only [hu, Option.some.injEq] at h; subst h
        obtain ⟨a, rfl, _, hw⟩ := DataW.trod_int hu hx
        exact OD.one (d := .int q a) (.int q a) (.int q a) (.int q a hw)
      | bool =>
        simp only [hu, Option.some.injEq] at h; subst h
        obtain ⟨a, rfl, _⟩ := DataW.trod_bool hu hx
        exact OD.one (d := .bool a) (.bool a) (.bool a) (.bool a)
      | string =>
        simp only [hu, Option.some.injEq] at h; subst h
        obtain ⟨a, rfl, _, hm⟩ := DataW.trod_string hu hx
        exact OD.one (d := .val (.string a)) (.str a) (.val _) (.str a hm)
      | array m e =>
        simp only [hu, Option.bind_eq_some_iff] at h
        obtain ⟨l, hl, h⟩ := h
        split at h
        case isFalse => cases h
        rename_i hc
        cases h
        obtain ⟨xs, m', e', _, hcl, hxl, hel⟩ := DataW.trod_array hu hx
        obtain rfl : fuel = m' := by omega
        refine OD.chunks (c := P.cellsOf e) m cs (by rw [hcl, hc.1]) fun i hi => ?_
        have h4 := hel i hi
        rw [List.getElem?_eq_getElem (by omega)] at h4
        exact open_trod ht fuel d e l _ _ hl h4
      | struct fs =>
        rw [hu] at h
        simp only at h
        obtain ⟨xs, m', e', _, hcl, hxl, hel⟩ := DataW.trod_struct hu hx
        obtain rfl : fuel = m' := by omega
        rw [← hcl] at h
        have := OD.fields (Δ := Δ) (W := W) (P := P) (cs := cs) fs.toList 0 ss h fun f hf l hl => by
          obtain ⟨i, hi, rfl⟩ := List.getElem_of_mem hf
          have h5 := hel i fs.toList[i] (by rw [← Array.getElem?_toList]; exact List.getElem?_eq_getElem hi)
          rw [List.getElem?_eq_getElem (by simp at hi; omega)] at h5
          exact open_trod ht fuel d _ l _ _ hl h5
        simpa using this
      | slice e =>
        simp only [hu] at h
        split at h
        case isFalse => cases h
        rename_i he
        cases h
        have hR : e ∈ R := by simpa using he
        have hrow := List.all_eq_true.1 ht e hR
        simp only [Bool.and_eq_true, beq_iff_eq, decide_eq_true_eq] at hrow
        obtain ⟨⟨hr1, hr2⟩, hr3⟩ := hrow
        rcases DataW.trod_slice hu hx with ⟨rfl, _⟩ | ⟨a, len, cap, elems, rest, n, e', rfl, _, _, hl, hm, hlen, hel, _, _⟩
        · exact OD.one (d := .list (.slice none 0 0) (Δ.row e).length []) (.list e none 0 0 [] (by simp) (by simp)) (.list _ _ _ ⟨none, 0, rfl, Nat.le_refl _, by simp [flatV], fun h => absurd h (by simp)⟩ (by simp)) (.list _ _ _ (by simp) (by simp))
        · obtain rfl : fuel = n := by omega
          have each : ∀ i, i < len → ∃ ds : List Dat, W.cells? 0 (a.add (i * P.cellsOf e)) (P.cellsOf e) = some (ds.map Dat.toV) ∧ All2 (Has Δ) (Δ.row e) ds ∧ OkL W ds ∧ InL ds := fun i hi => by
            have h1 := hel i hi
            rw [List.getElem?_eq_getElem (by omega), Option.bind_eq_some_iff] at h1
            obtain ⟨cs, h2, h3⟩ := h1
            obtain ⟨ds, rfl, h4⟩ := open_trod ht fuel D e _ _ _ hr1 h3
            exact ⟨ds, h2, h4⟩
          have g : ∀ i, ∃ ds : List Dat, i < len → W.cells? 0 (a.add (i * P.cellsOf e)) (P.cellsOf e) = some (ds.map Dat.toV) ∧ All2 (Has Δ) (Δ.row e) ds ∧ OkL W ds ∧ InL ds := fun i => by
            by_cases hi : i < len
            · obtain ⟨f, h⟩ := each i hi
              exact ⟨f, fun _ => h⟩
            · exact ⟨[], fun h => absurd h hi⟩
          obtain ⟨F, hF⟩ := Classical.axiomOfChoice g
          have hmem : ∀ row ∈ (List.range len).map F, ∃ i, i < len ∧ row = F i := fun row hr => by
            obtain ⟨i, hi, rfl⟩ := List.mem_map.1 hr
            exact ⟨i, by simpa using hi, rfl⟩
          have hlenF : ∀ i, i < len → (F i).length = (Δ.row e).length := fun i hi => (hF i hi).2.1.length.symm
          have hsz : ∀ row ∈ (List.range len).map F, row.length = (Δ.row e).length := fun row hr => by
            obtain ⟨i, hi, rfl⟩ := hmem row hr
            exact hlenF i hi
          have cellAt : ∀ i j d, i < len → (F i)[j]? = some d → W.cell? (a.add (i * P.cellsOf e + j)) = some d.toV := fun i j d hi hd => by
            have hj : j < P.cellsOf e := by rw [hr2, ← hlenF i hi]; exact (List.getElem?_eq_some_iff.1 hd).1
            have h := (World.cells?_some (hF i hi).1).2.2 j hj
            rw [List.getElem?_map, hd] at h
            rw [← add_add']
            first | exact h | exact h.symm | simpa using h
          have hfl : (flatV ((List.range len).map F)).length = len * (Δ.row e).length := by
            have : ∀ l : List (List Dat), (∀ row ∈ l, row.length = (Δ.row e).length) → (flatV l).length = l.length * (Δ.row e).length := by
              intro l
              induction l with
              | nil => intro _; simp [flatV]
              | cons r l ih =>
                intro h
                have := ih fun row hr => h row (by simp [hr])
                simp only [flatV, List.flatten_cons, List.map_append, List.length_append, List.length_map, List.length_cons, Nat.succ_mul] at this ⊢
                rw [this, h r (by simp)]; omega
            rw [this _ hsz]; simp
          refine OD.one (d := .list (.slice (some a) len cap) (Δ.row e).length ((List.range len).map F)) (by
            refine .list e (some a) len cap _ hsz fun row hr c s d hs hd => ?_
            obtain ⟨i, hi, rfl⟩ := hmem row hr
            obtain ⟨d', hd', hh⟩ := (hF i hi).2.1.getO hs
            rw [hd] at hd'; cases hd'; exact hh) (.list _ _ _ ⟨some a, cap, by simp, by simpa using hl, by simpa using hfl, fun hn => ⟨a, rfl, ?_, ?_⟩⟩ fun row hr d hd => ?_) (.list _ _ _ (by simp; omega) fun row hr d hd => ?_)
          · have hn : 0 < len := by simpa using hn
            have h0 := hlenF 0 hn
            have hc := cellAt 0 0 ((F 0)[0]'(by omega)) hn (List.getElem?_eq_getElem _)
            have := block_lt_of_cell hc
            simpa [block_add] using this
          · intro j u hu'
            have hj : j < len * (Δ.row e).length := by
              have := (List.getElem?_eq_some_iff.1 hu').1
              rw [hfl] at this; exact this
            have hz : 0 < (Δ.row e).length := by omega
            have hi : j / (Δ.row e).length < len := Nat.div_lt_of_lt_mul (by rwa [Nat.mul_comm])
            have hr : j % (Δ.row e).length < (Δ.row e).length := Nat.mod_lt _ hz
            have ej : j / (Δ.row e).length * (Δ.row e).length + j % (Δ.row e).length = j := by rw [Nat.mul_comm]; exact Nat.div_add_mod j _
            have hlt : j % (Δ.row e).length < (F (j / (Δ.row e).length)).length := by rw [hlenF _ hi]; exact hr
            have h1 := flat_get hsz (k := j / (Δ.row e).length) (j := j % (Δ.row e).length) (row := F (j / (Δ.row e).length)) (d := (F (j / (Δ.row e).length))[j % (Δ.row e).length]) (by simp [hi]) (List.getElem?_eq_getElem hlt)
            have h2 := cellAt _ _ _ hi (List.getElem?_eq_getElem hlt)
            rw [ej] at h1
            rw [hr2, ej] at h2
            rw [h2, ← hu', h1]
          · obtain ⟨i, hi, rfl⟩ := hmem row hr
            exact (hF i hi).2.2.1 d hd
          · obtain ⟨i, hi, rfl⟩ := hmem row hr
            exact (hF i hi).2.2.2 d hd
      | _ => simp [hu] at h
def agP (P : Program) (t : TypeId) : Bool := match P.underlying t with
  | some (.array _ _) => true
  | some (.struct _) => true
  | _ => false
theorem open_one {D d base : Nat} {r : Reach} (ht : tabOk P R Δ D = true) {t : TypeId} {ss : List Srt} {v : Value} {x : DataW H} {ps : List MemPlace} (h : srtT P R d t = some ss) (hval : Value.okWide P W r base t v)
    (hd : DataW.Trod enc P W 0 (fun _ => true) true t v x ps) : ∃ ds, ds.length = ss.length ∧ v = (if agP P t then .agg (ds.map Dat.toV).toArray else (ds.headD (.bool false)).toV) ∧ All2 (Has Δ) ss ds ∧ OkL W ds ∧ InL ds := by
  obtain ⟨fuel, hf⟩ := hd
  obtain ⟨ds, e, h1, h2, h3⟩ := open_trod ht fuel d t ss _ _ h hf
  refine ⟨ds, h1.length.symm, ?_, h1, h2, h3⟩
  have scal : v.cells = #[v] → agP P t = false → v = (if agP P t then .agg (ds.map Dat.toV).toArray else (ds.headD (.bool false)).toV) := fun hc ha => by
    rw [hc] at e
    rw [ha]
    cases ds with
    | nil => cases e
    | cons y ds => simp only [List.map_cons, List.cons.injEq] at e; exact e.1
  have agg : ∀ cs : Array Value, v = .agg cs → agP P t = true → v = (if agP P t then .agg (ds.map Dat.toV).toArray else (ds.headD (.bool false)).toV) := fun cs hc ha => by
    subst hc
    rw [ha, if_pos rfl, ← e]; rfl
  cases d with
  | zero => simp [srtT] at h
  | succ d =>
    unfold srtT at h
    cases hu : P.underlying t with
    | none => simp [hu] at h
    | some kd =>
      cases kd with
      | int q =>
        obtain ⟨n, rfl⟩ := okWide_int hu hval
        exact scal rfl (by simp [agP, hu])
      | bool =>
        obtain ⟨n, rfl⟩ := okWide_bool hu hval
        exact scal rfl (by simp [agP, hu])
      | string =>
        obtain ⟨n, rfl⟩ := okWide_string hu hval
        exact scal rfl (by simp [agP, hu])
      | slice e =>
        obtain ⟨a, n, c, rfl⟩ := okWide_slice hu hval
        exact scal rfl (by simp [agP, hu])
      | struct fs =>
        simp only [Value.okWide, hu] at hval
        obtain ⟨cs, h1, _⟩ := hval
        exact agg cs h1 (by simp [agP, hu])
      | array m e =>
        simp only [Value.okWide, hu] at hval
        obtain ⟨cs, h1, _⟩ := hval
        exact agg cs h1 (by simp [agP, hu])
      | _ => simp [hu] at h
/-- all arguments at once -/
theorem open_all {D d base : Nat} {r : Reach} (ht : tabOk P R Δ D = true) : ∀ {ts : List TypeId} {gs : List (Bool × List Srt)} {vs : List Value} {xs : List (DataW H)} {p : List MemPlace},
    (ts.map fun t => (agP P t, srtT P R d t)) = (gs.map fun g => (g.1, some g.2)) → (∀ (j : Nat) t v, ts[j]? = some t → vs[j]? = some v → Value.okWide P W r base t v) → DataW.TrodAll enc P W 0 (fun _ => true) true ts vs xs p →
    ∃ ds, vs = groupV gs ds ∧ All2 (Has Δ) (Sig.sorts gs) ds ∧ OkL W ds ∧ InL ds
  | [], gs, vs, xs, p, hg, _, h => by
    obtain rfl : gs = [] := by cases gs with
      | nil => rfl
      | cons _ _ => cases hg
    obtain ⟨rfl, _, _⟩ := trodAll_nil h
    exact ⟨[], rfl, .nil, fun _ h => absurd h List.not_mem_nil, fun _ h => absurd h List.not_mem_nil⟩
  | t :: ts, gs, vs, xs, p, hg, hv, h => by
    obtain ⟨v, vs', d0, ds0, p0, q0, rfl, rfl, rfl, h0, r0⟩ := trodAll_cons h
    cases gs with
    | nil => cases hg
    | cons g gs =>
      simp only [List.map_cons, List.cons.injEq, Prod.mk.injEq] at hg
      obtain ⟨⟨hg1, hg2⟩, hg3⟩ := hg
      obtain ⟨ds, hl, e, h1, h2, h3⟩ := open_one ht hg2 (hv 0 t v rfl rfl) h0
      obtain ⟨ds', e', h1', h2', h3'⟩ := open_all ht hg3 (fun j t v a b => hv (j + 1) t v (by simpa using a) (by simpa using b)) r0
      refine ⟨ds ++ ds', ?_, ?_, fun x hx => ?_, fun x hx => ?_⟩
      · obtain ⟨ag, ss⟩ := g
        simp only at hg1 hg2 h1 hl
        simp only [groupV, ← hl, List.take_left, List.drop_left, ← e', ← hg1]
        congr 1
        rw [e]
        cases ha : agP P t with
        | true => rfl
        | false =>
          simp only [Bool.false_eq_true, if_false]
          cases ds with
          | nil =>
            exfalso
            have h5 := h1.length
            simp only [List.length_nil, List.length_eq_zero_iff] at h5
            subst h5
            have := h2
            cases d with
            | zero => simp [srtT] at hg2
            | succ d =>
              unfold srtT at hg2
              unfold agP at ha
              cases hu : P.underlying t with
              | none => simp [hu] at hg2
              | some kd => cases kd <;> simp [hu] at hg2 ha
          | cons _ _ => rfl
      · simp only [Sig.sorts, List.flatMap_cons]
        exact h1.append h1'
      · rcases List.mem_append.1 hx with hx | hx
        · exact h2 x hx
        · exact h2' x hx
      · rcases List.mem_append.1 hx with hx | hx
        · exact h3 x hx
        · exact h3' x hx
end
end Go.Proofs.YtonjilfbcofoaaaDoor
