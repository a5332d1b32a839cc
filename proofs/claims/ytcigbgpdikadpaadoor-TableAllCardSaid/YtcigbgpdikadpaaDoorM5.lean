import Derived.Test.YtcigbgpdikadpaaDoorM4

set_option linter.unusedVariables false
set_option linter.unusedSimpArgs false

section
namespace Go.Proofs.YtcigbgpdikadpaaDoor
open Go.RowKit
set_option linter.unusedVariables false

section
variable {E : Env} {w0 w w' : World} {ρ : List Dat} {σ : List Value} {S S' : St} {a : Act} {o : Oper} {L : List Fact} {Q : Exit → Act → World → Prop}
theorem stC_ok {cs cs' : List C} {vs : List Value} (h : All2 (CR E ρ σ) cs vs) {off : Nat} {c : Tm} {x : C} {v : Value} {b : Bool} (hc : Den E.Δ ρ c (.bool b)) (hx : CR E ρ σ x v) (he : stC cs off c x = some cs') :
    off < vs.length ∧ All2 (CR E ρ σ) cs' (if b then vs.set off v else vs) := by
  unfold stC at he
  split at he
  · have := hc.now
    cases this
    split at he
    case isFalse => cases he
    rename_i hlt
    cases he
    exact ⟨by rw [← h.length]; exact hlt, h.set hx off⟩
  · split at he
    · rename_i u s' t s hq
      split at he
      case isFalse => cases he
      rename_i hs
      subst hs
      cases he
      obtain ⟨v0, h1, h2⟩ := h.get hq
      have hlt := (List.getElem?_eq_some_iff.1 h1).1
      refine ⟨hlt, ?_⟩
      obtain ⟨d0, f1, f2, f3, f4⟩ := h2
      obtain ⟨d, g1, g2, g3, g4⟩ := hx
      have hcr : CR E ρ σ (.p (.tm (mkIte c t u) s)) (if b then v else v0) := by
        refine ⟨if b then d else d0, fun e => by rw [mkIte_den _ _ (hc e), g1 e, f1 e], ?_, ?_, f4⟩
        · cases b
          · exact f2
          · exact g2
        · cases b
          · exact f3
          · exact g3
      have := h.set hcr off
      cases b
      · simp only [Bool.false_eq_true, if_false] at this ⊢
        have e : vs.set off v0 = vs := by
          apply List.ext_getElem?
          intro i
          rw [List.getElem?_set]
          by_cases hi : off = i
          · subst hi; rw [if_pos rfl, if_pos hlt, h1]
          · rw [if_neg hi]
        rwa [e] at this
      · exact this
    · cases he
theorem mkAnd_den (Δ : Tab) (ρ : List Dat) {a b : Tm} {p q : Bool} (ha : den Δ ρ a = .bool p) (hb : den Δ ρ b = .bool q) : den Δ ρ (mkAnd a b) = .bool (p && q) := by
  unfold mkAnd
  split
  · cases ha; rw [hb]; simp
  · simp [den, ha, hb, Dat.toBool]
theorem stD_ok {off : Nat} {x : C} {v : Value} (hx : CR E ρ σ x v) : ∀ {dyn : List (Tm × Nat × Nat)} {c : Tm} {b : Bool} {oo q : Nat} {cs cs' : List C} {vs : List Value}, All2 (CR E ρ σ) cs vs → Den E.Δ ρ c (.bool b) → DynR E ρ dyn q → stD off x dyn c oo cs = some cs' →
    off + oo + q < vs.length ∧ All2 (CR E ρ σ) cs' (if b then vs.set (off + oo + q) v else vs)
  | [], c, b, oo, q, cs, cs', vs, h, hc, hq, he => by
    cases hq
    exact stC_ok h hc hx he
  | (i, st, m) :: l, c, b, oo, q, cs, cs', vs, h, hc, hq, he => by
    obtain ⟨k, q', h1, h2, h3, h4, rfl⟩ := hq
    have key : ∀ M, M ≤ m → ∀ cs', (List.range M).foldl (fun acc (k : Nat) => acc.bind fun cs => stD off x l (mkAnd c (.cmp .eq i (.int .i64 k))) (oo + k * st) cs) (some cs) = some cs' →
        (k.toNat < M → off + oo + (k.toNat * st + q') < vs.length) ∧ All2 (CR E ρ σ) cs' (if b && decide (k.toNat < M) then vs.set (off + oo + (k.toNat * st + q')) v else vs) := by
      intro M
      induction M with
      | zero =>
        intro _ cs' hf
        simp only [List.range_zero, List.foldl_nil, Option.some.injEq] at hf
        subst hf
        simpa using h
      | succ M ih =>
        intro hM cs' hf
        rw [List.range_succ, List.foldl_append] at hf
        simp only [List.foldl_cons, List.foldl_nil, Option.bind_eq_some_iff] at hf
        obtain ⟨cs1, hf1, hf2⟩ := hf
        obtain ⟨i1, i2⟩ := ih (by omega) cs1 hf1
        have hcond : Den E.Δ ρ (mkAnd c (.cmp .eq i (.int .i64 M))) (.bool (b && (k == (M : Int)))) := fun e => mkAnd_den _ _ (hc e) (by simp [den, h1 e, Dat.toInt, Cmp.of])
        obtain ⟨j1, j2⟩ := stD_ok hx i2 hcond h4 hf2
        by_cases hk : k.toNat = M
        · have hkM : k = (M : Int) := by omega
          rw [hkM] at j1 j2 ⊢
          simp only [Int.toNat_natCast, Nat.lt_irrefl, decide_false, Bool.and_false, Bool.false_eq_true, if_false, beq_self_eq_true, Bool.and_true, Nat.lt_succ_self, decide_true] at j1 j2 ⊢
          rw [show off + oo + (M * st + q') = off + (oo + M * st) + q' by omega]
          exact ⟨fun _ => j1, j2⟩
        · have hne : (k == (M : Int)) = false := by simp; omega
          rw [hne, Bool.and_false] at j2
          simp only [Bool.false_eq_true, if_false] at j2
          have hiff : decide (k.toNat < M + 1) = decide (k.toNat < M) := decide_eq_decide.2 (by omega)
          rw [hiff]
          exact ⟨fun hlt => i1 (by omega), j2⟩
    have hkm : k.toNat < m := by omega
    obtain ⟨r1, r2⟩ := key m (Nat.le_refl _) cs' he
    refine ⟨r1 hkm, ?_⟩
    simpa [hkm] using r2
end
def stN (dyn : List (Tm × Nat × Nat)) : List C → Nat → List C → Option (List C)
  | [], _, cs => some cs
  | x :: l, off, cs => (stD off x dyn (.bool true) 0 cs).bind fun cs' => stN dyn l (off + 1) cs'
section
variable {E : Env} {w0 w w' : World} {ρ : List Dat} {σ : List Value} {S S' : St} {a : Act} {o : Oper} {L : List Fact} {Q : Exit → Act → World → Prop}
theorem stN_ok {dyn : List (Tm × Nat × Nat)} {q : Nat} (hq : DynR E ρ dyn q) : ∀ {l : List C} {us : List Value} {off : Nat} {cs cs' : List C} {vs : List Value}, All2 (CR E ρ σ) l us → All2 (CR E ρ σ) cs vs → stN dyn l off cs = some cs' →
    (us ≠ [] → off + q + us.length ≤ vs.length) ∧ All2 (CR E ρ σ) cs' (setMany vs (off + q) us)
  | [], _, off, cs, cs', vs, hl, h, he => by cases hl; cases he; exact ⟨fun h => (h rfl).elim, h⟩
  | x :: l, _, off, cs, cs', vs, hl, h, he => by
    cases hl with
    | cons hx hl =>
    rename_i u us
    simp only [stN, Option.bind_eq_some_iff] at he
    obtain ⟨cs1, h1, h2⟩ := he
    obtain ⟨k1, k2⟩ := stD_ok hx h (c := .bool true) (b := true) (fun _ => rfl) hq h1
    simp only [Nat.add_zero, if_true] at k1 k2
    obtain ⟨m1, m2⟩ := stN_ok hq hl k2 h2
    rw [show off + 1 + q = off + q + 1 by omega] at m1 m2
    refine ⟨fun _ => ?_, m2⟩
    simp only [List.length_cons]
    cases us with
    | nil => simp; omega
    | cons u' us =>
      have := m1 (by simp)
      simp only [List.length_set, List.length_cons] at this ⊢
      omega
end
def mkApp : Tm → Tm → Tm
  | a, .nil _ => a
  | a, .emp => a
  | a, .push .emp row => .push a row
  | a, b => .app a b
/-- the terms of cells that are laid into a row from a place on -/
def tmsAt (ss : List Srt) : Nat → List C → Option (List Tm)
  | _, [] => some []
  | off, .p (.tm u s) :: l => if ss[off]? = some s ∧ s.one = true then (tmsAt ss (off + 1) l).map (u :: ·) else none
  | off, .p .nils :: l => match ss[off]? with
    | some (.list r) => (tmsAt ss (off + 1) l).map (.nil r :: ·)
    | _ => none
  | _, _ => none
def updN (t i : Tm) : Nat → List Tm → Tm
  | _, [] => t
  | off, u :: l => updN (.upd t i off u) i (off + 1) l
/-- a cell that is reckoned, of one of m, is laid into a row -/
def dynN (a0 i t u : Tm) (s : Srt) (off : Nat) : Nat → Tm
  | 0 => a0
  | c + 1 => .upd (dynN a0 i t u s off c) i (off + c) (.ite (.cmp .eq t (.int .i64 c)) u (.elem a0 i (off + c) s))
/-- what an operation writes -/
def evalW (X : Ctx) (S : St) (o : Oper) : Option (St × List Tm) := match o.op with
  | .store ty x y => match opdR (opd S.slots x), opd S.slots y, o.dst with
    | some (.ob j, off, dyn), .v y, none => match S.objs[j]? with
      | some (.blk cs T) => if (cellsA y).all C.one && szT X.P ty == some (cellsA y).length && (cellsA y).length != 0 then (stN dyn (cellsA y) off cs).map fun cs' => ({ S with objs := S.objs.set j (.blk cs' T) }, []) else none
      | _ => none
    | some (.oe j r i, off, []), .v y, none => match S.objs[j]? with
      | some (.own r' t) => if r = r' ∧ szT X.P ty = some (cellsA y).length ∧ (cellsA y).length ≠ 0 then (tmsAt (X.Δ.row r) off (cellsA y)).map fun us => ({ S with objs := S.objs.set j (.own r (updN t i off us)) }, []) else none
      | _ => none
    | some (.oe j r i, off, [(t, st, m)]), .v (.c (.p (.tm u s))), none => match S.objs[j]? with
      | some (.own r' a0) => if r = r' ∧ st = 1 ∧ szT X.P ty = some 1 ∧ s.one = true ∧ (List.range m).all (fun c => (X.Δ.row r)[off + c]? == some s) = true then some ({ S with objs := S.objs.set j (.own r (dynN a0 i t u s off m)) }, []) else none
      | _ => none
    | _, _, _ => none
  | .slice t x none (some hi) (some mx) => match opd S.slots x, X.P.underlying t with
    | .v (.c (.p (.own j))), some (.slice e) => match S.objs[j]? with
      | some (.own r u) => if szT X.P e = some (X.Δ.row r).length ∧ opdI (opd S.slots hi) = some (mkLen u, .i64) ∧ opdI (opd S.slots mx) = some (mkLen u, .i64) then
          some ({ S with objs := S.objs.set j .dead ++ [.own r u], slots := putO S.slots o.dst (.v (.c (.p (.own S.objs.length)))) }, []) else none
      | _ => none
    | _, _ => none
  | .makeSlice t l c => match opdI (opd S.slots l), opdI (opd S.slots c), X.P.underlying t with
    | some (n, .i64), some (n', .i64), some (.slice e) => if n = n' ∧ o.dst.isSome = true then (match zeroRow X.P e (X.Δ.row e), X.P.info? e with
      | some [z], some i => if i.size = 1 ∧ (X.Δ.row e).length = 1 ∧ i.zero.map (·.oneCell') = some true then some ({ S with objs := S.objs ++ [.own e (.rep n (.econs z .enil))], slots := putO S.slots o.dst (.v (.c (.p (.own S.objs.length)))) },
          [mkCmp .ge n (.int .i64 0), mkCmp .le n (.int .i64 (140737488355328 / max 1 i.bytes : Nat))]) else none
      | _, _ => none) else none
    | _, _, _ => none
  | .call c => match c.callee, c.args.toList, c.argTypes.toList with
    | .builtin .append, [x, y], [t, t'] => match X.P.underlying t with
      | some (.slice e) => if t = t' then match opd S.slots x, contentOf S.objs (opd S.slots x), contentOf S.objs (opd S.slots y) with
        | .v (.c (.p (.own j))), some (r, u), some (r', u') => if r = r' then match X.P.info? e with
            | some i => if i.size = (X.Δ.row r).length ∧ (i.zero.map (fun z => z.cells.size) = some i.size) ∧ (X.Δ.row r).all (·.one) = true then
                some ({ S with objs := S.objs.set j .dead ++ [.own r (mkApp u u')], slots := putO S.slots o.dst (.v (.c (.p (.own S.objs.length)))) }, [.cmp .le (.len (mkApp u u')) (.int .i64 (140737488355328 / max 1 i.bytes : Nat))])
              else none
            | none => none
          else none
        | _, _, _ => none
      else none
      | _ => none
    | _, _, _ => none
  | _ => none
/-- the object that it writes -/
def tgtW (S : St) (o : Oper) : Option Nat := match o.op with
  | .store _ x _ => match opdR (opd S.slots x) with
    | some (.ob j, _, _) => some j
    | some (.oe j _ _, _, _) => some j
    | _ => none
  | .slice _ x _ _ _ => match opd S.slots x with
    | .v (.c (.p (.own j))) => some j
    | _ => none
  | .call c => match c.args.toList with
    | x :: _ => match opd S.slots x with
      | .v (.c (.p (.own j))) => some j
      | _ => none
    | [] => none
  | _ => none
section
variable {E : Env} {w0 w w' : World} {ρ : List Dat} {σ : List Value} {S S' : St} {a : Act} {o : Oper} {L : List Fact} {Q : Exit → Act → World → Prop} {obs : List Tm}
theorem mkApp_den (Δ : Tab) (ρ : List Dat) (a b : Tm) {xs : List (List Dat)} (ha : den Δ ρ a = .rows xs) : den Δ ρ (mkApp a b) = .rows (xs ++ (den Δ ρ b).xs) := by
  unfold mkApp
  split
  · simp [ha, den, Dat.xs]
  · simp [ha, den, Dat.xs]
  · simp [ha, den, Dat.xs]
  · simp [ha, den, Dat.xs]
theorem flatV_append (a b : List (List Dat)) : flatV (a ++ b) = flatV a ++ flatV b := by simp [flatV]
theorem flatV_one {Δ : Tab} {r : Nat} {xs : List (List Dat)} (h : Has Δ (.rows r) (.rows xs)) (h1 : (Δ.row r).all (·.one) = true) : ∀ u ∈ flatV xs, u.oneCell' = true := by
  intro u hu
  cases h with
  | rows _ _ hl hh =>
  simp only [flatV, List.mem_map, List.mem_flatten] at hu
  obtain ⟨d, ⟨row, hrow, hd⟩, rfl⟩ := hu
  obtain ⟨c, hc⟩ := List.getElem?_of_mem hd
  have hlt := (List.getElem?_eq_some_iff.1 hc).1
  rw [hl row hrow] at hlt
  have hs := hh row hrow c _ d (List.getElem?_eq_getElem hlt) hc
  have h4 := List.all_eq_true.1 h1 _ (List.getElem_mem hlt)
  generalize (Δ.row r)[c] = s at hs h4
  cases hs <;> first | rfl | assumption | cases h4
theorem contentOf_ok (h : Rel E w0 ρ σ S a w) (hO : ObsR E ρ σ S.objs L) (hM : Mem none w0 w (baseF E ρ :: L)) {X : AV} {v : Value} (hv : VR E ρ σ X v) {r : Nat} {t : Tm} (he : contentOf S.objs X = some (r, t)) :
    ∃ xs, (∀ e, (den E.Δ (ρ ++ e) t).xs = xs) ∧ Has E.Δ (.rows r) (.rows xs) ∧ Rd w (E.Δ.row r).length v xs.length (flatV xs) := by
  unfold contentOf at he
  split at he
  · cases he
    obtain ⟨d, d1, d2, rfl, _⟩ := hv
    have hok := h.ok_den t
    rw [d1.now] at hok
    cases d2 with
    | list _ A n c xs hl hh =>
    cases hok with
    | list _ _ _ hr _ _ => exact ⟨xs, fun e => by rw [d1 e]; rfl, .rows r xs hl hh, hr⟩
  · split at he
    · rename_i j r' t' hj
      cases he
      obtain ⟨v', f, h1, h2, A, n, c, xs, rfl, h4, h5, h6, rfl⟩ := hO.get _ _ hj
      obtain ⟨hσ, _⟩ := hv
      rw [h1] at hσ
      cases hσ
      subst h6
      exact ⟨xs, fun e => by rw [h4 e]; rfl, h5, (hM.ow (List.mem_cons_of_mem _ (List.mem_of_getElem? h2))).rd⟩
    · cases he
  · cases he
theorem pick_inj (n j i i' q : Nat) (h1 : (if i = n then some j else if i = j then none else some i) = some q) (h2 : (if i' = n then some j else if i' = j then none else some i') = some q) : i = i' := by
  by_cases a1 : i = n
  · rw [if_pos a1] at h1
    by_cases a2 : i' = n
    · omega
    · rw [if_neg a2] at h2
      by_cases a4 : i' = j
      · rw [if_pos a4] at h2; cases h2
      · rw [if_neg a4] at h2; cases h1; cases h2; omega
  · rw [if_neg a1] at h1
    by_cases a3 : i = j
    · rw [if_pos a3] at h1; cases h1
    · rw [if_neg a3] at h1
      cases h1
      by_cases a2 : i' = n
      · rw [if_pos a2] at h2; cases h2; omega
      · rw [if_neg a2] at h2
        by_cases a4 : i' = j
        · rw [if_pos a4] at h2; cases h2
        · rw [if_neg a4] at h2; cases h2; rfl
/-- a cell of a slice of the call's own is another -/
theorem Ow.setp {B sz n g off c p : Nat} {xs : List Value} (h : Ow w B sz (.slice (some ⟨g, off, none⟩) n c) n xs) (hp : p < n * sz) (x : Value) : Ow (w.setCell ⟨g, off + p, none⟩ x) B sz (.slice (some ⟨g, off, none⟩) n c) n (xs.set p x) := by
  have hlen := h.len
  obtain ⟨A, c', e, hc, hl, ha, ho⟩ := h
  cases e
  have hn0 : 0 < n := Nat.pos_of_ne_zero fun e => by subst e; simp at hp
  obtain ⟨g', off', e, hB, hg, hj⟩ := ho (by omega)
  cases e
  have hpc : p < c * sz := Nat.lt_of_lt_of_le hp (Nat.mul_le_mul_right _ hc)
  refine ⟨_, _, rfl, hc, by simpa using hl, fun hn => ⟨_, rfl, by simpa using hg, fun j u hu => ?_⟩, fun _ => ⟨g, off, rfl, hB, by simpa using hg, fun j hjc => ⟨?_, ?_⟩⟩⟩
  · rw [Addr.add_lit]
    obtain ⟨ad, e, _, hcell⟩ := ha hn
    cases e
    rw [List.getElem?_set] at hu
    by_cases hjk : p = j
    · subst hjk
      rw [if_pos rfl, if_pos (by omega)] at hu
      cases hu
      obtain ⟨u0, hu0⟩ := Option.isSome_iff_exists.1 (hj p hpc).1
      rw [World.cell?_setCell_same (h := hu0)]
    · rw [if_neg hjk] at hu
      rw [World.cell?_setCell_other (h := by intro e; simp only [Addr.mk.injEq, true_and, and_true] at e; omega)]
      have := hcell j u hu
      rwa [Addr.add_lit] at this
  · by_cases hjk : p = j
    · subst hjk
      obtain ⟨u0, hu0⟩ := Option.isSome_iff_exists.1 (hj p hpc).1
      rw [World.cell?_setCell_same (h := hu0)]; rfl
    · rw [World.cell?_setCell_other (h := by intro e; simp only [Addr.mk.injEq, true_and, and_true] at e; omega)]
      exact (hj j hjc).1
  · rw [World.frozen?_setCell]
    exact (hj j hjc).2
theorem run_store_one {P : Program} {ty : TypeId} {ad : Addr} {v u : Value} (hs : szT P ty = some 1) (h1 : v.oneCell' = true) (hc : w.cell? ad = some u) (hf : w.frozen? ad = false) : (storeVar ty ad v).run P w = .ok () (w.setCell ad v) := by
  simp only [szT, Option.map_eq_some_iff] at hs
  obtain ⟨i, hi, hsz⟩ := hs
  have hcs := cells_of_one h1
  have hst : ∀ a0 : Addr, a0.add 0 = a0 := fun a0 => by simp [Addr.add]
  have hrun : (store ad v).run P w = .ok () (w.setCell ad v) := by
    unfold store
    cases v <;> simp only [Sem.run, hc, hf] <;> first | rfl | cases h1
  simp [storeVar, hcs, sizeOf, typeInfo, hi, hsz, Sem.run_bind, storeCells, hst, hrun]
theorem flatV_upd {sz : Nat} : ∀ {xs : List (List Dat)} {k off : Nat} {d : Dat}, (∀ row ∈ xs, row.length = sz) → k < xs.length → off < sz → flatV (xs.set k ((xs.getD k []).set off d)) = (flatV xs).set (k * sz + off) d.toV
  | [], k, off, d, _, hk, _ => by simp at hk
  | r :: xs, 0, off, d, h, _, ho => by
    have hr := h r (by simp)
    have e1 : ∀ (r : List Dat) (ys : List (List Dat)), flatV (r :: ys) = r.map Dat.toV ++ flatV ys := fun r ys => by simp [flatV]
    simp only [List.set_cons_zero, List.getD_cons_zero, e1, Nat.zero_mul, Nat.zero_add, List.map_set]
    rw [List.set_append_left _ _ (by simp [hr, ho])]
  | r :: xs, k + 1, off, d, h, hk, ho => by
    have hr := h r (by simp)
    have e1 : ∀ (r : List Dat) (ys : List (List Dat)), flatV (r :: ys) = r.map Dat.toV ++ flatV ys := fun r ys => by simp [flatV]
    have ih := flatV_upd (xs := xs) (k := k) (off := off) (d := d) (fun row hrow => h row (by simp [hrow])) (by simpa using hk) ho
    simp only [List.set_cons_succ, List.getD_cons_succ, e1, ih]
    rw [List.set_append_right _ _ (by simp [hr, Nat.add_mul]; omega)]
    congr 2
    simp [hr, Nat.add_mul]; omega
theorem HM_upd (hM : Mem none w0 w (baseF E ρ :: L)) {j : Nat} {f : Fact} (hL : (baseF E ρ :: L)[j + 1]? = some f) (b : Nat) (cs cs2 : Array Value) (T : TypeId) (hf : f = .row b cs T) (hR : Row w b cs T) :
    Mem none w0 (w.setRow b cs2) (baseF E ρ :: L.set j (.row b cs2 T)) := by
  subst hf
  exact hM.upd (j + 1) hL (w' := w.setRow b cs2) (f' := .row b cs2 T) (grownBy_setRow w b cs2) (fun j hj => by cases hj; exact ⟨rfl, rfl⟩) (hR.setRow _) rfl (fun j hj => .inl hj)
theorem tmsAt_ok {ss : List Srt} : ∀ {l : List C} {vs : List Value} {off : Nat} {us : List Tm}, All2 (CR E ρ σ) l vs → tmsAt ss off l = some us → ∃ ds, All2 (Den E.Δ ρ) us ds ∧ vs = ds.map Dat.toV ∧ ∀ (q : Nat) d, ds[q]? = some d → ∃ s, ss[off + q]? = some s ∧ Has E.Δ s d ∧ s.one = true
  | [], _, off, us, .nil, e => by
    cases e
    exact ⟨[], .nil, rfl, fun q d h => by cases h⟩
  | x :: l, _, off, us, .cons h t, e => by
    unfold tmsAt at e
    split at e
    · rename_i e'; cases e'
    · rename_i u s l' e'
      cases e'
      split at e
      case isFalse => cases e
      rename_i hc
      rw [Option.map_eq_some_iff] at e
      obtain ⟨us', e1, rfl⟩ := e
      obtain ⟨ds, d1, rfl, d3⟩ := tmsAt_ok t e1
      obtain ⟨d, g1, g2, rfl, g4⟩ := h
      refine ⟨d :: ds, .cons g1 d1, rfl, fun q d' hq => ?_⟩
      cases q with
      | zero => cases hq; exact ⟨s, hc.1, g2, hc.2⟩
      | succ q =>
        obtain ⟨s', k1, k2⟩ := d3 q d' (by simpa using hq)
        exact ⟨s', by rw [show ∀ m : Nat, m + (q + 1) = m + 1 + q from fun m => by omega]; exact k1, k2⟩
    · rename_i l' e'
      cases e'
      split at e
      case h_2 => cases e
      rename_i r hc
      rw [Option.map_eq_some_iff] at e
      obtain ⟨us', e1, rfl⟩ := e
      obtain ⟨ds, d1, rfl, d3⟩ := tmsAt_ok t e1
      cases h
      refine ⟨dflt E.Δ (.list r) :: ds, .cons (fun _ => rfl) d1, rfl, fun q d' hq => ?_⟩
      cases q with
      | zero => cases hq; exact ⟨_, hc, dflt_has _ _, rfl⟩
      | succ q =>
        obtain ⟨s', k1, k2⟩ := d3 q d' (by simpa using hq)
        exact ⟨s', by rw [show ∀ m : Nat, m + (q + 1) = m + 1 + q from fun m => by omega]; exact k1, k2⟩
    · cases e
theorem one_of_has {Δ : Tab} {s : Srt} {d : Dat} (h : Has Δ s d) (h1 : s.one = true) : d.toV.oneCell' = true := by
  cases h <;> first | rfl | assumption | cases h1
theorem run_store1 {P : Program} {ad : Addr} {v u : Value} (h1 : v.oneCell' = true) (hc : w.cell? ad = some u) (hf : w.frozen? ad = false) : (store ad v).run P w = .ok () (w.setCell ad v) := by
  unfold store
  cases v <;> simp only [Sem.run, hc, hf] <;> first | rfl | cases h1
/-- a row's cells laid, one after the other -/
theorem ow_stores {B n g o2 c k off0 r : Nat} {kk : Int} {ix : Tm} (hix : Den E.Δ ρ ix (.int .i64 kk)) (hk : kk.toNat = k) (hkn : k < n) : ∀ (us : List Tm) (ds : List Dat) (i : Nat) (w : World) (xs : List (List Dat)) (t : Tm),
    All2 (Den E.Δ ρ) us ds → (∀ (q : Nat) d, ds[q]? = some d → ∃ s, (E.Δ.row r)[off0 + i + q]? = some s ∧ Has E.Δ s d ∧ s.one = true) → Ow w B (E.Δ.row r).length (.slice (some ⟨g, o2, none⟩) n c) n (flatV xs) → Den E.Δ ρ t (.rows xs) → Has E.Δ (.rows r) (.rows xs) → xs.length = n →
    ∃ w' xs', (storeCells ⟨g, o2 + (k * (E.Δ.row r).length + off0), none⟩ (ds.map Dat.toV) i).run E.P w = .ok () w' ∧ Ow w' B (E.Δ.row r).length (.slice (some ⟨g, o2, none⟩) n c) n (flatV xs') ∧ w.grownBy w' (some g) ∧ Den E.Δ ρ (updN t ix (off0 + i) us) (.rows xs') ∧ Has E.Δ (.rows r) (.rows xs') ∧ xs'.length = n
  | [], _, i, w, xs, t, .nil, _, ho, hd, hh, hl => ⟨w, xs, rfl, ho, grownBy_some (grownBy_below (Below.refl _ _)), hd, hh, hl⟩
  | u :: us, _, i, w, xs, t, .cons (b := d) (m := ds) h1 ht, hs, ho, hd, hh, hl => by
    obtain ⟨s, c2, d2, c3⟩ := hs 0 d rfl
    rw [Nat.add_zero] at c2
    have hoff : off0 + i < (E.Δ.row r).length := (List.getElem?_eq_some_iff.1 c2).1
    have hrows : ∀ row ∈ xs, row.length = (E.Δ.row r).length := by cases hh with | rows _ _ a1 a2 => exact a1
    have hcells : ∀ row ∈ xs, ∀ (c : Nat) (s : Srt) (d : Dat), (E.Δ.row r)[c]? = some s → row[c]? = some d → Has E.Δ s d := by cases hh with | rows _ _ a1 a2 => exact a2
    have hpos : k * (E.Δ.row r).length + (off0 + i) < n * (E.Δ.row r).length := by
      have : (k + 1) * (E.Δ.row r).length ≤ n * (E.Δ.row r).length := Nat.mul_le_mul_right _ (by omega)
      rw [Nat.add_mul] at this
      omega
    obtain ⟨A2, c2', e2, hcc, hll, haa, hoo⟩ := id ho
    cases e2
    obtain ⟨g', o2', e3, hB, hg, hjj⟩ := hoo (by omega)
    cases e3
    obtain ⟨hc1, hc2⟩ := hjj _ (Nat.lt_of_lt_of_le hpos (Nat.mul_le_mul_right _ hcc))
    obtain ⟨u0, hu0⟩ := Option.isSome_iff_exists.1 hc1
    have hrun := run_store1 (P := E.P) (w := w) (one_of_has d2 c3) hu0 hc2
    have hOw2 := ho.setp hpos d.toV
    have hkx : k < xs.length := by omega
    have hset : (flatV xs).set (k * (E.Δ.row r).length + (off0 + i)) d.toV = flatV (xs.set k ((xs.getD k []).set (off0 + i) d)) := (flatV_upd hrows hkx hoff).symm
    rw [hset] at hOw2
    obtain ⟨row0, hrow0, hmem0⟩ := row_get hkx
    have hgd : xs.getD k [] = row0 := by rw [List.getD_eq_getElem?_getD, hrow0]; rfl
    have hh2 : Has E.Δ (.rows r) (.rows (xs.set k ((xs.getD k []).set (off0 + i) d))) := by
      rw [hgd]
      refine .rows r _ (fun row hrow => ?_) (fun row hrow c' s' d' hs' hd' => ?_)
      · rcases List.mem_or_eq_of_mem_set hrow with hrow | rfl
        · exact hrows row hrow
        · rw [List.length_set]; exact hrows row0 hmem0
      · rcases List.mem_or_eq_of_mem_set hrow with hrow | rfl
        · exact hcells row hrow c' s' d' hs' hd'
        · rw [List.getElem?_set] at hd'
          split at hd'
          · rename_i e
            subst e
            split at hd'
            · cases hd'
              rw [c2] at hs'; cases hs'
              exact d2
            · cases hd'
          · exact hcells row0 hmem0 c' s' d' hs' hd'
    obtain ⟨w', xs', q1, q2, q3, q4, q5, q6⟩ := ow_stores hix hk hkn us ds (i + 1) _ _ (.upd t ix (off0 + i) u) ht (fun q d' hq => by
      obtain ⟨s', k1, k2⟩ := hs (q + 1) d' (by simpa using hq)
      exact ⟨s', by rw [show off0 + (i + 1) + q = off0 + i + (q + 1) by omega]; exact k1, k2⟩) hOw2 (fun e => by simp only [den, hd e, hix e, h1 e, Dat.xs, Dat.toInt, hk]) hh2 (by simpa using hl)
    refine ⟨w', xs', ?_, q2, grownBy_trans (grownBy_setCell w g _ _) q3 (fun j hj => .inr hj), q4, q5, q6⟩
    rw [List.map_cons, storeCells]
    have ha : (⟨g, o2 + (k * (E.Δ.row r).length + off0), none⟩ : Addr).add i = ⟨g, o2 + (k * (E.Δ.row r).length + (off0 + i)), none⟩ := by rw [Addr.add_lit]; congr 1; omega
    rw [ha, Sem.run_bind, hrun]
    exact q1
theorem oe_ok (h : Rel E w0 ρ σ S a w) {ty : TypeId} {x y : Operand} {j r off : Nat} {ix : Tm} {Y : A1} (ho : o.op = .store ty x y) (hr : opdR (opd S.slots x) = some (.oe j r ix, off, [])) (hy : opd S.slots y = .v Y) (hdst : o.dst = none)
    (he : (match S.objs[j]? with
      | some (.own r' t) => if r = r' ∧ szT E.cx.P ty = some (cellsA Y).length ∧ (cellsA Y).length ≠ 0 then (tmsAt (E.cx.Δ.row r) off (cellsA Y)).map fun us => (({ S with objs := S.objs.set j (.own r (updN t ix off us)) } : St), ([] : List Tm)) else none
      | _ => none) = some (S', obs)) : ∃ σ' w' x, σ' = σ ++ x ∧ (∃ ob, w.grownBy w' ob ∧ (∀ k, ob = some k → ∃ j v, tgtW S o = some j ∧ σ[j]? = some v ∧ blkV v = some k) ∧ ∀ u ∈ x, ∀ k, blkV u = some k → (∃ j v, tgtW S o = some j ∧ σ[j]? = some v ∧ blkV v = some k) ∨ w.heap.size ≤ k) ∧ ((execOp a.eval o).run E.P w = .ok .skip w' ∧ Rel E w0 ρ σ' S' (a.put o.dst undef) w' ∨ ∃ u, (execOp a.eval o).run E.P w = .ok (.value u) w' ∧ Rel E w0 ρ σ' S' (a.put o.dst u) w') := by
  split at he
  case h_2 => cases he
  rename_i r' t hj
  split at he
  case isFalse => cases he
  rename_i hc
  obtain ⟨rfl, c4, c5⟩ := hc
  rw [Option.map_eq_some_iff] at he
  obtain ⟨us, hus, he⟩ := he
  cases he
  replace hus : tmsAt (E.Δ.row r) off (cellsA Y) = some us := hus
  replace c4 : szT E.P ty = some (cellsA Y).length := c4
  obtain ⟨A, p, q, ⟨n, c, k, k1, k2, k3, k4, rfl⟩, hq, hv⟩ := opdR_ok (opd_ok h.slots x) hr
  cases hq
  have hyv := opd_ok h.slots y
  rw [hy] at hyv
  have h1 : (cellsA Y).all C.one = true := by
    have key : ∀ (l : List C) (off : Nat) (us : List Tm), tmsAt (E.Δ.row r) off l = some us → l.all C.one = true := by
      intro l
      induction l with
      | nil => intro _ _ _; rfl
      | cons x l ih =>
        intro off us e
        unfold tmsAt at e
        split at e
        · rename_i e'; cases e'
        · rename_i e'; cases e'
          split at e
          case isFalse => cases e
          rw [Option.map_eq_some_iff] at e
          obtain ⟨us', e1, _⟩ := e
          simp [C.one, ih _ _ e1]
        · rename_i e'; cases e'
          split at e
          case h_2 => cases e
          rw [Option.map_eq_some_iff] at e
          obtain ⟨us', e1, _⟩ := e
          simp [C.one, ih _ _ e1]
        · cases e
    exact key _ _ _ hus
  have hcl := cellsA_ok (v := a.eval y) hyv h1
  obtain ⟨ds, d1, d2, d3⟩ := tmsAt_ok hcl hus
  have hlen := hcl.length
  obtain ⟨L, hO, hM⟩ := h.mem
  obtain ⟨v, f, g1, g2, A', n', c', xs, rfl, g3, g4, g5, rfl⟩ := hO.get j _ hj
  rw [k1] at g1
  cases g1
  have hOw := hM.ow (List.mem_cons_of_mem _ (List.mem_of_getElem? g2))
  have hn0 : 0 < n := by omega
  obtain ⟨A2, c2', e2, hcc, hll, haa, hoo⟩ := id hOw
  cases e2
  obtain ⟨g, o2, rfl, hB, hg, hjj⟩ := hoo (by omega)
  obtain ⟨w', xs', q1, q2, q3, q4, q5, q6⟩ := ow_stores (off0 := off) k2 rfl (show k.toNat < n by omega) us ds 0 w xs t d1 (by simpa using d3) hOw g3 g4 g5
  have hx' : a.eval x = .pointer (some ⟨g, o2 + (k.toNat * (E.Δ.row r).length + off), none⟩) := by rw [hv, pt_eq]; simp [Addr.add_lit]
  have hbk : blkOf (.slice (some ⟨g, o2, none⟩) n c) = some g := by simp only [blkOf]; rw [if_pos (by omega)]
  have hrun : (storeVar ty ⟨g, o2 + (k.toNat * (E.Δ.row r).length + off), none⟩ (a.eval y)).run E.P w = .ok () w' := by
    simp only [szT, Option.map_eq_some_iff] at c4
    obtain ⟨ii, hii, hsz⟩ := c4
    have hsz' : (a.eval y).cells.size = ii.size := by rw [hsz, hlen]; simp
    rw [← d2] at q1
    simp [storeVar, sizeOf, typeInfo, hii, hsz', q1]
  refine ⟨σ, w', [], by simp, ⟨some g, q3, (fun k' hk' => by cases hk'; exact ⟨j, _, by simp only [tgtW, ho, hr], k1, hbk⟩), (fun u hu => by cases hu)⟩, .inl ⟨?_, ?_⟩⟩
  · unfold execOp
    simp only [ho, hx', Instr.storeAt, Instr.sureAddr, Sem.run_bind, Sem.run_pure, Result.andThen_ok, hrun]
  · rw [hdst]
    have hL : (baseF E ρ :: L)[j + 1]? = some (.ow (E.Δ.row r).length (.slice (some ⟨g, o2, none⟩) n c) n (flatV xs)) := by simpa using g2
    have hM2 := hM.upd (j + 1) hL q3 (fun k' hk' => by cases hk'; exact ⟨hbk, rfl⟩) (f' := .ow (E.Δ.row r).length (.slice (some ⟨g, o2, none⟩) n c) n (flatV xs')) q2 rfl (fun k' hk' => .inl hk')
    simp only [List.set_cons_succ] at hM2
    rw [Nat.add_zero] at q4
    exact ⟨h.slots, h.defers, h.n, h.known, ⟨_, hO.set k1 ⟨_, n, c, xs', rfl, q4, q5, q6, rfl⟩, hM2⟩, h.pre, h.reach⟩
theorem dynN_den {Δ : Tab} {ρ : List Dat} {a0 i t u : Tm} {s : Srt} {off : Nat} {xs : List (List Dat)} {kk : Int} {k kq : Nat} {d : Dat} (h1 : Den Δ ρ a0 (.rows xs)) (h2 : Den Δ ρ i (.int .i64 kk)) (hk : kk.toNat = k) (h3 : Den Δ ρ t (.int .i64 (kq : Int))) (h4 : Den Δ ρ u d) (hkx : k < xs.length) : ∀ m, off + m ≤ (xs.getD k []).length →
    Den Δ ρ (dynN a0 i t u s off m) (.rows (xs.set k (if kq < m then (xs.getD k []).set (off + kq) d else xs.getD k [])))
  | 0, _ => fun e => by
    rw [dynN, h1 e, if_neg (Nat.not_lt_zero _), List.getD_eq_getElem?_getD, List.getElem?_eq_getElem hkx]
    exact congrArg Dat.rows (List.set_getElem_self hkx).symm
  | c + 1, hm => fun e => by
    have ih := dynN_den (s := s) (off := off) h1 h2 hk h3 h4 hkx c (by omega) e
    have hset : ∀ (l : List Dat) (j : Nat) (x : Dat), l[j]? = some x → l.set j x = l := fun l j x hx => by
      obtain ⟨hj, rfl⟩ := List.getElem?_eq_some_iff.1 hx
      exact List.set_getElem_self hj
    rw [dynN]
    simp only [den, ih, h1 e, h2 e, h3 e, h4 e, Dat.xs, Dat.toInt, Dat.toBool, Cmp.of, hk]
    rw [List.set_set, List.getD_eq_getElem?_getD (l := xs.set _ _), List.getElem?_set_self hkx]
    simp only [Option.getD_some]
    congr 2
    generalize hrow : xs.getD k [] = row at hm
    have hoff : off + c < row.length := by omega
    have hget : row[off + c]? = some (row.getD (off + c) (dflt Δ s)) := by rw [List.getD_eq_getElem?_getD, List.getElem?_eq_getElem hoff]; rfl
    by_cases hqc : kq = c
    · subst hqc
      simp
    · have hne : ((kq : Int) == (c : Int)) = false := by simp; omega
      rw [hne, if_neg Bool.false_ne_true]
      by_cases hlt : kq < c
      · rw [if_pos hlt, if_pos (show kq < c + 1 by omega)]
        exact hset _ _ _ (by rw [List.getElem?_set_ne (by omega)]; exact hget)
      · rw [if_neg hlt, if_neg (show ¬ kq < c + 1 by omega)]
        exact hset _ _ _ hget
theorem oeD_ok (h : Rel E w0 ρ σ S a w) {ty : TypeId} {x y : Operand} {j r off st m : Nat} {ix t u : Tm} {s : Srt} (ho : o.op = .store ty x y) (hr : opdR (opd S.slots x) = some (.oe j r ix, off, [(t, st, m)])) (hy : opd S.slots y = .v (.c (.p (.tm u s)))) (hdst : o.dst = none)
    (he : (match S.objs[j]? with
      | some (.own r' a0) => if r = r' ∧ st = 1 ∧ szT E.cx.P ty = some 1 ∧ s.one = true ∧ (List.range m).all (fun c => (E.cx.Δ.row r)[off + c]? == some s) = true then some (({ S with objs := S.objs.set j (.own r (dynN a0 ix t u s off m)) } : St), ([] : List Tm)) else none
      | _ => none) = some (S', obs)) : ∃ σ' w' x, σ' = σ ++ x ∧ (∃ ob, w.grownBy w' ob ∧ (∀ k, ob = some k → ∃ j v, tgtW S o = some j ∧ σ[j]? = some v ∧ blkV v = some k) ∧ ∀ u ∈ x, ∀ k, blkV u = some k → (∃ j v, tgtW S o = some j ∧ σ[j]? = some v ∧ blkV v = some k) ∨ w.heap.size ≤ k) ∧ ((execOp a.eval o).run E.P w = .ok .skip w' ∧ Rel E w0 ρ σ' S' (a.put o.dst undef) w' ∨ ∃ u, (execOp a.eval o).run E.P w = .ok (.value u) w' ∧ Rel E w0 ρ σ' S' (a.put o.dst u) w') := by
  split at he
  case h_2 => cases he
  rename_i r' a0 hj
  split at he
  case isFalse => cases he
  rename_i hc
  obtain ⟨rfl, rfl, c4, c5, c6⟩ := hc
  cases he
  replace c4 : szT E.P ty = some 1 := c4
  obtain ⟨A, p, q, ⟨n, c, k, k1, k2, k3, k4, rfl⟩, hq, hv⟩ := opdR_ok (opd_ok h.slots x) hr
  obtain ⟨kq, q0, d1, d2, d3, hq0, rfl⟩ := hq
  have hq0 : q0 = 0 := hq0
  subst hq0
  have hyv := opd_ok h.slots y
  rw [hy] at hyv
  obtain ⟨d, u1, u2, u3, u4⟩ := hyv
  obtain ⟨kn, rfl⟩ := Int.eq_ofNat_of_zero_le d2
  rw [Int.toNat_natCast, Nat.mul_one, Nat.add_zero] at hv
  have hkm : kn < m := by omega
  have hsort : ∀ c, c < m → (E.Δ.row r)[off + c]? = some s := fun c hc => by
    have := List.all_eq_true.1 c6 c (List.mem_range.2 hc)
    exact beq_iff_eq.1 this
  obtain ⟨L, hO, hM⟩ := h.mem
  obtain ⟨v, f, g1, g2, A', n', c', xs, rfl, g3, g4, g5, rfl⟩ := hO.get j _ hj
  rw [k1] at g1
  cases g1
  have hOw := hM.ow (List.mem_cons_of_mem _ (List.mem_of_getElem? g2))
  have hn0 : 0 < n := by omega
  obtain ⟨A2, c2', e2, hcc, hll, haa, hoo⟩ := id hOw
  cases e2
  obtain ⟨g, o2, rfl, hB, hg, hjj⟩ := hoo (by omega)
  obtain ⟨w', xs', q1, q2, q3, q4, q5, q6⟩ := ow_stores (off0 := off + kn) k2 rfl (show k.toNat < n by omega) [u] [d] 0 w xs a0 (.cons u1 .nil) (fun q d' hq => by
    cases q with
    | zero => cases hq; exact ⟨s, by simpa using hsort kn hkm, u2, c5⟩
    | succ q => cases hq) hOw g3 g4 g5
  have hkx : k.toNat < xs.length := by omega
  have hrl : (xs.getD k.toNat []).length = (E.Δ.row r).length := by
    have hl := (by cases g4 with | rows _ _ a1 a2 => exact a1 : ∀ row ∈ xs, row.length = (E.Δ.row r).length)
    exact hl _ (by rw [List.getD_eq_getElem?_getD, List.getElem?_eq_getElem hkx]; exact List.getElem_mem hkx)
  have hoff : off + m ≤ (E.Δ.row r).length := by
    have := (List.getElem?_eq_some_iff.1 (hsort (m - 1) (by omega))).1
    omega
  have hdyn := dynN_den (s := s) g3 k2 rfl d1 u1 hkx m (by rw [hrl]; exact hoff)
  rw [if_pos hkm] at hdyn
  have hxs' : xs' = xs.set k.toNat ((xs.getD k.toNat []).set (off + kn) d) := by
    have e1 := q4 []
    simp only [updN, den, g3 [], k2 [], u1 [], Dat.xs, Dat.toInt, Nat.add_zero] at e1
    exact (Dat.rows.inj e1).symm
  rw [← hxs'] at hdyn
  have hx' : a.eval x = .pointer (some ⟨g, o2 + (k.toNat * (E.Δ.row r).length + (off + kn)), none⟩) := by rw [hv, pt_eq]; simp [Addr.add_lit]
  have hbk : blkOf (.slice (some ⟨g, o2, none⟩) n c) = some g := by simp only [blkOf]; rw [if_pos (by omega)]
  have hrun : (storeVar ty ⟨g, o2 + (k.toNat * (E.Δ.row r).length + (off + kn)), none⟩ (a.eval y)).run E.P w = .ok () w' := by
    simp only [szT, Option.map_eq_some_iff] at c4
    obtain ⟨ii, hii, hsz⟩ := c4
    have hone := one_of_has u2 c5
    have hcl : (a.eval y).cells.toList = [d.toV] := by
      rw [u3, cells_of_one hone]
    have hsz' : (a.eval y).cells.size = ii.size := by rw [hsz, ← Array.length_toList, hcl]; rfl
    have hq1 : (storeCells ⟨g, o2 + (k.toNat * (E.Δ.row r).length + (off + kn)), none⟩ (a.eval y).cells.toList 0).run E.P w = .ok () w' := by rw [hcl]; exact q1
    simp [storeVar, sizeOf, typeInfo, hii, hsz', hq1]
  refine ⟨σ, w', [], by simp, ⟨some g, q3, (fun k' hk' => by cases hk'; exact ⟨j, _, by simp only [tgtW, ho, hr], k1, hbk⟩), (fun u hu => by cases hu)⟩, .inl ⟨?_, ?_⟩⟩
  · unfold execOp
    simp only [ho, hx', Instr.storeAt, Instr.sureAddr, Sem.run_bind, Sem.run_pure, Result.andThen_ok, hrun]
  · rw [hdst]
    have hL : (baseF E ρ :: L)[j + 1]? = some (.ow (E.Δ.row r).length (.slice (some ⟨g, o2, none⟩) n c) n (flatV xs)) := by simpa using g2
    have hM2 := hM.upd (j + 1) hL q3 (fun k' hk' => by cases hk'; exact ⟨hbk, rfl⟩) (f' := .ow (E.Δ.row r).length (.slice (some ⟨g, o2, none⟩) n c) n (flatV xs')) q2 rfl (fun k' hk' => .inl hk')
    simp only [List.set_cons_succ] at hM2
    exact ⟨h.slots, h.defers, h.n, h.known, ⟨_, hO.set k1 ⟨_, n, c, xs', rfl, hdyn, q5, q6, rfl⟩, hM2⟩, h.pre, h.reach⟩
theorem mk_ok (h : Rel E w0 ρ σ S a w) {t : TypeId} {l c : Operand} (ho : o.op = .makeSlice t l c)
    (he : (match opdI (opd S.slots l), opdI (opd S.slots c), E.cx.P.underlying t with
    | some (n, .i64), some (n', .i64), some (.slice e) => if n = n' ∧ o.dst.isSome = true then (match zeroRow E.cx.P e (E.cx.Δ.row e), E.cx.P.info? e with
      | some [z], some i => if i.size = 1 ∧ (E.cx.Δ.row e).length = 1 ∧ i.zero.map (·.oneCell') = some true then some (({ S with objs := S.objs ++ [.own e (.rep n (.econs z .enil))], slots := putO S.slots o.dst (.v (.c (.p (.own S.objs.length)))) } : St),
          [mkCmp .ge n (.int .i64 0), mkCmp .le n (.int .i64 (140737488355328 / max 1 i.bytes : Nat))]) else none
      | _, _ => none) else none
    | _, _, _ => none) = some (S', obs)) (hob : obsOk E.Δ ρ obs) : ∃ σ' w' x, σ' = σ ++ x ∧ (∃ ob, w.grownBy w' ob ∧ (∀ k, ob = some k → ∃ j v, tgtW S o = some j ∧ σ[j]? = some v ∧ blkV v = some k) ∧ ∀ u ∈ x, ∀ k, blkV u = some k → (∃ j v, tgtW S o = some j ∧ σ[j]? = some v ∧ blkV v = some k) ∨ w.heap.size ≤ k) ∧ ((execOp a.eval o).run E.P w = .ok .skip w' ∧ Rel E w0 ρ σ' S' (a.put o.dst undef) w' ∨ ∃ u, (execOp a.eval o).run E.P w = .ok (.value u) w' ∧ Rel E w0 ρ σ' S' (a.put o.dst u) w') := by
  split at he
  case h_2 => cases he
  rename_i n n' e hl hc hu
  split at he
  case isFalse => cases he
  rename_i hnn
  obtain ⟨rfl, _⟩ := hnn
  split at he
  case h_2 => cases he
  rename_i z i hz hi
  split at he
  case isFalse => cases he
  rename_i hsz
  obtain ⟨s1, s2, s3⟩ := hsz
  cases he
  replace hu : E.P.underlying t = some (.slice e) := hu
  replace hi : E.P.info? e = some i := hi
  replace hz : zeroRow E.P e (E.Δ.row e) = some [z] := hz
  replace s2 : (E.Δ.row e).length = 1 := s2
  obtain ⟨m, d1, e1⟩ := opdI_ok (opd_ok h.slots l) hl
  obtain ⟨m', d2, e2⟩ := opdI_ok (opd_ok h.slots c) hc
  have hmm := d1.now.symm.trans d2.now
  simp only [Dat.int.injEq, true_and] at hmm
  subst hmm
  have b1 := hob _ (List.mem_cons_self)
  have b2 := hob _ (List.mem_cons_of_mem _ (List.mem_cons_self))
  rw [mkCmp_den] at b1 b2
  simp only [den, d1.now, Dat.toInt, Cmp.of, Dat.bool.injEq, decide_eq_true_eq] at b1 b2
  obtain ⟨N, rfl⟩ := Int.eq_ofNat_of_zero_le b1
  have hN : N ≤ 140737488355328 / max 1 i.bytes := by exact_mod_cast b2
  have hN1 : N * max 1 i.bytes ≤ 140737488355328 := Nat.le_trans (Nat.mul_le_mul_right _ hN) (Nat.div_mul_le_self _ _)
  have hN2 : i.bytes * N ≤ 281474976710656 := by
    have := Nat.mul_le_mul_left N (Nat.le_max_right 1 i.bytes)
    rw [Nat.mul_comm]; omega
  have hN3 : N ≤ maxLen := by
    have : N ≤ N * max 1 i.bytes := Nat.le_mul_of_pos_right _ (Nat.lt_of_lt_of_le Nat.one_pos (Nat.le_max_left _ _))
    unfold maxLen; omega
  unfold zeroRow at hz
  rw [Option.bind_eq_some_iff] at hz
  obtain ⟨zc, hzc, hzr⟩ := hz
  have hall : zc.all C.one = true := by
    cases zc with
    | nil => cases hr' : E.Δ.row e with
      | nil => rw [hr'] at s2; cases s2
      | cons s ss => rw [hr'] at hzr; cases s <;> simp [rowTm] at hzr
    | cons x zc =>
      cases hr' : E.Δ.row e with
      | nil => rw [hr'] at s2; cases s2
      | cons s ss =>
        cases ss with
        | cons _ _ => rw [hr'] at s2; simp at s2
        | nil =>
          rw [hr'] at hzr
          cases zc with
          | cons _ _ => cases s <;> cases x <;> (try rename_i q; cases q) <;> simp [rowTm] at hzr
          | nil => cases s <;> cases x <;> first | rfl | simp [rowTm] at hzr
  obtain ⟨i', zv, hi', hzv, hzrel⟩ := zeroC_ok E ρ σ hzc hall
  rw [hi] at hi'; cases hi'
  obtain ⟨ds, r1, r2, r3⟩ := rowTm_ok hzrel hzr
  obtain ⟨d, rfl⟩ : ∃ d, ds = [d] := by
    have := r2.length
    rw [s2] at this
    match ds, this with
    | [d], _ => exact ⟨d, rfl⟩
  have hcz : zv.cells = #[d.toV] := by apply Array.ext'; rw [r3]; rfl
  have hzv1 : zv.cells = #[zv] := cells_of_one (by rw [hzv] at s3; simpa using s3)
  have hzd : zv = d.toV := by rw [hzv1] at hcz; simpa using hcz
  have hrun := run_make_row (P := E.P) w t e i zv hu hi hzv hzv1 s1 N hN2 hN3
  have hOw := ow_made w e zv N w.heap.size (Nat.le_refl _)
  have hfl : flatV (List.replicate N [d]) = List.replicate N zv := by
    rw [hzd]
    induction N with
    | zero => rfl
    | succ N _ => simp [flatV, List.replicate_succ]
  refine ⟨_, _, [.slice (some ⟨w.heap.size, 0, none⟩) N N], rfl, ⟨none, grownBy_below ((Below.refl _ _).alloc (Nat.le_refl _) _), (fun k hk => by cases hk), fun u hu k hk => ?_⟩, .inr ⟨_, ?_, h.newOwn (xs := List.replicate N [d]) ((Below.refl _ _).alloc (Nat.le_refl _) _) (by rw [s2, hfl]; exact hOw) (fun e => ?_) ?_ (by simp) o.dst⟩⟩
  · rw [List.mem_singleton.1 hu] at hk
    exact .inr (hOw.blk_lt k hk).1
  · unfold execOp
    simp only [ho, e1, e2, Sem.run_bind, hrun, Result.andThen_ok, Sem.run_pure]
  · have hz1 : ∀ e, den E.Δ (ρ ++ e) z = d := by cases r1 with | cons h _ => exact h
    simp [den, d1 e, hz1 e, Dat.toInt, Dat.row0]
  · refine .rows e _ (fun row hr => ?_) (fun row hr c s d' hs hd => ?_)
    · rw [(List.mem_replicate.1 hr).2, s2]; rfl
    · rw [(List.mem_replicate.1 hr).2] at hd
      obtain ⟨d'', q1, q2⟩ := r2.get hs
      rw [q1] at hd; cases hd; exact q2
/-- a slice of the call's own that is another one from here on -/
theorem Rel.rebirth (h : Rel E w0 ρ σ S a w) (hO : ObsR E ρ σ S.objs L) {j r sz : Nat} {A A' : Option Addr} {n c n' c' : Nat} {zs : List Value} {ys : List (List Dat)} {t' : Tm} (h1 : σ[j]? = some (.slice A n c)) (h2 : L[j]? = some (.ow sz (.slice A n c) n zs))
    (hM2 : Mem none w0 w' (baseF E ρ :: L.set j (.ow (E.Δ.row r).length (.slice A' n' c') n' (flatV ys)))) (hd : Den E.Δ ρ t' (.rows ys)) (hh : Has E.Δ (.rows r) (.rows ys)) (hl : ys.length = n') (dst : Option Nat) :
    Rel E w0 ρ (σ ++ [.slice A' n' c']) { S with objs := S.objs.set j .dead ++ [.own r t'], slots := putO S.slots dst (.v (.c (.p (.own S.objs.length)))) } (a.put dst (.slice A' n' c')) w' := by
  have hjL : j < L.length := (List.getElem?_eq_some_iff.1 h2).1
  have hM3 : Mem none w0 w' (baseF E ρ :: (L.set j deadF ++ [.ow (E.Δ.row r).length (.slice A' n' c') n' (flatV ys)])) := by
    refine hM2.pick (fun i => if i = L.length then some j else if i = j then none else some i) (base_holds hM2) rfl (fun k hk => .inl hk) (fun i f hf => ?_) (fun i i' q h1 h2 => ?_)
    · by_cases hi : i < L.length
      · rw [List.getElem?_append_left (by simpa using hi), List.getElem?_set] at hf
        by_cases hij : j = i
        · rw [if_pos hij, if_pos (by omega)] at hf
          cases hf; exact .inl rfl
        · rw [if_neg hij] at hf
          refine .inr ⟨i, by rw [if_neg (by omega), if_neg (by omega)], ?_⟩
          rw [List.getElem?_set, if_neg hij]; exact hf
      · have hie : i = L.length := by
          have := (List.getElem?_eq_some_iff.1 hf).1
          simp at this; omega
        subst hie
        rw [List.getElem?_append_right (by simp)] at hf
        simp at hf
        subst hf
        exact .inr ⟨j, if_pos rfl, by rw [List.getElem?_set, if_pos rfl, if_pos hjL]⟩
    · exact pick_inj _ _ i i' q h1 h2
  have hO2 : ObsR E ρ (σ ++ [.slice A' n' c']) (S.objs.set j .dead ++ [.own r t']) (L.set j deadF ++ [.ow (E.Δ.row r).length (.slice A' n' c') n' (flatV ys)]) :=
    (hO.set (o := .dead) (f := deadF) h1 rfl).push ⟨A', n', c', ys, rfl, hd, hh, hl, rfl⟩
  have hb : Rel E w0 ρ (σ ++ [.slice A' n' c']) { S with objs := S.objs.set j .dead ++ [.own r t'] } a w' :=
    ⟨h.slots.mono fun _ _ hr => by simpa using hr.more [] _, h.defers, h.n, h.known, ⟨_, hO2, hM3⟩, h.pre, h.reach⟩
  exact hb.puts (x := .v (.c (.p (.own S.objs.length)))) (v := .slice A' n' c') ⟨by rw [hO.l1]; simp, A', _, c', rfl⟩ dst
theorem clip_ok (h : Rel E w0 ρ σ S a w) {t : TypeId} {x hi mx : Operand} (ho : o.op = .slice t x none (some hi) (some mx)) {j : Nat} {e : TypeId} (hx : opd S.slots x = .v (.c (.p (.own j)))) (hu : E.P.underlying t = some (.slice e))
    (he : (match S.objs[j]? with
      | some (.own r u) => if szT E.cx.P e = some (E.cx.Δ.row r).length ∧ opdI (opd S.slots hi) = some (mkLen u, .i64) ∧ opdI (opd S.slots mx) = some (mkLen u, .i64) then
          some (({ S with objs := S.objs.set j .dead ++ [.own r u], slots := putO S.slots o.dst (.v (.c (.p (.own S.objs.length)))) } : St), ([] : List Tm)) else none
      | _ => none) = some (S', obs)) : ∃ σ' w' x, σ' = σ ++ x ∧ (∃ ob, w.grownBy w' ob ∧ (∀ k, ob = some k → ∃ j v, tgtW S o = some j ∧ σ[j]? = some v ∧ blkV v = some k) ∧ ∀ u ∈ x, ∀ k, blkV u = some k → (∃ j v, tgtW S o = some j ∧ σ[j]? = some v ∧ blkV v = some k) ∨ w.heap.size ≤ k) ∧ ((execOp a.eval o).run E.P w = .ok .skip w' ∧ Rel E w0 ρ σ' S' (a.put o.dst undef) w' ∨ ∃ u, (execOp a.eval o).run E.P w = .ok (.value u) w' ∧ Rel E w0 ρ σ' S' (a.put o.dst u) w') := by
  split at he
  case h_2 => cases he
  rename_i r u hj
  split at he
  case isFalse => cases he
  rename_i hc
  obtain ⟨c1, c2, c3⟩ := hc
  cases he
  replace c1 : szT E.P e = some (E.Δ.row r).length := c1
  have hxv := opd_ok h.slots x
  rw [hx] at hxv
  obtain ⟨hσ, _⟩ := hxv
  obtain ⟨L, hO, hM⟩ := h.mem
  obtain ⟨v, f, g1, g2, A, n, c, xs, rfl, g3, g4, g5, rfl⟩ := hO.get j _ hj
  rw [g1] at hσ
  have hσ' : Value.slice A n c = a.eval x := Option.some.inj hσ
  obtain ⟨n1, e1, v1⟩ := opdI_ok (opd_ok h.slots hi) c2
  obtain ⟨n2, e2, v2⟩ := opdI_ok (opd_ok h.slots mx) c3
  have q1 := e1.now
  have q2 := e2.now
  rw [mkLen_den, g3.now] at q1 q2
  simp only [Dat.xs, Dat.int.injEq, true_and, g5] at q1 q2
  subst q1 q2
  have hOw := hM.ow (List.mem_cons_of_mem _ (List.mem_of_getElem? g2))
  obtain ⟨A2, c2', ee, hcc, hll, haa, hoo⟩ := id hOw
  cases ee
  simp only [szT, Option.map_eq_some_iff] at c1
  obtain ⟨ii, hii, hsz⟩ := c1
  have ha0 : ∀ a0 : Addr, a0.add 0 = a0 := fun a0 => by simp [Addr.add]
  have hb : (Instr.sliceBounds true n c none (some (.int .i64 n)) (some (.int .i64 n))).run E.P w = .ok (0, n, n) w := by
    simp [Instr.sliceBounds, Instr.sliceBound, asIntOf, Sem.run_bind, hcc]
  have hrun : (execOp a.eval o).run E.P w = .ok (.value (.slice A n n)) w := by
    unfold execOp
    simp only [ho, ← hσ', v1, v2, Option.map_some, Option.map_none, Instr.sliceAt, Instr.slice, Sem.run_bind, run_underlying hu, Result.andThen_ok, hb, Sem.run_pure, sizeOf, typeInfo, hii]
    cases A <;> simp [ha0, sizeOf, typeInfo, hii, Sem.run_bind]
  have hOw2 : Ow w w0.heap.size (E.Δ.row r).length (.slice A n n) n (flatV xs) := ⟨A, n, rfl, Nat.le_refl _, hll, haa, fun hn => by
    obtain ⟨g, off, k1, k2, k3, k4⟩ := hoo (by omega)
    exact ⟨g, off, k1, k2, k3, fun j hj => k4 j (Nat.lt_of_lt_of_le hj (Nat.mul_le_mul_right _ hcc))⟩⟩
  have hL : (baseF E ρ :: L)[j + 1]? = some (.ow (E.Δ.row r).length (.slice A n c) n (flatV xs)) := by simpa using g2
  have hbk : ∀ k, blkOf (.slice A n n) = some k → blkOf (.slice A n c) = some k := fun k hk => by
    cases A with
    | none => cases hk
    | some ad =>
      simp only [blkOf] at hk ⊢
      split at hk
      · rw [if_pos (by omega)]; exact hk
      · cases hk
  have hM2 := hM.upd (j + 1) hL (grownBy_below (Below.refl _ w)) (fun k hk => by cases hk) (f' := .ow (E.Δ.row r).length (.slice A n n) n (flatV xs)) hOw2 rfl (fun k hk => .inl (hbk k hk))
  simp only [List.set_cons_succ] at hM2
  exact ⟨σ ++ [.slice A n n], w, [.slice A n n], rfl, ⟨none, grownBy_below (Below.refl _ w), (fun k hk => by cases hk), fun u hu k hk => .inl ⟨j, _, by simp only [tgtW, ho, hx], g1, hbk k (by rw [List.mem_singleton.1 hu] at hk; exact hk)⟩⟩, .inr ⟨_, hrun, h.rebirth hO g1 g2 hM2 g3 g4 g5 o.dst⟩⟩
theorem evalW_ok (h : Rel E w0 ρ σ S a w) (he : evalW E.cx S o = some (S', obs)) (hob : obsOk E.Δ ρ obs) : ∃ σ' w' x, σ' = σ ++ x ∧ (∃ ob, w.grownBy w' ob ∧ (∀ k, ob = some k → ∃ j v, tgtW S o = some j ∧ σ[j]? = some v ∧ blkV v = some k) ∧ ∀ u ∈ x, ∀ k, blkV u = some k → (∃ j v, tgtW S o = some j ∧ σ[j]? = some v ∧ blkV v = some k) ∨ w.heap.size ≤ k) ∧ ((execOp a.eval o).run E.P w = .ok .skip w' ∧ Rel E w0 ρ σ' S' (a.put o.dst undef) w' ∨ ∃ u, (execOp a.eval o).run E.P w = .ok (.value u) w' ∧ Rel E w0 ρ σ' S' (a.put o.dst u) w') := by
  unfold evalW at he
  split at he
  · rename_i ty x y ho
    split at he
    case h_4 => cases he
    case h_3 =>
      rename_i j r ix off t st m u s hr hy hdst
      exact oeD_ok h ho hr hy hdst he
    case h_2 =>
      rename_i j r ix off y' hr hy hdst
      exact oe_ok h ho hr hy hdst he
    rename_i j off dyn y' hr hy hdst
    split at he
    case h_2 => cases he
    rename_i cs T hj
    split at he
    case isFalse => cases he
    rename_i hc
    simp only [Bool.and_eq_true, beq_iff_eq, bne_iff_ne, ne_eq] at hc
    obtain ⟨⟨c1, c2⟩, c3⟩ := hc
    simp only [Option.map_eq_some_iff] at he
    obtain ⟨cs', he, e⟩ := he
    cases e
    obtain ⟨A, p, q, ⟨b, k1, rfl, rfl⟩, k2, k3⟩ := opdR_ok (opd_ok h.slots x) hr
    obtain ⟨L, hO, hM⟩ := h.mem
    obtain ⟨v, f, h1, h2, b', vs, rfl, h4, rfl⟩ := hO.get j _ hj
    rw [k1] at h1
    cases h1
    have hyv := opd_ok h.slots y
    rw [hy] at hyv
    have hcl := cellsA_ok (v := a.eval y) hyv c1
    have hlen := hcl.length
    obtain ⟨m1, m2⟩ := stN_ok k2 hcl h4 he
    have hne : (a.eval y).cells.toList ≠ [] := fun e => by rw [e] at hlen; exact c3 (by simpa using hlen)
    have hle := m1 hne
    have hR := hM.row (b := b) (cs := vs.toArray) (T := T) (List.mem_cons_of_mem _ (List.mem_of_getElem? h2))
    have hrun := run_storeCells_at (P := E.P) b (off + q) T (a.eval y).cells.toList 0 vs.toArray w hR (by simpa using hle) (fun x hx => by
      have := all_one hcl c1
      rw [Array.all_eq_true_iff_forall_mem] at this
      exact this x (by simpa using hx))
    simp only [Nat.add_zero, List.toList_toArray] at hrun
    rw [← setMany_eq _ _ _ hle] at hrun
    refine ⟨σ, w.setRow b (setMany vs (off + q) (a.eval y).cells.toList).toArray, [], by simp, ⟨some b, grownBy_setRow _ _ _, (fun k hk => by cases hk; exact ⟨j, _, by simp only [tgtW, ho, hr], k1, rfl⟩), (fun u hu => by cases hu)⟩, .inl ⟨?_, ?_⟩⟩
    · simp only [szT, Env.cx, Option.map_eq_some_iff] at c2
      obtain ⟨ii, hii, hsz⟩ := c2
      have hsz' : (a.eval y).cells.size = ii.size := by rw [hsz, hlen]; simp
      have hst : (storeVar ty ⟨b, off + q, none⟩ (a.eval y)).run E.P w = .ok () (w.setRow b (setMany vs (off + q) (a.eval y).cells.toList).toArray) := by
        simp [storeVar, sizeOf, typeInfo, hii, hsz', hrun]
      have hx' : a.eval x = .pointer (some ⟨b, off + q, none⟩) := by rw [k3, pt_eq]; simp [Addr.add_lit]
      unfold execOp
      simp only [ho, hx', Instr.storeAt, Instr.sureAddr, Sem.run_bind, Sem.run_pure, Result.andThen_ok, hst]
    · rw [hdst]
      refine ⟨h.slots, h.defers, h.n, h.known, ⟨L.set j (.row b (setMany vs (off + q) (a.eval y).cells.toList).toArray T), hO.set k1 ⟨b, _, rfl, m2, rfl⟩, ?_⟩, h.pre, h.reach⟩
      have hL : (baseF E ρ :: L)[j + 1]? = some (.row b vs.toArray T) := by simpa using h2
      exact HM_upd hM hL b vs.toArray _ T rfl hR
  · rename_i t x hi mx ho
    split at he
    case h_2 => cases he
    rename_i j e hx hu
    exact clip_ok h ho hx hu he
  · rename_i t l c ho
    exact mk_ok h ho he hob
  · rename_i c ho
    obtain ⟨cal, args, tys⟩ := c
    split at he
    case h_2 => cases he
    rename_i x y t t' g1 g2 g3
    simp only at g1 g2 g3
    have g2' : args = #[x, y] := by rw [← Array.toArray_toList (xs := args), g2]
    have g3' : tys = #[t, t'] := by rw [← Array.toArray_toList (xs := tys), g3]
    subst g1 g2' g3'
    split at he
    case h_2 => cases he
    rename_i e hu
    split at he
    case isFalse => cases he
    rename_i htt
    subst htt
    split at he
    case h_2 => cases he
    rename_i j r u r' u' hx cx cy
    split at he
    case isFalse => cases he
    rename_i hrr
    subst hrr
    split at he
    case h_2 => cases he
    rename_i i hi
    split at he
    case isFalse => cases he
    rename_i hsz
    obtain ⟨z1, z2, z3⟩ := hsz
    cases he
    obtain ⟨L, hO, hM⟩ := h.mem
    have hxv := opd_ok h.slots x
    have hyv := opd_ok h.slots y
    rw [hx] at hxv cx
    simp only [contentOf] at cx
    split at cx
    case h_2 => cases cx
    rename_i rr tt hj
    cases cx
    obtain ⟨v, f, h1, h2, A, n, cc, xs, rfl, h4, h5, h6, rfl⟩ := hO.get j _ hj
    obtain ⟨hσ, _⟩ := hxv
    rw [h1] at hσ
    have hσ' : Value.slice A n cc = a.eval x := Option.some.inj hσ
    obtain ⟨ys, y1, y2, y3⟩ := contentOf_ok h hO hM hyv cy
    have hOw := hM.ow (List.mem_cons_of_mem _ (List.mem_of_getElem? h2))
    have hbound : (xs.length + ys.length : Nat) ≤ 140737488355328 / max 1 i.bytes := by
      have := hob (.cmp .le (.len (mkApp u u')) (.int .i64 (140737488355328 / max 1 i.bytes : Nat))) (by simp)
      have e2 := mkApp_den E.Δ ρ u u' h4.now
      have e3 := y1 []
      simp only [List.append_nil] at e3
      rw [e3] at e2
      simp only [den, e2, Dat.xs, Dat.toInt, Cmp.of, Dat.bool.injEq, decide_eq_true_eq, List.length_append] at this
      exact_mod_cast this
    have hb1 : (xs.length + ys.length) * max 1 i.bytes ≤ 140737488355328 := by
      have := Nat.mul_le_mul_right (max 1 i.bytes) hbound
      exact Nat.le_trans this (Nat.div_mul_le_self _ _)
    have hb2 : (n + ys.length) * i.bytes ≤ 140737488355328 := by
      rw [← h6]
      exact Nat.le_trans (Nat.mul_le_mul_left _ (Nat.le_max_right 1 i.bytes)) hb1
    have hb3 : n + ys.length ≤ maxLen := by
      rw [← h6]
      have : xs.length + ys.length ≤ (xs.length + ys.length) * max 1 i.bytes := Nat.le_mul_of_pos_right _ (Nat.lt_of_lt_of_le Nat.one_pos (Nat.le_max_left _ _))
      unfold maxLen; omega
    cases hz : i.zero with
    | none => rw [hz] at z2; cases z2
    | some z =>
    have z2' : z.cells.size = (E.Δ.row r).length := by rw [hz] at z2; simp only [Option.map_some, Option.some.injEq] at z2; rw [z2, z1]; rfl
    obtain ⟨v', w', hrun, hs', hg, hblk⟩ := run_append_ow (P := E.P) t o.type e i z i.bytes hu hi hz z1 rfl z2' hOw y3 (flatV_one y2 z3) hb3 hb2 hM.size
    have hs2 := hs'
    obtain ⟨A', c', rfl, _⟩ := hs2
    refine ⟨σ ++ [.slice A' (n + ys.length) c'], w', [.slice A' (n + ys.length) c'], rfl, ⟨_, hg, fun k hk => ⟨j, _, by simp only [tgtW, ho, hx], h1, hk⟩, fun u hu k hk => ?_⟩, .inr ⟨.slice A' (n + ys.length) c', ?_, ?_⟩⟩
    · rw [List.mem_singleton.1 hu] at hk
      replace hk : blkOf (.slice A' (n + ys.length) c') = some k := hk
      rcases hblk with e1 | ⟨g, e1, hge⟩
      · exact .inl ⟨j, _, by simp only [tgtW, ho, hx], h1, e1.symm.trans hk⟩
      · rw [e1] at hk; cases hk; exact .inr hge
    · unfold execOp
      simp only [ho, resolve, invoke, builtin, Sem.run_bind, Sem.run_pure, Result.andThen_ok, List.map_toArray, List.map_cons, List.map_nil, ← hσ', hrun]
    · have hL : (baseF E ρ :: L)[j + 1]? = some (.ow (E.Δ.row r).length (.slice A n cc) n (flatV xs)) := by simpa using h2
      have hM2 := hM.upd (j + 1) hL hg (fun k hk => ⟨hk, rfl⟩) (f' := .ow (E.Δ.row r).length (.slice A' (n + ys.length) c') (n + ys.length) (flatV xs ++ flatV ys)) hs' rfl (fun k hk => by
        rcases hblk with e1 | ⟨g, e1, hge⟩
        · exact .inl (e1.symm.trans hk)
        · refine .inr ?_
          have hj' : blkOf (.slice A' (n + ys.length) c') = some k := hk
          rw [e1] at hj'
          cases hj'
          exact hge)
      simp only [List.set_cons_succ] at hM2
      rw [← flatV_append] at hM2
      refine h.rebirth hO h1 h2 hM2 (fun e => ?_) ?_ (by simp [h6]) o.dst
      · rw [mkApp_den _ _ u u' (h4 e), y1 e]
      · cases h5 with
        | rows _ _ a1 a2 =>
        cases y2 with
        | rows _ _ b1 b2 =>
        exact .rows r _ (fun row hr => by rcases List.mem_append.1 hr with hr | hr; exact a1 row hr; exact b1 row hr) (fun row hr => by rcases List.mem_append.1 hr with hr | hr; exact a2 row hr; exact b2 row hr)
  · cases he
end
end Go.Proofs.YtcigbgpdikadpaaDoor
end

section
namespace Go.Proofs.YtcigbgpdikadpaaDoor
open Go.RowKit
set_option linter.unusedVariables false

/-- a later world, in which blocks outside B are what they were -/
structure Lt (B : Nat → Prop) (w w' : World) : Prop where
  os : w'.os = w.os
  tape : w'.tape = w.tape
  output : w'.output = w.output
  size : w.heap.size ≤ w'.heap.size
  block : ∀ k, k < w.heap.size → ¬ B k → w'.heap[k]? = w.heap[k]?
/-- the same, where anything is read ahead -/
def LtO (hs : Bool) (B : Nat → Prop) (w w' : World) : Prop := hs = true → Lt B w w'
theorem Lt.refl (B : Nat → Prop) (w : World) : Lt B w w := ⟨rfl, rfl, rfl, Nat.le_refl _, fun _ _ _ => rfl⟩
theorem Lt.trans {B : Nat → Prop} {w w' w'' : World} (h : Lt B w w') (k : Lt B w' w'') : Lt B w w'' :=
  ⟨k.os.trans h.os, k.tape.trans h.tape, k.output.trans h.output, Nat.le_trans h.size k.size, fun i hi hb => (k.block i (Nat.lt_of_lt_of_le hi h.size) hb).trans (h.block i hi hb)⟩
theorem LtO.refl (hs : Bool) (B : Nat → Prop) (w : World) : LtO hs B w w := fun _ => Lt.refl B w
theorem LtO.trans {hs : Bool} {B : Nat → Prop} {w w' w'' : World} (h : LtO hs B w w') (k : LtO hs B w' w'') : LtO hs B w w'' := fun e => (h e).trans (k e)
theorem Lt.below {B : Nat → Prop} {w w' : World} (h : Below w.heap.size w w') : Lt B w w' := ⟨h.os, h.tape, h.output, h.size, fun k hk _ => h.block k hk⟩
theorem Lt.grown {B : Nat → Prop} {w w' : World} {o : Option Nat} (h : w.grownBy w' o) (hB : ∀ k, o = some k → B k) : Lt B w w' :=
  ⟨h.os, h.tape, h.output, h.size, fun k hk hb => h.block k hk (fun e => hb (hB k e.symm))⟩

/-- blocks may be changed one after the other -/
theorem lt_split {B : Nat → Prop} {w w' : World} (h : Lt B w w') (q : Nat → Prop) (hq : ∀ k, q k → ¬ B k) : ∀ k, k < w.heap.size → q k → w'.heap[k]? = w.heap[k]? := fun k hk hqk => h.block k hk (hq k hqk)
theorem cell_lt {B : Nat → Prop} {w w' : World} (h : Lt B w w') {p : Addr} (hp : p.block < w.heap.size) (hb : ¬ B p.block) : w'.cell? p = w.cell? p := by
  unfold World.cell?; rw [h.block _ hp hb]
theorem frozen_lt {B : Nat → Prop} {w w' : World} (h : Lt B w w') {p : Addr} (hp : p.block < w.heap.size) (hb : ¬ B p.block) : w'.frozen? p = w.frozen? p := by
  unfold World.frozen?; rw [h.block _ hp hb]
theorem Rd.keepsLt {B : Nat → Prop} {w w' : World} {sz n : Nat} {v : Value} {xs : List Value} (hr : Rd w sz v n xs) (h : Lt B w w') (hk : ∀ k, rdAt v k → ¬ B k) : Rd w' sz v n xs := by
  obtain ⟨A, c, rfl, hc, hl, ha⟩ := hr
  refine ⟨A, c, rfl, hc, hl, fun hn => ?_⟩
  obtain ⟨ad, rfl, hb, hcell⟩ := ha hn
  refine ⟨ad, rfl, Nat.lt_of_lt_of_le hb h.size, fun j u hu => ?_⟩
  rw [cell_lt h (by rw [block_add]; exact hb) (by rw [block_add]; exact hk _ ⟨hn, rfl⟩)]
  exact hcell j u hu
theorem OkD.keepsLt {B : Nat → Prop} {w w' : World} {d : Dat} (h : OkD w d) (hl : Lt B w w') (hne : ∀ k, AtD d k → ¬ B k) : OkD w' d := by
  induction h with
  | int k n => exact .int k n
  | bool b => exact .bool b
  | val v => exact .val v
  | list v sz xs hr _ hz ih => exact .list v sz xs (hr.keepsLt hl fun k hk => hne k (.here hk)) (fun row hrow d hd => ih row hrow d hd fun k hk => hne k (.list hrow hd hk)) (hz.loc fun k hk => hl.block k (Fact.lt (B := 0) (f := .rd sz v xs.length (flatV xs)) hr hk) (hne k (.here hk)))
  | rows xs _ ih => exact .rows xs fun row hrow d hd => ih row hrow d hd fun k hk => hne k (.rows hrow hd hk)
section
variable {P : Program} {ops : Array Oper} {md : Region.Mode} {B : Nat → Prop}
def YieldsR (P : Program) (ops : Array Oper) (hs : Bool) (B : Nat → Prop) (w : World) (o : Oper) (v : Value) (a : Act) : Prop :=
  (Region.wanted o (yielded ops a.tmps) = true ∧ ∀ w', LtO hs B w w' → (execOp a.eval o).run P w' = .ok (.value v) w') ∨
  (Region.wanted o (yielded ops a.tmps) = false ∧ v = undef)
theorem YieldsR.later {hs : Bool} {w w' : World} {o : Oper} {v : Value} {a : Act} (h : YieldsR P ops hs B w o v a) (hw : LtO hs B w w') : YieldsR P ops hs B w' o v a :=
  h.imp (fun ⟨h1, h2⟩ => ⟨h1, fun w'' hw'' => h2 w'' (hw.trans hw'')⟩) id
theorem YieldsR.wpOp {hs : Bool} {i : Nat} {o : Oper} {v : Value} {a : Act} {Q : Exit → Act → World → Prop} (hi : ops[i]? = some o) {w : World} (hy : YieldsR P ops hs B w o v a)
    {K : Act → World → Prop} (h : K (a.put o.dst v) w) : wpOp P ops Q i K a w := by
  unfold Go.wpOp
  simp only [hi]
  rcases hy with ⟨hw, hv⟩ | ⟨hw, rfl⟩
  · simp only [hw, if_true, Oper.wp, hv w (LtO.refl hs B w), Oper.upon]; exact .inl h
  · simp only [hw, Bool.false_eq_true, if_false]; exact h
theorem YieldsR.of_same {hs : Bool} {o : Oper} {v : Value} {a a' : Act} {w : World} (hy : YieldsR P ops hs B w o v a) (he : execOp a'.eval o = execOp a.eval o)
    (hw : Region.wanted o (yielded ops a'.tmps) = Region.wanted o (yielded ops a.tmps)) : YieldsR P ops hs B w o v a' := by
  unfold YieldsR at *
  rw [he, hw]
  exact hy
/-- what ends in a panic, ends so whatever the slots hold -/
def panQ (Q : Exit → Act → World → Prop) : Exit → Act → World → Prop
  | .normal, a, w => Q .normal a w
  | .panic ch, a, w => a.defers = [] ∧ ∀ a' : Act, a'.defers = [] → Q (.panic ch) a' w
  | _, _, _ => False
theorem put_defersR (a : Act) (d : Option Nat) (v : Value) : (a.put d v).defers = a.defers := by
  cases d <;> rfl
theorem wpOp_putR {hs : Bool} {Q : Exit → Act → World → Prop} {j : Nat} {oi oj : Oper} {v : Value} (hj : ops[j]? = some oj) (hap : oi.apart ops oj = true)
    (hsi : ∀ cs b, oi.op ≠ .select cs b) (hsj : ∀ cs b, oj.op ≠ .select cs b) {K : Act → World → Prop} {a : Act} {w : World}
    (hy : YieldsR P ops hs B w oi v a) (h : wpOp P ops (panQ Q) j K (a.put oi.dst v) w) :
    wpOp P ops (panQ Q) j (fun a' w' => YieldsR P ops hs B w oi v a' ∧ K (a'.put oi.dst v) w') a w := by
  obtain ⟨h1, h2, h3⟩ := Oper.apart_spec hap
  have keep : ∀ (a : Act), YieldsR P ops hs B w oi v a → ∀ u, YieldsR P ops hs B w oi v (a.put oj.dst u) := fun a hy u =>
    hy.of_same (execOp_put oi hsi a oj.dst u h3) (wanted_put oi a oj.dst u h3)
  have keepD : ∀ d, YieldsR P ops hs B w oi v { a with defers := d :: a.defers } := fun d => hy.of_same rfl rfl
  unfold wpOp at *
  simp only [hj] at *
  rw [wanted_put oj a oi.dst v h1] at h
  split
  · rename_i hw
    simp only [hw, if_true] at h
    rcases h with h | ⟨hasks, hlets⟩
    case inr => exact .inr ⟨by unfold Oper.asks at *; rw [execOp_put oj hsj a oi.dst v h1] at hasks; exact hasks, hlets⟩
    refine .inl ?_
    unfold Oper.wp at *
    rw [execOp_put oj hsj a oi.dst v h1] at h
    generalize (execOp a.eval oj).run P w = r at *
    cases r with
    | ok n w' =>
      cases n <;> simp only [Oper.upon] at h ⊢
      case value u => exact ⟨keep a hy u, by rw [← Act.put_comm a v u h2]; exact h⟩
      case skip => exact ⟨keep a hy _, by rw [← Act.put_comm a v undef h2]; exact h⟩
      case defer d =>
        refine ⟨keep _ (keepD d) _, ?_⟩
        rw [← Act.put_comm _ v undef h2, ← Act.put_defers]
        exact h
      case enter f args =>
        refine Calls.mono h fun e w'' he => ?_
        cases e with
        | returned u => exact ⟨keep a hy u, by rw [← Act.put_comm a v u h2]; exact he⟩
        | panicked c => exact ⟨by have := he.1; rwa [put_defersR] at this, he.2⟩
        | outgrown => exact he
      case row row args => exact Rows.mono h fun u w'' he => ⟨keep a hy u, by rw [← Act.put_comm a v u h2]; exact he⟩
    | halt x w' =>
      cases x <;> simp only [Oper.upon] at h ⊢
      case panic u => exact ⟨by have := h.1; rwa [put_defersR] at this, h.2⟩
  · rename_i hw
    simp only [hw] at h
    exact ⟨keep a hy _, by rw [← Act.put_comm a v undef h2]; exact h⟩
/-- whatever order is picked from here on -/
def wpAnyR (P : Program) (md : Region.Mode) (ops : Array Oper) (hs : Bool) (B : Nat → Prop) (Q : Exit → Act → World → Prop) : Nat → Array Bool → Act → World → Prop
  | 0, listed, a, w => Region.ready md ops listed = [] ∧ Q .normal a w
  | fuel + 1, listed, a, w =>
    (Region.ready md ops listed = [] → Q .normal a w) ∧
    ∀ i ∈ Region.ready md ops listed, wpOp P ops (panQ Q) i (fun a' w' => LtO hs B w w' ∧ wpAnyR P md ops hs B Q fuel (listed.setIfInBounds i true) a' w') a w
theorem wpAny_of_R {hs : Bool} {Q : Exit → Act → World → Prop} : ∀ (fuel : Nat) (listed : Array Bool) (a : Act) (w : World), wpAnyR P md ops hs B Q fuel listed a w → wpAny P md ops (panQ Q) fuel listed a w
  | 0, _, _, _, h => h
  | fuel + 1, _, _, _, h => ⟨h.1, fun i hi => wpOp_mono (fun a' w' h' => wpAny_of_R fuel _ a' w' h'.2) (h.2 i hi)⟩
theorem Lt.wide {B' : Nat → Prop} {w w' : World} (h : Lt B' w w') (hB : ∀ k, B' k → B k) : Lt B w w' := ⟨h.os, h.tape, h.output, h.size, fun k hk hn => h.block k hk fun hb => hn (hB k hb)⟩
theorem wpAnyR_wide {hs : Bool} {Q : Exit → Act → World → Prop} {B' : Nat → Prop} (hB : ∀ k, B' k → B k) : ∀ (fuel : Nat) (listed : Array Bool) (a : Act) (w : World), wpAnyR P md ops hs B' Q fuel listed a w → wpAnyR P md ops hs B Q fuel listed a w
  | 0, _, _, _, h => h
  | fuel + 1, _, _, _, h => ⟨h.1, fun i hi => wpOp_mono (fun a' w' h' => ⟨fun e => (h'.1 e).wide hB, wpAnyR_wide hB fuel _ a' w' h'.2⟩) (h.2 i hi)⟩
theorem wpAnyR_free {Q : Exit → Act → World → Prop} {B' : Nat → Prop} : ∀ (fuel : Nat) (listed : Array Bool) (a : Act) (w : World), wpAnyR P md ops false B' Q fuel listed a w → wpAnyR P md ops false B Q fuel listed a w
  | 0, _, _, _, h => h
  | fuel + 1, _, _, _, h => ⟨h.1, fun i hi => wpOp_mono (fun a' w' h' => ⟨fun e => (by cases e), wpAnyR_free fuel _ a' w' h'.2⟩) (h.2 i hi)⟩
theorem wpAnyR_first {hs : Bool} {Q : Exit → Act → World → Prop} {i : Nat} {oi : Oper} {v : Value} (hi : ops[i]? = some oi) (hsel : ∀ (j : Nat) (o : Oper) cs b, ops[j]? = some o → o.op ≠ .select cs b) :
    ∀ (fuel : Nat) (listed : Array Bool) (a : Act) (w : World),
      (∀ j oj, ops[j]? = some oj → j ≠ i → listed.getD j true = false → (∀ e ∈ oj.after, Region.binds md e = true → e.on ≠ i) → oi.apart ops oj = true) →
      i ∈ Region.ready md ops listed → YieldsR P ops hs B w oi v a →
      wpAnyR P md ops hs B Q fuel (listed.setIfInBounds i true) (a.put oi.dst v) w → wpAnyR P md ops hs B Q (fuel + 1) listed a w := by
  intro fuel
  induction fuel with
  | zero =>
    intro listed a w hfree hr hy H
    refine ⟨fun h => (by rw [h] at hr; cases hr), fun j hj => ?_⟩
    by_cases hji : j = i
    · subst hji; exact hy.wpOp hi ⟨fun _ => Lt.refl B w, H⟩
    · have := ready_mono hj hji
      rw [H.1] at this
      cases this
  | succ fuel ih =>
    intro listed a w hfree hr hy H
    refine ⟨fun h => (by rw [h] at hr; cases hr), fun j hj => ?_⟩
    by_cases hji : j = i
    · subst hji; exact hy.wpOp hi ⟨fun _ => Lt.refl B w, H⟩
    · have h1 := H.2 j (ready_mono hj hji)
      obtain ⟨hjun, oj, hoj, hall⟩ := mem_ready.1 hj
      have hnot : ∀ e ∈ oj.after, Region.binds md e = true → e.on ≠ i := fun e he hb heq => by
        have h1 := hall e he hb
        have h0 := (mem_ready.1 hr).1
        rw [heq] at h1
        rcases Nat.lt_or_ge i listed.size with h' | h'
        · simp [h'] at h0 h1; rw [h0] at h1; cases h1
        · simp [Array.getElem?_eq_none h'] at h1
      have h2 := wpOp_putR hoj (hfree j oj hoj hji hjun hnot) (fun cs b => hsel i oi cs b hi) (fun cs b => hsel j oj cs b hoj) hy h1
      have hfree' : ∀ k ok, ops[k]? = some ok → k ≠ i → (listed.setIfInBounds j true).getD k true = false →
          (∀ e ∈ ok.after, Region.binds md e = true → e.on ≠ i) → oi.apart ops ok = true := fun k ok hk hki hun hno => by
        refine hfree k ok hk hki ?_ hno
        by_cases hjk : j = k
        · subst hjk; exact hjun
        · rw [getD_set_ne true hjk] at hun; exact hun
      refine wpOp_mono (fun a' w' h3 => ⟨h3.2.1, ih (listed.setIfInBounds j true) a' w' hfree' (ready_mono hr (Ne.symm hji)) (h3.1.later h3.2.1) ?_⟩) h2
      rw [Array.setIfInBounds_comm _ _ hji]
      exact h3.2.2
theorem wpAnyR_done {hs : Bool} {Q : Exit → Act → World → Prop} {fuel : Nat} {listed : Array Bool} {a : Act} {w : World} (hr : Region.ready md ops listed = []) (h : Q .normal a w) : wpAnyR P md ops hs B Q fuel listed a w := by
  cases fuel with
  | zero => exact ⟨hr, h⟩
  | succ n => exact ⟨fun _ => h, fun i hi => by rw [hr] at hi; cases hi⟩
theorem wp_region_R {hs : Bool} {id : Nat} {Q : Exit → Act → World → Prop} {a : Act} {w : World} (hm : P.follows .mixedOrders = true) (B : Nat → Prop)
    (h : wpAnyR P .any ops hs B Q ops.size (Array.replicate ops.size false) a w.drew) : (Code.region id ops true).wp P Q a w := by
  refine Code.wp_mono (Q := panQ Q) (fun e a w h => ?_) (wp_region_any hm (wpAny_of_R _ _ _ _ h))
  cases e <;> first | exact h | exact h.elim | exact h.2 _ h.1
end

section
variable {E : Env} {w0 w w' : World} {ρ ρ0 : List Dat} {σ σ0 : List Value} {S S' : St} {a : Act} {o : Oper} {L : List Fact} {obs : List Tm}
/-- what a region may write: the blocks of the objects M, and new ones -/
def regB (n0 : Nat) (σ0 : List Value) (M : List Nat) : Nat → Prop := fun k => n0 ≤ k ∨ ∃ j ∈ M, ∃ v, σ0[j]? = some v ∧ blkV v = some k
theorem ObR.at_blk {x : Ob} {v : Value} {f : Fact} (h : ObR E ρ σ x v f) (hx : x ≠ .fr) {k : Nat} (hk : f.at k) : blkV v = some k := by
  cases x with
  | blk cs ty =>
    obtain ⟨b, vs, rfl, _, rfl⟩ := h
    have : k = b := hk
    subst this; rfl
  | own r t =>
    obtain ⟨A, n, c, xs, rfl, _, _, _, rfl⟩ := h
    have hk' : blkOf (.slice A n c) = some k := hk
    rw [← hk']; rfl
  | dead =>
    have h' : f = .gen (fun _ => True) (fun _ => False) := h
    subst h'; exact hk.elim
  | fr => exact absurd rfl hx
/-- objects that may be written in a region, put out of sight -/
def maskO (m0 : Nat) (M : List Nat) : List Ob → Nat → List Ob
  | [], _ => []
  | o :: l, j => (if decide (m0 ≤ j) || M.contains j then .dead else o) :: maskO m0 M l (j + 1)
def maskF (m0 : Nat) (M : List Nat) : List Fact → Nat → List Fact
  | [], _ => []
  | o :: l, j => (if decide (m0 ≤ j) || M.contains j then deadF else o) :: maskF m0 M l (j + 1)
theorem maskO_get {m0 : Nat} {M : List Nat} : ∀ (l : List Ob) (j i : Nat), (maskO m0 M l j)[i]? = (l[i]?).map fun o => if decide (m0 ≤ j + i) || M.contains (j + i) then .dead else o
  | [], _, _ => by simp [maskO]
  | o :: l, j, 0 => by simp [maskO]
  | o :: l, j, i + 1 => by simp only [maskO, List.getElem?_cons_succ]; rw [maskO_get l (j + 1) i, show j + 1 + i = j + (i + 1) by omega]
theorem maskF_get {m0 : Nat} {M : List Nat} : ∀ (l : List Fact) (j i : Nat), (maskF m0 M l j)[i]? = (l[i]?).map fun o => if decide (m0 ≤ j + i) || M.contains (j + i) then deadF else o
  | [], _, _ => by simp [maskF]
  | o :: l, j, 0 => by simp [maskF]
  | o :: l, j, i + 1 => by simp only [maskF, List.getElem?_cons_succ]; rw [maskF_get l (j + 1) i, show j + 1 + i = j + (i + 1) by omega]
theorem maskO_len {m0 : Nat} {M : List Nat} : ∀ (l : List Ob) (j : Nat), (maskO m0 M l j).length = l.length
  | [], _ => rfl
  | o :: l, j => by simp [maskO, maskO_len l]
theorem maskF_len {m0 : Nat} {M : List Nat} : ∀ (l : List Fact) (j : Nat), (maskF m0 M l j).length = l.length
  | [], _ => rfl
  | o :: l, j => by simp [maskF, maskF_len l]
theorem ObsR.mask {os : List Ob} (h : ObsR E ρ σ os L) (m0 : Nat) (M : List Nat) : ObsR E ρ σ (maskO m0 M os 0) (maskF m0 M L 0) :=
  ⟨by rw [maskO_len]; exact h.l1, by rw [maskF_len]; exact h.l2, fun j o ho => by
    rw [maskO_get, Option.map_eq_some_iff] at ho
    obtain ⟨o', ho', rfl⟩ := ho
    obtain ⟨v, f, h1, h2, h3⟩ := h.get j o' ho'
    refine ⟨v, _, h1, by rw [maskF_get, h2]; rfl, ?_⟩
    split
    · rfl
    · exact h3⟩
/-- what is out of the region's reach stands in all its later worlds -/
theorem Mem.later {m0 : Nat} {M : List Nat} {B : Nat → Prop} {os : List Ob} (hM : Mem none w0 w (baseF E ρ :: L)) (hO : ObsR E ρ σ os L) 
    (hρ : ∀ k, AtL ρ k ∨ E.gat k → ¬ B k) (hown : ∀ (j : Nat) f k, L[j]? = some f → (decide (m0 ≤ j) || M.contains j) = false → f.at k → ¬ B k) (holdB : ∀ k, k < w0.heap.size → ¬ B k)
    (hfr : ∀ j, os[j]? = some .fr → (decide (m0 ≤ j) || M.contains j) = true) (hl : Lt B w w') : Mem none w0 w' (baseF E ρ :: maskF m0 M L 0) := by
  have hm : Mem none w0 w (baseF E ρ :: maskF m0 M L 0) := by
    refine hM.pick (fun i => some i) (base_holds hM) rfl (fun k hk => .inl hk) (fun i f hf => ?_) (fun i i' q h1 h2 => by cases h1; cases h2; rfl)
    rw [maskF_get, Option.map_eq_some_iff] at hf
    obtain ⟨f', hf', rfl⟩ := hf
    split
    · exact .inl rfl
    · exact .inr ⟨i, rfl, hf'⟩
  have hkeep : ∀ f ∈ baseF E ρ :: maskF m0 M L 0, ∀ k, f.at k → ¬ B k := fun f hf k hk => by
    rcases List.mem_cons.1 hf with rfl | hf
    · exact hρ k hk
    · obtain ⟨i, hi⟩ := List.getElem?_of_mem hf
      rw [maskF_get, Option.map_eq_some_iff] at hi
      obtain ⟨f', hf', e⟩ := hi
      split at e
      · subst e; exact hk.elim
      · rename_i hc
        subst e
        exact hown i f' k hf' (by simpa using hc) hk
  refine ⟨⟨hl.os.trans hm.grown.os, hl.tape.trans hm.grown.tape, hl.output.trans hm.grown.output, Nat.le_trans hm.grown.size hl.size, fun k hk _ => ?_⟩, fun f hf => ?_, hm.own, hm.apart⟩
  · rw [hl.block k (Nat.lt_of_lt_of_le hk hm.grown.size) (holdB k hk)]
    exact hm.grown.block k hk (by simp)
  · have h1 := hm.holds f hf
    have hk := hkeep f hf
    rcases List.mem_cons.1 hf with rfl | hf
    · refine ⟨⟨fun d hd => (h1.1.1 d hd).keepsLt hl fun k hkk => hk k (.inl ⟨d, hd, hkk⟩), h1.1.2.block fun k hlt hg => hl.block _ hlt (hk _ (.inr hg))⟩, baseFirm _ _⟩
    · obtain ⟨i, hi⟩ := List.getElem?_of_mem hf
      rw [maskF_get, Option.map_eq_some_iff] at hi
      obtain ⟨f', hf', e⟩ := hi
      split at e
      · subst e; exact ⟨trivial, deadFirm⟩
      · rename_i hcm
        subst e
        obtain ⟨o, ho⟩ : ∃ o, os[i]? = some o := by
          have hi1 := (List.getElem?_eq_some_iff.1 hf').1
          have : i < os.length := by rw [hO.l1, ← hO.l2]; exact hi1
          exact ⟨_, List.getElem?_eq_getElem this⟩
        obtain ⟨v, f, g1, g2, g3⟩ := hO.get i o ho
        rw [hf'] at g2; cases g2
        cases o with
        | blk cs ty =>
          obtain ⟨b, vs, rfl, _, rfl⟩ := g3
          exact (hl.block b (Row.lt h1) (hk b rfl)).trans h1
        | own r t =>
          obtain ⟨A, n, c, xs, rfl, _, _, _, rfl⟩ := g3
          have hat : ∀ k, blkOf (.slice A n c) = some k → ¬ B k := fun k hkk => hk k hkk
          obtain ⟨A', c', e, hc, hlx, ha, ho⟩ := h1
          cases e
          refine ⟨A, c, rfl, hc, hlx, fun hn => ?_, fun h0 => ?_⟩
          · obtain ⟨ad, rfl, hb, hcell⟩ := ha hn
            refine ⟨ad, rfl, Nat.lt_of_lt_of_le hb hl.size, fun j u hu => ?_⟩
            have hnb : ¬ B ad.block := hat _ (by simp only [blkOf]; rw [if_pos (by omega)])
            rw [cell_lt hl (by rw [block_add]; exact hb) (by rw [block_add]; exact hnb)]
            exact hcell j u hu
          · obtain ⟨g, off, rfl, hB, hg, hj⟩ := ho h0
            have hnb : ¬ B g := hat _ (by simp only [blkOf]; rw [if_pos h0])
            refine ⟨g, off, rfl, hB, Nat.lt_of_lt_of_le hg hl.size, fun j hjc => ?_⟩
            rw [cell_lt hl (p := ⟨g, off + j, none⟩) hg hnb, frozen_lt hl (p := ⟨g, off + j, none⟩) hg hnb]
            exact hj j hjc
        | dead =>
          have g3' : f' = .gen (fun _ => True) (fun _ => False) := g3
          subst g3'
          exact ⟨trivial, deadFirm⟩
        | fr => exact absurd (hfr i ho) (by rw [Nat.zero_add] at hcm; exact hcm)
end
end Go.Proofs.YtcigbgpdikadpaaDoor
end
