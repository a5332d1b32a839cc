import Derived.Test.YtigdoooikfgdfaaDoorM7
import Derived.Deep.LoopGhost

set_option linter.unusedVariables false
set_option linter.unusedSimpArgs false

section
namespace Go.Proofs.YtigdoooikfgdfaaDoor
open Go.RowKit
set_option linter.unusedVariables false

section
variable {E : Env} {w0 w w' : World} {ρ ρ' : List Dat} {σ σ' : List Value} {S S' : St} {a : Act} {L : List Fact} {o : Oper}
theorem obT_wp {Φ : Nat → Spec} {Post : List Dat → Prop} {X : List (Inv × Nat)} {K : List (Tm × Bool)} (hK : ∀ x ∈ K, Den E.Δ ρ x.1 (.bool x.2)) : ∀ {obs : List Tm} {k : Tree}, wp E.Δ Φ Post (obT K obs k) ρ X → obsOk E.Δ ρ obs ∧ wp E.Δ Φ Post k ρ X
  | [], k, h => ⟨fun t ht => (by cases ht), h⟩
  | t :: l, k, h => by
    simp only [obT] at h
    split at h
    · rename_i hk
      obtain ⟨i1, i2⟩ := obT_wp hK h
      refine ⟨fun u hu => ?_, i2⟩
      rcases List.mem_cons.1 hu with rfl | hu
      · exact knows_ok hK hk
      · exact i1 u hu
    · obtain ⟨h1, h2⟩ := h
      obtain ⟨i1, i2⟩ := obT_wp hK h2
      refine ⟨fun u hu => ?_, i2⟩
      rcases List.mem_cons.1 hu with rfl | hu
      · exact h1
      · exact i1 u hu
theorem slot_val (h : All2 (VR E ρ σ) S.slots a.tmps.toList) {d : Nat} {x : AV} (hx : S.slots[d]? = some x) : ∃ v, a.tmps[d]? = some v ∧ VR E ρ σ x v := by
  obtain ⟨v, h1, h2⟩ := h.get hx
  exact ⟨v, by simpa using h1, h2⟩
theorem guardOf_ok (h : Rel E w0 ρ σ S a w) {os : List Oper} : match guardOf S os o with
    | .yes => Region.wanted o (yielded os.toArray a.tmps) = true
    | .no => Region.wanted o (yielded os.toArray a.tmps) = false
    | .ask t => ∃ b, Den E.Δ ρ t (.bool b)
    | .bad => True := by
  unfold guardOf
  cases hg : o.guard with
  | none => simp [Region.wanted, hg]
  | some jw =>
    obtain ⟨j, want⟩ := jw
    simp only
    cases hd : (os[j]?).bind (·.dst) with
    | none => trivial
    | some d =>
      simp only
      have hyl : ∀ v, a.tmps[d]? = some v → Region.wanted o (yielded os.toArray a.tmps) = (match v with | .bool b => b == want | _ => false) := fun v hv => by
        simp only [Region.wanted, hg, yielded, List.getElem?_toArray, hd, Option.bind_some, hv]
        cases v <;> rfl
      cases hs : S.slots[d]? with
      | none => trivial
      | some x =>
        obtain ⟨v, h1, h2⟩ := slot_val h.slots hs
        split
        · rename_i heq
          split at heq
          · cases heq
          · rename_i t hx
            cases hx
            split at heq
            · rename_i b hb
              split at heq
              · rename_i hbw
                have hk := knows_ok h.known hb
                obtain ⟨d', d1, d2, rfl, _⟩ := h2
                rw [d1.now] at hk
                subst hk
                rw [hyl _ h1]
                simp [Dat.toV, hbw]
              · cases heq
            · cases heq
          · cases heq
        · rename_i heq
          split at heq
          · rename_i hx
            cases hx
            cases h2
            rw [hyl _ h1]; rfl
          · rename_i t hx
            cases hx
            split at heq
            · rename_i b hb
              split at heq
              · cases heq
              · rename_i hbw
                have hk := knows_ok h.known hb
                obtain ⟨d', d1, d2, rfl, _⟩ := h2
                rw [d1.now] at hk
                subst hk
                rw [hyl _ h1]
                simpa [Dat.toV] using hbw
            · cases heq
          · cases heq
        · rename_i t heq
          split at heq
          · cases heq
          · rename_i t' hx
            cases hx
            split at heq
            · split at heq <;> cases heq
            · cases heq
              obtain ⟨d', d1, d2, rfl, _⟩ := h2
              cases d2 with
              | bool b => exact ⟨b, d1⟩
          · cases heq
        · trivial
theorem replC_ok {j : Nat} {x : CP} {u : Value} (hj : σ[j]? = some u) (hx : CPR E ρ σ x u) {c : C} {v : Value} (h : CR E ρ σ c v) : CR E ρ σ (replC j x c) v := by
  unfold replC
  split
  · rename_i i
    split
    · rename_i e
      subst e
      have := h.1
      rw [hj] at this
      cases this
      exact hx
    · exact h
  · exact h
theorem replCs_ok {j : Nat} {x : CP} {u : Value} (hj : σ[j]? = some u) (hx : CPR E ρ σ x u) {cs : List C} {vs : List Value} (h : All2 (CR E ρ σ) cs vs) : All2 (CR E ρ σ) (cs.map (replC j x)) vs := by
  induction h with
  | nil => exact .nil
  | cons h _ ih => exact .cons (replC_ok hj hx h) ih
theorem replA1_ok {j : Nat} {x : CP} {u : Value} (hj : σ[j]? = some u) (hx : CPR E ρ σ x u) {c : A1} {v : Value} (h : AR E ρ σ c v) : AR E ρ σ (replA1 j x c) v := by
  cases c with
  | c c => exact replC_ok hj hx h
  | agg l => obtain ⟨vs, h1, h2⟩ := h; exact ⟨vs, replCs_ok hj hx h1, h2⟩
theorem replA_ok {j : Nat} {x : CP} {u : Value} (hj : σ[j]? = some u) (hx : CPR E ρ σ x u) {c : AV} {v : Value} (h : VR E ρ σ c v) : VR E ρ σ (replA j x c) v := by
  cases c with
  | v c => exact replA1_ok hj hx h
  | tup l =>
    obtain ⟨vs, h1, h2⟩ := h
    refine ⟨vs, ?_, h2⟩
    clear h2
    induction h1 with
    | nil => exact .nil
    | cons h _ ih => exact .cons (replA1_ok hj hx h) ih
/-- a slice of the call's own is from now on read alone -/
theorem Rel.share (h : Rel E w0 ρ σ S a w) {j r : Nat} {t : Tm} (hj : S.objs[j]? = some (.own r t)) :
    ∃ A c, σ[j]? = some (.slice A (den E.Δ ρ t).xs.length c) ∧ Rel E w0 (ρ ++ [.list (.slice A (den E.Δ ρ t).xs.length c) (E.Δ.row r).length (den E.Δ ρ t).xs]) σ (S.share j r) a w := by
  obtain ⟨L, hO, hM⟩ := h.mem
  obtain ⟨v, f, h1, h2, A, n, c, xs, rfl, h4, h5, h6, rfl⟩ := hO.get j _ hj
  subst h6
  refine ⟨A, c, by rw [h4.now]; exact h1, ?_⟩
  rw [h4.now]
  simp only [Dat.xs]
  generalize hd : (Dat.list (.slice A xs.length c) (E.Δ.row r).length xs) = d
  have hOw := hM.ow (List.mem_cons_of_mem _ (List.mem_of_getElem? h2))
  have hgood : Good w (AtL ρ) (.rows xs) := by
    have := den_good (Δ := E.Δ) (p := AtL ρ) (w := w) (fun d hd => ⟨h.ok d hd, fun k hk => ⟨d, hd, hk⟩⟩) t
    rwa [h4.now] at this
  have hok : OkD w d := by
    subst hd
    exact .list _ _ _ hOw.rd fun row hr e he => (hgood.rowsIn (d := .rows xs) hr he).1
  have hat : ∀ k, AtD d k → AtL ρ k ∨ blkOf (.slice A xs.length c) = some k := fun k hk => by
    subst hd
    cases hk with
    | here hr =>
      right
      cases A with
      | none => exact hr.elim
      | some ad =>
        obtain ⟨hn, rfl⟩ := hr
        obtain ⟨A', c', e, hc, _⟩ := hOw
        cases e
        simp only [blkOf]
        rw [if_pos (by omega)]
    | list hr he hk => exact .inl ((hgood.rowsIn (d := .rows xs) hr he).2 k hk)
  have hhas : Has E.Δ (.list r) d := by
    subst hd
    cases h5 with
    | rows _ _ a1 a2 => exact .list r A _ c xs a1 a2
  have hjL : j < L.length := (List.getElem?_eq_some_iff.1 h2).1
  have hM2 : Mem none w0 w (baseF E (ρ ++ [d]) :: L.set j deadF) := by
    refine hM.pick (fun i => if i = j then none else some i) ⟨⟨fun e he => ?_, h.globs⟩, baseFirm _ _⟩ rfl (fun k hk => ?_) (fun i f hf => ?_) (fun i i' q h1 h2 => ?_)
    · rcases List.mem_append.1 he with he | he
      · exact h.ok e he
      · rw [List.mem_singleton.1 he]; exact hok
    · rcases hk with hk | hk
      · rcases atL_append hk with hk | ⟨e, he, hk⟩
        · exact .inl (.inl hk)
        · rw [List.mem_singleton.1 he] at hk
          rcases hat k hk with hk | hk
          · exact .inl (.inl hk)
          · exact .inr ⟨j, _, h2, hk, fun i e => by split at e; cases e; cases e; omega⟩
      · exact .inl (.inr hk)
    · rw [List.getElem?_set] at hf
      by_cases e : j = i
      · rw [if_pos e, if_pos (by omega)] at hf; cases hf; exact .inl rfl
      · rw [if_neg e] at hf; exact .inr ⟨i, if_neg (by omega), hf⟩
    · split at h1
      · cases h1
      · split at h2
        · cases h2
        · cases h1; cases h2; rfl
  have hvar : CPR E (ρ ++ [d]) σ (.tm (.var S.n) (.list r)) (.slice A xs.length c) := by
    refine ⟨d, Den.var (by rw [h.n]; simp), hhas, ?_, rfl⟩
    subst hd; rfl
  have hO2 : ObsR E (ρ ++ [d]) σ ((S.objs.set j .dead).map (replO j (.tm (.var S.n) (.list r)))) (L.set j deadF) := by
    have h0 := (hO.more [d]).set (o := .dead) (f := deadF) h1 rfl
    refine ⟨by rw [List.length_map]; exact h0.l1, h0.l2, fun i o ho => ?_⟩
    rw [List.getElem?_map, Option.map_eq_some_iff] at ho
    obtain ⟨o', ho', rfl⟩ := ho
    obtain ⟨v', f', k1, k2, k3⟩ := h0.get i o' ho'
    refine ⟨v', f', k1, k2, ?_⟩
    cases o' with
    | blk cs ty =>
      obtain ⟨b, vs, e1, e2, e3⟩ := k3
      exact ⟨b, vs, e1, replCs_ok h1 hvar e2, e3⟩
    | own r t => exact k3
    | dead => exact k3
  refine ⟨?_, h.defers, by simp [St.share, h.n], fun x hx => (h.known x hx).more _, ⟨_, hO2, hM2⟩, h.pre.trans (List.prefix_append _ _), fun k hk => ?_⟩
  · refine All2.of (by simp [St.share, h.slots.length]) fun i x v hx hv => ?_
    simp only [St.share, List.getElem?_map, Option.map_eq_some_iff] at hx
    obtain ⟨x', hx', rfl⟩ := hx
    obtain ⟨v', k1, k2⟩ := h.slots.get hx'
    rw [hv] at k1; cases k1
    exact replA_ok h1 hvar (by simpa using k2.more [d] [])
  · rcases atL_append hk with hk | ⟨e, he, hk⟩
    · exact h.reach k hk
    · rw [List.mem_singleton.1 he] at hk
      rcases hat k hk with hk | hk
      · exact h.reach k hk
      · exact .inl (hOw.blk_lt k hk).1

theorem noBlk : ∀ u ∈ [Value.slice none 0 0], ∀ k, blkV u = some k → False := fun u hu k hk => by
  rw [List.mem_singleton.1 hu] at hk; cases hk
/-- one more slice of the call's own, that is nil -/
theorem Rel.addNilO (h : Rel E w0 ρ σ S a w) (e : Nat) : Rel E w0 ρ (σ ++ [.slice none 0 0]) { S with objs := S.objs ++ [.own e .emp] } a w :=
  h.new (x := .own e .emp) (v := .slice none 0 0) (f := .ow (E.Δ.row e).length (.slice none 0 0) 0 (flatV [])) (w' := w)
    (fun L hM => hM.addNil _) ⟨none, 0, 0, [], rfl, fun _ => rfl, .rows e [] (by simp) (by simp), rfl, rfl⟩
theorem Rel.slotNil (h : Rel E w0 ρ σ S a w) (t e : Nat) : ∃ x, (∀ u ∈ x, ∀ k, blkV u = some k → False) ∧ Rel E w0 ρ (σ ++ x) (S.slotNil t e) a w := by
  unfold St.slotNil
  split
  · rename_i ht
    obtain ⟨L, hO, _⟩ := h.mem
    have hr := h.addNilO e
    refine ⟨[.slice none 0 0], noBlk, ?_, hr.defers, hr.n, hr.known, hr.mem, hr.pre, hr.reach⟩
    refine All2.of (by rw [List.length_set]; exact hr.slots.length) fun i x v hx hv => ?_
    rw [List.getElem?_set] at hx
    split at hx
    · rename_i hi
      subst hi
      split at hx
      · cases hx
        obtain ⟨v', g1, g2⟩ := h.slots.get ht
        rw [hv] at g1
        cases g1
        have g2' : v = .slice none 0 0 := g2
        exact ⟨by rw [hO.l1, g2']; simp, none, 0, 0, g2'⟩
      · cases hx
    · obtain ⟨v', g1, g2⟩ := hr.slots.get hx
      rw [hv] at g1
      cases g1
      exact g2
  · exact ⟨[], (fun u hu => by cases hu), by rw [List.append_nil]; exact h⟩
theorem Rel.fixNil (h : Rel E w0 ρ σ S a w) (j c e : Nat) (own : Bool) : ∃ x, (∀ u ∈ x, ∀ k, blkV u = some k → False) ∧ Rel E w0 ρ (σ ++ x) (S.fixNil j c e own) a w := by
  unfold St.fixNil
  split
  · rename_i cs ty hj
    split
    · rename_i hc
      obtain ⟨L, hO, hM⟩ := h.mem
      obtain ⟨v, f, h1, h2, b, vs, rfl, h4, rfl⟩ := hO.get j _ hj
      obtain ⟨u, u1, u2⟩ := h4.get hc
      have u2' : u = .slice none 0 0 := u2
      have hset : ∀ {σ' : List Value} {y : C}, CR E ρ σ' y u → All2 (CR E ρ σ') cs vs → All2 (CR E ρ σ') (cs.set c y) vs := fun {σ' y} hy hcs => by
        have := hcs.set hy c
        rwa [show vs.set c u = vs from by
          apply List.ext_getElem?
          intro i
          rw [List.getElem?_set]
          split
          · rename_i e; subst e
            split
            · exact u1.symm
            · rename_i hlt
              rw [List.getElem?_eq_none (by omega)]
          · rfl] at this
      split
      · have hr := h.addNilO e
        obtain ⟨L', hO', hM'⟩ := hr.mem
        have hj' : (S.objs ++ [Ob.own e .emp])[j]? = some (.blk cs ty) := lt_get hj
        obtain ⟨v', f', k1, k2, b', vs', rfl, k4, rfl⟩ := hO'.get j _ hj'
        have hbv : (.pointer (some ⟨b', 0, none⟩) : Value) = .pointer (some ⟨b, 0, none⟩) := by
          have := lt_get (m := [Value.slice none 0 0]) h1
          rw [k1] at this
          exact Option.some.inj this
        obtain ⟨u', w1, w2⟩ := k4.get hc
        have w2' : u' = .slice none 0 0 := w2
        have hcr : CR E ρ (σ ++ [.slice none 0 0]) (.p (.own S.objs.length)) u' := ⟨by rw [hO.l1, w2']; simp, none, 0, 0, w2'⟩
        have hcs' : All2 (CR E ρ (σ ++ [.slice none 0 0])) (cs.set c (.p (.own S.objs.length))) vs' := by
          have := k4.set hcr c
          rwa [show vs'.set c u' = vs' from by
            apply List.ext_getElem?
            intro i
            rw [List.getElem?_set]
            split
            · rename_i e; subst e
              split
              · exact w1.symm
              · rename_i hlt
                rw [List.getElem?_eq_none (by omega)]
            · rfl] at this
        refine ⟨[.slice none 0 0], noBlk, hr.slots, hr.defers, hr.n, hr.known, ⟨L', ?_, hM'⟩, hr.pre, hr.reach⟩
        have := hO'.set (o := .blk (cs.set c (.p (.own S.objs.length))) ty) k1 (f := .row b' vs'.toArray ty) ⟨b', vs', rfl, hcs', rfl⟩
        have hLs : L'.set j (.row b' vs'.toArray ty) = L' := by
          apply List.ext_getElem?
          intro i
          rw [List.getElem?_set]
          split
          · rename_i e; subst e
            split
            · exact k2.symm
            · rename_i hlt
              rw [List.getElem?_eq_none (by omega)]
          · rfl
        rw [hLs] at this
        have hlt : j < S.objs.length := (List.getElem?_eq_some_iff.1 hj).1
        rwa [List.set_append_left _ _ hlt] at this
      · refine ⟨[], (fun u hu => by cases hu), ?_⟩
        rw [List.append_nil]
        have hcs' : All2 (CR E ρ σ) (cs.set c (.p (.tm (.nil e) (.list e)))) vs := hset ⟨dflt E.Δ (.list e), fun _ => rfl, dflt_has _ _, u2', rfl⟩ h4
        refine ⟨h.slots, h.defers, h.n, h.known, ⟨L, ?_, hM⟩, h.pre, h.reach⟩
        have := hO.set (o := .blk (cs.set c (.p (.tm (.nil e) (.list e)))) ty) h1 (f := .row b vs.toArray ty) ⟨b, vs, rfl, hcs', rfl⟩
        have hLs : L.set j (.row b vs.toArray ty) = L := by
          apply List.ext_getElem?
          intro i
          rw [List.getElem?_set]
          split
          · rename_i e; subst e
            split
            · exact h2.symm
            · rename_i hlt
              rw [List.getElem?_eq_none (by omega)]
          · rfl
        rwa [hLs] at this
    · exact ⟨[], (fun u hu => by cases hu), by rw [List.append_nil]; exact h⟩
  · exact ⟨[], (fun u hu => by cases hu), by rw [List.append_nil]; exact h⟩
def ResR (P : Program) (a : Act) (w : World) (v : Value) : ResultVar → Prop
  | .tmp t => a.tmps.getD t undef = v
  | .cell p t => (do loadVar t (← asAddr (a.tmps.getD p undef)) : Sem Value).run P w = .ok v w
theorem resOf_ok (hW : E.Wf) (h : Rel E w0 ρ σ S a w) {r : ResultVar} {x : A1} (hr : resOf E.cx S r = some x) : ∃ v, AR E ρ σ x v ∧ ResR E.P a w v r := by
  cases r with
  | tmp t =>
    simp only [resOf] at hr
    split at hr
    · rename_i y hy
      cases hr
      obtain ⟨v, h1, h2⟩ := slot_val h.slots hy
      exact ⟨v, h2, by show a.tmps.getD t undef = v; simp [h1]⟩
    · cases hr
  | cell p ty =>
    simp only [resOf] at hr
    split at hr
    · rename_i y hy
      cases hr
      rw [Option.bind_eq_some_iff] at hy
      obtain ⟨z, hz, hq⟩ := hy
      obtain ⟨v, h1, h2⟩ := slot_val h.slots hz
      obtain ⟨L, hO, hM⟩ := h.mem
      have hev : a.eval (.tmp p) = v := by simp [Act.eval, h1]
      obtain ⟨u, u1, u2⟩ := qLoad_ok (w0 := w0) (a := a) (o := ⟨none, .load ty (.tmp p), 0, "", #[], none⟩) hW hO h.pre rfl (by rw [hev]; exact h2) hq
      refine ⟨u, u1, ?_⟩
      have hrun := u2 w hM
      unfold execOp at hrun
      simp only [hev, Instr.loadAt, Sem.run_bind] at hrun
      have hp : a.tmps.getD p undef = v := by simp [h1]
      show (do loadVar ty (← asAddr (a.tmps.getD p undef)) : Sem Value).run E.P w = .ok u w
      rw [hp]
      unfold qLoad at hq
      simp only [Option.bind_eq_some_iff] at hq
      obtain ⟨⟨b, off, dyn⟩, hr, _⟩ := hq
      obtain ⟨A, p', q, _, _, k3⟩ := opdR_ok h2 hr
      rw [k3, pt_eq] at hrun ⊢
      simp only [Instr.sureAddr, Sem.run_pure, Result.andThen_ok] at hrun
      simp only [asAddr, Sem.run_bind, Sem.run_pure, Result.andThen_ok]
      cases hl : (loadVar ty ((A.getD ⟨0, 0, none⟩).add (p' + off + q))).run E.P w with
      | ok v' w2 =>
        rw [hl] at hrun
        simp only [Result.andThen_ok, Sem.run_pure, Result.ok.injEq, Next.value.injEq] at hrun
        rw [hrun.1, hrun.2]
      | halt x w2 => rw [hl] at hrun; simp [Result.andThen] at hrun
    · cases hr
theorem resAll_ok (hW : E.Wf) (h : Rel E w0 ρ σ S a w) : ∀ {l : List ResultVar} {xs : List A1}, resAll E.cx S l = some xs → ∃ vs, All2 (AR E ρ σ) xs vs ∧ All2 (fun v r => ResR E.P a w v r) vs l
  | [], xs, e => by cases e; exact ⟨[], .nil, .nil⟩
  | r :: l, xs, e => by
    simp only [resAll, List.map_cons] at e
    cases hr : resOf E.cx S r with
    | none => rw [hr] at e; cases e
    | some x =>
      rw [hr] at e
      simp only [allSome, Option.map_eq_some_iff] at e
      obtain ⟨ys, e1, rfl⟩ := e
      obtain ⟨v, h1, h2⟩ := resOf_ok hW h hr
      obtain ⟨vs, h3, h4⟩ := resAll_ok hW h (l := l) e1
      exact ⟨v :: vs, .cons h1 h3, .cons h2 h4⟩
def resS (a : Act) : ResultVar → Sem Value
  | .tmp t => pure (a.tmps.getD t undef)
  | .cell p t => do loadVar t (← asAddr (a.tmps.getD p undef))
theorem resS_ok {P : Program} {v : Value} {r : ResultVar} (h : ResR P a w v r) : (resS a r).run P w = .ok v w := by
  cases r with
  | tmp t => have h : a.tmps.getD t undef = v := h; subst h; rfl
  | cell p t => exact h
theorem run_mapM_res {P : Program} {a : Act} {w : World} : ∀ {vs : List Value} {l : List ResultVar}, All2 (fun v r => ResR P a w v r) vs l → Sem.run P (l.mapM (resS a)) w = .ok vs w
  | [], _, h => by cases h; simp
  | v :: vs, _, h => by
    cases h with
    | cons h1 h2 =>
    rename_i r l
    have ih := run_mapM_res h2
    simp only [List.mapM_cons, Sem.run_bind, resS_ok h1, Result.andThen_ok, ih]
    rfl
theorem results_eq (fn : Func) (a : Act) : results fn a.tmps = (do let vs ← fn.results.mapM (resS a); pure (if h : vs.size = 1 then vs[0] else .tuple vs)) := by
  unfold results
  congr 1
theorem run_results {P : Program} {a : Act} {w : World} {vs : List Value} {fn : Func} (h : All2 (fun v r => ResR P a w v r) vs fn.results.toList) : (results fn a.tmps).run P w = .ok (retV vs) w := by
  have h1 := run_mapM_res h
  rw [results_eq, ← Array.toArray_toList (xs := fn.results), List.mapM_toArray, Sem.run_bind]
  have h2 : Sem.run P (List.toArray <$> fn.results.toList.mapM (resS a)) w = .ok vs.toArray w := by
    rw [← bind_pure_comp, Sem.run_bind, h1]; rfl
  rw [h2]
  simp only [Result.andThen_ok, Sem.run_pure, Result.ok.injEq, and_true]
  cases vs with
  | nil => rfl
  | cons v vs =>
    cases vs with
    | nil => rfl
    | cons _ _ => rfl
theorem litD_ok (h : Rel E w0 ρ σ S a w) {on : Bool} {e : Nat} {ct : Tm} (hl : litD E.cx on S o = some (e, ct)) :
    ∃ A x w' u, (∀ k, blkV x = some k → w.heap.size ≤ k) ∧ Below w.heap.size w w' ∧ (execOp a.eval o).run E.P w = .ok (.value u) w' ∧
      Rel E w0 (ρ ++ [.list (.slice A (den E.Δ ρ ct).xs.length (den E.Δ ρ ct).xs.length) (E.Δ.row e).length (den E.Δ ρ ct).xs]) (σ ++ [x]) (litSt S o.dst e ct) (a.put o.dst u) w' := by
  unfold litD at hl
  split at hl
  case isFalse => cases hl
  split at hl
  case h_2 => cases hl
  rename_i t n parts ho
  split at hl
  case h_2 => cases hl
  rename_i e' hu
  simp only [Option.bind_eq_some_iff] at hl
  obtain ⟨ps, hps, ct', hct, hl⟩ := hl
  split at hl
  case isFalse => cases hl
  rename_i hc
  cases hl
  obtain ⟨w', b1, b2, b3, b4⟩ := build_ok h ho hu hps hct hc
  have hobj : S.objs.length = σ.length := by obtain ⟨L, hO, _⟩ := h.mem; exact hO.l1
  obtain ⟨A, c, s1, s2⟩ := b4.share (j := S.objs.length) (r := e) (t := ct) (by simp)
  rw [hobj, List.getElem?_append_right (Nat.le_refl _), Nat.sub_self] at s1
  simp only [List.getElem?_cons_zero, Option.some.injEq, Value.slice.injEq] at s1
  obtain ⟨_, s3, s4⟩ := s1
  have s5 : c = (den E.Δ ρ ct).xs.length := by omega
  rw [s5] at s2
  exact ⟨A, _, w', _, b3, b1, b2, s2⟩
theorem run_append_full {P : Program} {t ty e : TypeId} {i : TypeInfo} {z : Value} (bytes : Nat) (ht : P.underlying t = some (.slice e)) (hi : P.info? e = some i) (hz : i.zero = some z) {sz : Nat}
    (hsize : i.size = sz) (hby : i.bytes = bytes) (hzs : z.cells.size = sz) {A : Option Addr} {n m : Nat} {xs news : List Value} {x : Value} (hs : Rd w sz (.slice A n n) n xs) (hr : Rd w sz x m news)
    (h63 : n + m ≤ maxLen) (hbytes : (n + m) * bytes ≤ 140737488355328) (hm : 1 ≤ m) :
    ∃ v' w', (Builtin.append_ #[t, t] ty #[.slice A n n, x]).run P w = .ok v' w' ∧ Ow w' w.heap.size sz v' (n + m) (xs ++ news) ∧ Below w.heap.size w w' := by
  subst hsize hby
  obtain ⟨A0, c0, e0, hc, hl, ha⟩ := hs
  cases e0
  obtain ⟨A', c', rfl, hc', hl', ha'⟩ := hr
  have hlen : (xs ++ news).length = (n + m) * i.size := by rw [List.length_append, hl, hl', Nat.add_mul]
  obtain ⟨a, rfl, hab, hnews⟩ := ha' (by omega)
  have h63' : ((n + m : Nat) : Int) ≤ 9223372036854775807 := by simp only [maxLen] at h63; omega
  have hrun := append_grow_any t ty e i z ht hi hz w A n n xs hl ha a m c' news hl' hnews (fun hn => by
    subst hn
    apply Classical.byContradiction
    intro h
    obtain ⟨ad, e1, _⟩ := ha (by omega)
    cases e1) (by omega) h63' (growslice_fits (by omega) hbytes)
  have hge := grownCap_ge w (n + m) n e
  have hsz : ∀ q : Nat, (xs.toArray ++ news.toArray ++ Builtin.zeroCells z.cells (q - (n + m))).size = (n + m) * i.size + (q - (n + m)) * i.size := fun q => by
    simp only [Array.size_append, List.size_toArray, size_zeroCells, hzs, hl, hl', Nat.add_mul]
  generalize grownCap w (n + m) n e = q at *
  refine ⟨_, _, hrun, ⟨some ⟨w.heap.size, 0, none⟩, q, rfl, hge, hlen, fun _ => ⟨⟨w.heap.size, 0, none⟩, rfl, by simp, ?_⟩, fun _ => ⟨w.heap.size, 0, rfl, Nat.le_refl _, by simp, fun j hj => ?_⟩⟩, ⟨rfl, rfl, rfl, by simp, fun k hk => (Below.heap_alloc w.drew _ k hk)⟩⟩
  · intro j u hu
    rw [Addr.add_lit, Nat.zero_add]
    have h := World.cell?_alloc_new (w := w.drew) (xs.toArray ++ news.toArray ++ Builtin.zeroCells z.cells (q - (n + m))) e j
    rw [World.size_drew] at h
    rw [h, Array.getElem?_append_left (by
      have := (List.getElem?_eq_some_iff.1 hu).1
      simpa using this)]
    simpa using hu
  · rw [Nat.zero_add]
    have h := World.cell?_alloc_new (w := w.drew) (xs.toArray ++ news.toArray ++ Builtin.zeroCells z.cells (q - (n + m))) e j
    have h' := World.frozen?_alloc_new (w := w.drew) (xs.toArray ++ news.toArray ++ Builtin.zeroCells z.cells (q - (n + m))) e j
    rw [World.size_drew] at h h'
    refine ⟨?_, h'⟩
    rw [h]
    have hjl : j < (xs.toArray ++ news.toArray ++ Builtin.zeroCells z.cells (q - (n + m))).size := by
      rw [hsz, ← Nat.add_mul, Nat.add_sub_cancel' hge]; exact hj
    rw [Array.getElem?_eq_getElem hjl]; rfl
theorem evalA_ok {obs : List Tm} (h : Rel E w0 ρ σ S a w) (he : evalA E.cx S o = some (S', obs)) (hob : obsOk E.Δ ρ obs) : ∃ v w' u, (∀ x ∈ v, ∀ k, blkV x = some k → w.heap.size ≤ k) ∧ Below w.heap.size w w' ∧ (execOp a.eval o).run E.P w = .ok (.value u) w' ∧ Rel E w0 ρ (σ ++ v) S' (a.put o.dst u) w' := by
  unfold evalA at he
  split at he
  case h_2 => cases he
  rename_i c ho
  obtain ⟨cal, args, tys⟩ := c
  split at he
  case h_2 => cases he
  rename_i x y t t' g1 g2 g3
  simp only at g1 g2 g3
  have g2' : args = #[x, y] := by rw [← Array.toArray_toList (xs := args), g2]
  have g3' : tys = #[t, t'] := by rw [← Array.toArray_toList (xs := tys), g3]
  subst g1 g2' g3'
  split at he
  case h_2 => cases he
  rename_i e hu
  split at he
  case isFalse => cases he
  rename_i htt
  subst htt
  split at he
  case h_2 => cases he
  rename_i u r r' u' hx cy
  split at he
  case isFalse => cases he
  rename_i hrr
  subst hrr
  split at he
  case h_2 => cases he
  rename_i i hi
  split at he
  case isFalse => cases he
  rename_i hsz
  obtain ⟨z1, z2, z3⟩ := hsz
  cases he
  obtain ⟨L, hO, hM⟩ := h.mem
  have hxv := opd_ok h.slots x
  have hyv := opd_ok h.slots y
  rw [hx] at hxv
  obtain ⟨d, d1, d2, d3, _⟩ := hxv
  obtain ⟨ys, y1, y2, y3⟩ := contentOf_ok h hO hM hyv cy
  have hok := h.ok_den u
  rw [d1.now] at hok
  cases d2 with
  | list _ A n cc xs a1 a2 =>
  have o1 := hob (.cmp .eq (.cap u) (.len u)) (by simp)
  have o2 := hob (.cmp .ge (.len u') (.int .i64 1)) (by simp)
  have o3 := hob (.cmp .le (.len (.app (.app .emp u) u')) (.int .i64 (140737488355328 / max 1 i.bytes : Nat))) (by simp)
  have e3 := y1 []
  simp only [List.append_nil] at e3
  have hx1 : (den E.Δ ρ u).xs = xs := by rw [d1.now]; rfl
  have hx2 : capD (den E.Δ ρ u) = cc := by rw [d1.now]; rfl
  have hx3 : ∀ l, (Dat.rows l).xs = l := fun _ => rfl
  simp only [den, hx1, hx2, hx3, e3, Dat.toInt, Cmp.of, Dat.bool.injEq, decide_eq_true_eq, beq_iff_eq, List.length_append, List.nil_append] at o1 o2 o3
  cases hok with
  | list _ _ _ hrd _ =>
  have hn : n = xs.length := by
    obtain ⟨A', c', e', _⟩ := hrd
    cases e'; rfl
  subst hn
  have hcc : cc = xs.length := by omega
  subst hcc
  have hbound : (xs.length + ys.length : Nat) ≤ 140737488355328 / max 1 i.bytes := by exact_mod_cast o3
  have hb1 : (xs.length + ys.length) * max 1 i.bytes ≤ 140737488355328 := by
    have := Nat.mul_le_mul_right (max 1 i.bytes) hbound
    exact Nat.le_trans this (Nat.div_mul_le_self _ _)
  have hb2 : (xs.length + ys.length) * i.bytes ≤ 140737488355328 := Nat.le_trans (Nat.mul_le_mul_left _ (Nat.le_max_right 1 i.bytes)) hb1
  have hb3 : xs.length + ys.length ≤ maxLen := by
    have : xs.length + ys.length ≤ (xs.length + ys.length) * max 1 i.bytes := Nat.le_mul_of_pos_right _ (Nat.lt_of_lt_of_le Nat.one_pos (Nat.le_max_left _ _))
    unfold maxLen; omega
  cases hz : i.zero with
  | none => rw [hz] at z2; cases z2
  | some z =>
  have z2' : z.cells.size = (E.Δ.row r).length := by rw [hz] at z2; simp only [Option.map_some, Option.some.injEq] at z2; rw [z2, z1]; rfl
  obtain ⟨v', w', hrun, hs', hb⟩ := run_append_full (P := E.P) (t := t) (ty := o.type) i.bytes hu hi hz z1 rfl z2' hrd y3 hb3 hb2 (by omega)
  have hs2 := hs'
  obtain ⟨A', c', rfl, _⟩ := hs2
  refine ⟨[.slice A' (xs.length + ys.length) c'], w', .slice A' (xs.length + ys.length) c', fun x hx k hk => ?_, hb, ?_, ?_⟩
  · rw [List.mem_singleton.1 hx] at hk
    exact (hs'.blk_lt k hk).1
  · have d3' : a.eval x = .slice A xs.length xs.length := d3
    unfold execOp
    simp only [ho, resolve, invoke, builtin, Sem.run_bind, Sem.run_pure, Result.andThen_ok, List.map_toArray, List.map_cons, List.map_nil, d3', hrun]
  · refine h.newOwn (xs := xs ++ ys) hb (by rw [flatV_append]; exact hs') (fun e => ?_) ?_ (by simp) o.dst
    · have hx4 : (den E.Δ (ρ ++ e) u).xs = xs := by rw [d1 e]; rfl
      simp only [den, hx4, hx3, y1 e, List.nil_append]
    · cases y2 with
      | rows _ _ b1 b2 =>
      exact .rows r _ (fun row hr => by rcases List.mem_append.1 hr with hr | hr; exact a1 row hr; exact b1 row hr) (fun row hr => by rcases List.mem_append.1 hr with hr | hr; exact a2 row hr; exact b2 row hr)
theorem All2.dropA {α β : Type} {R : α → β → Prop} : ∀ {l : List α} {m : List β} (k : Nat), All2 R l m → All2 R (l.drop k) (m.drop k)
  | _, _, 0, h => h
  | _, _, k + 1, .nil => .nil
  | _, _, k + 1, .cons _ t => t.dropA k
theorem All2.takeA {α β : Type} {R : α → β → Prop} : ∀ {l : List α} {m : List β} (k : Nat), All2 R l m → All2 R (l.take k) (m.take k)
  | _, _, 0, _ => by rw [List.take_zero, List.take_zero]; exact .nil
  | _, _, k + 1, .nil => .nil
  | _, _, k + 1, .cons h t => .cons h (t.takeA k)
def idxV : Nat → List Value → List (Nat × Value)
  | _, [] => []
  | k, v :: l => (k, v) :: idxV (k + 1) l
theorem idx_ok : ∀ {cs : List C} {vs : List Value} (k : Nat), All2 (CR E ρ σ) cs vs → cs.all C.one = true → All2 (fun (p : Nat × List C) (q : Nat × Value) => p.1 = q.1 ∧ All2 (CR E ρ σ) p.2 q.2.cells.toList) (idxC k cs) (idxV k vs) ∧ (idxV k vs).map (·.2) = vs ∧ (∀ v ∈ vs, v.oneCell' = true) ∧ (idxC k cs).length = cs.length
  | [], _, k, .nil, _ => ⟨.nil, rfl, by simp, rfl⟩
  | c :: cs, v :: _, k, .cons h t, h1 => by
    rw [List.all_cons, Bool.and_eq_true] at h1
    obtain ⟨g1, g2, g3, g4⟩ := idx_ok (k + 1) t h1.2
    have hv := CR.oneCell h h1.1
    refine ⟨.cons ⟨rfl, ?_⟩ g1, by show v :: _ = _; rw [g2], fun u hu => ?_, by show _ + 1 = _ + 1; rw [g4]⟩
    · show All2 _ [c] v.cells.toList
      rw [cells_of_one hv]
      exact .cons h .nil
    · rcases List.mem_cons.1 hu with rfl | hu
      · exact hv
      · exact g3 u hu
theorem flat_one : ∀ {vs : List Value}, (∀ v ∈ vs, v.oneCell' = true) → vs.flatMap (fun v => v.cells.toList) = vs
  | [], _ => rfl
  | v :: vs, h => by
    rw [List.flatMap_cons, cells_of_one (h v (List.mem_cons_self ..)), flat_one fun u hu => h u (List.mem_cons_of_mem _ hu)]; rfl
theorem Rel.shareB (h : Rel E w0 ρ σ S a w) {t j off n r ty : Nat} {cs : List C} {ct : Tm} (ht : S.slots[t]? = some (.v (.c (.p (.sb (.ob j) off [] n))))) (hj : S.objs[j]? = some (.blk cs ty))
    (hn : ((cs.drop off).take n).length = n) (hone : ((cs.drop off).take n).all C.one = true) (hr1 : (E.Δ.row r).length = 1) (hct : rowsTm (E.Δ.row r) 0 .emp (idxC 0 ((cs.drop off).take n)) = some ct) :
    ∃ A c, Rel E w0 (ρ ++ [.list (.slice A (den E.Δ ρ ct).xs.length c) (E.Δ.row r).length (den E.Δ ρ ct).xs]) σ (S.shareB t j r) a w := by
  obtain ⟨L, hO, hM⟩ := h.mem
  obtain ⟨v, f, h1, h2, b, vs, rfl, h4, rfl⟩ := hO.get j _ hj
  obtain ⟨v', k1, k2⟩ := h.slots.get ht
  obtain ⟨A0, p, q, m, ⟨b', hb', hA0, hp⟩, hq, hnm, hv'⟩ := k2
  rw [h1] at hb'
  cases hb'
  have hq : q = 0 := hq
  subst hA0 hp hq
  have h5 : All2 (CR E ρ σ) ((cs.drop off).take n) ((vs.drop off).take n) := (h4.dropA off).takeA n
  obtain ⟨g1, g2, g3, g4⟩ := idx_ok 0 h5 hone
  obtain ⟨ys, y1, y2, y3, y4, _, _⟩ := rowsTm_ok g1 (fun e => rfl) hct
  rw [g2, flat_one g3] at y4
  rw [List.nil_append] at y1
  rw [g4, hn] at y3
  rw [y1.now]
  simp only [Dat.xs]
  have hv2 : v' = .slice (some ⟨b, off, none⟩) ys.length m := by
    rw [hv', y3]
    simp only [Option.getD_some, Nat.zero_add, Nat.add_zero, Addr.add_lit]
  have hvs : ((vs.drop off).take n).length = n := by
    have := h5.length
    omega
  have hrow : Row w b vs.toArray ty := hM.holds _ (List.mem_cons_of_mem _ (List.mem_of_getElem? h2))
  have hcell : ∀ i u, ((vs.drop off).take n)[i]? = some u → w.cell? ⟨b, off + i, none⟩ = some u := fun i u hu => by
    refine Row.cell hrow ?_
    rw [List.getElem?_take] at hu
    split at hu
    · rw [List.getElem?_drop] at hu
      simpa using hu
    · cases hu
  generalize hd : (Dat.list (.slice (some ⟨b, off, none⟩) ys.length m) (E.Δ.row r).length ys) = d
  refine ⟨some ⟨b, off, none⟩, m, ?_⟩
  rw [hd]
  have hgood : Good w (AtL ρ) (.rows ys) := by
    have := den_good (Δ := E.Δ) (p := AtL ρ) (w := w) (fun d hd => ⟨h.ok d hd, fun k hk => ⟨d, hd, hk⟩⟩) ct
    rwa [y1.now] at this
  have hrd : Rd w (E.Δ.row r).length (.slice (some ⟨b, off, none⟩) ys.length m) ys.length (flatV ys) := by
    refine ⟨_, _, rfl, by omega, ?_, fun hpos => ⟨_, rfl, hrow.lt, fun i u hu => ?_⟩⟩
    · rw [y4, hvs, hr1, y3]; omega
    · rw [y4] at hu
      rw [Addr.add_lit]
      exact hcell i u hu
  have hok : OkD w d := by
    subst hd
    exact .list _ _ _ hrd fun row hr e he => (hgood.rowsIn (d := .rows ys) hr he).1
  have hat : ∀ k, AtD d k → AtL ρ k ∨ k = b := fun k hk => by
    subst hd
    cases hk with
    | here hr => exact .inr hr.2
    | list hr he hk => exact .inl ((hgood.rowsIn (d := .rows ys) hr he).2 k hk)
  have hhas : Has E.Δ (.list r) d := by
    subst hd
    exact .list r _ _ _ ys (fun row hrow => (y2 row hrow).1) (fun row hrow c s e hs he => (y2 row hrow).2 c s e hs he)
  have hvar : CPR E (ρ ++ [d]) σ (.tm (.var S.n) (.list r)) v' := by
    refine ⟨d, Den.var (by rw [h.n]; simp), hhas, ?_, rfl⟩
    subst hd; exact hv2
  have hjL : j < L.length := (List.getElem?_eq_some_iff.1 h2).1
  have hM2 : Mem none w0 w (baseF E (ρ ++ [d]) :: L.set j deadF) := by
    refine hM.pick (fun i => if i = j then none else some i) ⟨⟨fun e he => ?_, h.globs⟩, baseFirm _ _⟩ rfl (fun k hk => ?_) (fun i f hf => ?_) (fun i i' q h1 h2 => ?_)
    · rcases List.mem_append.1 he with he | he
      · exact h.ok e he
      · rw [List.mem_singleton.1 he]; exact hok
    · rcases hk with hk | hk
      · rcases atL_append hk with hk | ⟨e, he, hk⟩
        · exact .inl (.inl hk)
        · rw [List.mem_singleton.1 he] at hk
          rcases hat k hk with hk | hk
          · exact .inl (.inl hk)
          · exact .inr ⟨j, _, h2, hk, fun i e => by split at e; cases e; cases e; omega⟩
      · exact .inl (.inr hk)
    · rw [List.getElem?_set] at hf
      by_cases e : j = i
      · rw [if_pos e, if_pos (by omega)] at hf; cases hf; exact .inl rfl
      · rw [if_neg e] at hf; exact .inr ⟨i, if_neg (by omega), hf⟩
    · split at h1
      · cases h1
      · split at h2
        · cases h2
        · cases h1; cases h2; rfl
  have hO2 : ObsR E (ρ ++ [d]) σ (S.objs.set j .dead) (L.set j deadF) := (hO.more [d]).set (o := .dead) (f := deadF) h1 rfl
  refine ⟨?_, h.defers, by simp [St.shareB, h.n], fun x hx => (h.known x hx).more _, ⟨_, hO2, hM2⟩, h.pre.trans (List.prefix_append _ _), fun k hk => ?_⟩
  · refine All2.of (by simp [St.shareB, h.slots.length]) fun i x v hx hv => ?_
    simp only [St.shareB, List.getElem?_set] at hx
    split at hx
    · rename_i e
      subst e
      split at hx
      · cases hx
        rw [k1] at hv
        cases hv
        exact hvar
      · cases hx
    · obtain ⟨v', l1, l2⟩ := h.slots.get hx
      rw [hv] at l1; cases l1
      simpa using l2.more [d] []
  · rcases atL_append hk with hk | ⟨e, he, hk⟩
    · exact h.reach k hk
    · rw [List.mem_singleton.1 he] at hk
      rcases hat k hk with hk | hk
      · exact h.reach k hk
      · subst hk
        rcases hM.own _ (List.mem_cons_of_mem _ (List.mem_of_getElem? h2)) rfl k rfl with hk | hk
        · exact .inl hk
        · cases hk
theorem blkD_share (h : Rel E w0 ρ σ S a w) {on : Bool} {sgs : Nat → Option Sig} {t j r : Nat} {ct : Tm} (hb : blkD E.cx on S sgs o = some (t, j, r, ct)) :
    ∃ A c, Rel E w0 (ρ ++ [.list (.slice A (den E.Δ ρ ct).xs.length c) (E.Δ.row r).length (den E.Δ ρ ct).xs]) σ (S.shareB t j r) a w := by
  have key : ∀ q, blkTm E.cx S q = some (t, j, r, ct) → ∃ A c, Rel E w0 (ρ ++ [.list (.slice A (den E.Δ ρ ct).xs.length c) (E.Δ.row r).length (den E.Δ ρ ct).xs]) σ (S.shareB t j r) a w := fun q hq => by
    unfold blkTm at hq
    split at hq
    · rename_i h1 h2
      split at hq
      · rename_i hc
        obtain ⟨c1, c2, c3, c4⟩ := hc
        rw [Option.map_eq_some_iff] at hq
        obtain ⟨ct', hct, e⟩ := hq
        cases e
        rw [c1] at h1
        exact h.shareB h1 h2 c2 c3 c4 hct
      · cases hq
    · cases hq
  unfold blkD at hb
  split at hb
  · split at hb
    · split at hb
      · split at hb
        · rw [Option.bind_eq_some_iff] at hb
          obtain ⟨q, _, hq⟩ := hb
          exact key q hq
        · cases hb
      · cases hb
    · cases hb
  · cases hb
end
end Go.Proofs.YtigdoooikfgdfaaDoor
end

section
namespace Go.Proofs.YtigdoooikfgdfaaDoor
open Go.RowKit
set_option linter.unusedVariables false
section
variable {E : Env} {w0 w w' : World} {ρ ρ' : List Dat} {σ σ' σ0 : List Value} {S S' : St} {a : Act} {L : List Fact} {o : Oper}
theorem bodyOf_ok {P : Program} {f : Nat} {fn : Func} {c : Code} (h : bodyOf P f = some (fn, c)) : P.funcs[f]? = some fn ∧ fn.body = some c ∧ (fn.name == "runtime.NumGoroutine") = false := by
  unfold bodyOf at h
  split at h
  · rename_i fn' hf
    split at h
    · rename_i c' hc
      split at h
      · cases h
      · rename_i hn
        cases h
        exact ⟨hf, hc, by simpa using hn⟩
    · cases h
  · cases h
theorem opdL_ok (h : Rel E w0 ρ σ S a w) : ∀ l : List Operand, All2 (VR E ρ σ) (l.map (opd S.slots)) (l.map a.eval)
  | [] => .nil
  | x :: l => .cons (opd_ok h.slots x) (opdL_ok h l)
theorem callee_ok (h : Rel E w0 ρ σ S a w) {f : Nat} {caps : List CP} {args : List AV} (hc : callee S o = some (f, caps, args)) {fn : Func} {c : Code} (hb : bodyOf E.P f = some (fn, c)) :
    ∃ vs, All2 (VR E ρ σ) (args ++ caps.map fun x => .v (.c (.p x))) vs ∧ vs.length = args.length + caps.length ∧ ∀ w, (execOp a.eval o).run E.P w = .ok (.enter f vs.toArray) w := by
  obtain ⟨b1, b2, b3⟩ := bodyOf_ok hb
  unfold callee at hc
  split at hc
  · rename_i c ho
    split at hc
    · rename_i fo hcal
      split at hc
      · rename_i f' caps' hf
        cases hc
        have hfv := opd_ok h.slots fo
        rw [hf] at hfv
        obtain ⟨us, u1, u2⟩ := hfv
        have ha := opdL_ok h c.args.toList
        have hcp : All2 (VR E ρ σ) (caps.map fun x => AV.v (.c (.p x))) us := by
          clear u2 hf
          induction u1 with
          | nil => exact .nil
          | cons h _ ih => exact .cons h ih
        refine ⟨c.args.toList.map a.eval ++ us, ha.append hcp, ?_, fun w => ?_⟩
        · have := hcp.length
          simp at this ⊢; omega
        · unfold execOp
          simp only [ho, resolve, hcal, u2, Deferred.ofValue, Sem.run_bind, Sem.run_pure, Result.andThen_ok, invoke, callFunc, run_program, b1, b3, b2, Option.isNone_some, Bool.false_eq_true, if_false]
          congr 2
          apply Array.ext'
          simp
      · cases hc
    · cases hc
  · cases hc

theorem mkIteB_ok {t p q : Tm} {b : Bool} (ht : den E.Δ ρ t = .bool b) {d : Bool} (hd : den E.Δ ρ (if b then p else q) = .bool d) : den E.Δ ρ (mkIteB t p q) = .bool d := by
  unfold mkIteB
  split
  · have : b = true := by simpa [den] using ht.symm
    subst this; exact hd
  · have : b = false := by simpa [den] using ht.symm
    subst this; exact hd
  · split
    · rename_i e
      subst e
      cases b <;> exact hd
    · split
      · cases b <;> simp_all [den, mkNot_den, Dat.toBool]
      · cases b <;> simp_all [den, mkNot_den, Dat.toBool]
      · split
        · rename_i e
          subst e
          cases b <;> simp_all [den, mkNot_den, Dat.toBool]
        · split
          · rename_i e
            subst e
            cases b <;> simp_all [den, mkNot_den, Dat.toBool]
          · split <;> cases b <;> simp_all [den, mkNot_den, Dat.toBool]
theorem Den.ext {Δ : Tab} {t u : Tm} {d : Dat} (h : ∀ e, den Δ (ρ ++ e) t = d → den Δ (ρ ++ e) u = d) (hd : Den Δ ρ t d) : Den Δ ρ u d := fun e => h e (hd e)
theorem mrgC_ok {t : Tm} {b : Bool} (ht : Den E.Δ ρ t (.bool b)) {x y : C} {v : Value} (h : CR E ρ σ (if b then x else y) v) : CR E ρ σ (mrgC t x y) v := by
  unfold mrgC
  split
  · rename_i e
    subst e
    cases b <;> exact h
  · split
    · rename_i p s q s' hne
      split
      case isFalse => trivial
      rename_i hs
      subst hs
      have h' : CR E ρ σ (.p (.tm (if b then p else q) s)) v := by cases b <;> exact h
      obtain ⟨d, h1, h2, h3, h4⟩ := h'
      refine ⟨d, fun e => ?_, h2, h3, h4⟩
      split
      · rename_i hb
        subst hb
        cases h2 with
        | bool c => exact mkIteB_ok (ρ := ρ ++ e) (ht e) (h1 e)
      · rw [mkIte_den (q := b) _ _ (ht e), ← h1 e]
        cases b <;> rfl
    · trivial
theorem zipL_ok {α β : Type} {R : α → β → Prop} {f : α → α → α} {b : Bool} (hf : ∀ x y v, R (if b then x else y) v → R (f x y) v) : ∀ {l m r : List α} {vs : List β}, zipL f l m = some r → All2 R (if b then l else m) vs → All2 R r vs
  | [], [], r, vs, e, h => by
    cases e
    cases b <;> exact h
  | x :: l, y :: m, r, vs, e, h => by
    simp only [zipL, Option.map_eq_some_iff] at e
    obtain ⟨r', e1, rfl⟩ := e
    cases b with
    | true =>
      cases h with
      | cons h t => exact .cons (hf x y _ h) (zipL_ok (b := true) hf e1 t)
    | false =>
      cases h with
      | cons h t => exact .cons (hf x y _ h) (zipL_ok (b := false) hf e1 t)
theorem mrgA1_ok {t : Tm} {b : Bool} (ht : Den E.Δ ρ t (.bool b)) {x y : A1} {v : Value} (h : AR E ρ σ (if b then x else y) v) : AR E ρ σ (mrgA1 t x y) v := by
  unfold mrgA1
  split
  · rename_i x y
    refine mrgC_ok ht ?_
    cases b <;> exact h
  · rename_i l m
    split
    · rename_i r hr
      have h' : AR E ρ σ (.agg (if b then l else m)) v := by cases b <;> exact h
      obtain ⟨vs, h1, h2⟩ := h'
      exact ⟨vs, zipL_ok (b := b) (fun x y v h => mrgC_ok ht h) hr h1, h2⟩
    · trivial
  · trivial
theorem mrgA_ok {t : Tm} {b : Bool} (ht : Den E.Δ ρ t (.bool b)) {x y : AV} {v : Value} (h : VR E ρ σ (if b then x else y) v) : VR E ρ σ (mrgA t x y) v := by
  unfold mrgA
  split
  · rename_i x y
    refine mrgA1_ok ht ?_
    cases b <;> exact h
  · split
    · rename_i e
      subst e
      cases b <;> exact h
    · trivial
theorem mrgO_ok {t : Tm} {b : Bool} (ht : Den E.Δ ρ t (.bool b)) {x y r : Ob} (e : mrgO t x y = some r) {v : Value} {f : Fact} (h : ObR E ρ σ (if b then x else y) v f) : ObR E ρ σ r v f := by
  unfold mrgO at e
  split at e
  · rename_i hxy
    cases e
    subst hxy
    cases b <;> exact h
  split at e
  · rename_i cs ty cs' ty' _
    split at e
    case isFalse => cases e
    rename_i hty
    subst hty
    rw [Option.map_eq_some_iff] at e
    obtain ⟨l, hl, rfl⟩ := e
    have h' : ObR E ρ σ (.blk (if b then cs else cs') ty) v f := by cases b <;> exact h
    obtain ⟨bk, vs, h1, h2, h3⟩ := h'
    exact ⟨bk, vs, h1, zipL_ok (b := b) (fun x y v h => mrgC_ok ht h) hl h2, h3⟩
  · cases e
theorem mrgOs_get {t : Tm} : ∀ {l m r : List Ob}, mrgOs t l m = some r → r.length = l.length ∧ m.length = l.length ∧ ∀ (j : Nat) z, r[j]? = some z → ∃ x y, l[j]? = some x ∧ m[j]? = some y ∧ mrgO t x y = some z
  | [], [], r, e => by cases e; exact ⟨rfl, rfl, fun j z h => by cases h⟩
  | x :: l, y :: m, r, e => by
    simp only [mrgOs, Option.bind_eq_some_iff, Option.map_eq_some_iff] at e
    obtain ⟨z, e1, r', e2, rfl⟩ := e
    obtain ⟨h1, h2, h3⟩ := mrgOs_get e2
    refine ⟨by simp [h1], by simp [h2], fun j z' h => ?_⟩
    cases j with
    | zero => cases h; exact ⟨x, y, rfl, rfl, e1⟩
    | succ j => exact h3 j z' (by simpa using h)
theorem mrgOs_ok {t : Tm} {b : Bool} (ht : Den E.Δ ρ t (.bool b)) {l m r : List Ob} (e : mrgOs t l m = some r) (h : ObsR E ρ σ (if b then l else m) L) : ObsR E ρ σ r L := by
  obtain ⟨h1, h2, h3⟩ := mrgOs_get e
  have hl : (if b then l else m).length = r.length := by cases b <;> simp [h1, h2]
  refine ⟨by rw [← hl]; exact h.l1, h.l2, fun j z hz => ?_⟩
  obtain ⟨x, y, hx, hy, hm⟩ := h3 j z hz
  have hg : (if b then l else m)[j]? = some (if b then x else y) := by cases b <;> simp [hx, hy]
  obtain ⟨v, f, f1, f2, f3⟩ := h.get j _ hg
  exact ⟨v, f, f1, f2, mrgO_ok ht hm f3⟩
theorem mrgS_ok {t : Tm} {b : Bool} (ht : Den E.Δ ρ t (.bool b)) {S Sa Sb S' : St} (e : mrgS t S Sa Sb = some S') (hk : ∀ x ∈ S.known, Den E.Δ ρ x.1 (.bool x.2)) (h : Rel E w0 ρ σ (if b then Sa else Sb) a w) : Rel E w0 ρ σ S' a w := by
  unfold mrgS at e
  split at e
  case isFalse => cases e
  rename_i hn
  simp only [Option.bind_eq_some_iff, Option.map_eq_some_iff] at e
  obtain ⟨sl, e1, os, e2, rfl⟩ := e
  refine ⟨?_, h.defers, ?_, hk, ?_, h.pre, h.reach⟩
  · refine zipL_ok (b := b) (fun x y v h => mrgA_ok ht h) e1 ?_
    have := h.slots
    cases b <;> exact this
  · have := h.n
    cases b
    · rw [← this]; exact hn.2.symm
    · rw [← this]; exact hn.1.symm
  · obtain ⟨L, hO, hM⟩ := h.mem
    refine ⟨L, mrgOs_ok (b := b) ht e2 ?_, hM⟩
    cases b <;> exact hO
theorem toBool_true {d : Dat} (h : d.toBool = true) : d = .bool true := by
  cases d <;> first | (cases h; done) | (rename_i b; cases b; cases h; rfl)
theorem imp_ok {t : Tm} (ht : den E.Δ ρ t = .bool false) : ∀ {obs : List Tm}, obsOk E.Δ ρ (imp t obs) → obsOk E.Δ ρ obs
  | [], h => fun o ho => by cases ho
  | o :: l, h => fun u hu => by
    unfold imp at h
    split at h
    · rename_i e; cases e
    · rename_i l' e
      cases e
      rcases List.mem_cons.1 hu with rfl | hu
      · rfl
      · exact imp_ok ht h u hu
    · rename_i o' l' _ e
      cases e
      rcases List.mem_cons.1 hu with rfl | hu
      · have := h (.or t u) (by simp)
        simp only [den, ht, Dat.toBool, Bool.false_or, Dat.bool.injEq] at this
        exact toBool_true this
      · exact imp_ok ht (fun v hv => h v (by simp [hv])) u hu
theorem obsOk_app {Δ : Tab} {a b : List Tm} (h : obsOk Δ ρ (a ++ b)) : obsOk Δ ρ a ∧ obsOk Δ ρ b := ⟨fun t ht => h t (List.mem_append_left _ ht), fun t ht => h t (List.mem_append_right _ ht)⟩

/-- codes one behind the other -/
def wpCodes (P : Program) : List Code → (Exit → Act → World → Prop) → Act → World → Prop
  | [], Q => Q .normal
  | c :: k, Q => c.wp P (Exit.then (wpCodes P k Q) Q)
/-- what a body answers -/
def Returns (E : Env) (w0 : World) (ρ : List Dat) (σ : List Value) (S : St) (codes : List Code) (res : List ResultVar) (xs : List A1) (a : Act) (w : World) : Prop :=
  wpCodes E.P codes (fun e a' w' => (e = .ret ∨ e = .normal) ∧ ∃ S1, S1.objs = S.objs ∧ S1.n = S.n ∧ Rel E w0 ρ σ S1 a' w' ∧ Below w.heap.size w w' ∧ ∃ vs, All2 (AR E ρ σ) xs vs ∧ All2 (fun v r => ResR E.P a' w' v r) vs res) a w
def GoodF (E : Env) (F : St → List Code → List ResultVar → Option (List A1 × List Tm)) : Prop :=
  ∀ (w0 : World) (ρ : List Dat) (σ : List Value) (S : St) (codes : List Code) (res : List ResultVar) (xs : List A1) (obs : List Tm) (a : Act) (w : World), F S codes res = some (xs, obs) → Rel E w0 ρ σ S a w → obsOk E.Δ ρ obs → Returns E w0 ρ σ S codes res xs a w
theorem sameLen {S S' : St} {σ x : List Value} (h : Rel E w0 ρ σ S a w) {a' : Act} (h' : Rel E w0 ρ (σ ++ x) S' a' w') (e : S'.objs = S.objs) : x = [] := by
  obtain ⟨L, hO, _⟩ := h.mem
  obtain ⟨L', hO', _⟩ := h'.mem
  have h1 := hO.l1
  have h2 := hO'.l1
  rw [e, h1, List.length_append] at h2
  exact List.length_eq_zero_iff.1 (by omega)
theorem mrgS_keep {t : Tm} {S Sa Sb S' : St} (e : mrgS t S Sa Sb = some S') : S'.n = S.n ∧ S'.known = S.known := by
  unfold mrgS at e
  split at e
  case isFalse => cases e
  simp only [Option.bind_eq_some_iff, Option.map_eq_some_iff] at e
  obtain ⟨sl, e1, os, e2, rfl⟩ := e
  exact ⟨rfl, rfl⟩
theorem evalW_store {t : TypeId} {x y : Operand} {obs : List Tm} (ho : o.op = .store t x y) (h : evalW E.cx S o = some (S', obs)) : S'.objs.length = S.objs.length ∧ S'.n = S.n ∧ S'.known = S.known := by
  unfold evalW at h
  rw [ho] at h
  simp only at h
  split at h
  · split at h
    · split at h
      · rw [Option.map_eq_some_iff] at h
        obtain ⟨cs, _, h⟩ := h
        cases h
        exact ⟨by simp, rfl, rfl⟩
      · cases h
    · cases h
  · split at h
    · split at h
      · rw [Option.map_eq_some_iff] at h
        obtain ⟨us, _, h⟩ := h
        cases h
        exact ⟨by simp, rfl, rfl⟩
      · cases h
    · cases h
  · split at h
    · split at h
      · cases h
        exact ⟨by simp, rfl, rfl⟩
      · cases h
    · cases h
  · cases h
theorem pureOps_keep {F : St → List Code → List ResultVar → Option (List A1 × List Tm)} {st : Bool} {os : List Oper} : ∀ (n : Nat) (l : List Oper) (S S' : St) (obs : List Tm), pureOps E.cx F st os n l S = some (S', obs) → S'.n = S.n ∧ S'.known = S.known ∧ (st = false → S'.objs = S.objs)
  | n, [], S, S', obs, e => by cases n <;> (cases e; exact ⟨rfl, rfl, fun _ => rfl⟩)
  | 0, o :: l, S, S', obs, e => by cases e
  | n + 1, o :: l, S, S', obs, e => by
    simp only [pureOps] at e
    split at e
    · have := pureOps_keep n l _ _ _ e
      exact this
    · split at e
      · split at e
        case isFalse => cases e
        rename_i hs
        obtain ⟨i1, i2, i3⟩ := pureOps_keep n l _ _ _ e
        exact ⟨i1.trans hs.2.1, i2.trans hs.2.2, fun h => (i3 h).trans hs.1⟩
      split at e
      · rw [Option.map_eq_some_iff] at e
        obtain ⟨⟨S1, ob1⟩, e1, e2⟩ := e
        cases e2
        have := pureOps_keep n l _ _ _ e1
        exact this
      split at e
      · rename_i hq
        rw [Option.map_eq_some_iff] at e
        obtain ⟨⟨S1, ob1⟩, e1, e2⟩ := e
        cases e2
        split at hq
        case h_2 => cases hq
        rename_i hop
        obtain ⟨hs1, hs2, hs3⟩ := evalW_store hop hq
        obtain ⟨i1, i2, i3⟩ := pureOps_keep n l _ _ _ e1
        exact ⟨i1.trans hs2, i2.trans hs3, fun h => (by cases h)⟩
      split at e
      case h_2 => cases e
      split at e
      case h_2 => cases e
      simp only [Option.bind_eq_some_iff, Option.map_eq_some_iff] at e
      obtain ⟨⟨xs, ob⟩, e0, ⟨S1, ob1⟩, e1, e2⟩ := e
      cases e2
      have := pureOps_keep n l _ _ _ e1
      exact this
    · split at e
      case isFalse => cases e
      simp only [Option.bind_eq_some_iff] at e
      obtain ⟨p, e1, q, e2, S2, hm, e⟩ := e
      split at e
      case isFalse => cases e
      rename_i hc
      cases e
      have hk := mrgS_keep hm
      refine ⟨hk.1, hk.2, fun hs => ?_⟩
      rcases hc with hc | hc
      · rw [hs] at hc; cases hc
      · exact hc
    · cases e
theorem pureOps_ok (hW : E.Wf) {F : St → List Code → List ResultVar → Option (List A1 × List Tm)} (hF : GoodF E F) {st : Bool} {os rest : List Oper} {Q : Exit → Act → World → Prop} : ∀ (n : Nat) (l : List Oper) (S S' : St) (obs : List Tm), pureOps E.cx F st os n l S = some (S', obs) → ∀ (a : Act) (w : World), Rel E w0 ρ σ S a w → obsOk E.Δ ρ obs →
    (S'.n = S.n ∧ S'.known = S.known ∧ (st = false → S'.objs = S.objs)) ∧ ((∀ a' w', Rel E w0 ρ σ S' a' w' → (st = false → Below w.heap.size w w') → wpList E.P os.toArray Q rest a' w') → wpList E.P os.toArray Q (l ++ rest) a w)
  | n, [], S, S', obs, e, a, w, h, _ => by
    cases n <;> (cases e; exact ⟨⟨rfl, rfl, fun _ => rfl⟩, fun hQ => hQ a w h fun _ => Below.refl _ _⟩)
  | 0, o :: l, S, S', obs, e, a, w, h, hob => by cases e
  | n + 1, o :: l, S, S', obs, e, a, w, h, hob => by
    simp only [pureOps] at e
    have hg := guardOf_ok (o := o) h (os := os)
    split at e
    · rename_i hgd
      rw [hgd] at hg
      obtain ⟨i1, i2⟩ := pureOps_ok hW hF n l _ _ _ e _ w (h.puts (x := .v (.c .undef)) (v := undef) rfl o.dst) hob
      refine ⟨i1, fun hQ => wpList_step fun K' hK => ?_⟩
      rw [if_neg (by rw [hg]; exact Bool.false_ne_true)]
      exact hK _ _ (i2 hQ)
    · rename_i hgd
      rw [hgd] at hg
      split at e
      · rename_i S1 hS1
        split at e
        case isFalse => cases e
        rename_i hsame
        obtain ⟨v, σ', w', u, rfl, _, hb, hrun, hr⟩ := evalN_ok h hS1
        have := sameLen h hr hsame.1
        subst this
        rw [List.append_nil] at hr
        obtain ⟨⟨i1, i2, i3⟩, i4⟩ := pureOps_ok hW hF n l _ _ _ e _ w' hr hob
        refine ⟨⟨i1.trans hsame.2.1, i2.trans hsame.2.2, fun hs => (i3 hs).trans hsame.1⟩, fun hQ => wpList_wanted hg fun K' hK => ?_⟩
        unfold Oper.wp
        simp only [hrun, Oper.upon]
        exact hK _ _ (i4 fun a'' w'' hr hb' => hQ a'' w'' hr fun hs => hb.trans ((hb' hs).mono hb.size))
      split at e
      · rename_i x ob hq
        rw [Option.map_eq_some_iff] at e
        obtain ⟨⟨S1, ob1⟩, e1, e2⟩ := e
        cases e2
        obtain ⟨o1, o2⟩ := obsOk_app hob
        obtain ⟨L, hO, hM⟩ := h.mem
        obtain ⟨v, v1, v2⟩ := evalQ_ok (w0 := w0) hW hO h.pre h.known h.slots ⟨w, hM⟩ hq o1
        obtain ⟨i1, i2⟩ := pureOps_ok hW hF n l _ _ _ e1 _ w (h.puts v1 o.dst) o2
        refine ⟨i1, fun hQ => wpList_wanted hg fun K' hK => ?_⟩
        unfold Oper.wp
        simp only [v2 w hM, Oper.upon]
        exact hK _ _ (i2 hQ)
      split at e
      · rename_i S1 ob hq
        rw [Option.map_eq_some_iff] at e
        obtain ⟨⟨S2, ob1⟩, e1, e2⟩ := e
        cases e2
        obtain ⟨o1, o2⟩ := obsOk_app hob
        split at hq
        case h_2 => cases hq
        rename_i t x y hop
        obtain ⟨hs1, hs2, hs3⟩ := evalW_store hop hq
        obtain ⟨σ', w', x, rfl, _, hr⟩ := evalW_ok h hq o1
        have hx : x = [] := by
          rcases hr with ⟨_, hr⟩ | ⟨_, _, hr⟩ <;>
          · obtain ⟨L, hO, _⟩ := h.mem
            obtain ⟨L', hO', _⟩ := hr.mem
            have h1 := hO.l1
            have h2 := hO'.l1
            rw [hs1, h1, List.length_append] at h2
            exact List.length_eq_zero_iff.1 (by omega)
        subst hx
        rw [List.append_nil] at hr
        rcases hr with ⟨hrun, hr⟩ | ⟨u, hrun, hr⟩
        · obtain ⟨⟨i1, i2, i3⟩, i4⟩ := pureOps_ok hW hF n l _ _ _ e1 _ w' hr o2
          refine ⟨⟨i1.trans hs2, i2.trans hs3, fun hs => (by cases hs)⟩, fun hQ => wpList_wanted hg fun K' hK => ?_⟩
          unfold Oper.wp
          simp only [hrun, Oper.upon]
          exact hK _ _ (i4 fun a'' w'' hr hb' => hQ a'' w'' hr fun hs => by cases hs)
        · obtain ⟨⟨i1, i2, i3⟩, i4⟩ := pureOps_ok hW hF n l _ _ _ e1 _ w' hr o2
          refine ⟨⟨i1.trans hs2, i2.trans hs3, fun hs => (by cases hs)⟩, fun hQ => wpList_wanted hg fun K' hK => ?_⟩
          unfold Oper.wp
          simp only [hrun, Oper.upon]
          exact hK _ _ (i4 fun a'' w'' hr hb' => hQ a'' w'' hr fun hs => by cases hs)
      split at e
      case h_2 => cases e
      rename_i f caps args hcal
      split at e
      case h_2 => cases e
      rename_i fn c hbo
      simp only [Option.bind_eq_some_iff, Option.map_eq_some_iff] at e
      obtain ⟨⟨xs, ob⟩, e0, ⟨S1, ob1⟩, e1, e2⟩ := e
      cases e2
      obtain ⟨o1, o2⟩ := obsOk_app hob
      obtain ⟨vs, v1, v2, v3⟩ := callee_ok h hcal hbo
      obtain ⟨b1, b2, _⟩ := bodyOf_ok hbo
      have hr : Rel E w0 ρ σ { S with slots := (args ++ caps.map fun x => .v (.c (.p x))) ++ List.replicate (fn.ntmps - (args.length + caps.length)) (.v (.c .undef)) } { tmps := vs.toArray ++ Array.replicate (fn.ntmps - vs.toArray.size) undef, defers := [] } w := by
        refine ⟨?_, rfl, h.n, h.known, h.mem, h.pre, h.reach⟩
        simp only [Array.toList_append, Array.toList_replicate, List.size_toArray, v2]
        exact v1.append (All2.replicate (show VR E ρ σ (.v (.c .undef)) undef from rfl) _)
      have hret := hF w0 ρ σ _ _ _ _ _ _ _ e0 hr o1
      -- the premise of the rest hangs on the world behind the call, in which nothing that counts is else
      have back : ∀ (w' : World) (S2 : St) (a' : Act) (us : List Value), S2.objs = S.objs → S2.n = S.n → Rel E w0 ρ σ S2 a' w' → All2 (AR E ρ σ) xs us → Rel E w0 ρ σ { S with slots := putO S.slots o.dst (retAV xs) } (a.put o.dst (retV us)) w' := fun w' S2 a' us q1 q2 q4 q5 => by
        refine ⟨putO_ok h.slots (retAV_ok q5) o.dst, by rw [put_defers]; exact h.defers, h.n, h.known, ?_, h.pre, h.reach⟩
        rw [← q1]; exact q4.mem
      have hn : S1.n = S.n ∧ S1.known = S.known ∧ (st = false → S1.objs = S.objs) := by
        have := pureOps_keep n l _ _ _ e1
        exact this
      refine ⟨hn, fun hQ => wpList_wanted hg fun K' hK => ?_⟩
      unfold Oper.wp
      rw [v3 w, Oper.upon_enter]
      have hbody : c.wp E.P (bodyPost E.P fn fun e w' => ∃ v, e = .returned v ∧ K' (a.put o.dst v) w') { tmps := vs.toArray ++ Array.replicate (fn.ntmps - vs.toArray.size) undef, defers := [] } w := by
        have h1 : c.wp E.P (Exit.then (wpCodes E.P [] _) _) _ w := hret
        refine wp_mono h1 fun e a' w' hq => ?_
        have hq' : (e = .ret ∨ e = .normal) ∧ ∃ S1, S1.objs = S.objs ∧ S1.n = S.n ∧ Rel E w0 ρ σ S1 a' w' ∧ Below w.heap.size w w' ∧ ∃ vs, All2 (AR E ρ σ) xs vs ∧ All2 (fun v r => ResR E.P a' w' v r) vs fn.results.toList := by
          cases e <;> exact hq
        obtain ⟨he, S2, q1, q2, q4, qb, us, q5, q6⟩ := hq'
        have hk : K' (a.put o.dst (retV us)) w' := hK _ _ ((pureOps_ok hW hF n l _ _ _ e1 _ w' (back w' S2 a' us q1 q2 q4 q5) o2).2 fun a'' w'' hr hb' => hQ a'' w'' hr fun hs => qb.trans ((hb' hs).mono qb.size))
        rcases he with rfl | rfl
        · exact ⟨q4.defers, retV us, run_results q6, _, rfl, hk⟩
        · exact ⟨q4.defers, retV us, run_results q6, _, rfl, hk⟩
      exact (calls_of_wp b1 b2 hbody).mono fun e w' ⟨v, hv, hl⟩ => by
        subst hv
        exact hl
    · rename_i t hgd
      rw [hgd] at hg
      obtain ⟨b, hd⟩ := hg
      split at e
      case isFalse => cases e
      rename_i hb
      simp only [Option.bind_eq_some_iff] at e
      obtain ⟨⟨Sa, oa⟩, ea, ⟨Sb, obb⟩, eb, S2, hm, e⟩ := e
      split at e
      case isFalse => cases e
      rename_i hc
      cases e
      obtain ⟨o1, o2⟩ := obsOk_app hob
      have hk := mrgS_keep hm
      refine ⟨⟨hk.1, hk.2, fun hs => ?_⟩, fun hQ => ?_⟩
      · rcases hc with hc | hc
        · rw [hs] at hc; cases hc
        · exact hc
      · cases b with
        | true =>
          have hx : obsOk E.Δ ρ oa := imp_ok (t := mkNot t) (by rw [mkNot_den]; simp [den, hd.now, Dat.toBool]) o1
          exact (pureOps_ok hW hF n (o :: l) _ _ _ ea a w (h.know hb hd.now) hx).2 fun a' w' hr hb' => hQ a' w' (mrgS_ok (b := true) hd hm h.known hr) hb'
        | false =>
          have hx : obsOk E.Δ ρ obb := imp_ok (t := t) hd.now o2
          exact (pureOps_ok hW hF n (o :: l) _ _ _ eb a w (h.know hb hd.now) hx).2 fun a' w' hr hb' => hQ a' w' (mrgS_ok (b := false) hd hm h.known hr) hb'
    · cases e
theorem wpCodes_mono {P : Program} {Q Q' : Exit → Act → World → Prop} (hq : ∀ e a w, Q e a w → Q' e a w) : ∀ {k : List Code} {a : Act} {w : World}, wpCodes P k Q a w → wpCodes P k Q' a w
  | [], a, w, h => hq _ _ _ h
  | c :: k, a, w, h => wp_mono h fun e a w h => by
    cases e with
    | normal => exact wpCodes_mono hq h
    | _ => exact hq _ _ _ h
theorem pureF_ok (hW : E.Wf) : ∀ n, GoodF E (pureF E.cx n)
  | 0 => fun w0 ρ σ S codes res xs obs a w e => by cases e
  | n + 1 => fun w0 ρ σ S codes res xs obs a w e h hob => by
    have ih := pureF_ok hW n
    cases codes with
    | nil =>
      simp only [pureF, Option.map_eq_some_iff] at e
      obtain ⟨l, hl, e⟩ := e
      cases e
      obtain ⟨vs, v1, v2⟩ := resAll_ok hW h hl
      exact ⟨.inr rfl, S, rfl, rfl, h, Below.refl _ _, vs, v1, v2⟩
    | cons c k =>
    cases c with
    | ret =>
      simp only [pureF, Option.map_eq_some_iff] at e
      obtain ⟨l, hl, e⟩ := e
      cases e
      obtain ⟨vs, v1, v2⟩ := resAll_ok hW h hl
      exact wp_ret ⟨.inl rfl, S, rfl, rfl, h, Below.refl _ _, vs, v1, v2⟩
    | skip => exact wp_skip (ih w0 ρ σ S k res xs obs a w e h hob)
    | seq x y =>
      have := ih w0 ρ σ S (x :: y :: k) res xs obs a w e h hob
      refine wp_seq (wp_mono this fun e a w h => ?_)
      cases e with
      | normal =>
        refine wp_mono h fun e a w h => ?_
        cases e <;> exact h
      | _ => exact h
    | block id x =>
      have := ih w0 ρ σ S (x :: k) res xs obs a w e h hob
      refine wp_block (wp_mono this fun e a w h => ?_)
      cases e with
      | normal => exact h
      | ret => exact h
      | exit id' => rcases h.1 with h | h <;> cases h
      | goto l => rcases h.1 with h | h <;> cases h
      | panic c => rcases h.1 with h | h <;> cases h
      | outgrown => rcases h.1 with h | h <;> cases h
    | region id ops d =>
      cases d with
      | true => cases e
      | false =>
        simp only [pureF, Option.bind_eq_some_iff, Option.map_eq_some_iff] at e
        obtain ⟨⟨S1, ob1⟩, e1, ⟨xs', ob2⟩, e2, e3⟩ := e
        cases e3
        obtain ⟨o1, o2⟩ := obsOk_app hob
        obtain ⟨⟨i1, i2, i3⟩, i4⟩ := pureOps_ok (rest := []) (Q := Exit.then (wpCodes E.P k (fun e a' w' => (e = .ret ∨ e = .normal) ∧ ∃ S2, S2.objs = S.objs ∧ S2.n = S.n ∧ Rel E w0 ρ σ S2 a' w' ∧ Below w.heap.size w w' ∧ ∃ vs, All2 (AR E ρ σ) xs' vs ∧ All2 (fun v r => ResR E.P a' w' v r) vs res)) _) hW ih _ _ _ _ _ e1 a w h o1
        refine wp_region_list ?_
        have := i4 fun a' w' hr hb => by
          have := ih w0 ρ σ S1 k res xs' ob2 a' w' e2 hr o2
          unfold Returns at this
          rw [i1, i3 rfl] at this
          exact wpCodes_mono (fun e a'' w'' ⟨he, S2, q1, q2, q3, qb, vs, q4, q5⟩ => ⟨he, S2, q1, q2, q3, (hb rfl).trans (qb.mono (hb rfl).size), vs, q4, q5⟩) this
        simpa using this
    | cond c x y =>
      simp only [pureF, Option.bind_eq_some_iff] at e
      obtain ⟨t, ht, e⟩ := e
      obtain ⟨b, d1, e1⟩ := opdB_ok (opd_ok h.slots c) ht
      split at e
      · rename_i hkn
        have := knows_ok h.known hkn
        rw [d1.now] at this; cases this
        exact wp_cond e1 (ih w0 ρ σ S (x :: k) res xs obs a w e h hob)
      · rename_i hkn
        have := knows_ok h.known hkn
        rw [d1.now] at this; cases this
        exact wp_cond e1 (ih w0 ρ σ S (y :: k) res xs obs a w e h hob)
      · split at e
        case isFalse => cases e
        rename_i hb
        simp only [Option.bind_eq_some_iff, Option.map_eq_some_iff] at e
        obtain ⟨⟨xa, oa⟩, ea, ⟨xb, obb⟩, eb, l, hl, e⟩ := e
        cases e
        obtain ⟨o1, o2⟩ := obsOk_app hob
        refine wp_cond e1 ?_
        have key : ∀ {zs : List A1} {z : Code} {S1 : St}, S1.objs = S.objs → S1.n = S.n → Returns E w0 ρ σ S1 (z :: k) res zs a w → (∀ vs, All2 (AR E ρ σ) zs vs → All2 (AR E ρ σ) xs vs) → z.wp E.P (Exit.then (wpCodes E.P k (fun e a' w' => (e = .ret ∨ e = .normal) ∧ ∃ S2, S2.objs = S.objs ∧ S2.n = S.n ∧ Rel E w0 ρ σ S2 a' w' ∧ Below w.heap.size w w' ∧ ∃ vs, All2 (AR E ρ σ) xs vs ∧ All2 (fun v r => ResR E.P a' w' v r) vs res)) (fun e a' w' => (e = .ret ∨ e = .normal) ∧ ∃ S2, S2.objs = S.objs ∧ S2.n = S.n ∧ Rel E w0 ρ σ S2 a' w' ∧ Below w.heap.size w w' ∧ ∃ vs, All2 (AR E ρ σ) xs vs ∧ All2 (fun v r => ResR E.P a' w' v r) vs res)) a w := fun {zs z S1} g1 g2 g3 g4 => by
          have : wpCodes E.P (z :: k) _ a w := g3
          refine wpCodes_mono (Q' := fun e a' w' => (e = .ret ∨ e = .normal) ∧ ∃ S2, S2.objs = S.objs ∧ S2.n = S.n ∧ Rel E w0 ρ σ S2 a' w' ∧ Below w.heap.size w w' ∧ ∃ vs, All2 (AR E ρ σ) xs vs ∧ All2 (fun v r => ResR E.P a' w' v r) vs res) (fun e a' w' ⟨he, S2, q1, q2, q3, qb, vs, q4, q5⟩ => ⟨he, S2, q1.trans g1, q2.trans g2, q3, qb, vs, g4 vs q4, q5⟩) this
        cases b with
        | true =>
          have hx : obsOk E.Δ ρ oa := imp_ok (t := mkNot t) (by rw [mkNot_den]; simp [den, d1.now, Dat.toBool]) o1
          have := ih w0 ρ σ (S.know t true) (x :: k) res xa oa a w ea (h.know hb d1.now) hx
          exact key (z := x) rfl rfl this fun vs hv => zipL_ok (b := true) (fun x y v h => mrgA1_ok d1 h) hl hv
        | false =>
          have hx : obsOk E.Δ ρ obb := imp_ok (t := t) d1.now o2
          have := ih w0 ρ σ (S.know t false) (y :: k) res xb obb a w eb (h.know hb d1.now) hx
          exact key (z := y) rfl rfl this fun vs hv => zipL_ok (b := false) (fun x y v h => mrgA1_ok d1 h) hl hv
    | _ => cases e
theorem pureC_keep : ∀ (n : Nat) (S S' : St) (c : Code) (obs : List Tm), pureC E.cx n S c = some (S', obs) → S'.n = S.n ∧ S'.known = S.known
  | 0, S, S', c, obs, e => by cases e
  | n + 1, S, S', c, obs, e => by
    have ih := pureC_keep n
    cases c with
    | skip => cases e; exact ⟨rfl, rfl⟩
    | seq x y =>
      simp only [pureC, Option.bind_eq_some_iff, Option.map_eq_some_iff] at e
      obtain ⟨⟨S1, ob1⟩, e1, ⟨S2, ob2⟩, e2, e3⟩ := e
      cases e3
      have h1 := ih _ _ _ _ e1
      have h2 := ih _ _ _ _ e2
      exact ⟨h2.1.trans h1.1, h2.2.trans h1.2⟩
    | block id x =>
      have := ih S S' x obs e
      exact this
    | region id ops d =>
      cases d with
      | true => cases e
      | false =>
        have := pureOps_keep _ _ _ _ _ e
        exact ⟨this.1, this.2.1⟩
    | cond c x y =>
      simp only [pureC, Option.bind_eq_some_iff] at e
      obtain ⟨t, ht, e⟩ := e
      split at e
      · have := ih _ _ _ _ e; exact this
      · have := ih _ _ _ _ e; exact this
      · split at e
        case isFalse => cases e
        simp only [Option.bind_eq_some_iff, Option.map_eq_some_iff] at e
        obtain ⟨⟨Sa, oa⟩, ea, ⟨Sb, obb⟩, eb, S2, hm, e⟩ := e
        cases e
        exact mrgS_keep hm
    | _ => cases e
theorem pureC_ok (hW : E.Wf) : ∀ (n : Nat) (S S' : St) (c : Code) (obs : List Tm), pureC E.cx n S c = some (S', obs) → ∀ (a : Act) (w : World), Rel E w0 ρ σ S a w → obsOk E.Δ ρ obs →
    (S'.n = S.n ∧ S'.known = S.known) ∧ c.wp E.P (fun e a' w' => e = .normal ∧ Rel E w0 ρ σ S' a' w') a w
  | 0, S, S', c, obs, e, a, w, h, hob => by cases e
  | n + 1, S, S', c, obs, e, a, w, h, hob => by
    have ih := pureC_ok hW n
    cases c with
    | skip => cases e; exact ⟨⟨rfl, rfl⟩, wp_skip ⟨rfl, h⟩⟩
    | seq x y =>
      simp only [pureC, Option.bind_eq_some_iff, Option.map_eq_some_iff] at e
      obtain ⟨⟨S1, ob1⟩, e1, ⟨S2, ob2⟩, e2, e3⟩ := e
      cases e3
      obtain ⟨o1, o2⟩ := obsOk_app hob
      obtain ⟨⟨i1, i2⟩, i3⟩ := ih _ _ _ _ e1 a w h o1
      have hk := pureC_keep n _ _ _ _ e2
      refine ⟨⟨hk.1.trans i1, hk.2.trans i2⟩, wp_seq (wp_mono i3 fun e a' w' ⟨he, hr⟩ => ?_)⟩
      subst he
      refine wp_mono (ih _ _ _ _ e2 a' w' hr o2).2 fun e a' w' hq => ?_
      exact hq
    | block id x =>
      obtain ⟨i1, i2⟩ := ih _ _ _ _ e a w h hob
      refine ⟨i1, wp_block (wp_mono i2 fun e a w ⟨he, hr⟩ => ?_)⟩
      subst he
      exact ⟨rfl, hr⟩
    | region id ops d =>
      cases d with
      | true => cases e
      | false =>
        have hF := pureF_ok hW n
        obtain ⟨⟨i1, i2, _⟩, i4⟩ := pureOps_ok (rest := []) (Q := fun e a' w' => e = .normal ∧ Rel E w0 ρ σ S' a' w') hW hF _ _ _ _ _ e a w h hob
        refine ⟨⟨i1, i2⟩, wp_region_list ?_⟩
        have := i4 fun a' w' hr _ => ⟨rfl, hr⟩
        simpa using this
    | cond c x y =>
      simp only [pureC, Option.bind_eq_some_iff] at e
      obtain ⟨t, ht, e⟩ := e
      obtain ⟨b, d1, e1⟩ := opdB_ok (opd_ok h.slots c) ht
      split at e
      · rename_i hkn
        have := knows_ok h.known hkn
        rw [d1.now] at this; cases this
        obtain ⟨i1, i2⟩ := ih _ _ _ _ e a w h hob
        exact ⟨i1, wp_cond e1 i2⟩
      · rename_i hkn
        have := knows_ok h.known hkn
        rw [d1.now] at this; cases this
        obtain ⟨i1, i2⟩ := ih _ _ _ _ e a w h hob
        exact ⟨i1, wp_cond e1 i2⟩
      · split at e
        case isFalse => cases e
        rename_i hb
        simp only [Option.bind_eq_some_iff, Option.map_eq_some_iff] at e
        obtain ⟨⟨Sa, oa⟩, ea, ⟨Sb, obb⟩, eb, S2, hm, e⟩ := e
        cases e
        obtain ⟨o1, o2⟩ := obsOk_app hob
        refine ⟨mrgS_keep hm, wp_cond e1 ?_⟩
        cases b with
        | true =>
          have hx : obsOk E.Δ ρ oa := imp_ok (t := mkNot t) (by rw [mkNot_den]; simp [den, d1.now, Dat.toBool]) o1
          obtain ⟨_, i2⟩ := ih _ _ _ _ ea a w (h.know hb d1.now) hx
          exact wp_mono i2 fun e a' w' ⟨he, hr⟩ => ⟨he, mrgS_ok (b := true) d1 hm h.known hr⟩
        | false =>
          have hx : obsOk E.Δ ρ obb := imp_ok (t := t) d1.now o2
          obtain ⟨_, i2⟩ := ih _ _ _ _ eb a w (h.know hb d1.now) hx
          exact wp_mono i2 fun e a' w' ⟨he, hr⟩ => ⟨he, mrgS_ok (b := false) d1 hm h.known hr⟩
    | _ => cases e
/-- a straight function that is entered -/
theorem callF_ok (hW : E.Wf) (h : Rel E w0 ρ σ S a w) {f : Nat} {caps : List CP} {args : List AV} (hcal : callee S o = some (f, caps, args)) {xs : List A1} {obs : List Tm} (hc : callF E.cx S f caps args = some (xs, obs)) (hob : obsOk E.Δ ρ obs) :
    ∃ vs : List Value, (∀ w, (execOp a.eval o).run E.P w = .ok (.enter f vs.toArray) w) ∧ Calls E.P f vs.toArray w fun e w' => ∃ u, e = .returned u ∧ Below w.heap.size w w' ∧ Rel E w0 ρ σ { S with slots := putO S.slots o.dst (retAV xs) } (a.put o.dst u) w' := by
  unfold callF at hc
  split at hc
  case h_2 => cases hc
  rename_i fn c hbo
  obtain ⟨vs, v1, v2, v3⟩ := callee_ok h hcal hbo
  obtain ⟨b1, b2, _⟩ := bodyOf_ok hbo
  refine ⟨vs, v3, ?_⟩
  have hr : Rel E w0 ρ σ { S with slots := (args ++ caps.map fun x => .v (.c (.p x))) ++ List.replicate (fn.ntmps - (args.length + caps.length)) (.v (.c .undef)) } { tmps := vs.toArray ++ Array.replicate (fn.ntmps - vs.toArray.size) undef, defers := [] } w := by
    refine ⟨?_, rfl, h.n, h.known, h.mem, h.pre, h.reach⟩
    simp only [Array.toList_append, Array.toList_replicate, List.size_toArray, v2]
    exact v1.append (All2.replicate (show VR E ρ σ (.v (.c .undef)) undef from rfl) _)
  have hret := pureF_ok hW 200 w0 ρ σ _ _ _ _ _ _ _ hc hr hob
  have hbody : c.wp E.P (bodyPost E.P fn fun e w' => ∃ u, e = .returned u ∧ Below w.heap.size w w' ∧ Rel E w0 ρ σ { S with slots := putO S.slots o.dst (retAV xs) } (a.put o.dst u) w') { tmps := vs.toArray ++ Array.replicate (fn.ntmps - vs.toArray.size) undef, defers := [] } w := by
    have h1 : c.wp E.P (Exit.then (wpCodes E.P [] _) _) _ w := hret
    refine wp_mono h1 fun e a' w' hq => ?_
    have hq' : (e = .ret ∨ e = .normal) ∧ ∃ S1, S1.objs = S.objs ∧ S1.n = S.n ∧ Rel E w0 ρ σ S1 a' w' ∧ Below w.heap.size w w' ∧ ∃ vs, All2 (AR E ρ σ) xs vs ∧ All2 (fun v r => ResR E.P a' w' v r) vs fn.results.toList := by
      cases e <;> exact hq
    obtain ⟨he, S2, q1, q2, q4, qb, us, q5, q6⟩ := hq'
    have hk : Rel E w0 ρ σ { S with slots := putO S.slots o.dst (retAV xs) } (a.put o.dst (retV us)) w' := by
      refine ⟨putO_ok h.slots (retAV_ok q5) o.dst, by rw [put_defers]; exact h.defers, h.n, h.known, ?_, h.pre, h.reach⟩
      rw [← q1]; exact q4.mem
    rcases he with rfl | rfl
    · exact ⟨q4.defers, retV us, run_results q6, _, rfl, qb, hk⟩
    · exact ⟨q4.defers, retV us, run_results q6, _, rfl, qb, hk⟩
  exact calls_of_wp b1 b2 hbody
end
end Go.Proofs.YtigdoooikfgdfaaDoor
end
