/-
  The walk is sound: what its tree demands, the code keeps.
-/
import Derived.Test.YtonjilfbcofoaaaDoorSymJ
import Derived.Deep.LoopGhost
namespace Go.Proofs.YtonjilfbcofoaaaDoor
open Go.RowKit
set_option linter.unusedVariables false

section
variable {E : Env} {w0 w w' : World} {ρ ρ' : List Dat} {σ σ' : List Value} {S S' : St} {a : Act} {L : List Fact} {o : Oper}
theorem obT_wp {Φ : Nat → Spec} {Post : List Dat → Prop} {X : List (Inv × Nat)} {K : List (Tm × Bool)} (hK : ∀ x ∈ K, Den E.Δ ρ x.1 (.bool x.2)) : ∀ {obs : List Tm} {k : Tree}, wp E.Δ Φ Post (obT K obs k) ρ X → obsOk E.Δ ρ obs ∧ wp E.Δ Φ Post k ρ X
  | [], k, h => ⟨fun t ht => (by cases ht), h⟩
  | t :: l, k, h => by
    simp only [obT] at h
    split at h
    · rename_i hk
      obtain ⟨i1, i2⟩ := obT_wp hK h
      refine ⟨fun u hu => ?_, i2⟩
      rcases List.mem_cons.1 hu with rfl | hu
      · exact knows_ok hK hk
      · exact i1 u hu
    · obtain ⟨h1, h2⟩ := h
      obtain ⟨i1, i2⟩ := obT_wp hK h2
      refine ⟨fun u hu => ?_, i2⟩
      rcases List.mem_cons.1 hu with rfl | hu
      · exact h1
      · exact i1 u hu
theorem slot_val (h : All2 (VR E ρ σ) S.slots a.tmps.toList) {d : Nat} {x : AV} (hx : S.slots[d]? = some x) : ∃ v, a.tmps[d]? = some v ∧ VR E ρ σ x v := by
  obtain ⟨v, h1, h2⟩ := h.get hx
  exact ⟨v, by simpa using h1, h2⟩
theorem guardOf_ok (h : Rel E w0 ρ σ S a w) {os : List Oper} : match guardOf S os o with
    | .yes => Region.wanted o (yielded os.toArray a.tmps) = true
    | .no => Region.wanted o (yielded os.toArray a.tmps) = false
    | .ask t => ∃ b, Den E.Δ ρ t (.bool b)
    | .bad => True := by
  unfold guardOf
  cases hg : o.guard with
  | none => simp [Region.wanted, hg]
  | some jw =>
    obtain ⟨j, want⟩ := jw
    simp only
    cases hd : (os[j]?).bind (·.dst) with
    | none => trivial
    | some d =>
      simp only
      have hyl : ∀ v, a.tmps[d]? = some v → Region.wanted o (yielded os.toArray a.tmps) = (match v with | .bool b => b == want | _ => false) := fun v hv => by
        simp only [Region.wanted, hg, yielded, List.getElem?_toArray, hd, Option.bind_some, hv]
        cases v <;> rfl
      cases hs : S.slots[d]? with
      | none => trivial
      | some x =>
        obtain ⟨v, h1, h2⟩ := slot_val h.slots hs
        split
        · rename_i heq
          split at heq
          · cases heq
          · rename_i t hx
            cases hx
            split at heq
            · rename_i b hb
              split at heq
              · rename_i hbw
                have hk := knows_ok h.known hb
                obtain ⟨d', d1, d2, rfl, _⟩ := h2
                rw [d1.now] at hk
                subst hk
                rw [hyl _ h1]
                simp [Dat.toV, hbw]
              · cases heq
            · cases heq
          · cases heq
        · rename_i heq
          split at heq
          · rename_i hx
            cases hx
            cases h2
            rw [hyl _ h1]; rfl
          · rename_i t hx
            cases hx
            split at heq
            · rename_i b hb
              split at heq
              · cases heq
              · rename_i hbw
                have hk := knows_ok h.known hb
                obtain ⟨d', d1, d2, rfl, _⟩ := h2
                rw [d1.now] at hk
                subst hk
                rw [hyl _ h1]
                simpa [Dat.toV] using hbw
            · cases heq
          · cases heq
        · rename_i t heq
          split at heq
          · cases heq
          · rename_i t' hx
            cases hx
            split at heq
            · split at heq <;> cases heq
            · cases heq
              obtain ⟨d', d1, d2, rfl, _⟩ := h2
              cases d2 with
              | bool b => exact ⟨b, d1⟩
          · cases heq
        · trivial
theorem replC_ok {j : Nat} {x : CP} {u : Value} (hj : σ[j]? = some u) (hx : CPR E ρ σ x u) {c : C} {v : Value} (h : CR E ρ σ c v) : CR E ρ σ (replC j x c) v := by
  unfold replC
  split
  · rename_i i
    split
    · rename_i e
      subst e
      have := h.1
      rw [hj] at this
      cases this
      exact hx
    · exact h
  · exact h
theorem replCs_ok {j : Nat} {x : CP} {u : Value} (hj : σ[j]? = some u) (hx : CPR E ρ σ x u) {cs : List C} {vs : List Value} (h : All2 (CR E ρ σ) cs vs) : All2 (CR E ρ σ) (cs.map (replC j x)) vs := by
  induction h with
  | nil => exact .nil
  | cons h _ ih => exact .cons (replC_ok hj hx h) ih
theorem replA1_ok {j : Nat} {x : CP} {u : Value} (hj : σ[j]? = some u) (hx : CPR E ρ σ x u) {c : A1} {v : Value} (h : AR E ρ σ c v) : AR E ρ σ (replA1 j x c) v := by
  cases c with
  | c c => exact replC_ok hj hx h
  | agg l => obtain ⟨vs, h1, h2⟩ := h; exact ⟨vs, replCs_ok hj hx h1, h2⟩
theorem replA_ok {j : Nat} {x : CP} {u : Value} (hj : σ[j]? = some u) (hx : CPR E ρ σ x u) {c : AV} {v : Value} (h : VR E ρ σ c v) : VR E ρ σ (replA j x c) v := by
  cases c with
  | v c => exact replA1_ok hj hx h
  | tup l =>
    obtain ⟨vs, h1, h2⟩ := h
    refine ⟨vs, ?_, h2⟩
    clear h2
    induction h1 with
    | nil => exact .nil
    | cons h _ ih => exact .cons (replA1_ok hj hx h) ih
/-- a slice of the call's own is from now on read alone -/
theorem Rel.share (h : Rel E w0 ρ σ S a w) {j r : Nat} {t : Tm} (hj : S.objs[j]? = some (.own r t)) :
    ∃ A c, Rel E w0 (ρ ++ [.list (.slice A (den E.Δ ρ t).xs.length c) (E.Δ.row r).length (den E.Δ ρ t).xs]) σ (S.share j r) a w := by
  obtain ⟨L, hO, hM⟩ := h.mem
  obtain ⟨v, f, h1, h2, A, n, c, xs, rfl, h4, h5, h6, rfl⟩ := hO.get j _ hj
  subst h6
  refine ⟨A, c, ?_⟩
  rw [h4.now]
  simp only [Dat.xs]
  generalize hd : (Dat.list (.slice A xs.length c) (E.Δ.row r).length xs) = d
  have hOw := hM.ow (List.mem_cons_of_mem _ (List.mem_of_getElem? h2))
  have hgood : Good w (AtL ρ) (.rows xs) := by
    have := den_good (Δ := E.Δ) (p := AtL ρ) (w := w) (fun d hd => ⟨h.ok d hd, fun k hk => ⟨d, hd, hk⟩⟩) t
    rwa [h4.now] at this
  have hok : OkD w d := by
    subst hd
    exact .list _ _ _ hOw.rd fun row hr e he => (hgood.rowsIn (d := .rows xs) hr he).1
  have hat : ∀ k, AtD d k → AtL ρ k ∨ blkOf (.slice A xs.length c) = some k := fun k hk => by
    subst hd
    cases hk with
    | here hr =>
      right
      cases A with
      | none => exact hr.elim
      | some ad =>
        obtain ⟨hn, rfl⟩ := hr
        obtain ⟨A', c', e, hc, _⟩ := hOw
        cases e
        simp only [blkOf]
        rw [if_pos (by omega)]
    | list hr he hk => exact .inl ((hgood.rowsIn (d := .rows xs) hr he).2 k hk)
  have hhas : Has E.Δ (.list r) d := by
    subst hd
    cases h5 with
    | rows _ _ a1 a2 => exact .list r A _ c xs a1 a2
  have hjL : j < L.length := (List.getElem?_eq_some_iff.1 h2).1
  have hM2 : Mem none w0 w (baseF E (ρ ++ [d]) :: L.set j deadF) := by
    refine hM.pick (fun i => if i = j then none else some i) ⟨⟨fun e he => ?_, h.globs⟩, baseFirm _ _⟩ rfl (fun k hk => ?_) (fun i f hf => ?_) (fun i i' q h1 h2 => ?_)
    · rcases List.mem_append.1 he with he | he
      · exact h.ok e he
      · rw [List.mem_singleton.1 he]; exact hok
    · rcases hk with hk | hk
      · rcases atL_append hk with hk | ⟨e, he, hk⟩
        · exact .inl (.inl hk)
        · rw [List.mem_singleton.1 he] at hk
          rcases hat k hk with hk | hk
          · exact .inl (.inl hk)
          · exact .inr ⟨j, _, h2, hk, fun i e => by split at e; cases e; cases e; omega⟩
      · exact .inl (.inr hk)
    · rw [List.getElem?_set] at hf
      by_cases e : j = i
      · rw [if_pos e, if_pos (by omega)] at hf; cases hf; exact .inl rfl
      · rw [if_neg e] at hf; exact .inr ⟨i, if_neg (by omega), hf⟩
    · split at h1
      · cases h1
      · split at h2
        · cases h2
        · cases h1; cases h2; rfl
  have hvar : CPR E (ρ ++ [d]) σ (.tm (.var S.n) (.list r)) (.slice A xs.length c) := by
    refine ⟨d, Den.var (by rw [h.n]; simp), hhas, ?_, rfl⟩
    subst hd; rfl
  have hO2 : ObsR E (ρ ++ [d]) σ ((S.objs.set j .dead).map (replO j (.tm (.var S.n) (.list r)))) (L.set j deadF) := by
    have h0 := (hO.more [d]).set (o := .dead) (f := deadF) h1 rfl
    refine ⟨by rw [List.length_map]; exact h0.l1, h0.l2, fun i o ho => ?_⟩
    rw [List.getElem?_map, Option.map_eq_some_iff] at ho
    obtain ⟨o', ho', rfl⟩ := ho
    obtain ⟨v', f', k1, k2, k3⟩ := h0.get i o' ho'
    refine ⟨v', f', k1, k2, ?_⟩
    cases o' with
    | blk cs ty =>
      obtain ⟨b, vs, e1, e2, e3⟩ := k3
      exact ⟨b, vs, e1, replCs_ok h1 hvar e2, e3⟩
    | own r t => exact k3
    | dead => exact k3
  refine ⟨?_, h.defers, by simp [St.share, h.n], fun x hx => (h.known x hx).more _, ⟨_, hO2, hM2⟩, h.pre.trans (List.prefix_append _ _), fun k hk => ?_⟩
  · refine All2.of (by simp [St.share, h.slots.length]) fun i x v hx hv => ?_
    simp only [St.share, List.getElem?_map, Option.map_eq_some_iff] at hx
    obtain ⟨x', hx', rfl⟩ := hx
    obtain ⟨v', k1, k2⟩ := h.slots.get hx'
    rw [hv] at k1; cases k1
    exact replA_ok h1 hvar (by simpa using k2.more [d] [])
  · rcases atL_append hk with hk | ⟨e, he, hk⟩
    · exact h.reach k hk
    · rw [List.mem_singleton.1 he] at hk
      rcases hat k hk with hk | hk
      · exact h.reach k hk
      · exact .inl (hOw.blk_lt k hk).1

theorem noBlk : ∀ u ∈ [Value.slice none 0 0], ∀ k, blkV u = some k → False := fun u hu k hk => by
  rw [List.mem_singleton.1 hu] at hk; cases hk
/-- one more slice of the call's own, that is nil -/
theorem Rel.addNilO (h : Rel E w0 ρ σ S a w) (e : Nat) : Rel E w0 ρ (σ ++ [.slice none 0 0]) { S with objs := S.objs ++ [.own e .emp] } a w :=
  h.new (x := .own e .emp) (v := .slice none 0 0) (f := .ow (E.Δ.row e).length (.slice none 0 0) 0 (flatV [])) (w' := w)
    (fun L hM => hM.addNil _) ⟨none, 0, 0, [], rfl, fun _ => rfl, .rows e [] (by simp) (by simp), rfl, rfl⟩
theorem Rel.slotNil (h : Rel E w0 ρ σ S a w) (t e : Nat) : ∃ x, (∀ u ∈ x, ∀ k, blkV u = some k → False) ∧ Rel E w0 ρ (σ ++ x) (S.slotNil t e) a w := by
  unfold St.slotNil
  split
  · rename_i ht
    obtain ⟨L, hO, _⟩ := h.mem
    have hr := h.addNilO e
    refine ⟨[.slice none 0 0], noBlk, ?_, hr.defers, hr.n, hr.known, hr.mem, hr.pre, hr.reach⟩
    refine All2.of (by rw [List.length_set]; exact hr.slots.length) fun i x v hx hv => ?_
    rw [List.getElem?_set] at hx
    split at hx
    · rename_i hi
      subst hi
      split at hx
      · cases hx
        obtain ⟨v', g1, g2⟩ := h.slots.get ht
        rw [hv] at g1
        cases g1
        have g2' : v = .slice none 0 0 := g2
        exact ⟨by rw [hO.l1, g2']; simp, none, 0, 0, g2'⟩
      · cases hx
    · obtain ⟨v', g1, g2⟩ := hr.slots.get hx
      rw [hv] at g1
      cases g1
      exact g2
  · exact ⟨[], (fun u hu => by cases hu), by rw [List.append_nil]; exact h⟩
theorem Rel.fixNil (h : Rel E w0 ρ σ S a w) (j c e : Nat) (own : Bool) : ∃ x, (∀ u ∈ x, ∀ k, blkV u = some k → False) ∧ Rel E w0 ρ (σ ++ x) (S.fixNil j c e own) a w := by
  unfold St.fixNil
  split
  · rename_i cs ty hj
    split
    · rename_i hc
      obtain ⟨L, hO, hM⟩ := h.mem
      obtain ⟨v, f, h1, h2, b, vs, rfl, h4, rfl⟩ := hO.get j _ hj
      obtain ⟨u, u1, u2⟩ := h4.get hc
      have u2' : u = .slice none 0 0 := u2
      have hset : ∀ {σ' : List Value} {y : C}, CR E ρ σ' y u → All2 (CR E ρ σ') cs vs → All2 (CR E ρ σ') (cs.set c y) vs := fun {σ' y} hy hcs => by
        have := hcs.set hy c
        rwa [show vs.set c u = vs from by
          apply List.ext_getElem?
          intro i
          rw [List.getElem?_set]
          split
          · rename_i e; subst e
            split
            · exact u1.symm
            · rename_i hlt
              rw [List.getElem?_eq_none (by omega)]
          · rfl] at this
      split
      · have hr := h.addNilO e
        obtain ⟨L', hO', hM'⟩ := hr.mem
        have hj' : (S.objs ++ [Ob.own e .emp])[j]? = some (.blk cs ty) := lt_get hj
        obtain ⟨v', f', k1, k2, b', vs', rfl, k4, rfl⟩ := hO'.get j _ hj'
        have hbv : (.pointer (some ⟨b', 0, none⟩) : Value) = .pointer (some ⟨b, 0, none⟩) := by
          have := lt_get (m := [Value.slice none 0 0]) h1
          rw [k1] at this
          exact Option.some.inj this
        obtain ⟨u', w1, w2⟩ := k4.get hc
        have w2' : u' = .slice none 0 0 := w2
        have hcr : CR E ρ (σ ++ [.slice none 0 0]) (.p (.own S.objs.length)) u' := ⟨by rw [hO.l1, w2']; simp, none, 0, 0, w2'⟩
        have hcs' : All2 (CR E ρ (σ ++ [.slice none 0 0])) (cs.set c (.p (.own S.objs.length))) vs' := by
          have := k4.set hcr c
          rwa [show vs'.set c u' = vs' from by
            apply List.ext_getElem?
            intro i
            rw [List.getElem?_set]
            split
            · rename_i e; subst e
              split
              · exact w1.symm
              · rename_i hlt
                rw [List.getElem?_eq_none (by omega)]
            · rfl] at this
        refine ⟨[.slice none 0 0], noBlk, hr.slots, hr.defers, hr.n, hr.known, ⟨L', ?_, hM'⟩, hr.pre, hr.reach⟩
        have := hO'.set (o := .blk (cs.set c (.p (.own S.objs.length))) ty) k1 (f := .row b' vs'.toArray ty) ⟨b', vs', rfl, hcs', rfl⟩
        have hLs : L'.set j (.row b' vs'.toArray ty) = L' := by
          apply List.ext_getElem?
          intro i
          rw [List.getElem?_set]
          split
          · rename_i e; subst e
            split
            · exact k2.symm
            · rename_i hlt
              rw [List.getElem?_eq_none (by omega)]
          · rfl
        rw [hLs] at this
        have hlt : j < S.objs.length := (List.getElem?_eq_some_iff.1 hj).1
        rwa [List.set_append_left _ _ hlt] at this
      · refine ⟨[], (fun u hu => by cases hu), ?_⟩
        rw [List.append_nil]
        have hcs' : All2 (CR E ρ σ) (cs.set c (.p (.tm (.nil e) (.list e)))) vs := hset ⟨dflt E.Δ (.list e), fun _ => rfl, dflt_has _ _, u2', rfl⟩ h4
        refine ⟨h.slots, h.defers, h.n, h.known, ⟨L, ?_, hM⟩, h.pre, h.reach⟩
        have := hO.set (o := .blk (cs.set c (.p (.tm (.nil e) (.list e)))) ty) h1 (f := .row b vs.toArray ty) ⟨b, vs, rfl, hcs', rfl⟩
        have hLs : L.set j (.row b vs.toArray ty) = L := by
          apply List.ext_getElem?
          intro i
          rw [List.getElem?_set]
          split
          · rename_i e; subst e
            split
            · exact h2.symm
            · rename_i hlt
              rw [List.getElem?_eq_none (by omega)]
          · rfl
        rwa [hLs] at this
    · exact ⟨[], (fun u hu => by cases hu), by rw [List.append_nil]; exact h⟩
  · exact ⟨[], (fun u hu => by cases hu), by rw [List.append_nil]; exact h⟩
def ResR (P : Program) (a : Act) (w : World) (v : Value) : ResultVar → Prop
  | .tmp t => a.tmps.getD t undef = v
  | .cell p t => (do loadVar t (← asAddr (a.tmps.getD p undef)) : Sem Value).run P w = .ok v w
theorem resOf_ok (hW : E.Wf) (h : Rel E w0 ρ σ S a w) {r : ResultVar} {x : A1} (hr : resOf E.cx S r = some x) : ∃ v, AR E ρ σ x v ∧ ResR E.P a w v r := by
  cases r with
  | tmp t =>
    simp only [resOf] at hr
    split at hr
    · rename_i y hy
      cases hr
      obtain ⟨v, h1, h2⟩ := slot_val h.slots hy
      exact ⟨v, h2, by show a.tmps.getD t undef = v; simp [h1]⟩
    · cases hr
  | cell p ty =>
    simp only [resOf] at hr
    split at hr
    · rename_i y hy
      cases hr
      rw [Option.bind_eq_some_iff] at hy
      obtain ⟨z, hz, hq⟩ := hy
      obtain ⟨v, h1, h2⟩ := slot_val h.slots hz
      obtain ⟨L, hO, hM⟩ := h.mem
      have hev : a.eval (.tmp p) = v := by simp [Act.eval, h1]
      obtain ⟨u, u1, u2⟩ := qLoad_ok (w0 := w0) (a := a) (o := ⟨none, .load ty (.tmp p), 0, "", #[], none⟩) hW hO h.pre rfl (by rw [hev]; exact h2) hq
      refine ⟨u, u1, ?_⟩
      have hrun := u2 w hM
      unfold execOp at hrun
      simp only [hev, Instr.loadAt, Sem.run_bind] at hrun
      have hp : a.tmps.getD p undef = v := by simp [h1]
      show (do loadVar ty (← asAddr (a.tmps.getD p undef)) : Sem Value).run E.P w = .ok u w
      rw [hp]
      unfold qLoad at hq
      simp only [Option.bind_eq_some_iff] at hq
      obtain ⟨⟨b, off, dyn⟩, hr, _⟩ := hq
      obtain ⟨A, p', q, _, _, k3⟩ := opdR_ok h2 hr
      rw [k3, pt_eq] at hrun ⊢
      simp only [Instr.sureAddr, Sem.run_pure, Result.andThen_ok] at hrun
      simp only [asAddr, Sem.run_bind, Sem.run_pure, Result.andThen_ok]
      cases hl : (loadVar ty ((A.getD ⟨0, 0, none⟩).add (p' + off + q))).run E.P w with
      | ok v' w2 =>
        rw [hl] at hrun
        simp only [Result.andThen_ok, Sem.run_pure, Result.ok.injEq, Next.value.injEq] at hrun
        rw [hrun.1, hrun.2]
      | halt x w2 => rw [hl] at hrun; simp [Result.andThen] at hrun
    · cases hr
theorem resAll_ok (hW : E.Wf) (h : Rel E w0 ρ σ S a w) : ∀ {l : List ResultVar} {xs : List A1}, resAll E.cx S l = some xs → ∃ vs, All2 (AR E ρ σ) xs vs ∧ All2 (fun v r => ResR E.P a w v r) vs l
  | [], xs, e => by cases e; exact ⟨[], .nil, .nil⟩
  | r :: l, xs, e => by
    simp only [resAll, List.map_cons] at e
    cases hr : resOf E.cx S r with
    | none => rw [hr] at e; cases e
    | some x =>
      rw [hr] at e
      simp only [allSome, Option.map_eq_some_iff] at e
      obtain ⟨ys, e1, rfl⟩ := e
      obtain ⟨v, h1, h2⟩ := resOf_ok hW h hr
      obtain ⟨vs, h3, h4⟩ := resAll_ok hW h (l := l) e1
      exact ⟨v :: vs, .cons h1 h3, .cons h2 h4⟩
def resS (a : Act) : ResultVar → Sem Value
  | .tmp t => pure (a.tmps.getD t undef)
  | .cell p t => do loadVar t (← asAddr (a.tmps.getD p undef))
theorem resS_ok {P : Program} {v : Value} {r : ResultVar} (h : ResR P a w v r) : (resS a r).run P w = .ok v w := by
  cases r with
  | tmp t => have h : a.tmps.getD t undef = v := h; subst h; rfl
  | cell p t => exact h
theorem run_mapM_res {P : Program} {a : Act} {w : World} : ∀ {vs : List Value} {l : List ResultVar}, All2 (fun v r => ResR P a w v r) vs l → Sem.run P (l.mapM (resS a)) w = .ok vs w
  | [], _, h => by cases h; simp
  | v :: vs, _, h => by
    cases h with
    | cons h1 h2 =>
    rename_i r l
    have ih := run_mapM_res h2
    simp only [List.mapM_cons, Sem.run_bind, resS_ok h1, Result.andThen_ok, ih]
    rfl
theorem results_eq (fn : Func) (a : Act) : results fn a.tmps = (do let vs ← fn.results.mapM (resS a); pure (if h : vs.size = 1 then vs[0] else .tuple vs)) := by
  unfold results
  congr 1
theorem run_results {P : Program} {a : Act} {w : World} {vs : List Value} {fn : Func} (h : All2 (fun v r => ResR P a w v r) vs fn.results.toList) : (results fn a.tmps).run P w = .ok (retV vs) w := by
  have h1 := run_mapM_res h
  rw [results_eq, ← Array.toArray_toList (xs := fn.results), List.mapM_toArray, Sem.run_bind]
  have h2 : Sem.run P (List.toArray <$> fn.results.toList.mapM (resS a)) w = .ok vs.toArray w := by
    rw [← bind_pure_comp, Sem.run_bind, h1]; rfl
  rw [h2]
  simp only [Result.andThen_ok, Sem.run_pure, Result.ok.injEq, and_true]
  cases vs with
  | nil => rfl
  | cons v vs =>
    cases vs with
    | nil => rfl
    | cons _ _ => rfl
end
end Go.Proofs.YtonjilfbcofoaaaDoor
