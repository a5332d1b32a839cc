import Derived.Test.YtcigbgpdikadpaaDoorM8
import Derived.Deep.LoopGhost

set_option linter.unusedVariables false
set_option linter.unusedSimpArgs false

section
namespace Go.Proofs.YtcigbgpdikadpaaDoor
open Go.RowKit
set_option linter.unusedVariables false

section
variable {E : Env} {w0 w w' : World} {ρ ρ' : List Dat} {σ σ' : List Value} {S S' : St} {a : Act} {L : List Fact} {o : Oper}
theorem idx_at : ∀ {js : List Nat} {i : Nat}, i ∈ js → js[js.idxOf i]? = some i
  | [], _, h => by cases h
  | j :: js, i, h => by
    by_cases e : j = i
    · subst e; simp [List.idxOf_cons]
    · rw [List.mem_cons] at h
      have hb : (j == i) = false := by simpa using e
      rw [List.idxOf_cons, hb, cond_false, List.getElem?_cons_succ]
      exact idx_at (h.resolve_left fun e' => e e'.symm)
theorem prepC_go (os : List Ob) (j : Nat) : ∀ (l : List Cel) (cs : List C) (c : Nat) (t : List Tm) (x y : List Nat), prepC os j l cs c ≠ some (.go t x y) := by
  intro l cs c t x y
  fun_induction prepC os j l cs c <;> simp_all
theorem prepB_go (os : List Ob) : ∀ (l : List (Nat × List Cel)) (js : List Nat) (t : List Tm) (x y : List Nat), prepB os l js ≠ some (.go t x y) := by
  intro l js t x y
  fun_induction prepB os l js with
  | case1 b l j r cs ty h1 z h2 => intro e; rw [e] at h2; exact prepC_go _ _ _ _ _ _ _ _ h2
  | case2 => assumption
  | case3 => assumption
  | case4 => simp
theorem inD_go {sg : Sig} {caps : List CP} {args : List AV} {ts : List Tm} {js ow : List Nat} (h : inD S sg caps args = .go ts js ow) : caps = [] ∧ ∃ a t, argP js sg.ins args = some a ∧ takeB S.objs js sg.blks js = some (t, ow) ∧ (js ++ ow).Nodup ∧ sg.own = false ∧ ts = a ++ t := by
  unfold inD at h
  split at h
  case isFalse => cases h
  rename_i hc
  split at h
  · cases h
  rename_i js' hj
  split at h
  · rename_i a p ha hp
    split at h
    · rename_i hn
      cases h
      exact ⟨by simpa using hc, a, p.1, ha, hp, hn.1, hn.2, rfl⟩
    · cases h
  · have : ∀ x : Option InA, x.getD .no = .go ts js ow → ∃ t j o, x = some (.go t j o) := fun x hx => by
      cases x with
      | none => cases hx
      | some y => cases y <;> first | exact ⟨_, _, _, rfl⟩ | cases hx
    obtain ⟨t, j, o, hx⟩ := this _ h
    exact absurd hx (prepB_go _ _ _ _ _ _)
/-- facts behind a call: those that were handed over as they came back, all else as it was -/
def restL (L : List Fact) (H : List Nat) : List Fact := (List.range L.length).map fun i => if H.contains i then deadF else L.getD i deadF
theorem restL_get {H : List Nat} {i : Nat} {f : Fact} (h : (restL L H)[i]? = some f) : f = deadF ∨ (i ∉ H ∧ L[i]? = some f) := by
  unfold restL at h
  rw [List.getElem?_map, Option.map_eq_some_iff] at h
  obtain ⟨j, hj, rfl⟩ := h
  obtain ⟨hl, e⟩ := List.getElem?_eq_some_iff.1 hj
  simp only [List.length_range, List.getElem_range] at hl e
  subst e
  by_cases hc : H.contains i = true
  · rw [if_pos hc]; exact .inl rfl
  · rw [if_neg hc]
    refine .inr ⟨by simpa using hc, ?_⟩
    rw [List.getD_eq_getElem?_getD, List.getElem?_eq_getElem hl]; rfl
theorem restL_len (L : List Fact) (H : List Nat) : (restL L H).length = L.length := by simp [restL]
theorem restL_at {H : List Nat} {i : Nat} (hi : i < L.length) (hn : i ∉ H) : (restL L H)[i]? = L[i]? := by
  unfold restL
  rw [List.getElem?_map, List.getElem?_range hi, Option.map_some, if_neg (by simpa using hn), List.getD_eq_getElem?_getD, List.getElem?_eq_getElem hi]; rfl
theorem Mem.back (h : Rel E w0 ρ σ S a w) (hO : ObsR E ρ σ S.objs L) (hM : Mem none w0 w (baseF E ρ :: L)) {H : List Nat} {rs : List Dat} {fs : List Fact}
    (hM' : Mem none w0 w' (baseF { E with fr := frmOf E ρ } (E.γ ++ rs) :: (fs ++ [.ogen (restP w0.heap.size L H) (restQ L H)]))) (hw : ∀ f ∈ fs, f.wr = true) : Mem none w0 w' (baseF E (ρ ++ rs) :: (restL L H ++ fs)) := by
  obtain ⟨hb', hL'⟩ := List.pairwise_cons.1 hM'.apart
  rw [List.pairwise_append] at hL'
  obtain ⟨hfs, _, hfo⟩ := hL'
  have hog := hM'.holds (.ogen (restP w0.heap.size L H) (restQ L H)) (by simp)
  have hbase := hM'.holds _ List.mem_cons_self
  obtain ⟨⟨hok, hG⟩, _⟩ := hbase
  have hfrm := hG.frm
  obtain ⟨hokρ, hGE⟩ := (show OkL w' ρ ∧ E.globs w' from hfrm)
  have hoapart : ∀ k, (baseF { E with fr := frmOf E ρ } (E.γ ++ rs)).at k → restQ L H k → False := fun k h1 h2 => hb' (.ogen (restP w0.heap.size L H) (restQ L H)) (by simp) rfl k h1 h2
  have hrest : ∀ f ∈ restL L H, f = deadF ∨ ∃ i, i ∉ H ∧ L[i]? = some f := fun f hf => by
    obtain ⟨i, hi⟩ := List.getElem?_of_mem hf
    rcases restL_get hi with e | ⟨e1, e2⟩
    · exact .inl e
    · exact .inr ⟨i, e1, e2⟩
  have hrq : ∀ f ∈ restL L H, ∀ k, f.at k → restQ L H k := fun f hf k hk => by
    rcases hrest f hf with rfl | ⟨i, e1, e2⟩
    · exact hk.elim
    · exact ⟨i, f, e2, e1, hk⟩
  obtain ⟨hbL, _⟩ := List.pairwise_cons.1 hM.apart
  have hrp : Mem none w0 w (baseF E ρ :: restL L H) := by
    refine hM.pick (fun i => if i ∈ H then none else some i) (hM.holds _ List.mem_cons_self) rfl (fun k hk => .inl hk) (fun i f hf => ?_) (fun i i' q e1 e2 => ?_)
    · rcases restL_get hf with e | ⟨e1, e2⟩
      · exact .inl e
      · exact .inr ⟨i, by simp only [if_neg e1], e2⟩
    · split at e1
      · cases e1
      · split at e2
        · cases e2
        · cases e1; cases e2; rfl
  obtain ⟨hrb, hrr⟩ := List.pairwise_cons.1 hrp.apart
  have hbat : ∀ k, (baseF E (ρ ++ rs)).at k → (baseF { E with fr := frmOf E ρ } (E.γ ++ rs)).at k := fun k hk => by
    rcases hk with hk | hk
    · rcases atL_append hk with hk | ⟨d, hd, hk⟩
      · exact .inr (.inr (.inr (.inl hk)))
      · exact .inl ⟨d, List.mem_append_right _ hd, hk⟩
    · exact .inr (.inr (.inr (.inr hk)))
  refine ⟨hM'.grown, fun f hf => ?_, fun f hf hw' k hk => ?_, ?_⟩
  · rcases List.mem_cons.1 hf with rfl | hf
    · refine ⟨⟨fun d hd => ?_, hGE⟩, baseFirm _ _⟩
      rcases List.mem_append.1 hd with hd | hd
      · exact hokρ d hd
      · exact hok d (List.mem_append_right _ hd)
    · rcases List.mem_append.1 hf with hf | hf
      · rcases hrest f hf with rfl | ⟨i, e1, e2⟩
        · exact ⟨trivial, deadFirm⟩
        · exact hog.1 i f e2 e1
      · exact hM'.holds f (by simp [hf])
  · rcases List.mem_cons.1 hf with rfl | hf
    · cases hw'
    · rcases List.mem_append.1 hf with hf | hf
      · exact hrp.own f (List.mem_cons_of_mem _ hf) hw' k hk
      · exact hM'.own f (by simp [hf]) hw' k hk
  · rw [List.pairwise_cons, List.pairwise_append]
    refine ⟨fun g hg hw' k k1 k2 => ?_, hrr, hfs, fun f hf g hg hw' k k1 k2 => ?_⟩
    · rcases List.mem_append.1 hg with hg | hg
      · exact hoapart k (hbat k k1) (hrq g hg k k2)
      · exact hb' g (by simp [hg]) (by rw [hw g hg, Bool.or_true]) k (hbat k k1) k2
    · exact hfo g hg _ (List.mem_singleton_self _) (by simp [Fact.wr]) k k2 (hrq f hf k k1)
theorem BlkV.wr {bs : List Nat} {l : List (Nat × List Cel)} {r : List Nat} {ds : List Dat} {rows owns : List Fact} (h : BlkV E.Δ bs l r ds rows owns) : ∀ f ∈ rows ++ owns, f.wr = true := by
  have hc : ∀ {l : List Cel} {ds : List Dat} {vs : List Value} {fs : List Fact}, CelV E.Δ bs l ds vs fs → ∀ f ∈ fs, f.wr = true := fun h => by
    induction h with
    | nil => intro f hf; cases hf
    | v _ _ _ ih => exact ih
    | own _ _ _ ih =>
      intro f hf
      rcases List.mem_cons.1 hf with rfl | hf
      · rfl
      · exact ih f hf
    | b _ _ ih => exact ih
  induction h with
  | nil => intro f hf; cases hf
  | cons h _ ih =>
    intro f hf
    simp only [List.cons_append, List.mem_cons, List.mem_append] at hf
    rcases hf with rfl | hf | hf | hf
    · rfl
    · exact ih f (List.mem_append_left _ hf)
    · exact hc h f hf
    · exact ih f (List.mem_append_right _ hf)
/-- what is left to say where a panic goes through -/
def DieR (E : Env) (w0 w : World) : Prop := Mem none w0 w (baseF E E.γ :: [.ogen E.op E.oq])
theorem Mem.die (h : Rel E w0 ρ σ S a w) (hO : ObsR E ρ σ S.objs L) (hM : Mem none w0 w (baseF E ρ :: L)) {H : List Nat} {i : Nat} (hi : S.objs[i]? = some .fr) (hiH : i ∉ H)
    (hM' : Mem none w0 w' (baseF { E with fr := frmOf E ρ } E.γ :: [.ogen (restP w0.heap.size L H) (restQ L H)])) : DieR E w0 w' := by
  obtain ⟨hb', _⟩ := List.pairwise_cons.1 hM'.apart
  have hog := hM'.holds (.ogen (restP w0.heap.size L H) (restQ L H)) (by simp)
  obtain ⟨⟨hok, hG⟩, _⟩ := hM'.holds _ List.mem_cons_self
  obtain ⟨hokρ, hGE⟩ := (show OkL w' ρ ∧ E.globs w' from hG.frm)
  obtain ⟨v, f, g1, g2, g3⟩ := hO.get _ _ hi
  obtain ⟨_, rfl⟩ := (show v = undef ∧ f = .ogen E.op E.oq from g3)
  have hq : ∀ k, E.oq k → restQ L H k := fun k hk => ⟨i, _, g2, hiH, hk⟩
  refine ⟨hM'.grown, fun f hf => ?_, fun f hf hw k hk => ?_, ?_⟩
  · rcases List.mem_cons.1 hf with rfl | hf
    · exact ⟨⟨hok, hGE⟩, baseFirm _ _⟩
    · rw [List.mem_singleton] at hf
      subst hf
      exact hog.1 i _ g2 hiH
  · rcases List.mem_cons.1 hf with rfl | hf
    · cases hw
    · rw [List.mem_singleton] at hf
      subst hf
      exact hM'.own (.ogen (restP w0.heap.size L H) (restQ L H)) (by simp) rfl k (hq k hk)
  · rw [List.pairwise_cons]
    refine ⟨fun g hg _ k k1 k2 => ?_, List.pairwise_singleton _ _⟩
    rw [List.mem_singleton] at hg
    subst hg
    refine hb' (.ogen (restP w0.heap.size L H) (restQ L H)) (by simp) rfl k ?_ (hq k k2)
    rcases k1 with k1 | k1
    · exact .inl k1
    · exact .inr (.inr (.inr (.inr k1)))
theorem Rel.callP (h : Rel E w0 ρ σ S a w) {f : Nat} {sg : Sig} {Φ : Spec} (hs : grpOk sg.res = true) (hH : HoldsP E f sg Φ) {args : List AV} {vs : List Value} {ts : List Tm} {caps : List CP} {js ow : List Nat} (hv : All2 (VR E ρ σ) args vs) (hi : inD S sg caps args = .go ts js ow) {W : List Dat → Prop}
    (hΦ : Φ (ts.map (den E.Δ ρ)) W) (dst : Option Nat) :
    Calls E.P f vs.toArray w fun e w' => (∃ u σ' rs, e = .returned u ∧ W (outL sg.pan rs) ∧ Rel E w0 (ρ ++ rs) σ' (callStP S sg js ow dst) (a.put dst u) w' ∧ All2 (Has E.Δ) (Sig.sorts sg.res ++ sg.bsrt) rs ∧ ∃ x, σ' = σ ++ x) ∨
      (∃ T d, sg.pan = some T ∧ W [.bool false, d] ∧ Has E.Δ .err d ∧ e = .panicked (pvL T d) ∧ ∀ i : Nat, S.objs[i]? = some .fr → DieR E w0 w') := by
  obtain ⟨_, a', t, ha, hp, hnd, hown, rfl⟩ := inD_go hi
  obtain ⟨L, hO, hM⟩ := h.mem
  obtain ⟨bs, hJ⟩ := takeB_js hO hp
  obtain ⟨rows, owns, hB, hr, ho⟩ := takeB_ok hO hJ hJ hp
  obtain ⟨hvs, hhas⟩ := argP_ok hJ hv ha
  obtain ⟨hok, hat⟩ := den_places h (a' ++ t)
  have hf : All2 (fun j f => L[j]? = some f) (js ++ ow) (rows ++ owns) := (hr.mono fun _ _ h => h.1).append (ho.mono fun _ _ h => h.1)
  have hmem := h.hand hO hM hnd hf hok hat
  rw [List.map_append, List.append_assoc] at hmem
  rw [List.map_append] at hΦ hat
  subst hvs
  have hnofr : ∀ i : Nat, S.objs[i]? = some .fr → i ∉ js ++ ow := fun i hi hm => by
    rcases List.mem_append.1 hm with hm | hm
    · obtain ⟨q, hq⟩ := List.getElem?_of_mem hm
      obtain ⟨_, _, _, cs, ty, e⟩ := hr.get hq
      rw [hi] at e; cases e
    · obtain ⟨q, hq⟩ := List.getElem?_of_mem hm
      obtain ⟨_, _, _, r, t, e⟩ := ho.get hq
      rw [hi] at e; cases e
  refine (hH (frmOf E ρ) _ _ w0 w _ _ bs rows owns W hhas hB hmem hΦ).mono fun e w' hend => ?_
  rcases hend with ⟨rr, rb, rows', owns', hW, hrr, hB', hM', hpl, he⟩ | ⟨T, d, hT, hW, hd, hM', he⟩
  case inr => exact .inr ⟨T, d, hT, hW, hd, he, fun i hi => Mem.die h hO hM hi (hnofr i hi) hM'⟩
  left
  refine ⟨retV (groupV sg.res rr), σ ++ owns'.map facV, rr ++ rb, he, hW, ?_, hrr.append hB'.has, _, rfl⟩
  rw [← List.append_assoc rows'] at hM'
  have hback := Mem.back h hO hM hM' hB'.wr
  have hrl : (sg.res.flatMap (·.2)).length = rr.length := hrr.length
  have hbl : sg.bsrt.length = rb.length := hB'.has.length
  have hlen : js.length = rows'.length := by rw [hB'.lens.1, hJ.length, hB'.lens.2]
  have hJ2 : JB (σ ++ owns'.map facV) js bs := hJ.mono fun _ _ h => lt_get h
  obtain ⟨q1, q2⟩ := blkC_ok (E := E) (ρ := ρ ++ (rr ++ rb)) hJ2 hB' (S.n + rr.length) S.objs.length (fun i d hd => by
      rw [h.n, ← List.append_assoc, List.getElem?_append_right (by rw [List.length_append]; omega), List.length_append, Nat.add_sub_cancel_left]; exact hd)
    (fun i f hf => by
      rw [hO.l1, List.getElem?_append_right (by omega), Nat.add_sub_cancel_left, List.getElem?_map, hf]; rfl)
  have hS : callStP S sg js ow dst = { S with slots := putO S.slots dst (retAV (resA sg.res S.n)), n := S.n + rr.length + rb.length, objs := setAll (setAll S.objs ow (ow.map fun _ => .dead)) js (blkC js sg.blks (S.n + rr.length) S.objs.length).1 ++ (blkC js sg.blks (S.n + rr.length) S.objs.length).2 } := by
    unfold callStP; rw [hrl, hbl]
  rw [hS]
  generalize (blkC js sg.blks (S.n + rr.length) S.objs.length).1 = nb at q1
  generalize (blkC js sg.blks (S.n + rr.length) S.objs.length).2 = no at q2
  have hnd1 : js.Nodup := (List.nodup_append.1 hnd).1
  have hnd2 : ow.Nodup := (List.nodup_append.1 hnd).2.1
  have hdis : ∀ i, i ∈ js → i ∈ ow → False := fun i h1 h2 => (List.nodup_append.1 hnd).2.2 i h1 i h2 rfl
  have hLl : L.length = S.objs.length := by rw [hO.l2, hO.l1]
  have hobj : ∀ i, i < S.objs.length → (setAll (setAll S.objs ow (ow.map fun _ => Ob.dead)) js nb)[i]? = if i ∈ js then nb[js.idxOf i]? else if i ∈ ow then some .dead else S.objs[i]? := fun i hi => by
    by_cases h1 : i ∈ js
    · rw [if_pos h1]
      exact setAll_at js nb _ hnd1 (by rw [hlen]; exact q1.length.symm) _ _ (idx_at h1) (by rw [setAll_len]; exact hi)
    · rw [if_neg h1, setAll_not _ _ _ _ h1]
      by_cases h2 : i ∈ ow
      · rw [if_pos h2, setAll_at ow _ _ hnd2 (by simp) _ _ (idx_at h2) hi, List.getElem?_map, idx_at h2]; rfl
      · rw [if_neg h2, setAll_not _ _ _ _ h2]
  have hfac : ∀ i, i < L.length → (setAll (setAll L ow (ow.map fun _ => deadF)) js rows')[i]? = if i ∈ js then rows'[js.idxOf i]? else if i ∈ ow then some deadF else L[i]? := fun i hi => by
    by_cases h1 : i ∈ js
    · rw [if_pos h1]
      exact setAll_at js rows' _ hnd1 hlen _ _ (idx_at h1) (by rw [setAll_len]; exact hi)
    · rw [if_neg h1, setAll_not _ _ _ _ h1]
      by_cases h2 : i ∈ ow
      · rw [if_pos h2, setAll_at ow _ _ hnd2 (by simp) _ _ (idx_at h2) hi, List.getElem?_map, idx_at h2]; rfl
      · rw [if_neg h2, setAll_not _ _ _ _ h2]
  generalize hob : setAll (setAll S.objs ow (ow.map fun _ => Ob.dead)) js nb = ob2 at hobj
  generalize hfa : setAll (setAll L ow (ow.map fun _ => deadF)) js rows' = L2 at hfac
  have hol : ob2.length = S.objs.length := by rw [← hob, setAll_len, setAll_len]
  have hfl : L2.length = L.length := by rw [← hfa, setAll_len, setAll_len]
  have hptr := hB'.ptr
  refine ⟨putO_ok (h.slots.mono fun _ _ hr => hr.more _ _) (retAV_ok (resA_ok hrr hs (fun i d hd => ?_))) dst, by rw [put_defers]; exact h.defers, ?_, fun x hx => (h.known x hx).more _, ⟨L2 ++ owns', ⟨?_, ?_, fun j o hj => ?_⟩, ?_⟩, h.pre.trans (List.prefix_append _ _), fun k hk => ?_⟩
  · rw [h.n, List.getElem?_append_right (by omega), Nat.add_sub_cancel_left, lt_get hd]
  · show S.n + rr.length + rb.length = _
    rw [h.n, List.length_append, List.length_append]; omega
  · rw [List.length_append, List.length_append, List.length_map, hol, hO.l1, q2.length]
  · rw [List.length_append, List.length_append, List.length_map, hfl, hO.l2]
  · by_cases hlt : j < S.objs.length
    · rw [List.getElem?_append_left (by omega), hobj j hlt] at hj
      by_cases h1 : j ∈ js
      · rw [if_pos h1] at hj
        obtain ⟨f, hf1, hf2⟩ := q1.get hj
        obtain ⟨b, hb1, hb2⟩ := hJ.get (idx_at h1)
        obtain ⟨f', hf3, hf4⟩ := hptr.get hb1
        rw [hf1] at hf3; cases hf3
        refine ⟨facV f, f, ?_, ?_, hf2⟩
        · rw [hf4]; exact lt_get hb2
        · rw [List.getElem?_append_left (by omega), hfac j (by omega), if_pos h1]; exact hf1
      · rw [if_neg h1] at hj
        by_cases h2 : j ∈ ow
        · rw [if_pos h2] at hj
          cases hj
          obtain ⟨v, f, g1, g2, g3⟩ := hO.get j _ (List.getElem?_eq_getElem hlt)
          exact ⟨v, deadF, lt_get g1, by rw [List.getElem?_append_left (by omega), hfac j (by omega), if_neg h1, if_pos h2], rfl⟩
        · rw [if_neg h2] at hj
          obtain ⟨v, f, g1, g2, g3⟩ := hO.get j _ hj
          exact ⟨v, f, lt_get g1, by rw [List.getElem?_append_left (by omega), hfac j (by omega), if_neg h1, if_neg h2]; exact g2, g3.more _ _⟩
    · rw [List.getElem?_append_right (by omega)] at hj
      obtain ⟨f, hf1, hf2⟩ := q2.get hj
      have hjl := (List.getElem?_eq_some_iff.1 hf1).1
      refine ⟨facV f, f, ?_, ?_, hf2⟩
      · rw [List.getElem?_append_right (by rw [← hO.l1]; omega), List.getElem?_map, ← hO.l1, ← hol, hf1]; rfl
      · rw [List.getElem?_append_right (by omega), hfl, hLl, ← hol]; exact hf1
  · refine hback.pick (fun i => if i < L.length then (if i ∈ js then some (L.length + js.idxOf i) else if i ∈ ow then none else some i) else some (i + rows'.length)) (hback.holds _ List.mem_cons_self) rfl (fun k hk => .inl hk) (fun i f hf => ?_) (fun i i' q e1 e2 => ?_)
    · by_cases hlt : i < L.length
      · rw [List.getElem?_append_left (by omega), hfac i hlt] at hf
        by_cases h1 : i ∈ js
        · rw [if_pos h1] at hf
          refine .inr ⟨L.length + js.idxOf i, by simp only [if_pos hlt, if_pos h1], ?_⟩
          rw [List.getElem?_append_right (by rw [restL_len]; omega), restL_len, Nat.add_sub_cancel_left, List.getElem?_append_left (List.getElem?_eq_some_iff.1 hf).1]
          exact hf
        · rw [if_neg h1] at hf
          by_cases h2 : i ∈ ow
          · rw [if_pos h2] at hf; cases hf; exact .inl rfl
          · rw [if_neg h2] at hf
            refine .inr ⟨i, by simp only [if_pos hlt, if_neg h1, if_neg h2], ?_⟩
            rw [List.getElem?_append_left (by rw [restL_len]; exact hlt), restL_at hlt (by rw [List.mem_append, not_or]; exact ⟨h1, h2⟩)]
            exact hf
      · rw [List.getElem?_append_right (by omega)] at hf
        refine .inr ⟨i + rows'.length, by simp only [if_neg hlt], ?_⟩
        rw [List.getElem?_append_right (by rw [restL_len]; omega), restL_len, List.getElem?_append_right (by omega), ← hf]
        congr 1
        omega
    · have hidx : ∀ {i : Nat}, i ∈ js → js.idxOf i < rows'.length := fun h1 => by rw [← hlen]; exact List.idxOf_lt_length_iff.2 h1
      by_cases l1 : i < L.length
      · by_cases l2 : i' < L.length
        · simp only [if_pos l1] at e1
          simp only [if_pos l2] at e2
          by_cases m1 : i ∈ js
          · by_cases m2 : i' ∈ js
            · simp only [if_pos m1, Option.some.injEq] at e1
              simp only [if_pos m2, Option.some.injEq] at e2
              have he : js.idxOf i = js.idxOf i' := by omega
              have g1 := idx_at m1
              rw [he, idx_at m2] at g1
              exact (Option.some.inj g1).symm
            · simp only [if_pos m1, Option.some.injEq] at e1
              simp only [if_neg m2] at e2
              split at e2
              · cases e2
              · simp only [Option.some.injEq] at e2; omega
          · simp only [if_neg m1] at e1
            split at e1
            · cases e1
            · simp only [Option.some.injEq] at e1
              by_cases m2 : i' ∈ js
              · simp only [if_pos m2, Option.some.injEq] at e2; omega
              · simp only [if_neg m2] at e2
                split at e2
                · cases e2
                · simp only [Option.some.injEq] at e2; omega
        · simp only [if_pos l1] at e1
          simp only [if_neg l2, Option.some.injEq] at e2
          split at e1
          · rename_i m1
            have := hidx m1
            simp only [Option.some.injEq] at e1; omega
          · split at e1
            · cases e1
            · simp only [Option.some.injEq] at e1; omega
      · simp only [if_neg l1, Option.some.injEq] at e1
        by_cases l2 : i' < L.length
        · simp only [if_pos l2] at e2
          split at e2
          · rename_i m2
            have := hidx m2
            simp only [Option.some.injEq] at e2; omega
          · split at e2
            · cases e2
            · simp only [Option.some.injEq] at e2; omega
        · simp only [if_neg l2, Option.some.injEq] at e2; omega
  · rcases atL_append hk with hk | hk
    · exact h.reach k hk
    · rcases hpl k hk with hk | hk | hk
      · exact .inl hk
      · exact h.reach k (hat k hk)
      · obtain ⟨d, hd, hk⟩ := hk
        exact h.reach k ⟨d, h.pre.subset hd, hk⟩
theorem preD_ok {sgs : Nat → Option Sig} {j r : Nat} {t : Tm} (h : preD S sgs o = some (.inl (j, r, t))) : S.objs[j]? = some (.own r t) := by
  unfold preD at h
  split at h
  · cases h
  split at h
  · cases h
  split at h
  · cases h
  split at h
  · split at h
    · rename_i hob
      cases h; exact hob
    · cases h
  · cases h
  · cases h
/-- what is promised of a function, whether blocks are handed over to it or not -/
def Prom (E : Env) (f : FuncId) (sg : Sig) (Φ : Spec) : Prop := (∃ x, bodyOf E.P f = some x) ∧ (if sg.isP = false then sg.ok = true ∧ Holds E f sg Φ else grpOk sg.res = true ∧ HoldsP E f sg Φ)
end
end Go.Proofs.YtcigbgpdikadpaaDoor
end

section
namespace Go.Proofs.YtcigbgpdikadpaaDoor
open Go.RowKit
set_option linter.unusedVariables false

section
variable {E : Env} {w0 w w' : World} {ρ ρ' : List Dat} {σ σ' : List Value} {S S' : St} {a : Act} {L : List Fact} {o : Oper}
theorem obT_wp {Φ : Nat → Spec} {Post : List Dat → Prop} {X : List (Inv × Nat)} {K : List (Tm × Bool)} (hK : ∀ x ∈ K, Den E.Δ ρ x.1 (.bool x.2)) : ∀ {obs : List Tm} {k : Tree}, wp E.Δ Φ Post (obT K obs k) ρ X → obsOk E.Δ ρ obs ∧ wp E.Δ Φ Post k ρ X
  | [], k, h => ⟨fun t ht => (by cases ht), h⟩
  | t :: l, k, h => by
    simp only [obT] at h
    split at h
    · rename_i hk
      obtain ⟨i1, i2⟩ := obT_wp hK h
      refine ⟨fun u hu => ?_, i2⟩
      rcases List.mem_cons.1 hu with rfl | hu
      · exact knows_ok hK hk
      · exact i1 u hu
    · obtain ⟨h1, h2⟩ := h
      obtain ⟨i1, i2⟩ := obT_wp hK h2
      refine ⟨fun u hu => ?_, i2⟩
      rcases List.mem_cons.1 hu with rfl | hu
      · exact h1
      · exact i1 u hu
theorem slot_val (h : All2 (VR E ρ σ) S.slots a.tmps.toList) {d : Nat} {x : AV} (hx : S.slots[d]? = some x) : ∃ v, a.tmps[d]? = some v ∧ VR E ρ σ x v := by
  obtain ⟨v, h1, h2⟩ := h.get hx
  exact ⟨v, by simpa using h1, h2⟩
theorem guardOf_ok (h : Rel E w0 ρ σ S a w) {os : List Oper} : match guardOf S os o with
    | .yes => Region.wanted o (yielded os.toArray a.tmps) = true
    | .no => Region.wanted o (yielded os.toArray a.tmps) = false
    | .ask t => ∃ b, Den E.Δ ρ t (.bool b)
    | .bad => True := by
  unfold guardOf
  cases hg : o.guard with
  | none => simp [Region.wanted, hg]
  | some jw =>
    obtain ⟨j, want⟩ := jw
    simp only
    cases hd : (os[j]?).bind (·.dst) with
    | none => trivial
    | some d =>
      simp only
      have hyl : ∀ v, a.tmps[d]? = some v → Region.wanted o (yielded os.toArray a.tmps) = (match v with | .bool b => b == want | _ => false) := fun v hv => by
        simp only [Region.wanted, hg, yielded, List.getElem?_toArray, hd, Option.bind_some, hv]
        cases v <;> rfl
      cases hs : S.slots[d]? with
      | none => trivial
      | some x =>
        obtain ⟨v, h1, h2⟩ := slot_val h.slots hs
        split
        · rename_i heq
          split at heq
          · cases heq
          · rename_i t hx
            cases hx
            split at heq
            · rename_i b hb
              split at heq
              · rename_i hbw
                have hk := knows_ok h.known hb
                obtain ⟨d', d1, d2, rfl, _⟩ := h2
                rw [d1.now] at hk
                subst hk
                rw [hyl _ h1]
                simp [Dat.toV, hbw]
              · cases heq
            · cases heq
          · cases heq
        · rename_i heq
          split at heq
          · rename_i hx
            cases hx
            cases h2
            rw [hyl _ h1]; rfl
          · rename_i t hx
            cases hx
            split at heq
            · rename_i b hb
              split at heq
              · cases heq
              · rename_i hbw
                have hk := knows_ok h.known hb
                obtain ⟨d', d1, d2, rfl, _⟩ := h2
                rw [d1.now] at hk
                subst hk
                rw [hyl _ h1]
                simpa [Dat.toV] using hbw
            · cases heq
          · cases heq
        · rename_i t heq
          split at heq
          · cases heq
          · rename_i t' hx
            cases hx
            split at heq
            · split at heq <;> cases heq
            · cases heq
              obtain ⟨d', d1, d2, rfl, _⟩ := h2
              cases d2 with
              | bool b => exact ⟨b, d1⟩
          · cases heq
        · trivial
theorem replC_ok {j : Nat} {x : CP} {u : Value} (hj : σ[j]? = some u) (hx : CPR E ρ σ x u) {c : C} {v : Value} (h : CR E ρ σ c v) : CR E ρ σ (replC j x c) v := by
  unfold replC
  split
  · rename_i i
    split
    · rename_i e
      subst e
      have := h.1
      rw [hj] at this
      cases this
      exact hx
    · exact h
  · exact h
theorem replCs_ok {j : Nat} {x : CP} {u : Value} (hj : σ[j]? = some u) (hx : CPR E ρ σ x u) {cs : List C} {vs : List Value} (h : All2 (CR E ρ σ) cs vs) : All2 (CR E ρ σ) (cs.map (replC j x)) vs := by
  induction h with
  | nil => exact .nil
  | cons h _ ih => exact .cons (replC_ok hj hx h) ih
theorem replA1_ok {j : Nat} {x : CP} {u : Value} (hj : σ[j]? = some u) (hx : CPR E ρ σ x u) {c : A1} {v : Value} (h : AR E ρ σ c v) : AR E ρ σ (replA1 j x c) v := by
  cases c with
  | c c => exact replC_ok hj hx h
  | agg l => obtain ⟨vs, h1, h2⟩ := h; exact ⟨vs, replCs_ok hj hx h1, h2⟩
theorem replA_ok {j : Nat} {x : CP} {u : Value} (hj : σ[j]? = some u) (hx : CPR E ρ σ x u) {c : AV} {v : Value} (h : VR E ρ σ c v) : VR E ρ σ (replA j x c) v := by
  cases c with
  | v c => exact replA1_ok hj hx h
  | tup l =>
    obtain ⟨vs, h1, h2⟩ := h
    refine ⟨vs, ?_, h2⟩
    clear h2
    induction h1 with
    | nil => exact .nil
    | cons h _ ih => exact .cons (replA1_ok hj hx h) ih
/-- a slice of the call's own is from now on read alone -/
theorem Rel.share (h : Rel E w0 ρ σ S a w) {j r : Nat} {t : Tm} (hj : S.objs[j]? = some (.own r t)) :
    ∃ A c, σ[j]? = some (.slice A (den E.Δ ρ t).xs.length c) ∧ Rel E w0 (ρ ++ [.list (.slice A (den E.Δ ρ t).xs.length c) (E.Δ.row r).length (den E.Δ ρ t).xs]) σ (S.share j r) a w := by
  obtain ⟨L, hO, hM⟩ := h.mem
  obtain ⟨v, f, h1, h2, A, n, c, xs, rfl, h4, h5, h6, rfl⟩ := hO.get j _ hj
  subst h6
  refine ⟨A, c, by rw [h4.now]; exact h1, ?_⟩
  rw [h4.now]
  simp only [Dat.xs]
  generalize hd : (Dat.list (.slice A xs.length c) (E.Δ.row r).length xs) = d
  have hOw := hM.ow (List.mem_cons_of_mem _ (List.mem_of_getElem? h2))
  have hgood : Good w (AtL ρ) (.rows xs) := by
    have := den_good (Δ := E.Δ) (p := AtL ρ) (w := w) (fun d hd => ⟨h.ok d hd, fun k hk => ⟨d, hd, hk⟩⟩) t
    rwa [h4.now] at this
  have hok : OkD w d := by
    subst hd
    exact .list _ _ _ hOw.rd (fun row hr e he => (hgood.rowsIn (d := .rows xs) hr he).1) (.ow hOw)
  have hat : ∀ k, AtD d k → AtL ρ k ∨ blkOf (.slice A xs.length c) = some k := fun k hk => by
    subst hd
    cases hk with
    | here hr =>
      right
      cases A with
      | none => exact hr.elim
      | some ad =>
        obtain ⟨hn, rfl⟩ := hr
        obtain ⟨A', c', e, hc, _⟩ := hOw
        cases e
        simp only [blkOf]
        rw [if_pos (by omega)]
    | list hr he hk => exact .inl ((hgood.rowsIn (d := .rows xs) hr he).2 k hk)
  have hhas : Has E.Δ (.list r) d := by
    subst hd
    cases h5 with
    | rows _ _ a1 a2 => exact .list r A _ c xs a1 a2
  have hjL : j < L.length := (List.getElem?_eq_some_iff.1 h2).1
  have hM2 : Mem none w0 w (baseF E (ρ ++ [d]) :: L.set j deadF) := by
    refine hM.pick (fun i => if i = j then none else some i) ⟨⟨fun e he => ?_, h.globs⟩, baseFirm _ _⟩ rfl (fun k hk => ?_) (fun i f hf => ?_) (fun i i' q h1 h2 => ?_)
    · rcases List.mem_append.1 he with he | he
      · exact h.ok e he
      · rw [List.mem_singleton.1 he]; exact hok
    · rcases hk with hk | hk
      · rcases atL_append hk with hk | ⟨e, he, hk⟩
        · exact .inl (.inl hk)
        · rw [List.mem_singleton.1 he] at hk
          rcases hat k hk with hk | hk
          · exact .inl (.inl hk)
          · exact .inr ⟨j, _, h2, hk, fun i e => by split at e; cases e; cases e; omega⟩
      · exact .inl (.inr hk)
    · rw [List.getElem?_set] at hf
      by_cases e : j = i
      · rw [if_pos e, if_pos (by omega)] at hf; cases hf; exact .inl rfl
      · rw [if_neg e] at hf; exact .inr ⟨i, if_neg (by omega), hf⟩
    · split at h1
      · cases h1
      · split at h2
        · cases h2
        · cases h1; cases h2; rfl
  have hvar : CPR E (ρ ++ [d]) σ (.tm (.var S.n) (.list r)) (.slice A xs.length c) := by
    refine ⟨d, Den.var (by rw [h.n]; simp), hhas, ?_, rfl⟩
    subst hd; rfl
  have hO2 : ObsR E (ρ ++ [d]) σ ((S.objs.set j .dead).map (replO j (.tm (.var S.n) (.list r)))) (L.set j deadF) := by
    have h0 := (hO.more [d]).set (o := .dead) (f := deadF) h1 rfl
    refine ⟨by rw [List.length_map]; exact h0.l1, h0.l2, fun i o ho => ?_⟩
    rw [List.getElem?_map, Option.map_eq_some_iff] at ho
    obtain ⟨o', ho', rfl⟩ := ho
    obtain ⟨v', f', k1, k2, k3⟩ := h0.get i o' ho'
    refine ⟨v', f', k1, k2, ?_⟩
    cases o' with
    | blk cs ty =>
      obtain ⟨b, vs, e1, e2, e3⟩ := k3
      exact ⟨b, vs, e1, replCs_ok h1 hvar e2, e3⟩
    | own r t => exact k3
    | dead => exact k3
    | fr => exact k3
  refine ⟨?_, h.defers, by simp [St.share, h.n], fun x hx => (h.known x hx).more _, ⟨_, hO2, hM2⟩, h.pre.trans (List.prefix_append _ _), fun k hk => ?_⟩
  · refine All2.of (by simp [St.share, h.slots.length]) fun i x v hx hv => ?_
    simp only [St.share, List.getElem?_map, Option.map_eq_some_iff] at hx
    obtain ⟨x', hx', rfl⟩ := hx
    obtain ⟨v', k1, k2⟩ := h.slots.get hx'
    rw [hv] at k1; cases k1
    exact replA_ok h1 hvar (by simpa using k2.more [d] [])
  · rcases atL_append hk with hk | ⟨e, he, hk⟩
    · exact h.reach k hk
    · rw [List.mem_singleton.1 he] at hk
      rcases hat k hk with hk | hk
      · exact h.reach k hk
      · exact .inl (hOw.blk_lt k hk).1

theorem noBlk : ∀ u ∈ [Value.slice none 0 0], ∀ k, blkV u = some k → False := fun u hu k hk => by
  rw [List.mem_singleton.1 hu] at hk; cases hk
/-- one more slice of the call's own, that is nil -/
theorem Rel.addNilO (h : Rel E w0 ρ σ S a w) (e : Nat) : Rel E w0 ρ (σ ++ [.slice none 0 0]) { S with objs := S.objs ++ [.own e .emp] } a w :=
  h.new (x := .own e .emp) (v := .slice none 0 0) (f := .ow (E.Δ.row e).length (.slice none 0 0) 0 (flatV [])) (w' := w)
    (fun L hM => hM.addNil _) ⟨none, 0, 0, [], rfl, fun _ => rfl, .rows e [] (by simp) (by simp), rfl, rfl⟩
theorem Rel.slotNil (h : Rel E w0 ρ σ S a w) (t e : Nat) : ∃ x, (∀ u ∈ x, ∀ k, blkV u = some k → False) ∧ Rel E w0 ρ (σ ++ x) (S.slotNil t e) a w := by
  unfold St.slotNil
  split
  · rename_i ht
    obtain ⟨L, hO, _⟩ := h.mem
    have hr := h.addNilO e
    refine ⟨[.slice none 0 0], noBlk, ?_, hr.defers, hr.n, hr.known, hr.mem, hr.pre, hr.reach⟩
    refine All2.of (by rw [List.length_set]; exact hr.slots.length) fun i x v hx hv => ?_
    rw [List.getElem?_set] at hx
    split at hx
    · rename_i hi
      subst hi
      split at hx
      · cases hx
        obtain ⟨v', g1, g2⟩ := h.slots.get ht
        rw [hv] at g1
        cases g1
        have g2' : v = .slice none 0 0 := g2
        exact ⟨by rw [hO.l1, g2']; simp, none, 0, 0, g2'⟩
      · cases hx
    · obtain ⟨v', g1, g2⟩ := hr.slots.get hx
      rw [hv] at g1
      cases g1
      exact g2
  · exact ⟨[], (fun u hu => by cases hu), by rw [List.append_nil]; exact h⟩
theorem Rel.fixNil (h : Rel E w0 ρ σ S a w) (j c e : Nat) (own : Bool) : ∃ x, (∀ u ∈ x, ∀ k, blkV u = some k → False) ∧ Rel E w0 ρ (σ ++ x) (S.fixNil j c e own) a w := by
  unfold St.fixNil
  split
  · rename_i cs ty hj
    split
    · rename_i hc
      obtain ⟨L, hO, hM⟩ := h.mem
      obtain ⟨v, f, h1, h2, b, vs, rfl, h4, rfl⟩ := hO.get j _ hj
      obtain ⟨u, u1, u2⟩ := h4.get hc
      have u2' : u = .slice none 0 0 := u2
      have hset : ∀ {σ' : List Value} {y : C}, CR E ρ σ' y u → All2 (CR E ρ σ') cs vs → All2 (CR E ρ σ') (cs.set c y) vs := fun {σ' y} hy hcs => by
        have := hcs.set hy c
        rwa [show vs.set c u = vs from by
          apply List.ext_getElem?
          intro i
          rw [List.getElem?_set]
          split
          · rename_i e; subst e
            split
            · exact u1.symm
            · rename_i hlt
              rw [List.getElem?_eq_none (by omega)]
          · rfl] at this
      split
      · have hr := h.addNilO e
        obtain ⟨L', hO', hM'⟩ := hr.mem
        have hj' : (S.objs ++ [Ob.own e .emp])[j]? = some (.blk cs ty) := lt_get hj
        obtain ⟨v', f', k1, k2, b', vs', rfl, k4, rfl⟩ := hO'.get j _ hj'
        have hbv : (.pointer (some ⟨b', 0, none⟩) : Value) = .pointer (some ⟨b, 0, none⟩) := by
          have := lt_get (m := [Value.slice none 0 0]) h1
          rw [k1] at this
          exact Option.some.inj this
        obtain ⟨u', w1, w2⟩ := k4.get hc
        have w2' : u' = .slice none 0 0 := w2
        have hcr : CR E ρ (σ ++ [.slice none 0 0]) (.p (.own S.objs.length)) u' := ⟨by rw [hO.l1, w2']; simp, none, 0, 0, w2'⟩
        have hcs' : All2 (CR E ρ (σ ++ [.slice none 0 0])) (cs.set c (.p (.own S.objs.length))) vs' := by
          have := k4.set hcr c
          rwa [show vs'.set c u' = vs' from by
            apply List.ext_getElem?
            intro i
            rw [List.getElem?_set]
            split
            · rename_i e; subst e
              split
              · exact w1.symm
              · rename_i hlt
                rw [List.getElem?_eq_none (by omega)]
            · rfl] at this
        refine ⟨[.slice none 0 0], noBlk, hr.slots, hr.defers, hr.n, hr.known, ⟨L', ?_, hM'⟩, hr.pre, hr.reach⟩
        have := hO'.set (o := .blk (cs.set c (.p (.own S.objs.length))) ty) k1 (f := .row b' vs'.toArray ty) ⟨b', vs', rfl, hcs', rfl⟩
        have hLs : L'.set j (.row b' vs'.toArray ty) = L' := by
          apply List.ext_getElem?
          intro i
          rw [List.getElem?_set]
          split
          · rename_i e; subst e
            split
            · exact k2.symm
            · rename_i hlt
              rw [List.getElem?_eq_none (by omega)]
          · rfl
        rw [hLs] at this
        have hlt : j < S.objs.length := (List.getElem?_eq_some_iff.1 hj).1
        rwa [List.set_append_left _ _ hlt] at this
      · refine ⟨[], (fun u hu => by cases hu), ?_⟩
        rw [List.append_nil]
        have hcs' : All2 (CR E ρ σ) (cs.set c (.p (.tm (.nil e) (.list e)))) vs := hset ⟨dflt E.Δ (.list e), fun _ => rfl, dflt_has _ _, u2', rfl⟩ h4
        refine ⟨h.slots, h.defers, h.n, h.known, ⟨L, ?_, hM⟩, h.pre, h.reach⟩
        have := hO.set (o := .blk (cs.set c (.p (.tm (.nil e) (.list e)))) ty) h1 (f := .row b vs.toArray ty) ⟨b, vs, rfl, hcs', rfl⟩
        have hLs : L.set j (.row b vs.toArray ty) = L := by
          apply List.ext_getElem?
          intro i
          rw [List.getElem?_set]
          split
          · rename_i e; subst e
            split
            · exact h2.symm
            · rename_i hlt
              rw [List.getElem?_eq_none (by omega)]
          · rfl
        rwa [hLs] at this
    · exact ⟨[], (fun u hu => by cases hu), by rw [List.append_nil]; exact h⟩
  · exact ⟨[], (fun u hu => by cases hu), by rw [List.append_nil]; exact h⟩
def ResR (P : Program) (a : Act) (w : World) (v : Value) : ResultVar → Prop
  | .tmp t => a.tmps.getD t undef = v
  | .cell p t => (do loadVar t (← asAddr (a.tmps.getD p undef)) : Sem Value).run P w = .ok v w
theorem resOf_ok (hW : E.Wf) (h : Rel E w0 ρ σ S a w) {r : ResultVar} {x : A1} (hr : resOf E.cx S r = some x) : ∃ v, AR E ρ σ x v ∧ ResR E.P a w v r := by
  cases r with
  | tmp t =>
    simp only [resOf] at hr
    split at hr
    · rename_i y hy
      cases hr
      obtain ⟨v, h1, h2⟩ := slot_val h.slots hy
      exact ⟨v, h2, by show a.tmps.getD t undef = v; simp [h1]⟩
    · cases hr
  | cell p ty =>
    simp only [resOf] at hr
    split at hr
    · rename_i y hy
      cases hr
      rw [Option.bind_eq_some_iff] at hy
      obtain ⟨z, hz, hq⟩ := hy
      obtain ⟨v, h1, h2⟩ := slot_val h.slots hz
      obtain ⟨L, hO, hM⟩ := h.mem
      have hev : a.eval (.tmp p) = v := by simp [Act.eval, h1]
      obtain ⟨u, u1, u2⟩ := qLoad_ok (w0 := w0) (a := a) (o := ⟨none, .load ty (.tmp p), 0, "", #[], none⟩) hW hO h.pre rfl (by rw [hev]; exact h2) hq
      refine ⟨u, u1, ?_⟩
      have hrun := u2 w hM
      unfold execOp at hrun
      simp only [hev, Instr.loadAt, Sem.run_bind] at hrun
      have hp : a.tmps.getD p undef = v := by simp [h1]
      show (do loadVar ty (← asAddr (a.tmps.getD p undef)) : Sem Value).run E.P w = .ok u w
      rw [hp]
      unfold qLoad at hq
      simp only [Option.bind_eq_some_iff] at hq
      obtain ⟨⟨b, off, dyn⟩, hr, _⟩ := hq
      obtain ⟨A, p', q, _, _, k3⟩ := opdR_ok h2 hr
      rw [k3, pt_eq] at hrun ⊢
      simp only [Instr.sureAddr, Sem.run_pure, Result.andThen_ok] at hrun
      simp only [asAddr, Sem.run_bind, Sem.run_pure, Result.andThen_ok]
      cases hl : (loadVar ty ((A.getD ⟨0, 0, none⟩).add (p' + off + q))).run E.P w with
      | ok v' w2 =>
        rw [hl] at hrun
        simp only [Result.andThen_ok, Sem.run_pure, Result.ok.injEq, Next.value.injEq] at hrun
        rw [hrun.1, hrun.2]
      | halt x w2 => rw [hl] at hrun; simp [Result.andThen] at hrun
    · cases hr
theorem resAll_ok (hW : E.Wf) (h : Rel E w0 ρ σ S a w) : ∀ {l : List ResultVar} {xs : List A1}, resAll E.cx S l = some xs → ∃ vs, All2 (AR E ρ σ) xs vs ∧ All2 (fun v r => ResR E.P a w v r) vs l
  | [], xs, e => by cases e; exact ⟨[], .nil, .nil⟩
  | r :: l, xs, e => by
    simp only [resAll, List.map_cons] at e
    cases hr : resOf E.cx S r with
    | none => rw [hr] at e; cases e
    | some x =>
      rw [hr] at e
      simp only [allSome, Option.map_eq_some_iff] at e
      obtain ⟨ys, e1, rfl⟩ := e
      obtain ⟨v, h1, h2⟩ := resOf_ok hW h hr
      obtain ⟨vs, h3, h4⟩ := resAll_ok hW h (l := l) e1
      exact ⟨v :: vs, .cons h1 h3, .cons h2 h4⟩
def resS (a : Act) : ResultVar → Sem Value
  | .tmp t => pure (a.tmps.getD t undef)
  | .cell p t => do loadVar t (← asAddr (a.tmps.getD p undef))
theorem resS_ok {P : Program} {v : Value} {r : ResultVar} (h : ResR P a w v r) : (resS a r).run P w = .ok v w := by
  cases r with
  | tmp t => have h : a.tmps.getD t undef = v := h; subst h; rfl
  | cell p t => exact h
theorem run_mapM_res {P : Program} {a : Act} {w : World} : ∀ {vs : List Value} {l : List ResultVar}, All2 (fun v r => ResR P a w v r) vs l → Sem.run P (l.mapM (resS a)) w = .ok vs w
  | [], _, h => by cases h; simp
  | v :: vs, _, h => by
    cases h with
    | cons h1 h2 =>
    rename_i r l
    have ih := run_mapM_res h2
    simp only [List.mapM_cons, Sem.run_bind, resS_ok h1, Result.andThen_ok, ih]
    rfl
theorem results_eq (fn : Func) (a : Act) : results fn a.tmps = (do let vs ← fn.results.mapM (resS a); pure (if h : vs.size = 1 then vs[0] else .tuple vs)) := by
  unfold results
  congr 1
theorem run_results {P : Program} {a : Act} {w : World} {vs : List Value} {fn : Func} (h : All2 (fun v r => ResR P a w v r) vs fn.results.toList) : (results fn a.tmps).run P w = .ok (retV vs) w := by
  have h1 := run_mapM_res h
  rw [results_eq, ← Array.toArray_toList (xs := fn.results), List.mapM_toArray, Sem.run_bind]
  have h2 : Sem.run P (List.toArray <$> fn.results.toList.mapM (resS a)) w = .ok vs.toArray w := by
    rw [← bind_pure_comp, Sem.run_bind, h1]; rfl
  rw [h2]
  simp only [Result.andThen_ok, Sem.run_pure, Result.ok.injEq, and_true]
  cases vs with
  | nil => rfl
  | cons v vs =>
    cases vs with
    | nil => rfl
    | cons _ _ => rfl
theorem litD_ok (h : Rel E w0 ρ σ S a w) {on : Bool} {e : Nat} {ct : Tm} (hl : litD E.cx on S o = some (e, ct)) :
    ∃ A x w' u, (∀ k, blkV x = some k → w.heap.size ≤ k) ∧ Below w.heap.size w w' ∧ (execOp a.eval o).run E.P w = .ok (.value u) w' ∧
      Rel E w0 (ρ ++ [.list (.slice A (den E.Δ ρ ct).xs.length (den E.Δ ρ ct).xs.length) (E.Δ.row e).length (den E.Δ ρ ct).xs]) (σ ++ [x]) (litSt S o.dst e ct) (a.put o.dst u) w' := by
  unfold litD at hl
  split at hl
  case isFalse => cases hl
  split at hl
  case h_2 => cases hl
  rename_i t n parts ho
  split at hl
  case h_2 => cases hl
  rename_i e' hu
  simp only [Option.bind_eq_some_iff] at hl
  obtain ⟨ps, hps, ct', hct, hl⟩ := hl
  split at hl
  case isFalse => cases hl
  rename_i hc
  cases hl
  obtain ⟨w', b1, b2, b3, b4⟩ := build_ok h ho hu hps hct hc
  have hobj : S.objs.length = σ.length := by obtain ⟨L, hO, _⟩ := h.mem; exact hO.l1
  obtain ⟨A, c, s1, s2⟩ := b4.share (j := S.objs.length) (r := e) (t := ct) (by simp)
  rw [hobj, List.getElem?_append_right (Nat.le_refl _), Nat.sub_self] at s1
  simp only [List.getElem?_cons_zero, Option.some.injEq, Value.slice.injEq] at s1
  obtain ⟨_, s3, s4⟩ := s1
  have s5 : c = (den E.Δ ρ ct).xs.length := by omega
  rw [s5] at s2
  exact ⟨A, _, w', _, b3, b1, b2, s2⟩
theorem run_append_full {P : Program} {t ty e : TypeId} {i : TypeInfo} {z : Value} (bytes : Nat) (ht : P.underlying t = some (.slice e)) (hi : P.info? e = some i) (hz : i.zero = some z) {sz : Nat}
    (hsize : i.size = sz) (hby : i.bytes = bytes) (hzs : z.cells.size = sz) {A : Option Addr} {n m : Nat} {xs news : List Value} {x : Value} (hs : Rd w sz (.slice A n n) n xs) (hr : Rd w sz x m news)
    (h63 : n + m ≤ maxLen) (hbytes : (n + m) * bytes ≤ 140737488355328) (hm : 1 ≤ m) :
    ∃ v' w', (Builtin.append_ #[t, t] ty #[.slice A n n, x]).run P w = .ok v' w' ∧ Ow w' w.heap.size sz v' (n + m) (xs ++ news) ∧ Below w.heap.size w w' := by
  subst hsize hby
  obtain ⟨A0, c0, e0, hc, hl, ha⟩ := hs
  cases e0
  obtain ⟨A', c', rfl, hc', hl', ha'⟩ := hr
  have hlen : (xs ++ news).length = (n + m) * i.size := by rw [List.length_append, hl, hl', Nat.add_mul]
  obtain ⟨a, rfl, hab, hnews⟩ := ha' (by omega)
  have h63' : ((n + m : Nat) : Int) ≤ 9223372036854775807 := by simp only [maxLen] at h63; omega
  have hrun := append_grow_any t ty e i z ht hi hz w A n n xs hl ha a m c' news hl' hnews (fun hn => by
    subst hn
    apply Classical.byContradiction
    intro h
    obtain ⟨ad, e1, _⟩ := ha (by omega)
    cases e1) (by omega) h63' (growslice_fits (by omega) hbytes)
  have hge := grownCap_ge w (n + m) n e
  have hsz : ∀ q : Nat, (xs.toArray ++ news.toArray ++ Builtin.zeroCells z.cells (q - (n + m))).size = (n + m) * i.size + (q - (n + m)) * i.size := fun q => by
    simp only [Array.size_append, List.size_toArray, size_zeroCells, hzs, hl, hl', Nat.add_mul]
  generalize grownCap w (n + m) n e = q at *
  refine ⟨_, _, hrun, ⟨some ⟨w.heap.size, 0, none⟩, q, rfl, hge, hlen, fun _ => ⟨⟨w.heap.size, 0, none⟩, rfl, by simp, ?_⟩, fun _ => ⟨w.heap.size, 0, rfl, Nat.le_refl _, by simp, fun j hj => ?_⟩⟩, ⟨rfl, rfl, rfl, by simp, fun k hk => (Below.heap_alloc w.drew _ k hk)⟩⟩
  · intro j u hu
    rw [Addr.add_lit, Nat.zero_add]
    have h := World.cell?_alloc_new (w := w.drew) (xs.toArray ++ news.toArray ++ Builtin.zeroCells z.cells (q - (n + m))) e j
    rw [World.size_drew] at h
    rw [h, Array.getElem?_append_left (by
      have := (List.getElem?_eq_some_iff.1 hu).1
      simpa using this)]
    simpa using hu
  · rw [Nat.zero_add]
    have h := World.cell?_alloc_new (w := w.drew) (xs.toArray ++ news.toArray ++ Builtin.zeroCells z.cells (q - (n + m))) e j
    have h' := World.frozen?_alloc_new (w := w.drew) (xs.toArray ++ news.toArray ++ Builtin.zeroCells z.cells (q - (n + m))) e j
    rw [World.size_drew] at h h'
    refine ⟨?_, h'⟩
    rw [h]
    have hjl : j < (xs.toArray ++ news.toArray ++ Builtin.zeroCells z.cells (q - (n + m))).size := by
      rw [hsz, ← Nat.add_mul, Nat.add_sub_cancel' hge]; exact hj
    rw [Array.getElem?_eq_getElem hjl]; rfl
theorem evalA_ok {obs : List Tm} (h : Rel E w0 ρ σ S a w) (he : evalA E.cx S o = some (S', obs)) (hob : obsOk E.Δ ρ obs) : ∃ v w' u, (∀ x ∈ v, ∀ k, blkV x = some k → w.heap.size ≤ k) ∧ Below w.heap.size w w' ∧ (execOp a.eval o).run E.P w = .ok (.value u) w' ∧ Rel E w0 ρ (σ ++ v) S' (a.put o.dst u) w' := by
  unfold evalA at he
  split at he
  case h_2 => cases he
  rename_i c ho
  obtain ⟨cal, args, tys⟩ := c
  split at he
  case h_2 => cases he
  rename_i x y t t' g1 g2 g3
  simp only at g1 g2 g3
  have g2' : args = #[x, y] := by rw [← Array.toArray_toList (xs := args), g2]
  have g3' : tys = #[t, t'] := by rw [← Array.toArray_toList (xs := tys), g3]
  subst g1 g2' g3'
  split at he
  case h_2 => cases he
  rename_i e hu
  split at he
  case isFalse => cases he
  rename_i htt
  subst htt
  split at he
  case h_2 => cases he
  rename_i u r r' u' hx cy
  split at he
  case isFalse => cases he
  rename_i hrr
  subst hrr
  split at he
  case h_2 => cases he
  rename_i i hi
  split at he
  case isFalse => cases he
  rename_i hsz
  obtain ⟨z1, z2, z3⟩ := hsz
  cases he
  obtain ⟨L, hO, hM⟩ := h.mem
  have hxv := opd_ok h.slots x
  have hyv := opd_ok h.slots y
  rw [hx] at hxv
  obtain ⟨d, d1, d2, d3, _⟩ := hxv
  obtain ⟨ys, y1, y2, y3⟩ := contentOf_ok h hO hM hyv cy
  have hok := h.ok_den u
  rw [d1.now] at hok
  cases d2 with
  | list _ A n cc xs a1 a2 =>
  have o1 := hob (.cmp .eq (.cap u) (.len u)) (by simp)
  have o2 := hob (.cmp .ge (.len u') (.int .i64 1)) (by simp)
  have o3 := hob (.cmp .le (.len (.app (.app .emp u) u')) (.int .i64 (140737488355328 / max 1 i.bytes : Nat))) (by simp)
  have e3 := y1 []
  simp only [List.append_nil] at e3
  have hx1 : (den E.Δ ρ u).xs = xs := by rw [d1.now]; rfl
  have hx2 : capD (den E.Δ ρ u) = cc := by rw [d1.now]; rfl
  have hx3 : ∀ l, (Dat.rows l).xs = l := fun _ => rfl
  simp only [den, hx1, hx2, hx3, e3, Dat.toInt, Cmp.of, Dat.bool.injEq, decide_eq_true_eq, beq_iff_eq, List.length_append, List.nil_append] at o1 o2 o3
  cases hok with
  | list _ _ _ hrd _ _ =>
  have hn : n = xs.length := by
    obtain ⟨A', c', e', _⟩ := hrd
    cases e'; rfl
  subst hn
  have hcc : cc = xs.length := by omega
  subst hcc
  have hbound : (xs.length + ys.length : Nat) ≤ 140737488355328 / max 1 i.bytes := by exact_mod_cast o3
  have hb1 : (xs.length + ys.length) * max 1 i.bytes ≤ 140737488355328 := by
    have := Nat.mul_le_mul_right (max 1 i.bytes) hbound
    exact Nat.le_trans this (Nat.div_mul_le_self _ _)
  have hb2 : (xs.length + ys.length) * i.bytes ≤ 140737488355328 := Nat.le_trans (Nat.mul_le_mul_left _ (Nat.le_max_right 1 i.bytes)) hb1
  have hb3 : xs.length + ys.length ≤ maxLen := by
    have : xs.length + ys.length ≤ (xs.length + ys.length) * max 1 i.bytes := Nat.le_mul_of_pos_right _ (Nat.lt_of_lt_of_le Nat.one_pos (Nat.le_max_left _ _))
    unfold maxLen; omega
  cases hz : i.zero with
  | none => rw [hz] at z2; cases z2
  | some z =>
  have z2' : z.cells.size = (E.Δ.row r).length := by rw [hz] at z2; simp only [Option.map_some, Option.some.injEq] at z2; rw [z2, z1]; rfl
  obtain ⟨v', w', hrun, hs', hb⟩ := run_append_full (P := E.P) (t := t) (ty := o.type) i.bytes hu hi hz z1 rfl z2' hrd y3 hb3 hb2 (by omega)
  have hs2 := hs'
  obtain ⟨A', c', rfl, _⟩ := hs2
  refine ⟨[.slice A' (xs.length + ys.length) c'], w', .slice A' (xs.length + ys.length) c', fun x hx k hk => ?_, hb, ?_, ?_⟩
  · rw [List.mem_singleton.1 hx] at hk
    exact (hs'.blk_lt k hk).1
  · have d3' : a.eval x = .slice A xs.length xs.length := d3
    unfold execOp
    simp only [ho, resolve, invoke, builtin, Sem.run_bind, Sem.run_pure, Result.andThen_ok, List.map_toArray, List.map_cons, List.map_nil, d3', hrun]
  · refine h.newOwn (xs := xs ++ ys) hb (by rw [flatV_append]; exact hs') (fun e => ?_) ?_ (by simp) o.dst
    · have hx4 : (den E.Δ (ρ ++ e) u).xs = xs := by rw [d1 e]; rfl
      simp only [den, hx4, hx3, y1 e, List.nil_append]
    · cases y2 with
      | rows _ _ b1 b2 =>
      exact .rows r _ (fun row hr => by rcases List.mem_append.1 hr with hr | hr; exact a1 row hr; exact b1 row hr) (fun row hr => by rcases List.mem_append.1 hr with hr | hr; exact a2 row hr; exact b2 row hr)
theorem All2.dropA {α β : Type} {R : α → β → Prop} : ∀ {l : List α} {m : List β} (k : Nat), All2 R l m → All2 R (l.drop k) (m.drop k)
  | _, _, 0, h => h
  | _, _, k + 1, .nil => .nil
  | _, _, k + 1, .cons _ t => t.dropA k
theorem All2.takeA {α β : Type} {R : α → β → Prop} : ∀ {l : List α} {m : List β} (k : Nat), All2 R l m → All2 R (l.take k) (m.take k)
  | _, _, 0, _ => by rw [List.take_zero, List.take_zero]; exact .nil
  | _, _, k + 1, .nil => .nil
  | _, _, k + 1, .cons h t => .cons h (t.takeA k)
def idxV : Nat → List Value → List (Nat × Value)
  | _, [] => []
  | k, v :: l => (k, v) :: idxV (k + 1) l
theorem idx_ok : ∀ {cs : List C} {vs : List Value} (k : Nat), All2 (CR E ρ σ) cs vs → cs.all C.one = true → All2 (fun (p : Nat × List C) (q : Nat × Value) => p.1 = q.1 ∧ All2 (CR E ρ σ) p.2 q.2.cells.toList) (idxC k cs) (idxV k vs) ∧ (idxV k vs).map (·.2) = vs ∧ (∀ v ∈ vs, v.oneCell' = true) ∧ (idxC k cs).length = cs.length
  | [], _, k, .nil, _ => ⟨.nil, rfl, by simp, rfl⟩
  | c :: cs, v :: _, k, .cons h t, h1 => by
    rw [List.all_cons, Bool.and_eq_true] at h1
    obtain ⟨g1, g2, g3, g4⟩ := idx_ok (k + 1) t h1.2
    have hv := CR.oneCell h h1.1
    refine ⟨.cons ⟨rfl, ?_⟩ g1, by show v :: _ = _; rw [g2], fun u hu => ?_, by show _ + 1 = _ + 1; rw [g4]⟩
    · show All2 _ [c] v.cells.toList
      rw [cells_of_one hv]
      exact .cons h .nil
    · rcases List.mem_cons.1 hu with rfl | hu
      · exact hv
      · exact g3 u hu
theorem flat_one : ∀ {vs : List Value}, (∀ v ∈ vs, v.oneCell' = true) → vs.flatMap (fun v => v.cells.toList) = vs
  | [], _ => rfl
  | v :: vs, h => by
    rw [List.flatMap_cons, cells_of_one (h v (List.mem_cons_self ..)), flat_one fun u hu => h u (List.mem_cons_of_mem _ hu)]; rfl
theorem Rel.shareB (h : Rel E w0 ρ σ S a w) {t j off n r ty : Nat} {cs : List C} {ct : Tm} (ht : S.slots[t]? = some (.v (.c (.p (.sb (.ob j) off [] n))))) (hj : S.objs[j]? = some (.blk cs ty))
    (hn : ((cs.drop off).take n).length = n) (hone : ((cs.drop off).take n).all C.one = true) (hr1 : (E.Δ.row r).length = 1) (hct : rowsTm (E.Δ.row r) 0 .emp (idxC 0 ((cs.drop off).take n)) = some ct) :
    ∃ A c, Rel E w0 (ρ ++ [.list (.slice A (den E.Δ ρ ct).xs.length c) (E.Δ.row r).length (den E.Δ ρ ct).xs]) σ (S.shareB t j r) a w := by
  obtain ⟨L, hO, hM⟩ := h.mem
  obtain ⟨v, f, h1, h2, b, vs, rfl, h4, rfl⟩ := hO.get j _ hj
  obtain ⟨v', k1, k2⟩ := h.slots.get ht
  obtain ⟨A0, p, q, m, ⟨b', hb', hA0, hp⟩, hq, hnm, hv'⟩ := k2
  rw [h1] at hb'
  cases hb'
  have hq : q = 0 := hq
  subst hA0 hp hq
  have h5 : All2 (CR E ρ σ) ((cs.drop off).take n) ((vs.drop off).take n) := (h4.dropA off).takeA n
  obtain ⟨g1, g2, g3, g4⟩ := idx_ok 0 h5 hone
  obtain ⟨ys, y1, y2, y3, y4, _, _⟩ := rowsTm_ok g1 (fun e => rfl) hct
  rw [g2, flat_one g3] at y4
  rw [List.nil_append] at y1
  rw [g4, hn] at y3
  rw [y1.now]
  simp only [Dat.xs]
  have hv2 : v' = .slice (some ⟨b, off, none⟩) ys.length m := by
    rw [hv', y3]
    simp only [Option.getD_some, Nat.zero_add, Nat.add_zero, Addr.add_lit]
  have hvs : ((vs.drop off).take n).length = n := by
    have := h5.length
    omega
  have hrow : Row w b vs.toArray ty := hM.holds _ (List.mem_cons_of_mem _ (List.mem_of_getElem? h2))
  have hcell : ∀ i u, ((vs.drop off).take n)[i]? = some u → w.cell? ⟨b, off + i, none⟩ = some u := fun i u hu => by
    refine Row.cell hrow ?_
    rw [List.getElem?_take] at hu
    split at hu
    · rw [List.getElem?_drop] at hu
      simpa using hu
    · cases hu
  generalize hd : (Dat.list (.slice (some ⟨b, off, none⟩) ys.length m) (E.Δ.row r).length ys) = d
  refine ⟨some ⟨b, off, none⟩, m, ?_⟩
  rw [hd]
  have hgood : Good w (AtL ρ) (.rows ys) := by
    have := den_good (Δ := E.Δ) (p := AtL ρ) (w := w) (fun d hd => ⟨h.ok d hd, fun k hk => ⟨d, hd, hk⟩⟩) ct
    rwa [y1.now] at this
  have hrd : Rd w (E.Δ.row r).length (.slice (some ⟨b, off, none⟩) ys.length m) ys.length (flatV ys) := by
    refine ⟨_, _, rfl, by omega, ?_, fun hpos => ⟨_, rfl, hrow.lt, fun i u hu => ?_⟩⟩
    · rw [y4, hvs, hr1, y3]; omega
    · rw [y4] at hu
      rw [Addr.add_lit]
      exact hcell i u hu
  have hok : OkD w d := by
    subst hd
    exact .list _ _ _ hrd (fun row hr e he => (hgood.rowsIn (d := .rows ys) hr he).1) (.row hrow)
  have hat : ∀ k, AtD d k → AtL ρ k ∨ k = b := fun k hk => by
    subst hd
    cases hk with
    | here hr => exact .inr hr.2
    | list hr he hk => exact .inl ((hgood.rowsIn (d := .rows ys) hr he).2 k hk)
  have hhas : Has E.Δ (.list r) d := by
    subst hd
    exact .list r _ _ _ ys (fun row hrow => (y2 row hrow).1) (fun row hrow c s e hs he => (y2 row hrow).2 c s e hs he)
  have hvar : CPR E (ρ ++ [d]) σ (.tm (.var S.n) (.list r)) v' := by
    refine ⟨d, Den.var (by rw [h.n]; simp), hhas, ?_, rfl⟩
    subst hd; exact hv2
  have hjL : j < L.length := (List.getElem?_eq_some_iff.1 h2).1
  have hM2 : Mem none w0 w (baseF E (ρ ++ [d]) :: L.set j deadF) := by
    refine hM.pick (fun i => if i = j then none else some i) ⟨⟨fun e he => ?_, h.globs⟩, baseFirm _ _⟩ rfl (fun k hk => ?_) (fun i f hf => ?_) (fun i i' q h1 h2 => ?_)
    · rcases List.mem_append.1 he with he | he
      · exact h.ok e he
      · rw [List.mem_singleton.1 he]; exact hok
    · rcases hk with hk | hk
      · rcases atL_append hk with hk | ⟨e, he, hk⟩
        · exact .inl (.inl hk)
        · rw [List.mem_singleton.1 he] at hk
          rcases hat k hk with hk | hk
          · exact .inl (.inl hk)
          · exact .inr ⟨j, _, h2, hk, fun i e => by split at e; cases e; cases e; omega⟩
      · exact .inl (.inr hk)
    · rw [List.getElem?_set] at hf
      by_cases e : j = i
      · rw [if_pos e, if_pos (by omega)] at hf; cases hf; exact .inl rfl
      · rw [if_neg e] at hf; exact .inr ⟨i, if_neg (by omega), hf⟩
    · split at h1
      · cases h1
      · split at h2
        · cases h2
        · cases h1; cases h2; rfl
  have hO2 : ObsR E (ρ ++ [d]) σ (S.objs.set j .dead) (L.set j deadF) := (hO.more [d]).set (o := .dead) (f := deadF) h1 rfl
  refine ⟨?_, h.defers, by simp [St.shareB, h.n], fun x hx => (h.known x hx).more _, ⟨_, hO2, hM2⟩, h.pre.trans (List.prefix_append _ _), fun k hk => ?_⟩
  · refine All2.of (by simp [St.shareB, h.slots.length]) fun i x v hx hv => ?_
    simp only [St.shareB, List.getElem?_set] at hx
    split at hx
    · rename_i e
      subst e
      split at hx
      · cases hx
        rw [k1] at hv
        cases hv
        exact hvar
      · cases hx
    · obtain ⟨v', l1, l2⟩ := h.slots.get hx
      rw [hv] at l1; cases l1
      simpa using l2.more [d] []
  · rcases atL_append hk with hk | ⟨e, he, hk⟩
    · exact h.reach k hk
    · rw [List.mem_singleton.1 he] at hk
      rcases hat k hk with hk | hk
      · exact h.reach k hk
      · subst hk
        rcases hM.own _ (List.mem_cons_of_mem _ (List.mem_of_getElem? h2)) rfl k rfl with hk | hk
        · exact .inl hk
        · cases hk
theorem blkD_share (h : Rel E w0 ρ σ S a w) {on : Bool} {sgs : Nat → Option Sig} {t j r : Nat} {ct : Tm} (hb : blkD E.cx on S sgs o = some (t, j, r, ct)) :
    ∃ A c, Rel E w0 (ρ ++ [.list (.slice A (den E.Δ ρ ct).xs.length c) (E.Δ.row r).length (den E.Δ ρ ct).xs]) σ (S.shareB t j r) a w := by
  have key : ∀ q, blkTm E.cx S q = some (t, j, r, ct) → ∃ A c, Rel E w0 (ρ ++ [.list (.slice A (den E.Δ ρ ct).xs.length c) (E.Δ.row r).length (den E.Δ ρ ct).xs]) σ (S.shareB t j r) a w := fun q hq => by
    unfold blkTm at hq
    split at hq
    · rename_i h1 h2
      split at hq
      · rename_i hc
        obtain ⟨c1, c2, c3, c4⟩ := hc
        rw [Option.map_eq_some_iff] at hq
        obtain ⟨ct', hct, e⟩ := hq
        cases e
        rw [c1] at h1
        exact h.shareB h1 h2 c2 c3 c4 hct
      · cases hq
    · cases hq
  unfold blkD at hb
  split at hb
  · split at hb
    · split at hb
      · split at hb
        · rw [Option.bind_eq_some_iff] at hb
          obtain ⟨q, _, hq⟩ := hb
          exact key q hq
        · cases hb
      · cases hb
    · cases hb
  · cases hb
end
end Go.Proofs.YtcigbgpdikadpaaDoor
end
