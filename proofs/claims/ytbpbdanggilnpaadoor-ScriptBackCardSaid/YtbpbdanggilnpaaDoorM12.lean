import Derived.Test.YtbpbdanggilnpaaDoorM11

set_option linter.unusedVariables false
set_option linter.unusedSimpArgs false

section
namespace Go.Proofs.YtbpbdanggilnpaaDoor
open Go.RowKit
set_option linter.unusedVariables false

def PC.ok (B : Nat) : PC → Bool
  | .v t => t.one
  | .b k _ => decide (k < B)
def Sig.okP (s : Sig) : Bool := s.isP && !s.own && grpOk s.res && s.ins.all fun p => (p.1 || p.2.length == 1) && p.2.all (PC.ok s.blks.length)
theorem Prom.fr {E : Env} (hfr : E.fr = Frm.none) {f : FuncId} {sg : Sig} {Φ : Spec} (F : Frm) (op : World → Prop) (oq : Nat → Prop) (old : Nat → Prop) (s0 : List Value) (h : Prom E f sg Φ) : Prom { E with fr := F, op := op, oq := oq, old := old, s0 := s0 } f sg Φ := by
  obtain ⟨h1, h2⟩ := h
  refine ⟨h1, ?_⟩
  by_cases hb : sg.isP = false
  · rw [if_pos hb] at h2 ⊢
    exact ⟨h2.1, fun w ds Q a b c d e => h2.2 w ds Q a b c ⟨d.1, d.2.1, by rw [hfr]; trivial⟩ e⟩
  · rw [if_neg hb] at h2 ⊢
    exact h2
section
variable {E : Env} {w0 w w' : World} {ρ ρ' : List Dat} {σ σ' : List Value} {S S' : St} {a : Act} {L : List Fact} {o : Oper}
theorem range_at {B k : Nat} (h : k < B) : (List.range B)[k]? = some k := List.getElem?_range h
theorem pcC_ok {B : Nat} {bs : List Nat} (hJ : JB σ (List.range B) bs) : ∀ {l : List PC} {ds : List Dat} {n : Nat}, All2 (Has E.Δ) (l.flatMap PC.srt) ds → l.all (PC.ok B) = true → (∀ (i : Nat) d, ds[i]? = some d → ρ[n + i]? = some d) → ∀ r, All2 (CR E ρ σ) (pcC l n) (pcV bs l (ds ++ r))
  | [], _, _, h, _, _, _ => .nil
  | .v s :: l, _, n, h, ho, hv, r => by
    simp only [List.flatMap_cons, PC.srt, List.cons_append, List.nil_append] at h
    cases h with
    | cons h1 h2 =>
    rename_i d ds
    simp only [List.all_cons, Bool.and_eq_true] at ho
    refine .cons ⟨d, Den.var (by simpa using hv 0 d rfl), h1, rfl, ho.1⟩ (pcC_ok hJ h2 ho.2 (fun i d hd => ?_) r)
    rw [show n + 1 + i = n + (i + 1) by omega]
    exact hv (i + 1) d (by simpa using hd)
  | .b k off :: l, ds, n, h, ho, hv, r => by
    simp only [List.flatMap_cons, PC.srt, List.nil_append] at h
    simp only [List.all_cons, Bool.and_eq_true, PC.ok, decide_eq_true_eq] at ho
    obtain ⟨b, b1, b2⟩ := hJ.get (range_at ho.1)
    refine .cons ⟨some ⟨b, 0, none⟩, 0, 0, ⟨b, b2, rfl, rfl⟩, rfl, ?_⟩ (pcC_ok hJ h ho.2 hv r)
    rw [Nat.zero_add, Nat.add_zero, ptAddr, List.getD_eq_getElem?_getD, b1]; rfl
theorem insA_ok {B : Nat} {bs : List Nat} (hJ : JB σ (List.range B) bs) : ∀ {l : List (Bool × List PC)} {ds : List Dat} {n : Nat}, All2 (Has E.Δ) (l.flatMap fun p => p.2.flatMap PC.srt) ds → (l.all fun p => (p.1 || p.2.length == 1) && p.2.all (PC.ok B)) = true → (∀ (i : Nat) d, ds[i]? = some d → ρ[n + i]? = some d) → All2 (AR E ρ σ) (insA l n) (insV bs l ds)
  | [], _, _, h, _, _ => .nil
  | p :: l, ds, n, h, ho, hv => by
    rw [List.flatMap_cons] at h
    obtain ⟨h1, h2⟩ := All2.split h
    simp only [List.all_cons, Bool.and_eq_true] at ho
    obtain ⟨⟨ho1, ho2⟩, ho3⟩ := ho
    have hl : (p.2.flatMap PC.srt).length ≤ ds.length := by have := h.length; rw [List.length_append] at this; omega
    have hrec := insA_ok hJ (l := l) (n := n + (p.2.flatMap PC.srt).length) h2 ho3 (fun i d hd => by
      rw [List.getElem?_drop] at hd
      rw [Nat.add_assoc]; exact hv _ d hd)
    have hc := pcC_ok (ρ := ρ) hJ (n := n) h1 ho2 (fun i d hd => hv i d (by
      rw [List.getElem?_take] at hd
      split at hd
      · exact hd
      · cases hd)) (ds.drop (p.2.flatMap PC.srt).length)
    rw [List.take_append_drop] at hc
    simp only [insA, insV]
    refine .cons ?_ hrec
    by_cases hag : p.1 = true
    · rw [if_pos hag, if_pos hag]; exact ⟨_, hc, rfl⟩
    · rw [if_neg hag, if_neg hag]
      have hag' : p.1 = false := by simpa using hag
      rw [hag', Bool.false_or, beq_iff_eq] at ho1
      match p, ho1, hc with
      | (_, [x]), _, hc =>
        cases x <;> (cases hc with | cons hc _ => exact hc)
theorem insA_len : ∀ (l : List (Bool × List PC)) (n : Nat), (insA l n).length = l.length
  | [], _ => rfl
  | p :: l, n => by simp [insA, insA_len l]
theorem insV_len (bs : List Nat) : ∀ (l : List (Bool × List PC)) (ds : List Dat), (insV bs l ds).length = l.length
  | [], _ => rfl
  | p :: l, n => by simp [insV, insV_len bs l]
/-- what is known where such a call begins -/
theorem startP_ok {sg : Sig} (hsg : sg.okP = true) {op : World → Prop} {oq : Nat → Prop} (hop : E.op = op) (hoq : E.oq = oq) {da db : List Dat} {bs : List Nat} {rows owns : List Fact} (hs : All2 (Has E.Δ) sg.asrt da) (hB : BlkV E.Δ bs sg.blks bs db rows owns)
    (hM : Mem none w0 w (baseF E (E.γ ++ (da ++ db)) :: (rows ++ (owns ++ [Fact.ogen op oq])))) (hold : ∀ k, AtL (da ++ db) k ∨ AtL E.γ k → E.old k) (nt : Nat) :
    Rel E w0 (E.γ ++ (da ++ db)) ((rows ++ (owns ++ [Fact.ogen op oq])).map facV) (startP sg E.γ.length nt) { tmps := (insV bs sg.ins da).toArray ++ Array.replicate (nt - (insV bs sg.ins da).toArray.size) undef, defers := [] } w := by
  unfold Sig.okP at hsg
  simp only [Bool.and_eq_true] at hsg
  obtain ⟨⟨⟨_, _⟩, _⟩, hins⟩ := hsg
  obtain ⟨hl1, hl2⟩ := hB.lens
  have hJ : JB ((rows ++ (owns ++ [Fact.ogen op oq])).map facV) (List.range sg.blks.length) bs := by
    refine All2.of (by rw [List.length_range, hl2]) fun i j b hi hb => ?_
    obtain ⟨hl, e⟩ := List.getElem?_eq_some_iff.1 hi
    rw [List.getElem_range] at e
    subst e
    obtain ⟨f, f1, f2⟩ := hB.ptr.get hb
    rw [List.getElem?_map, List.getElem?_append_left (List.getElem?_eq_some_iff.1 f1).1, f1, Option.map_some, f2]
  have hv : ∀ (i : Nat) d, da[i]? = some d → (E.γ ++ (da ++ db))[E.γ.length + i]? = some d := fun i d hd => by
    rw [List.getElem?_append_right (by omega), Nat.add_sub_cancel_left]; exact lt_get hd
  have hal : sg.asrt.length = da.length := hs.length
  have hbl : sg.bsrt.length = db.length := hB.has.length
  obtain ⟨q1, q2⟩ := blkC_ok (E := E) (ρ := E.γ ++ (da ++ db)) hJ hB (E.γ.length + sg.asrt.length) sg.blks.length (fun i d hd => by
      rw [← List.append_assoc, List.getElem?_append_right (by rw [List.length_append]; omega), List.length_append, hal, Nat.add_sub_cancel_left]; exact hd)
    (fun i f hf => by
      rw [List.getElem?_map, List.getElem?_append_right (by omega), hl1, Nat.add_sub_cancel_left, List.getElem?_append_left (List.getElem?_eq_some_iff.1 hf).1, hf]; rfl)
  have hr := insA_ok (ρ := E.γ ++ (da ++ db)) hJ (n := E.γ.length) hs hins hv
  refine ⟨?_, rfl, ?_, (fun x hx => by cases hx), ⟨rows ++ (owns ++ [Fact.ogen op oq]), obs_of ?_, hM⟩, List.prefix_append _ _, fun k hk => ?_⟩
  · simp only [startP, Array.toList_append, Array.toList_replicate, List.size_toArray, insA_len, insV_len]
    exact (a1_av hr).append (All2.replicate (show VR E (E.γ ++ (da ++ db)) _ (.v (.c .undef)) undef from rfl) _)
  · simp only [startP, List.length_append]; omega
  · refine q1.append (q2.append (.cons ?_ .nil))
    exact ⟨rfl, by rw [hop, hoq]⟩
  · right
    refine hold k ?_
    rcases atL_append hk with hk | hk
    · exact .inr hk
    · exact .inl hk
theorem allO {α β : Type} {R : α → β → Prop} {l : List α} {m : List β} (h : All2 R l m) {x : α} (hx : x ∈ l) : ∃ y, R x y := by
  obtain ⟨i, hi⟩ := List.getElem?_of_mem hx
  obtain ⟨y, _, hy⟩ := h.get hi
  exact ⟨y, hy⟩
theorem takeB_n (hO : ObsR E ρ σ S.objs L) {js bs : List Nat} (hJ : JB σ js bs) : ∀ {l : List (Nat × List Cel)} {jr : List Nat} {p : List Tm × List Nat}, takeB S.objs js l jr = some p → p.2.length = (l.flatMap fun b => b.2.filter Cel.isOwn).length := by
  have hc : ∀ {l : List Cel} {cs : List C} {p : List Tm × List Nat}, takeC S.objs js l cs = some p → p.2.length = (l.filter Cel.isOwn).length := by
    intro l
    induction l with
    | nil => intro cs p e; cases cs <;> simp [takeC] at e; subst e; rfl
    | cons x l ih =>
      intro cs p e
      cases cs with
      | nil => cases x <;> simp [takeC] at e
      | cons c cs =>
        cases x with
        | v s =>
          have : ∃ t q, takeC S.objs js l cs = some q ∧ p = (t :: q.1, q.2) := by
            unfold takeC at e
            split at e
            · split at e
              · simp only [Option.map_eq_some_iff] at e
                obtain ⟨q, e1, e2⟩ := e
                exact ⟨_, q, e1, e2.symm⟩
              · cases e
            · split at e
              · simp only [Option.map_eq_some_iff] at e
                obtain ⟨q, e1, e2⟩ := e
                exact ⟨_, q, e1, e2.symm⟩
              · cases e
            · cases e
          obtain ⟨t, q, e1, rfl⟩ := this
          rw [List.filter_cons_of_neg (by simp [Cel.isOwn])]
          exact ih (p := q) e1
        | own r =>
          unfold takeC at e
          split at e
          case h_2 => cases e
          split at e
          case h_2 => cases e
          split at e
          case isFalse => cases e
          simp only [Option.map_eq_some_iff] at e
          obtain ⟨q, e1, e2⟩ := e
          subst e2
          rw [List.filter_cons_of_pos (by simp [Cel.isOwn]), List.length_cons, List.length_cons, ih e1]
        | b k =>
          unfold takeC at e
          split at e
          case h_2 => cases e
          split at e
          case isFalse => cases e
          rw [List.filter_cons_of_neg (by simp [Cel.isOwn])]
          exact ih e
  intro l
  induction l with
  | nil => intro jr p e; cases jr <;> simp [takeB] at e; subst e; rfl
  | cons x l ih =>
    intro jr p e
    cases jr with
    | nil => simp [takeB] at e
    | cons j jr =>
      unfold takeB at e
      split at e
      case h_2 => cases e
      split at e
      case isFalse => cases e
      simp only [Option.bind_eq_some_iff, Option.map_eq_some_iff] at e
      obtain ⟨q1, e1, q2, e2, e3⟩ := e
      subst e3
      rw [List.flatMap_cons, List.length_append, List.length_append, hc e1, ih e2]
theorem finP_ok (hW : E.Wf) {F : Fin} (hbl : F.sg.isP = true) {fn : Func} (hF : F.res = fn.results.toList) {bs : List Nat} (hbs : bs.length = F.sg.blks.length) (hJ : JB σ (List.range F.sg.blks.length) bs) {ts : List Tm} (h : Rel E w0 ρ σ S a w) (hf : finTms E.cx F S = some ts)
    {R : Ending → World → Prop} (hR : ∀ rr rb rows' owns', ts.map (den E.Δ ρ) = outL F.sg.pan (rr ++ rb) → All2 (Has E.Δ) (Sig.sorts F.sg.res) rr → BlkV E.Δ bs F.sg.blks bs rb rows' owns' → Mem none w0 w (baseF E (E.γ ++ (rr ++ rb)) :: (rows' ++ (owns' ++ [Fact.ogen E.op E.oq]))) →
      (∀ k, AtL (rr ++ rb) k → w0.heap.size ≤ k ∨ E.old k) → R (.returned (retV (groupV F.sg.res rr))) w) :
    bodyPost E.P fn R .normal a w := by
  unfold finTms at hf
  rw [Option.bind_eq_some_iff] at hf
  obtain ⟨l, hl, hf⟩ := hf
  rw [hbl, if_pos rfl] at hf
  obtain ⟨vs, v1, v2⟩ := resAll_ok hW h hl
  rw [hF] at v2
  split at hf
  case h_2 => cases hf
  rename_i ta p hta htb
  split at hf
  case isFalse => cases hf
  rename_i hc
  obtain ⟨hn, hown, hfr⟩ := hc
  have hts : ts.map (den E.Δ ρ) = outL F.sg.pan (ta.map (den E.Δ ρ) ++ p.1.map (den E.Δ ρ)) := by
    cases hf
    cases F.sg.pan with
    | none => exact List.map_append
    | some T => show Dat.bool true :: (ta ++ p.1).map (den E.Δ ρ) = _; rw [List.map_append]; rfl
  obtain ⟨L, hO, hM⟩ := h.mem
  obtain ⟨k1, k2⟩ := argTms_ok (a1_av v1) hta
  obtain ⟨rows, owns, hB, hr, ho⟩ := takeB_ok hO hJ hJ (show takeB S.objs (List.range F.sg.blks.length) F.sg.blks (List.range F.sg.blks.length) = some (p.1, p.2) from htb)
  have hpn := takeB_n hO hJ htb
  obtain ⟨hok, hat⟩ := den_places h (ta ++ p.1)
  rw [List.map_append] at hok hat
  refine ⟨h.defers, retV vs, run_results v2, ?_⟩
  rw [k1]
  obtain ⟨vf, ff, g1, g2, g3⟩ := hO.get _ _ hfr
  obtain ⟨_, rfl⟩ := (show vf = undef ∧ ff = .ogen E.op E.oq from g3)
  have hfs : All2 (fun j f => L[j]? = some f) (List.range F.sg.blks.length ++ (p.2 ++ [frAt F.sg])) (rows ++ (owns ++ [Fact.ogen E.op E.oq])) :=
    (hr.mono fun _ _ h => h.1).append ((ho.mono fun _ _ h => h.1).append (.cons g2 .nil))
  have hblk : ∀ j ∈ List.range F.sg.blks.length, ∃ cs ty, S.objs[j]? = some (.blk cs ty) := fun j hj => by
    obtain ⟨f, _, h2⟩ := allO hr hj; exact h2
  have hownj : ∀ j ∈ p.2, ∃ r t, S.objs[j]? = some (.own r t) := fun j hj => by
    obtain ⟨f, _, h2⟩ := allO ho hj; exact h2
  have hnd : (List.range F.sg.blks.length ++ (p.2 ++ [frAt F.sg])).Nodup := by
    rw [List.nodup_append, List.nodup_append]
    refine ⟨List.nodup_range, ⟨hn, by simp, fun x hx y hy e => ?_⟩, fun x hx y hy e => ?_⟩
    · rw [List.mem_singleton] at hy
      subst e
      obtain ⟨r, t, h2⟩ := hownj _ hx
      rw [hy, hfr] at h2; cases h2
    · subst e
      obtain ⟨cs, ty, h1⟩ := hblk _ hx
      rcases List.mem_append.1 hy with hy | hy
      · obtain ⟨r, t, h2⟩ := hownj _ hy
        rw [h1] at h2; cases h2
      · rw [List.mem_singleton] at hy
        rw [hy, hfr] at h1; cases h1
  refine hR _ _ rows owns hts k2 hB ?_ (fun k hk => h.reach k (hat k hk))
  refine hM.pick (fun i => (List.range F.sg.blks.length ++ (p.2 ++ [frAt F.sg]))[i]?) ⟨⟨fun d hd => ?_, h.globs⟩, baseFirm _ _⟩ rfl (fun k hk => .inl ?_) (fun i f hi => ?_) (fun i i' q e1 e2 => nodup_idx hnd e1 e2)
  · rcases List.mem_append.1 hd with hd | hd
    · exact h.ok d (h.pre.subset hd)
    · exact hok d hd
  · rcases hk with hk | hk
    · rcases atL_append hk with ⟨d, hd, hk⟩ | hk
      · exact .inl ⟨d, h.pre.subset hd, hk⟩
      · exact .inl (hat k hk)
    · exact .inr hk
  · obtain ⟨j, hj, hjf⟩ := hfs.get2 hi
    exact .inr ⟨j, hj, hjf⟩
/-- the contract of a function to which blocks are handed over: what its tree demands -/
theorem walkP_ok (hW : E.Wf) (hmix : E.P.follows .mixedOrders = true) (hfr : E.fr = Frm.none) {sgs : Nat → Option Sig} {Φ : Nat → Spec} (hΦ : ∀ f sg, sgs f = some sg → Prom E f sg (Φ f))
    {f : Nat} {sg : Sig} {T : Tree} (hT : walkP E.cx sgs E.γ.length f sg = T) (hsg : sg.okP = true) {Ψ : Spec} (hspec : ∀ ds Q, All2 (Has E.Δ) (sg.asrt ++ sg.bsrt) ds → Ψ ds Q → wp E.Δ Φ Q T (E.γ ++ ds) []) : HoldsP E f sg Ψ := by
  intro F op oq w0 w da db bs rows owns Q hs hB hM hΨ
  have hw := hspec (da ++ db) Q (hs.append hB.has) hΨ
  rw [← hT] at hw
  unfold walkP at hw
  split at hw
  case h_2 => exact hw.elim
  rename_i fn c hb
  obtain ⟨b1, b2, _⟩ := bodyOf_ok hb
  let E' : Env := { E with fr := F, op := op, oq := oq, old := fun k => AtL (da ++ db) k ∨ AtL E.γ k, s0 := (rows ++ (owns ++ [Fact.ogen op oq])).map facV }
  have hW' : E'.Wf := ⟨hW.srt⟩
  have hr := startP_ok (E := E') (w0 := w0) (w := w) hsg rfl rfl hs hB hM (fun k hk => hk) fn.ntmps
  have hbl : sg.isP = true := by
    unfold Sig.okP at hsg
    simp only [Bool.and_eq_true] at hsg
    exact hsg.1.1.1
  obtain ⟨hl1, hl2⟩ := hB.lens
  refine calls_of_wp b1 b2 ?_
  refine run_ok (E := E') (w0 := w0) hW' hmix (Φ := Φ) (fun f sg h => (hΦ f sg h).fr hfr _ _ _ _ _) (F := ⟨sg, fn.results.toList⟩) (Post := Q) (fun T d w hT hd hD hQ a ha => ⟨ha, .inr ⟨T, d, hT, hQ, hd, hD, rfl⟩⟩) (fun a w h => h) (fun S a w' ρ σ ts h h0 hf hQ => ?_) 100000 0 (startP sg E.γ.length fn.ntmps) _ _ _ [] _ _ w rfl (.code (.fin (List.prefix_refl _))) hr hw
  have hJ : JB σ (List.range sg.blks.length) bs := by
    refine All2.of (by rw [List.length_range, hl2]) fun i j b hi hb => ?_
    obtain ⟨hl, e⟩ := List.getElem?_eq_some_iff.1 hi
    rw [List.getElem_range] at e
    subst e
    obtain ⟨f, f1, f2⟩ := hB.ptr.get hb
    have : (E'.s0)[i]? = some (.pointer (some ⟨b, 0, none⟩)) := by
      show ((rows ++ (owns ++ [Fact.ogen op oq])).map facV)[i]? = _
      rw [List.getElem?_map, List.getElem?_append_left (List.getElem?_eq_some_iff.1 f1).1, f1, Option.map_some, f2]
    obtain ⟨x, rfl⟩ := h0
    exact lt_get this
  exact finP_ok hW' (F := ⟨sg, fn.results.toList⟩) hbl rfl hl2 hJ h hf fun rr rb rows' owns' e1 e2 e3 e4 e5 => .inl ⟨rr, rb, rows', owns', by rw [← e1]; exact hQ, e2, e3, e4, fun k hk => (e5 k hk), rfl⟩
end
end Go.Proofs.YtbpbdanggilnpaaDoor
end

section
namespace Go.Proofs.YtbpbdanggilnpaaDoor
open Go.RowKit
set_option linter.unusedVariables false

/-- data without the places where they stand -/
inductive PD where
  | int (n : Int)
  | bool (b : Bool)
  | nil
  | err (n : Int)
  | str (l : List Nat)
  | list (sz : Nat) (xs : List (List PD))
  | rows (xs : List (List PD))
  | odd
mutual
def PD.same : PD → PD → Bool
  | .int a, .int b => decide (a = b)
  | .bool a, .bool b => decide (a = b)
  | .nil, .nil => true
  | .err a, .err b => decide (a = b)
  | .str a, .str b => decide (a = b)
  | .list s a, .list t b => decide (s = t) && sameRs a b
  | .rows a, .rows b => sameRs a b
  | .odd, .odd => true
  | _, _ => false
def sameRs : List (List PD) → List (List PD) → Bool
  | [], [] => true
  | a :: l, b :: m => sameR a b && sameRs l m
  | _, _ => false
def sameR : List PD → List PD → Bool
  | [], [] => true
  | a :: l, b :: m => PD.same a b && sameR l m
  | _, _ => false
end
mutual
theorem PD.same_ok : ∀ {a b : PD}, PD.same a b = true → a = b
  | .int a, b, h => by
    cases b <;> first | (simp [PD.same] at h; done) | (simp [PD.same] at h; rw [h])
  | .bool a, b, h => by
    cases b <;> first | (simp [PD.same] at h; done) | (simp [PD.same] at h; rw [h])
  | .nil, b, h => by
    cases b <;> first | (simp [PD.same] at h; done) | rfl
  | .err a, b, h => by
    cases b <;> first | (simp [PD.same] at h; done) | (simp [PD.same] at h; rw [h])
  | .str a, b, h => by
    cases b <;> first | (simp [PD.same] at h; done) | (simp [PD.same] at h; rw [h])
  | .odd, b, h => by
    cases b <;> first | (simp [PD.same] at h; done) | rfl
  | .list s a, .list t b, h => by
    simp only [PD.same, Bool.and_eq_true, decide_eq_true_eq] at h
    rw [h.1, sameRs_ok h.2]
  | .rows a, .rows b, h => by
    simp only [PD.same] at h
    rw [sameRs_ok h]
  | .list s a, .int _, h | .list s a, .bool _, h | .list s a, .nil, h | .list s a, .err _, h | .list s a, .str _, h | .list s a, .rows _, h | .list s a, .odd, h => by simp [PD.same] at h
  | .rows a, .int _, h | .rows a, .bool _, h | .rows a, .nil, h | .rows a, .err _, h | .rows a, .str _, h | .rows a, .list _ _, h | .rows a, .odd, h => by simp [PD.same] at h
theorem sameRs_ok : ∀ {a b : List (List PD)}, sameRs a b = true → a = b
  | [], [], _ => rfl
  | a :: l, b :: m, h => by
    simp only [sameRs, Bool.and_eq_true] at h
    rw [sameR_ok h.1, sameRs_ok h.2]
  | [], _ :: _, h => by simp [sameRs] at h
  | _ :: _, [], h => by simp [sameRs] at h
theorem sameR_ok : ∀ {a b : List PD}, sameR a b = true → a = b
  | [], [], _ => rfl
  | a :: l, b :: m, h => by
    simp only [sameR, Bool.and_eq_true] at h
    rw [PD.same_ok h.1, sameR_ok h.2]
  | [], _ :: _, h => by simp [sameR] at h
  | _ :: _, [], h => by simp [sameR] at h
end
def stripV : Value → PD
  | .nilIface => .nil
  | .iface _ (.int _ n) => .err n
  | .string s => .str (s.data.toList.map UInt8.toNat)
  | _ => .odd
mutual
def strip : Dat → PD
  | .int _ n => .int n
  | .bool b => .bool b
  | .val v => stripV v
  | .list _ sz xs => .list sz (stripRs xs)
  | .rows xs => .rows (stripRs xs)
def stripRs : List (List Dat) → List (List PD)
  | [] => []
  | r :: l => stripR r :: stripRs l
def stripR : List Dat → List PD
  | [] => []
  | d :: l => strip d :: stripR l
end
theorem stripR_map : ∀ l : List Dat, stripR l = l.map strip
  | [] => by rw [stripR]; rfl
  | d :: l => by rw [stripR, stripR_map l]; rfl
theorem stripRs_map : ∀ l : List (List Dat), stripRs l = l.map fun r => r.map strip
  | [] => by rw [stripRs]; rfl
  | d :: l => by rw [stripRs, stripRs_map l, stripR_map]; rfl
theorem strip_int (k : IntKind) (n : Int) : strip (.int k n) = .int n := by rw [strip]
theorem strip_bool (b : Bool) : strip (.bool b) = .bool b := by rw [strip]
theorem strip_val (v : Value) : strip (.val v) = stripV v := by rw [strip]
theorem strip_list (v : Value) (sz : Nat) (xs : List (List Dat)) : strip (.list v sz xs) = .list sz (xs.map fun r => r.map strip) := by rw [strip, stripRs_map]
theorem strip_rows (xs : List (List Dat)) : strip (.rows xs) = .rows (xs.map fun r => r.map strip) := by rw [strip, stripRs_map]
theorem stripV_ne (v : Value) : (∀ n, stripV v ≠ .int n) ∧ (∀ b, stripV v ≠ .bool b) ∧ (∀ s l, stripV v ≠ .list s l) ∧ (∀ l, stripV v ≠ .rows l) := by
  unfold stripV
  split <;> exact ⟨by simp, by simp, by simp, by simp⟩
theorem strip_isInt {d : Dat} {n : Int} (h : strip d = .int n) : d.toInt = n := by
  cases d with
  | int k m => rw [strip_int] at h; cases h; rfl
  | bool b => rw [strip_bool] at h; cases h
  | val v => rw [strip_val] at h; exact absurd h ((stripV_ne v).1 n)
  | list v sz xs => rw [strip_list] at h; cases h
  | rows xs => rw [strip_rows] at h; cases h
theorem strip_isBool {d : Dat} {b : Bool} (h : strip d = .bool b) : d = .bool b := by
  cases d with
  | int k m => rw [strip_int] at h; cases h
  | bool b => rw [strip_bool] at h; cases h; rfl
  | val v => rw [strip_val] at h; exact absurd h ((stripV_ne v).2.1 b)
  | list v sz xs => rw [strip_list] at h; cases h
  | rows xs => rw [strip_rows] at h; cases h
theorem strip_isList {d : Dat} {s : Nat} {l : List (List PD)} (h : strip d = .list s l) : ∃ v xs, d = .list v s xs ∧ l = xs.map fun r => r.map strip := by
  cases d with
  | int k m => rw [strip_int] at h; cases h
  | bool b => rw [strip_bool] at h; cases h
  | val v => rw [strip_val] at h; exact absurd h ((stripV_ne v).2.2.1 s l)
  | list v sz xs => rw [strip_list] at h; cases h; exact ⟨v, xs, rfl, rfl⟩
  | rows xs => rw [strip_rows] at h; cases h
theorem strip_isRows {d : Dat} {l : List (List PD)} (h : strip d = .rows l) : ∃ xs, d = .rows xs ∧ l = xs.map fun r => r.map strip := by
  cases d with
  | int k m => rw [strip_int] at h; cases h
  | bool b => rw [strip_bool] at h; cases h
  | val v => rw [strip_val] at h; exact absurd h ((stripV_ne v).2.2.2 l)
  | list v sz xs => rw [strip_list] at h; cases h
  | rows xs => rw [strip_rows] at h; cases h; exact ⟨xs, rfl, rfl⟩

/-! What a term stands for, without places. -/
def PD.xs? : PD → Option (List (List PD))
  | .list _ l => some l
  | .rows l => some l
  | _ => none
def PD.int? : PD → Option Int
  | .int n => some n
  | _ => none
def PD.bool? : PD → Option Bool
  | .bool b => some b
  | _ => none
def PD.row? : PD → Option (List PD)
  | .rows (r :: _) => some r
  | _ => none
def PD.str? : PD → Option (List Nat)
  | .str l => some l
  | _ => none
/-- the bytes of rows -/
def bytesP : List (List PD) → Option (List Nat)
  | [] => some []
  | (.int n :: _) :: l => (bytesP l).map (n.toNat % 256 :: ·)
  | _ => none
def sev (Δ : Tab) (env : List PD) : Tm → Option PD
  | .var i => env[i]?
  | .int _ n => some (.int n)
  | .bool b => some (.bool b)
  | .nili => some .nil
  | .ifc a => ((sev Δ env a).bind PD.int?).map .err
  | .str l => some (.str (l.map (· % 256)))
  | .nil r => some (.list (Δ.row r).length [])
  | .ar o k a b => ((sev Δ env a).bind PD.int?).bind fun x => ((sev Δ env b).bind PD.int?).map fun y => .int (o.of k x y)
  | .cmp c a b => ((sev Δ env a).bind PD.int?).bind fun x => ((sev Δ env b).bind PD.int?).map fun y => .bool (c.of x y)
  | .not a => ((sev Δ env a).bind PD.bool?).map fun x => .bool (!x)
  | .beq a b => ((sev Δ env a).bind PD.bool?).bind fun x => ((sev Δ env b).bind PD.bool?).map fun y => .bool (x == y)
  | .and a b => ((sev Δ env a).bind PD.bool?).bind fun x => ((sev Δ env b).bind PD.bool?).map fun y => .bool (x && y)
  | .or a b => ((sev Δ env a).bind PD.bool?).bind fun x => ((sev Δ env b).bind PD.bool?).map fun y => .bool (x || y)
  | .conv k a => ((sev Δ env a).bind PD.int?).map fun x => .int (k.wrap x)
  | .len a => ((sev Δ env a).bind PD.xs?).map fun x => .int x.length
  | .elem s i c _ => ((sev Δ env s).bind PD.xs?).bind fun x => ((sev Δ env i).bind PD.int?).bind fun n => (x[n.toNat]?).bind fun r => r[c]?
  | .sel cs i _ => ((sev Δ env cs).bind PD.row?).bind fun r => ((sev Δ env i).bind PD.int?).bind fun n => r[n.toNat]?
  | .ite c a b => match (sev Δ env c).bind PD.bool? with
    | some true => sev Δ env a
    | some false => sev Δ env b
    | none => none
  | .isnil a => match sev Δ env a with
    | some .nil => some (.bool true)
    | some (.err _) => some (.bool false)
    | _ => none
  | .errI a => match sev Δ env a with
    | some (.err n) => some (.int n)
    | _ => none
  | .cut a l h => match sev Δ env a, (sev Δ env l).bind PD.int?, (sev Δ env h).bind PD.int? with
    | some (.list sz xs), some l, some h => if l.toNat ≤ h.toNat ∧ h.toNat ≤ xs.length ∧ xs.all (fun r => r.length == sz) = true then some (.list sz ((xs.take h.toNat).drop l.toNat)) else none
    | _, _, _ => none
  | .rep n row => ((sev Δ env n).bind PD.int?).bind fun k => ((sev Δ env row).bind PD.row?).map fun r => .rows (List.replicate k.toNat r)
  | .enil => some (.rows [[]])
  | .econs a b => (sev Δ env a).bind fun x => ((sev Δ env b).bind PD.row?).map fun r => .rows [x :: r]
  | .emp => some (.rows [])
  | .push a row => ((sev Δ env a).bind PD.xs?).bind fun x => ((sev Δ env row).bind PD.row?).map fun r => .rows (x ++ [r])
  | .app a b => ((sev Δ env a).bind PD.xs?).bind fun x => ((sev Δ env b).bind PD.xs?).map fun y => .rows (x ++ y)
  | .upd a i c v => ((sev Δ env a).bind PD.xs?).bind fun x => ((sev Δ env i).bind PD.int?).bind fun n => (sev Δ env v).map fun v => .rows (x.set n.toNat ((x.getD n.toNat []).set c v))
  | .seq a b => ((sev Δ env a).bind PD.str?).bind fun x => ((sev Δ env b).bind PD.str?).map fun y => .bool (x == y)
  | .slen a => ((sev Δ env a).bind PD.str?).map fun x => .int x.length
  | .sidx a i => ((sev Δ env a).bind PD.str?).bind fun x => ((sev Δ env i).bind PD.int?).bind fun n => (x[n.toNat]?).map fun (c : Nat) => .int (c : Int)
  | .scut a l h => ((sev Δ env a).bind PD.str?).bind fun x => ((sev Δ env l).bind PD.int?).bind fun l => ((sev Δ env h).bind PD.int?).map fun h => .str ((x.drop l.toNat).take (h.toNat - l.toNat))
  | .sapp a b => ((sev Δ env a).bind PD.str?).bind fun x => ((sev Δ env b).bind PD.str?).map fun y => .str (x ++ y)
  | .sof a => (((sev Δ env a).bind PD.xs?).bind bytesP).map .str
  | .sbytes a => ((sev Δ env a).bind PD.str?).map fun x => .rows (x.map fun (c : Nat) => [PD.int (c : Int)])
  | .cap _ => none
section
variable {Δ : Tab} {ρ : List Dat} {env : List PD}
theorem ba_loop (b : ByteArray) : ∀ (n i : Nat) (r : List UInt8), b.size - i = n → ByteArray.toList.loop b i r = r.reverse ++ b.data.toList.drop i
  | 0, i, r, h => by
    unfold ByteArray.toList.loop
    have hs : b.data.toList.length = b.size := Array.length_toList
    rw [if_neg (by omega), List.drop_of_length_le (by omega), List.append_nil]
  | n + 1, i, r, h => by
    unfold ByteArray.toList.loop
    have hs : b.data.toList.length = b.size := Array.length_toList
    have hi : i < b.data.toList.length := by omega
    rw [if_pos (by omega), ba_loop b n (i + 1) _ (by omega), List.drop_eq_getElem_cons hi]
    have : b.get! i = b.data.toList[i] := by
      have : i < b.data.size := by simpa using hi
      simp only [ByteArray.get!]
      rw [Array.getElem_toList, getElem!_pos b.data i this]
    rw [this]
    simp
theorem ba_toList (b : ByteArray) : b.toList = b.data.toList := (ba_loop b _ 0 [] rfl).trans (by simp)
theorem str_strip {d : Dat} {p : PD} {l : List Nat} (h : strip d = p) (hl : p.str? = some l) : (strD d).data.toList.map UInt8.toNat = l := by
  cases p <;> first | (cases hl; done) | skip
  cases hl
  cases d with
  | int k m => rw [strip_int] at h; cases h
  | bool b => rw [strip_bool] at h; cases h
  | list v sz xs => rw [strip_list] at h; cases h
  | rows xs => rw [strip_rows] at h; cases h
  | val v =>
    rw [strip_val] at h
    unfold stripV at h
    split at h <;> first | (cases h; done) | skip
    cases h; rfl
theorem strip_str (l : List UInt8) (b : ByteArray) (h : b.data.toList = l) : strip (.val (.string b)) = .str (l.map UInt8.toNat) := by
  rw [strip_val, ← h]; rfl
theorem bytesP_ok : ∀ {xs : List (List Dat)} {ys : List (List PD)} {l : List Nat}, xs.map (fun r => r.map strip) = ys → bytesP ys = some l → (xs.map fun r => UInt8.ofNat (r.headD (.int .u8 0)).toInt.toNat).map UInt8.toNat = l
  | [], _, l, rfl, h => by cases h; rfl
  | r :: xs, _, l, rfl, h => by
    cases r with
    | nil => cases h
    | cons d r =>
      simp only [List.map_cons] at h ⊢
      cases hd : strip d <;> rw [hd] at h <;> first | (cases h; done) | skip
      rename_i n
      simp only [bytesP, Option.map_eq_some_iff] at h
      obtain ⟨m, h1, rfl⟩ := h
      rw [bytesP_ok rfl h1, List.headD_cons, strip_isInt hd, UInt8.toNat_ofNat']
theorem xs_strip {d : Dat} {p : PD} {l : List (List PD)} (h : strip d = p) (hl : p.xs? = some l) : d.xs.map (fun r => r.map strip) = l := by
  cases p <;> first | (cases hl; done) | skip
  · cases hl
    obtain ⟨v, xs, rfl, e⟩ := strip_isList h
    exact e.symm
  · cases hl
    obtain ⟨xs, rfl, e⟩ := strip_isRows h
    exact e.symm
theorem row_strip {d : Dat} {p : PD} {l : List PD} (h : strip d = p) (hl : p.row? = some l) : d.row0.map strip = l := by
  cases p <;> first | (cases hl; done) | skip
  rename_i ys
  obtain ⟨xs, rfl, e⟩ := strip_isRows h
  cases xs with
  | nil => subst e; cases hl
  | cons r xs =>
    subst e
    cases hl
    rfl
theorem int_strip {d : Dat} {p : PD} {n : Int} (h : strip d = p) (hl : p.int? = some n) : d.toInt = n := by
  cases p <;> first | (cases hl; done) | skip
  cases hl
  exact strip_isInt h
theorem bool_strip {d : Dat} {p : PD} {n : Bool} (h : strip d = p) (hl : p.bool? = some n) : d = .bool n := by
  cases p <;> first | (cases hl; done) | skip
  cases hl
  exact strip_isBool h
theorem getD_strip {α β : Type} {f : α → β} {l : List α} {m : List β} (h : l.map f = m) {i : Nat} {y : β} (hy : m[i]? = some y) (e : α) : f (l.getD i e) = y := by
  subst h
  rw [List.getElem?_map, Option.map_eq_some_iff] at hy
  obtain ⟨x, hx, rfl⟩ := hy
  rw [List.getD_eq_getElem?_getD, hx]; rfl
theorem strB_strip (l : List Nat) : strip (.val (strB l)) = .str (l.map (· % 256)) := by
  rw [strip_val]
  unfold strB stripV
  simp only [List.map_map]
  congr 1
theorem sev_ok (he : ρ.map strip = env) : ∀ {t : Tm} {p : PD}, sev Δ env t = some p → strip (den Δ ρ t) = p
  | .var i, p, h => by
    simp only [sev] at h
    exact getD_strip he h _
  | .int k n, p, h => by simp only [sev, Option.some.injEq] at h; subst h; exact strip_int _ _
  | .bool b, p, h => by simp only [sev, Option.some.injEq] at h; subst h; exact strip_bool _
  | .nili, p, h => by simp only [sev, Option.some.injEq] at h; subst h; rw [den, strip_val]; rfl
  | .ifc a, p, h => by
    simp only [sev, Option.map_eq_some_iff, Option.bind_eq_some_iff] at h
    obtain ⟨n, ⟨q, h1, h2⟩, rfl⟩ := h
    rw [den, int_strip (sev_ok he h1) h2, strip_val]; rfl
  | .str l, p, h => by simp only [sev, Option.some.injEq] at h; subst h; exact strB_strip l
  | .nil r, p, h => by simp only [sev, Option.some.injEq] at h; subst h; rw [den, strip_list]; rfl
  | .ar o k a b, p, h => by
    simp only [sev, Option.map_eq_some_iff, Option.bind_eq_some_iff] at h
    obtain ⟨n, ⟨q, h1, h2⟩, m, ⟨q', h3, h4⟩, rfl⟩ := h
    rw [den, int_strip (sev_ok he h1) h2, int_strip (sev_ok he h3) h4, strip_int]
  | .cmp c a b, p, h => by
    simp only [sev, Option.map_eq_some_iff, Option.bind_eq_some_iff] at h
    obtain ⟨n, ⟨q, h1, h2⟩, m, ⟨q', h3, h4⟩, rfl⟩ := h
    rw [den, int_strip (sev_ok he h1) h2, int_strip (sev_ok he h3) h4, strip_bool]
  | .not a, p, h => by
    simp only [sev, Option.map_eq_some_iff, Option.bind_eq_some_iff] at h
    obtain ⟨n, ⟨q, h1, h2⟩, rfl⟩ := h
    rw [den, bool_strip (sev_ok he h1) h2, strip_bool]; rfl
  | .beq a b, p, h => by
    simp only [sev, Option.map_eq_some_iff, Option.bind_eq_some_iff] at h
    obtain ⟨n, ⟨q, h1, h2⟩, m, ⟨q', h3, h4⟩, rfl⟩ := h
    rw [den, bool_strip (sev_ok he h1) h2, bool_strip (sev_ok he h3) h4, strip_bool]; rfl
  | .and a b, p, h => by
    simp only [sev, Option.map_eq_some_iff, Option.bind_eq_some_iff] at h
    obtain ⟨n, ⟨q, h1, h2⟩, m, ⟨q', h3, h4⟩, rfl⟩ := h
    rw [den, bool_strip (sev_ok he h1) h2, bool_strip (sev_ok he h3) h4, strip_bool]; rfl
  | .or a b, p, h => by
    simp only [sev, Option.map_eq_some_iff, Option.bind_eq_some_iff] at h
    obtain ⟨n, ⟨q, h1, h2⟩, m, ⟨q', h3, h4⟩, rfl⟩ := h
    rw [den, bool_strip (sev_ok he h1) h2, bool_strip (sev_ok he h3) h4, strip_bool]; rfl
  | .conv k a, p, h => by
    simp only [sev, Option.map_eq_some_iff, Option.bind_eq_some_iff] at h
    obtain ⟨n, ⟨q, h1, h2⟩, rfl⟩ := h
    rw [den, int_strip (sev_ok he h1) h2, strip_int]
  | .len a, p, h => by
    simp only [sev, Option.map_eq_some_iff, Option.bind_eq_some_iff] at h
    obtain ⟨n, ⟨q, h1, h2⟩, rfl⟩ := h
    have := xs_strip (sev_ok he h1) h2
    rw [den, strip_int, ← this, List.length_map]
  | .elem s i c t, p, h => by
    simp only [sev, Option.bind_eq_some_iff] at h
    obtain ⟨x, ⟨q, h1, h2⟩, n, ⟨q', h3, h4⟩, r, h5, h6⟩ := h
    rw [den, int_strip (sev_ok he h3) h4]
    have e := getD_strip (f := fun r : List Dat => r.map strip) (xs_strip (sev_ok he h1) h2) h5 []
    exact getD_strip e h6 _
  | .sel cs i t, p, h => by
    simp only [sev, Option.bind_eq_some_iff] at h
    obtain ⟨x, ⟨q, h1, h2⟩, n, ⟨q', h3, h4⟩, h5⟩ := h
    rw [den, int_strip (sev_ok he h3) h4]
    exact getD_strip (row_strip (sev_ok he h1) h2) h5 _
  | .ite c a b, p, h => by
    simp only [sev] at h
    split at h
    · rename_i hc
      rw [Option.bind_eq_some_iff] at hc
      obtain ⟨q, h1, h2⟩ := hc
      rw [den, bool_strip (sev_ok he h1) h2]
      exact sev_ok he h
    · rename_i hc
      rw [Option.bind_eq_some_iff] at hc
      obtain ⟨q, h1, h2⟩ := hc
      rw [den, bool_strip (sev_ok he h1) h2]
      exact sev_ok he h
    · cases h
  | .isnil a, p, h => by
    simp only [sev] at h
    split at h
    · rename_i h1
      cases h
      have := sev_ok he h1
      rw [den, strip_bool]
      generalize den Δ ρ a = d at this
      cases d with
      | int k m => rw [strip_int] at this; cases this
      | bool b => rw [strip_bool] at this; cases this
      | list v sz xs => rw [strip_list] at this; cases this
      | rows xs => rw [strip_rows] at this; cases this
      | val v =>
        rw [strip_val] at this
        unfold stripV at this
        split at this <;> first | (cases this; done) | rfl
    · rename_i n h1
      cases h
      have := sev_ok he h1
      rw [den, strip_bool]
      generalize den Δ ρ a = d at this
      cases d with
      | int k m => rw [strip_int] at this; cases this
      | bool b => rw [strip_bool] at this; cases this
      | list v sz xs => rw [strip_list] at this; cases this
      | rows xs => rw [strip_rows] at this; cases this
      | val v =>
        rw [strip_val] at this
        unfold stripV at this
        split at this <;> first | (cases this; done) | rfl
    · cases h
  | .errI a, p, h => by
    simp only [sev] at h
    split at h
    · rename_i n h1
      cases h
      have := sev_ok he h1
      rw [den, strip_int]
      generalize den Δ ρ a = d at this
      cases d with
      | int k m => rw [strip_int] at this; cases this
      | bool b => rw [strip_bool] at this; cases this
      | list v sz xs => rw [strip_list] at this; cases this
      | rows xs => rw [strip_rows] at this; cases this
      | val v =>
        rw [strip_val] at this
        unfold stripV at this
        split at this <;> first | (cases this; done) | (cases this; rfl)
    · cases h
  | .cut a l u, p, h => by
    simp only [sev] at h
    split at h
    · rename_i sz xs lo hi h1 h2 h3
      rw [Option.bind_eq_some_iff] at h2 h3
      obtain ⟨q2, h2, h4⟩ := h2
      obtain ⟨q3, h3, h5⟩ := h3
      split at h
      case isFalse => cases h
      rename_i hc
      cases h
      obtain ⟨v, ys, hd, rfl⟩ := strip_isList (sev_ok he h1)
      rw [den, int_strip (sev_ok he h2) h4, int_strip (sev_ok he h3) h5, hd]
      simp only [cutD]
      rw [if_pos, strip_list]
      · simp only [List.map_drop, List.map_take]
      · refine ⟨hc.1, by simpa using hc.2.1, ?_⟩
        have := hc.2.2
        rw [List.all_map] at this
        simpa [Function.comp] using this
    · cases h
  | .rep n row, p, h => by
    simp only [sev, Option.map_eq_some_iff, Option.bind_eq_some_iff] at h
    obtain ⟨k, ⟨q, h1, h2⟩, r, ⟨q', h3, h4⟩, rfl⟩ := h
    rw [den, int_strip (sev_ok he h1) h2, strip_rows, List.map_replicate, row_strip (sev_ok he h3) h4]
  | .enil, p, h => by simp only [sev, Option.some.injEq] at h; subst h; rw [den, strip_rows]; rfl
  | .econs a b, p, h => by
    simp only [sev, Option.map_eq_some_iff, Option.bind_eq_some_iff] at h
    obtain ⟨x, h1, r, ⟨q', h3, h4⟩, rfl⟩ := h
    rw [den, strip_rows, List.map_cons, List.map_nil, List.map_cons, sev_ok he h1, row_strip (sev_ok he h3) h4]
  | .emp, p, h => by simp only [sev, Option.some.injEq] at h; subst h; rw [den, strip_rows]; rfl
  | .push a row, p, h => by
    simp only [sev, Option.map_eq_some_iff, Option.bind_eq_some_iff] at h
    obtain ⟨x, ⟨q, h1, h2⟩, r, ⟨q', h3, h4⟩, rfl⟩ := h
    rw [den, strip_rows, List.map_append, xs_strip (sev_ok he h1) h2, List.map_cons, List.map_nil, row_strip (sev_ok he h3) h4]
  | .app a b, p, h => by
    simp only [sev, Option.map_eq_some_iff, Option.bind_eq_some_iff] at h
    obtain ⟨x, ⟨q, h1, h2⟩, r, ⟨q', h3, h4⟩, rfl⟩ := h
    rw [den, strip_rows, List.map_append, xs_strip (sev_ok he h1) h2, xs_strip (sev_ok he h3) h4]
  | .upd a i c v, p, h => by
    simp only [sev, Option.map_eq_some_iff, Option.bind_eq_some_iff] at h
    obtain ⟨x, ⟨q, h1, h2⟩, n, ⟨q', h3, h4⟩, r, h5, rfl⟩ := h
    rw [den, strip_rows, int_strip (sev_ok he h3) h4, List.map_set, xs_strip (sev_ok he h1) h2, List.map_set, sev_ok he h5]
    congr 2
    rw [← xs_strip (sev_ok he h1) h2, List.getD_eq_getElem?_getD, List.getD_eq_getElem?_getD, List.getElem?_map]
    cases (den Δ ρ a).xs[n.toNat]? <;> rfl
  | .seq a b, p, h => by
    simp only [sev, Option.map_eq_some_iff, Option.bind_eq_some_iff] at h
    obtain ⟨x, ⟨q, h1, h2⟩, y, ⟨q', h3, h4⟩, rfl⟩ := h
    rw [den, strip_bool, ba_toList, ba_toList, ← str_strip (sev_ok he h1) h2, ← str_strip (sev_ok he h3) h4]
    congr 1
    rw [Bool.eq_iff_iff, beq_iff_eq, beq_iff_eq]
    exact ⟨fun e => by rw [e], fun e => (List.map_inj_right (fun a b => UInt8.toNat_inj.1)).1 e⟩
  | .slen a, p, h => by
    simp only [sev, Option.map_eq_some_iff, Option.bind_eq_some_iff] at h
    obtain ⟨x, ⟨q, h1, h2⟩, rfl⟩ := h
    rw [den, strip_int, ← str_strip (sev_ok he h1) h2, List.length_map, Array.length_toList]; rfl
  | .sidx a i, p, h => by
    simp only [sev, Option.map_eq_some_iff, Option.bind_eq_some_iff] at h
    obtain ⟨x, ⟨q, h1, h2⟩, n, ⟨q', h3, h4⟩, c, h5, rfl⟩ := h
    rw [den, strip_int, int_strip (sev_ok he h3) h4]
    rw [← str_strip (sev_ok he h1) h2, List.getElem?_map, Option.map_eq_some_iff] at h5
    obtain ⟨u, hu, rfl⟩ := h5
    rw [Array.getElem?_toList] at hu
    rw [Array.getD_eq_getD_getElem?, hu]; rfl
  | .scut a l u, p, h => by
    simp only [sev, Option.map_eq_some_iff, Option.bind_eq_some_iff] at h
    obtain ⟨x, ⟨q, h1, h2⟩, n, ⟨q', h3, h4⟩, m, ⟨q'', h5, h6⟩, rfl⟩ := h
    rw [den, int_strip (sev_ok he h3) h4, int_strip (sev_ok he h5) h6, strip_str _ _ rfl, ← str_strip (sev_ok he h1) h2, ByteArray.data_extract, Array.toList_extract]
    simp only [List.extract_eq_take_drop, List.map_take, List.map_drop]
  | .sapp a b, p, h => by
    simp only [sev, Option.map_eq_some_iff, Option.bind_eq_some_iff] at h
    obtain ⟨x, ⟨q, h1, h2⟩, y, ⟨q', h3, h4⟩, rfl⟩ := h
    rw [den, strip_str _ _ rfl, ← str_strip (sev_ok he h1) h2, ← str_strip (sev_ok he h3) h4, ByteArray.data_append, Array.toList_append, List.map_append]
  | .sof a, p, h => by
    simp only [sev, Option.map_eq_some_iff, Option.bind_eq_some_iff] at h
    obtain ⟨x, ⟨y, ⟨q, h1, h2⟩, h3⟩, rfl⟩ := h
    rw [den, strip_str _ _ rfl, ← bytesP_ok (xs_strip (sev_ok he h1) h2) h3]
    rfl
  | .sbytes a, p, h => by
    simp only [sev, Option.map_eq_some_iff, Option.bind_eq_some_iff] at h
    obtain ⟨x, ⟨q, h1, h2⟩, rfl⟩ := h
    rw [den, strip_rows, ← str_strip (sev_ok he h1) h2, List.map_map, List.map_map]
    congr 1
  | .cap _, p, h => by simp [sev] at h
def sevs (Δ : Tab) (env : List PD) : List Tm → Option (List PD)
  | [] => some []
  | t :: l => (sev Δ env t).bind fun x => (sevs Δ env l).map (x :: ·)
theorem sevs_ok (he : ρ.map strip = env) : ∀ {ts : List Tm} {ps : List PD}, sevs Δ env ts = some ps → (ts.map (den Δ ρ)).map strip = ps
  | [], ps, h => by cases h; rfl
  | t :: l, ps, h => by
    simp only [sevs, Option.map_eq_some_iff, Option.bind_eq_some_iff] at h
    obtain ⟨x, h1, r, h2, rfl⟩ := h
    rw [List.map_cons, List.map_cons, sev_ok he h1, sevs_ok he h2]
/-- callees whose results, places aside, are told by their arguments, places aside -/
abbrev PFun := Nat → List PD → Option (List PD)
def PFun.fits (cs : PFun) (Φ : Nat → Spec) : Prop := ∀ f args rs, cs f args = some rs → ∀ ds W, ds.map strip = args → (∀ rs', rs'.map strip = rs → W rs') → Φ f ds W
/-- the slices that are lent, places aside -/
def lentE (Δ : Tab) (env : List PD) : List (Nat × Tm) → Option (List PD)
  | [] => some []
  | x :: l => ((sev Δ env x.2).bind PD.xs?).bind fun xs => (lentE Δ env l).map (.list (Δ.row x.1).length xs :: ·)
abbrev Stk := List (List PD × Tree)
/-- a tree, reckoned through: what it ends with -/
def evB (Δ : Tab) (cs : PFun) (ag : Stk → Nat → List PD → Option (List PD)) : Tree → Stk → List PD → Option (List PD)
  | .ret ts, _, env => sevs Δ env ts
  | .ite c a b, stk, env => match sev Δ env c with
    | some (.bool true) => evB Δ cs ag a stk env
    | some (.bool false) => evB Δ cs ag b stk env
    | _ => none
  | .ob c k, stk, env => match sev Δ env c with
    | some (.bool true) => evB Δ cs ag k stk env
    | _ => none
  | .loop ts _ b, stk, env => (sevs Δ env ts).bind fun vs => evB Δ cs ag b (stk ++ [(env, b)]) (env ++ vs)
  | .again l ts, stk, env => (sevs Δ env ts).bind fun vs => ag stk l vs
  | .call f ts _ k, stk, env => (sevs Δ env ts).bind fun ps => (cs f ps).bind fun rs => evB Δ cs ag k stk (env ++ rs)
  | .callx _ _ _ _, _, _ => none
  | .lend f l ts _ k, stk, env => (lentE Δ env l).bind fun e => (sevs Δ (env ++ e) ts).bind fun ps => (cs f ps).bind fun rs => evB Δ cs ag k stk (env ++ rs)
  | .share r t k, stk, env => ((sev Δ env t).bind PD.xs?).bind fun l => evB Δ cs ag k stk (env ++ [.list (Δ.row r).length l])
  | .lit r t k, stk, env => ((sev Δ env t).bind PD.xs?).bind fun l => evB Δ cs ag k stk (env ++ [.list (Δ.row r).length l])
  | .both a b, stk, env => (evB Δ cs ag a stk env).bind fun x => (evB Δ cs ag b stk env).bind fun y => if sameR x y then some x else none
  | .fail _, _, _ => none
def evL (Δ : Tab) (cs : PFun) : Nat → Stk → Tree → List PD → Option (List PD)
  | 0 => fun stk tr env => evB Δ cs (fun _ _ _ => none) tr stk env
  | n + 1 => fun stk tr env => evB Δ cs (fun stk l vs => match stk[l]? with
    | some x => evL Δ cs n (stk.take (l + 1)) x.2 (x.1 ++ vs)
    | none => none) tr stk env
def agL (Δ : Tab) (cs : PFun) : Nat → Stk → Nat → List PD → Option (List PD)
  | 0 => fun _ _ _ => none
  | n + 1 => fun stk l vs => match stk[l]? with
    | some x => evL Δ cs n (stk.take (l + 1)) x.2 (x.1 ++ vs)
    | none => none
theorem evL_eq (cs : PFun) : ∀ (n : Nat) (stk : Stk) (tr : Tree) (env : List PD), evL Δ cs n stk tr env = evB Δ cs (agL Δ cs n) tr stk env
  | 0, _, _, _ => rfl
  | n + 1, _, _, _ => rfl
theorem allS_of {Δ : Tab} : ∀ {ss : List Srt} {p : List Dat → Prop}, (∀ l, p l) → allS Δ ss p
  | [], p, h => h []
  | s :: ss, p, h => by
    cases s <;> first | exact fun n => allS_of fun l => h _ | exact fun d _ => allS_of fun l => h _
theorem lentE_ok (he : ρ.map strip = env) : ∀ {l : List (Nat × Tm)} {e : List PD} {p : List Dat → Prop}, lentE Δ env l = some e → (∀ e', e'.map strip = e → p e') → lendW Δ ρ l p
  | [], e, p, h, hp => by cases h; exact hp [] rfl
  | x :: l, e, p, h, hp => by
    simp only [lentE, Option.map_eq_some_iff, Option.bind_eq_some_iff] at h
    obtain ⟨xs, ⟨q, h1, h2⟩, r, h3, rfl⟩ := h
    intro A c
    refine lentE_ok he (p := fun e => p (_ :: e)) h3 fun e' h' => hp _ ?_
    rw [List.map_cons, h', strip_list, xs_strip (sev_ok he h1) h2]
/-- the loops around stand where the reckoning has them -/
def Fits (Δ : Tab) (cs : PFun) (rs : List PD) (n : Nat) (stk : Stk) (X : List (Inv × Nat)) : Prop :=
  stk.length = X.length ∧ ∀ (l : Nat) (x : List PD × Tree), stk[l]? = some x → ∃ I : Inv × Nat, X[l]? = some I ∧ n ≤ I.2 ∧ ∀ vs n', n' < n → evL Δ cs n' (stk.take (l + 1)) x.2 (x.1 ++ vs.map strip) = some rs → I.1 vs n'
theorem evB_ok {cs : PFun} {Φ : Nat → Spec} (hcs : cs.fits Φ) {rs : List PD} {Post : List Dat → Prop} (hP : ∀ rs', rs'.map strip = rs → Post rs') : ∀ {tr : Tree} {n : Nat} {stk : Stk} {ρ : List Dat} {env : List PD} {X : List (Inv × Nat)}, ρ.map strip = env → Fits Δ cs rs n stk X → evB Δ cs (agL Δ cs n) tr stk env = some rs → wp Δ Φ Post tr ρ X
  | .ret ts, n, stk, ρ, env, X, he, hf, h => by
    simp only [evB] at h
    exact hP _ (sevs_ok he h)
  | .ite c a b, n, stk, ρ, env, X, he, hf, h => by
    simp only [evB] at h
    split at h
    · rename_i hc
      have := strip_isBool (sev_ok he hc)
      exact ⟨fun _ => evB_ok hcs hP he hf h, fun e => (by rw [this] at e; cases e)⟩
    · rename_i hc
      have := strip_isBool (sev_ok he hc)
      exact ⟨fun e => (by rw [this] at e; cases e), fun _ => evB_ok hcs hP he hf h⟩
    · cases h
  | .ob c k, n, stk, ρ, env, X, he, hf, h => by
    simp only [evB] at h
    split at h
    · rename_i hc
      exact ⟨strip_isBool (sev_ok he hc), evB_ok hcs hP he hf h⟩
    · cases h
  | .loop ts ss b, n, stk, ρ, env, X, he, hf, h => by
    simp only [evB, Option.bind_eq_some_iff] at h
    obtain ⟨vs, h1, h2⟩ := h
    refine ⟨fun xs m => m ≤ n ∧ evL Δ cs m (stk ++ [(env, b)]) b (env ++ xs.map strip) = some rs, ⟨n, Nat.le_refl _, ?_⟩, allS_of fun xs m ⟨hm, hI⟩ => ?_⟩
    · rw [evL_eq, sevs_ok he h1]; exact h2
    · rw [evL_eq] at hI
      refine evB_ok hcs hP (by rw [List.map_append, he]) ⟨by simp [hf.1], fun l x hx => ?_⟩ hI
      rcases Nat.lt_or_ge l stk.length with hl | hl
      · rw [List.getElem?_append_left hl] at hx
        obtain ⟨I, i1, i2, i3⟩ := hf.2 l x hx
        refine ⟨I, by rw [List.getElem?_append_left (by rw [← hf.1]; exact hl)]; exact i1, Nat.le_trans hm i2, fun vs n' hn' hv => i3 vs n' (Nat.lt_of_lt_of_le hn' hm) ?_⟩
        rw [List.take_append_of_le_length (by omega)] at hv
        exact hv
      · rw [List.getElem?_append_right hl] at hx
        have hl0 : l - stk.length = 0 := by
          have := (List.getElem?_eq_some_iff.1 hx).1
          simp at this; omega
        have hle : l = stk.length := by omega
        subst hle
        simp only [Nat.sub_self, List.getElem?_cons_zero, Option.some.injEq] at hx
        subst hx
        refine ⟨((fun xs m => m ≤ n ∧ evL Δ cs m (stk ++ [(env, b)]) b (env ++ xs.map strip) = some rs), m), by rw [List.getElem?_append_right (by rw [hf.1]; exact Nat.le_refl _), hf.1, Nat.sub_self]; rfl, Nat.le_refl _, fun vs n' hn' hv => ⟨by omega, ?_⟩⟩
        rw [List.take_of_length_le (by simp)] at hv
        exact hv
  | .again l ts, n, stk, ρ, env, X, he, hf, h => by
    simp only [evB, Option.bind_eq_some_iff] at h
    obtain ⟨vs, h1, h2⟩ := h
    cases n with
    | zero => cases h2
    | succ n =>
    simp only [agL] at h2
    split at h2
    · rename_i x hx
      obtain ⟨I, i1, i2, i3⟩ := hf.2 l x hx
      simp only [wp, i1]
      refine ⟨n, by omega, i3 _ n (Nat.lt_succ_self _) ?_⟩
      rw [sevs_ok he h1]; exact h2
    · cases h2
  | .call f ts ss k, n, stk, ρ, env, X, he, hf, h => by
    simp only [evB, Option.bind_eq_some_iff] at h
    obtain ⟨ps, h1, qs, h2, h3⟩ := h
    exact hcs f ps qs h2 _ _ (sevs_ok he h1) fun rs' hrs => evB_ok hcs hP (by rw [List.map_append, he, hrs]) hf h3
  | .callx f ts ss k, n, stk, ρ, env, X, he, hf, h => by cases h
  | .lend f l ts ss k, n, stk, ρ, env, X, he, hf, h => by
    simp only [evB, Option.bind_eq_some_iff] at h
    obtain ⟨e, h0, ps, h1, qs, h2, h3⟩ := h
    refine lentE_ok he h0 fun e' h' => ?_
    exact hcs f ps qs h2 _ _ (sevs_ok (by rw [List.map_append, he, h']) h1) fun rs' hrs => evB_ok hcs hP (by rw [List.map_append, he, hrs]) hf h3
  | .share r t k, n, stk, ρ, env, X, he, hf, h => by
    simp only [evB, Option.bind_eq_some_iff] at h
    obtain ⟨l, ⟨p, h1, h2⟩, h3⟩ := h
    intro A c
    refine evB_ok hcs hP ?_ hf h3
    rw [List.map_append, he, List.map_cons, List.map_nil, strip_list, xs_strip (sev_ok he h1) h2]
  | .lit r t k, n, stk, ρ, env, X, he, hf, h => by
    simp only [evB, Option.bind_eq_some_iff] at h
    obtain ⟨l, ⟨p, h1, h2⟩, h3⟩ := h
    intro A
    refine evB_ok hcs hP ?_ hf h3
    rw [List.map_append, he, List.map_cons, List.map_nil, strip_list, xs_strip (sev_ok he h1) h2]
  | .both a b, n, stk, ρ, env, X, he, hf, h => by
    simp only [evB, Option.bind_eq_some_iff] at h
    obtain ⟨x, h1, y, h2, h3⟩ := h
    split at h3
    · rename_i hs
      cases h3
      have := sameR_ok hs
      subst this
      exact ⟨evB_ok hcs hP he hf h1, evB_ok hcs hP he hf h2⟩
    · cases h3
  | .fail _, n, stk, ρ, env, X, he, hf, h => by cases h
end
/-- what a function answers, places aside, hangs on its arguments, places aside -/
def psp (g : List PD → Option (List PD)) : Spec := fun ds Q => ∃ rs, g (ds.map strip) = some rs ∧ ∀ rs', rs'.map strip = rs → Q rs'
def pfun : List (Nat × (List PD → Option (List PD))) → PFun
  | [], _, _ => none
  | x :: l, f, ps => if x.1 = f then x.2 ps else pfun l f ps
theorem pfun_fits {Φ : Nat → Spec} : ∀ {l : List (Nat × (List PD → Option (List PD)))}, (∀ x ∈ l, Φ x.1 = psp x.2) → (pfun l).fits Φ
  | [], _ => fun f args rs h => by cases h
  | x :: l, hl => fun f args rs h ds W hd hW => by
    simp only [pfun] at h
    split at h
    · rename_i e
      subst e
      rw [hl x (by simp)]
      exact ⟨rs, by rw [hd]; exact h, hW⟩
    · exact pfun_fits (fun y hy => hl y (by simp [hy])) f args rs h ds W hd hW
/-- a function that is reckoned through -/
theorem con_ev {E : Env} (hW : E.Wf) (hmix : E.P.follows .mixedOrders = true) (hγ : E.γ = []) (T : List (Con E)) {ns : List (Nat × Sig)} (hn : names T = ns) {f : Nat} {sg : Sig} {tr : Tree} (hT : walk E.cx (sgsN ns) 0 f sg = tr) (hsg : sg.ok = true) {cs : PFun} (hcs : cs.fits (specC T)) (fuel : Nat) :
    Holds E f sg (psp fun ps => evL E.Δ cs fuel [] tr ps) := by
  subst hn
  have hT' : walk E.cx (sgsN (names T)) E.γ.length f sg = tr := by rw [hγ]; exact hT
  refine walk_ok hW hmix (sgsN_con T) hT' hsg fun ds Q hs ⟨rs, h1, h2⟩ => ?_
  rw [hγ]
  replace h1 : evL E.Δ cs fuel [] tr (ds.map strip) = some rs := h1
  rw [evL_eq] at h1
  exact evB_ok hcs h2 rfl ⟨rfl, fun l x h => by cases h⟩ h1
theorem fits_cons {Φ : Nat → Spec} {k : Nat} {g : List PD → Option (List PD)} {l : List (Nat × (List PD → Option (List PD)))} (h : Φ k = psp g) (t : (pfun l).fits Φ) : (pfun ((k, g) :: l)).fits Φ := fun f args rs h' ds W hd hW => by
  simp only [pfun] at h'
  split at h'
  · rename_i e
    subst e
    rw [h]
    exact ⟨rs, by rw [hd]; exact h', hW⟩
  · exact t f args rs h' ds W hd hW
theorem fits_nil {Φ : Nat → Spec} : (pfun []).fits Φ := fun f args rs h => by cases h
theorem holds_or {E : Env} {f : FuncId} {sg : Sig} {Φ Ψ : Spec} (h1 : Holds E f sg Φ) (h2 : Holds E f sg Ψ) : Holds E f sg (fun ds Q => Φ ds Q ∨ Ψ ds Q) := fun w ds Q a b c d h => h.elim (h1 w ds Q a b c d) (h2 w ds Q a b c d)
theorem holds_mono {E : Env} {f : FuncId} {sg : Sig} {Φ Ψ : Spec} (h1 : Holds E f sg Φ) (h2 : ∀ ds Q, All2 (Has E.Δ) (Sig.sorts sg.params) ds → Ψ ds Q → Φ ds Q) : Holds E f sg Ψ := fun w ds Q a b c d h => h1 w ds Q a b c d (h2 ds Q a h)
/-- arguments that are known -/
theorem con_at {E : Env} (hW : E.Wf) (hmix : E.P.follows .mixedOrders = true) (hγ : E.γ = []) (T : List (Con E)) {ns : List (Nat × Sig)} (hn : names T = ns) {f : Nat} {sg : Sig} (hsg : sg.ok = true) {Ψ : Spec}
    (h : ∀ Φ : Nat → Spec, Φ = specC T → ∀ ds Q, All2 (Has E.Δ) (Sig.sorts sg.params) ds → Ψ ds Q → ∃ ps : List (Tm × Srt), sg.params = (ps.map fun p => (false, [p.2])) ∧ (∀ p ∈ ps, Has E.Δ p.2 (den E.Δ [] p.1) ∧ p.1.bnd 0 = true ∧ p.2.one = true) ∧ ds = (ps.map fun p => den E.Δ [] p.1) ∧ wp E.Δ Φ Q (walkAt E.cx (sgsN ns) 0 f sg ps) ds []) : Holds E f sg Ψ := by
  subst hn
  intro w ds Q hs hok hγ' hG hΨ
  obtain ⟨ps, h1, h2, h3, h4⟩ := h _ rfl ds Q hs hΨ
  refine walkAt_ok hW hmix (sgsN_con T) hsg h1 h2 h3 ?_ hok hγ' hG
  rw [hγ]; exact h4
end Go.Proofs.YtbpbdanggilnpaaDoor
end

section
namespace Go.Proofs.YtbpbdanggilnpaaDoor
open Go.RowKit
set_option linter.unusedVariables false

structure ConP (E : Env) where
  f : Nat
  sg : Sig
  Φ : Spec
  ok : sg.okP = true
  bo : ∃ x, bodyOf E.P f = some x
  holds : HoldsP E f sg Φ
inductive ConX (E : Env) where
  | q (c : Con E)
  | p (c : ConP E)
namespace ConX
variable {E : Env}
def f : ConX E → Nat
  | .q c => c.f
  | .p c => c.f
def sg : ConX E → Sig
  | .q c => c.sg
  | .p c => c.sg
def Φ : ConX E → Spec
  | .q c => c.Φ
  | .p c => c.Φ
theorem prom : ∀ c : ConX E, Prom E c.f c.sg c.Φ
  | .q c => ⟨c.bo, by
    show if c.sg.isP = false then _ else _
    rw [if_pos (isP_of c.ok)]; exact ⟨c.ok, c.holds⟩⟩
  | .p c => ⟨c.bo, by
    have h := c.ok
    unfold Sig.okP at h
    simp only [Bool.and_eq_true, Bool.not_eq_true'] at h
    show if c.sg.isP = false then _ else _
    rw [if_neg (by rw [h.1.1.1]; exact Bool.noConfusion)]; exact ⟨h.1.2, c.holds⟩⟩
end ConX
def specX {E : Env} : List (ConX E) → Nat → Spec
  | [], _ => fun _ _ => False
  | c :: T, k => if c.f = k then c.Φ else specX T k
def namesX {E : Env} (T : List (ConX E)) : List (Nat × Sig) := T.map fun c => (c.f, c.sg)
theorem sgsX {E : Env} : ∀ (T : List (ConX E)) (f : Nat) (sg : Sig), sgsN (namesX T) f = some sg → Prom E f sg (specX T f)
  | [], f, sg, h => by cases h
  | c :: T, f, sg, h => by
    simp only [namesX, List.map_cons, sgsN] at h
    by_cases e : c.f = f
    · rw [if_pos e] at h
      cases h
      subst e
      rw [specX, if_pos rfl]; exact c.prom
    · rw [if_neg e] at h
      have := sgsX T f sg h
      rw [specX, if_neg e]; exact this
/-- nothing handed over, but to callees -/
theorem con_fnX {E : Env} (hW : E.Wf) (hmix : E.P.follows .mixedOrders = true) (hγ : E.γ = []) (T : List (ConX E)) {ns : List (Nat × Sig)} (hn : namesX T = ns) {f : Nat} {sg : Sig} {tr : Tree} (hT : walk E.cx (sgsN ns) 0 f sg = tr) (hsg : sg.ok = true) {Ψ : Spec}
    (h : ∀ Φ : Nat → Spec, Φ = specX T → ∀ ds Q, All2 (Has E.Δ) (Sig.sorts sg.params) ds → Ψ ds Q → wp E.Δ Φ Q tr ds []) : Holds E f sg Ψ := by
  subst hn
  have hT' : walk E.cx (sgsN (namesX T)) E.γ.length f sg = tr := by rw [hγ]; exact hT
  refine walk_ok hW hmix (sgsX T) hT' hsg fun ds Q hs hΨ => ?_
  rw [hγ]; exact h _ rfl ds Q hs hΨ
/-- blocks are handed over -/
theorem con_fnP {E : Env} (hW : E.Wf) (hmix : E.P.follows .mixedOrders = true) (hγ : E.γ = []) (hfr : E.fr = Frm.none) (T : List (ConX E)) {ns : List (Nat × Sig)} (hn : namesX T = ns) {f : Nat} {sg : Sig} {tr : Tree} (hT : walkP E.cx (sgsN ns) 0 f sg = tr) (hsg : sg.okP = true) {Ψ : Spec}
    (h : ∀ Φ : Nat → Spec, Φ = specX T → ∀ ds Q, All2 (Has E.Δ) (sg.asrt ++ sg.bsrt) ds → Ψ ds Q → wp E.Δ Φ Q tr ds []) : HoldsP E f sg Ψ := by
  subst hn
  have hT' : walkP E.cx (sgsN (namesX T)) E.γ.length f sg = tr := by rw [hγ]; exact hT
  refine walkP_ok hW hmix hfr (sgsX T) hT' hsg fun ds Q hs hΨ => ?_
  rw [hγ]; exact h _ rfl ds Q hs hΨ
/-- reckoned through -/
theorem con_evX {E : Env} (hW : E.Wf) (hmix : E.P.follows .mixedOrders = true) (hγ : E.γ = []) (T : List (ConX E)) {ns : List (Nat × Sig)} (hn : namesX T = ns) {f : Nat} {sg : Sig} {tr : Tree} (hT : walk E.cx (sgsN ns) 0 f sg = tr) (hsg : sg.ok = true) {cs : PFun} (hcs : cs.fits (specX T)) (fuel : Nat) :
    Holds E f sg (psp fun ps => evL E.Δ cs fuel [] tr ps) :=
  con_fnX hW hmix hγ T hn hT hsg fun Φ hΦ ds Q hs ⟨rs, h1, h2⟩ => by
    subst hΦ
    replace h1 : evL E.Δ cs fuel [] tr (ds.map strip) = some rs := h1
    rw [evL_eq] at h1
    exact evB_ok hcs h2 rfl ⟨rfl, fun l x h => by cases h⟩ h1
theorem con_evP {E : Env} (hW : E.Wf) (hmix : E.P.follows .mixedOrders = true) (hγ : E.γ = []) (hfr : E.fr = Frm.none) (T : List (ConX E)) {ns : List (Nat × Sig)} (hn : namesX T = ns) {f : Nat} {sg : Sig} {tr : Tree} (hT : walkP E.cx (sgsN ns) 0 f sg = tr) (hsg : sg.okP = true) {cs : PFun} (hcs : cs.fits (specX T)) (fuel : Nat) :
    HoldsP E f sg (psp fun ps => evL E.Δ cs fuel [] tr ps) :=
  con_fnP hW hmix hγ hfr T hn hT hsg fun Φ hΦ ds Q hs ⟨rs, h1, h2⟩ => by
    subst hΦ
    replace h1 : evL E.Δ cs fuel [] tr (ds.map strip) = some rs := h1
    rw [evL_eq] at h1
    exact evB_ok hcs h2 rfl ⟨rfl, fun l x h => by cases h⟩ h1
/-- a contract of a function that calls itself, blocks handed over: by what gets less -/
theorem holdsP_rec {E : Env} {f : FuncId} {sg : Sig} {Φ : Spec} (m : List Dat → Nat)
    (step : ∀ n, HoldsP E f sg (fun ds Q => m ds < n ∧ Φ ds Q) → HoldsP E f sg (fun ds Q => m ds < n + 1 ∧ Φ ds Q)) : HoldsP E f sg Φ := by
  have all : ∀ n, HoldsP E f sg (fun ds Q => m ds < n ∧ Φ ds Q) := by
    intro n
    induction n with
    | zero => intro F op oq w0 w da db bs rows owns Q _ _ _ h; exact absurd h.1 (Nat.not_lt_zero _)
    | succ n ih => exact step n ih
  intro F op oq w0 w da db bs rows owns Q h1 h2 h3 h4
  exact all (m (da ++ db) + 1) F op oq w0 w da db bs rows owns Q h1 h2 h3 ⟨Nat.lt_succ_self _, h4⟩
end Go.Proofs.YtbpbdanggilnpaaDoor
end

section
namespace Go.Proofs.YtbpbdanggilnpaaDoor
open Go.RowKit
set_option linter.unusedVariables false
def tab : Tab := [(5, [.int .u8]), (3, [.int .i64]), (68, [.int .i64, .int .i64, .int .i64] ++ [.list 64]), (62, [.int .i64, .int .i64, .int .i64] ++ [.list 64]), (64, List.replicate 4 (.int .i64) ++ [.list 3])]
def gts : List (Nat × List (Tm × Srt) × Nat) := [(0, [(.str [100, 101, 99, 105, 100, 101], .str), (.int .i64 0, .int .i64), (.int .i64 1, .int .i64), (.int .i64 1, .int .i64), (.str [116, 97, 107, 101, 98, 97, 99, 107], .str), (.int .i64 1, .int .i64), (.int .i64 0, .int .i64), (.int .i64 0, .int .i64), (.str [114, 101, 119, 105, 110, 100], .str), (.int .i64 1, .int .i64), (.int .i64 0, .int .i64), (.int .i64 0, .int .i64), (.str [98, 97, 99, 107, 117, 112], .str), (.int .i64 2, .int .i64), (.int .i64 0, .int .i64), (.int .i64 0, .int .i64), (.str [108, 111, 111, 112], .str), (.int .i64 2, .int .i64), (.int .i64 1, .int .i64), (.int .i64 16, .int .i64), (.str [121, 105, 101, 108, 100], .str), (.int .i64 2, .int .i64), (.int .i64 0, .int .i64), (.int .i64 0, .int .i64), (.str [98, 108, 111, 99, 107], .str), (.int .i64 0, .int .i64), (.int .i64 1, .int .i64), (.int .i64 5, .int .i64), (.str [112, 117, 110, 105, 115, 104], .str), (.int .i64 2, .int .i64), (.int .i64 0, .int .i64), (.int .i64 0, .int .i64), (.str [110, 101, 120, 116], .str), (.int .i64 0, .int .i64), (.int .i64 0, .int .i64), (.int .i64 0, .int .i64)], 90), (1, [(.int .u64 0, .int .u64), (.int .u64 5, .int .u64), (.int .u64 7, .int .u64), (.int .u64 8, .int .u64), (.int .u64 8, .int .u64), (.int .u64 1, .int .u64), (.int .u64 2, .int .u64)], 100)]
noncomputable def E0 : Env := ⟨Tryd.prog, tab, gts, [], fun _ => False, [], Frm.none, fun _ => True, fun _ => False, []⟩
theorem g0 : E0.γ = [] := rfl
theorem wf0 : E0.Wf := wf_lit (by kernel_rfl)
theorem mix0 : E0.P.follows .mixedOrders = true := by kernel_rfl
end Go.Proofs.YtbpbdanggilnpaaDoor
end

section
namespace Go.Proofs.YtbpbdanggilnpaaDoor
open Go.RowKit
set_option linter.unusedVariables false

theorem den_varA {Δ : Tab} {ds e : List Dat} {i : Nat} (h : i < ds.length) : den Δ (ds ++ e) (.var i) = ds.getD i (.bool false) := by
  simp [den, List.getD_eq_getElem?_getD, List.getElem?_append_left h]
theorem den_varB {Δ : Tab} {ds e : List Dat} {i : Nat} (h : ds.length ≤ i) : den Δ (ds ++ e) (.var i) = e.getD (i - ds.length) (.bool false) := by
  simp [den, List.getD_eq_getElem?_getD, List.getElem?_append_right h]
theorem den_var0 {Δ : Tab} {ds : List Dat} {i : Nat} : den Δ ds (.var i) = ds.getD i (.bool false) := rfl
/-- the rows of an argument -/
def argL (ds : List Dat) (i : Nat) : List (List Dat) := (ds.getD i (.bool false)).xs
theorem has_int {Δ : Tab} {k : IntKind} {d : Dat} (h : Has Δ (.int k) d) : d = .int k d.toInt := by cases h; rfl
theorem has_bool {Δ : Tab} {d : Dat} (h : Has Δ .bool d) : d = .bool d.toBool := by cases h; rfl
theorem wrap64 {x : Int} (h1 : -9223372036854775808 ≤ x) (h2 : x ≤ 9223372036854775807) : IntKind.i64.wrap x = x := IntWalk.i64_in _ (by omega)
/-- arguments by their places -/
theorem all2_get {Δ : Tab} {ss : List Srt} {ds : List Dat} (h : All2 (Has Δ) ss ds) {i : Nat} {s : Srt} (hs : ss[i]? = some s) : Has Δ s (ds.getD i (.bool false)) := by
  obtain ⟨d, h1, h2⟩ := h.get hs
  simpa [List.getD_eq_getElem?_getD, h1] using h2
/-- a tree's demands, for all arguments of the sorts, which stay in one list -/
theorem con_by {E : Env} (hW : E.Wf) (hmix : E.P.follows .mixedOrders = true) (hγ : E.γ = []) (T : List (Con E)) {ns : List (Nat × Sig)} (hn : names T = ns) {f : Nat} {sg : Sig} {tr : Tree} (hT : walk E.cx (sgsN ns) 0 f sg = tr) (hsg : sg.ok = true) {Ψ : Spec}
    (h : ∀ ds Q, All2 (Has E.Δ) (Sig.sorts sg.params) ds → Ψ ds Q → wp E.Δ (specC T) Q tr ds []) : Holds E f sg Ψ := by
  subst hn
  have hT' : walk E.cx (sgsN (names T)) E.γ.length f sg = tr := by rw [hγ]; exact hT
  refine walk_ok hW hmix (sgsN_con T) hT' hsg fun ds Q hs hΨ => ?_
  rw [hγ]; exact h ds Q hs hΨ
/-- .. each of its own -/
theorem con_each {E : Env} (hW : E.Wf) (hmix : E.P.follows .mixedOrders = true) (hγ : E.γ = []) (T : List (Con E)) {ns : List (Nat × Sig)} (hn : names T = ns) {f : Nat} {sg : Sig} {tr : Tree} (hT : walk E.cx (sgsN ns) 0 f sg = tr) (hsg : sg.ok = true) {Ψ : Spec}
    (h : allS E.Δ (Sig.sorts sg.params) fun ds => ∀ Q, Ψ ds Q → wp E.Δ (specC T) Q tr ds []) : Holds E f sg Ψ :=
  con_by hW hmix hγ T hn hT hsg fun ds Q hs hΨ => allS_use h hs Q hΨ

section
variable {Δ : Tab} {ρ : List Dat}
theorem den_int (k : IntKind) (n : Int) : den Δ ρ (.int k n) = .int k n := rfl
theorem den_bool (b : Bool) : den Δ ρ (.bool b) = .bool b := rfl
theorem den_nili : den Δ ρ .nili = .val .nilIface := rfl
theorem den_ar (o : Ar) (k : IntKind) (a b : Tm) : den Δ ρ (.ar o k a b) = .int k (o.of k (den Δ ρ a).toInt (den Δ ρ b).toInt) := rfl
theorem den_cmp (c : Cmp) (a b : Tm) : den Δ ρ (.cmp c a b) = .bool (c.of (den Δ ρ a).toInt (den Δ ρ b).toInt) := rfl
theorem den_not (a : Tm) : den Δ ρ (.not a) = .bool (!(den Δ ρ a).toBool) := rfl
theorem den_len (a : Tm) : den Δ ρ (.len a) = .int .i64 (den Δ ρ a).xs.length := rfl
theorem den_elem (s i : Tm) (c : Nat) (t : Srt) : den Δ ρ (.elem s i c t) = ((den Δ ρ s).xs.getD (den Δ ρ i).toInt.toNat []).getD c (dflt Δ t) := rfl
theorem den_isnil (a : Tm) : den Δ ρ (.isnil a) = .bool (isNilI (den Δ ρ a)) := rfl
theorem den_errI (a : Tm) : den Δ ρ (.errI a) = .int .i64 (errN (den Δ ρ a)) := rfl
theorem den_ifc (a : Tm) : den Δ ρ (.ifc a) = .val (.iface 49 (.int .i64 (den Δ ρ a).toInt)) := rfl
theorem den_rep (n row : Tm) : den Δ ρ (.rep n row) = .rows (List.replicate (den Δ ρ n).toInt.toNat (den Δ ρ row).row0) := rfl
theorem den_push (a row : Tm) : den Δ ρ (.push a row) = .rows ((den Δ ρ a).xs ++ [(den Δ ρ row).row0]) := rfl
theorem den_app (a b : Tm) : den Δ ρ (.app a b) = .rows ((den Δ ρ a).xs ++ (den Δ ρ b).xs) := rfl
theorem den_emp : den Δ ρ .emp = .rows [] := rfl
theorem den_upd (a i : Tm) (c : Nat) (v : Tm) : den Δ ρ (.upd a i c v) = .rows ((den Δ ρ a).xs.set (den Δ ρ i).toInt.toNat (((den Δ ρ a).xs.getD (den Δ ρ i).toInt.toNat []).set c (den Δ ρ v))) := rfl
theorem den_enil : den Δ ρ .enil = .rows [[]] := rfl
theorem row0_econs (a b : Tm) : (den Δ ρ (.econs a b)).row0 = den Δ ρ a :: (den Δ ρ b).row0 := rfl
theorem row0_enil : (den Δ ρ .enil).row0 = [] := rfl
theorem den_sel (cs i : Tm) (t : Srt) : den Δ ρ (.sel cs i t) = (den Δ ρ cs).row0.getD (den Δ ρ i).toInt.toNat (dflt Δ t) := rfl
theorem den_and (a b : Tm) : den Δ ρ (.and a b) = .bool ((den Δ ρ a).toBool && (den Δ ρ b).toBool) := rfl
theorem den_beq (a b : Tm) : den Δ ρ (.beq a b) = .bool ((den Δ ρ a).toBool == (den Δ ρ b).toBool) := rfl
theorem den_nil (r : Nat) : den Δ ρ (.nil r) = .list (.slice none 0 0) (Δ.row r).length [] := rfl
theorem toInt_int (k : IntKind) (n : Int) : (Dat.int k n).toInt = n := rfl
theorem toBool_bool (b : Bool) : (Dat.bool b).toBool = b := rfl
theorem xs_rows (l : List (List Dat)) : (Dat.rows l).xs = l := rfl
theorem xs_list (v : Value) (n : Nat) (l : List (List Dat)) : (Dat.list v n l).xs = l := rfl
theorem dflt_int (k : IntKind) : dflt Δ (.int k) = .int k 0 := rfl
theorem dflt_bool : dflt Δ .bool = .bool false := rfl
theorem of_eq (a b : Int) : Cmp.eq.of a b = (a == b) := rfl
theorem of_ne (a b : Int) : Cmp.ne.of a b = (a != b) := rfl
theorem of_lt (a b : Int) : Cmp.lt.of a b = decide (a < b) := rfl
theorem of_le (a b : Int) : Cmp.le.of a b = decide (a ≤ b) := rfl
theorem of_gt (a b : Int) : Cmp.gt.of a b = decide (b < a) := rfl
theorem of_ge (a b : Int) : Cmp.ge.of a b = decide (b ≤ a) := rfl
theorem of_add (k : IntKind) (a b : Int) : Ar.add.of k a b = k.wrap (a + b) := rfl
theorem of_sub (k : IntKind) (a b : Int) : Ar.sub.of k a b = k.wrap (a - b) := rfl
theorem of_rem (k : IntKind) (a b : Int) : Ar.rem.of k a b = a.tmod b := rfl
theorem argI_fold (ds : List Dat) (i : Nat) : (ds.getD i (.bool false)).toInt = argI ds i := by
  unfold argI
  rw [List.getD_eq_getElem?_getD, List.getD_eq_getElem?_getD]
  cases ds[i]? <;> rfl
theorem argL_fold (ds : List Dat) (i : Nat) : (ds.getD i (.bool false)).xs = argL ds i := rfl
end
/-- a list's rows below an index given as a number -/
theorem getD_nat {α : Type} (l : List α) (k : Nat) (d : α) (h : k < l.length) : l.getD ((k : Int)).toNat d = l[k] := by simp [List.getD_eq_getElem?_getD, h]
end Go.Proofs.YtbpbdanggilnpaaDoor
end

section
namespace Go.Proofs.YtbpbdanggilnpaaDoor
open Go.RowKit
set_option linter.unusedVariables false
set_option linter.unusedSimpArgs false

/-- a contract of a function that calls itself: by what gets less -/
theorem holds_rec {E : Env} {f : FuncId} {sg : Sig} {Φ : Spec} (m : List Dat → Nat)
    (step : ∀ n, Holds E f sg (fun ds Q => m ds < n ∧ Φ ds Q) → Holds E f sg (fun ds Q => m ds < n + 1 ∧ Φ ds Q)) : Holds E f sg Φ := by
  have all : ∀ n, Holds E f sg (fun ds Q => m ds < n ∧ Φ ds Q) := by
    intro n
    induction n with
    | zero => intro w ds Q _ _ _ _ h; exact absurd h.1 (Nat.not_lt_zero _)
    | succ n ih => exact step n ih
  intro w ds Q h1 h2 h3 h4 h5
  exact all (m ds + 1) w ds Q h1 h2 h3 h4 ⟨Nat.lt_succ_self _, h5⟩

/-- .. its callees' contracts behind a name -/
theorem con_fn {E : Env} (hW : E.Wf) (hmix : E.P.follows .mixedOrders = true) (hγ : E.γ = []) (T : List (Con E)) {ns : List (Nat × Sig)} (hn : names T = ns) {f : Nat} {sg : Sig} {tr : Tree} (hT : walk E.cx (sgsN ns) 0 f sg = tr) (hsg : sg.ok = true) {Ψ : Spec}
    (h : ∀ Φ : Nat → Spec, Φ = specC T → ∀ ds Q, All2 (Has E.Δ) (Sig.sorts sg.params) ds → Ψ ds Q → wp E.Δ Φ Q tr ds []) : Holds E f sg Ψ :=
  con_by hW hmix hγ T hn hT hsg (h _ rfl)

/-- a slice that is nil has nothing -/
def NilOk (d : Dat) : Prop := isNilI d = true → d.xs = []
theorem nilOk {d : Dat} {w : World} (ho : OkD w d) : NilOk d := fun hn => by
  cases ho with
  | list v sz xs hr _ =>
    obtain ⟨A, c, rfl, hc, hlen, ha⟩ := hr
    cases A with
    | some a => cases hn
    | none =>
      cases xs with
      | nil => rfl
      | cons x xs =>
        obtain ⟨ad, e, _⟩ := ha (by simp)
        cases e
  | rows xs _ => cases hn
  | _ => rfl
theorem con_fnN {E : Env} (hW : E.Wf) (hmix : E.P.follows .mixedOrders = true) (hγ : E.γ = []) (T : List (Con E)) {ns : List (Nat × Sig)} (hn : names T = ns) {f : Nat} {sg : Sig} {tr : Tree} (hT : walk E.cx (sgsN ns) 0 f sg = tr) (hsg : sg.ok = true) {Ψ : Spec}
    (h : ∀ Φ : Nat → Spec, Φ = specC T → ∀ ds Q, All2 (Has E.Δ) (Sig.sorts sg.params) ds → (∀ d ∈ ds, NilOk d) → Ψ ds Q → wp E.Δ Φ Q tr ds []) : Holds E f sg Ψ := fun w ds Q h1 h2 h3 h4 h5 =>
  con_fn hW hmix hγ T hn hT hsg (Ψ := fun ds Q => (∀ d ∈ ds, NilOk d) ∧ Ψ ds Q) (fun Φ hΦ ds Q hs hq => h Φ hΦ ds Q hs hq.1 hq.2) w ds Q h1 h2 h3 h4 ⟨fun d hd => nilOk (h2 d hd), h5⟩
theorem take_succ_getD {α : Type} {l : List α} {i : Nat} {d : α} (h : i < l.length) : l.take (i + 1) = l.take i ++ [l.getD i d] := by
  rw [List.getD_eq_getElem?_getD, List.getElem?_eq_getElem h, List.take_add_one, List.getElem?_eq_getElem h]; rfl
theorem drop_getD {α : Type} {l : List α} {i : Nat} {d : α} (h : i < l.length) : l.drop i = l.getD i d :: l.drop (i + 1) := by
  rw [List.getD_eq_getElem?_getD, List.getElem?_eq_getElem h, List.drop_eq_getElem_cons h]; rfl
theorem getD_memL {α : Type} {l : List α} {i : Nat} {d : α} (h : i < l.length) : l.getD i d ∈ l := by
  rw [List.getD_eq_getElem?_getD, List.getElem?_eq_getElem h]; exact List.getElem_mem h
theorem argV {Δ : Tab} {k : IntKind} {ds : List Dat} {i : Nat} (h : Has Δ (.int k) (ds.getD i (.bool false))) : ds.getD i (.bool false) = .int k (argI ds i) := by
  rw [← argI_fold]; exact has_int h
theorem den_ite (Δ : Tab) (ρ : List Dat) (c a b : Tm) : den Δ ρ (.ite c a b) = if (den Δ ρ c).toBool then den Δ ρ a else den Δ ρ b := rfl
theorem argI_c0 {d : Dat} {l : List Dat} : argI (d :: l) 0 = d.toInt := rfl
theorem argI_c1 {d : Dat} {l : List Dat} {n : Nat} : argI (d :: l) (n + 1) = argI l n := rfl
theorem argL_c0 {d : Dat} {l : List Dat} : argL (d :: l) 0 = d.xs := rfl
theorem argL_c1 {d : Dat} {l : List Dat} {n : Nat} : argL (d :: l) (n + 1) = argL l n := rfl
theorem xs_cutD {Δ : Tab} {r : Nat} {d : Dat} {l h : Nat} (hd : Has Δ (.list r) d) (h1 : l ≤ h) (h2 : h ≤ d.xs.length) : (cutD l h d).xs = (d.xs.take h).drop l := by
  cases hd with
  | list _ A n c xs hl hh =>
    have hall : xs.all (fun r' => r'.length == (Δ.row r).length) = true := List.all_eq_true.2 fun row hr => by simpa using hl row hr
    simp only [cutD]
    rw [if_pos ⟨h1, h2, hall⟩]
    rfl
theorem den_or (Δ : Tab) (ρ : List Dat) (a b : Tm) : den Δ ρ (.or a b) = .bool ((den Δ ρ a).toBool || (den Δ ρ b).toBool) := rfl
theorem den_conv (Δ : Tab) (ρ : List Dat) (k : IntKind) (a : Tm) : den Δ ρ (.conv k a) = .int k (k.wrap (den Δ ρ a).toInt) := rfl
theorem den_cutT (Δ : Tab) (ρ : List Dat) (a l h : Tm) : den Δ ρ (.cut a l h) = cutD (den Δ ρ l).toInt.toNat (den Δ ρ h).toInt.toNat (den Δ ρ a) := rfl
theorem ite_datb (c : Prop) [Decidable c] (a b : Bool) : (if c then Dat.bool a else Dat.bool b) = Dat.bool (if c then a else b) := by split <;> rfl
theorem ite_dati (k : IntKind) (c : Prop) [Decidable c] (a b : Int) : (if c then Dat.int k a else Dat.int k b) = Dat.int k (if c then a else b) := by split <;> rfl
theorem toInt_ite (c : Prop) [Decidable c] (a b : Dat) : (if c then a else b).toInt = if c then a.toInt else b.toInt := by split <;> rfl
theorem toBool_ite (c : Prop) [Decidable c] (a b : Dat) : (if c then a else b).toBool = if c then a.toBool else b.toBool := by split <;> rfl
theorem argI_row {r e : List Dat} {i k : Nat} (h : r.length = k) (hk : k ≤ i) : argI (r ++ e) i = argI e (i - k) := by
  subst h
  simp [argI, List.getD_eq_getElem?_getD, List.getElem?_append_right hk]
theorem argI_0 {d : Dat} {l : List Dat} : argI (d :: l) 0 = d.toInt := rfl
theorem argI_1 {a d : Dat} {l : List Dat} : argI (a :: d :: l) 1 = d.toInt := rfl
def errV (n : Int) : Dat := if n = 0 then .val .nilIface else .val (.iface 49 (.int .i64 n))
theorem errV_nil (n : Int) : isNilI (errV n) = decide (n = 0) := by
  unfold errV
  by_cases h : n = 0
  · rw [if_pos h, decide_eq_true h]; rfl
  · rw [if_neg h, decide_eq_false h]; rfl
theorem errV_0 : errV 0 = .val .nilIface := rfl
theorem errV_n {n : Int} (h : n ≠ 0) : errV n = .val (.iface 49 (.int .i64 n)) := if_neg h
def k_Num : Nat := 10
def sg_Num : Sig := ⟨[(false, [.err])], [(false, [.int .i64])], false, false, false, false, false, [], [], none⟩
def tr_Num : Tree := (.ite (.isnil (.var 0))
 (.ret [(.int .i64 0)])
 (.ite (.cmp .ne (.errI (.var 0)) (.int .i64 0))
  (.ret [(.errI (.var 0))])
  (.ret [(.int .i64 (-1))])))
theorem wk_Num : walk E0.cx (sgsN []) 0 10 sg_Num = tr_Num := by kernel_rfl
theorem bo_Num : ∃ x, bodyOf E0.P 10 = some x := bo_of (by kernel_rfl)
def Num_s : Spec := fun ds Q => ∃ n : Int, ds = [errV n] ∧ Q [.int .i64 n]
theorem Num_h : Holds E0 k_Num sg_Num Num_s := con_by wf0 mix0 g0 [] rfl wk_Num rfl (by
  intro ds Q hs ⟨n, e, h⟩
  subst e
  simp only [tr_Num, wp, den_int, den_bool, den_nili, den_ar, den_cmp, den_not, den_len, den_elem, den_isnil, den_errI, den_ifc, den_rep, den_push, den_app, den_emp, den_upd, row0_econs, row0_enil, den_and, den_beq, den_nil, toInt_int, toBool_bool, xs_rows, xs_list, dflt_int, dflt_bool, of_eq, of_ne, of_lt, of_le, of_gt, of_ge, of_add, of_sub, of_rem, List.map_cons, List.map_nil, Dat.bool.injEq, decide_eq_true_eq, decide_eq_false_iff_not, Bool.not_eq_true', Bool.not_eq_false', beq_iff_eq, bne_iff_ne, beq_eq_false_iff_ne, bne_eq_false_iff_eq, ne_eq, List.append_assoc, List.cons_append, List.nil_append, den_var0, List.getD_cons_zero]
  by_cases hn : n = 0
  · subst hn
    exact ⟨fun _ => h, fun hx => Bool.noConfusion hx⟩
  · simp only [errV, if_neg hn, errN]
    exact ⟨fun hx => Bool.noConfusion hx, fun _ => ⟨fun _ => h, fun hx => absurd hx hn⟩⟩)
noncomputable def con_Num : Con E0 := ⟨k_Num, sg_Num, Num_s, rfl, bo_Num, Num_h⟩
def true_s : Spec := fun ds Q => Q [.bool true]
end Go.Proofs.YtbpbdanggilnpaaDoor
end

section
namespace Go.Proofs.YtbpbdanggilnpaaDoor.mth

/-- what stands for a number -/
def zig (n : Int) : Nat := if 0 ≤ n then (2 * n).toNat else (-2 * n - 1).toNat

/-- a number's bytes: seven bits each, the lowest first; f: how many may follow -/
def encF : Nat → Nat → List Nat
  | 0, x => [x]
  | f + 1, x => if x < 128 then [x] else (x % 128 + 128) :: encF f (x / 128)
def enc (x : Nat) : List Nat := encF 9 x
def encI (n : Int) : List Nat := enc (zig n)

theorem encF_small (f x : Nat) (h : x < 128) : encF f x = [x] := by
  cases f with
  | zero => rfl
  | succ f => simp [encF, h]
theorem encF_step (f x : Nat) (h : ¬ x < 128) : encF (f + 1) x = (x % 128 + 128) :: encF f (x / 128) := by simp [encF, h]

theorem zig_lt (n : Int) (h1 : -9223372036854775808 ≤ n) (h2 : n ≤ 9223372036854775807) : zig n < 18446744073709551616 := by
  unfold zig; split <;> omega

theorem encF_len (f : Nat) : ∀ x, 1 ≤ (encF f x).length ∧ (encF f x).length ≤ f + 1 := by
  induction f with
  | zero => intro x; simp [encF]
  | succ f ih =>
    intro x
    by_cases h : x < 128
    · rw [encF_small _ _ h]; simp
    · rw [encF_step _ _ h, List.length_cons]; have := ih (x / 128); omega
theorem enc_len (x : Nat) : 1 ≤ (enc x).length ∧ (enc x).length ≤ 10 := encF_len 9 x

theorem encF_byte (f : Nat) : ∀ x, x < 128 ^ (f + 1) → ∀ b ∈ encF f x, b < 256 := by
  induction f with
  | zero => intro x hx b hb; simp [encF] at hb; subst hb; omega
  | succ f ih =>
    intro x hx b hb
    by_cases h : x < 128
    · rw [encF_small _ _ h] at hb; simp at hb; omega
    · rw [encF_step _ _ h] at hb
      rcases List.mem_cons.1 hb with e | e
      · omega
      · refine ih (x / 128) ?_ b e
        rw [Nat.pow_succ] at hx
        exact (Nat.div_lt_iff_lt_mul (by omega)).2 hx

/-- where the loop stands: k bytes are out, y is left -/
structure Going (X k y : Nat) (done : List Nat) : Prop where
  hk : k ≤ 9
  len : done.length = k
  lt : y < 128 ^ (10 - k)
  all : done ++ encF (9 - k) y = enc X
  le : y ≤ X

theorem going_start (X : Nat) (hX : X < 18446744073709551616) : Going X 0 X [] :=
  ⟨by omega, rfl, Nat.lt_of_lt_of_le hX (by decide), rfl, Nat.le_refl _⟩
theorem going_step {X k y : Nat} {done : List Nat} (h : Going X k y done) (hy : ¬ y < 128) : Going X (k + 1) (y / 128) (done ++ [y % 128 + 128]) := by
  obtain ⟨hk, hl, hlt, ha, hle⟩ := h
  have h9 : k < 9 := by
    apply Classical.byContradiction
    intro h
    have : k = 9 := by omega
    subst this
    omega
  refine ⟨by omega, by simp [hl], ?_, ?_, Nat.le_trans (Nat.div_le_self _ _) hle⟩
  · rw [show 10 - k = (10 - (k + 1)) + 1 from by omega, Nat.pow_succ] at hlt
    exact (Nat.div_lt_iff_lt_mul (by omega)).2 hlt
  · rw [show 9 - k = (9 - (k + 1)) + 1 from by omega, encF_step _ _ hy] at ha
    rw [← ha]; simp
theorem going_end {X k y : Nat} {done : List Nat} (h : Going X k y done) (hy : y < 128) : done ++ [y] = enc X ∧ k + 1 = (enc X).length := by
  have : done ++ [y] = enc X := by rw [← encF_small (9 - k) y hy]; exact h.all
  exact ⟨this, by rw [← this]; simp [h.len]⟩

/-- a list's bytes -/
def encAll : List Int → List Nat
  | [] => []
  | n :: l => encI n ++ encAll l
def encL (l : List Int) : List Nat := encI (l.length : Int) ++ encAll l
theorem encAll_append (a b : List Int) : encAll (a ++ b) = encAll a ++ encAll b := by
  induction a with
  | nil => rfl
  | cons n a ih => simp [encAll, ih]
theorem encAll_len (l : List Int) : (encAll l).length ≤ 10 * l.length := by
  induction l with
  | nil => simp [encAll]
  | cons n l ih => have := (enc_len (zig n)).2; simp only [encAll, encI, List.length_append, List.length_cons]; omega

theorem or128 (y : Nat) : (y % 256) ||| 128 = y % 128 + 128 := by
  have h : y % 256 < 256 := Nat.mod_lt _ (by omega)
  have e : y % 128 = y % 256 % 128 := by omega
  rw [e]
  generalize y % 256 = b at *
  have : ∀ b, b < 256 → b ||| 128 = b % 128 + 128 := by decide +kernel
  exact this b h

end Go.Proofs.YtbpbdanggilnpaaDoor.mth
end
