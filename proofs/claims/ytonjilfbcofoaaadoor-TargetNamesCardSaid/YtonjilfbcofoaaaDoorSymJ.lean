/-
  Contracts told by terms; calls; slices handed on; results.
-/
import Derived.Test.YtonjilfbcofoaaaDoorSymI
namespace Go.Proofs.YtonjilfbcofoaaaDoor
open Go.RowKit
set_option linter.unusedVariables false

def Sig.sorts (l : List (Bool × List Srt)) : List Srt := l.flatMap (·.2)
def grpOk (l : List (Bool × List Srt)) : Bool := l.all fun x => x.2.all (·.one) && (x.1 || x.2.length == 1)
def Sig.ok (s : Sig) : Bool := grpOk s.params && (if s.own then (match s.res with
  | [(false, [.rows _])] => true
  | _ => false) else grpOk s.res)
/-- how a call ends -/
def Ends (E : Env) (sg : Sig) (w w' : World) (old : Nat → Prop) (Q : List Dat → Prop) (e : Ending) : Prop :=
  ∃ rs, Q rs ∧ All2 (Has E.Δ) (Sig.sorts sg.res) rs ∧ Below w.heap.size w w' ∧ OkL w' rs ∧ (∀ k, AtL rs k → w.heap.size ≤ k ∨ old k) ∧
    (if sg.own = true then ∃ A n c r xs, sg.res = [(false, [.rows r])] ∧ rs = [.rows xs] ∧ e = .returned (.slice A n c) ∧ Ow w' w.heap.size (E.Δ.row r).length (.slice A n c) n (flatV xs) ∧ xs.length = n ∧ ∀ k, blkOf (.slice A n c) = some k → ¬ AtL rs k
      else e = .returned (retV (groupV sg.res rs)))
/-- what is promised of a function -/
def Holds (E : Env) (f : FuncId) (sg : Sig) (Φ : Spec) : Prop :=
  ∀ (w : World) (ds : List Dat) (Q : List Dat → Prop), All2 (Has E.Δ) (Sig.sorts sg.params) ds → OkL w ds → OkL w E.γ → E.globs w → Φ ds Q →
    Calls E.P f (groupV sg.params ds).toArray w fun e w' => Ends E sg w w' (fun k => AtL ds k ∨ AtL E.γ k) Q e

section
variable {E : Env} {w0 w w' : World} {ρ ρ' : List Dat} {σ σ' : List Value} {S S' : St} {a : Act} {L : List Fact} {o : Oper}
theorem tb {d : Dat} (h : d.toBool = true) : d = .bool true := by
  cases d <;> first | (cases h; done) | (rename_i b; cases b; cases h; rfl)
theorem isB_ok {Δ : Tab} {ρ : List Dat} {t : Tm} (h : isB t = true) : ∃ b, den Δ ρ t = .bool b := by
  cases t <;> first | (cases h; done) | exact ⟨_, rfl⟩
theorem splitK_ok {Δ : Tab} {ρ : List Dat} {n : Nat} : ∀ {t : Tm} {b : Bool}, den Δ ρ t = .bool b → t.bnd n = true → ∀ x ∈ splitK t b, den Δ ρ x.1 = .bool x.2 ∧ x.1.bnd n = true := by
  intro t
  have one : ∀ {t : Tm} {b : Bool}, den Δ ρ t = .bool b → t.bnd n = true → ∀ x ∈ [(t, b)], den Δ ρ x.1 = .bool x.2 ∧ x.1.bnd n = true := fun h hb x hx => by
    rw [List.mem_singleton.1 hx]; exact ⟨h, hb⟩
  induction t with
  | and a b iha ihb =>
    intro v h hb x hx
    cases v with
    | false => exact one h hb x hx
    | true =>
      have hb' := hb
      simp only [Tm.bnd, Bool.and_eq_true] at hb'
      have h' := h
      simp only [den, Dat.bool.injEq, Bool.and_eq_true] at h'
      rcases List.mem_cons.1 hx with rfl | hx
      · exact ⟨h, hb⟩
      · rcases List.mem_append.1 hx with hx | hx
        · exact iha (tb h'.1) hb'.1 x hx
        · exact ihb (tb h'.2) hb'.2 x hx
  | or a b iha ihb =>
    intro v h hb x hx
    cases v with
    | true => exact one h hb x hx
    | false =>
      have hb' := hb
      simp only [Tm.bnd, Bool.and_eq_true] at hb'
      have h' := h
      simp only [den, Dat.bool.injEq, Bool.or_eq_false_iff] at h'
      rcases List.mem_cons.1 hx with rfl | hx
      · exact ⟨h, hb⟩
      · split at hx
        · rename_i hB
          simp only [Bool.and_eq_true] at hB
          obtain ⟨p, hp⟩ := isB_ok (Δ := Δ) (ρ := ρ) hB.1
          obtain ⟨q, hq⟩ := isB_ok (Δ := Δ) (ρ := ρ) hB.2
          rw [hp, hq] at h'
          simp only [Dat.toBool] at h'
          rw [h'.1] at hp
          rw [h'.2] at hq
          rcases List.mem_append.1 hx with hx | hx
          · exact iha hp hb'.1 x hx
          · exact ihb hq hb'.2 x hx
        · cases hx
  | not a iha =>
    intro v h hb x hx
    have h' := h
    simp only [den, Dat.bool.injEq] at h'
    simp only [splitK] at hx
    rcases List.mem_cons.1 hx with rfl | hx
    · exact ⟨h, hb⟩
    · split at hx
      · rename_i hB
        obtain ⟨p, hp⟩ := isB_ok (Δ := Δ) (ρ := ρ) hB
        rw [hp] at h'
        simp only [Dat.toBool] at h'
        refine iha (b := !v) ?_ hb x hx
        rw [hp, ← h', Bool.not_not]
      · cases hx
  | _ => intro v h hb x hx; exact one h hb x (by cases v <;> exact hx)
theorem Rel.know (h : Rel E w0 ρ σ S a w) {t : Tm} {b : Bool} (ht : t.bnd S.n = true) (hd : den E.Δ ρ t = .bool b) : Rel E w0 ρ σ (S.know t b) a w :=
  ⟨h.slots, h.defers, h.n, fun x hx => by
    rcases List.mem_append.1 hx with hx | hx
    · obtain ⟨h1, h2⟩ := splitK_ok hd ht x hx
      have := Den.of (Δ := E.Δ) (ρ := ρ) (t := x.1) (by rw [← h.n]; exact h2)
      rw [h1] at this
      exact this
    · exact h.known x hx, h.mem, h.pre, h.reach⟩
theorem All2.len_eq {α β : Type} {R : α → β → Prop} {l : List α} {m : List β} (h : All2 R l m) : m.length = l.length := h.length.symm
theorem tmsS_ok : ∀ {ss : List Srt} {l : List C} {vs : List Value} {ts : List Tm}, All2 (CR E ρ σ) l vs → tmsS ss l = some ts → vs = (ts.map (den E.Δ ρ)).map Dat.toV ∧ All2 (Has E.Δ) ss (ts.map (den E.Δ ρ))
  | [], [], _, ts, h, e => by cases h; cases e; exact ⟨rfl, .nil⟩
  | s :: ss, .p (.tm t s') :: l, _, ts, h, e => by
    cases h with
    | cons h1 h2 =>
    have key : s = s' ∧ s.one = true ∧ ∃ ts', tmsS ss l = some ts' ∧ t :: ts' = ts := by
      have e' : (if s = s' ∧ s.one = true then (tmsS ss l).map (t :: ·) else none) = some ts := by cases s <;> exact e
      split at e'
      · rename_i hs
        simp only [Option.map_eq_some_iff] at e'
        exact ⟨hs.1, hs.2, e'⟩
      · cases e'
    obtain ⟨rfl, ho, ts', e1, rfl⟩ := key
    obtain ⟨i1, i2⟩ := tmsS_ok h2 e1
    obtain ⟨d, d1, d2, d3, _⟩ := h1
    refine ⟨?_, ?_⟩
    · rw [i1, d3]; simp [d1.now]
    · simp only [List.map_cons]; rw [d1.now]; exact .cons d2 i2
  | .list r :: ss, .p .nils :: l, _, ts, h, e => by
    cases h with
    | cons h1 h2 =>
    simp only [tmsS, Option.map_eq_some_iff] at e
    obtain ⟨ts', e1, rfl⟩ := e
    obtain ⟨i1, i2⟩ := tmsS_ok h2 e1
    cases h1
    exact ⟨by rw [i1]; rfl, .cons (.list r none 0 0 [] (by simp) (by simp)) i2⟩
  | [], _ :: _, _, _, _, e => by simp [tmsS] at e
  | s :: ss, [], _, _, _, e => by cases s <;> simp [tmsS] at e
  | s :: ss, .unk :: l, _, _, _, e => by cases s <;> simp [tmsS] at e
  | s :: ss, .undef :: l, _, _, _, e => by cases s <;> simp [tmsS] at e
  | s :: ss, .fn _ _ :: l, _, _, _, e => by cases s <;> simp [tmsS] at e
  | s :: ss, .p (.ref _ _ _) :: l, _, _, _, e => by cases s <;> simp [tmsS] at e
  | s :: ss, .p (.own _) :: l, _, _, _, e => by cases s <;> simp [tmsS] at e
  | s :: ss, .p (.sb _ _ _ _) :: l, _, _, _, e => by cases s <;> simp [tmsS] at e
  | .int _ :: ss, .p .nils :: l, _, _, _, e => by simp [tmsS] at e
  | .bool :: ss, .p .nils :: l, _, _, _, e => by simp [tmsS] at e
  | .str :: ss, .p .nils :: l, _, _, _, e => by simp [tmsS] at e
  | .err :: ss, .p .nils :: l, _, _, _, e => by simp [tmsS] at e
  | .val :: ss, .p .nils :: l, _, _, _, e => by simp [tmsS] at e
  | .rows _ :: ss, .p .nils :: l, _, _, _, e => by simp [tmsS] at e
theorem All2.split {α β : Type} {R : α → β → Prop} : ∀ {l l' : List α} {m : List β}, All2 R (l ++ l') m → All2 R l (m.take l.length) ∧ All2 R l' (m.drop l.length)
  | [], l', m, h => ⟨by simpa using All2.nil, by simpa using h⟩
  | x :: l, l', m, h => by
    cases h with
    | cons h1 h2 =>
    obtain ⟨i1, i2⟩ := All2.split h2
    exact ⟨.cons h1 i1, i2⟩
theorem argTms_ok : ∀ {ps : List (Bool × List Srt)} {args : List AV} {vs : List Value} {ts : List Tm}, All2 (VR E ρ σ) args vs → argTms ps args = some ts → vs = groupV ps (ts.map (den E.Δ ρ)) ∧ All2 (Has E.Δ) (Sig.sorts ps) (ts.map (den E.Δ ρ))
  | [], [], _, ts, h, e => by cases h; cases e; exact ⟨rfl, .nil⟩
  | (ag, ss) :: ps, x :: xs, _, ts, h, e => by
    cases h with
    | cons h1 h2 =>
    simp only [argTms, Option.bind_eq_some_iff, Option.map_eq_some_iff] at e
    obtain ⟨t1, e1, t2, e2, rfl⟩ := e
    obtain ⟨i1, i2⟩ := argTms_ok h2 e2
    unfold argOf at e1
    split at e1
    · split at e1
      case isFalse => cases e1
      rename_i hag
      obtain ⟨us, u1, u2⟩ := h1
      obtain ⟨k1, k2⟩ := tmsS_ok u1 e1
      have hl : ss.length = t1.length := by simpa using k2.length
      refine ⟨?_, ?_⟩
      · simp only [groupV, hag, if_true, List.map_append]
        rw [List.take_left' (by simp [hl]), List.drop_left' (by simp [hl]), ← i1, u2, k1]
      · simp only [Sig.sorts, List.flatMap_cons, List.map_append]
        exact k2.append i2
    · split at e1
      · cases e1
      rename_i hag
      simp only [Bool.or_eq_true, bne_iff_ne, ne_eq, not_or, Decidable.not_not, Bool.not_eq_true] at hag
      obtain ⟨k1, k2⟩ := tmsS_ok (All2.one h1) e1
      have hl : ss.length = t1.length := by simpa using k2.length
      have : ∃ t, t1 = [t] := by
        cases t1 with
        | nil => simp [hag.2] at hl
        | cons t t1 =>
          cases t1 with
          | nil => exact ⟨t, rfl⟩
          | cons _ _ => simp [hag.2] at hl
      obtain ⟨t, rfl⟩ := this
      simp only [List.map_cons, List.map_nil, List.cons.injEq, and_true] at k1
      refine ⟨?_, ?_⟩
      · simp only [groupV, hag.1, Bool.false_eq_true, if_false, List.map_append, List.map_cons, List.map_nil, List.cons_append, List.nil_append, List.headD_cons, hag.2, List.drop_succ_cons, List.drop_zero, ← i1, ← k1]
      · simp only [Sig.sorts, List.flatMap_cons, List.map_append]
        exact k2.append i2
    · cases e1
  | [], _ :: _, _, _, _, e => by simp [argTms] at e
  | _ :: _, [], _, _, _, e => by simp [argTms] at e
theorem varsC_ok : ∀ {ss : List Srt} {ds : List Dat} {n : Nat}, All2 (Has E.Δ) ss ds → ss.all (·.one) = true → (∀ (i : Nat) d, ds[i]? = some d → ρ[n + i]? = some d) → All2 (CR E ρ σ) (varsC ss n) (ds.map Dat.toV)
  | [], _, n, h, _, _ => by cases h; exact .nil
  | s :: ss, _, n, h, ho, hv => by
    cases h with
    | cons h1 h2 =>
    simp only [List.all_cons, Bool.and_eq_true] at ho
    rename_i d ds
    refine .cons ⟨d, Den.var (by simpa using hv 0 d rfl), h1, rfl, ho.1⟩ (varsC_ok h2 ho.2 fun i d hd => ?_)
    rw [show n + 1 + i = n + (i + 1) by omega]
    exact hv (i + 1) d (by simpa using hd)
theorem resA_ok : ∀ {l : List (Bool × List Srt)} {ds : List Dat} {n : Nat}, All2 (Has E.Δ) (Sig.sorts l) ds → grpOk l = true → (∀ (i : Nat) d, ds[i]? = some d → ρ[n + i]? = some d) → All2 (AR E ρ σ) (resA l n) (groupV l ds)
  | [], _, n, h, _, _ => .nil
  | (ag, ss) :: l, ds, n, h, ho, hv => by
    simp only [grpOk, List.all_cons, Bool.and_eq_true] at ho
    obtain ⟨⟨ho1, ho2⟩, ho3⟩ := ho
    simp only [Sig.sorts, List.flatMap_cons] at h
    obtain ⟨h1, h2⟩ := All2.split h
    have hrec := resA_ok (l := l) (n := n + ss.length) h2 ho3 (fun i d hd => by
      rw [List.getElem?_drop] at hd
      rw [Nat.add_assoc]; exact hv _ d hd)
    have hc := varsC_ok (σ := σ) (n := n) h1 ho1 (fun i d hd => hv i d (by
      rw [List.getElem?_take] at hd
      split at hd
      · exact hd
      · cases hd))
    cases ag with
    | true => exact .cons ⟨_, hc, rfl⟩ hrec
    | false =>
      simp only [Bool.false_or, beq_iff_eq] at ho2
      refine .cons ?_ hrec
      cases ss with
      | nil => cases ho2
      | cons s ss =>
        cases ss with
        | cons _ _ => cases ho2
        | nil =>
          cases ds with
          | nil => cases h1
          | cons d ds =>
            simp only [List.length_cons, List.length_nil, List.take_succ_cons, List.take_zero, List.map_cons, List.map_nil, varsC] at hc
            cases hc with
            | cons hc _ => exact hc
theorem retAV_ok {l : List A1} {vs : List Value} (h : All2 (AR E ρ σ) l vs) : VR E ρ σ (retAV l) (retV vs) := by
  cases h with
  | nil => exact ⟨[], .nil, rfl⟩
  | cons h1 h2 =>
    cases h2 with
    | nil => exact h1
    | cons h2 h3 => exact ⟨_, .cons h1 (.cons h2 h3), rfl⟩

theorem atL_append {l m : List Dat} {k : Nat} (h : AtL (l ++ m) k) : AtL l k ∨ AtL m k := by
  obtain ⟨d, hd, hk⟩ := h
  rcases List.mem_append.1 hd with hd | hd
  · exact .inl ⟨d, hd, hk⟩
  · exact .inr ⟨d, hd, hk⟩
/-- more data -/
theorem Mem.grow (hM : Mem none w0 w (baseF E ρ :: L)) (hb : Below w.heap.size w w') {rs : List Dat} (hok : OkL w' rs) (hat : ∀ k, AtL rs k → w.heap.size ≤ k ∨ AtL ρ k) : Mem none w0 w' (baseF E (ρ ++ rs) :: L) := by
  have hk := hM.keep hb
  obtain ⟨hbL, hLL⟩ := List.pairwise_cons.1 hk.apart
  refine ⟨hk.grown, fun f hf => ?_, fun f hf hw => ?_, List.pairwise_cons.2 ⟨fun g hg hw k k1 k2 => ?_, hLL⟩⟩
  · rcases List.mem_cons.1 hf with rfl | hf
    · refine ⟨⟨fun d hd => ?_, (base_holds hk).1.2⟩, baseFirm _ _⟩
      rcases List.mem_append.1 hd with hd | hd
      · exact (base_holds hk).1.1 d hd
      · exact hok d hd
    · exact hk.holds f (List.mem_cons_of_mem _ hf)
  · rcases List.mem_cons.1 hf with rfl | hf
    · cases hw
    · exact hk.own f (List.mem_cons_of_mem _ hf) hw
  · have hw' : g.wr = true := by simpa [baseF, Fact.wr] using hw
    rcases k1 with k1 | k1
    · rcases atL_append k1 with k1 | k1
      · exact hbL g hg (by rw [hw', Bool.or_true]) k (.inl k1) k2
      · rcases hat k k1 with k1 | k1
        · have := Fact.lt (hM.holds g (List.mem_cons_of_mem _ hg)) k2
          omega
        · exact hbL g hg (by rw [hw', Bool.or_true]) k (.inl k1) k2
    · exact hbL g hg (by rw [hw', Bool.or_true]) k (.inr k1) k2
theorem Rel.reach_more (h : Rel E w0 ρ σ S a w) {rs : List Dat} (hat : ∀ k, AtL rs k → w.heap.size ≤ k ∨ AtL ρ k) : ∀ k, AtL (ρ ++ rs) k → w0.heap.size ≤ k ∨ E.old k := fun k hk => by
  obtain ⟨L, hO, hM⟩ := h.mem
  rcases atL_append hk with hk | hk
  · exact h.reach k hk
  · rcases hat k hk with hk | hk
    · exact .inl (Nat.le_trans hM.size hk)
    · exact h.reach k hk
theorem Rel.grow (h : Rel E w0 ρ σ S a w) (hb : Below w.heap.size w w') {rs : List Dat} (hok : OkL w' rs) (hat : ∀ k, AtL rs k → w.heap.size ≤ k ∨ AtL ρ k) : Rel E w0 (ρ ++ rs) σ { S with n := S.n + rs.length } a w' := by
  obtain ⟨L, hO, hM⟩ := h.mem
  exact ⟨h.slots.mono fun _ _ hr => by simpa using hr.more rs [], h.defers, by rw [List.length_append, ← h.n], fun x hx => (h.known x hx).more rs, ⟨L, hO.more rs, hM.grow hb hok hat⟩, h.pre.trans (List.prefix_append _ _), h.reach_more hat⟩
theorem Rel.call (h : Rel E w0 ρ σ S a w) {f : Nat} {sg : Sig} {Φ : Spec} (hs : sg.ok = true) (hH : Holds E f sg Φ) {args : List AV} {vs : List Value} {ts : List Tm} (hv : All2 (VR E ρ σ) args vs) (ht : argTms sg.params args = some ts) {W : List Dat → Prop}
    (hΦ : Φ (ts.map (den E.Δ ρ)) W) (dst : Option Nat) :
    Calls E.P f vs.toArray w fun e w' => ∃ u σ' rs, e = .returned u ∧ Below w.heap.size w w' ∧ W rs ∧ Rel E w0 (ρ ++ rs) σ' (callSt S sg dst) (a.put dst u) w' ∧ All2 (Has E.Δ) (Sig.sorts sg.res) rs ∧ (∃ x, σ' = σ ++ x ∧ ∀ u ∈ x, ∀ k, blkV u = some k → w.heap.size ≤ k) := by
  obtain ⟨hv1, hv2⟩ := argTms_ok hv ht
  have hgood : ∀ d ∈ ts.map (den E.Δ ρ), Good w (AtL ρ) d := fun d hd => by
    obtain ⟨t, _, rfl⟩ := List.mem_map.1 hd
    exact den_good (fun d hd => ⟨h.ok d hd, fun k hk => ⟨d, hd, hk⟩⟩) t
  rw [hv1]
  refine (hH w _ W hv2 (fun d hd => (hgood d hd).1) (fun d hd => h.ok d (h.pre.subset hd)) h.globs hΦ).mono fun e w' ⟨rs, q1, q2, q3, q4, q5, q6⟩ => ?_
  have hat : ∀ k, AtL rs k → w.heap.size ≤ k ∨ AtL ρ k := fun k hk => by
    rcases q5 k hk with h1 | ⟨d, hd, hk⟩ | ⟨d, hd, hk⟩
    · exact .inl h1
    · exact .inr ((hgood d hd).2 k hk)
    · exact .inr ⟨d, h.pre.subset hd, hk⟩
  have hg := h.grow q3 q4 hat
  unfold Sig.ok at hs
  rw [Bool.and_eq_true] at hs
  by_cases hown : sg.own = true
  · rw [if_pos hown] at q6
    obtain ⟨A, n, c, r, xs, r1, rfl, rfl, r4, r5, r6⟩ := q6
    have hcs : callSt S sg dst = { S with n := S.n + 1, objs := S.objs ++ [.own r (.app .emp (.var S.n))], slots := putO S.slots dst (.v (.c (.p (.own S.objs.length)))) } := by
      unfold callSt; rw [if_pos hown, r1]
    rw [hcs]
    refine ⟨.slice A n c, σ ++ [.slice A n c], [.rows xs], rfl, q3, q1, ?_, q2, ⟨_, rfl, fun x hx k hk => by rw [List.mem_singleton.1 hx] at hk; exact (r4.blk_lt k hk).1⟩⟩
    obtain ⟨L, hO, hM⟩ := h.mem
    have hM2 := hM.grow q3 q4 hat
    have hhas : Has E.Δ (.rows r) (.rows xs) := by
      rw [r1] at q2
      cases q2 with
      | cons h1 _ => exact h1
    have hsz := hM.size
    have hadd : Mem none w0 w' (.ow (E.Δ.row r).length (.slice A n c) n (flatV xs) :: baseF E (ρ ++ [.rows xs]) :: L) := by
      refine ⟨hM2.grown, fun f hf => ?_, fun f hf hw k hk => ?_, List.pairwise_cons.2 ⟨fun g hgm _ k k1 k2 => ?_, hM2.apart⟩⟩
      · rcases List.mem_cons.1 hf with rfl | hf
        · exact r4.weak hsz
        · exact hM2.holds f hf
      · rcases List.mem_cons.1 hf with rfl | hf
        · exact .inl (Nat.le_trans hsz (r4.blk_lt k hk).1)
        · exact hM2.own f hf hw k hk
      · have hk1 := (r4.blk_lt k k1).1
        rcases List.mem_cons.1 hgm with rfl | hgm
        · rcases k2 with k2 | ⟨x, hx, rfl⟩
          · rcases atL_append k2 with ⟨d, hd, hk⟩ | k2
            · have := (h.ok d hd).lt hk
              omega
            · exact r6 k k1 k2
          · have := Row.lt (h.globs x hx).choose_spec
            omega
        · have := Fact.lt (hM.holds g (List.mem_cons_of_mem _ hgm)) k2
          omega
    have hvar : ∀ e, (ρ ++ [Dat.rows xs] ++ e)[S.n]? = some (.rows xs) := fun e => by rw [h.n]; simp
    have hob : ObR E (ρ ++ [.rows xs]) (σ ++ [.slice A n c]) (.own r (.app .emp (.var S.n))) (.slice A n c) (.ow (E.Δ.row r).length (.slice A n c) n (flatV xs)) :=
      ⟨A, n, c, xs, rfl, fun e => by simp only [den, Dat.xs, List.getD_eq_getElem?_getD, hvar, Option.getD_some, List.nil_append], hhas, r5, rfl⟩
    have hb : Rel E w0 (ρ ++ [.rows xs]) (σ ++ [.slice A n c]) { S with n := S.n + 1, objs := S.objs ++ [.own r (.app .emp (.var S.n))] } a w' :=
      ⟨h.slots.mono fun _ _ hr => hr.more _ _, h.defers, by rw [List.length_append, ← h.n]; rfl, fun x hx => (h.known x hx).more _, ⟨L ++ [.ow (E.Δ.row r).length (.slice A n c) n (flatV xs)], (hO.more _).push hob, hadd.snoc⟩, h.pre.trans (List.prefix_append _ _), h.reach_more hat⟩
    exact hb.puts (x := .v (.c (.p (.own S.objs.length)))) (v := .slice A n c) ⟨by rw [hO.l1]; simp, A, n, c, rfl⟩ dst
  · rw [if_neg hown] at q6
    have hr : grpOk sg.res = true := by
      have := hs.2
      rwa [if_neg hown] at this
    have hlen : (sg.res.flatMap (·.2)).length = rs.length := q2.length
    have hcs : callSt S sg dst = { S with n := S.n + rs.length, slots := putO S.slots dst (retAV (resA sg.res S.n)) } := by
      unfold callSt; rw [if_neg hown, hlen]
    rw [hcs]
    refine ⟨retV (groupV sg.res rs), σ, rs, q6, q3, q1, ?_, q2, ⟨[], by simp, fun x hx => by cases hx⟩⟩
    have hv : ∀ (i : Nat) d, rs[i]? = some d → (ρ ++ rs)[S.n + i]? = some d := fun i d hd => by rw [h.n, List.getElem?_append_right (by omega), Nat.add_sub_cancel_left]; exact hd
    exact hg.puts (retAV_ok (resA_ok q2 hr hv)) dst
end
end Go.Proofs.YtonjilfbcofoaaaDoor
