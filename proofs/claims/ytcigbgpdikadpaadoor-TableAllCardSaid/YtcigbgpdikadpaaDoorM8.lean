import Derived.Test.YtcigbgpdikadpaaDoorM7
import Derived.Test.YtcigbgpdikadpaaDoorM0
import Derived.ChangeSlices
import Derived.Lib.SmallJoins
import Derived.Deep.DeepHandedRow
import Derived.Lib.LaidTab
import Derived.LaidLaws

set_option linter.unusedVariables false
set_option linter.unusedSimpArgs false

section
namespace Go.Proofs.YtcigbgpdikadpaaDoor
open Go.RowKit
set_option linter.unusedVariables false

def Sig.sorts (l : List (Bool × List Srt)) : List Srt := l.flatMap (·.2)
def grpOk (l : List (Bool × List Srt)) : Bool := l.all fun x => x.2.all (·.one) && (x.1 || x.2.length == 1)
def Sig.ok (s : Sig) : Bool := !s.isP && grpOk s.params && (if s.own then (match s.res with
  | [(false, [.rows _])] => true
  | _ => false) else grpOk s.res)
/-- how a call ends -/
def Ends (E : Env) (sg : Sig) (w w' : World) (old : Nat → Prop) (Q : List Dat → Prop) (e : Ending) : Prop :=
  ∃ rs, Q rs ∧ All2 (Has E.Δ) (Sig.sorts sg.res) rs ∧ Below w.heap.size w w' ∧ OkL w' rs ∧ (∀ k, AtL rs k → w.heap.size ≤ k ∨ old k) ∧
    (if sg.own = true then ∃ A n c r xs, sg.res = [(false, [.rows r])] ∧ rs = [.rows xs] ∧ e = .returned (.slice A n c) ∧ Ow w' w.heap.size (E.Δ.row r).length (.slice A n c) n (flatV xs) ∧ xs.length = n ∧ ∀ k, blkOf (.slice A n c) = some k → ¬ AtL rs k
      else e = .returned (retV (groupV sg.res rs)))
/-- what is promised of a function -/
def Holds (E : Env) (f : FuncId) (sg : Sig) (Φ : Spec) : Prop :=
  ∀ (w : World) (ds : List Dat) (Q : List Dat → Prop), All2 (Has E.Δ) (Sig.sorts sg.params) ds → OkL w ds → OkL w E.γ → E.globs w → Φ ds Q →
    Calls E.P f (groupV sg.params ds).toArray w fun e w' => Ends E sg w w' (fun k => AtL ds k ∨ AtL E.γ k) Q e

section
variable {E : Env} {w0 w w' : World} {ρ ρ' : List Dat} {σ σ' : List Value} {S S' : St} {a : Act} {L : List Fact} {o : Oper}
theorem tb {d : Dat} (h : d.toBool = true) : d = .bool true := by
  cases d <;> first | (cases h; done) | (rename_i b; cases b; cases h; rfl)
theorem isB_ok {Δ : Tab} {ρ : List Dat} {t : Tm} (h : isB t = true) : ∃ b, den Δ ρ t = .bool b := by
  cases t <;> first | (cases h; done) | exact ⟨_, rfl⟩
theorem splitK_ok {Δ : Tab} {ρ : List Dat} {n : Nat} : ∀ {t : Tm} {b : Bool}, den Δ ρ t = .bool b → t.bnd n = true → ∀ x ∈ splitK t b, den Δ ρ x.1 = .bool x.2 ∧ x.1.bnd n = true := by
  intro t
  have one : ∀ {t : Tm} {b : Bool}, den Δ ρ t = .bool b → t.bnd n = true → ∀ x ∈ [(t, b)], den Δ ρ x.1 = .bool x.2 ∧ x.1.bnd n = true := fun h hb x hx => by
    rw [List.mem_singleton.1 hx]; exact ⟨h, hb⟩
  induction t with
  | and a b iha ihb =>
    intro v h hb x hx
    cases v with
    | false => exact one h hb x hx
    | true =>
      have hb' := hb
      simp only [Tm.bnd, Bool.and_eq_true] at hb'
      have h' := h
      simp only [den, Dat.bool.injEq, Bool.and_eq_true] at h'
      rcases List.mem_cons.1 hx with rfl | hx
      · exact ⟨h, hb⟩
      · rcases List.mem_append.1 hx with hx | hx
        · exact iha (tb h'.1) hb'.1 x hx
        · exact ihb (tb h'.2) hb'.2 x hx
  | or a b iha ihb =>
    intro v h hb x hx
    cases v with
    | true => exact one h hb x hx
    | false =>
      have hb' := hb
      simp only [Tm.bnd, Bool.and_eq_true] at hb'
      have h' := h
      simp only [den, Dat.bool.injEq, Bool.or_eq_false_iff] at h'
      rcases List.mem_cons.1 hx with rfl | hx
      · exact ⟨h, hb⟩
      · split at hx
        · rename_i hB
          simp only [Bool.and_eq_true] at hB
          obtain ⟨p, hp⟩ := isB_ok (Δ := Δ) (ρ := ρ) hB.1
          obtain ⟨q, hq⟩ := isB_ok (Δ := Δ) (ρ := ρ) hB.2
          rw [hp, hq] at h'
          simp only [Dat.toBool] at h'
          rw [h'.1] at hp
          rw [h'.2] at hq
          rcases List.mem_append.1 hx with hx | hx
          · exact iha hp hb'.1 x hx
          · exact ihb hq hb'.2 x hx
        · cases hx
  | not a iha =>
    intro v h hb x hx
    have h' := h
    simp only [den, Dat.bool.injEq] at h'
    simp only [splitK] at hx
    rcases List.mem_cons.1 hx with rfl | hx
    · exact ⟨h, hb⟩
    · split at hx
      · rename_i hB
        obtain ⟨p, hp⟩ := isB_ok (Δ := Δ) (ρ := ρ) hB
        rw [hp] at h'
        simp only [Dat.toBool] at h'
        refine iha (b := !v) ?_ hb x hx
        rw [hp, ← h', Bool.not_not]
      · cases hx
  | _ => intro v h hb x hx; exact one h hb x (by cases v <;> exact hx)
theorem Rel.know (h : Rel E w0 ρ σ S a w) {t : Tm} {b : Bool} (ht : t.bnd S.n = true) (hd : den E.Δ ρ t = .bool b) : Rel E w0 ρ σ (S.know t b) a w :=
  ⟨h.slots, h.defers, h.n, fun x hx => by
    rcases List.mem_append.1 hx with hx | hx
    · obtain ⟨h1, h2⟩ := splitK_ok hd ht x hx
      have := Den.of (Δ := E.Δ) (ρ := ρ) (t := x.1) (by rw [← h.n]; exact h2)
      rw [h1] at this
      exact this
    · exact h.known x hx, h.mem, h.pre, h.reach⟩
theorem All2.len_eq {α β : Type} {R : α → β → Prop} {l : List α} {m : List β} (h : All2 R l m) : m.length = l.length := h.length.symm
theorem tmsS_ok : ∀ {ss : List Srt} {l : List C} {vs : List Value} {ts : List Tm}, All2 (CR E ρ σ) l vs → tmsS ss l = some ts → vs = (ts.map (den E.Δ ρ)).map Dat.toV ∧ All2 (Has E.Δ) ss (ts.map (den E.Δ ρ))
  | [], [], _, ts, h, e => by cases h; cases e; exact ⟨rfl, .nil⟩
  | s :: ss, .p (.tm t s') :: l, _, ts, h, e => by
    cases h with
    | cons h1 h2 =>
    have key : s = s' ∧ s.one = true ∧ ∃ ts', tmsS ss l = some ts' ∧ t :: ts' = ts := by
      have e' : (if s = s' ∧ s.one = true then (tmsS ss l).map (t :: ·) else none) = some ts := by cases s <;> exact e
      split at e'
      · rename_i hs
        simp only [Option.map_eq_some_iff] at e'
        exact ⟨hs.1, hs.2, e'⟩
      · cases e'
    obtain ⟨rfl, ho, ts', e1, rfl⟩ := key
    obtain ⟨i1, i2⟩ := tmsS_ok h2 e1
    obtain ⟨d, d1, d2, d3, _⟩ := h1
    refine ⟨?_, ?_⟩
    · rw [i1, d3]; simp [d1.now]
    · simp only [List.map_cons]; rw [d1.now]; exact .cons d2 i2
  | .list r :: ss, .p .nils :: l, _, ts, h, e => by
    cases h with
    | cons h1 h2 =>
    simp only [tmsS, Option.map_eq_some_iff] at e
    obtain ⟨ts', e1, rfl⟩ := e
    obtain ⟨i1, i2⟩ := tmsS_ok h2 e1
    cases h1
    exact ⟨by rw [i1]; rfl, .cons (.list r none 0 0 [] (by simp) (by simp)) i2⟩
  | [], _ :: _, _, _, _, e => by simp [tmsS] at e
  | s :: ss, [], _, _, _, e => by cases s <;> simp [tmsS] at e
  | s :: ss, .unk :: l, _, _, _, e => by cases s <;> simp [tmsS] at e
  | s :: ss, .undef :: l, _, _, _, e => by cases s <;> simp [tmsS] at e
  | s :: ss, .fn _ _ :: l, _, _, _, e => by cases s <;> simp [tmsS] at e
  | s :: ss, .p (.ref _ _ _) :: l, _, _, _, e => by cases s <;> simp [tmsS] at e
  | s :: ss, .p (.own _) :: l, _, _, _, e => by cases s <;> simp [tmsS] at e
  | s :: ss, .p (.sb _ _ _ _) :: l, _, _, _, e => by cases s <;> simp [tmsS] at e
  | .int _ :: ss, .p .nils :: l, _, _, _, e => by simp [tmsS] at e
  | .bool :: ss, .p .nils :: l, _, _, _, e => by simp [tmsS] at e
  | .str :: ss, .p .nils :: l, _, _, _, e => by simp [tmsS] at e
  | .err :: ss, .p .nils :: l, _, _, _, e => by simp [tmsS] at e
  | .val :: ss, .p .nils :: l, _, _, _, e => by simp [tmsS] at e
  | .rows _ :: ss, .p .nils :: l, _, _, _, e => by simp [tmsS] at e
theorem All2.split {α β : Type} {R : α → β → Prop} : ∀ {l l' : List α} {m : List β}, All2 R (l ++ l') m → All2 R l (m.take l.length) ∧ All2 R l' (m.drop l.length)
  | [], l', m, h => ⟨by simpa using All2.nil, by simpa using h⟩
  | x :: l, l', m, h => by
    cases h with
    | cons h1 h2 =>
    obtain ⟨i1, i2⟩ := All2.split h2
    exact ⟨.cons h1 i1, i2⟩
theorem argTms_ok : ∀ {ps : List (Bool × List Srt)} {args : List AV} {vs : List Value} {ts : List Tm}, All2 (VR E ρ σ) args vs → argTms ps args = some ts → vs = groupV ps (ts.map (den E.Δ ρ)) ∧ All2 (Has E.Δ) (Sig.sorts ps) (ts.map (den E.Δ ρ))
  | [], [], _, ts, h, e => by cases h; cases e; exact ⟨rfl, .nil⟩
  | (ag, ss) :: ps, x :: xs, _, ts, h, e => by
    cases h with
    | cons h1 h2 =>
    simp only [argTms, Option.bind_eq_some_iff, Option.map_eq_some_iff] at e
    obtain ⟨t1, e1, t2, e2, rfl⟩ := e
    obtain ⟨i1, i2⟩ := argTms_ok h2 e2
    unfold argOf at e1
    split at e1
    · split at e1
      case isFalse => cases e1
      rename_i hag
      obtain ⟨us, u1, u2⟩ := h1
      obtain ⟨k1, k2⟩ := tmsS_ok u1 e1
      have hl : ss.length = t1.length := by simpa using k2.length
      refine ⟨?_, ?_⟩
      · simp only [groupV, hag, if_true, List.map_append]
        rw [List.take_left' (by simp [hl]), List.drop_left' (by simp [hl]), ← i1, u2, k1]
      · simp only [Sig.sorts, List.flatMap_cons, List.map_append]
        exact k2.append i2
    · split at e1
      · cases e1
      rename_i hag
      simp only [Bool.or_eq_true, bne_iff_ne, ne_eq, not_or, Decidable.not_not, Bool.not_eq_true] at hag
      obtain ⟨k1, k2⟩ := tmsS_ok (All2.one h1) e1
      have hl : ss.length = t1.length := by simpa using k2.length
      have : ∃ t, t1 = [t] := by
        cases t1 with
        | nil => simp [hag.2] at hl
        | cons t t1 =>
          cases t1 with
          | nil => exact ⟨t, rfl⟩
          | cons _ _ => simp [hag.2] at hl
      obtain ⟨t, rfl⟩ := this
      simp only [List.map_cons, List.map_nil, List.cons.injEq, and_true] at k1
      refine ⟨?_, ?_⟩
      · simp only [groupV, hag.1, Bool.false_eq_true, if_false, List.map_append, List.map_cons, List.map_nil, List.cons_append, List.nil_append, List.headD_cons, hag.2, List.drop_succ_cons, List.drop_zero, ← i1, ← k1]
      · simp only [Sig.sorts, List.flatMap_cons, List.map_append]
        exact k2.append i2
    · cases e1
  | [], _ :: _, _, _, _, e => by simp [argTms] at e
  | _ :: _, [], _, _, _, e => by simp [argTms] at e
theorem varsC_ok : ∀ {ss : List Srt} {ds : List Dat} {n : Nat}, All2 (Has E.Δ) ss ds → ss.all (·.one) = true → (∀ (i : Nat) d, ds[i]? = some d → ρ[n + i]? = some d) → All2 (CR E ρ σ) (varsC ss n) (ds.map Dat.toV)
  | [], _, n, h, _, _ => by cases h; exact .nil
  | s :: ss, _, n, h, ho, hv => by
    cases h with
    | cons h1 h2 =>
    simp only [List.all_cons, Bool.and_eq_true] at ho
    rename_i d ds
    refine .cons ⟨d, Den.var (by simpa using hv 0 d rfl), h1, rfl, ho.1⟩ (varsC_ok h2 ho.2 fun i d hd => ?_)
    rw [show n + 1 + i = n + (i + 1) by omega]
    exact hv (i + 1) d (by simpa using hd)
theorem resA_ok : ∀ {l : List (Bool × List Srt)} {ds : List Dat} {n : Nat}, All2 (Has E.Δ) (Sig.sorts l) ds → grpOk l = true → (∀ (i : Nat) d, ds[i]? = some d → ρ[n + i]? = some d) → All2 (AR E ρ σ) (resA l n) (groupV l ds)
  | [], _, n, h, _, _ => .nil
  | (ag, ss) :: l, ds, n, h, ho, hv => by
    simp only [grpOk, List.all_cons, Bool.and_eq_true] at ho
    obtain ⟨⟨ho1, ho2⟩, ho3⟩ := ho
    simp only [Sig.sorts, List.flatMap_cons] at h
    obtain ⟨h1, h2⟩ := All2.split h
    have hrec := resA_ok (l := l) (n := n + ss.length) h2 ho3 (fun i d hd => by
      rw [List.getElem?_drop] at hd
      rw [Nat.add_assoc]; exact hv _ d hd)
    have hc := varsC_ok (σ := σ) (n := n) h1 ho1 (fun i d hd => hv i d (by
      rw [List.getElem?_take] at hd
      split at hd
      · exact hd
      · cases hd))
    cases ag with
    | true => exact .cons ⟨_, hc, rfl⟩ hrec
    | false =>
      simp only [Bool.false_or, beq_iff_eq] at ho2
      refine .cons ?_ hrec
      cases ss with
      | nil => cases ho2
      | cons s ss =>
        cases ss with
        | cons _ _ => cases ho2
        | nil =>
          cases ds with
          | nil => cases h1
          | cons d ds =>
            simp only [List.length_cons, List.length_nil, List.take_succ_cons, List.take_zero, List.map_cons, List.map_nil, varsC] at hc
            cases hc with
            | cons hc _ => exact hc
theorem retAV_ok {l : List A1} {vs : List Value} (h : All2 (AR E ρ σ) l vs) : VR E ρ σ (retAV l) (retV vs) := by
  cases h with
  | nil => exact ⟨[], .nil, rfl⟩
  | cons h1 h2 =>
    cases h2 with
    | nil => exact h1
    | cons h2 h3 => exact ⟨_, .cons h1 (.cons h2 h3), rfl⟩

theorem atL_append {l m : List Dat} {k : Nat} (h : AtL (l ++ m) k) : AtL l k ∨ AtL m k := by
  obtain ⟨d, hd, hk⟩ := h
  rcases List.mem_append.1 hd with hd | hd
  · exact .inl ⟨d, hd, hk⟩
  · exact .inr ⟨d, hd, hk⟩
/-- more data -/
theorem Mem.grow (hM : Mem none w0 w (baseF E ρ :: L)) (hb : Below w.heap.size w w') {rs : List Dat} (hok : OkL w' rs) (hat : ∀ k, AtL rs k → w.heap.size ≤ k ∨ AtL ρ k) : Mem none w0 w' (baseF E (ρ ++ rs) :: L) := by
  have hk := hM.keep hb
  obtain ⟨hbL, hLL⟩ := List.pairwise_cons.1 hk.apart
  refine ⟨hk.grown, fun f hf => ?_, fun f hf hw => ?_, List.pairwise_cons.2 ⟨fun g hg hw k k1 k2 => ?_, hLL⟩⟩
  · rcases List.mem_cons.1 hf with rfl | hf
    · refine ⟨⟨fun d hd => ?_, (base_holds hk).1.2⟩, baseFirm _ _⟩
      rcases List.mem_append.1 hd with hd | hd
      · exact (base_holds hk).1.1 d hd
      · exact hok d hd
    · exact hk.holds f (List.mem_cons_of_mem _ hf)
  · rcases List.mem_cons.1 hf with rfl | hf
    · cases hw
    · exact hk.own f (List.mem_cons_of_mem _ hf) hw
  · have hw' : g.wr = true := by simpa [baseF, Fact.wr] using hw
    rcases k1 with k1 | k1
    · rcases atL_append k1 with k1 | k1
      · exact hbL g hg (by rw [hw', Bool.or_true]) k (.inl k1) k2
      · rcases hat k k1 with k1 | k1
        · have := Fact.lt (hM.holds g (List.mem_cons_of_mem _ hg)) k2
          omega
        · exact hbL g hg (by rw [hw', Bool.or_true]) k (.inl k1) k2
    · exact hbL g hg (by rw [hw', Bool.or_true]) k (.inr k1) k2
theorem Rel.reach_more (h : Rel E w0 ρ σ S a w) {rs : List Dat} (hat : ∀ k, AtL rs k → w.heap.size ≤ k ∨ AtL ρ k) : ∀ k, AtL (ρ ++ rs) k → w0.heap.size ≤ k ∨ E.old k := fun k hk => by
  obtain ⟨L, hO, hM⟩ := h.mem
  rcases atL_append hk with hk | hk
  · exact h.reach k hk
  · rcases hat k hk with hk | hk
    · exact .inl (Nat.le_trans hM.size hk)
    · exact h.reach k hk
theorem Rel.grow (h : Rel E w0 ρ σ S a w) (hb : Below w.heap.size w w') {rs : List Dat} (hok : OkL w' rs) (hat : ∀ k, AtL rs k → w.heap.size ≤ k ∨ AtL ρ k) : Rel E w0 (ρ ++ rs) σ { S with n := S.n + rs.length } a w' := by
  obtain ⟨L, hO, hM⟩ := h.mem
  exact ⟨h.slots.mono fun _ _ hr => by simpa using hr.more rs [], h.defers, by rw [List.length_append, ← h.n], fun x hx => (h.known x hx).more rs, ⟨L, hO.more rs, hM.grow hb hok hat⟩, h.pre.trans (List.prefix_append _ _), h.reach_more hat⟩
theorem scal_at {Δ : Tab} {s : Srt} {d : Dat} (h : Has Δ s d) (hs : scal s = true) (k : Nat) : ¬ AtD d k := by
  cases h <;> first | (intro h; cases h; done) | cases hs
theorem scals_at {Δ : Tab} {ss : List Srt} {ds : List Dat} (h : All2 (Has Δ) ss ds) (hs : ss.all scal = true) (k : Nat) : ¬ AtL ds k := fun ⟨d, hd, hk⟩ => by
  obtain ⟨i, hi⟩ := List.getElem?_of_mem hd
  obtain ⟨s, h1, h2⟩ := h.get2 hi
  exact scal_at h2 (List.all_eq_true.1 hs s (List.mem_of_getElem? h1)) k hk
theorem noRef_ok {sg : Sig} (hn : noRef E.Δ sg = true) {rs : List Dat} (hs : All2 (Has E.Δ) (Sig.sorts sg.res) rs) (k : Nat) : ¬ AtL rs k := by
  unfold noRef at hn
  split at hn
  · split at hn
    · rename_i r hr
      rw [hr] at hs
      cases hs with
      | cons h1 h2 =>
      cases h2
      cases h1 with
      | rows _ xs hl hh =>
      rintro ⟨d, hd, hk⟩
      rw [List.mem_singleton] at hd
      subst hd
      cases hk with
      | rows hr hd hk =>
      obtain ⟨c, hc⟩ := List.getElem?_of_mem hd
      have hlt := (List.getElem?_eq_some_iff.1 hc).1
      rw [hl _ hr] at hlt
      have h1 := hh _ hr c _ _ (List.getElem?_eq_getElem hlt) hc
      exact scal_at h1 (List.all_eq_true.1 hn _ (List.getElem_mem hlt)) k hk
    · cases hn
  · exact scals_at hs hn k
theorem Rel.call0 (h : Rel E w0 ρ σ S a w) {f : Nat} {sg : Sig} {Φ : Spec} (hs : sg.ok = true) (hH : Holds E f sg Φ) {vs : List Value} {ds : List Dat} (hv1 : vs = groupV sg.params ds) (hv2 : All2 (Has E.Δ) (Sig.sorts sg.params) ds) (hgood : ∀ d ∈ ds, OkD w d) {W : List Dat → Prop}
    (hΦ : Φ ds W) (hat0 : ∀ rs, All2 (Has E.Δ) (Sig.sorts sg.res) rs → ∀ k, AtL rs k → AtL ds k → AtL ρ k) (dst : Option Nat) :
    Calls E.P f vs.toArray w fun e w' => ∃ u σ' rs, e = .returned u ∧ Below w.heap.size w w' ∧ W rs ∧ Rel E w0 (ρ ++ rs) σ' (callSt S sg dst) (a.put dst u) w' ∧ All2 (Has E.Δ) (Sig.sorts sg.res) rs ∧ (∃ x, σ' = σ ++ x ∧ ∀ u ∈ x, ∀ k, blkV u = some k → w.heap.size ≤ k) := by
  rw [hv1]
  refine (hH w _ W hv2 hgood (fun d hd => h.ok d (h.pre.subset hd)) h.globs hΦ).mono fun e w' ⟨rs, q1, q2, q3, q4, q5, q6⟩ => ?_
  have hat : ∀ k, AtL rs k → w.heap.size ≤ k ∨ AtL ρ k := fun k hk => by
    rcases q5 k hk with h1 | h1 | ⟨d, hd, hk⟩
    · exact .inl h1
    · exact .inr (hat0 rs q2 k hk h1)
    · exact .inr ⟨d, h.pre.subset hd, hk⟩
  have hg := h.grow q3 q4 hat
  unfold Sig.ok at hs
  rw [Bool.and_eq_true] at hs
  by_cases hown : sg.own = true
  · rw [if_pos hown] at q6
    obtain ⟨A, n, c, r, xs, r1, rfl, rfl, r4, r5, r6⟩ := q6
    have hcs : callSt S sg dst = { S with n := S.n + 1, objs := S.objs ++ [.own r (.app .emp (.var S.n))], slots := putO S.slots dst (.v (.c (.p (.own S.objs.length)))) } := by
      unfold callSt; rw [if_pos hown, r1]
    rw [hcs]
    refine ⟨.slice A n c, σ ++ [.slice A n c], [.rows xs], rfl, q3, q1, ?_, q2, ⟨_, rfl, fun x hx k hk => by rw [List.mem_singleton.1 hx] at hk; exact (r4.blk_lt k hk).1⟩⟩
    obtain ⟨L, hO, hM⟩ := h.mem
    have hM2 := hM.grow q3 q4 hat
    have hhas : Has E.Δ (.rows r) (.rows xs) := by
      rw [r1] at q2
      cases q2 with
      | cons h1 _ => exact h1
    have hsz := hM.size
    have hadd : Mem none w0 w' (.ow (E.Δ.row r).length (.slice A n c) n (flatV xs) :: baseF E (ρ ++ [.rows xs]) :: L) := by
      refine ⟨hM2.grown, fun f hf => ?_, fun f hf hw k hk => ?_, List.pairwise_cons.2 ⟨fun g hgm _ k k1 k2 => ?_, hM2.apart⟩⟩
      · rcases List.mem_cons.1 hf with rfl | hf
        · exact r4.weak hsz
        · exact hM2.holds f hf
      · rcases List.mem_cons.1 hf with rfl | hf
        · exact .inl (Nat.le_trans hsz (r4.blk_lt k hk).1)
        · exact hM2.own f hf hw k hk
      · have hk1 := (r4.blk_lt k k1).1
        rcases List.mem_cons.1 hgm with rfl | hgm
        · rcases k2 with k2 | k2
          · rcases atL_append k2 with ⟨d, hd, hk⟩ | k2
            · have := (h.ok d hd).lt hk
              omega
            · exact r6 k k1 k2
          · have := h.globs.lt k2
            omega
        · have := Fact.lt (hM.holds g (List.mem_cons_of_mem _ hgm)) k2
          omega
    have hvar : ∀ e, (ρ ++ [Dat.rows xs] ++ e)[S.n]? = some (.rows xs) := fun e => by rw [h.n]; simp
    have hob : ObR E (ρ ++ [.rows xs]) (σ ++ [.slice A n c]) (.own r (.app .emp (.var S.n))) (.slice A n c) (.ow (E.Δ.row r).length (.slice A n c) n (flatV xs)) :=
      ⟨A, n, c, xs, rfl, fun e => by simp only [den, Dat.xs, List.getD_eq_getElem?_getD, hvar, Option.getD_some, List.nil_append], hhas, r5, rfl⟩
    have hb : Rel E w0 (ρ ++ [.rows xs]) (σ ++ [.slice A n c]) { S with n := S.n + 1, objs := S.objs ++ [.own r (.app .emp (.var S.n))] } a w' :=
      ⟨h.slots.mono fun _ _ hr => hr.more _ _, h.defers, by rw [List.length_append, ← h.n]; rfl, fun x hx => (h.known x hx).more _, ⟨L ++ [.ow (E.Δ.row r).length (.slice A n c) n (flatV xs)], (hO.more _).push hob, hadd.snoc⟩, h.pre.trans (List.prefix_append _ _), h.reach_more hat⟩
    exact hb.puts (x := .v (.c (.p (.own S.objs.length)))) (v := .slice A n c) ⟨by rw [hO.l1]; simp, A, n, c, rfl⟩ dst
  · rw [if_neg hown] at q6
    have hr : grpOk sg.res = true := by
      have := hs.2
      rwa [if_neg hown] at this
    have hlen : (sg.res.flatMap (·.2)).length = rs.length := q2.length
    have hcs : callSt S sg dst = { S with n := S.n + rs.length, slots := putO S.slots dst (retAV (resA sg.res S.n)) } := by
      unfold callSt; rw [if_neg hown, hlen]
    rw [hcs]
    refine ⟨retV (groupV sg.res rs), σ, rs, q6, q3, q1, ?_, q2, ⟨[], by simp, fun x hx => by cases hx⟩⟩
    have hv : ∀ (i : Nat) d, rs[i]? = some d → (ρ ++ rs)[S.n + i]? = some d := fun i d hd => by rw [h.n, List.getElem?_append_right (by omega), Nat.add_sub_cancel_left]; exact hd
    exact hg.puts (retAV_ok (resA_ok q2 hr hv)) dst
theorem Rel.call (h : Rel E w0 ρ σ S a w) {f : Nat} {sg : Sig} {Φ : Spec} (hs : sg.ok = true) (hH : Holds E f sg Φ) {args : List AV} {vs : List Value} {ts : List Tm} (hv : All2 (VR E ρ σ) args vs) (ht : argTms sg.params args = some ts) {W : List Dat → Prop}
    (hΦ : Φ (ts.map (den E.Δ ρ)) W) (dst : Option Nat) :
    Calls E.P f vs.toArray w fun e w' => ∃ u σ' rs, e = .returned u ∧ Below w.heap.size w w' ∧ W rs ∧ Rel E w0 (ρ ++ rs) σ' (callSt S sg dst) (a.put dst u) w' ∧ All2 (Has E.Δ) (Sig.sorts sg.res) rs ∧ (∃ x, σ' = σ ++ x ∧ ∀ u ∈ x, ∀ k, blkV u = some k → w.heap.size ≤ k) := by
  obtain ⟨hv1, hv2⟩ := argTms_ok hv ht
  have hgood : ∀ d ∈ ts.map (den E.Δ ρ), Good w (AtL ρ) d := fun d hd => by
    obtain ⟨t, _, rfl⟩ := List.mem_map.1 hd
    exact den_good (fun d hd => ⟨h.ok d hd, fun k hk => ⟨d, hd, hk⟩⟩) t
  exact h.call0 hs hH hv1 hv2 (fun d hd => (hgood d hd).1) hΦ (fun rs _ k _ ⟨d, hd, hk⟩ => (hgood d hd).2 k hk) dst
/-- slices of the call's own that are lent -/
theorem lendCs_ok (h : Rel E w0 ρ σ S a w) : ∀ {cs : List C} {vs : List Value} (e0 : List Dat), All2 (CR E ρ σ) cs vs →
    ∃ e, All2 (CR E (ρ ++ (e0 ++ e)) σ) (lendCs S.objs cs (S.n + e0.length)).1 vs ∧ All2 (fun x d => ∃ A c, d = .list (.slice A (den E.Δ ρ x.2).xs.length c) (E.Δ.row x.1).length (den E.Δ ρ x.2).xs) (lendCs S.objs cs (S.n + e0.length)).2 e ∧ OkL w e
  | [], _, e0, hv => by
    cases hv
    exact ⟨[], .nil, .nil, fun d hd => by cases hd⟩
  | c :: l, _, e0, hv => by
    cases hv with
    | cons h1 h2 =>
    have skip : lendCs S.objs (c :: l) (S.n + e0.length) = (c :: (lendCs S.objs l (S.n + e0.length)).1, (lendCs S.objs l (S.n + e0.length)).2) → ∃ e, All2 (CR E (ρ ++ (e0 ++ e)) σ) (lendCs S.objs (c :: l) (S.n + e0.length)).1 _ ∧ All2 (fun x d => ∃ A c, d = .list (.slice A (den E.Δ ρ x.2).xs.length c) (E.Δ.row x.1).length (den E.Δ ρ x.2).xs) (lendCs S.objs (c :: l) (S.n + e0.length)).2 e ∧ OkL w e := fun e => by
      obtain ⟨e', i1, i2, i3⟩ := lendCs_ok h e0 h2
      rw [e]
      exact ⟨e', .cons (by simpa using h1.more (e0 ++ e') []) i1, i2, i3⟩
    match c, h1 with
    | .unk, h1 => exact skip rfl
    | .undef, h1 => exact skip rfl
    | .fn f caps, h1 => exact skip rfl
    | .p (.tm t s), h1 => exact skip rfl
    | .p (.ref b o d), h1 => exact skip rfl
    | .p .nils, h1 => exact skip rfl
    | .p (.sb b o d n), h1 => exact skip rfl
    | .p (.own j), h1 =>
      cases hj : S.objs[j]? with
      | none => exact skip (by simp only [lendCs, hj])
      | some o =>
      cases o with
      | blk cs ty => exact skip (by simp only [lendCs, hj])
      | dead => exact skip (by simp only [lendCs, hj])
      | fr => exact skip (by simp only [lendCs, hj])
      | own r t =>
      obtain ⟨L, hO, hM⟩ := h.mem
      obtain ⟨v, f, g1, g2, A, n, c, xs, rfl, g3, g4, g5, rfl⟩ := hO.get j _ hj
      have hσ := h1.1
      rw [g1] at hσ
      have hσ' := Option.some.inj hσ
      subst g5
      have hden : den E.Δ ρ t = .rows xs := g3.now
      have hH : Has E.Δ (.list r) (.list (.slice A xs.length c) (E.Δ.row r).length xs) := by
        cases g4 with
        | rows _ _ hl hh => exact .list r A _ c xs hl hh
      have hok : OkD w (.list (.slice A xs.length c) (E.Δ.row r).length xs) := by
        refine .list _ _ _ (hM.ow (List.mem_cons_of_mem _ (List.mem_of_getElem? g2))).rd (fun row hr d hd => ?_) (.ow (hM.ow (List.mem_cons_of_mem _ (List.mem_of_getElem? g2))))
        have := h.ok_den t
        rw [hden] at this
        cases this with
        | rows _ ho => exact ho row hr d hd
      obtain ⟨e', i1, i2, i3⟩ := lendCs_ok h (e0 ++ [.list (.slice A xs.length c) (E.Δ.row r).length xs]) h2
      have hlen : S.n + (e0 ++ [Dat.list (.slice A xs.length c) (E.Δ.row r).length xs]).length = S.n + e0.length + 1 := by simp; omega
      rw [hlen] at i1 i2
      have ec : lendCs S.objs (.p (.own j) :: l) (S.n + e0.length) = (.p (.tm (.var (S.n + e0.length)) (.list r)) :: (lendCs S.objs l (S.n + e0.length + 1)).1, (r, t) :: (lendCs S.objs l (S.n + e0.length + 1)).2) := by simp only [lendCs, hj]
      rw [ec]
      refine ⟨.list (.slice A xs.length c) (E.Δ.row r).length xs :: e', .cons ⟨_, Den.var ?_, hH, hσ'.symm, rfl⟩ (by simpa using i1), .cons ⟨A, c, by rw [hden]; rfl⟩ i2, fun d hd => ?_⟩
      · rw [h.n, List.getElem?_append_right (by omega), Nat.add_sub_cancel_left, List.getElem?_append_right (Nat.le_refl _), Nat.sub_self]; rfl
      · rcases List.mem_cons.1 hd with rfl | hd
        · exact hok
        · exact i3 d hd
theorem lendAs_ok (h : Rel E w0 ρ σ S a w) : ∀ {xs : List AV} {vs : List Value} (e0 : List Dat), All2 (VR E ρ σ) xs vs →
    ∃ e, All2 (VR E (ρ ++ (e0 ++ e)) σ) (lendAs S.objs xs (S.n + e0.length)).1 vs ∧ All2 (fun x d => ∃ A c, d = .list (.slice A (den E.Δ ρ x.2).xs.length c) (E.Δ.row x.1).length (den E.Δ ρ x.2).xs) (lendAs S.objs xs (S.n + e0.length)).2 e ∧ OkL w e
  | [], _, e0, hv => by
    cases hv
    exact ⟨[], .nil, .nil, fun d hd => by cases hd⟩
  | .v (.c c) :: l, _, e0, hv => by
    cases hv with
    | cons h1 h2 =>
    rename_i v vs
    obtain ⟨e1, a1, a2, a3⟩ := lendCs_ok h e0 (All2.one (show CR E ρ σ c v from h1))
    obtain ⟨e2, b1, b2, b3⟩ := lendAs_ok h (e0 ++ e1) h2
    have hlen : S.n + (e0 ++ e1).length = S.n + e0.length + (lendCs S.objs [c] (S.n + e0.length)).2.length := by
      have := a2.length
      simp only [List.length_append]; omega
    rw [hlen] at b1 b2
    refine ⟨e1 ++ e2, ?_, a2.append b2, fun d hd => (List.mem_append.1 hd).elim (a3 d) (b3 d)⟩
    simp only [lendAs]
    refine .cons ?_ (by rw [← List.append_assoc e0]; exact b1)
    generalize (lendCs S.objs [c] (S.n + e0.length)).1 = q at a1
    cases a1 with
    | cons a1 at1 =>
    have := a1.more e2 []
    rw [List.append_nil] at this
    simpa [VR, AR] using this
  | .v (.agg cs) :: l, _, e0, hv => by
    cases hv with
    | cons h1 h2 =>
    rename_i v vs
    obtain ⟨us, u1, rfl⟩ := h1
    obtain ⟨e1, a1, a2, a3⟩ := lendCs_ok h e0 u1
    obtain ⟨e2, b1, b2, b3⟩ := lendAs_ok h (e0 ++ e1) h2
    have hlen : S.n + (e0 ++ e1).length = S.n + e0.length + (lendCs S.objs cs (S.n + e0.length)).2.length := by
      have := a2.length
      simp only [List.length_append]; omega
    rw [hlen] at b1 b2
    refine ⟨e1 ++ e2, ?_, a2.append b2, fun d hd => (List.mem_append.1 hd).elim (a3 d) (b3 d)⟩
    simp only [lendAs]
    refine .cons ⟨us, a1.mono fun _ _ h => ?_, rfl⟩ (by rw [← List.append_assoc e0]; exact b1)
    have := h.more e2 []
    rw [List.append_nil] at this
    simpa using this
  | .tup x :: l, _, e0, hv => by
    cases hv with
    | cons h1 h2 =>
    obtain ⟨e2, b1, b2, b3⟩ := lendAs_ok h e0 h2
    refine ⟨e2, ?_, b2, b3⟩
    simp only [lendAs]
    refine .cons ?_ b1
    have := h1.more (e0 ++ e2) []
    rw [List.append_nil] at this
    exact this
theorem Rel.lend (h : Rel E w0 ρ σ S a w) {f : Nat} {sg : Sig} {Φ : Spec} (hs : sg.ok = true) (hH : Holds E f sg Φ) (hn : noRef E.Δ sg = true) {args : List AV} {vs : List Value} {ts : List Tm} (hv : All2 (VR E ρ σ) args vs) (ht : argTms sg.params (lendAs S.objs args S.n).1 = some ts) {W : List Dat → Prop}
    (hΦ : lendW E.Δ ρ (lendAs S.objs args S.n).2 fun e => Φ (ts.map (den E.Δ (ρ ++ e))) W) (dst : Option Nat) :
    Calls E.P f vs.toArray w fun e w' => ∃ u σ' rs, e = .returned u ∧ Below w.heap.size w w' ∧ W rs ∧ Rel E w0 (ρ ++ rs) σ' (callSt S sg dst) (a.put dst u) w' ∧ All2 (Has E.Δ) (Sig.sorts sg.res) rs ∧ (∃ x, σ' = σ ++ x ∧ ∀ u ∈ x, ∀ k, blkV u = some k → w.heap.size ≤ k) := by
  obtain ⟨e, e1, e2, e3⟩ := lendAs_ok h [] hv
  simp only [List.length_nil, Nat.add_zero, List.nil_append] at e1 e2
  obtain ⟨hv1, hv2⟩ := argTms_ok e1 ht
  refine h.call0 hs hH hv1 hv2 (fun d hd => ?_) (lendW_use e2 hΦ) (fun rs q k hk _ => (noRef_ok hn q k hk).elim) dst
  obtain ⟨t, _, rfl⟩ := List.mem_map.1 hd
  exact (den_good (p := fun _ => True) (fun d hd => ⟨(List.mem_append.1 hd).elim (h.ok d) (e3 d), fun _ _ => trivial⟩) t).1
theorem lendD_ok (h : Rel E w0 ρ σ S a w) {on : Bool} {sgs : Nat → Option Sig} {f : Nat} {sg : Sig} {le : List (Nat × Tm)} {ts : List Tm} (hl : lendD E.cx on S sgs o = some (f, sg, le, ts)) :
    ∃ args, callee S o = some (f, [], args) ∧ sgs f = some sg ∧ ((!sg.isP) = true ∧ noRef E.Δ sg = true) ∧ le = (lendAs S.objs args S.n).2 ∧ argTms sg.params (lendAs S.objs args S.n).1 = some ts := by
  unfold lendD at hl
  split at hl
  case isFalse => cases hl
  split at hl
  case h_2 => cases hl
  rename_i f' args hc
  split at hl
  case h_2 => cases hl
  rename_i sg' hsg
  split at hl
  case isFalse => cases hl
  rename_i hn
  rw [Bool.and_eq_true] at hn
  split at hl
  · cases hl
  · rename_i xs x l hla
    rw [Option.map_eq_some_iff] at hl
    obtain ⟨ts', h1, h2⟩ := hl
    cases h2
    exact ⟨args, hc, hsg, hn, by rw [hla], by rw [hla]; exact h1⟩
end
end Go.Proofs.YtcigbgpdikadpaaDoor
end

section
namespace Go.Proofs.YtcigbgpdikadpaaDoor
open Go.ChangeShapes Go.WideShapes Go.ChangeAt Go.RowKit
set_option linter.unusedVariables false

theorem All2.getO {α β : Type} {R : α → β → Prop} : ∀ {l : List α} {m : List β}, All2 R l m → ∀ {i : Nat} {s : α}, l[i]? = some s → ∃ d, m[i]? = some d ∧ R s d
  | _, _, .cons h t, 0, s, e => by cases e; exact ⟨_, rfl, h⟩
  | _, _, .cons h t, i + 1, s, e => t.getO (i := i) (by simpa using e)
/-- numbers are within their kinds, and no list is too long -/
inductive InD : Dat → Prop where
  | int (k : IntKind) (n : Int) (h : (Lit.int k n).wf = true) : InD (.int k n)
  | bool (b : Bool) : InD (.bool b)
  | str (s : ByteArray) (h : s.size ≤ maxLen) : InD (.val (.string s))
  | list (v : Value) (sz : Nat) (xs : List (List Dat)) (hl : xs.length ≤ maxLen) (h : ∀ row ∈ xs, ∀ d ∈ row, InD d) : InD (.list v sz xs)
def InL (l : List Dat) : Prop := ∀ d ∈ l, InD d
section
variable (P : Program) (R : List TypeId)
def srtFs (g : TypeId → Option (List Srt)) (total : Nat) : List Field → Nat → Option (List Srt)
  | [], off => if off = total then some [] else none
  | f :: fs, off => if f.offset = off then (g f.type).bind fun l => if l.length = P.cellsOf f.type then (srtFs g total fs (off + l.length)).map (l ++ ·) else none else none
/-- the sorts of a type's cells; R: which elements' rows are known -/
def srtT : Nat → TypeId → Option (List Srt)
  | 0, _ => none
  | d + 1, t => match P.underlying t with
    | some (.int k) => some [.int k]
    | some .bool => some [.bool]
    | some .string => some [.str]
    | some (.slice e) => if R.contains e && false then some [.list e] else none
    | some (.array m e) => (srtT d e).bind fun l => if P.cellsOf t = m * P.cellsOf e ∧ l.length = P.cellsOf e then some (List.replicate m l).flatten else none
    | some (.struct fs) => srtFs P (srtT d) (P.cellsOf t) fs.toList 0
    | _ => none
def tabOk (Δ : Tab) (D : Nat) : Bool := R.all fun e => (srtT P R D e == some (Δ.row e)) && (P.cellsOf e == (Δ.row e).length) && decide (0 < P.cellsOf e)
end
section
variable {H : Type} {enc : TypeId × Value → H} {P : Program} {W : World} {R : List TypeId} {Δ : Tab}
/-- cells that are data of these sorts -/
def OD (Δ : Tab) (W : World) (ss : List Srt) (cs : List Value) : Prop := ∃ ds : List Dat, cs = ds.map Dat.toV ∧ All2 (Has Δ) ss ds ∧ OkL W ds ∧ InL ds
theorem OD.append {ss ss' : List Srt} {cs cs' : List Value} (h : OD Δ W ss cs) (h' : OD Δ W ss' cs') : OD Δ W (ss ++ ss') (cs ++ cs') := by
  obtain ⟨ds, rfl, h1, h2, h3⟩ := h
  obtain ⟨ds', rfl, h1', h2', h3'⟩ := h'
  refine ⟨ds ++ ds', by simp, h1.append h1', fun d hd => ?_, fun d hd => ?_⟩
  · rcases List.mem_append.1 hd with hd | hd
    · exact h2 d hd
    · exact h2' d hd
  · rcases List.mem_append.1 hd with hd | hd
    · exact h3 d hd
    · exact h3' d hd
theorem OD.nil : OD Δ W [] [] := ⟨[], rfl, .nil, fun _ h => absurd h List.not_mem_nil, fun _ h => absurd h List.not_mem_nil⟩
theorem OD.one {s : Srt} {d : Dat} (h1 : Has Δ s d) (h2 : OkD W d) (h3 : InD d) : OD Δ W [s] [d.toV] :=
  ⟨[d], rfl, .cons h1 .nil, fun x hx => by rw [List.mem_singleton.1 hx]; exact h2, fun x hx => by rw [List.mem_singleton.1 hx]; exact h3⟩
theorem OD.chunks {ss : List Srt} {c : Nat} : ∀ (m : Nat) (cs : List Value), cs.length = m * c → (∀ i, i < m → OD Δ W ss ((cs.drop (i * c)).take c)) → OD Δ W (List.replicate m ss).flatten cs
  | 0, cs, hl, _ => by
    have : cs = [] := List.length_eq_zero_iff.1 (by omega)
    subst this; exact OD.nil
  | m + 1, cs, hl, h => by
    rw [List.replicate_succ, List.flatten_cons, ← List.take_append_drop c cs]
    refine OD.append (by simpa using h 0 (by omega)) (OD.chunks (c := c) m _ (by rw [List.length_drop, hl, Nat.succ_mul]; omega) fun i hi => ?_)
    have := h (i + 1) (by omega)
    rw [List.drop_drop]
    rw [Nat.succ_mul, Nat.add_comm] at this
    exact this
theorem OD.fields {g : TypeId → Option (List Srt)} {cs : List Value} : ∀ (fs : List Field) (off : Nat) (ss : List Srt), srtFs P g cs.length fs off = some ss →
    (∀ f ∈ fs, ∀ l, g f.type = some l → OD Δ W l ((cs.drop f.offset).take (P.cellsOf f.type))) → OD Δ W ss (cs.drop off)
  | [], off, ss, h, _ => by
    simp only [srtFs] at h
    split at h
    · rename_i ho; cases h; subst ho; rw [List.drop_length]; exact OD.nil
    · cases h
  | f :: fs, off, ss, h, hf => by
    simp only [srtFs] at h
    split at h
    case isFalse => cases h
    rename_i ho
    subst ho
    simp only [Option.bind_eq_some_iff] at h
    obtain ⟨l, hl, h⟩ := h
    split at h
    case isFalse => cases h
    rename_i hc
    simp only [Option.map_eq_some_iff] at h
    obtain ⟨ss', h', rfl⟩ := h
    have i1 := hf f (by simp) l hl
    have i2 := OD.fields fs _ ss' h' fun f hm => hf f (by simp [hm])
    have e : cs.drop f.offset = (cs.drop f.offset).take (P.cellsOf f.type) ++ cs.drop (f.offset + l.length) := by
      rw [hc, ← List.drop_drop, List.take_append_drop]
    rw [e]
    exact i1.append i2
theorem open_trod {D : Nat} (ht : tabOk P R Δ D = true) : ∀ (fuel d : Nat) (t : TypeId) (ss : List Srt) (cs : List Value) (x : DataW H × List MemPlace), srtT P R d t = some ss → DataW.trod enc P W 0 (fun _ => true) true fuel t cs = some x → OD Δ W ss cs
  | 0, _, _, _, _, _, _, hx => by simp [DataW.trod] at hx
  | fuel + 1, 0, _, _, _, _, h, _ => by simp [srtT] at h
  | fuel + 1, d + 1, t, ss, cs, x, h, hx => by
    unfold srtT at h
    cases hu : P.underlying t with
    | none => simp [hu] at h
    | some kd =>
      cases kd with
      | int q =>
        simp only [hu, Option.some.injEq] at h; subst h
        obtain ⟨a, rfl, _, hw⟩ := DataW.trod_int hu hx
        exact OD.one (d := .int q a) (.int q a) (.int q a) (.int q a hw)
      | bool =>
        simp only [hu, Option.some.injEq] at h; subst h
        obtain ⟨a, rfl, _⟩ := DataW.trod_bool hu hx
        exact OD.one (d := .bool a) (.bool a) (.bool a) (.bool a)
      | string =>
        simp only [hu, Option.some.injEq] at h; subst h
        obtain ⟨a, rfl, _, hm⟩ := DataW.trod_string hu hx
        exact OD.one (d := .val (.string a)) (.str a) (.val _) (.str a hm)
      | array m e =>
        simp only [hu, Option.bind_eq_some_iff] at h
        obtain ⟨l, hl, h⟩ := h
        split at h
        case isFalse => cases h
        rename_i hc
        cases h
        obtain ⟨xs, m', e', _, hcl, hxl, hel⟩ := DataW.trod_array hu hx
        obtain rfl : fuel = m' := by omega
        refine OD.chunks (c := P.cellsOf e) m cs (by rw [hcl, hc.1]) fun i hi => ?_
        have h4 := hel i hi
        rw [List.getElem?_eq_getElem (by omega)] at h4
        exact open_trod ht fuel d e l _ _ hl h4
      | struct fs =>
        rw [hu] at h
        simp only at h
        obtain ⟨xs, m', e', _, hcl, hxl, hel⟩ := DataW.trod_struct hu hx
        obtain rfl : fuel = m' := by omega
        rw [← hcl] at h
        have := OD.fields (Δ := Δ) (W := W) (P := P) (cs := cs) fs.toList 0 ss h fun f hf l hl => by
          obtain ⟨i, hi, rfl⟩ := List.getElem_of_mem hf
          have h5 := hel i fs.toList[i] (by rw [← Array.getElem?_toList]; exact List.getElem?_eq_getElem hi)
          rw [List.getElem?_eq_getElem (by simp at hi; omega)] at h5
          exact open_trod ht fuel d _ l _ _ hl h5
        simpa using this
      | slice e =>
        simp only [hu, Bool.and_false, Bool.false_eq_true, if_false] at h
        cases h
      | _ => simp [hu] at h
def agP (P : Program) (t : TypeId) : Bool := match P.underlying t with
  | some (.array _ _) => true
  | some (.struct _) => true
  | _ => false
theorem open_one {D d base : Nat} {r : Reach} (ht : tabOk P R Δ D = true) {t : TypeId} {ss : List Srt} {v : Value} {x : DataW H} {ps : List MemPlace} (h : srtT P R d t = some ss) (hval : Value.okWide P W r base t v)
    (hd : DataW.Trod enc P W 0 (fun _ => true) true t v x ps) : ∃ ds, ds.length = ss.length ∧ v = (if agP P t then .agg (ds.map Dat.toV).toArray else (ds.headD (.bool false)).toV) ∧ All2 (Has Δ) ss ds ∧ OkL W ds ∧ InL ds := by
  obtain ⟨fuel, hf⟩ := hd
  obtain ⟨ds, e, h1, h2, h3⟩ := open_trod ht fuel d t ss _ _ h hf
  refine ⟨ds, h1.length.symm, ?_, h1, h2, h3⟩
  have scal : v.cells = #[v] → agP P t = false → v = (if agP P t then .agg (ds.map Dat.toV).toArray else (ds.headD (.bool false)).toV) := fun hc ha => by
    rw [hc] at e
    rw [ha]
    cases ds with
    | nil => cases e
    | cons y ds => simp only [List.map_cons, List.cons.injEq] at e; exact e.1
  have agg : ∀ cs : Array Value, v = .agg cs → agP P t = true → v = (if agP P t then .agg (ds.map Dat.toV).toArray else (ds.headD (.bool false)).toV) := fun cs hc ha => by
    subst hc
    rw [ha, if_pos rfl, ← e]; rfl
  cases d with
  | zero => simp [srtT] at h
  | succ d =>
    unfold srtT at h
    cases hu : P.underlying t with
    | none => simp [hu] at h
    | some kd =>
      cases kd with
      | int q =>
        obtain ⟨n, rfl⟩ := okWide_int hu hval
        exact scal rfl (by simp [agP, hu])
      | bool =>
        obtain ⟨n, rfl⟩ := okWide_bool hu hval
        exact scal rfl (by simp [agP, hu])
      | string =>
        obtain ⟨n, rfl⟩ := okWide_string hu hval
        exact scal rfl (by simp [agP, hu])
      | slice e =>
        obtain ⟨a, n, c, rfl⟩ := okWide_slice hu hval
        exact scal rfl (by simp [agP, hu])
      | struct fs =>
        simp only [Value.okWide, hu] at hval
        obtain ⟨cs, h1, _⟩ := hval
        exact agg cs h1 (by simp [agP, hu])
      | array m e =>
        simp only [Value.okWide, hu] at hval
        obtain ⟨cs, h1, _⟩ := hval
        exact agg cs h1 (by simp [agP, hu])
      | _ => simp [hu] at h
/-- all arguments at once -/
theorem open_all {D d base : Nat} {r : Reach} (ht : tabOk P R Δ D = true) : ∀ {ts : List TypeId} {gs : List (Bool × List Srt)} {vs : List Value} {xs : List (DataW H)} {p : List MemPlace},
    (ts.map fun t => (agP P t, srtT P R d t)) = (gs.map fun g => (g.1, some g.2)) → (∀ (j : Nat) t v, ts[j]? = some t → vs[j]? = some v → Value.okWide P W r base t v) → DataW.TrodAll enc P W 0 (fun _ => true) true ts vs xs p →
    ∃ ds, vs = groupV gs ds ∧ All2 (Has Δ) (Sig.sorts gs) ds ∧ OkL W ds ∧ InL ds
  | [], gs, vs, xs, p, hg, _, h => by
    obtain rfl : gs = [] := by cases gs with
      | nil => rfl
      | cons _ _ => cases hg
    obtain ⟨rfl, _, _⟩ := trodAll_nil h
    exact ⟨[], rfl, .nil, fun _ h => absurd h List.not_mem_nil, fun _ h => absurd h List.not_mem_nil⟩
  | t :: ts, gs, vs, xs, p, hg, hv, h => by
    obtain ⟨v, vs', d0, ds0, p0, q0, rfl, rfl, rfl, h0, r0⟩ := trodAll_cons h
    cases gs with
    | nil => cases hg
    | cons g gs =>
      simp only [List.map_cons, List.cons.injEq, Prod.mk.injEq] at hg
      obtain ⟨⟨hg1, hg2⟩, hg3⟩ := hg
      obtain ⟨ds, hl, e, h1, h2, h3⟩ := open_one ht hg2 (hv 0 t v rfl rfl) h0
      obtain ⟨ds', e', h1', h2', h3'⟩ := open_all ht hg3 (fun j t v a b => hv (j + 1) t v (by simpa using a) (by simpa using b)) r0
      refine ⟨ds ++ ds', ?_, ?_, fun x hx => ?_, fun x hx => ?_⟩
      · obtain ⟨ag, ss⟩ := g
        simp only at hg1 hg2 h1 hl
        simp only [groupV, ← hl, List.take_left, List.drop_left, ← e', ← hg1]
        congr 1
        rw [e]
        cases ha : agP P t with
        | true => rfl
        | false =>
          simp only [Bool.false_eq_true, if_false]
          cases ds with
          | nil =>
            exfalso
            have h5 := h1.length
            simp only [List.length_nil, List.length_eq_zero_iff] at h5
            subst h5
            have := h2
            cases d with
            | zero => simp [srtT] at hg2
            | succ d =>
              unfold srtT at hg2
              unfold agP at ha
              cases hu : P.underlying t with
              | none => simp [hu] at hg2
              | some kd => cases kd <;> simp [hu] at hg2 ha
          | cons _ _ => rfl
      · simp only [Sig.sorts, List.flatMap_cons]
        exact h1.append h1'
      · rcases List.mem_append.1 hx with hx | hx
        · exact h2 x hx
        · exact h2' x hx
      · rcases List.mem_append.1 hx with hx | hx
        · exact h3 x hx
        · exact h3' x hx
end
end Go.Proofs.YtcigbgpdikadpaaDoor
end

section
namespace Go.Proofs.YtcigbgpdikadpaaDoor
open Go.ChangeShapes Go.WideShapes Go.ChangeAt Go.RowKit
set_option linter.unusedVariables false

section
variable {H : Type}
/-- the cells of a datum without pointers -/
def flatD : Nat → DataW H → List Value
  | _, .lit (.int k n) => [.int k n]
  | _, .lit (.bool b) => [.bool b]
  | _, .lit (.string l) => [.string ⟨l.toArray⟩]
  | d + 1, .agg l => l.flatMap (flatD d)
  | _, _ => []
def stepO (P : Program) (acc : Option Nat) (f : Field) : Option Nat := if acc == some f.offset then some (f.offset + P.cellsOf f.type) else none
/-- types without slices and strings -/
def plainT (P : Program) : Nat → TypeId → Bool
  | 0, _ => false
  | d + 1, t => match P.underlying t with
    | some (.int _) => true
    | some .bool => true
    | some .string => true
    | some (.array m e) => P.cellsOf t == m * P.cellsOf e && plainT P d e
    | some (.struct fs) => fs.toList.all (fun f => plainT P d f.type) && (fs.toList.foldl (stepO P) (some 0)) == some (P.cellsOf t)
    | _ => false
theorem flat_chunks {c d : Nat} : ∀ (m : Nat) (cs : List Value) (xs : List (DataW H)), cs.length = m * c → xs.length = m → (∀ (i : Nat) x, xs[i]? = some x → (cs.drop (i * c)).take c = flatD d x) → cs = xs.flatMap (flatD d)
  | 0, cs, xs, hl, hx, _ => by
    have h1 : cs = [] := List.length_eq_zero_iff.1 (by omega)
    have h2 : xs = [] := List.length_eq_zero_iff.1 hx
    subst h1 h2; rfl
  | m + 1, cs, xs, hl, hx, h => by
    cases xs with
    | nil => cases hx
    | cons x xs =>
      have h0 := h 0 x rfl
      have ih := flat_chunks (c := c) (d := d) m (cs.drop c) xs (by rw [List.length_drop, hl, Nat.succ_mul]; omega) (by simpa using hx) fun i y hy => by
        have := h (i + 1) y (by simpa using hy)
        rw [Nat.succ_mul, Nat.add_comm] at this
        rw [List.drop_drop]; exact this
      simp only [Nat.zero_mul, List.drop_zero] at h0
      rw [List.flatMap_cons, ← h0, ← ih, List.take_append_drop]
theorem fold_none {P : Program} : ∀ (fs : List Field), fs.foldl (stepO P) none = none
  | [] => rfl
  | f :: fs => by rw [List.foldl_cons]; exact fold_none fs
theorem flat_fields {P : Program} {cs : List Value} {d : Nat} : ∀ (fs : List Field) (off : Nat) (xs : List (DataW H)), (fs.foldl (stepO P) (some off)) = some cs.length → xs.length = fs.length →
    (∀ (i : Nat) f x, fs[i]? = some f → xs[i]? = some x → (cs.drop f.offset).take (P.cellsOf f.type) = flatD d x) → cs.drop off = xs.flatMap (flatD d)
  | [], off, xs, h, hx, _ => by
    have h2 : xs = [] := List.length_eq_zero_iff.1 hx
    simp only [List.foldl_nil, Option.some.injEq] at h
    subst h h2
    rw [List.drop_length]; rfl
  | f :: fs, off, xs, h, hx, hf => by
    cases xs with
    | nil => cases hx
    | cons x xs =>
      rw [List.foldl_cons, stepO] at h
      by_cases ho : off = f.offset
      · subst ho
        simp only [BEq.rfl, if_true] at h
        have h0 := hf 0 f x rfl rfl
        have ih := flat_fields fs _ xs h (by simpa using hx) fun i g y hg hy => hf (i + 1) g y (by simpa using hg) (by simpa using hy)
        rw [List.flatMap_cons, ← h0, ← ih, ← List.drop_drop, List.take_append_drop]
      · have : (some off == some f.offset) = false := by simpa using ho
        rw [this] at h
        simp only [Bool.false_eq_true, if_false] at h
        rw [fold_none] at h; cases h
theorem flat_trod {enc : TypeId × Value → H} {P : Program} {W : World} {base : Nat} {sp : Nat → Bool} {held : Bool} : ∀ (fuel d : Nat) (t : TypeId) (cs : List Value) (x : DataW H × List MemPlace), plainT P d t = true → DataW.trod enc P W base sp held fuel t cs = some x → cs = flatD d x.1
  | 0, _, _, _, _, _, hx => by simp [DataW.trod] at hx
  | fuel + 1, 0, _, _, _, h, _ => by simp [plainT] at h
  | fuel + 1, d + 1, t, cs, x, h, hx => by
    unfold plainT at h
    cases hu : P.underlying t with
    | none => simp [hu] at h
    | some kd =>
      cases kd with
      | int q =>
        obtain ⟨a, rfl, rfl, hw⟩ := DataW.trod_int hu hx
        rfl
      | bool =>
        obtain ⟨a, rfl, rfl⟩ := DataW.trod_bool hu hx
        rfl
      | string =>
        obtain ⟨a, rfl, rfl, _⟩ := DataW.trod_string hu hx
        rfl
      | array m e =>
        simp only [hu, Bool.and_eq_true, beq_iff_eq] at h
        obtain ⟨xs, m', e', rfl, hcl, hxl, hel⟩ := DataW.trod_array hu hx
        obtain rfl : fuel = m' := by omega
        refine flat_chunks (c := P.cellsOf e) (d := d) m cs _ (by rw [hcl, h.1]) (by simpa using hxl) fun i y hy => ?_
        rw [List.getElem?_map, Option.map_eq_some_iff] at hy
        obtain ⟨z, hz, rfl⟩ := hy
        have hi : i < m := by rw [← hxl]; exact (List.getElem?_eq_some_iff.1 hz).1
        have h4 := hel i hi
        rw [hz] at h4
        exact flat_trod fuel d e _ _ h.2 h4
      | struct fs =>
        simp only [hu, Bool.and_eq_true, beq_iff_eq] at h
        obtain ⟨h1, h2⟩ := h
        obtain ⟨xs, m', e', rfl, hcl, hxl, hel⟩ := DataW.trod_struct hu hx
        obtain rfl : fuel = m' := by omega
        have := flat_fields (P := P) (cs := cs) (d := d) fs.toList 0 (xs.map (·.1)) (by rw [hcl]; exact h2) (by simpa using hxl) fun i f y hf hy => by
          rw [List.getElem?_map, Option.map_eq_some_iff] at hy
          obtain ⟨z, hz, rfl⟩ := hy
          have h5 := hel i f (by rw [← Array.getElem?_toList]; exact hf)
          rw [hz] at h5
          exact flat_trod fuel d f.type _ _ (List.all_eq_true.1 h1 f (List.mem_of_getElem? hf)) h5
        rw [List.drop_zero] at this
        exact this
      | _ => simp [hu] at h
end
section
variable {P : Program} {W : World}
theorem laid_var : ∀ {laid : List (String × DataW Unit)} {ps : List MemPlace}, DataW.LaidVars P W laid ps → ∀ {n : String} {x : DataW Unit}, (n, x) ∈ laid →
    ∃ g t cs fuel p, P.globalNamed n = some g ∧ (P.globals[g]?).map (·.type) = some t ∧ W.var? P n = some cs ∧ DataW.trod (fun _ => ()) P W 0 (fun _ => true) false fuel t cs.toList = some (x, p) ∧ ∀ y ∈ MemPlace.row ⟨g, 0, none⟩ cs.size, y ∈ ps
  | [], _, _, _, _, hm => by cases hm
  | (n', x') :: r, ps, h, n, x, hm => by
    obtain ⟨g, t, cs, fuel, p, q, h1, h2, h3, h4, h5, rfl⟩ := h
    rcases List.mem_cons.1 hm with e | hm
    · cases e
      exact ⟨g, t, cs, fuel, p, h1, h2, h3, h4, fun y hy => by simp [hy]⟩
    · obtain ⟨g, t, cs, fuel, p, i1, i2, i3, i4, i5⟩ := laid_var h5 hm
      exact ⟨g, t, cs, fuel, p, i1, i2, i3, i4, fun y hy => by simp [i5 y hy]⟩
theorem glob_row {laid : List (String × DataW Unit)} (h : laidMet P laid W) {n : String} {x : DataW Unit} (hm : (n, x) ∈ laid) {g d : Nat} {t : TypeId} (hg : P.globalNamed n = some g) (ht : (P.globals[g]?).map (·.type) = some t) (hp : plainT P d t = true) (hne : flatD d x ≠ []) :
    ∃ T, Row W g (flatD d x).toArray T := by
  obtain ⟨ps, h1, _, h2⟩ := h
  obtain ⟨g', t', cs, fuel, p, i1, i2, i3, i4, i5⟩ := laid_var h1 hm
  obtain rfl := Option.some.inj (hg.symm.trans i1)
  obtain rfl := Option.some.inj (ht.symm.trans i2)
  have e := flat_trod fuel d t _ _ hp i4
  simp only at e
  have hs : 0 < cs.size := by
    rcases Nat.eq_zero_or_pos cs.size with h0 | h0
    · exact absurd (by rw [← e]; exact List.length_eq_zero_iff.1 (by simpa using h0)) hne
    · exact h0
  obtain ⟨⟨c, T, hc⟩, _⟩ := h2 g 0 (i5 _ (MemPlace.mem_row.2 ⟨0, hs, rfl⟩))
  simp only [World.var?, hg, Option.bind_some, hc, Option.some.injEq] at i3
  subst i3
  refine ⟨T, ?_⟩
  rw [Row, hc, ← e]
theorem glob_err {laid : List (String × DataW Unit)} (h : laidMet P laid W) {n nm : String} {x d : DataW Unit} (hm : (n, x) ∈ laid) (hx : x = .iface nm d) {g : Nat} {ti : TypeId} {ms : Array (String × TypeId)} (hg : P.globalNamed n = some g) (ht : (P.globals[g]?).map (·.type) = some ti) (hi : P.underlying ti = some (.interface ms)) :
    ∃ T t p, Row W g #[.iface t p] T := by
  subst hx
  obtain ⟨ps, h1, _, h2⟩ := h
  obtain ⟨g', t', cs, fuel, p, i1, i2, i3, i4, i5⟩ := laid_var h1 hm
  obtain rfl := Option.some.inj (hg.symm.trans i1)
  obtain rfl := Option.some.inj (ht.symm.trans i2)
  obtain ⟨f1, u, v, e, _, _⟩ := iface_of_trod hi i4
  have hcs : cs = #[.iface u v] := by rw [← Array.toArray_toList (xs := cs), e]
  subst hcs
  obtain ⟨⟨c, T, hc⟩, _⟩ := h2 g 0 (i5 _ (MemPlace.mem_row.2 ⟨0, by show 0 < 1; omega, rfl⟩))
  simp only [World.var?, hg, Option.bind_some, hc, Option.some.injEq] at i3
  subst i3
  exact ⟨T, u, v, hc⟩
end
end Go.Proofs.YtcigbgpdikadpaaDoor
end

section
namespace Go.Proofs.YtcigbgpdikadpaaDoor
open Go.RowKit
set_option linter.unusedVariables false

/-- a contract of a call with nothing handed over holds whatever the caller has besides -/
theorem Holds.fr {E : Env} {f : FuncId} {sg : Sig} {Φ : Spec} (F : Frm) (op : World → Prop) (oq : Nat → Prop) (h : Holds { E with fr := Frm.none } f sg Φ) : Holds { E with fr := F, op := op, oq := oq } f sg Φ :=
  fun w ds Q a b c d e => h w ds Q a b c ⟨d.1, d.2.1, trivial⟩ e

/-- the arguments' values -/
def pcV (bs : List Nat) : List PC → List Dat → List Value
  | [], _ => []
  | .v _ :: l, ds => (ds.headD (.bool false)).toV :: pcV bs l (ds.drop 1)
  | .b k off :: l, ds => .pointer (some ⟨bs.getD k 0, off, none⟩) :: pcV bs l ds
def insV (bs : List Nat) : List (Bool × List PC) → List Dat → List Value
  | [], _ => []
  | p :: ps, ds => (if p.1 then .agg (pcV bs p.2 ds).toArray else (pcV bs p.2 ds).headD undef) :: insV bs ps (ds.drop (p.2.flatMap PC.srt).length)

/-- a block's cells, with their data; the facts on slices of the call's own that hang on them -/
inductive CelV (Δ : Tab) (bs : List Nat) : List Cel → List Dat → List Value → List Fact → Prop where
  | nil : CelV Δ bs [] [] [] []
  | v {s : Srt} {d : Dat} {l : List Cel} {ds : List Dat} {vs : List Value} {fs : List Fact} (h : Has Δ s d) (ho : s.one = true) (t : CelV Δ bs l ds vs fs) : CelV Δ bs (.v s :: l) (d :: ds) (d.toV :: vs) fs
  | own {r : Nat} {A : Option Addr} {n c : Nat} {xs : List (List Dat)} {l : List Cel} {ds : List Dat} {vs : List Value} {fs : List Fact} (h : Has Δ (.rows r) (.rows xs)) (hn : xs.length = n) (t : CelV Δ bs l ds vs fs) :
      CelV Δ bs (.own r :: l) (.rows xs :: ds) (.slice A n c :: vs) (.ow (Δ.row r).length (.slice A n c) n (flatV xs) :: fs)
  | b {k b : Nat} {l : List Cel} {ds : List Dat} {vs : List Value} {fs : List Fact} (h : bs[k]? = some b) (t : CelV Δ bs l ds vs fs) : CelV Δ bs (.b k :: l) ds (.pointer (some ⟨b, 0, none⟩) :: vs) fs
inductive BlkV (Δ : Tab) (bs : List Nat) : List (Nat × List Cel) → List Nat → List Dat → List Fact → List Fact → Prop where
  | nil : BlkV Δ bs [] [] [] [] []
  | cons {b : Nat × List Cel} {l : List (Nat × List Cel)} {k : Nat} {r : List Nat} {d1 d2 : List Dat} {vs : List Value} {f1 rows owns : List Fact} (h : CelV Δ bs b.2 d1 vs f1) (t : BlkV Δ bs l r d2 rows owns) :
      BlkV Δ bs (b :: l) (k :: r) (d1 ++ d2) (.row k vs.toArray b.1 :: rows) (f1 ++ owns)
/-- what is told of a call that returns -/
def outL (pan : Option Nat) (rs : List Dat) : List Dat := match pan with
  | none => rs
  | some _ => .bool true :: rs
/-- the chain of a panic with an error -/
def pvL (T : Nat) (d : Dat) : List PanicEntry := [{ v := .iface T (.agg #[d.toV]), recovered := false }]
/-- how such a call ends -/
def EndsP (E : Env) (F : Frm) (op : World → Prop) (oq : Nat → Prop) (w0 w' : World) (sg : Sig) (bs : List Nat) (da db : List Dat) (Q : List Dat → Prop) (e : Ending) : Prop :=
  (∃ rr rb rows' owns', Q (outL sg.pan (rr ++ rb)) ∧ All2 (Has E.Δ) (Sig.sorts sg.res) rr ∧ BlkV E.Δ bs sg.blks bs rb rows' owns' ∧
      Mem none w0 w' (baseF { E with fr := F } (E.γ ++ (rr ++ rb)) :: (rows' ++ (owns' ++ [.ogen op oq]))) ∧ (∀ k, AtL (rr ++ rb) k → w0.heap.size ≤ k ∨ AtL (da ++ db) k ∨ AtL E.γ k) ∧ e = .returned (retV (groupV sg.res rr))) ∨
  (∃ T d, sg.pan = some T ∧ Q [.bool false, d] ∧ Has E.Δ .err d ∧ Mem none w0 w' (baseF { E with fr := F } E.γ :: [.ogen op oq]) ∧ e = .panicked (pvL T d))
/-- what is promised of a function to which blocks are handed over -/
def HoldsP (E : Env) (f : FuncId) (sg : Sig) (Φ : Spec) : Prop :=
  ∀ (F : Frm) (op : World → Prop) (oq : Nat → Prop) (w0 w : World) (da db : List Dat) (bs : List Nat) (rows owns : List Fact) (Q : List Dat → Prop),
    All2 (Has E.Δ) sg.asrt da → BlkV E.Δ bs sg.blks bs db rows owns → Mem none w0 w (baseF { E with fr := F } (E.γ ++ (da ++ db)) :: (rows ++ (owns ++ [.ogen op oq]))) → Φ (da ++ db) Q →
    Calls E.P f (insV bs sg.ins da).toArray w fun e w' => EndsP E F op oq w0 w' sg bs da db Q e

/-- the value by which an object is known -/
def facV : Fact → Value
  | .row b _ _ => .pointer (some ⟨b, 0, none⟩)
  | .ow _ v _ _ => v
  | _ => undef
theorem CelV.len {Δ : Tab} {bs : List Nat} {l : List Cel} {ds : List Dat} {vs : List Value} {fs : List Fact} (h : CelV Δ bs l ds vs fs) : ds.length = (l.flatMap Cel.srt).length := by
  induction h with
  | nil => rfl
  | v _ _ _ ih => simp [Cel.srt, ih]
  | own _ _ _ ih => simp [Cel.srt, ih]
  | b _ _ ih => simpa [Cel.srt] using ih
theorem CelV.has {Δ : Tab} {bs : List Nat} {l : List Cel} {ds : List Dat} {vs : List Value} {fs : List Fact} (h : CelV Δ bs l ds vs fs) : All2 (Has Δ) (l.flatMap Cel.srt) ds := by
  induction h with
  | nil => exact .nil
  | v h _ _ ih => exact .cons h ih
  | own h _ _ ih => exact .cons h ih
  | b _ _ ih => exact ih
theorem BlkV.has {Δ : Tab} {bs : List Nat} {l : List (Nat × List Cel)} {r : List Nat} {ds : List Dat} {rows owns : List Fact} (h : BlkV Δ bs l r ds rows owns) : All2 (Has Δ) (l.flatMap fun b => b.2.flatMap Cel.srt) ds := by
  induction h with
  | nil => exact .nil
  | cons h _ ih => exact h.has.append ih
theorem BlkV.lens {Δ : Tab} {bs : List Nat} {l : List (Nat × List Cel)} {r : List Nat} {ds : List Dat} {rows owns : List Fact} (h : BlkV Δ bs l r ds rows owns) : rows.length = l.length ∧ r.length = l.length := by
  induction h with
  | nil => exact ⟨rfl, rfl⟩
  | cons _ _ ih => exact ⟨by simp [ih.1], by simp [ih.2]⟩

section
variable {E : Env} {w0 w w' : World} {ρ ρ' : List Dat} {σ σ' : List Value} {S S' : St} {a : Act} {L : List Fact} {o : Oper}
/-- which blocks the objects js are -/
def JB (σ : List Value) (js bs : List Nat) : Prop := All2 (fun j b => σ[j]? = some (.pointer (some ⟨b, 0, none⟩))) js bs
theorem ptAddr (b : Nat) (off : Nat) : pt (some ⟨b, 0, none⟩) off = .pointer (some ⟨b, off, none⟩) := by
  cases off with
  | zero => rfl
  | succ n => simp [pt, Addr.add]
theorem refOb_ok {j off : Nat} {v : Value} (h : CPR E ρ σ (.ref (.ob j) off []) v) : ∃ b, σ[j]? = some (.pointer (some ⟨b, 0, none⟩)) ∧ v = .pointer (some ⟨b, off, none⟩) := by
  obtain ⟨A, p, q, ⟨b, h1, rfl, rfl⟩, h2, rfl⟩ := h
  have h2 : q = 0 := h2
  subst h2
  exact ⟨b, h1, by rw [Nat.zero_add, Nat.add_zero, ptAddr]⟩
theorem takeC_ok (hO : ObsR E ρ σ S.objs L) {js bs : List Nat} (hJ : JB σ js bs) : ∀ {l : List Cel} {cs : List C} {vs : List Value} {ts : List Tm} {ow : List Nat}, All2 (CR E ρ σ) cs vs → takeC S.objs js l cs = some (ts, ow) →
    ∃ fs, CelV E.Δ bs l (ts.map (den E.Δ ρ)) vs fs ∧ All2 (fun j f => L[j]? = some f ∧ ∃ r t, S.objs[j]? = some (.own r t)) ow fs
  | [], [], _, ts, ow, h, e => by cases h; cases e; exact ⟨[], .nil, .nil⟩
  | [], _ :: _, _, _, _, _, e => by simp [takeC] at e
  | _ :: _, [], _, _, _, _, e => by simp [takeC] at e
  | .v s :: l, c :: cs, _, ts, ow, h, e => by
    cases h with
    | cons h1 h2 =>
    unfold takeC at e
    split at e
    · rename_i t s'
      split at e
      case isFalse => cases e
      rename_i hs
      obtain ⟨rfl, ho⟩ := hs
      simp only [Option.map_eq_some_iff] at e
      obtain ⟨⟨ts', ow'⟩, e1, e2⟩ := e
      cases e2
      obtain ⟨fs, i1, i2⟩ := takeC_ok hO hJ h2 e1
      obtain ⟨d, d1, d2, d3, _⟩ := h1
      refine ⟨fs, ?_, i2⟩
      rw [d3, List.map_cons, d1.now]
      exact .v d2 ho i1
    · split at e
      · rename_i r
        simp only [Option.map_eq_some_iff] at e
        obtain ⟨⟨ts', ow'⟩, e1, e2⟩ := e
        cases e2
        obtain ⟨fs, i1, i2⟩ := takeC_ok hO hJ h2 e1
        refine ⟨fs, ?_, i2⟩
        have h1 : _ = Value.slice none 0 0 := h1
        rw [h1, List.map_cons]
        exact .v (d := den E.Δ ρ (.nil r)) (.list r none 0 0 [] (by simp) (by simp)) rfl i1
      · cases e
    · cases e
  | .own r :: l, c :: cs, _, ts, ow, h, e => by
    cases h with
    | cons h1 h2 =>
    unfold takeC at e
    split at e
    case h_2 => cases e
    rename_i j
    split at e
    case h_2 => cases e
    rename_i r' t hj
    split at e
    case isFalse => cases e
    rename_i hr
    subst hr
    simp only [Option.map_eq_some_iff] at e
    obtain ⟨⟨ts', ow'⟩, e1, e2⟩ := e
    cases e2
    obtain ⟨fs, i1, i2⟩ := takeC_ok hO hJ h2 e1
    obtain ⟨v, f, g1, g2, A, n, c, xs, rfl, g3, g4, g5, rfl⟩ := hO.get j _ hj
    have hv := h1.1
    rw [g1] at hv
    have hv' := Option.some.inj hv
    rw [← hv', List.map_cons, g3.now]
    exact ⟨_, .own g4 g5 i1, .cons ⟨g2, _, _, hj⟩ i2⟩
  | .b k :: l, c :: cs, _, ts, ow, h, e => by
    cases h with
    | cons h1 h2 =>
    unfold takeC at e
    split at e
    case h_2 => cases e
    rename_i j
    split at e
    case isFalse => cases e
    rename_i hk
    obtain ⟨fs, i1, i2⟩ := takeC_ok hO hJ h2 e
    obtain ⟨b, b1, rfl⟩ := refOb_ok (show CPR E ρ σ (.ref (.ob j) 0 []) _ from h1)
    obtain ⟨b', hb', b2⟩ := hJ.get hk
    rw [b1] at b2
    have : b = b' := by simpa using b2
    subst this
    exact ⟨fs, .b hb' i1, i2⟩
theorem takeB_ok (hO : ObsR E ρ σ S.objs L) {js bs : List Nat} (hJ : JB σ js bs) : ∀ {l : List (Nat × List Cel)} {jr br : List Nat} {ts : List Tm} {ow : List Nat}, JB σ jr br → takeB S.objs js l jr = some (ts, ow) →
    ∃ rows owns, BlkV E.Δ bs l br (ts.map (den E.Δ ρ)) rows owns ∧ All2 (fun j f => L[j]? = some f ∧ ∃ cs ty, S.objs[j]? = some (.blk cs ty)) jr rows ∧ All2 (fun j f => L[j]? = some f ∧ ∃ r t, S.objs[j]? = some (.own r t)) ow owns
  | [], [], _, ts, ow, h, e => by cases h; cases e; exact ⟨[], [], .nil, .nil, .nil⟩
  | [], _ :: _, _, _, _, _, e => by simp [takeB] at e
  | _ :: _, [], _, _, _, _, e => by simp [takeB] at e
  | b :: l, j :: jr, _, ts, ow, h, e => by
    cases h with
    | cons h1 h2 =>
    unfold takeB at e
    split at e
    case h_2 => cases e
    rename_i cs ty hj
    split at e
    case isFalse => cases e
    rename_i hty
    simp only [Option.bind_eq_some_iff, Option.map_eq_some_iff] at e
    obtain ⟨⟨t1, o1⟩, e1, ⟨t2, o2⟩, e2, e3⟩ := e
    cases e3
    obtain ⟨rows, owns, i1, i2, i3⟩ := takeB_ok hO hJ h2 e2
    obtain ⟨v, f, g1, g2, k, vs, rfl, g3, rfl⟩ := hO.get j _ hj
    obtain ⟨fs, c1, c2⟩ := takeC_ok hO hJ g3 e1
    rw [g1] at h1
    cases h1
    subst hty
    rw [List.map_append]
    exact ⟨_, _, .cons c1 i1, .cons ⟨g2, _, _, hj⟩ i2, c2.append i3⟩
theorem argC_ok {js bs : List Nat} (hJ : JB σ js bs) : ∀ {l : List PC} {cs : List C} {vs : List Value} {ts : List Tm}, All2 (CR E ρ σ) cs vs → argC js l cs = some ts → ∀ ds, vs = pcV bs l (ts.map (den E.Δ ρ) ++ ds) ∧ All2 (Has E.Δ) (l.flatMap PC.srt) (ts.map (den E.Δ ρ))
  | [], [], _, ts, h, e, ds => by cases h; cases e; exact ⟨rfl, .nil⟩
  | [], _ :: _, _, _, _, e, _ => by simp [argC] at e
  | _ :: _, [], _, _, _, e, _ => by simp [argC] at e
  | .v s :: l, c :: cs, _, ts, h, e, ds => by
    cases h with
    | cons h1 h2 =>
    unfold argC at e
    split at e
    · rename_i t s'
      split at e
      case isFalse => cases e
      rename_i hs
      obtain ⟨rfl, ho⟩ := hs
      simp only [Option.map_eq_some_iff] at e
      obtain ⟨ts', e1, rfl⟩ := e
      obtain ⟨i1, i2⟩ := argC_ok hJ h2 e1 ds
      obtain ⟨d, d1, d2, d3, _⟩ := h1
      refine ⟨?_, ?_⟩
      · rw [i1, d3]
        simp only [List.map_cons, List.cons_append, pcV, List.headD_cons, List.drop_succ_cons, List.drop_zero, d1.now]
      · simp only [List.map_cons, d1.now]
        exact .cons d2 i2
    · split at e
      · rename_i r
        simp only [Option.map_eq_some_iff] at e
        obtain ⟨ts', e1, rfl⟩ := e
        obtain ⟨i1, i2⟩ := argC_ok hJ h2 e1 ds
        have h1 : _ = Value.slice none 0 0 := h1
        refine ⟨?_, ?_⟩
        · rw [i1, h1]; rfl
        · exact .cons (.list r none 0 0 [] (by simp) (by simp)) i2
      · cases e
    · cases e
  | .b k off :: l, c :: cs, _, ts, h, e, ds => by
    cases h with
    | cons h1 h2 =>
    unfold argC at e
    split at e
    case h_2 => cases e
    rename_i j off'
    split at e
    case isFalse => cases e
    rename_i hk
    obtain ⟨hk, rfl⟩ := hk
    obtain ⟨i1, i2⟩ := argC_ok hJ h2 e ds
    obtain ⟨b, b1, rfl⟩ := refOb_ok (show CPR E ρ σ (.ref (.ob j) off []) _ from h1)
    obtain ⟨b', hb', b2⟩ := hJ.get hk
    rw [b1] at b2
    have : b = b' := by simpa using b2
    subst this
    refine ⟨?_, i2⟩
    rw [i1]
    simp only [pcV, List.getD_eq_getElem?_getD, hb', Option.getD_some]
theorem argP_ok {js bs : List Nat} (hJ : JB σ js bs) : ∀ {ps : List (Bool × List PC)} {args : List AV} {vs : List Value} {ts : List Tm}, All2 (VR E ρ σ) args vs → argP js ps args = some ts → vs = insV bs ps (ts.map (den E.Δ ρ)) ∧ All2 (Has E.Δ) (ps.flatMap fun p => p.2.flatMap PC.srt) (ts.map (den E.Δ ρ))
  | [], [], _, ts, h, e => by cases h; cases e; exact ⟨rfl, .nil⟩
  | [], _ :: _, _, _, _, e => by simp [argP] at e
  | _ :: _, [], _, _, _, e => by simp [argP] at e
  | p :: ps, x :: xs, _, ts, h, e => by
    cases h with
    | cons h1 h2 =>
    unfold argP at e
    split at e
    · rename_i cs
      split at e
      case isFalse => cases e
      rename_i hag
      simp only [Option.bind_eq_some_iff, Option.map_eq_some_iff] at e
      obtain ⟨t1, e1, t2, e2, rfl⟩ := e
      obtain ⟨i1, i2⟩ := argP_ok hJ h2 e2
      obtain ⟨us, u1, rfl⟩ := h1
      obtain ⟨k1, k2⟩ := argC_ok hJ u1 e1 (t2.map (den E.Δ ρ))
      have hl : (p.2.flatMap PC.srt).length = t1.length := by simpa using k2.length
      refine ⟨?_, ?_⟩
      · simp only [insV, hag, if_true, List.map_append]
        rw [← k1, List.drop_left' (by simp [hl]), ← i1]
      · rw [List.flatMap_cons, List.map_append]
        exact k2.append i2
    · rename_i c
      split at e
      case isFalse => cases e
      rename_i hag
      simp only [Bool.and_eq_true, Bool.not_eq_true', beq_iff_eq] at hag
      simp only [Option.bind_eq_some_iff, Option.map_eq_some_iff] at e
      obtain ⟨t1, e1, t2, e2, rfl⟩ := e
      obtain ⟨i1, i2⟩ := argP_ok hJ h2 e2
      obtain ⟨k1, k2⟩ := argC_ok hJ (All2.one h1) e1 (t2.map (den E.Δ ρ))
      have hl : (p.2.flatMap PC.srt).length = t1.length := by simpa using k2.length
      refine ⟨?_, ?_⟩
      · simp only [insV, hag.1, Bool.false_eq_true, if_false, List.map_append]
        rw [← k1, List.drop_left' (by simp [hl]), ← i1]; rfl
      · rw [List.flatMap_cons, List.map_append]
        exact k2.append i2
    · cases e
end
end Go.Proofs.YtcigbgpdikadpaaDoor
end

section
namespace Go.Proofs.YtcigbgpdikadpaaDoor
open Go.RowKit
set_option linter.unusedVariables false

theorem OkD.loc {w w' : World} {d : Dat} (h : OkD w d) (hb : ∀ k, AtD d k → w'.heap[k]? = w.heap[k]?) : OkD w' d := by
  induction h with
  | int k n => exact .int k n
  | bool b => exact .bool b
  | val v => exact .val v
  | list v sz xs hr _ hz ih =>
    refine .list v sz xs ?_ (fun row hrow d hd => ih row hrow d hd fun k hk => hb k (.list hrow hd hk)) (hz.loc fun k hk => hb k (.here hk))
    obtain ⟨A, c, rfl, hc, hl, ha⟩ := hr
    refine ⟨A, c, rfl, hc, hl, fun hn => ?_⟩
    obtain ⟨ad, rfl, hlt, hcell⟩ := ha hn
    have he : w'.heap[ad.block]? = w.heap[ad.block]? := hb ad.block (.here ⟨hn, rfl⟩)
    refine ⟨ad, rfl, ?_, fun j u hu => ?_⟩
    · have : w.heap[ad.block]?.isSome = true := by rw [Array.getElem?_eq_getElem hlt]; rfl
      rw [← he] at this
      obtain ⟨o, ho⟩ := Option.isSome_iff_exists.1 this
      exact (Array.getElem?_eq_some_iff.1 ho).1
    · rw [← hcell j u hu]
      unfold World.cell?
      rw [block_add, he]
  | rows xs _ ih => exact .rows xs fun row hrow d hd => ih row hrow d hd fun k hk => hb k (.rows hrow hd hk)
theorem BlkV.ptr {Δ : Tab} {bs : List Nat} {l : List (Nat × List Cel)} {r : List Nat} {ds : List Dat} {rows owns : List Fact} (h : BlkV Δ bs l r ds rows owns) : All2 (fun b f => facV f = .pointer (some ⟨b, 0, none⟩)) r rows := by
  induction h with
  | nil => exact .nil
  | cons _ _ ih => exact .cons rfl ih
section
variable {E : Env} {w0 w w' : World} {ρ ρ' : List Dat} {σ σ' : List Value} {S S' : St} {a : Act} {L : List Fact} {o : Oper}
theorem celC_ok {js bs : List Nat} (hJ : JB σ js bs) {l : List Cel} {ds : List Dat} {vs : List Value} {fs : List Fact} (h : CelV E.Δ bs l ds vs fs) : ∀ n m, (∀ (i : Nat) d, ds[i]? = some d → ρ[n + i]? = some d) → (∀ (i : Nat) f, fs[i]? = some f → σ[m + i]? = some (facV f)) →
    All2 (CR E ρ σ) (celC js l n m).1 vs ∧ All2 (fun o f => ObR E ρ σ o (facV f) f) (celC js l n m).2 fs := by
  induction h with
  | nil => exact fun n m _ _ => ⟨.nil, .nil⟩
  | v hh ho t ih =>
    rename_i s d l ds vs fs
    intro n m h1 h2
    obtain ⟨i1, i2⟩ := ih (n + 1) m (fun i d hd => by rw [show n + 1 + i = n + (i + 1) by omega]; exact h1 (i + 1) d (by simpa using hd)) h2
    exact ⟨.cons ⟨d, Den.var (by simpa using h1 0 d rfl), hh, rfl, ho⟩ i1, i2⟩
  | own hh hn t ih =>
    rename_i r A n' c xs l ds vs fs
    intro n m h1 h2
    obtain ⟨i1, i2⟩ := ih (n + 1) (m + 1) (fun i d hd => by rw [show n + 1 + i = n + (i + 1) by omega]; exact h1 (i + 1) d (by simpa using hd)) (fun i f hf => by rw [show m + 1 + i = m + (i + 1) by omega]; exact h2 (i + 1) f (by simpa using hf))
    refine ⟨.cons ⟨by simpa [facV] using h2 0 _ rfl, A, n', c, rfl⟩ i1, .cons ⟨A, n', c, xs, rfl, Den.var (by simpa using h1 0 _ rfl), hh, hn, rfl⟩ i2⟩
  | b hk t ih =>
    rename_i k b l ds vs fs
    intro n m h1 h2
    obtain ⟨i1, i2⟩ := ih n m h1 h2
    obtain ⟨j, hj, hb⟩ := hJ.get2 hk
    refine ⟨.cons ?_ i1, i2⟩
    refine ⟨some ⟨b, 0, none⟩, 0, 0, ⟨b, ?_, rfl, rfl⟩, rfl, rfl⟩
    rw [List.getD_eq_getElem?_getD, hj]; exact hb
theorem celC_len (js : List Nat) : ∀ (l : List Cel) (n m n' m' : Nat), (celC js l n m).2.length = (celC js l n' m').2.length
  | [], _, _, _, _ => rfl
  | .v _ :: l, n, m, n', m' => celC_len js l _ _ _ _
  | .own _ :: l, n, m, n', m' => by simp only [celC, List.length_cons]; rw [celC_len js l (n + 1) (m + 1) (n' + 1) (m' + 1)]
  | .b _ :: l, n, m, n', m' => celC_len js l _ _ _ _
theorem blkC_ok {js bs : List Nat} (hJ : JB σ js bs) {l : List (Nat × List Cel)} {r : List Nat} {ds : List Dat} {rows owns : List Fact} (h : BlkV E.Δ bs l r ds rows owns) : ∀ n m, (∀ (i : Nat) d, ds[i]? = some d → ρ[n + i]? = some d) → (∀ (i : Nat) f, owns[i]? = some f → σ[m + i]? = some (facV f)) →
    All2 (fun o f => ObR E ρ σ o (facV f) f) (blkC js l n m).1 rows ∧ All2 (fun o f => ObR E ρ σ o (facV f) f) (blkC js l n m).2 owns := by
  induction h with
  | nil => exact fun n m _ _ => ⟨.nil, .nil⟩
  | cons hc t ih =>
    rename_i b l k r d1 d2 vs f1 rows owns
    intro n m h1 h2
    obtain ⟨c1, c2⟩ := celC_ok (ρ := ρ) hJ hc n m (fun i d hd => h1 i d (lt_get hd)) (fun i f hf => h2 i f (lt_get hf))
    have e1 : (b.2.flatMap Cel.srt).length = d1.length := hc.len.symm
    have e2 : (celC js b.2 n m).2.length = f1.length := c2.length
    obtain ⟨i1, i2⟩ := ih (n + d1.length) (m + f1.length) (fun i d hd => by
        rw [Nat.add_assoc]
        exact h1 (d1.length + i) d (by rw [List.getElem?_append_right (by omega), Nat.add_sub_cancel_left]; exact hd))
      (fun i f hf => by
        rw [Nat.add_assoc]
        exact h2 (f1.length + i) f (by rw [List.getElem?_append_right (by omega), Nat.add_sub_cancel_left]; exact hf))
    simp only [blkC]
    rw [e1, e2]
    exact ⟨.cons ⟨k, vs, rfl, c1, rfl⟩ i1, c2.append i2⟩
theorem obs_of {os : List Ob} {fs : List Fact} (h : All2 (fun o f => ObR E ρ (fs.map facV) o (facV f) f) os fs) : ObsR E ρ (fs.map facV) os fs :=
  ⟨by rw [List.length_map]; exact h.length, by simp, fun j o ho => by
    obtain ⟨f, h1, h2⟩ := h.get ho
    exact ⟨facV f, f, by rw [List.getElem?_map, h1]; rfl, h1, h2⟩⟩

theorem nodup_idx {H : List Nat} (hn : H.Nodup) {i i' q : Nat} (h1 : H[i]? = some q) (h2 : H[i']? = some q) : i = i' := by
  obtain ⟨l1, e1⟩ := List.getElem?_eq_some_iff.1 h1
  obtain ⟨l2, e2⟩ := List.getElem?_eq_some_iff.1 h2
  have hp := List.pairwise_iff_getElem.1 hn
  rcases Nat.lt_trichotomy i i' with hlt | he | hlt
  · exact absurd (e1.trans e2.symm) (hp _ _ l1 l2 hlt)
  · exact he
  · exact absurd (e2.trans e1.symm) (hp _ _ l2 l1 hlt)
theorem setAll_len {α : Type} : ∀ (js : List Nat) (l : List α) (os : List α), (setAll os js l).length = os.length
  | [], _, _ => by simp [setAll]
  | _ :: _, [], _ => by simp [setAll]
  | j :: js, o :: l, os => by rw [setAll, setAll_len js l]; simp
theorem setAll_not {α : Type} : ∀ (js : List Nat) (l : List α) (os : List α) (i : Nat), i ∉ js → (setAll os js l)[i]? = os[i]?
  | [], _, _, _, _ => by simp [setAll]
  | _ :: _, [], _, _, _ => by simp [setAll]
  | j :: js, o :: l, os, i, h => by
    rw [List.mem_cons, not_or] at h
    rw [setAll, setAll_not js l _ i h.2, List.getElem?_set, if_neg (fun e => h.1 e.symm)]
theorem setAll_at {α : Type} : ∀ (js : List Nat) (l : List α) (os : List α), js.Nodup → js.length = l.length → ∀ (q j : Nat), js[q]? = some j → j < os.length → (setAll os js l)[j]? = l[q]?
  | [], _, _, _, _, _, _, h, _ => by cases h
  | _ :: _, [], _, _, h, _, _, _, _ => by cases h
  | j :: js, o :: l, os, hn, hl, 0, j', h, hj => by
    cases h
    rw [List.nodup_cons] at hn
    rw [setAll, setAll_not js l _ j hn.1, List.getElem?_set, if_pos rfl, if_pos hj]; rfl
  | j :: js, o :: l, os, hn, hl, q + 1, j', h, hj => by
    rw [List.nodup_cons] at hn
    rw [setAll]
    exact setAll_at js l (os.set j o) hn.2 (by simpa using hl) q j' (by simpa using h) (by simpa using hj)
theorem takeB_js (hO : ObsR E ρ σ S.objs L) {js : List Nat} : ∀ {l : List (Nat × List Cel)} {jr : List Nat} {p : List Tm × List Nat}, takeB S.objs js l jr = some p → ∃ br, JB σ jr br
  | [], [], _, e => ⟨[], .nil⟩
  | [], _ :: _, _, e => by simp [takeB] at e
  | _ :: _, [], _, e => by simp [takeB] at e
  | b :: l, j :: jr, _, e => by
    unfold takeB at e
    split at e
    case h_2 => cases e
    rename_i cs ty hj
    split at e
    case isFalse => cases e
    simp only [Option.bind_eq_some_iff, Option.map_eq_some_iff] at e
    obtain ⟨_, _, _, e2, _⟩ := e
    obtain ⟨br, hbr⟩ := takeB_js hO e2
    obtain ⟨v, f, g1, g2, k, vs, rfl, g3, rfl⟩ := hO.get j _ hj
    exact ⟨k :: br, .cons g1 hbr⟩
/-- one fact more, apart from all that is known -/
theorem Mem.addO {b f : Fact} (h : Mem none w0 w (b :: L)) (hf : f.holds w0.heap.size w) (ho : ∀ k, f.at k → w0.heap.size ≤ k) (hap : ∀ g ∈ b :: L, ∀ k, g.at k → f.at k → False) : Mem none w0 w (b :: (L ++ [f])) := by
  refine ⟨h.grown, fun g hg => ?_, fun g hg hw k hk => ?_, ?_⟩
  · rw [← List.cons_append, List.mem_append, List.mem_singleton] at hg
    rcases hg with hg | rfl
    · exact h.holds g hg
    · exact hf
  · rw [← List.cons_append, List.mem_append, List.mem_singleton] at hg
    rcases hg with hg | rfl
    · exact h.own g hg hw k hk
    · exact .inl (ho k hk)
  · rw [← List.cons_append, List.pairwise_append]
    refine ⟨h.apart, List.pairwise_singleton _ _, fun g hg f' hf' _ k h1 h2 => ?_⟩
    rw [List.mem_singleton] at hf'
    subst hf'
    exact hap g hg k h1 h2
/-- what the facts on objects say of their places -/
theorem ObsR.wr (hO : ObsR E ρ σ S.objs L) {i : Nat} {f : Fact} (hf : L[i]? = some f) {k : Nat} (hk : f.at k) : f.wr = true := by
  have hi : i < S.objs.length := by rw [hO.l1, ← hO.l2]; exact (List.getElem?_eq_some_iff.1 hf).1
  obtain ⟨v, f', g1, g2, g3⟩ := hO.get i _ (List.getElem?_eq_getElem hi)
  rw [hf] at g2; cases g2
  generalize S.objs[i] = o at g3
  cases o with
  | blk cs ty => obtain ⟨b, vs, _, _, rfl⟩ := g3; rfl
  | own r t => obtain ⟨A, n, c, xs, _, _, _, _, rfl⟩ := g3; rfl
  | dead =>
    have g3' : f = .gen (fun _ => True) (fun _ => False) := g3
    subst g3'; exact hk.elim
  | fr => obtain ⟨_, rfl⟩ := g3; rfl
/-- what the caller reads stands in the call -/
def frmOf (E : Env) (ρ : List Dat) : Frm where
  p w := OkL w ρ ∧ E.globs w
  q k := AtL ρ k ∨ E.gat k
  loc w w' h hb := ⟨fun d hd => (h.1 d hd).loc fun k hk => hb k (.inl ⟨d, hd, hk⟩), h.2.block fun k _ hk => hb k (.inr hk)⟩
  lt w h k hk := by
    rcases hk with ⟨d, hd, hk⟩ | hk
    · exact (h.1 d hd).lt hk
    · exact h.2.lt hk
/-- what the caller has of its own besides -/
def restP (B : Nat) (L : List Fact) (H : List Nat) (w : World) : Prop := ∀ (i : Nat) f, L[i]? = some f → i ∉ H → f.holds B w
def restQ (L : List Fact) (H : List Nat) (k : Nat) : Prop := ∃ (i : Nat) (f : Fact), L[i]? = some f ∧ i ∉ H ∧ f.at k
theorem restFirm (B : Nat) (L : List Fact) (H : List Nat) : Firm (restP B L H) (restQ L H) :=
  ⟨fun w1 w2 o h hg hne i f hf hi => Fact.keeps (h i f hf hi) hg fun k hk => hne k ⟨i, f, hf, hi, hk⟩, fun w1 h k ⟨i, f, hf, hi, hk⟩ => Fact.lt (h i f hf hi) hk⟩
theorem den_places (h : Rel E w0 ρ σ S a w) (ts : List Tm) : (∀ d ∈ ts.map (den E.Δ ρ), OkD w d) ∧ ∀ k, AtL (ts.map (den E.Δ ρ)) k → AtL ρ k := by
  have hgood : ∀ d ∈ ts.map (den E.Δ ρ), Good w (AtL ρ) d := fun d hd => by
    obtain ⟨t, _, rfl⟩ := List.mem_map.1 hd
    exact den_good (fun d hd => ⟨h.ok d hd, fun k hk => ⟨d, hd, hk⟩⟩) t
  exact ⟨fun d hd => (hgood d hd).1, fun k ⟨d, hd, hk⟩ => (hgood d hd).2 k hk⟩
/-- what is handed over, and all else under one name -/
theorem Rel.hand (h : Rel E w0 ρ σ S a w) (hO : ObsR E ρ σ S.objs L) (hM : Mem none w0 w (baseF E ρ :: L)) {H : List Nat} (hn : H.Nodup) {fs : List Fact} (hf : All2 (fun j f => L[j]? = some f) H fs) {ds : List Dat} (hd : ∀ d ∈ ds, OkD w d) (hk : ∀ k, AtL ds k → AtL ρ k) :
    Mem none w0 w (baseF { E with fr := frmOf E ρ } (E.γ ++ ds) :: (fs ++ [.ogen (restP w0.heap.size L H) (restQ L H)])) := by
  have hG : ({ E with fr := frmOf E ρ } : Env).globs w := ⟨h.globs.1, h.globs.2.1, h.ok, h.globs⟩
  have hatB : ∀ k, (baseF { E with fr := frmOf E ρ } (E.γ ++ ds)).at k → (baseF E ρ).at k := fun k hk0 => by
    rcases hk0 with hk0 | hk0 | hk0 | hk0 | hk0
    · rcases atL_append hk0 with hk1 | hk1
      · obtain ⟨d, hd, hk1⟩ := hk1
        exact .inl ⟨d, h.pre.subset hd, hk1⟩
      · exact .inl (hk k hk1)
    · exact .inr (.inl hk0)
    · exact .inr (.inr (.inl hk0))
    · exact .inl hk0
    · exact .inr hk0
  have h1 : Mem none w0 w (baseF { E with fr := frmOf E ρ } (E.γ ++ ds) :: fs) := by
    refine hM.pick (fun i => H[i]?) ⟨⟨fun d hd0 => ?_, hG⟩, baseFirm _ _⟩ rfl (fun k hk => .inl (hatB k hk)) (fun i f hi => ?_) (fun i i' q e1 e2 => ?_)
    · rcases List.mem_append.1 hd0 with hd0 | hd0
      · exact h.ok d (h.pre.subset hd0)
      · exact hd d hd0
    · obtain ⟨j, hj, hjf⟩ := hf.get2 hi
      exact .inr ⟨j, hj, hjf⟩
    · exact nodup_idx hn e1 e2
  obtain ⟨hbL, hLL⟩ := List.pairwise_cons.1 hM.apart
  have hpair := List.pairwise_iff_getElem.1 hLL
  refine h1.addO ⟨fun i f hi _ => hM.holds f (List.mem_cons_of_mem _ (List.mem_of_getElem? hi)), restFirm _ _ _⟩ (fun k ⟨i, f, hi, _, hk0⟩ => ?_) fun g hg k k1 ⟨i, f, hi, hiH, k2⟩ => ?_
  · rcases hM.own f (List.mem_cons_of_mem _ (List.mem_of_getElem? hi)) (hO.wr hi hk0) k hk0 with h2 | h2
    · exact h2
    · cases h2
  · rcases List.mem_cons.1 hg with rfl | hg
    · exact hbL f (List.mem_of_getElem? hi) (by rw [hO.wr hi k2, Bool.or_true]) k (hatB k k1) k2
    · obtain ⟨q, hq⟩ := List.getElem?_of_mem hg
      obtain ⟨j, hj, hjf⟩ := hf.get2 hq
      have hne : i ≠ j := fun e => hiH (e ▸ List.mem_of_getElem? hj)
      obtain ⟨l1, rfl⟩ := List.getElem?_eq_some_iff.1 hi
      obtain ⟨l2, rfl⟩ := List.getElem?_eq_some_iff.1 hjf
      rcases Nat.lt_or_gt_of_ne hne with hlt | hlt
      · exact hpair _ _ l1 l2 hlt (by rw [hO.wr hi k2]; rfl) k k2 k1
      · exact hpair _ _ l2 l1 hlt (by rw [hO.wr hi k2, Bool.or_true]) k k1 k2
end
end Go.Proofs.YtcigbgpdikadpaaDoor
end
