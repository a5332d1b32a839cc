import Derived.Test.YtcigbgpdikadpaaDoorM9

set_option linter.unusedVariables false
set_option linter.unusedSimpArgs false

section
namespace Go.Proofs.YtcigbgpdikadpaaDoor
open Go.RowKit
set_option linter.unusedVariables false
section
variable {E : Env} {w0 w w' : World} {ρ ρ' : List Dat} {σ σ' σ0 : List Value} {S S' : St} {a : Act} {L : List Fact} {o : Oper}
theorem bodyOf_ok {P : Program} {f : Nat} {fn : Func} {c : Code} (h : bodyOf P f = some (fn, c)) : P.funcs[f]? = some fn ∧ fn.body = some c ∧ (fn.name == "runtime.NumGoroutine") = false := by
  unfold bodyOf at h
  split at h
  · rename_i fn' hf
    split at h
    · rename_i c' hc
      split at h
      · cases h
      · rename_i hn
        cases h
        exact ⟨hf, hc, by simpa using hn⟩
    · cases h
  · cases h
theorem opdL_ok (h : Rel E w0 ρ σ S a w) : ∀ l : List Operand, All2 (VR E ρ σ) (l.map (opd S.slots)) (l.map a.eval)
  | [] => .nil
  | x :: l => .cons (opd_ok h.slots x) (opdL_ok h l)
theorem callee_ok (h : Rel E w0 ρ σ S a w) {f : Nat} {caps : List CP} {args : List AV} (hc : callee S o = some (f, caps, args)) {fn : Func} {c : Code} (hb : bodyOf E.P f = some (fn, c)) :
    ∃ vs, All2 (VR E ρ σ) (args ++ caps.map fun x => .v (.c (.p x))) vs ∧ vs.length = args.length + caps.length ∧ ∀ w, (execOp a.eval o).run E.P w = .ok (.enter f vs.toArray) w := by
  obtain ⟨b1, b2, b3⟩ := bodyOf_ok hb
  unfold callee at hc
  split at hc
  · rename_i c ho
    split at hc
    · rename_i fo hcal
      split at hc
      · rename_i f' caps' hf
        cases hc
        have hfv := opd_ok h.slots fo
        rw [hf] at hfv
        obtain ⟨us, u1, u2⟩ := hfv
        have ha := opdL_ok h c.args.toList
        have hcp : All2 (VR E ρ σ) (caps.map fun x => AV.v (.c (.p x))) us := by
          clear u2 hf
          induction u1 with
          | nil => exact .nil
          | cons h _ ih => exact .cons h ih
        refine ⟨c.args.toList.map a.eval ++ us, ha.append hcp, ?_, fun w => ?_⟩
        · have := hcp.length
          simp at this ⊢; omega
        · unfold execOp
          simp only [ho, resolve, hcal, u2, Deferred.ofValue, Sem.run_bind, Sem.run_pure, Result.andThen_ok, invoke, callFunc, run_program, b1, b3, b2, Option.isNone_some, Bool.false_eq_true, if_false]
          congr 2
          apply Array.ext'
          simp
      · cases hc
    · cases hc
  · cases hc

theorem mkIteB_ok {t p q : Tm} {b : Bool} (ht : den E.Δ ρ t = .bool b) {d : Bool} (hd : den E.Δ ρ (if b then p else q) = .bool d) : den E.Δ ρ (mkIteB t p q) = .bool d := by
  unfold mkIteB
  split
  · have : b = true := by simpa [den] using ht.symm
    subst this; exact hd
  · have : b = false := by simpa [den] using ht.symm
    subst this; exact hd
  · split
    · rename_i e
      subst e
      cases b <;> exact hd
    · split
      · cases b <;> simp_all [den, mkNot_den, Dat.toBool]
      · cases b <;> simp_all [den, mkNot_den, Dat.toBool]
      · split
        · rename_i e
          subst e
          cases b <;> simp_all [den, mkNot_den, Dat.toBool]
        · split
          · rename_i e
            subst e
            cases b <;> simp_all [den, mkNot_den, Dat.toBool]
          · split <;> cases b <;> simp_all [den, mkNot_den, Dat.toBool]
theorem Den.ext {Δ : Tab} {t u : Tm} {d : Dat} (h : ∀ e, den Δ (ρ ++ e) t = d → den Δ (ρ ++ e) u = d) (hd : Den Δ ρ t d) : Den Δ ρ u d := fun e => h e (hd e)
theorem mrgC_ok {t : Tm} {b : Bool} (ht : Den E.Δ ρ t (.bool b)) {x y : C} {v : Value} (h : CR E ρ σ (if b then x else y) v) : CR E ρ σ (mrgC t x y) v := by
  unfold mrgC
  split
  · rename_i e
    subst e
    cases b <;> exact h
  · split
    · rename_i p s q s' hne
      split
      case isFalse => trivial
      rename_i hs
      subst hs
      have h' : CR E ρ σ (.p (.tm (if b then p else q) s)) v := by cases b <;> exact h
      obtain ⟨d, h1, h2, h3, h4⟩ := h'
      refine ⟨d, fun e => ?_, h2, h3, h4⟩
      split
      · rename_i hb
        subst hb
        cases h2 with
        | bool c => exact mkIteB_ok (ρ := ρ ++ e) (ht e) (h1 e)
      · rw [mkIte_den (q := b) _ _ (ht e), ← h1 e]
        cases b <;> rfl
    · trivial
theorem zipL_ok {α β : Type} {R : α → β → Prop} {f : α → α → α} {b : Bool} (hf : ∀ x y v, R (if b then x else y) v → R (f x y) v) : ∀ {l m r : List α} {vs : List β}, zipL f l m = some r → All2 R (if b then l else m) vs → All2 R r vs
  | [], [], r, vs, e, h => by
    cases e
    cases b <;> exact h
  | x :: l, y :: m, r, vs, e, h => by
    simp only [zipL, Option.map_eq_some_iff] at e
    obtain ⟨r', e1, rfl⟩ := e
    cases b with
    | true =>
      cases h with
      | cons h t => exact .cons (hf x y _ h) (zipL_ok (b := true) hf e1 t)
    | false =>
      cases h with
      | cons h t => exact .cons (hf x y _ h) (zipL_ok (b := false) hf e1 t)
theorem mrgA1_ok {t : Tm} {b : Bool} (ht : Den E.Δ ρ t (.bool b)) {x y : A1} {v : Value} (h : AR E ρ σ (if b then x else y) v) : AR E ρ σ (mrgA1 t x y) v := by
  unfold mrgA1
  split
  · rename_i x y
    refine mrgC_ok ht ?_
    cases b <;> exact h
  · rename_i l m
    split
    · rename_i r hr
      have h' : AR E ρ σ (.agg (if b then l else m)) v := by cases b <;> exact h
      obtain ⟨vs, h1, h2⟩ := h'
      exact ⟨vs, zipL_ok (b := b) (fun x y v h => mrgC_ok ht h) hr h1, h2⟩
    · trivial
  · trivial
theorem mrgA_ok {t : Tm} {b : Bool} (ht : Den E.Δ ρ t (.bool b)) {x y : AV} {v : Value} (h : VR E ρ σ (if b then x else y) v) : VR E ρ σ (mrgA t x y) v := by
  unfold mrgA
  split
  · rename_i x y
    refine mrgA1_ok ht ?_
    cases b <;> exact h
  · split
    · rename_i e
      subst e
      cases b <;> exact h
    · trivial
theorem mrgO_ok {t : Tm} {b : Bool} (ht : Den E.Δ ρ t (.bool b)) {x y r : Ob} (e : mrgO t x y = some r) {v : Value} {f : Fact} (h : ObR E ρ σ (if b then x else y) v f) : ObR E ρ σ r v f := by
  unfold mrgO at e
  split at e
  · rename_i hxy
    cases e
    subst hxy
    cases b <;> exact h
  split at e
  · rename_i cs ty cs' ty' _
    split at e
    case isFalse => cases e
    rename_i hty
    subst hty
    rw [Option.map_eq_some_iff] at e
    obtain ⟨l, hl, rfl⟩ := e
    have h' : ObR E ρ σ (.blk (if b then cs else cs') ty) v f := by cases b <;> exact h
    obtain ⟨bk, vs, h1, h2, h3⟩ := h'
    exact ⟨bk, vs, h1, zipL_ok (b := b) (fun x y v h => mrgC_ok ht h) hl h2, h3⟩
  · cases e
theorem mrgOs_get {t : Tm} : ∀ {l m r : List Ob}, mrgOs t l m = some r → r.length = l.length ∧ m.length = l.length ∧ ∀ (j : Nat) z, r[j]? = some z → ∃ x y, l[j]? = some x ∧ m[j]? = some y ∧ mrgO t x y = some z
  | [], [], r, e => by cases e; exact ⟨rfl, rfl, fun j z h => by cases h⟩
  | x :: l, y :: m, r, e => by
    simp only [mrgOs, Option.bind_eq_some_iff, Option.map_eq_some_iff] at e
    obtain ⟨z, e1, r', e2, rfl⟩ := e
    obtain ⟨h1, h2, h3⟩ := mrgOs_get e2
    refine ⟨by simp [h1], by simp [h2], fun j z' h => ?_⟩
    cases j with
    | zero => cases h; exact ⟨x, y, rfl, rfl, e1⟩
    | succ j => exact h3 j z' (by simpa using h)
theorem mrgOs_ok {t : Tm} {b : Bool} (ht : Den E.Δ ρ t (.bool b)) {l m r : List Ob} (e : mrgOs t l m = some r) (h : ObsR E ρ σ (if b then l else m) L) : ObsR E ρ σ r L := by
  obtain ⟨h1, h2, h3⟩ := mrgOs_get e
  have hl : (if b then l else m).length = r.length := by cases b <;> simp [h1, h2]
  refine ⟨by rw [← hl]; exact h.l1, h.l2, fun j z hz => ?_⟩
  obtain ⟨x, y, hx, hy, hm⟩ := h3 j z hz
  have hg : (if b then l else m)[j]? = some (if b then x else y) := by cases b <;> simp [hx, hy]
  obtain ⟨v, f, f1, f2, f3⟩ := h.get j _ hg
  exact ⟨v, f, f1, f2, mrgO_ok ht hm f3⟩
theorem mrgS_ok {t : Tm} {b : Bool} (ht : Den E.Δ ρ t (.bool b)) {S Sa Sb S' : St} (e : mrgS t S Sa Sb = some S') (hk : ∀ x ∈ S.known, Den E.Δ ρ x.1 (.bool x.2)) (h : Rel E w0 ρ σ (if b then Sa else Sb) a w) : Rel E w0 ρ σ S' a w := by
  unfold mrgS at e
  split at e
  case isFalse => cases e
  rename_i hn
  simp only [Option.bind_eq_some_iff, Option.map_eq_some_iff] at e
  obtain ⟨sl, e1, os, e2, rfl⟩ := e
  refine ⟨?_, h.defers, ?_, hk, ?_, h.pre, h.reach⟩
  · refine zipL_ok (b := b) (fun x y v h => mrgA_ok ht h) e1 ?_
    have := h.slots
    cases b <;> exact this
  · have := h.n
    cases b
    · rw [← this]; exact hn.2.symm
    · rw [← this]; exact hn.1.symm
  · obtain ⟨L, hO, hM⟩ := h.mem
    refine ⟨L, mrgOs_ok (b := b) ht e2 ?_, hM⟩
    cases b <;> exact hO
theorem toBool_true {d : Dat} (h : d.toBool = true) : d = .bool true := by
  cases d <;> first | (cases h; done) | (rename_i b; cases b; cases h; rfl)
theorem imp_ok {t : Tm} (ht : den E.Δ ρ t = .bool false) : ∀ {obs : List Tm}, obsOk E.Δ ρ (imp t obs) → obsOk E.Δ ρ obs
  | [], h => fun o ho => by cases ho
  | o :: l, h => fun u hu => by
    unfold imp at h
    split at h
    · rename_i e; cases e
    · rename_i l' e
      cases e
      rcases List.mem_cons.1 hu with rfl | hu
      · rfl
      · exact imp_ok ht h u hu
    · rename_i o' l' _ e
      cases e
      rcases List.mem_cons.1 hu with rfl | hu
      · have := h (.or t u) (by simp)
        simp only [den, ht, Dat.toBool, Bool.false_or, Dat.bool.injEq] at this
        exact toBool_true this
      · exact imp_ok ht (fun v hv => h v (by simp [hv])) u hu
theorem obsOk_app {Δ : Tab} {a b : List Tm} (h : obsOk Δ ρ (a ++ b)) : obsOk Δ ρ a ∧ obsOk Δ ρ b := ⟨fun t ht => h t (List.mem_append_left _ ht), fun t ht => h t (List.mem_append_right _ ht)⟩

/-- codes one behind the other -/
def wpCodes (P : Program) : List Code → (Exit → Act → World → Prop) → Act → World → Prop
  | [], Q => Q .normal
  | c :: k, Q => c.wp P (Exit.then (wpCodes P k Q) Q)
/-- what a body answers -/
def Returns (E : Env) (w0 : World) (ρ : List Dat) (σ : List Value) (S : St) (codes : List Code) (res : List ResultVar) (xs : List A1) (a : Act) (w : World) : Prop :=
  wpCodes E.P codes (fun e a' w' => (e = .ret ∨ e = .normal) ∧ ∃ S1, S1.objs = S.objs ∧ S1.n = S.n ∧ Rel E w0 ρ σ S1 a' w' ∧ Below w.heap.size w w' ∧ ∃ vs, All2 (AR E ρ σ) xs vs ∧ All2 (fun v r => ResR E.P a' w' v r) vs res) a w
def GoodF (E : Env) (F : St → List Code → List ResultVar → Option (List A1 × List Tm)) : Prop :=
  ∀ (w0 : World) (ρ : List Dat) (σ : List Value) (S : St) (codes : List Code) (res : List ResultVar) (xs : List A1) (obs : List Tm) (a : Act) (w : World), F S codes res = some (xs, obs) → Rel E w0 ρ σ S a w → obsOk E.Δ ρ obs → Returns E w0 ρ σ S codes res xs a w
theorem sameLen {S S' : St} {σ x : List Value} (h : Rel E w0 ρ σ S a w) {a' : Act} (h' : Rel E w0 ρ (σ ++ x) S' a' w') (e : S'.objs = S.objs) : x = [] := by
  obtain ⟨L, hO, _⟩ := h.mem
  obtain ⟨L', hO', _⟩ := h'.mem
  have h1 := hO.l1
  have h2 := hO'.l1
  rw [e, h1, List.length_append] at h2
  exact List.length_eq_zero_iff.1 (by omega)
theorem mrgS_keep {t : Tm} {S Sa Sb S' : St} (e : mrgS t S Sa Sb = some S') : S'.n = S.n ∧ S'.known = S.known := by
  unfold mrgS at e
  split at e
  case isFalse => cases e
  simp only [Option.bind_eq_some_iff, Option.map_eq_some_iff] at e
  obtain ⟨sl, e1, os, e2, rfl⟩ := e
  exact ⟨rfl, rfl⟩
theorem evalW_store {t : TypeId} {x y : Operand} {obs : List Tm} (ho : o.op = .store t x y) (h : evalW E.cx S o = some (S', obs)) : S'.objs.length = S.objs.length ∧ S'.n = S.n ∧ S'.known = S.known := by
  unfold evalW at h
  rw [ho] at h
  simp only at h
  split at h
  · split at h
    · split at h
      · rw [Option.map_eq_some_iff] at h
        obtain ⟨cs, _, h⟩ := h
        cases h
        exact ⟨by simp, rfl, rfl⟩
      · cases h
    · cases h
  · split at h
    · split at h
      · rw [Option.map_eq_some_iff] at h
        obtain ⟨us, _, h⟩ := h
        cases h
        exact ⟨by simp, rfl, rfl⟩
      · cases h
    · cases h
  · split at h
    · split at h
      · cases h
        exact ⟨by simp, rfl, rfl⟩
      · cases h
    · cases h
  · cases h
theorem pureOps_keep {F : St → List Code → List ResultVar → Option (List A1 × List Tm)} {st : Bool} {os : List Oper} : ∀ (n : Nat) (l : List Oper) (S S' : St) (obs : List Tm), pureOps E.cx F st os n l S = some (S', obs) → S'.n = S.n ∧ S'.known = S.known ∧ (st = false → S'.objs = S.objs)
  | n, [], S, S', obs, e => by cases n <;> (cases e; exact ⟨rfl, rfl, fun _ => rfl⟩)
  | 0, o :: l, S, S', obs, e => by cases e
  | n + 1, o :: l, S, S', obs, e => by
    simp only [pureOps] at e
    split at e
    · have := pureOps_keep n l _ _ _ e
      exact this
    · split at e
      · split at e
        case isFalse => cases e
        rename_i hs
        obtain ⟨i1, i2, i3⟩ := pureOps_keep n l _ _ _ e
        exact ⟨i1.trans hs.2.1, i2.trans hs.2.2, fun h => (i3 h).trans hs.1⟩
      split at e
      · rw [Option.map_eq_some_iff] at e
        obtain ⟨⟨S1, ob1⟩, e1, e2⟩ := e
        cases e2
        have := pureOps_keep n l _ _ _ e1
        exact this
      split at e
      · rename_i hq
        rw [Option.map_eq_some_iff] at e
        obtain ⟨⟨S1, ob1⟩, e1, e2⟩ := e
        cases e2
        split at hq
        case h_2 => cases hq
        rename_i hop
        obtain ⟨hs1, hs2, hs3⟩ := evalW_store hop hq
        obtain ⟨i1, i2, i3⟩ := pureOps_keep n l _ _ _ e1
        exact ⟨i1.trans hs2, i2.trans hs3, fun h => (by cases h)⟩
      split at e
      case h_2 => cases e
      split at e
      case h_2 => cases e
      simp only [Option.bind_eq_some_iff, Option.map_eq_some_iff] at e
      obtain ⟨⟨xs, ob⟩, e0, ⟨S1, ob1⟩, e1, e2⟩ := e
      cases e2
      have := pureOps_keep n l _ _ _ e1
      exact this
    · split at e
      case isFalse => cases e
      simp only [Option.bind_eq_some_iff] at e
      obtain ⟨p, e1, q, e2, S2, hm, e⟩ := e
      split at e
      case isFalse => cases e
      rename_i hc
      cases e
      have hk := mrgS_keep hm
      refine ⟨hk.1, hk.2, fun hs => ?_⟩
      rcases hc with hc | hc
      · rw [hs] at hc; cases hc
      · exact hc
    · cases e
theorem pureOps_ok (hW : E.Wf) {F : St → List Code → List ResultVar → Option (List A1 × List Tm)} (hF : GoodF E F) {st : Bool} {os rest : List Oper} {Q : Exit → Act → World → Prop} : ∀ (n : Nat) (l : List Oper) (S S' : St) (obs : List Tm), pureOps E.cx F st os n l S = some (S', obs) → ∀ (a : Act) (w : World), Rel E w0 ρ σ S a w → obsOk E.Δ ρ obs →
    (S'.n = S.n ∧ S'.known = S.known ∧ (st = false → S'.objs = S.objs)) ∧ ((∀ a' w', Rel E w0 ρ σ S' a' w' → (st = false → Below w.heap.size w w') → wpList E.P os.toArray Q rest a' w') → wpList E.P os.toArray Q (l ++ rest) a w)
  | n, [], S, S', obs, e, a, w, h, _ => by
    cases n <;> (cases e; exact ⟨⟨rfl, rfl, fun _ => rfl⟩, fun hQ => hQ a w h fun _ => Below.refl _ _⟩)
  | 0, o :: l, S, S', obs, e, a, w, h, hob => by cases e
  | n + 1, o :: l, S, S', obs, e, a, w, h, hob => by
    simp only [pureOps] at e
    have hg := guardOf_ok (o := o) h (os := os)
    split at e
    · rename_i hgd
      rw [hgd] at hg
      obtain ⟨i1, i2⟩ := pureOps_ok hW hF n l _ _ _ e _ w (h.puts (x := .v (.c .undef)) (v := undef) rfl o.dst) hob
      refine ⟨i1, fun hQ => wpList_step fun K' hK => ?_⟩
      rw [if_neg (by rw [hg]; exact Bool.false_ne_true)]
      exact hK _ _ (i2 hQ)
    · rename_i hgd
      rw [hgd] at hg
      split at e
      · rename_i S1 hS1
        split at e
        case isFalse => cases e
        rename_i hsame
        obtain ⟨v, σ', w', u, rfl, _, hb, hrun, hr⟩ := evalN_ok h hS1
        have := sameLen h hr hsame.1
        subst this
        rw [List.append_nil] at hr
        obtain ⟨⟨i1, i2, i3⟩, i4⟩ := pureOps_ok hW hF n l _ _ _ e _ w' hr hob
        refine ⟨⟨i1.trans hsame.2.1, i2.trans hsame.2.2, fun hs => (i3 hs).trans hsame.1⟩, fun hQ => wpList_wanted hg fun K' hK => ?_⟩
        unfold Oper.wp
        simp only [hrun, Oper.upon]
        exact hK _ _ (i4 fun a'' w'' hr hb' => hQ a'' w'' hr fun hs => hb.trans ((hb' hs).mono hb.size))
      split at e
      · rename_i x ob hq
        rw [Option.map_eq_some_iff] at e
        obtain ⟨⟨S1, ob1⟩, e1, e2⟩ := e
        cases e2
        obtain ⟨o1, o2⟩ := obsOk_app hob
        obtain ⟨L, hO, hM⟩ := h.mem
        obtain ⟨v, v1, v2⟩ := evalQ_ok (w0 := w0) hW hO h.pre h.known h.slots ⟨w, hM⟩ hq o1
        obtain ⟨i1, i2⟩ := pureOps_ok hW hF n l _ _ _ e1 _ w (h.puts v1 o.dst) o2
        refine ⟨i1, fun hQ => wpList_wanted hg fun K' hK => ?_⟩
        unfold Oper.wp
        simp only [v2 w hM, Oper.upon]
        exact hK _ _ (i2 hQ)
      split at e
      · rename_i S1 ob hq
        rw [Option.map_eq_some_iff] at e
        obtain ⟨⟨S2, ob1⟩, e1, e2⟩ := e
        cases e2
        obtain ⟨o1, o2⟩ := obsOk_app hob
        split at hq
        case h_2 => cases hq
        rename_i t x y hop
        obtain ⟨hs1, hs2, hs3⟩ := evalW_store hop hq
        obtain ⟨σ', w', x, rfl, _, hr⟩ := evalW_ok h hq o1
        have hx : x = [] := by
          rcases hr with ⟨_, hr⟩ | ⟨_, _, hr⟩ <;>
          · obtain ⟨L, hO, _⟩ := h.mem
            obtain ⟨L', hO', _⟩ := hr.mem
            have h1 := hO.l1
            have h2 := hO'.l1
            rw [hs1, h1, List.length_append] at h2
            exact List.length_eq_zero_iff.1 (by omega)
        subst hx
        rw [List.append_nil] at hr
        rcases hr with ⟨hrun, hr⟩ | ⟨u, hrun, hr⟩
        · obtain ⟨⟨i1, i2, i3⟩, i4⟩ := pureOps_ok hW hF n l _ _ _ e1 _ w' hr o2
          refine ⟨⟨i1.trans hs2, i2.trans hs3, fun hs => (by cases hs)⟩, fun hQ => wpList_wanted hg fun K' hK => ?_⟩
          unfold Oper.wp
          simp only [hrun, Oper.upon]
          exact hK _ _ (i4 fun a'' w'' hr hb' => hQ a'' w'' hr fun hs => by cases hs)
        · obtain ⟨⟨i1, i2, i3⟩, i4⟩ := pureOps_ok hW hF n l _ _ _ e1 _ w' hr o2
          refine ⟨⟨i1.trans hs2, i2.trans hs3, fun hs => (by cases hs)⟩, fun hQ => wpList_wanted hg fun K' hK => ?_⟩
          unfold Oper.wp
          simp only [hrun, Oper.upon]
          exact hK _ _ (i4 fun a'' w'' hr hb' => hQ a'' w'' hr fun hs => by cases hs)
      split at e
      case h_2 => cases e
      rename_i f caps args hcal
      split at e
      case h_2 => cases e
      rename_i fn c hbo
      simp only [Option.bind_eq_some_iff, Option.map_eq_some_iff] at e
      obtain ⟨⟨xs, ob⟩, e0, ⟨S1, ob1⟩, e1, e2⟩ := e
      cases e2
      obtain ⟨o1, o2⟩ := obsOk_app hob
      obtain ⟨vs, v1, v2, v3⟩ := callee_ok h hcal hbo
      obtain ⟨b1, b2, _⟩ := bodyOf_ok hbo
      have hr : Rel E w0 ρ σ { S with slots := (args ++ caps.map fun x => .v (.c (.p x))) ++ List.replicate (fn.ntmps - (args.length + caps.length)) (.v (.c .undef)) } { tmps := vs.toArray ++ Array.replicate (fn.ntmps - vs.toArray.size) undef, defers := [] } w := by
        refine ⟨?_, rfl, h.n, h.known, h.mem, h.pre, h.reach⟩
        simp only [Array.toList_append, Array.toList_replicate, List.size_toArray, v2]
        exact v1.append (All2.replicate (show VR E ρ σ (.v (.c .undef)) undef from rfl) _)
      have hret := hF w0 ρ σ _ _ _ _ _ _ _ e0 hr o1
      -- the premise of the rest hangs on the world behind the call, in which nothing that counts is else
      have back : ∀ (w' : World) (S2 : St) (a' : Act) (us : List Value), S2.objs = S.objs → S2.n = S.n → Rel E w0 ρ σ S2 a' w' → All2 (AR E ρ σ) xs us → Rel E w0 ρ σ { S with slots := putO S.slots o.dst (retAV xs) } (a.put o.dst (retV us)) w' := fun w' S2 a' us q1 q2 q4 q5 => by
        refine ⟨putO_ok h.slots (retAV_ok q5) o.dst, by rw [put_defers]; exact h.defers, h.n, h.known, ?_, h.pre, h.reach⟩
        rw [← q1]; exact q4.mem
      have hn : S1.n = S.n ∧ S1.known = S.known ∧ (st = false → S1.objs = S.objs) := by
        have := pureOps_keep n l _ _ _ e1
        exact this
      refine ⟨hn, fun hQ => wpList_wanted hg fun K' hK => ?_⟩
      unfold Oper.wp
      rw [v3 w, Oper.upon_enter]
      have hbody : c.wp E.P (bodyPost E.P fn fun e w' => ∃ v, e = .returned v ∧ K' (a.put o.dst v) w') { tmps := vs.toArray ++ Array.replicate (fn.ntmps - vs.toArray.size) undef, defers := [] } w := by
        have h1 : c.wp E.P (Exit.then (wpCodes E.P [] _) _) _ w := hret
        refine wp_mono h1 fun e a' w' hq => ?_
        have hq' : (e = .ret ∨ e = .normal) ∧ ∃ S1, S1.objs = S.objs ∧ S1.n = S.n ∧ Rel E w0 ρ σ S1 a' w' ∧ Below w.heap.size w w' ∧ ∃ vs, All2 (AR E ρ σ) xs vs ∧ All2 (fun v r => ResR E.P a' w' v r) vs fn.results.toList := by
          cases e <;> exact hq
        obtain ⟨he, S2, q1, q2, q4, qb, us, q5, q6⟩ := hq'
        have hk : K' (a.put o.dst (retV us)) w' := hK _ _ ((pureOps_ok hW hF n l _ _ _ e1 _ w' (back w' S2 a' us q1 q2 q4 q5) o2).2 fun a'' w'' hr hb' => hQ a'' w'' hr fun hs => qb.trans ((hb' hs).mono qb.size))
        rcases he with rfl | rfl
        · exact ⟨q4.defers, retV us, run_results q6, _, rfl, hk⟩
        · exact ⟨q4.defers, retV us, run_results q6, _, rfl, hk⟩
      exact (calls_of_wp b1 b2 hbody).mono fun e w' ⟨v, hv, hl⟩ => by
        subst hv
        exact hl
    · rename_i t hgd
      rw [hgd] at hg
      obtain ⟨b, hd⟩ := hg
      split at e
      case isFalse => cases e
      rename_i hb
      simp only [Option.bind_eq_some_iff] at e
      obtain ⟨⟨Sa, oa⟩, ea, ⟨Sb, obb⟩, eb, S2, hm, e⟩ := e
      split at e
      case isFalse => cases e
      rename_i hc
      cases e
      obtain ⟨o1, o2⟩ := obsOk_app hob
      have hk := mrgS_keep hm
      refine ⟨⟨hk.1, hk.2, fun hs => ?_⟩, fun hQ => ?_⟩
      · rcases hc with hc | hc
        · rw [hs] at hc; cases hc
        · exact hc
      · cases b with
        | true =>
          have hx : obsOk E.Δ ρ oa := imp_ok (t := mkNot t) (by rw [mkNot_den]; simp [den, hd.now, Dat.toBool]) o1
          exact (pureOps_ok hW hF n (o :: l) _ _ _ ea a w (h.know hb hd.now) hx).2 fun a' w' hr hb' => hQ a' w' (mrgS_ok (b := true) hd hm h.known hr) hb'
        | false =>
          have hx : obsOk E.Δ ρ obb := imp_ok (t := t) hd.now o2
          exact (pureOps_ok hW hF n (o :: l) _ _ _ eb a w (h.know hb hd.now) hx).2 fun a' w' hr hb' => hQ a' w' (mrgS_ok (b := false) hd hm h.known hr) hb'
    · cases e
theorem wpCodes_mono {P : Program} {Q Q' : Exit → Act → World → Prop} (hq : ∀ e a w, Q e a w → Q' e a w) : ∀ {k : List Code} {a : Act} {w : World}, wpCodes P k Q a w → wpCodes P k Q' a w
  | [], a, w, h => hq _ _ _ h
  | c :: k, a, w, h => wp_mono h fun e a w h => by
    cases e with
    | normal => exact wpCodes_mono hq h
    | _ => exact hq _ _ _ h
theorem pureF_ok (hW : E.Wf) : ∀ n, GoodF E (pureF E.cx n)
  | 0 => fun w0 ρ σ S codes res xs obs a w e => by cases e
  | n + 1 => fun w0 ρ σ S codes res xs obs a w e h hob => by
    have ih := pureF_ok hW n
    cases codes with
    | nil =>
      simp only [pureF, Option.map_eq_some_iff] at e
      obtain ⟨l, hl, e⟩ := e
      cases e
      obtain ⟨vs, v1, v2⟩ := resAll_ok hW h hl
      exact ⟨.inr rfl, S, rfl, rfl, h, Below.refl _ _, vs, v1, v2⟩
    | cons c k =>
    cases c with
    | ret =>
      simp only [pureF, Option.map_eq_some_iff] at e
      obtain ⟨l, hl, e⟩ := e
      cases e
      obtain ⟨vs, v1, v2⟩ := resAll_ok hW h hl
      exact wp_ret ⟨.inl rfl, S, rfl, rfl, h, Below.refl _ _, vs, v1, v2⟩
    | skip => exact wp_skip (ih w0 ρ σ S k res xs obs a w e h hob)
    | seq x y =>
      have := ih w0 ρ σ S (x :: y :: k) res xs obs a w e h hob
      refine wp_seq (wp_mono this fun e a w h => ?_)
      cases e with
      | normal =>
        refine wp_mono h fun e a w h => ?_
        cases e <;> exact h
      | _ => exact h
    | block id x =>
      have := ih w0 ρ σ S (x :: k) res xs obs a w e h hob
      refine wp_block (wp_mono this fun e a w h => ?_)
      cases e with
      | normal => exact h
      | ret => exact h
      | exit id' => rcases h.1 with h | h <;> cases h
      | goto l => rcases h.1 with h | h <;> cases h
      | panic c => rcases h.1 with h | h <;> cases h
      | outgrown => rcases h.1 with h | h <;> cases h
    | region id ops d =>
      cases d with
      | true => cases e
      | false =>
        simp only [pureF, Option.bind_eq_some_iff, Option.map_eq_some_iff] at e
        obtain ⟨⟨S1, ob1⟩, e1, ⟨xs', ob2⟩, e2, e3⟩ := e
        cases e3
        obtain ⟨o1, o2⟩ := obsOk_app hob
        obtain ⟨⟨i1, i2, i3⟩, i4⟩ := pureOps_ok (rest := []) (Q := Exit.then (wpCodes E.P k (fun e a' w' => (e = .ret ∨ e = .normal) ∧ ∃ S2, S2.objs = S.objs ∧ S2.n = S.n ∧ Rel E w0 ρ σ S2 a' w' ∧ Below w.heap.size w w' ∧ ∃ vs, All2 (AR E ρ σ) xs' vs ∧ All2 (fun v r => ResR E.P a' w' v r) vs res)) _) hW ih _ _ _ _ _ e1 a w h o1
        refine wp_region_list ?_
        have := i4 fun a' w' hr hb => by
          have := ih w0 ρ σ S1 k res xs' ob2 a' w' e2 hr o2
          unfold Returns at this
          rw [i1, i3 rfl] at this
          exact wpCodes_mono (fun e a'' w'' ⟨he, S2, q1, q2, q3, qb, vs, q4, q5⟩ => ⟨he, S2, q1, q2, q3, (hb rfl).trans (qb.mono (hb rfl).size), vs, q4, q5⟩) this
        simpa using this
    | cond c x y =>
      simp only [pureF, Option.bind_eq_some_iff] at e
      obtain ⟨t, ht, e⟩ := e
      obtain ⟨b, d1, e1⟩ := opdB_ok (opd_ok h.slots c) ht
      split at e
      · rename_i hkn
        have := knows_ok h.known hkn
        rw [d1.now] at this; cases this
        exact wp_cond e1 (ih w0 ρ σ S (x :: k) res xs obs a w e h hob)
      · rename_i hkn
        have := knows_ok h.known hkn
        rw [d1.now] at this; cases this
        exact wp_cond e1 (ih w0 ρ σ S (y :: k) res xs obs a w e h hob)
      · split at e
        case isFalse => cases e
        rename_i hb
        simp only [Option.bind_eq_some_iff, Option.map_eq_some_iff] at e
        obtain ⟨⟨xa, oa⟩, ea, ⟨xb, obb⟩, eb, l, hl, e⟩ := e
        cases e
        obtain ⟨o1, o2⟩ := obsOk_app hob
        refine wp_cond e1 ?_
        have key : ∀ {zs : List A1} {z : Code} {S1 : St}, S1.objs = S.objs → S1.n = S.n → Returns E w0 ρ σ S1 (z :: k) res zs a w → (∀ vs, All2 (AR E ρ σ) zs vs → All2 (AR E ρ σ) xs vs) → z.wp E.P (Exit.then (wpCodes E.P k (fun e a' w' => (e = .ret ∨ e = .normal) ∧ ∃ S2, S2.objs = S.objs ∧ S2.n = S.n ∧ Rel E w0 ρ σ S2 a' w' ∧ Below w.heap.size w w' ∧ ∃ vs, All2 (AR E ρ σ) xs vs ∧ All2 (fun v r => ResR E.P a' w' v r) vs res)) (fun e a' w' => (e = .ret ∨ e = .normal) ∧ ∃ S2, S2.objs = S.objs ∧ S2.n = S.n ∧ Rel E w0 ρ σ S2 a' w' ∧ Below w.heap.size w w' ∧ ∃ vs, All2 (AR E ρ σ) xs vs ∧ All2 (fun v r => ResR E.P a' w' v r) vs res)) a w := fun {zs z S1} g1 g2 g3 g4 => by
          have : wpCodes E.P (z :: k) _ a w := g3
          refine wpCodes_mono (Q' := fun e a' w' => (e = .ret ∨ e = .normal) ∧ ∃ S2, S2.objs = S.objs ∧ S2.n = S.n ∧ Rel E w0 ρ σ S2 a' w' ∧ Below w.heap.size w w' ∧ ∃ vs, All2 (AR E ρ σ) xs vs ∧ All2 (fun v r => ResR E.P a' w' v r) vs res) (fun e a' w' ⟨he, S2, q1, q2, q3, qb, vs, q4, q5⟩ => ⟨he, S2, q1.trans g1, q2.trans g2, q3, qb, vs, g4 vs q4, q5⟩) this
        cases b with
        | true =>
          have hx : obsOk E.Δ ρ oa := imp_ok (t := mkNot t) (by rw [mkNot_den]; simp [den, d1.now, Dat.toBool]) o1
          have := ih w0 ρ σ (S.know t true) (x :: k) res xa oa a w ea (h.know hb d1.now) hx
          exact key (z := x) rfl rfl this fun vs hv => zipL_ok (b := true) (fun x y v h => mrgA1_ok d1 h) hl hv
        | false =>
          have hx : obsOk E.Δ ρ obb := imp_ok (t := t) d1.now o2
          have := ih w0 ρ σ (S.know t false) (y :: k) res xb obb a w eb (h.know hb d1.now) hx
          exact key (z := y) rfl rfl this fun vs hv => zipL_ok (b := false) (fun x y v h => mrgA1_ok d1 h) hl hv
    | _ => cases e
theorem pureC_keep : ∀ (n : Nat) (S S' : St) (c : Code) (obs : List Tm), pureC E.cx n S c = some (S', obs) → S'.n = S.n ∧ S'.known = S.known
  | 0, S, S', c, obs, e => by cases e
  | n + 1, S, S', c, obs, e => by
    have ih := pureC_keep n
    cases c with
    | skip => cases e; exact ⟨rfl, rfl⟩
    | seq x y =>
      simp only [pureC, Option.bind_eq_some_iff, Option.map_eq_some_iff] at e
      obtain ⟨⟨S1, ob1⟩, e1, ⟨S2, ob2⟩, e2, e3⟩ := e
      cases e3
      have h1 := ih _ _ _ _ e1
      have h2 := ih _ _ _ _ e2
      exact ⟨h2.1.trans h1.1, h2.2.trans h1.2⟩
    | block id x =>
      have := ih S S' x obs e
      exact this
    | region id ops d =>
      cases d with
      | true => cases e
      | false =>
        have := pureOps_keep _ _ _ _ _ e
        exact ⟨this.1, this.2.1⟩
    | cond c x y =>
      simp only [pureC, Option.bind_eq_some_iff] at e
      obtain ⟨t, ht, e⟩ := e
      split at e
      · have := ih _ _ _ _ e; exact this
      · have := ih _ _ _ _ e; exact this
      · split at e
        case isFalse => cases e
        simp only [Option.bind_eq_some_iff, Option.map_eq_some_iff] at e
        obtain ⟨⟨Sa, oa⟩, ea, ⟨Sb, obb⟩, eb, S2, hm, e⟩ := e
        cases e
        exact mrgS_keep hm
    | _ => cases e
theorem pureC_ok (hW : E.Wf) : ∀ (n : Nat) (S S' : St) (c : Code) (obs : List Tm), pureC E.cx n S c = some (S', obs) → ∀ (a : Act) (w : World), Rel E w0 ρ σ S a w → obsOk E.Δ ρ obs →
    (S'.n = S.n ∧ S'.known = S.known) ∧ c.wp E.P (fun e a' w' => e = .normal ∧ Rel E w0 ρ σ S' a' w') a w
  | 0, S, S', c, obs, e, a, w, h, hob => by cases e
  | n + 1, S, S', c, obs, e, a, w, h, hob => by
    have ih := pureC_ok hW n
    cases c with
    | skip => cases e; exact ⟨⟨rfl, rfl⟩, wp_skip ⟨rfl, h⟩⟩
    | seq x y =>
      simp only [pureC, Option.bind_eq_some_iff, Option.map_eq_some_iff] at e
      obtain ⟨⟨S1, ob1⟩, e1, ⟨S2, ob2⟩, e2, e3⟩ := e
      cases e3
      obtain ⟨o1, o2⟩ := obsOk_app hob
      obtain ⟨⟨i1, i2⟩, i3⟩ := ih _ _ _ _ e1 a w h o1
      have hk := pureC_keep n _ _ _ _ e2
      refine ⟨⟨hk.1.trans i1, hk.2.trans i2⟩, wp_seq (wp_mono i3 fun e a' w' ⟨he, hr⟩ => ?_)⟩
      subst he
      refine wp_mono (ih _ _ _ _ e2 a' w' hr o2).2 fun e a' w' hq => ?_
      exact hq
    | block id x =>
      obtain ⟨i1, i2⟩ := ih _ _ _ _ e a w h hob
      refine ⟨i1, wp_block (wp_mono i2 fun e a w ⟨he, hr⟩ => ?_)⟩
      subst he
      exact ⟨rfl, hr⟩
    | region id ops d =>
      cases d with
      | true => cases e
      | false =>
        have hF := pureF_ok hW n
        obtain ⟨⟨i1, i2, _⟩, i4⟩ := pureOps_ok (rest := []) (Q := fun e a' w' => e = .normal ∧ Rel E w0 ρ σ S' a' w') hW hF _ _ _ _ _ e a w h hob
        refine ⟨⟨i1, i2⟩, wp_region_list ?_⟩
        have := i4 fun a' w' hr _ => ⟨rfl, hr⟩
        simpa using this
    | cond c x y =>
      simp only [pureC, Option.bind_eq_some_iff] at e
      obtain ⟨t, ht, e⟩ := e
      obtain ⟨b, d1, e1⟩ := opdB_ok (opd_ok h.slots c) ht
      split at e
      · rename_i hkn
        have := knows_ok h.known hkn
        rw [d1.now] at this; cases this
        obtain ⟨i1, i2⟩ := ih _ _ _ _ e a w h hob
        exact ⟨i1, wp_cond e1 i2⟩
      · rename_i hkn
        have := knows_ok h.known hkn
        rw [d1.now] at this; cases this
        obtain ⟨i1, i2⟩ := ih _ _ _ _ e a w h hob
        exact ⟨i1, wp_cond e1 i2⟩
      · split at e
        case isFalse => cases e
        rename_i hb
        simp only [Option.bind_eq_some_iff, Option.map_eq_some_iff] at e
        obtain ⟨⟨Sa, oa⟩, ea, ⟨Sb, obb⟩, eb, S2, hm, e⟩ := e
        cases e
        obtain ⟨o1, o2⟩ := obsOk_app hob
        refine ⟨mrgS_keep hm, wp_cond e1 ?_⟩
        cases b with
        | true =>
          have hx : obsOk E.Δ ρ oa := imp_ok (t := mkNot t) (by rw [mkNot_den]; simp [den, d1.now, Dat.toBool]) o1
          obtain ⟨_, i2⟩ := ih _ _ _ _ ea a w (h.know hb d1.now) hx
          exact wp_mono i2 fun e a' w' ⟨he, hr⟩ => ⟨he, mrgS_ok (b := true) d1 hm h.known hr⟩
        | false =>
          have hx : obsOk E.Δ ρ obb := imp_ok (t := t) d1.now o2
          obtain ⟨_, i2⟩ := ih _ _ _ _ eb a w (h.know hb d1.now) hx
          exact wp_mono i2 fun e a' w' ⟨he, hr⟩ => ⟨he, mrgS_ok (b := false) d1 hm h.known hr⟩
    | _ => cases e
/-- a straight function that is entered -/
theorem callF_ok (hW : E.Wf) (h : Rel E w0 ρ σ S a w) {f : Nat} {caps : List CP} {args : List AV} (hcal : callee S o = some (f, caps, args)) {xs : List A1} {obs : List Tm} (hc : callF E.cx S f caps args = some (xs, obs)) (hob : obsOk E.Δ ρ obs) :
    ∃ vs : List Value, (∀ w, (execOp a.eval o).run E.P w = .ok (.enter f vs.toArray) w) ∧ Calls E.P f vs.toArray w fun e w' => ∃ u, e = .returned u ∧ Below w.heap.size w w' ∧ Rel E w0 ρ σ { S with slots := putO S.slots o.dst (retAV xs) } (a.put o.dst u) w' := by
  unfold callF at hc
  split at hc
  case h_2 => cases hc
  rename_i fn c hbo
  obtain ⟨vs, v1, v2, v3⟩ := callee_ok h hcal hbo
  obtain ⟨b1, b2, _⟩ := bodyOf_ok hbo
  refine ⟨vs, v3, ?_⟩
  have hr : Rel E w0 ρ σ { S with slots := (args ++ caps.map fun x => .v (.c (.p x))) ++ List.replicate (fn.ntmps - (args.length + caps.length)) (.v (.c .undef)) } { tmps := vs.toArray ++ Array.replicate (fn.ntmps - vs.toArray.size) undef, defers := [] } w := by
    refine ⟨?_, rfl, h.n, h.known, h.mem, h.pre, h.reach⟩
    simp only [Array.toList_append, Array.toList_replicate, List.size_toArray, v2]
    exact v1.append (All2.replicate (show VR E ρ σ (.v (.c .undef)) undef from rfl) _)
  have hret := pureF_ok hW 200 w0 ρ σ _ _ _ _ _ _ _ hc hr hob
  have hbody : c.wp E.P (bodyPost E.P fn fun e w' => ∃ u, e = .returned u ∧ Below w.heap.size w w' ∧ Rel E w0 ρ σ { S with slots := putO S.slots o.dst (retAV xs) } (a.put o.dst u) w') { tmps := vs.toArray ++ Array.replicate (fn.ntmps - vs.toArray.size) undef, defers := [] } w := by
    have h1 : c.wp E.P (Exit.then (wpCodes E.P [] _) _) _ w := hret
    refine wp_mono h1 fun e a' w' hq => ?_
    have hq' : (e = .ret ∨ e = .normal) ∧ ∃ S1, S1.objs = S.objs ∧ S1.n = S.n ∧ Rel E w0 ρ σ S1 a' w' ∧ Below w.heap.size w w' ∧ ∃ vs, All2 (AR E ρ σ) xs vs ∧ All2 (fun v r => ResR E.P a' w' v r) vs fn.results.toList := by
      cases e <;> exact hq
    obtain ⟨he, S2, q1, q2, q4, qb, us, q5, q6⟩ := hq'
    have hk : Rel E w0 ρ σ { S with slots := putO S.slots o.dst (retAV xs) } (a.put o.dst (retV us)) w' := by
      refine ⟨putO_ok h.slots (retAV_ok q5) o.dst, by rw [put_defers]; exact h.defers, h.n, h.known, ?_, h.pre, h.reach⟩
      rw [← q1]; exact q4.mem
    rcases he with rfl | rfl
    · exact ⟨q4.defers, retV us, run_results q6, _, rfl, qb, hk⟩
    · exact ⟨q4.defers, retV us, run_results q6, _, rfl, qb, hk⟩
  exact calls_of_wp b1 b2 hbody
end
end Go.Proofs.YtcigbgpdikadpaaDoor
end
