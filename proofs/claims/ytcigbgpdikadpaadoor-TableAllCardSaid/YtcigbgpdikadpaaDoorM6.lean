import Derived.Test.YtcigbgpdikadpaaDoorM5

set_option linter.unusedVariables false
set_option linter.unusedSimpArgs false

section
namespace Go.Proofs.YtcigbgpdikadpaaDoor
open Go.RowKit
set_option linter.unusedVariables false

inductive Tree where
  | ret (ts : List Tm)
  | ite (c : Tm) (a b : Tree)
  | ob (c : Tm) (k : Tree)
  | loop (ts : List Tm) (ss : List Srt) (body : Tree)
  | again (lvl : Nat) (ts : List Tm)
  | call (f : Nat) (ts : List Tm) (ss : List Srt) (k : Tree)
  | callx (f : Nat) (ts : List Tm) (ss : List Srt) (k : Tree)
  | lend (f : Nat) (l : List (Nat × Tm)) (ts : List Tm) (ss : List Srt) (k : Tree)
  | share (r : Nat) (t : Tm) (k : Tree)
  | lit (r : Nat) (t : Tm) (k : Tree)
  | both (a b : Tree)
  | fail (n : Nat)
  deriving DecidableEq
abbrev Inv := List Dat → Nat → Prop
abbrev Spec := List Dat → (List Dat → Prop) → Prop
/-- for all data of these sorts -/
def allS (Δ : Tab) : List Srt → (List Dat → Prop) → Prop
  | [], p => p []
  | .int k :: ss, p => ∀ n : Int, allS Δ ss fun l => p (.int k n :: l)
  | .bool :: ss, p => ∀ b : Bool, allS Δ ss fun l => p (.bool b :: l)
  | s :: ss, p => ∀ d, Has Δ s d → allS Δ ss fun l => p (d :: l)
theorem allS_use {Δ : Tab} : ∀ {ss : List Srt} {p : List Dat → Prop} {l : List Dat}, allS Δ ss p → All2 (Has Δ) ss l → p l
  | [], p, l, h, hl => by cases hl; exact h
  | s :: ss, p, l, h, hl => by
    cases hl with
    | cons h1 h2 =>
    rename_i d l
    cases h1 with
    | int k n => exact allS_use (p := fun l => p (_ :: l)) (h n) h2
    | bool b => exact allS_use (p := fun l => p (_ :: l)) (h b) h2
    | str s => exact allS_use (p := fun l => p (_ :: l)) (h _ (.str s)) h2
    | nili => exact allS_use (p := fun l => p (_ :: l)) (h _ .nili) h2
    | ifc n => exact allS_use (p := fun l => p (_ :: l)) (h _ (.ifc n)) h2
    | val v hv => exact allS_use (p := fun l => p (_ :: l)) (h _ (.val v hv)) h2
    | list r A n c xs q1 q2 => exact allS_use (p := fun l => p (_ :: l)) (h _ (.list r A n c xs q1 q2)) h2
    | rows r xs q1 q2 => exact allS_use (p := fun l => p (_ :: l)) (h _ (.rows r xs q1 q2)) h2
/-- for all places where slices of the call's own, that are lent, may stand -/
def lendW (Δ : Tab) (ρ : List Dat) : List (Nat × Tm) → (List Dat → Prop) → Prop
  | [], p => p []
  | x :: l, p => ∀ A c, lendW Δ ρ l fun e => p (.list (.slice A (den Δ ρ x.2).xs.length c) (Δ.row x.1).length (den Δ ρ x.2).xs :: e)
theorem lendW_use {Δ : Tab} {ρ : List Dat} {l : List (Nat × Tm)} {e : List Dat} (he : All2 (fun x d => ∃ A c, d = .list (.slice A (den Δ ρ x.2).xs.length c) (Δ.row x.1).length (den Δ ρ x.2).xs) l e) : ∀ {p : List Dat → Prop}, lendW Δ ρ l p → p e := by
  induction he with
  | nil => intro p h; exact h
  | cons h1 _ ih =>
    intro p h
    obtain ⟨A, c, rfl⟩ := h1
    exact ih (h A c)
/-- a call that may end in a panic: what it tells is marked -/
def wpO (D : Dat → Prop) (K : List Dat → Prop) : List Dat → Prop
  | .bool true :: rs => K rs
  | [.bool false, d] => D d
  | _ => False
/-- what a tree demands, so that what is returned is as told -/
def wp (Δ : Tab) (Φ : Nat → Spec) (Post : List Dat → Prop) : Tree → List Dat → List (Inv × Nat) → Prop
  | .ret ts, ρ, _ => Post (ts.map (den Δ ρ))
  | .ite c a b, ρ, X => (den Δ ρ c = .bool true → wp Δ Φ Post a ρ X) ∧ (den Δ ρ c = .bool false → wp Δ Φ Post b ρ X)
  | .ob c k, ρ, X => den Δ ρ c = .bool true ∧ wp Δ Φ Post k ρ X
  | .loop ts ss b, ρ, X => ∃ I : Inv, (∃ m, I (ts.map (den Δ ρ)) m) ∧ allS Δ ss fun xs => ∀ m, I xs m → wp Δ Φ Post b (ρ ++ xs) (X ++ [(I, m)])
  | .again l ts, ρ, X => match X[l]? with
    | some Im => ∃ m', m' < Im.2 ∧ Im.1 (ts.map (den Δ ρ)) m'
    | none => False
  | .call f ts ss k, ρ, X => Φ f (ts.map (den Δ ρ)) fun rs => wp Δ Φ Post k (ρ ++ rs) X
  | .callx f ts ss k, ρ, X => Φ f (ts.map (den Δ ρ)) (wpO (fun d => Post [.bool false, d]) fun rs => wp Δ Φ Post k (ρ ++ rs) X)
  | .lend f l ts ss k, ρ, X => lendW Δ ρ l fun e => Φ f (ts.map (den Δ (ρ ++ e))) fun rs => wp Δ Φ Post k (ρ ++ rs) X
  | .share r t k, ρ, X => ∀ A c, wp Δ Φ Post k (ρ ++ [.list (.slice A (den Δ ρ t).xs.length c) (Δ.row r).length (den Δ ρ t).xs]) X
  | .lit r t k, ρ, X => ∀ A, wp Δ Φ Post k (ρ ++ [.list (.slice A (den Δ ρ t).xs.length (den Δ ρ t).xs.length) (Δ.row r).length (den Δ ρ t).xs]) X
  | .both a b, ρ, X => wp Δ Φ Post a ρ X ∧ wp Δ Φ Post b ρ X
  | .fail _, _, _ => False

/-- where a loop's variables stand -/
inductive Src where
  | sl (i : Nat)
  | sc (i c : Nat)
  | ob (j c : Nat)
  | ow (i : Nat)
  | oc (j : Nat)
  | bo (j c : Nat)
  deriving DecidableEq
def tmOf : Option C → Option (Tm × Srt)
  | some (.p (.tm t s)) => some (t, s)
  | _ => none
def getSrc (S : St) : Src → Option (Tm × Srt)
  | .sl i => match S.slots[i]? with
    | some (.v (.c c)) => tmOf (some c)
    | _ => none
  | .sc i c => match S.slots[i]? with
    | some (.v (.agg l)) => tmOf l[c]?
    | _ => none
  | .ob j c => match S.objs[j]? with
    | some (.blk cs _) => tmOf cs[c]?
    | _ => none
  | .ow i => match S.slots[i]? with
    | some (.v (.c (.p (.own j)))) => match S.objs[j]? with
      | some (.own r t) => some (t, .rows r)
      | _ => none
    | _ => none
  | .oc j => match S.objs[j]? with
    | some (.own r t) => some (t, .rows r)
    | _ => none
  | .bo j c => match S.objs[j]? with
    | some (.blk cs _) => match cs[c]? with
      | some (.p (.own j')) => match S.objs[j']? with
        | some (.own r t) => some (t, .rows r)
        | _ => none
      | _ => none
    | _ => none
def getOws (S : St) : List Src → List Nat
  | [] => []
  | .ow i :: l => match S.slots[i]? with
    | some (.v (.c (.p (.own j)))) => j :: getOws S l
    | _ => getOws S l
  | .bo j c :: l => match S.objs[j]? with
    | some (.blk cs _) => match cs[c]? with
      | some (.p (.own j')) => j' :: getOws S l
      | _ => getOws S l
    | _ => getOws S l
  | _ :: l => getOws S l

def Bs.bnd (n m : Nat) : Bs → Bool
  | .ob j => decide (j < m)
  | .gl _ => true
  | .el s _ i => s.bnd n && i.bnd n
  | .oe j _ i => decide (j < m) && i.bnd n
def CP.bnd (n m : Nat) : CP → Bool
  | .tm t _ => t.bnd n
  | .ref b _ dyn => b.bnd n m && dyn.all fun x => x.1.bnd n
  | .sb b _ dyn _ => b.bnd n m && dyn.all fun x => x.1.bnd n
  | .own j => decide (j < m)
  | .nils => true
def C.bnd (n m : Nat) : C → Bool
  | .unk => true
  | .undef => true
  | .p x => x.bnd n m
  | .fn _ caps => caps.all (CP.bnd n m)
def A1.bnd (n m : Nat) : A1 → Bool
  | .c x => x.bnd n m
  | .agg l => l.all (C.bnd n m)
def AV.bnd (n m : Nat) : AV → Bool
  | .v x => x.bnd n m
  | .tup l => l.all (A1.bnd n m)
def okC (n m : Nat) (ts : List Tm) (js : List Nat) (h s : C) : Bool :=
  (match h with
    | .unk => true
    | .p (.tm (.var i) sh) => (match s with
      | .p (.tm t st) => decide (n ≤ i) && decide (ts[i - n]? = some t) && decide (sh = st)
      | _ => false)
    | .p (.own j) => (match s with
      | .p (.own j') => decide (m ≤ j) && decide (js[j - m]? = some j')
      | _ => false)
    | _ => false) || (h.bnd n m && decide (h = s))
def okLs {α β : Type} (f : α → β → Bool) : List α → List β → Bool
  | [], [] => true
  | a :: l, b :: m => f a b && okLs f l m
  | _, _ => false
def okA (n m : Nat) (ts : List Tm) (js : List Nat) (h s : AV) : Bool := match h with
  | .v (.c .unk) => true
  | .v (.c x) => (match s with
    | .v (.c y) => okC n m ts js x y
    | _ => false)
  | .v (.agg l) => (match s with
    | .v (.agg l') => okLs (okC n m ts js) l l'
    | _ => false)
  | .tup l => h.bnd n m && decide (h = s)
def okO (n m : Nat) (ts : List Tm) (js : List Nat) (h s : Ob) : Bool := match h with
  | .dead => true
  | .fr => decide (s = .fr)
  | .blk cs ty => (match s with
    | .blk cs' ty' => decide (ty = ty') && okLs (okC n m ts js) cs cs'
    | _ => false)
  | .own r t => (t.bnd n && decide (h = s)) || (match t, s with
    | .var i, .own r' t' => decide (r = r') && decide (n ≤ i) && decide (ts[i - n]? = some t')
    | _, _ => false)
def okOw (n : Nat) (ts : List Tm) (S : St) (h : Ob) (j : Nat) : Bool := match h, S.objs[j]? with
  | .own r (.var i), some (.own r' t) => decide (r = r') && decide (n ≤ i) && decide (ts[i - n]? = some t)
  | _, _ => false
def isDead : Option Ob → Bool
  | some .dead => true
  | _ => false
/-- does the state fit a loop's head? -/
def chk (n m : Nat) (srcs : List Src) (ss : List Srt) (ts : List Tm) (H S : St) : Bool :=
  let js := getOws S srcs
  decide (srcs.map (getSrc S) = (ts.zip ss).map some) && decide (ts.length = ss.length) && decide (H.n = n + ts.length) && okLs (okA n m ts js) H.slots S.slots
    && decide (m ≤ S.objs.length) && okLs (okO n m ts js) (H.objs.take m) (S.objs.take m) && okLs (okOw n ts S) (H.objs.drop m) js && decide js.Nodup && js.all (fun j => decide (m ≤ j) || isDead H.objs[j]?)
    && H.known.all (fun x => x.1.bnd n) && decide (S.known.drop (S.known.length - H.known.length) = H.known)

theorem okLs_get {α β : Type} {f : α → β → Bool} : ∀ {l : List α} {m : List β}, okLs f l m = true → l.length = m.length ∧ ∀ (i : Nat) a b, l[i]? = some a → m[i]? = some b → f a b = true
  | [], [], _ => ⟨rfl, fun _ _ _ h => by cases h⟩
  | a :: l, b :: m, h => by
    simp only [okLs, Bool.and_eq_true] at h
    obtain ⟨h1, h2⟩ := okLs_get h.2
    refine ⟨by simp [h1], fun i x y hx hy => ?_⟩
    cases i with
    | zero => cases hx; cases hy; exact h.1
    | succ i => exact h2 i x y (by simpa using hx) (by simpa using hy)
  | [], _ :: _, h => by cases h
  | _ :: _, [], h => by cases h

section
variable {E : Env} {w0 w w' : World} {ρ ρ' : List Dat} {σ σ' : List Value} {S H : St} {a : Act} {L : List Fact}
theorem Den.down {Δ : Tab} {t : Tm} {d : Dat} (h : Den Δ ρ' t d) (hp : ρ <+: ρ') (hb : t.bnd ρ.length = true) : Den Δ ρ t d := by
  obtain ⟨z, rfl⟩ := hp
  exact h.less hb
theorem get_down {α : Type} {l l' : List α} (hp : l <+: l') {i : Nat} (hi : i < l.length) {v : α} (h : l'[i]? = some v) : l[i]? = some v := by
  obtain ⟨z, rfl⟩ := hp
  rwa [List.getElem?_append_left hi] at h
theorem BsR.down (hp : ρ <+: ρ') (hq : σ <+: σ') : ∀ {b : Bs} {A : Option Addr} {p : Nat}, BsR E ρ' σ' b A p → b.bnd ρ.length σ.length = true → BsR E ρ σ b A p
  | .ob j, _, _, ⟨b, h, r⟩, hb => ⟨b, get_down hq (by simpa [Bs.bnd] using hb) h, r⟩
  | .gl g, _, _, h, _ => h
  | .el s r i, _, _, ⟨n, c, xs, k, h1, h2, h3, r'⟩, hb => by
    simp only [Bs.bnd, Bool.and_eq_true] at hb
    exact ⟨n, c, xs, k, h1.down hp hb.1, h2, h3.down hp hb.2, r'⟩
  | .oe j r i, _, _, ⟨n, c, k, h1, h2, r'⟩, hb => by
    simp only [Bs.bnd, Bool.and_eq_true, decide_eq_true_eq] at hb
    exact ⟨n, c, k, get_down hq hb.1 h1, h2.down hp hb.2, r'⟩
theorem DynR.down (hp : ρ <+: ρ') : ∀ {l : List (Tm × Nat × Nat)} {p : Nat}, DynR E ρ' l p → l.all (fun x => x.1.bnd ρ.length) = true → DynR E ρ l p
  | [], _, h, _ => h
  | _ :: l, _, ⟨k, q, h1, h2, h3, h4, h5⟩, hb => by
    simp only [List.all_cons, Bool.and_eq_true] at hb
    exact ⟨k, q, h1.down hp hb.1, h2, h3, DynR.down hp h4 hb.2, h5⟩
theorem CPR.down (hp : ρ <+: ρ') (hq : σ <+: σ') : ∀ {x : CP} {v : Value}, CPR E ρ' σ' x v → x.bnd ρ.length σ.length = true → CPR E ρ σ x v
  | .tm t s, _, ⟨d, h1, r⟩, hb => ⟨d, h1.down hp hb, r⟩
  | .ref b off dyn, _, ⟨A, p, q, h1, h2, h3⟩, hb => by
    simp only [CP.bnd, Bool.and_eq_true] at hb
    exact ⟨A, p, q, BsR.down hp hq h1 hb.1, DynR.down hp h2 hb.2, h3⟩
  | .own j, _, ⟨h, r⟩, hb => ⟨get_down hq (by simpa [CP.bnd] using hb) h, r⟩
  | .nils, _, h, _ => h
  | .sb b off dyn n, _, ⟨A, p, q, m, h1, h2, h3⟩, hb => by
    simp only [CP.bnd, Bool.and_eq_true] at hb
    exact ⟨A, p, q, m, BsR.down hp hq h1 hb.1, DynR.down hp h2 hb.2, h3⟩
theorem CR.down (hp : ρ <+: ρ') (hq : σ <+: σ') : ∀ {x : C} {v : Value}, CR E ρ' σ' x v → x.bnd ρ.length σ.length = true → CR E ρ σ x v
  | .unk, _, _, _ => trivial
  | .undef, _, h, _ => h
  | .p x, _, h, hb => CPR.down hp hq (x := x) h hb
  | .fn g caps, _, ⟨vs, h, r⟩, hb => by
    refine ⟨vs, All2.of h.length fun i x v hx hv => ?_, r⟩
    obtain ⟨v', h1, h2⟩ := h.get hx
    rw [hv] at h1; cases h1
    exact h2.down hp hq (List.all_eq_true.1 hb x (List.mem_of_getElem? hx))
theorem AR.down (hp : ρ <+: ρ') (hq : σ <+: σ') : ∀ {x : A1} {v : Value}, AR E ρ' σ' x v → x.bnd ρ.length σ.length = true → AR E ρ σ x v
  | .c x, _, h, hb => CR.down hp hq (x := x) h hb
  | .agg l, _, ⟨vs, h, r⟩, hb => by
    refine ⟨vs, All2.of h.length fun i x v hx hv => ?_, r⟩
    obtain ⟨v', h1, h2⟩ := h.get hx
    rw [hv] at h1; cases h1
    exact h2.down hp hq (List.all_eq_true.1 hb x (List.mem_of_getElem? hx))
theorem VR.down (hp : ρ <+: ρ') (hq : σ <+: σ') : ∀ {x : AV} {v : Value}, VR E ρ' σ' x v → x.bnd ρ.length σ.length = true → VR E ρ σ x v
  | .v x, _, h, hb => AR.down hp hq (x := x) h hb
  | .tup l, _, ⟨vs, h, r⟩, hb => by
    refine ⟨vs, All2.of h.length fun i x v hx hv => ?_, r⟩
    obtain ⟨v', h1, h2⟩ := h.get hx
    rw [hv] at h1; cases h1
    exact h2.down hp hq (List.all_eq_true.1 hb x (List.mem_of_getElem? hx))
/-- the loop's variables' data -/
theorem Den.loopVar {Δ : Tab} {ts : List Tm} {i : Nat} {t : Tm} {d : Dat} (hi : ρ.length ≤ i) (ht : ts[i - ρ.length]? = some t) (hd : Den Δ ρ' t d) : Den Δ (ρ ++ ts.map (den Δ ρ')) (.var i) d := by
  refine Den.var ?_
  rw [List.getElem?_append_right hi, List.getElem?_map, ht]
  simp [hd.now]
theorem okC_ok (hp : ρ <+: ρ') (hq : σ <+: σ') {ts : List Tm} {js : List Nat} {σx : List Value} (hσ : ∀ (q j : Nat), js[q]? = some j → σx[q]? = σ'[j]?) {h s : C} {v : Value} (hc : okC ρ.length σ.length ts js h s = true) (hr : CR E ρ' σ' s v) :
    CR E (ρ ++ ts.map (den E.Δ ρ')) (σ ++ σx) h v := by
  unfold okC at hc
  rw [Bool.or_eq_true] at hc
  rcases hc with hc | hc
  · split at hc
    · trivial
    · rename_i i sh
      split at hc
      · rename_i t st
        simp only [Bool.and_eq_true, decide_eq_true_eq] at hc
        obtain ⟨⟨h1, h2⟩, rfl⟩ := hc
        obtain ⟨d, d1, d2⟩ := hr
        exact ⟨d, Den.loopVar h1 h2 d1, d2⟩
      · cases hc
    · rename_i j
      split at hc
      · rename_i j'
        simp only [Bool.and_eq_true, decide_eq_true_eq] at hc
        obtain ⟨h1, h2⟩ := hc
        obtain ⟨d1, d2⟩ := hr
        exact ⟨by rw [List.getElem?_append_right h1, hσ _ _ h2]; exact d1, d2⟩
      · cases hc
    · cases hc
  · simp only [Bool.and_eq_true, decide_eq_true_eq] at hc
    obtain ⟨h1, rfl⟩ := hc
    exact (hr.down hp hq h1).more _ _
theorem okCs_ok (hp : ρ <+: ρ') (hq : σ <+: σ') {ts : List Tm} {js : List Nat} {σx : List Value} (hσ : ∀ (q j : Nat), js[q]? = some j → σx[q]? = σ'[j]?) {h s : List C} {vs : List Value} (hc : okLs (okC ρ.length σ.length ts js) h s = true) (hr : All2 (CR E ρ' σ') s vs) :
    All2 (CR E (ρ ++ ts.map (den E.Δ ρ')) (σ ++ σx)) h vs := by
  obtain ⟨h1, h2⟩ := okLs_get hc
  refine All2.of (h1.trans hr.length) fun i x v hx hv => ?_
  obtain ⟨y, hy, hyv⟩ := hr.get2 hv
  exact okC_ok hp hq hσ (h2 i x y hx hy) hyv
theorem okA_ok (hp : ρ <+: ρ') (hq : σ <+: σ') {ts : List Tm} {js : List Nat} {σx : List Value} (hσ : ∀ (q j : Nat), js[q]? = some j → σx[q]? = σ'[j]?) {h s : AV} {v : Value} (hc : okA ρ.length σ.length ts js h s = true) (hr : VR E ρ' σ' s v) :
    VR E (ρ ++ ts.map (den E.Δ ρ')) (σ ++ σx) h v := by
  unfold okA at hc
  split at hc
  · trivial
  · split at hc
    · exact okC_ok hp hq hσ hc hr
    · cases hc
  · split at hc
    · obtain ⟨vs, h1, h2⟩ := hr
      exact ⟨vs, okCs_ok hp hq hσ hc h1, h2⟩
    · cases hc
  · simp only [Bool.and_eq_true, decide_eq_true_eq] at hc
    obtain ⟨h1, rfl⟩ := hc
    exact (hr.down hp hq h1).more _ _
theorem tmOf_ok {c : Option C} {t : Tm} {s : Srt} (h : tmOf c = some (t, s)) : c = some (.p (.tm t s)) := by
  unfold tmOf at h
  split at h
  · cases h; rfl
  · cases h
theorem getSrc_has (h : Rel E w0 ρ σ S a w) {x : Src} {t : Tm} {s : Srt} (hx : getSrc S x = some (t, s)) : Has E.Δ s (den E.Δ ρ t) := by
  obtain ⟨L, hO, _⟩ := h.mem
  cases x with
  | sl i =>
    simp only [getSrc] at hx
    split at hx
    · rename_i c hs
      have := tmOf_ok hx
      cases this
      obtain ⟨v, _, d, d1, d2, _⟩ := h.slots.get hs
      rw [d1.now]; exact d2
    · cases hx
  | sc i c =>
    simp only [getSrc] at hx
    split at hx
    · rename_i l hs
      have hl := tmOf_ok hx
      obtain ⟨v, _, vs, v1, _⟩ := h.slots.get hs
      obtain ⟨u, _, d, d1, d2, _⟩ := v1.get hl
      rw [d1.now]; exact d2
    · cases hx
  | ob j c =>
    simp only [getSrc] at hx
    split at hx
    · rename_i cs ty hs
      have hl := tmOf_ok hx
      obtain ⟨v, f, _, _, b, vs, _, v1, _⟩ := hO.get j _ hs
      obtain ⟨u, _, d, d1, d2, _⟩ := v1.get hl
      rw [d1.now]; exact d2
    · cases hx
  | ow i =>
    simp only [getSrc] at hx
    split at hx
    · rename_i j hs
      split at hx
      · rename_i r t' hj
        cases hx
        obtain ⟨v, f, _, _, A, n, c, xs, _, d1, d2, _⟩ := hO.get j _ hj
        rw [d1.now]; exact d2
      · cases hx
    · cases hx
  | oc j =>
    simp only [getSrc] at hx
    split at hx
    · rename_i r t' hj
      cases hx
      obtain ⟨v, f, _, _, A, n, c, xs, _, d1, d2, _⟩ := hO.get j _ hj
      rw [d1.now]; exact d2
    · cases hx
  | bo j c =>
    simp only [getSrc] at hx
    split at hx
    · split at hx
      · split at hx
        · rename_i r t' hj
          cases hx
          obtain ⟨v, f, _, _, A, n, c, xs, _, d1, d2, _⟩ := hO.get _ _ hj
          rw [d1.now]; exact d2
        · cases hx
      · cases hx
    · cases hx
theorem chk_has (h : Rel E w0 ρ σ S a w) {srcs : List Src} {ts : List Tm} {ss : List Srt} (h1 : srcs.map (getSrc S) = (ts.zip ss).map some) (hl : ts.length = ss.length) : All2 (Has E.Δ) ss (ts.map (den E.Δ ρ)) := by
  refine All2.of (by simp [hl]) fun i s d hs hd => ?_
  rw [List.getElem?_map, Option.map_eq_some_iff] at hd
  obtain ⟨t, ht, rfl⟩ := hd
  have e := congrArg (fun l => l[i]?) h1
  simp only [List.getElem?_map] at e
  have hz : (ts.zip ss)[i]? = some (t, s) := by rw [List.getElem?_zip_eq_some]; exact ⟨ht, hs⟩
  rw [hz] at e
  simp only [Option.map_some, Option.map_eq_some_iff] at e
  obtain ⟨x, _, hx⟩ := e
  exact getSrc_has h hx
/-- the state that fits a head stands as the head does -/
theorem chk_ok (h : Rel E w0 ρ' σ' S a w) (hp : ρ <+: ρ') (hq : σ <+: σ') (hpre : E.γ <+: ρ) {srcs : List Src} {ss : List Srt} {ts : List Tm} (hc : chk ρ.length σ.length srcs ss ts H S = true) :
    All2 (Has E.Δ) ss (ts.map (den E.Δ ρ')) ∧ ∃ σx, Rel E w0 (ρ ++ ts.map (den E.Δ ρ')) (σ ++ σx) H a w := by
  unfold chk at hc
  simp only [Bool.and_eq_true, decide_eq_true_eq] at hc
  obtain ⟨⟨⟨⟨⟨⟨⟨⟨⟨⟨c1, c2⟩, c3⟩, c4⟩, c5⟩, c6⟩, c7⟩, c8⟩, c9⟩, c10⟩, c11⟩ := hc
  refine ⟨chk_has h c1 c2, ?_⟩
  obtain ⟨L, hO, hM⟩ := h.mem
  generalize hjs : getOws S srcs = js at *
  have hgood : ∀ d ∈ ts.map (den E.Δ ρ'), Good w (AtL ρ') d := fun d hd => by
    obtain ⟨t, _, rfl⟩ := List.mem_map.1 hd
    exact den_good (fun d hd => ⟨h.ok d hd, fun k hk => ⟨d, hd, hk⟩⟩) t
  have hat : ∀ k, AtL (ρ ++ ts.map (den E.Δ ρ')) k → AtL ρ' k := fun k ⟨d, hd, hk⟩ => by
    rcases List.mem_append.1 hd with hd | hd
    · exact ⟨d, hp.subset hd, hk⟩
    · exact (hgood d hd).2 k hk
  have hlen7 := (okLs_get c7).1
  have hown : ∀ (q j : Nat), js[q]? = some j → ∃ h' r i t, H.objs[σ.length + q]? = some h' ∧ h' = .own r (.var i) ∧ S.objs[j]? = some (.own r t) ∧ ρ.length ≤ i ∧ ts[i - ρ.length]? = some t := fun q j hj => by
    have hlt := (List.getElem?_eq_some_iff.1 hj).1
    have hd : q < (H.objs.drop σ.length).length := by omega
    have := (okLs_get c7).2 q _ j (List.getElem?_eq_getElem hd) hj
    have e : H.objs[σ.length + q]? = some (H.objs.drop σ.length)[q] := by rw [← List.getElem?_drop, List.getElem?_eq_getElem hd]
    generalize (H.objs.drop σ.length)[q] = h' at this e
    unfold okOw at this
    split at this
    · rename_i r i r' t hs
      simp only [Bool.and_eq_true, decide_eq_true_eq] at this
      obtain ⟨⟨rfl, t1⟩, t2⟩ := this
      exact ⟨_, r, i, t, e, rfl, hs, t1, t2⟩
    · cases this
  let σx : List Value := js.map fun j => σ'.getD j undef
  have hσ : ∀ (q j : Nat), js[q]? = some j → σx[q]? = σ'[j]? := fun q j hj => by
    obtain ⟨_, r, i, t, _, _, hs, _⟩ := hown q j hj
    obtain ⟨v, f, h1, _⟩ := hO.get j _ hs
    simp [σx, hj, h1]
  let p : Nat → Option Nat := fun i => if i < σ.length then (if isDead H.objs[i]? then none else some i) else js[i - σ.length]?
  let Ln : List Fact := (List.range σ.length).map (fun i => if isDead H.objs[i]? then deadF else L.getD i deadF) ++ js.map fun j => L.getD j deadF
  have hsl : σ.length ≤ σ'.length := hq.length_le
  have hLl := hO.l2
  have hHlen : H.objs.length = σ.length + js.length := by
    have h6 := (okLs_get c6).1
    simp only [List.length_take, List.length_drop] at h6 hlen7
    omega
  refine ⟨σx, ?_, h.defers, ?_, ?_, ⟨Ln, ⟨by simp [hHlen, σx], by simp [Ln, σx], fun j o ho => ?_⟩, ?_⟩, ?_, fun k hk => h.reach k (hat k hk)⟩
  · obtain ⟨k1, k2⟩ := okLs_get c4
    refine All2.of (k1.trans h.slots.length) fun i x v hx hv => ?_
    obtain ⟨y, hy, hyv⟩ := h.slots.get2 hv
    exact okA_ok hp hq hσ (k2 i x y hx hy) hyv
  · rw [c3]; simp
  · intro x hx
    have hb := List.all_eq_true.1 c10 x hx
    have hmem : x ∈ S.known := by rw [← c11] at hx; exact List.mem_of_mem_drop hx
    exact ((h.known x hmem).down hp hb).more _
  · by_cases hj : j < σ.length
    · obtain ⟨k1, k2⟩ := okLs_get c6
      have hso : j < (S.objs.take σ.length).length := by
        simp only [List.length_take]; omega
      have hg := k2 j o _ (by rw [List.getElem?_take, if_pos hj]; exact ho) (List.getElem?_eq_getElem hso)
      have hse : S.objs[j]? = some (S.objs.take σ.length)[j] := by
        rw [← List.getElem?_eq_getElem hso, List.getElem?_take, if_pos hj]
      generalize (S.objs.take σ.length)[j] = so at hg hse
      obtain ⟨v, f, h1, h2, h3⟩ := hO.get j so hse
      have hσj : (σ ++ σx)[j]? = some v := by rw [List.getElem?_append_left hj]; exact get_down hq hj h1
      have hLn : Ln[j]? = some (if isDead H.objs[j]? then deadF else f) := by
        simp only [Ln]
        rw [List.getElem?_append_left (by simpa using hj), List.getElem?_map, List.getElem?_range hj]
        simp [h2]
      unfold okO at hg
      split at hg
      · exact ⟨v, deadF, hσj, by rw [hLn, ho]; rfl, rfl⟩
      · simp only [decide_eq_true_eq] at hg
        subst hg
        exact ⟨v, f, hσj, by rw [hLn, ho]; rfl, h3⟩
      · rename_i cs ty
        split at hg
        · rename_i cs' ty'
          simp only [Bool.and_eq_true, decide_eq_true_eq] at hg
          obtain ⟨rfl, hg⟩ := hg
          obtain ⟨b, vs, g1, g2, g3⟩ := h3
          exact ⟨v, f, hσj, by rw [hLn, ho]; rfl, b, vs, g1, okCs_ok hp hq hσ hg g2, g3⟩
        · cases hg
      · rename_i r t
        rw [Bool.or_eq_true] at hg
        rcases hg with hg | hg
        · simp only [Bool.and_eq_true, decide_eq_true_eq] at hg
          obtain ⟨hb, rfl⟩ := hg
          obtain ⟨A, n, c, xs, g1, g2, g3⟩ := h3
          exact ⟨v, f, hσj, by rw [hLn, ho]; rfl, A, n, c, xs, g1, (g2.down hp hb).more _, g3⟩
        · split at hg
          · rename_i i r' t'
            simp only [Bool.and_eq_true, decide_eq_true_eq] at hg
            obtain ⟨⟨rfl, i1⟩, i2⟩ := hg
            obtain ⟨A, n, c, xs, g1, g2, g3⟩ := h3
            exact ⟨v, f, hσj, by rw [hLn, ho]; rfl, A, n, c, xs, g1, Den.loopVar i1 i2 g2, g3⟩
          · cases hg
    · have hjl := (List.getElem?_eq_some_iff.1 ho).1
      obtain ⟨q, rfl⟩ : ∃ q, j = σ.length + q := ⟨j - σ.length, by omega⟩
      have hqlt : q < js.length := by omega
      obtain ⟨h', r, i, t, e1, e2, e3, e4, e5⟩ := hown q js[q] (List.getElem?_eq_getElem hqlt)
      rw [e1] at ho
      cases ho
      subst e2
      obtain ⟨v, f, g1, g2, A, n, c, xs, k1, k2, k3, k4, k5⟩ := hO.get _ _ e3
      refine ⟨v, f, ?_, ?_, A, n, c, xs, k1, Den.loopVar e4 e5 k2, k3, k4, k5⟩
      · rw [List.getElem?_append_right (by omega), Nat.add_sub_cancel_left, hσ q _ (List.getElem?_eq_getElem hqlt)]; exact g1
      · simp only [Ln]
        rw [List.getElem?_append_right (by simp), List.length_map, List.length_range, Nat.add_sub_cancel_left, List.getElem?_map, List.getElem?_eq_getElem hqlt]
        simp [g2]
  · have hbase : (baseF E (ρ ++ ts.map (den E.Δ ρ'))).holds w0.heap.size w := by
      refine ⟨⟨fun d hd => ?_, h.globs⟩, baseFirm _ _⟩
      rcases List.mem_append.1 hd with hd | hd
      · exact h.ok d (hp.subset hd)
      · exact (hgood d hd).1
    refine hM.pick p hbase rfl (fun k hk => .inl ?_) (fun i f hf => ?_) (fun i i' q h1 h2 => ?_)
    · rcases hk with hk | hk
      · exact .inl (hat k hk)
      · exact .inr hk
    · by_cases hi : i < σ.length
      · simp only [Ln] at hf
        rw [List.getElem?_append_left (by simpa using hi), List.getElem?_map, List.getElem?_range hi] at hf
        simp only [Option.map_some, Option.some.injEq] at hf
        by_cases hd : isDead H.objs[i]? = true
        · rw [if_pos hd] at hf; exact .inl hf.symm
        · rw [if_neg hd] at hf
          refine .inr ⟨i, by simp only [p]; rw [if_pos hi, if_neg hd], ?_⟩
          have hiL : i < L.length := by omega
          rw [List.getD_eq_getElem?_getD, List.getElem?_eq_getElem hiL] at hf
          rw [List.getElem?_eq_getElem hiL]
          simpa using hf
      · have hlt := (List.getElem?_eq_some_iff.1 hf).1
        simp only [Ln, List.length_append, List.length_map, List.length_range] at hlt
        obtain ⟨q, rfl⟩ : ∃ q, i = σ.length + q := ⟨i - σ.length, by omega⟩
        have hqlt : q < js.length := by omega
        simp only [Ln] at hf
        rw [List.getElem?_append_right (by simp), List.length_map, List.length_range, Nat.add_sub_cancel_left, List.getElem?_map, List.getElem?_eq_getElem hqlt] at hf
        obtain ⟨_, r, i, t, _, _, e3, _⟩ := hown q js[q] (List.getElem?_eq_getElem hqlt)
        obtain ⟨v, f', g1, g2, _⟩ := hO.get _ _ e3
        refine .inr ⟨js[q], by simp only [p]; rw [if_neg (by omega), Nat.add_sub_cancel_left]; exact List.getElem?_eq_getElem hqlt, ?_⟩
        simp [g2] at hf
        rw [g2, hf]
    · have hlive : ∀ {i j : Nat}, js[i]? = some j → ∀ i', i' < σ.length → ¬ isDead H.objs[i']? = true → i' ≠ j := fun {i j} hj i' hi' hnd e => by
        subst e
        have := List.all_eq_true.1 c9 i' (List.mem_of_getElem? hj)
        simp only [Bool.or_eq_true, decide_eq_true_eq] at this
        rcases this with h | h
        · omega
        · exact hnd h
      simp only [p] at h1 h2
      by_cases hi : i < σ.length <;> by_cases hi' : i' < σ.length
      · rw [if_pos hi] at h1; rw [if_pos hi'] at h2
        by_cases hd : isDead H.objs[i]? = true
        · rw [if_pos hd] at h1; cases h1
        · by_cases hd' : isDead H.objs[i']? = true
          · rw [if_pos hd'] at h2; cases h2
          · rw [if_neg hd] at h1; rw [if_neg hd'] at h2
            cases h1; cases h2; rfl
      · rw [if_pos hi] at h1; rw [if_neg hi'] at h2
        by_cases hd : isDead H.objs[i]? = true
        · rw [if_pos hd] at h1; cases h1
        · rw [if_neg hd] at h1; cases h1
          exact (hlive h2 i hi hd rfl).elim
      · rw [if_neg hi] at h1; rw [if_pos hi'] at h2
        by_cases hd : isDead H.objs[i']? = true
        · rw [if_pos hd] at h2; cases h2
        · rw [if_neg hd] at h2; cases h2
          exact (hlive h1 i' hi' hd rfl).elim
      · rw [if_neg hi] at h1; rw [if_neg hi'] at h2
        have hn := List.pairwise_iff_getElem.1 c8
        obtain ⟨b1, e1⟩ := List.getElem?_eq_some_iff.1 h1
        obtain ⟨b2, e2⟩ := List.getElem?_eq_some_iff.1 h2
        rcases Nat.lt_trichotomy (i - σ.length) (i' - σ.length) with hlt | heq | hlt
        · exact (hn _ _ b1 b2 hlt (by rw [e1, e2])).elim
        · omega
        · exact (hn _ _ b2 b1 hlt (by rw [e1, e2])).elim
  · exact hpre.trans (List.prefix_append _ _)
end
end Go.Proofs.YtcigbgpdikadpaaDoor
end
