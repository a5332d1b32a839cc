/-
  A function's slots and blocks as terms: what it means that they stand for a frame and a memory.
-/
import Derived.Test.YtonjilfbcofoaaaDoorSymA
namespace Go.Proofs.YtonjilfbcofoaaaDoor
open Go.RowKit
set_option linter.unusedVariables false

inductive All2 {α β : Type} (R : α → β → Prop) : List α → List β → Prop where
  | nil : All2 R [] []
  | cons {a : α} {b : β} {l : List α} {m : List β} (h : R a b) (t : All2 R l m) : All2 R (a :: l) (b :: m)
namespace All2
variable {α β : Type} {R R' : α → β → Prop} {l l' : List α} {m m' : List β}
theorem length (h : All2 R l m) : l.length = m.length := by
  induction h with
  | nil => rfl
  | cons _ _ ih => simp [ih]
theorem get (h : All2 R l m) : ∀ {i : Nat} {a : α}, l[i]? = some a → ∃ b, m[i]? = some b ∧ R a b := by
  induction h with
  | nil => intro i a e; cases e
  | cons h _ ih =>
    intro i a e
    cases i with
    | zero => cases e; exact ⟨_, rfl, h⟩
    | succ i => exact ih (i := i) (by simpa using e)
theorem get2 (h : All2 R l m) : ∀ {i : Nat} {b : β}, m[i]? = some b → ∃ a, l[i]? = some a ∧ R a b := by
  induction h with
  | nil => intro i a e; cases e
  | cons h _ ih =>
    intro i a e
    cases i with
    | zero => cases e; exact ⟨_, rfl, h⟩
    | succ i => exact ih (i := i) (by simpa using e)
theorem mono (h : All2 R l m) (f : ∀ a b, R a b → R' a b) : All2 R' l m := by
  induction h with
  | nil => exact .nil
  | cons h _ ih => exact .cons (f _ _ h) ih
theorem set (h : All2 R l m) {a : α} {b : β} (hr : R a b) : ∀ i, All2 R (l.set i a) (m.set i b) := by
  induction h with
  | nil => intro i; exact .nil
  | cons h t ih =>
    intro i
    cases i with
    | zero => exact .cons hr t
    | succ i => exact .cons h (ih i)
theorem append (h : All2 R l m) (k : All2 R l' m') : All2 R (l ++ l') (m ++ m') := by
  induction h with
  | nil => exact k
  | cons h _ ih => exact .cons h ih
theorem one {a : α} {b : β} (h : R a b) : All2 R [a] [b] := .cons h .nil
theorem of (hl : l.length = m.length) (h : ∀ (i : Nat) a b, l[i]? = some a → m[i]? = some b → R a b) : All2 R l m := by
  induction l generalizing m with
  | nil => cases m with
    | nil => exact .nil
    | cons b m => cases hl
  | cons a l ih => cases m with
    | nil => cases hl
    | cons b m => exact .cons (h 0 a b rfl rfl) (ih (by simpa using hl) fun i a b ha hb => h (i + 1) a b (by simpa using ha) (by simpa using hb))
theorem replicate {a : α} {b : β} (h : R a b) : ∀ n, All2 R (List.replicate n a) (List.replicate n b)
  | 0 => .nil
  | n + 1 => .cons h (replicate h n)
end All2

/-- where a pointer points to: an own variable, a package's variable, an element of a slice that is read, one of a slice of the call's own -/
inductive Bs where
  | ob (j : Nat)
  | gl (g : Nat)
  | el (s : Tm) (r : Nat) (i : Tm)
  | oe (j r : Nat) (i : Tm)
  deriving DecidableEq
inductive CP where
  | tm (t : Tm) (s : Srt)
  | ref (b : Bs) (off : Nat) (dyn : List (Tm × Nat × Nat))
  | own (j : Nat)
  | nils
  | sb (b : Bs) (off : Nat) (dyn : List (Tm × Nat × Nat)) (n : Nat)
  deriving DecidableEq
inductive C where
  | unk
  | undef
  | p (x : CP)
  | fn (f : Nat) (caps : List CP)
  deriving DecidableEq
inductive A1 where
  | c (x : C)
  | agg (l : List C)
  deriving DecidableEq
inductive AV where
  | v (x : A1)
  | tup (l : List A1)
  deriving DecidableEq
inductive Ob where
  | blk (cs : List C) (ty : Nat)
  | own (r : Nat) (t : Tm)
  | dead
  deriving DecidableEq
/-- the package's variables -/
structure Env where
  P : Program
  Δ : Tab
  gt : List (Nat × List (Tm × Srt) × Nat)
  γ : List Dat
  old : Nat → Prop
def Srt.one : Srt → Bool
  | .rows _ => false
  | _ => true
def Env.globs (E : Env) (w : World) : Prop := ∀ x ∈ E.gt, ∃ T, Row w x.1 (x.2.1.map fun t => (den E.Δ E.γ t.1).toV).toArray T
structure Env.Wf (E : Env) : Prop where
  srt : ∀ x ∈ E.gt, ∀ t ∈ x.2.1, Has E.Δ t.2 (den E.Δ E.γ t.1) ∧ t.1.bnd E.γ.length = true ∧ t.2.one = true

section
variable (E : Env) (ρ : List Dat) (σ : List Value)
def BsR : Bs → Option Addr → Nat → Prop
  | .ob j, A, p => ∃ b, σ[j]? = some (.pointer (some ⟨b, 0, none⟩)) ∧ A = some ⟨b, 0, none⟩ ∧ p = 0
  | .gl g, A, p => A = some ⟨g, 0, none⟩ ∧ p = 0
  | .el s r i, A, p => ∃ n c xs k, Den E.Δ ρ s (.list (.slice A n c) (E.Δ.row r).length xs) ∧ Has E.Δ (.list r) (.list (.slice A n c) (E.Δ.row r).length xs) ∧ Den E.Δ ρ i (.int .i64 k) ∧ 0 ≤ k ∧ k < xs.length ∧ p = k.toNat * (E.Δ.row r).length
  | .oe j r i, A, p => ∃ n c k, σ[j]? = some (.slice A n c) ∧ Den E.Δ ρ i (.int .i64 k) ∧ 0 ≤ k ∧ k < (n : Int) ∧ p = k.toNat * (E.Δ.row r).length
def DynR : List (Tm × Nat × Nat) → Nat → Prop
  | [], p => p = 0
  | (i, st, m) :: l, p => ∃ k q, Den E.Δ ρ i (.int .i64 k) ∧ 0 ≤ k ∧ k < (m : Int) ∧ DynR l q ∧ p = k.toNat * st + q
def CPR : CP → Value → Prop
  | .tm t s, v => ∃ d, Den E.Δ ρ t d ∧ Has E.Δ s d ∧ v = d.toV ∧ s.one = true
  | .ref b off dyn, v => ∃ A p q, BsR E ρ σ b A p ∧ DynR E ρ dyn q ∧ v = pt A (p + off + q)
  | .own j, v => σ[j]? = some v ∧ ∃ A n c, v = .slice A n c
  | .nils, v => v = .slice none 0 0
  | .sb b off dyn n, v => ∃ A p q m, BsR E ρ σ b A p ∧ DynR E ρ dyn q ∧ n ≤ m ∧ v = .slice (some ((A.getD ⟨0, 0, none⟩).add (p + off + q))) n m
def CR : C → Value → Prop
  | .unk, _ => True
  | .undef, v => v = undef
  | .p x, v => CPR E ρ σ x v
  | .fn f caps, v => ∃ vs, All2 (CPR E ρ σ) caps vs ∧ v = .func (.func f) #[] vs.toArray
def AR : A1 → Value → Prop
  | .c x, v => CR E ρ σ x v
  | .agg l, v => ∃ vs, All2 (CR E ρ σ) l vs ∧ v = .agg vs.toArray
def VR : AV → Value → Prop
  | .v x, v => AR E ρ σ x v
  | .tup l, v => ∃ vs, All2 (AR E ρ σ) l vs ∧ v = .tuple vs.toArray
def ObR : Ob → Value → Fact → Prop
  | .blk cs ty, v, f => ∃ b vs, v = .pointer (some ⟨b, 0, none⟩) ∧ All2 (CR E ρ σ) cs vs ∧ f = .row b vs.toArray ty
  | .own r t, v, f => ∃ A n c xs, v = .slice A n c ∧ Den E.Δ ρ t (.rows xs) ∧ Has E.Δ (.rows r) (.rows xs) ∧ xs.length = n ∧ f = .ow (E.Δ.row r).length v n (flatV xs)
  | .dead, v, f => f = .gen (fun _ => True) (fun _ => False)
structure ObsR (os : List Ob) (L : List Fact) : Prop where
  l1 : os.length = σ.length
  l2 : L.length = σ.length
  get : ∀ (j : Nat) o, os[j]? = some o → ∃ v f, σ[j]? = some v ∧ L[j]? = some f ∧ ObR E ρ σ o v f
end

section
variable {E : Env} {ρ : List Dat} {σ : List Value}
theorem lt_get {α : Type} {l m : List α} {j : Nat} {v : α} (h : l[j]? = some v) : (l ++ m)[j]? = some v := by
  rw [List.getElem?_append_left (List.getElem?_eq_some_iff.1 h).1]; exact h
theorem BsR.more (e : List Dat) (f : List Value) : ∀ {b : Bs} {A : Option Addr} {p : Nat}, BsR E ρ σ b A p → BsR E (ρ ++ e) (σ ++ f) b A p
  | .ob j, _, _, ⟨b, h, r⟩ => ⟨b, lt_get h, r⟩
  | .gl g, _, _, h => h
  | .el s r i, _, _, ⟨n, c, xs, k, h1, h2, h3, r'⟩ => ⟨n, c, xs, k, h1.more e, h2, h3.more e, r'⟩
  | .oe j r i, _, _, ⟨n, c, k, h1, h2, r'⟩ => ⟨n, c, k, lt_get h1, h2.more e, r'⟩
theorem DynR.more (e : List Dat) : ∀ {l : List (Tm × Nat × Nat)} {p : Nat}, DynR E ρ l p → DynR E (ρ ++ e) l p
  | [], _, h => h
  | _ :: l, _, ⟨k, q, h1, h2, h3, h4, h5⟩ => ⟨k, q, h1.more e, h2, h3, DynR.more e h4, h5⟩
theorem CPR.more (e : List Dat) (f : List Value) : ∀ {x : CP} {v : Value}, CPR E ρ σ x v → CPR E (ρ ++ e) (σ ++ f) x v
  | .tm t s, _, ⟨d, h1, r⟩ => ⟨d, h1.more e, r⟩
  | .ref b off dyn, _, ⟨A, p, q, h1, h2, h3⟩ => ⟨A, p, q, h1.more e f, h2.more e, h3⟩
  | .own j, _, ⟨h, r⟩ => ⟨lt_get h, r⟩
  | .nils, _, h => h
  | .sb b off dyn n, _, ⟨A, p, q, m, h1, h2, h3⟩ => ⟨A, p, q, m, h1.more e f, h2.more e, h3⟩
theorem CR.more (e : List Dat) (f : List Value) : ∀ {x : C} {v : Value}, CR E ρ σ x v → CR E (ρ ++ e) (σ ++ f) x v
  | .unk, _, _ => trivial
  | .undef, _, h => h
  | .p x, _, h => CPR.more e f (x := x) h
  | .fn g caps, _, ⟨vs, h, r⟩ => ⟨vs, h.mono fun _ _ h => h.more e f, r⟩
theorem AR.more (e : List Dat) (f : List Value) : ∀ {x : A1} {v : Value}, AR E ρ σ x v → AR E (ρ ++ e) (σ ++ f) x v
  | .c x, _, h => CR.more e f (x := x) h
  | .agg l, _, ⟨vs, h, r⟩ => ⟨vs, h.mono fun _ _ h => h.more e f, r⟩
theorem VR.more (e : List Dat) (f : List Value) : ∀ {x : AV} {v : Value}, VR E ρ σ x v → VR E (ρ ++ e) (σ ++ f) x v
  | .v x, _, h => AR.more e f (x := x) h
  | .tup l, _, ⟨vs, h, r⟩ => ⟨vs, h.mono fun _ _ h => h.more e f, r⟩
theorem ObR.more (e : List Dat) (g : List Value) : ∀ {x : Ob} {v : Value} {f : Fact}, ObR E ρ σ x v f → ObR E (ρ ++ e) (σ ++ g) x v f
  | .blk cs ty, _, _, ⟨b, vs, h1, h2, h3⟩ => ⟨b, vs, h1, h2.mono fun _ _ h => h.more e g, h3⟩
  | .own r t, _, _, ⟨A, n, c, xs, h1, h2, h3⟩ => ⟨A, n, c, xs, h1, h2.more e, h3⟩
  | .dead, _, _, h => h
theorem ObsR.more (e : List Dat) {os : List Ob} {L : List Fact} (h : ObsR E ρ σ os L) : ObsR E (ρ ++ e) σ os L :=
  ⟨h.l1, h.l2, fun j o ho => by obtain ⟨v, f, h1, h2, h3⟩ := h.get j o ho; exact ⟨v, f, h1, h2, by simpa using h3.more e []⟩⟩
theorem ObsR.push {os : List Ob} {L : List Fact} (h : ObsR E ρ σ os L) {o : Ob} {v : Value} {f : Fact} (ho : ObR E ρ (σ ++ [v]) o v f) : ObsR E ρ (σ ++ [v]) (os ++ [o]) (L ++ [f]) :=
  ⟨by simp [h.l1], by simp [h.l2], fun j o' ho' => by
    by_cases hj : j < os.length
    · rw [List.getElem?_append_left hj] at ho'
      obtain ⟨v', f', h1, h2, h3⟩ := h.get j o' ho'
      exact ⟨v', f', lt_get h1, lt_get h2, by simpa using h3.more [] [v]⟩
    · have hje : j = os.length := by
        have := (List.getElem?_eq_some_iff.1 ho').1
        simp at this; omega
      subst hje
      simp at ho'
      subst ho'
      refine ⟨v, f, ?_, ?_, ho⟩
      · rw [h.l1]; simp
      · rw [h.l1, ← h.l2]; simp⟩
theorem ObsR.set {os : List Ob} {L : List Fact} (h : ObsR E ρ σ os L) {j : Nat} {o : Ob} {v : Value} {f : Fact} (hv : σ[j]? = some v) (ho : ObR E ρ σ o v f) : ObsR E ρ σ (os.set j o) (L.set j f) :=
  ⟨by simp [h.l1], by simp [h.l2], fun i o' ho' => by
    rw [List.getElem?_set] at ho'
    have hj := (List.getElem?_eq_some_iff.1 hv).1
    by_cases e : j = i
    · subst e
      rw [if_pos rfl, if_pos (by rw [h.l1]; exact hj)] at ho'
      cases ho'
      exact ⟨v, f, hv, by rw [List.getElem?_set, if_pos rfl, if_pos (by rw [h.l2]; exact hj)], ho⟩
    · rw [if_neg e] at ho'
      obtain ⟨v', f', h1, h2, h3⟩ := h.get i o' ho'
      exact ⟨v', f', h1, by rw [List.getElem?_set, if_neg e]; exact h2, h3⟩⟩
end

structure St where
  slots : List AV
  objs : List Ob
  n : Nat
  known : List (Tm × Bool)

/-- what is known of the data, and of the package's variables -/
def baseF (E : Env) (ρ : List Dat) : Fact := .gen (fun w => OkL w ρ ∧ E.globs w) (fun k => AtL ρ k ∨ ∃ x ∈ E.gt, k = x.1)
theorem baseFirm (E : Env) (ρ : List Dat) : Firm (fun w => OkL w ρ ∧ E.globs w) (fun k => AtL ρ k ∨ ∃ x ∈ E.gt, k = x.1) :=
  ⟨fun w1 w2 o ⟨h1, h2⟩ hg hne => ⟨(firmL ρ).keeps w1 w2 o h1 hg (fun k hk => hne k (.inl hk)), fun x hx =>
      (h2 x hx).imp fun T hT => Fact.keeps (B := 0) (f := .row x.1 _ T) hT hg (fun k hk => hne k (.inr ⟨x, hx, hk⟩))⟩,
   fun w1 ⟨h1, h2⟩ k hk => by
    rcases hk with hk | ⟨x, hx, rfl⟩
    · exact (firmL ρ).lt w1 h1 k hk
    · exact Row.lt (h2 x hx).choose_spec⟩

structure Rel (E : Env) (w0 : World) (ρ : List Dat) (σ : List Value) (S : St) (a : Act) (w : World) : Prop where
  slots : All2 (VR E ρ σ) S.slots a.tmps.toList
  defers : a.defers = []
  n : S.n = ρ.length
  known : ∀ x ∈ S.known, Den E.Δ ρ x.1 (.bool x.2)
  mem : ∃ L, ObsR E ρ σ S.objs L ∧ Mem none w0 w (baseF E ρ :: L)
  pre : E.γ <+: ρ
  reach : ∀ k, AtL ρ k → w0.heap.size ≤ k ∨ E.old k

section
variable {E : Env} {w0 w w' : World} {ρ : List Dat} {σ : List Value} {S : St} {a : Act}
theorem Rel.ok (h : Rel E w0 ρ σ S a w) : OkL w ρ := by
  obtain ⟨L, _, hm⟩ := h.mem
  exact (hm.holds _ List.mem_cons_self).1.1
theorem Rel.globs (h : Rel E w0 ρ σ S a w) : E.globs w := by
  obtain ⟨L, _, hm⟩ := h.mem
  exact (hm.holds _ List.mem_cons_self).1.2
theorem Rel.keep (h : Rel E w0 ρ σ S a w) (hb : Below w.heap.size w w') : Rel E w0 ρ σ S a w' := by
  obtain ⟨L, h1, hm⟩ := h.mem
  exact ⟨h.slots, h.defers, h.n, h.known, ⟨L, h1, hm.keep hb⟩, h.pre, h.reach⟩
theorem Rel.put (h : Rel E w0 ρ σ S a w) {x : AV} {v : Value} (hv : VR E ρ σ x v) (d : Nat) : Rel E w0 ρ σ { S with slots := S.slots.set d x } (a.put (some d) v) w := by
  refine ⟨?_, h.defers, h.n, h.known, h.mem, h.pre, h.reach⟩
  simp only [Act.put, Array.toList_setIfInBounds]
  exact h.slots.set hv d
theorem Rel.ok_den (h : Rel E w0 ρ σ S a w) (t : Tm) : OkD w (den E.Δ ρ t) := (den_good (p := fun k => AtL ρ k) (w := w) (fun d hd => ⟨h.ok d hd, fun k hk => ⟨d, hd, hk⟩⟩) t).1
theorem Rel.known_add (h : Rel E w0 ρ σ S a w) {t : Tm} {b : Bool} (ht : t.bnd S.n = true) (hd : den E.Δ ρ t = .bool b) : Rel E w0 ρ σ { S with known := (t, b) :: S.known } a w :=
  ⟨h.slots, h.defers, h.n, fun x hx => by
    rcases List.mem_cons.1 hx with rfl | hx
    · have := Den.of (Δ := E.Δ) (ρ := ρ) (t := t) (by rw [← h.n]; exact ht)
      rw [hd] at this
      exact this
    · exact h.known x hx, h.mem, h.pre, h.reach⟩
end
end Go.Proofs.YtonjilfbcofoaaaDoor
