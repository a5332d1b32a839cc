/-
  A region that draws its order, with calls that make memory and hand back what lies there: one walk serves every order, where each operation that only reads comes as soon as it may, and the calls wait for one another.
-/
import Derived.Test.YtonjilfbcofoaaaDoorKitA
import Derived.OrdersHeld
import Derived.Deep.RegionHeld3
namespace Go.Proofs.YtonjilfbcofoaaaDoor
open Go.RowKit

def Lat (w : World) : World → Prop := fun w' => ∃ x, w' = later w x
theorem Lat.self (w : World) : Lat w w := ⟨⟨w, Below.refl _ _⟩, rfl⟩
theorem Lat.below {w w' : World} (h : Lat w w') : Below w.heap.size w w' := by obtain ⟨x, rfl⟩ := h; exact x.below
theorem Lat.of {w w' : World} (h : Below w.heap.size w w') : Lat w w' := ⟨⟨w', h⟩, rfl⟩
theorem Lat.trans {w w' w'' : World} (h : Lat w w') (k : Lat w' w'') : Lat w w'' := .of (h.below.trans (k.below.mono h.below.size))

/-- an operation that is no call of a function: it yields a value, or nothing -/
def plainOp : Op → Bool
  | .move _ | .assign _ | .pick .. | .load .. | .binOp .. | .unOp .. | .convert .. | .makeInterface .. | .slice .. | .fieldAddr .. | .field .. | .indexAddr .. | .index .. | .extract .. | .typeAssert .. => true
  | .call { callee := .builtin .len, .. } | .call { callee := .builtin .cap, .. } | .call { callee := .builtin .min, .. } | .call { callee := .builtin .max, .. } => true
  | _ => false

section
variable {P : Program} {ops : Array Oper} {md : Region.Mode}

/-- in every world that may be by then, the operation leaves v and does nothing else -/
def YieldsE (P : Program) (ops : Array Oper) (w : World) (o : Oper) (v : Value) (a : Act) : Prop :=
  (Region.wanted o (yielded ops a.tmps) = true ∧ ∀ w', Lat w w' → ((execOp a.eval o).run P w' = .ok (.value v) w' ∨ ((execOp a.eval o).run P w' = .ok .skip w' ∧ v = undef))) ∨
  (Region.wanted o (yielded ops a.tmps) = false ∧ v = undef)

theorem YieldsE.later {w w' : World} {o : Oper} {v : Value} {a : Act} (h : YieldsE P ops w o v a) (hw : Lat w w') : YieldsE P ops w' o v a :=
  h.imp (fun ⟨h1, h2⟩ => ⟨h1, fun w'' hw'' => h2 w'' (hw.trans hw'')⟩) id

theorem YieldsE.wpOp {i : Nat} {o : Oper} {v : Value} {a : Act} {Q : Exit → Act → World → Prop} (hi : ops[i]? = some o) {w : World} (hy : YieldsE P ops w o v a)
    {K : Act → World → Prop} (h : K (a.put o.dst v) w) : wpOp P ops Q i K a w := by
  unfold Go.wpOp
  simp only [hi]
  rcases hy with ⟨hw, hv⟩ | ⟨hw, rfl⟩
  · rcases hv w (Lat.self w) with e | ⟨e, rfl⟩
    · simp only [hw, if_true, Oper.wp, e, Oper.upon]; exact .inl h
    · simp only [hw, if_true, Oper.wp, e, Oper.upon]; exact .inl h
  · simp only [hw, Bool.false_eq_true, if_false]; exact h

theorem YieldsE.of_same {o : Oper} {v : Value} {a a' : Act} {w : World} (hy : YieldsE P ops w o v a) (he : execOp a'.eval o = execOp a.eval o)
    (hw : Region.wanted o (yielded ops a'.tmps) = Region.wanted o (yielded ops a.tmps)) : YieldsE P ops w o v a' := by
  unfold YieldsE at *
  rw [he, hw]
  exact hy

/-- the post that no panic meets -/
def calm (Q : Act → World → Prop) : Exit → Act → World → Prop
  | .normal, a, w => Q a w
  | _, _, _ => False

theorem wpOp_putE {Q : Act → World → Prop} {j : Nat} {oi oj : Oper} {v : Value} (hj : ops[j]? = some oj) (hap : oi.apart ops oj = true)
    (hsi : ∀ cs b, oi.op ≠ .select cs b) (hsj : ∀ cs b, oj.op ≠ .select cs b) {K : Act → World → Prop} {a : Act} {w : World}
    (hy : YieldsE P ops w oi v a) (h : wpOp P ops (calm Q) j K (a.put oi.dst v) w) :
    wpOp P ops (calm Q) j (fun a' w' => YieldsE P ops w oi v a' ∧ K (a'.put oi.dst v) w') a w := by
  obtain ⟨h1, h2, h3⟩ := Oper.apart_spec hap
  have keep : ∀ (a : Act), YieldsE P ops w oi v a → ∀ u, YieldsE P ops w oi v (a.put oj.dst u) := fun a hy u =>
    hy.of_same (execOp_put oi hsi a oj.dst u h3) (wanted_put oi a oj.dst u h3)
  have keepD : ∀ d, YieldsE P ops w oi v { a with defers := d :: a.defers } := fun d => hy.of_same rfl rfl
  unfold wpOp at *
  simp only [hj] at *
  rw [wanted_put oj a oi.dst v h1] at h
  split
  · rename_i hw
    simp only [hw, if_true] at h
    rcases h with h | ⟨hasks, hlets⟩
    case inr => exact .inr ⟨by unfold Oper.asks at *; rw [execOp_put oj hsj a oi.dst v h1] at hasks; exact hasks, hlets⟩
    refine .inl ?_
    unfold Oper.wp at *
    rw [execOp_put oj hsj a oi.dst v h1] at h
    generalize (execOp a.eval oj).run P w = r at *
    cases r with
    | ok n w' =>
      cases n <;> simp only [Oper.upon] at h ⊢
      case value u => exact ⟨keep a hy u, by rw [← Act.put_comm a v u h2]; exact h⟩
      case skip => exact ⟨keep a hy _, by rw [← Act.put_comm a v undef h2]; exact h⟩
      case defer d =>
        refine ⟨keep _ (keepD d) _, ?_⟩
        rw [← Act.put_comm _ v undef h2, ← Act.put_defers]
        exact h
      case enter f args =>
        refine Calls.mono h fun e w'' he => ?_
        cases e with
        | returned u => exact ⟨keep a hy u, by rw [← Act.put_comm a v u h2]; exact he⟩
        | panicked c => exact he
        | outgrown => exact he
      case row row args => exact Rows.mono h fun u w'' he => ⟨keep a hy u, by rw [← Act.put_comm a v u h2]; exact he⟩
    | halt x w' =>
      cases x <;> simp only [Oper.upon] at h ⊢
      case panic u => exact h
  · rename_i hw
    simp only [hw] at h
    exact ⟨keep a hy _, by rw [← Act.put_comm a v undef h2]; exact h⟩

/-- whatever order is picked from here on; each operation leaves what was there -/
def wpAnyE (P : Program) (md : Region.Mode) (ops : Array Oper) (Q : Act → World → Prop) : Nat → Array Bool → Act → World → Prop
  | 0, listed, a, w => Region.ready md ops listed = [] ∧ Q a w
  | fuel + 1, listed, a, w =>
    (Region.ready md ops listed = [] → Q a w) ∧
    ∀ i ∈ Region.ready md ops listed, wpOp P ops (calm Q) i (fun a' w' => Lat w w' ∧ wpAnyE P md ops Q fuel (listed.setIfInBounds i true) a' w') a w

theorem wpAny_of_E {Q : Act → World → Prop} : ∀ (fuel : Nat) (listed : Array Bool) (a : Act) (w : World), wpAnyE P md ops Q fuel listed a w → wpAny P md ops (calm Q) fuel listed a w
  | 0, _, _, _, h => h
  | fuel + 1, _, _, _, h => ⟨h.1, fun i hi => wpOp_mono (fun a' w' h' => wpAny_of_E fuel _ a' w' h'.2) (h.2 i hi)⟩

theorem wpAnyE_first {Q : Act → World → Prop} {i : Nat} {oi : Oper} {v : Value} (hi : ops[i]? = some oi) (hsel : ∀ (j : Nat) (o : Oper) cs b, ops[j]? = some o → o.op ≠ .select cs b) :
    ∀ (fuel : Nat) (listed : Array Bool) (a : Act) (w : World),
      (∀ j oj, ops[j]? = some oj → j ≠ i → listed.getD j true = false → (∀ e ∈ oj.after, Region.binds md e = true → e.on ≠ i) → oi.apart ops oj = true) →
      i ∈ Region.ready md ops listed → YieldsE P ops w oi v a →
      wpAnyE P md ops Q fuel (listed.setIfInBounds i true) (a.put oi.dst v) w → wpAnyE P md ops Q (fuel + 1) listed a w := by
  intro fuel
  induction fuel with
  | zero =>
    intro listed a w hfree hr hy H
    refine ⟨fun h => (by rw [h] at hr; cases hr), fun j hj => ?_⟩
    by_cases hji : j = i
    · subst hji; exact hy.wpOp hi ⟨Lat.self w, H⟩
    · have := ready_mono hj hji
      rw [H.1] at this
      cases this
  | succ fuel ih =>
    intro listed a w hfree hr hy H
    refine ⟨fun h => (by rw [h] at hr; cases hr), fun j hj => ?_⟩
    by_cases hji : j = i
    · subst hji; exact hy.wpOp hi ⟨Lat.self w, H⟩
    · have h1 := H.2 j (ready_mono hj hji)
      obtain ⟨hjun, oj, hoj, hall⟩ := mem_ready.1 hj
      have hnot : ∀ e ∈ oj.after, Region.binds md e = true → e.on ≠ i := fun e he hb heq => by
        have h1 := hall e he hb
        have h0 := (mem_ready.1 hr).1
        rw [heq] at h1
        rcases Nat.lt_or_ge i listed.size with h' | h'
        · simp [h'] at h0 h1; rw [h0] at h1; cases h1
        · simp [Array.getElem?_eq_none h'] at h1
      have h2 := wpOp_putE hoj (hfree j oj hoj hji hjun hnot) (fun cs b => hsel i oi cs b hi) (fun cs b => hsel j oj cs b hoj) hy h1
      have hfree' : ∀ k ok, ops[k]? = some ok → k ≠ i → (listed.setIfInBounds j true).getD k true = false →
          (∀ e ∈ ok.after, Region.binds md e = true → e.on ≠ i) → oi.apart ops ok = true := fun k ok hk hki hun hno => by
        refine hfree k ok hk hki ?_ hno
        by_cases hjk : j = k
        · subst hjk; exact hjun
        · rw [getD_set_ne true hjk] at hun; exact hun
      refine wpOp_mono (fun a' w' h3 => ⟨h3.2.1, ih (listed.setIfInBounds j true) a' w' hfree' (ready_mono hr (Ne.symm hji)) (h3.1.later h3.2.1) ?_⟩) h2
      rw [Array.setIfInBounds_comm _ _ hji]
      exact h3.2.2

/-- the walk: (true, i): operation i only reads; (false, i): it is a call, and no other may come up -/
def wpE (P : Program) (ops : Array Oper) (Q : Act → World → Prop) : List (Bool × Nat) → Act → World → Prop
  | [], a, w => Q a w
  | (true, i) :: rest, a, w => ∃ o, ops[i]? = some o ∧ wpQuiet P ops (fun w' => ∃ x, w' = later w x) (fun a' => wpE P ops Q rest a' w) [o] a
  | (false, i) :: rest, a, w => ∃ o, ops[i]? = some o ∧ if Region.wanted o (yielded ops a.tmps) then o.wp P a w (fun a' w' => Lat w w' ∧ wpE P ops Q rest a' w') (calm Q) else wpE P ops Q rest (a.put o.dst undef) w

def orderB (md : Region.Mode) (ops : Array Oper) : List (Bool × Nat) → Array Bool → Bool
  | [], listed => (Region.ready md ops listed).isEmpty
  | (true, i) :: rest, listed => (Region.ready md ops listed).contains i && Region.free md ops listed i && ((ops[i]?).map fun o => plainOp o.op).getD false && orderB md ops rest (listed.setIfInBounds i true)
  | (false, i) :: rest, listed => (Region.ready md ops listed == [i]) && orderB md ops rest (listed.setIfInBounds i true)

theorem plain_run {o : Oper} (h : plainOp o.op = true) (ρ : Operand → Value) (w w' : World) (n : Next) (hr : (execOp ρ o).run P w = .ok n w') : (∃ v, n = .value v) ∨ n = .skip := by
  have key : ∀ (s : Sem Value), (Sem.run P (do pure (Next.value (← s))) w = .ok n w') → ∃ v, n = .value v := fun s hs => by
    rw [Sem.run_bind] at hs
    cases hq : Sem.run P s w with
    | ok v w2 => rw [hq] at hs; simp at hs; exact ⟨v, hs.1.symm⟩
    | halt x w2 => rw [hq] at hs; simp [Result.andThen] at hs
  obtain ⟨dst, op, type, pos, after, guard⟩ := o
  cases op <;> simp only [plainOp, Bool.false_eq_true] at h <;> simp only [execOp] at hr
  all_goals try (exact .inl (key _ hr))
  case move => simp at hr; exact .inl ⟨_, hr.1.symm⟩
  case assign => simp at hr; exact .inl ⟨_, hr.1.symm⟩
  case pick c x y =>
    rw [Sem.run_bind] at hr
    cases hq : Sem.run P (asBool (ρ c)) w with
    | ok v w2 => rw [hq] at hr; simp at hr; exact .inl ⟨_, hr.1.symm⟩
    | halt x w2 => rw [hq] at hr; simp [Result.andThen] at hr
  case call c =>
    obtain ⟨callee, args, argTypes⟩ := c
    cases callee with
    | value f => simp at h
    | invoke r m => simp at h
    | builtin b =>
      cases b <;> simp at h <;> simp [resolve, invoke, builtin] at hr
      all_goals exact .inl (key _ (by simpa using hr))

theorem wpAnyE_of {Q : Act → World → Prop} (hs : Region.noSelect ops = true) : ∀ (l : List (Bool × Nat)) (listed : Array Bool) (a : Act) (w : World),
    orderB md ops l listed = true → wpE P ops Q l a w → wpAnyE P md ops Q l.length listed a w
  | [], listed, a, w, hB, h => ⟨by simpa [orderB] using hB, h⟩
  | (true, i) :: rest, listed, a, w, hB, h => by
    simp only [orderB, Bool.and_eq_true] at hB
    obtain ⟨⟨⟨hr, hf⟩, hp⟩, hB'⟩ := hB
    obtain ⟨o, ho, hq⟩ := h
    simp only [ho, Option.map_some, Option.getD_some] at hp
    simp only [wpQuiet] at hq
    have hY : ∃ v, YieldsE P ops w o v a ∧ wpE P ops Q rest (a.put o.dst v) w := by
      by_cases hw : Region.wanted o (yielded ops a.tmps) = true
      · rw [if_pos hw] at hq
        obtain ⟨v, hv, hK⟩ := hq
        refine ⟨v, .inl ⟨hw, fun w' hw' => ?_⟩, hK⟩
        have h1 := hv w' hw'
        unfold Oper.quietAt at h1
        cases hrun : (execOp a.eval o).run P w' with
        | ok n w'' =>
          rw [hrun] at h1
          rcases plain_run hp _ _ _ _ hrun with ⟨u, rfl⟩ | rfl
          · obtain ⟨e1, e2⟩ := h1; subst e1 e2; exact .inl rfl
          · obtain ⟨e1, e2⟩ := h1; subst e1 e2; exact .inr ⟨rfl, rfl⟩
        | halt x w'' => rw [hrun] at h1; exact h1.elim
      · rw [if_neg hw] at hq
        exact ⟨undef, .inr ⟨by simpa using hw, rfl⟩, hq⟩
    obtain ⟨v, hy, hK⟩ := hY
    exact wpAnyE_first ho (Region.noSelect_spec hs) rest.length listed a w (Region.free_spec ho hf) (by simpa using hr) hy (wpAnyE_of hs rest _ _ _ hB' hK)
  | (false, i) :: rest, listed, a, w, hB, h => by
    simp only [orderB, Bool.and_eq_true, beq_iff_eq] at hB
    obtain ⟨hr, hB'⟩ := hB
    obtain ⟨o, ho, hq⟩ := h
    refine ⟨fun h0 => (by rw [hr] at h0; cases h0), fun j hj => ?_⟩
    rw [hr] at hj
    obtain rfl : j = i := by simpa using hj
    unfold wpOp
    simp only [ho]
    split
    · rename_i hw
      rw [if_pos hw] at hq
      refine .inl ?_
      unfold Oper.wp at *
      generalize (execOp a.eval o).run P w = r at *
      cases r with
      | ok n w' =>
        cases n <;> simp only [Oper.upon] at hq ⊢
        case value u => exact ⟨hq.1, wpAnyE_of hs rest _ _ _ hB' hq.2⟩
        case skip => exact ⟨hq.1, wpAnyE_of hs rest _ _ _ hB' hq.2⟩
        case defer d => exact ⟨hq.1, wpAnyE_of hs rest _ _ _ hB' hq.2⟩
        case enter f args =>
          refine Calls.mono hq fun e w'' he => ?_
          cases e with
          | returned u => exact ⟨he.1, wpAnyE_of hs rest _ _ _ hB' he.2⟩
          | panicked c => exact he
          | outgrown => exact he
        case row row args => exact Rows.mono hq fun u w'' he => ⟨he.1, wpAnyE_of hs rest _ _ _ hB' he.2⟩
      | halt x w' =>
        cases x <;> simp only [Oper.upon] at hq ⊢
        case panic u => exact hq
    · rename_i hw
      rw [if_neg hw] at hq
      exact ⟨Lat.self w, wpAnyE_of hs rest _ _ _ hB' hq⟩

/-- one walk serves every order -/
theorem wp_region_E {id : Nat} {Q : Exit → Act → World → Prop} {a : Act} {w : World} (l : List (Bool × Nat)) (hm : P.follows .mixedOrders = true) (hs : Region.noSelect ops = true)
    (hl : l.length = ops.size) (hB : orderB .any ops l (Array.replicate ops.size false) = true)
    (h : wpE P ops (fun a' w' => Q .normal a' w') l a w.drew) : (Code.region id ops true).wp P Q a w := by
  refine Code.wp_mono (Q := calm (fun a' w' => Q .normal a' w')) (fun e a w h => ?_) (wp_region_any hm (wpAny_of_E _ _ _ _ ?_))
  · cases e <;> first | exact h | exact h.elim
  · rw [← hl]
    exact wpAnyE_of hs l _ _ _ (by rw [hl]; exact hB) h

def nth {α : Type} : List α → Nat → Option α
  | [], _ => none
  | x :: _, 0 => some x
  | _ :: l, n + 1 => nth l n
theorem nth_eq {α : Type} : ∀ (l : List α) (i : Nat), l.toArray[i]? = nth l i
  | [], i => by simp [nth]
  | x :: l, 0 => by simp [nth]
  | x :: l, i + 1 => by have := nth_eq l i; simp [nth] at *; exact this

theorem wpE_quiet {os : List Oper} {Q : Act → World → Prop} {i : Nat} {rest : List (Bool × Nat)} {a : Act} {w : World} {o : Oper} (ho : nth os i = some o)
    (h : wpQuiet P os.toArray (fun w' => ∃ x, w' = later w x) (fun a' => wpE P os.toArray Q rest a' w) [o] a) : wpE P os.toArray Q ((true, i) :: rest) a w := ⟨o, (nth_eq os i).trans ho, h⟩
theorem wpE_skip {os : List Oper} {Q : Act → World → Prop} {i : Nat} {rest : List (Bool × Nat)} {a : Act} {w : World} {o : Oper} (ho : nth os i = some o) (hw : Region.wanted o (yielded os.toArray a.tmps) = false)
    (h : wpE P os.toArray Q rest (a.put o.dst undef) w) : wpE P os.toArray Q ((false, i) :: rest) a w := ⟨o, (nth_eq os i).trans ho, by rw [if_neg (by rw [hw]; exact Bool.false_ne_true)]; exact h⟩
theorem wpE_event {os : List Oper} {Q : Act → World → Prop} {i : Nat} {rest : List (Bool × Nat)} {a : Act} {w : World} {o : Oper} (ho : nth os i = some o) (hw : Region.wanted o (yielded os.toArray a.tmps) = true)
    (h : ∀ K : Act → World → Prop, (∀ a' w', Lat w w' → wpE P os.toArray Q rest a' w' → K a' w') → o.wp P a w K (calm Q)) : wpE P os.toArray Q ((false, i) :: rest) a w :=
  ⟨o, (nth_eq os i).trans ho, by rw [if_pos hw]; exact h _ (fun _ _ h1 h2 => ⟨h1, h2⟩)⟩
theorem wpE_nil {Q : Act → World → Prop} {a : Act} {w : World} (h : Q a w) : wpE P ops Q [] a w := h

end
end Go.Proofs.YtonjilfbcofoaaaDoor
