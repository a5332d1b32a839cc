/-
  A region that draws its order and writes one block of the call's own: one walk serves every order, where each operation that only reads other blocks comes as soon as it may, and the stores and calls wait for one another.
-/
import Derived.Test.YtonjilfbcofoaaaDoorKitE
import Derived.Test.YtonjilfbcofoaaaDoorKitF
import Derived.Test.YtonjilfbcofoaaaDoorKitP
namespace Go.Proofs.YtonjilfbcofoaaaDoor
open Go.RowKit

/-- a world in which at most new blocks have come, and block bo is another -/
structure Gro (bo : Option Nat) (w : World) where
  to : World
  grown : w.grownBy to bo
instance (bo : Option Nat) (w : World) : Inhabited (Gro bo w) := ⟨⟨w, World.grownBy.refl w bo⟩⟩
def gro (bo : Option Nat) (w : World) (x : Gro bo w) : World := x.to
@[go_sem] theorem gro_cell {bo : Option Nat} {w : World} {x : Gro bo w} {b o : Nat} (h : b < w.heap.size) (hn : some b ≠ bo) : (gro bo w x).cell? ⟨b, o, none⟩ = w.cell? ⟨b, o, none⟩ := cell_grown (p := ⟨b, o, none⟩) x.grown h hn
@[go_sem] theorem gro_cell1 {g : Nat} {w : World} {x : Gro (some g) w} {b o : Nat} (h : b < w.heap.size) (hn : b ≠ g) : (gro (some g) w x).cell? ⟨b, o, none⟩ = w.cell? ⟨b, o, none⟩ := cell_grown (p := ⟨b, o, none⟩) x.grown h (by simpa using hn)
theorem gro_cell' {bo : Option Nat} {w : World} {x : Gro bo w} {p : Addr} (h : p.block < w.heap.size) (hn : some p.block ≠ bo) : (gro bo w x).cell? p = w.cell? p := cell_grown x.grown h hn
def LatG (bo : Option Nat) (w : World) : World → Prop := fun w' => ∃ x, w' = gro bo w x
section
variable {bo : Option Nat}
theorem grown_trans {w w' w'' : World} (h : w.grownBy w' bo) (k : w'.grownBy w'' bo) : w.grownBy w'' bo :=
  ⟨k.os.trans h.os, k.tape.trans h.tape, k.output.trans h.output, Nat.le_trans h.size k.size, fun i hi hne => (k.block i (Nat.lt_of_lt_of_le hi h.size) hne).trans (h.block i hi hne)⟩
theorem LatG.self (w : World) : LatG bo w w := ⟨⟨w, World.grownBy.refl w bo⟩, rfl⟩
theorem LatG.grown {w w' : World} (h : LatG bo w w') : w.grownBy w' bo := by obtain ⟨x, rfl⟩ := h; exact x.grown
theorem LatG.of {w w' : World} (h : w.grownBy w' bo) : LatG bo w w' := ⟨⟨w', h⟩, rfl⟩
theorem LatG.below {w w' : World} (h : Below w.heap.size w w') : LatG bo w w' := .of ⟨h.os, h.tape, h.output, h.size, fun k hk _ => h.block k hk⟩
theorem LatG.trans {w w' w'' : World} (h : LatG bo w w') (k : LatG bo w' w'') : LatG bo w w'' := .of (grown_trans h.grown k.grown)
end

section
variable {P : Program} {ops : Array Oper} {md : Region.Mode} {bo : Option Nat}

/-- in every world that may be by then, the operation leaves v and does nothing else -/
def YieldsG (P : Program) (ops : Array Oper) (bo : Option Nat) (w : World) (o : Oper) (v : Value) (a : Act) : Prop :=
  (Region.wanted o (yielded ops a.tmps) = true ∧ ∀ w', LatG bo w w' → ((execOp a.eval o).run P w' = .ok (.value v) w' ∨ ((execOp a.eval o).run P w' = .ok .skip w' ∧ v = undef))) ∨
  (Region.wanted o (yielded ops a.tmps) = false ∧ v = undef)

theorem YieldsG.later {w w' : World} {o : Oper} {v : Value} {a : Act} (h : YieldsG P ops bo w o v a) (hw : LatG bo w w') : YieldsG P ops bo w' o v a :=
  h.imp (fun ⟨h1, h2⟩ => ⟨h1, fun w'' hw'' => h2 w'' (hw.trans hw'')⟩) id

theorem YieldsG.wpOp {i : Nat} {o : Oper} {v : Value} {a : Act} {Q : Exit → Act → World → Prop} (hi : ops[i]? = some o) {w : World} (hy : YieldsG P ops bo w o v a)
    {K : Act → World → Prop} (h : K (a.put o.dst v) w) : wpOp P ops Q i K a w := by
  unfold Go.wpOp
  simp only [hi]
  rcases hy with ⟨hw, hv⟩ | ⟨hw, rfl⟩
  · rcases hv w (LatG.self w) with e | ⟨e, rfl⟩
    · simp only [hw, if_true, Oper.wp, e, Oper.upon]; exact .inl h
    · simp only [hw, if_true, Oper.wp, e, Oper.upon]; exact .inl h
  · simp only [hw, Bool.false_eq_true, if_false]; exact h

theorem YieldsG.of_same {o : Oper} {v : Value} {a a' : Act} {w : World} (hy : YieldsG P ops bo w o v a) (he : execOp a'.eval o = execOp a.eval o)
    (hw : Region.wanted o (yielded ops a'.tmps) = Region.wanted o (yielded ops a.tmps)) : YieldsG P ops bo w o v a' := by
  unfold YieldsG at *
  rw [he, hw]
  exact hy

theorem wpOp_putG {Q : Act → World → Prop} {j : Nat} {oi oj : Oper} {v : Value} (hj : ops[j]? = some oj) (hap : oi.apart ops oj = true)
    (hsi : ∀ cs b, oi.op ≠ .select cs b) (hsj : ∀ cs b, oj.op ≠ .select cs b) {K : Act → World → Prop} {a : Act} {w : World}
    (hy : YieldsG P ops bo w oi v a) (h : wpOp P ops (calm Q) j K (a.put oi.dst v) w) :
    wpOp P ops (calm Q) j (fun a' w' => YieldsG P ops bo w oi v a' ∧ K (a'.put oi.dst v) w') a w := by
  obtain ⟨h1, h2, h3⟩ := Oper.apart_spec hap
  have keep : ∀ (a : Act), YieldsG P ops bo w oi v a → ∀ u, YieldsG P ops bo w oi v (a.put oj.dst u) := fun a hy u =>
    hy.of_same (execOp_put oi hsi a oj.dst u h3) (wanted_put oi a oj.dst u h3)
  have keepD : ∀ d, YieldsG P ops bo w oi v { a with defers := d :: a.defers } := fun d => hy.of_same rfl rfl
  unfold wpOp at *
  simp only [hj] at *
  rw [wanted_put oj a oi.dst v h1] at h
  split
  · rename_i hw
    simp only [hw, if_true] at h
    rcases h with h | ⟨hasks, hlets⟩
    case inr => exact .inr ⟨by unfold Oper.asks at *; rw [execOp_put oj hsj a oi.dst v h1] at hasks; exact hasks, hlets⟩
    refine .inl ?_
    unfold Oper.wp at *
    rw [execOp_put oj hsj a oi.dst v h1] at h
    generalize (execOp a.eval oj).run P w = r at *
    cases r with
    | ok n w' =>
      cases n <;> simp only [Oper.upon] at h ⊢
      case value u => exact ⟨keep a hy u, by rw [← Act.put_comm a v u h2]; exact h⟩
      case skip => exact ⟨keep a hy _, by rw [← Act.put_comm a v undef h2]; exact h⟩
      case defer d =>
        refine ⟨keep _ (keepD d) _, ?_⟩
        rw [← Act.put_comm _ v undef h2, ← Act.put_defers]
        exact h
      case enter f args =>
        refine Calls.mono h fun e w'' he => ?_
        cases e with
        | returned u => exact ⟨keep a hy u, by rw [← Act.put_comm a v u h2]; exact he⟩
        | panicked c => exact he
        | outgrown => exact he
      case row row args => exact Rows.mono h fun u w'' he => ⟨keep a hy u, by rw [← Act.put_comm a v u h2]; exact he⟩
    | halt x w' =>
      cases x <;> simp only [Oper.upon] at h ⊢
      case panic u => exact h
  · rename_i hw
    simp only [hw] at h
    exact ⟨keep a hy _, by rw [← Act.put_comm a v undef h2]; exact h⟩

/-- whatever order is picked from here on; each operation leaves what was there -/
def wpAnyG (P : Program) (md : Region.Mode) (ops : Array Oper) (bo : Option Nat) (Q : Act → World → Prop) : Nat → Array Bool → Act → World → Prop
  | 0, listed, a, w => Region.ready md ops listed = [] ∧ Q a w
  | fuel + 1, listed, a, w =>
    (Region.ready md ops listed = [] → Q a w) ∧
    ∀ i ∈ Region.ready md ops listed, wpOp P ops (calm Q) i (fun a' w' => LatG bo w w' ∧ wpAnyG P md ops bo Q fuel (listed.setIfInBounds i true) a' w') a w

theorem wpAny_of_G {Q : Act → World → Prop} : ∀ (fuel : Nat) (listed : Array Bool) (a : Act) (w : World), wpAnyG P md ops bo Q fuel listed a w → wpAny P md ops (calm Q) fuel listed a w
  | 0, _, _, _, h => h
  | fuel + 1, _, _, _, h => ⟨h.1, fun i hi => wpOp_mono (fun a' w' h' => wpAny_of_G fuel _ a' w' h'.2) (h.2 i hi)⟩

theorem wpAnyG_first {Q : Act → World → Prop} {i : Nat} {oi : Oper} {v : Value} (hi : ops[i]? = some oi) (hsel : ∀ (j : Nat) (o : Oper) cs b, ops[j]? = some o → o.op ≠ .select cs b) :
    ∀ (fuel : Nat) (listed : Array Bool) (a : Act) (w : World),
      (∀ j oj, ops[j]? = some oj → j ≠ i → listed.getD j true = false → (∀ e ∈ oj.after, Region.binds md e = true → e.on ≠ i) → oi.apart ops oj = true) →
      i ∈ Region.ready md ops listed → YieldsG P ops bo w oi v a →
      wpAnyG P md ops bo Q fuel (listed.setIfInBounds i true) (a.put oi.dst v) w → wpAnyG P md ops bo Q (fuel + 1) listed a w := by
  intro fuel
  induction fuel with
  | zero =>
    intro listed a w hfree hr hy H
    refine ⟨fun h => (by rw [h] at hr; cases hr), fun j hj => ?_⟩
    by_cases hji : j = i
    · subst hji; exact hy.wpOp hi ⟨LatG.self w, H⟩
    · have := ready_mono hj hji
      rw [H.1] at this
      cases this
  | succ fuel ih =>
    intro listed a w hfree hr hy H
    refine ⟨fun h => (by rw [h] at hr; cases hr), fun j hj => ?_⟩
    by_cases hji : j = i
    · subst hji; exact hy.wpOp hi ⟨LatG.self w, H⟩
    · have h1 := H.2 j (ready_mono hj hji)
      obtain ⟨hjun, oj, hoj, hall⟩ := mem_ready.1 hj
      have hnot : ∀ e ∈ oj.after, Region.binds md e = true → e.on ≠ i := fun e he hb heq => by
        have h1 := hall e he hb
        have h0 := (mem_ready.1 hr).1
        rw [heq] at h1
        rcases Nat.lt_or_ge i listed.size with h' | h'
        · simp [h'] at h0 h1; rw [h0] at h1; cases h1
        · simp [Array.getElem?_eq_none h'] at h1
      have h2 := wpOp_putG hoj (hfree j oj hoj hji hjun hnot) (fun cs b => hsel i oi cs b hi) (fun cs b => hsel j oj cs b hoj) hy h1
      have hfree' : ∀ k ok, ops[k]? = some ok → k ≠ i → (listed.setIfInBounds j true).getD k true = false →
          (∀ e ∈ ok.after, Region.binds md e = true → e.on ≠ i) → oi.apart ops ok = true := fun k ok hk hki hun hno => by
        refine hfree k ok hk hki ?_ hno
        by_cases hjk : j = k
        · subst hjk; exact hjun
        · rw [getD_set_ne true hjk] at hun; exact hun
      refine wpOp_mono (fun a' w' h3 => ⟨h3.2.1, ih (listed.setIfInBounds j true) a' w' hfree' (ready_mono hr (Ne.symm hji)) (h3.1.later h3.2.1) ?_⟩) h2
      rw [Array.setIfInBounds_comm _ _ hji]
      exact h3.2.2

/-- the walk: (true, i): operation i only reads; (false, i): it is a call, and no other may come up -/
def wpG (P : Program) (ops : Array Oper) (bo : Option Nat) (Q : Act → World → Prop) : List (Bool × Nat) → Act → World → Prop
  | [], a, w => Q a w
  | (true, i) :: rest, a, w => ∃ o, ops[i]? = some o ∧ wpQuiet P ops (fun w' => ∃ x, w' = gro bo w x) (fun a' => wpG P ops bo Q rest a' w) [o] a
  | (false, i) :: rest, a, w => ∃ o, ops[i]? = some o ∧ if Region.wanted o (yielded ops a.tmps) then o.wp P a w (fun a' w' => LatG bo w w' ∧ wpG P ops bo Q rest a' w') (calm Q) else wpG P ops bo Q rest (a.put o.dst undef) w

theorem wpAnyG_of {Q : Act → World → Prop} (hs : Region.noSelect ops = true) : ∀ (l : List (Bool × Nat)) (listed : Array Bool) (a : Act) (w : World),
    orderB md ops l listed = true → wpG P ops bo Q l a w → wpAnyG P md ops bo Q l.length listed a w
  | [], listed, a, w, hB, h => ⟨by simpa [orderB] using hB, h⟩
  | (true, i) :: rest, listed, a, w, hB, h => by
    simp only [orderB, Bool.and_eq_true] at hB
    obtain ⟨⟨⟨hr, hf⟩, hp⟩, hB'⟩ := hB
    obtain ⟨o, ho, hq⟩ := h
    simp only [ho, Option.map_some, Option.getD_some] at hp
    simp only [wpQuiet] at hq
    have hY : ∃ v, YieldsG P ops bo w o v a ∧ wpG P ops bo Q rest (a.put o.dst v) w := by
      by_cases hw : Region.wanted o (yielded ops a.tmps) = true
      · rw [if_pos hw] at hq
        obtain ⟨v, hv, hK⟩ := hq
        refine ⟨v, .inl ⟨hw, fun w' hw' => ?_⟩, hK⟩
        have h1 := hv w' hw'
        unfold Oper.quietAt at h1
        cases hrun : (execOp a.eval o).run P w' with
        | ok n w'' =>
          rw [hrun] at h1
          rcases plain_run hp _ _ _ _ hrun with ⟨u, rfl⟩ | rfl
          · obtain ⟨e1, e2⟩ := h1; subst e1 e2; exact .inl rfl
          · obtain ⟨e1, e2⟩ := h1; subst e1 e2; exact .inr ⟨rfl, rfl⟩
        | halt x w'' => rw [hrun] at h1; exact h1.elim
      · rw [if_neg hw] at hq
        exact ⟨undef, .inr ⟨by simpa using hw, rfl⟩, hq⟩
    obtain ⟨v, hy, hK⟩ := hY
    exact wpAnyG_first ho (Region.noSelect_spec hs) rest.length listed a w (Region.free_spec ho hf) (by simpa using hr) hy (wpAnyG_of hs rest _ _ _ hB' hK)
  | (false, i) :: rest, listed, a, w, hB, h => by
    simp only [orderB, Bool.and_eq_true, beq_iff_eq] at hB
    obtain ⟨hr, hB'⟩ := hB
    obtain ⟨o, ho, hq⟩ := h
    refine ⟨fun h0 => (by rw [hr] at h0; cases h0), fun j hj => ?_⟩
    rw [hr] at hj
    obtain rfl : j = i := by simpa using hj
    unfold wpOp
    simp only [ho]
    split
    · rename_i hw
      rw [if_pos hw] at hq
      refine .inl ?_
      unfold Oper.wp at *
      generalize (execOp a.eval o).run P w = r at *
      cases r with
      | ok n w' =>
        cases n <;> simp only [Oper.upon] at hq ⊢
        case value u => exact ⟨hq.1, wpAnyG_of hs rest _ _ _ hB' hq.2⟩
        case skip => exact ⟨hq.1, wpAnyG_of hs rest _ _ _ hB' hq.2⟩
        case defer d => exact ⟨hq.1, wpAnyG_of hs rest _ _ _ hB' hq.2⟩
        case enter f args =>
          refine Calls.mono hq fun e w'' he => ?_
          cases e with
          | returned u => exact ⟨he.1, wpAnyG_of hs rest _ _ _ hB' he.2⟩
          | panicked c => exact he
          | outgrown => exact he
        case row row args => exact Rows.mono hq fun u w'' he => ⟨he.1, wpAnyG_of hs rest _ _ _ hB' he.2⟩
      | halt x w' =>
        cases x <;> simp only [Oper.upon] at hq ⊢
        case panic u => exact hq
    · rename_i hw
      rw [if_neg hw] at hq
      exact ⟨LatG.self w, wpAnyG_of hs rest _ _ _ hB' hq⟩

/-- one walk serves every order -/
theorem wp_region_G {id : Nat} {Q : Exit → Act → World → Prop} {a : Act} {w : World} (l : List (Bool × Nat)) (hm : P.follows .mixedOrders = true) (hs : Region.noSelect ops = true)
    (hl : l.length = ops.size) (hB : orderB .any ops l (Array.replicate ops.size false) = true)
    (h : wpG P ops bo (fun a' w' => Q .normal a' w') l a w.drew) : (Code.region id ops true).wp P Q a w := by
  refine Code.wp_mono (Q := calm (fun a' w' => Q .normal a' w')) (fun e a w h => ?_) (wp_region_any hm (wpAny_of_G (bo := bo) _ _ _ _ ?_))
  · cases e <;> first | exact h | exact h.elim
  · rw [← hl]
    exact wpAnyG_of hs l _ _ _ (by rw [hl]; exact hB) h

theorem wpG_quiet {os : List Oper} {Q : Act → World → Prop} {i : Nat} {rest : List (Bool × Nat)} {a : Act} {w : World} {o : Oper} (ho : nth os i = some o)
    (h : wpQuiet P os.toArray (fun w' => ∃ x, w' = gro bo w x) (fun a' => wpG P os.toArray bo Q rest a' w) [o] a) : wpG P os.toArray bo Q ((true, i) :: rest) a w := ⟨o, (nth_eq os i).trans ho, h⟩
theorem wpG_skip {os : List Oper} {Q : Act → World → Prop} {i : Nat} {rest : List (Bool × Nat)} {a : Act} {w : World} {o : Oper} (ho : nth os i = some o) (hw : Region.wanted o (yielded os.toArray a.tmps) = false)
    (h : wpG P os.toArray bo Q rest (a.put o.dst undef) w) : wpG P os.toArray bo Q ((false, i) :: rest) a w := ⟨o, (nth_eq os i).trans ho, by rw [if_neg (by rw [hw]; exact Bool.false_ne_true)]; exact h⟩
theorem wpG_event {os : List Oper} {Q : Act → World → Prop} {i : Nat} {rest : List (Bool × Nat)} {a : Act} {w : World} {o : Oper} (ho : nth os i = some o) (hw : Region.wanted o (yielded os.toArray a.tmps) = true)
    (h : ∀ K : Act → World → Prop, (∀ a' w', LatG bo w w' → wpG P os.toArray bo Q rest a' w' → K a' w') → o.wp P a w K (calm Q)) : wpG P os.toArray bo Q ((false, i) :: rest) a w :=
  ⟨o, (nth_eq os i).trans ho, by rw [if_pos hw]; exact h _ (fun _ _ h1 h2 => ⟨h1, h2⟩)⟩
theorem wpG_nil {Q : Act → World → Prop} {a : Act} {w : World} (h : Q a w) : wpG P ops bo Q [] a w := h

end

section
variable {P : Program}
/-- a store into the block that may be another -/
theorem wpG_store {os : List Oper} {Q : Act → World → Prop} {i b k : Nat} {rest : List (Bool × Nat)} {a : Act} {w : World} {o : Oper} {cs : Array Value} {T : TypeId} (hr : Row w b cs T) (ho : nth os i = some o) (hw : Region.wanted o (yielded os.toArray a.tmps) = true)
    (hdst : o.dst = none) (ty : TypeId) (x y : Operand) (hop : o.op = .store ty x y) (hx : a.eval x = .pointer (some ⟨b, k, none⟩)) (v : Value) (hy : a.eval y = v) (hi : k < cs.size) (hs : (P.info? ty).map (·.size) = some 1) (h1 : v.oneCell' = true)
    (h : ∀ w', Stored w w' b (cs.setIfInBounds k v) T → wpG P os.toArray (some b) Q rest a w') : wpG P os.toArray (some b) Q ((false, i) :: rest) a w := by
  refine wpG_event ho hw fun K hK => ?_
  obtain ⟨w', hrun, hst⟩ := run_store_cell (P := P) w b k T ty cs v hr hi hs h1
  unfold Oper.wp execOp
  simp only [hop, hx, hy, Instr.storeAt, Instr.sureAddr, Sem.run_bind, Sem.run_pure, Result.andThen_ok, hrun, Oper.upon, hdst, Act.put]
  exact hK _ _ (LatG.of hst.grown) (h w' hst)
end

section
variable {P : Program}
theorem Row.addr {w : World} {b : Nat} {cs : Array Value} {T : TypeId} (h : Row w b cs T) : ∀ j v, cs[j]? = some v → w.cell? ((⟨b, 0, none⟩ : Addr).add j) = some v := fun j v hv => by
  rw [Addr.add_lit, Nat.zero_add]; exact h.cell hv
/-- a whole row, loaded in a region that draws its order -/
theorem wpE_load {os : List Oper} {Q : Act → World → Prop} {i b : Nat} {rest : List (Bool × Nat)} {a : Act} {w : World} {o : Oper} {cs : Array Value} {T ty : TypeId} {d : TypeDesc} (hr : Row w b cs T) (ho : nth os i = some o) (hw : Region.wanted o (yielded os.toArray a.tmps) = true)
    (x : Operand) (hop : o.op = .load ty x) (hx : a.eval x = .pointer (some ⟨b, 0, none⟩)) (hu : P.underlying ty = some d) (hd : (match d with | .struct _ | .array _ _ => true | _ => false) = true) (hi : (P.info? ty).map (·.size) = some cs.size)
    (h : wpE P os.toArray Q rest (a.put o.dst (.agg cs)) w) : wpE P os.toArray Q ((true, i) :: rest) a w := by
  refine wpE_quiet ho ?_
  simp only [wpQuiet]
  rw [if_pos hw]
  refine ⟨.agg cs, ?_, h⟩
  rintro w' ⟨x', rfl⟩
  have hrun : (execOp a.eval o).run P (later w x') = .ok (.value (.agg cs)) (later w x') := by
    have hl := run_loadVar_cells (P := P) (later w x') ⟨b, 0, none⟩ ty cs d hu hd hi (hr.below x'.below).addr
    unfold execOp
    simp only [hop, hx, Instr.loadAt, Instr.sureAddr, Sem.run_bind, Sem.run_pure, Result.andThen_ok, hl]
  unfold Oper.quietAt
  rw [hrun]
  exact ⟨rfl, rfl⟩
end
end Go.Proofs.YtonjilfbcofoaaaDoor
