/-
  Regions that draw their order: one walk serves every order, where what is read ahead stands in blocks that the region leaves alone.
-/
import Derived.Test.YtonjilfbcofoaaaDoorSymG
namespace Go.Proofs.YtonjilfbcofoaaaDoor
open Go.RowKit
set_option linter.unusedVariables false

/-- a later world, in which blocks outside B are what they were -/
structure Lt (B : Nat → Prop) (w w' : World) : Prop where
  os : w'.os = w.os
  tape : w'.tape = w.tape
  output : w'.output = w.output
  size : w.heap.size ≤ w'.heap.size
  block : ∀ k, k < w.heap.size → ¬ B k → w'.heap[k]? = w.heap[k]?
theorem Lt.refl (B : Nat → Prop) (w : World) : Lt B w w := ⟨rfl, rfl, rfl, Nat.le_refl _, fun _ _ _ => rfl⟩
theorem Lt.trans {B : Nat → Prop} {w w' w'' : World} (h : Lt B w w') (k : Lt B w' w'') : Lt B w w'' :=
  ⟨k.os.trans h.os, k.tape.trans h.tape, k.output.trans h.output, Nat.le_trans h.size k.size, fun i hi hb => (k.block i (Nat.lt_of_lt_of_le hi h.size) hb).trans (h.block i hi hb)⟩
theorem Lt.below {B : Nat → Prop} {w w' : World} (h : Below w.heap.size w w') : Lt B w w' := ⟨h.os, h.tape, h.output, h.size, fun k hk _ => h.block k hk⟩
theorem Lt.grown {B : Nat → Prop} {w w' : World} {o : Option Nat} (h : w.grownBy w' o) (hB : ∀ k, o = some k → B k) : Lt B w w' :=
  ⟨h.os, h.tape, h.output, h.size, fun k hk hb => h.block k hk (fun e => hb (hB k e.symm))⟩

/-- blocks may be changed one after the other -/
theorem lt_split {B : Nat → Prop} {w w' : World} (h : Lt B w w') (q : Nat → Prop) (hq : ∀ k, q k → ¬ B k) : ∀ k, k < w.heap.size → q k → w'.heap[k]? = w.heap[k]? := fun k hk hqk => h.block k hk (hq k hqk)
theorem cell_lt {B : Nat → Prop} {w w' : World} (h : Lt B w w') {p : Addr} (hp : p.block < w.heap.size) (hb : ¬ B p.block) : w'.cell? p = w.cell? p := by
  unfold World.cell?; rw [h.block _ hp hb]
theorem frozen_lt {B : Nat → Prop} {w w' : World} (h : Lt B w w') {p : Addr} (hp : p.block < w.heap.size) (hb : ¬ B p.block) : w'.frozen? p = w.frozen? p := by
  unfold World.frozen?; rw [h.block _ hp hb]
theorem Rd.keepsLt {B : Nat → Prop} {w w' : World} {sz n : Nat} {v : Value} {xs : List Value} (hr : Rd w sz v n xs) (h : Lt B w w') (hk : ∀ k, rdAt v k → ¬ B k) : Rd w' sz v n xs := by
  obtain ⟨A, c, rfl, hc, hl, ha⟩ := hr
  refine ⟨A, c, rfl, hc, hl, fun hn => ?_⟩
  obtain ⟨ad, rfl, hb, hcell⟩ := ha hn
  refine ⟨ad, rfl, Nat.lt_of_lt_of_le hb h.size, fun j u hu => ?_⟩
  rw [cell_lt h (by rw [block_add]; exact hb) (by rw [block_add]; exact hk _ ⟨hn, rfl⟩)]
  exact hcell j u hu
theorem OkD.keepsLt {B : Nat → Prop} {w w' : World} {d : Dat} (h : OkD w d) (hl : Lt B w w') (hne : ∀ k, AtD d k → ¬ B k) : OkD w' d := by
  induction h with
  | int k n => exact .int k n
  | bool b => exact .bool b
  | val v => exact .val v
  | list v sz xs hr _ ih => exact .list v sz xs (hr.keepsLt hl fun k hk => hne k (.here hk)) fun row hrow d hd => ih row hrow d hd fun k hk => hne k (.list hrow hd hk)
  | rows xs _ ih => exact .rows xs fun row hrow d hd => ih row hrow d hd fun k hk => hne k (.rows hrow hd hk)
section
variable {P : Program} {ops : Array Oper} {md : Region.Mode} {B : Nat → Prop}
def YieldsR (P : Program) (ops : Array Oper) (B : Nat → Prop) (w : World) (o : Oper) (v : Value) (a : Act) : Prop :=
  (Region.wanted o (yielded ops a.tmps) = true ∧ ∀ w', Lt B w w' → (execOp a.eval o).run P w' = .ok (.value v) w') ∨
  (Region.wanted o (yielded ops a.tmps) = false ∧ v = undef)
theorem YieldsR.later {w w' : World} {o : Oper} {v : Value} {a : Act} (h : YieldsR P ops B w o v a) (hw : Lt B w w') : YieldsR P ops B w' o v a :=
  h.imp (fun ⟨h1, h2⟩ => ⟨h1, fun w'' hw'' => h2 w'' (hw.trans hw'')⟩) id
theorem YieldsR.wpOp {i : Nat} {o : Oper} {v : Value} {a : Act} {Q : Exit → Act → World → Prop} (hi : ops[i]? = some o) {w : World} (hy : YieldsR P ops B w o v a)
    {K : Act → World → Prop} (h : K (a.put o.dst v) w) : wpOp P ops Q i K a w := by
  unfold Go.wpOp
  simp only [hi]
  rcases hy with ⟨hw, hv⟩ | ⟨hw, rfl⟩
  · simp only [hw, if_true, Oper.wp, hv w (Lt.refl B w), Oper.upon]; exact .inl h
  · simp only [hw, Bool.false_eq_true, if_false]; exact h
theorem YieldsR.of_same {o : Oper} {v : Value} {a a' : Act} {w : World} (hy : YieldsR P ops B w o v a) (he : execOp a'.eval o = execOp a.eval o)
    (hw : Region.wanted o (yielded ops a'.tmps) = Region.wanted o (yielded ops a.tmps)) : YieldsR P ops B w o v a' := by
  unfold YieldsR at *
  rw [he, hw]
  exact hy
theorem wpOp_putR {Q : Act → World → Prop} {j : Nat} {oi oj : Oper} {v : Value} (hj : ops[j]? = some oj) (hap : oi.apart ops oj = true)
    (hsi : ∀ cs b, oi.op ≠ .select cs b) (hsj : ∀ cs b, oj.op ≠ .select cs b) {K : Act → World → Prop} {a : Act} {w : World}
    (hy : YieldsR P ops B w oi v a) (h : wpOp P ops (calm Q) j K (a.put oi.dst v) w) :
    wpOp P ops (calm Q) j (fun a' w' => YieldsR P ops B w oi v a' ∧ K (a'.put oi.dst v) w') a w := by
  obtain ⟨h1, h2, h3⟩ := Oper.apart_spec hap
  have keep : ∀ (a : Act), YieldsR P ops B w oi v a → ∀ u, YieldsR P ops B w oi v (a.put oj.dst u) := fun a hy u =>
    hy.of_same (execOp_put oi hsi a oj.dst u h3) (wanted_put oi a oj.dst u h3)
  have keepD : ∀ d, YieldsR P ops B w oi v { a with defers := d :: a.defers } := fun d => hy.of_same rfl rfl
  unfold wpOp at *
  simp only [hj] at *
  rw [wanted_put oj a oi.dst v h1] at h
  split
  · rename_i hw
    simp only [hw, if_true] at h
    rcases h with h | ⟨hasks, hlets⟩
    case inr => exact .inr ⟨by unfold Oper.asks at *; rw [execOp_put oj hsj a oi.dst v h1] at hasks; exact hasks, hlets⟩
    refine .inl ?_
    unfold Oper.wp at *
    rw [execOp_put oj hsj a oi.dst v h1] at h
    generalize (execOp a.eval oj).run P w = r at *
    cases r with
    | ok n w' =>
      cases n <;> simp only [Oper.upon] at h ⊢
      case value u => exact ⟨keep a hy u, by rw [← Act.put_comm a v u h2]; exact h⟩
      case skip => exact ⟨keep a hy _, by rw [← Act.put_comm a v undef h2]; exact h⟩
      case defer d =>
        refine ⟨keep _ (keepD d) _, ?_⟩
        rw [← Act.put_comm _ v undef h2, ← Act.put_defers]
        exact h
      case enter f args =>
        refine Calls.mono h fun e w'' he => ?_
        cases e with
        | returned u => exact ⟨keep a hy u, by rw [← Act.put_comm a v u h2]; exact he⟩
        | panicked c => exact he
        | outgrown => exact he
      case row row args => exact Rows.mono h fun u w'' he => ⟨keep a hy u, by rw [← Act.put_comm a v u h2]; exact he⟩
    | halt x w' =>
      cases x <;> simp only [Oper.upon] at h ⊢
      case panic u => exact h
  · rename_i hw
    simp only [hw] at h
    exact ⟨keep a hy _, by rw [← Act.put_comm a v undef h2]; exact h⟩
/-- whatever order is picked from here on -/
def wpAnyR (P : Program) (md : Region.Mode) (ops : Array Oper) (B : Nat → Prop) (Q : Act → World → Prop) : Nat → Array Bool → Act → World → Prop
  | 0, listed, a, w => Region.ready md ops listed = [] ∧ Q a w
  | fuel + 1, listed, a, w =>
    (Region.ready md ops listed = [] → Q a w) ∧
    ∀ i ∈ Region.ready md ops listed, wpOp P ops (calm Q) i (fun a' w' => Lt B w w' ∧ wpAnyR P md ops B Q fuel (listed.setIfInBounds i true) a' w') a w
theorem wpAny_of_R {Q : Act → World → Prop} : ∀ (fuel : Nat) (listed : Array Bool) (a : Act) (w : World), wpAnyR P md ops B Q fuel listed a w → wpAny P md ops (calm Q) fuel listed a w
  | 0, _, _, _, h => h
  | fuel + 1, _, _, _, h => ⟨h.1, fun i hi => wpOp_mono (fun a' w' h' => wpAny_of_R fuel _ a' w' h'.2) (h.2 i hi)⟩
theorem Lt.wide {B' : Nat → Prop} {w w' : World} (h : Lt B' w w') (hB : ∀ k, B' k → B k) : Lt B w w' := ⟨h.os, h.tape, h.output, h.size, fun k hk hn => h.block k hk fun hb => hn (hB k hb)⟩
theorem wpAnyR_wide {Q : Act → World → Prop} {B' : Nat → Prop} (hB : ∀ k, B' k → B k) : ∀ (fuel : Nat) (listed : Array Bool) (a : Act) (w : World), wpAnyR P md ops B' Q fuel listed a w → wpAnyR P md ops B Q fuel listed a w
  | 0, _, _, _, h => h
  | fuel + 1, _, _, _, h => ⟨h.1, fun i hi => wpOp_mono (fun a' w' h' => ⟨h'.1.wide hB, wpAnyR_wide hB fuel _ a' w' h'.2⟩) (h.2 i hi)⟩
theorem wpAnyR_first {Q : Act → World → Prop} {i : Nat} {oi : Oper} {v : Value} (hi : ops[i]? = some oi) (hsel : ∀ (j : Nat) (o : Oper) cs b, ops[j]? = some o → o.op ≠ .select cs b) :
    ∀ (fuel : Nat) (listed : Array Bool) (a : Act) (w : World),
      (∀ j oj, ops[j]? = some oj → j ≠ i → listed.getD j true = false → (∀ e ∈ oj.after, Region.binds md e = true → e.on ≠ i) → oi.apart ops oj = true) →
      i ∈ Region.ready md ops listed → YieldsR P ops B w oi v a →
      wpAnyR P md ops B Q fuel (listed.setIfInBounds i true) (a.put oi.dst v) w → wpAnyR P md ops B Q (fuel + 1) listed a w := by
  intro fuel
  induction fuel with
  | zero =>
    intro listed a w hfree hr hy H
    refine ⟨fun h => (by rw [h] at hr; cases hr), fun j hj => ?_⟩
    by_cases hji : j = i
    · subst hji; exact hy.wpOp hi ⟨Lt.refl B w, H⟩
    · have := ready_mono hj hji
      rw [H.1] at this
      cases this
  | succ fuel ih =>
    intro listed a w hfree hr hy H
    refine ⟨fun h => (by rw [h] at hr; cases hr), fun j hj => ?_⟩
    by_cases hji : j = i
    · subst hji; exact hy.wpOp hi ⟨Lt.refl B w, H⟩
    · have h1 := H.2 j (ready_mono hj hji)
      obtain ⟨hjun, oj, hoj, hall⟩ := mem_ready.1 hj
      have hnot : ∀ e ∈ oj.after, Region.binds md e = true → e.on ≠ i := fun e he hb heq => by
        have h1 := hall e he hb
        have h0 := (mem_ready.1 hr).1
        rw [heq] at h1
        rcases Nat.lt_or_ge i listed.size with h' | h'
        · simp [h'] at h0 h1; rw [h0] at h1; cases h1
        · simp [Array.getElem?_eq_none h'] at h1
      have h2 := wpOp_putR hoj (hfree j oj hoj hji hjun hnot) (fun cs b => hsel i oi cs b hi) (fun cs b => hsel j oj cs b hoj) hy h1
      have hfree' : ∀ k ok, ops[k]? = some ok → k ≠ i → (listed.setIfInBounds j true).getD k true = false →
          (∀ e ∈ ok.after, Region.binds md e = true → e.on ≠ i) → oi.apart ops ok = true := fun k ok hk hki hun hno => by
        refine hfree k ok hk hki ?_ hno
        by_cases hjk : j = k
        · subst hjk; exact hjun
        · rw [getD_set_ne true hjk] at hun; exact hun
      refine wpOp_mono (fun a' w' h3 => ⟨h3.2.1, ih (listed.setIfInBounds j true) a' w' hfree' (ready_mono hr (Ne.symm hji)) (h3.1.later h3.2.1) ?_⟩) h2
      rw [Array.setIfInBounds_comm _ _ hji]
      exact h3.2.2
/-- one operation alone may come -/
theorem wpAnyR_only {Q : Act → World → Prop} {i : Nat} {o : Oper} (hi : ops[i]? = some o) {fuel : Nat} {listed : Array Bool} {a : Act} {w : World} (hr : Region.ready md ops listed = [i]) (hw : Region.wanted o (yielded ops a.tmps) = true)
    (h : ∀ K : Act → World → Prop, (∀ a' w', Lt B w w' → wpAnyR P md ops B Q fuel (listed.setIfInBounds i true) a' w' → K a' w') → o.wp P a w K (calm Q)) : wpAnyR P md ops B Q (fuel + 1) listed a w := by
  refine ⟨fun h0 => (by rw [hr] at h0; cases h0), fun j hj => ?_⟩
  rw [hr] at hj
  obtain rfl : j = i := by simpa using hj
  unfold wpOp
  simp only [hi, hw, if_true]
  exact .inl (h _ fun a' w' h1 h2 => ⟨h1, h2⟩)
theorem wpAnyR_onlyNo {Q : Act → World → Prop} {i : Nat} {o : Oper} (hi : ops[i]? = some o) {fuel : Nat} {listed : Array Bool} {a : Act} {w : World} (hr : Region.ready md ops listed = [i]) (hw : Region.wanted o (yielded ops a.tmps) = false)
    (h : wpAnyR P md ops B Q fuel (listed.setIfInBounds i true) (a.put o.dst undef) w) : wpAnyR P md ops B Q (fuel + 1) listed a w := by
  refine ⟨fun h0 => (by rw [hr] at h0; cases h0), fun j hj => ?_⟩
  rw [hr] at hj
  obtain rfl : j = i := by simpa using hj
  unfold wpOp
  simp only [hi, hw, Bool.false_eq_true, if_false]
  exact ⟨Lt.refl B w, h⟩
theorem wpAnyR_done {Q : Act → World → Prop} {fuel : Nat} {listed : Array Bool} {a : Act} {w : World} (hr : Region.ready md ops listed = []) (h : Q a w) : wpAnyR P md ops B Q fuel listed a w := by
  cases fuel with
  | zero => exact ⟨hr, h⟩
  | succ n => exact ⟨fun _ => h, fun i hi => by rw [hr] at hi; cases hi⟩
theorem wp_region_R {id : Nat} {Q : Exit → Act → World → Prop} {a : Act} {w : World} (hm : P.follows .mixedOrders = true) (B : Nat → Prop)
    (h : wpAnyR P .any ops B (fun a' w' => Q .normal a' w') ops.size (Array.replicate ops.size false) a w.drew) : (Code.region id ops true).wp P Q a w := by
  refine Code.wp_mono (Q := calm (fun a' w' => Q .normal a' w')) (fun e a w h => ?_) (wp_region_any hm (wpAny_of_R _ _ _ _ h))
  cases e <;> first | exact h | exact h.elim
end

section
variable {E : Env} {w0 w w' : World} {ρ ρ0 : List Dat} {σ σ0 : List Value} {S S' : St} {a : Act} {o : Oper} {L : List Fact} {obs : List Tm}
/-- what a region may write: the blocks of the objects M, and new ones -/
def regB (n0 : Nat) (σ0 : List Value) (M : List Nat) : Nat → Prop := fun k => n0 ≤ k ∨ ∃ j ∈ M, ∃ v, σ0[j]? = some v ∧ blkV v = some k
theorem ObR.at_blk {x : Ob} {v : Value} {f : Fact} (h : ObR E ρ σ x v f) {k : Nat} (hk : f.at k) : blkV v = some k := by
  cases x with
  | blk cs ty =>
    obtain ⟨b, vs, rfl, _, rfl⟩ := h
    have : k = b := hk
    subst this; rfl
  | own r t =>
    obtain ⟨A, n, c, xs, rfl, _, _, _, rfl⟩ := h
    have hk' : blkOf (.slice A n c) = some k := hk
    rw [← hk']; rfl
  | dead =>
    have h' : f = .gen (fun _ => True) (fun _ => False) := h
    subst h'; exact hk.elim
/-- objects that may be written in a region, put out of sight -/
def maskO (m0 : Nat) (M : List Nat) : List Ob → Nat → List Ob
  | [], _ => []
  | o :: l, j => (if decide (m0 ≤ j) || M.contains j then .dead else o) :: maskO m0 M l (j + 1)
def maskF (m0 : Nat) (M : List Nat) : List Fact → Nat → List Fact
  | [], _ => []
  | o :: l, j => (if decide (m0 ≤ j) || M.contains j then deadF else o) :: maskF m0 M l (j + 1)
theorem maskO_get {m0 : Nat} {M : List Nat} : ∀ (l : List Ob) (j i : Nat), (maskO m0 M l j)[i]? = (l[i]?).map fun o => if decide (m0 ≤ j + i) || M.contains (j + i) then .dead else o
  | [], _, _ => by simp [maskO]
  | o :: l, j, 0 => by simp [maskO]
  | o :: l, j, i + 1 => by simp only [maskO, List.getElem?_cons_succ]; rw [maskO_get l (j + 1) i, show j + 1 + i = j + (i + 1) by omega]
theorem maskF_get {m0 : Nat} {M : List Nat} : ∀ (l : List Fact) (j i : Nat), (maskF m0 M l j)[i]? = (l[i]?).map fun o => if decide (m0 ≤ j + i) || M.contains (j + i) then deadF else o
  | [], _, _ => by simp [maskF]
  | o :: l, j, 0 => by simp [maskF]
  | o :: l, j, i + 1 => by simp only [maskF, List.getElem?_cons_succ]; rw [maskF_get l (j + 1) i, show j + 1 + i = j + (i + 1) by omega]
theorem maskO_len {m0 : Nat} {M : List Nat} : ∀ (l : List Ob) (j : Nat), (maskO m0 M l j).length = l.length
  | [], _ => rfl
  | o :: l, j => by simp [maskO, maskO_len l]
theorem maskF_len {m0 : Nat} {M : List Nat} : ∀ (l : List Fact) (j : Nat), (maskF m0 M l j).length = l.length
  | [], _ => rfl
  | o :: l, j => by simp [maskF, maskF_len l]
theorem ObsR.mask {os : List Ob} (h : ObsR E ρ σ os L) (m0 : Nat) (M : List Nat) : ObsR E ρ σ (maskO m0 M os 0) (maskF m0 M L 0) :=
  ⟨by rw [maskO_len]; exact h.l1, by rw [maskF_len]; exact h.l2, fun j o ho => by
    rw [maskO_get, Option.map_eq_some_iff] at ho
    obtain ⟨o', ho', rfl⟩ := ho
    obtain ⟨v, f, h1, h2, h3⟩ := h.get j o' ho'
    refine ⟨v, _, h1, by rw [maskF_get, h2]; rfl, ?_⟩
    split
    · rfl
    · exact h3⟩
/-- what is out of the region's reach stands in all its later worlds -/
theorem Mem.later {m0 : Nat} {M : List Nat} {B : Nat → Prop} {os : List Ob} (hM : Mem none w0 w (baseF E ρ :: L)) (hO : ObsR E ρ σ os L) 
    (hρ : ∀ k, AtL ρ k ∨ (∃ x ∈ E.gt, k = x.1) → ¬ B k) (hown : ∀ (j : Nat) f k, L[j]? = some f → (decide (m0 ≤ j) || M.contains j) = false → f.at k → ¬ B k) (holdB : ∀ k, k < w0.heap.size → ¬ B k)
    (hl : Lt B w w') : Mem none w0 w' (baseF E ρ :: maskF m0 M L 0) := by
  have hm : Mem none w0 w (baseF E ρ :: maskF m0 M L 0) := by
    refine hM.pick (fun i => some i) (base_holds hM) rfl (fun k hk => .inl hk) (fun i f hf => ?_) (fun i i' q h1 h2 => by cases h1; cases h2; rfl)
    rw [maskF_get, Option.map_eq_some_iff] at hf
    obtain ⟨f', hf', rfl⟩ := hf
    split
    · exact .inl rfl
    · exact .inr ⟨i, rfl, hf'⟩
  have hkeep : ∀ f ∈ baseF E ρ :: maskF m0 M L 0, ∀ k, f.at k → ¬ B k := fun f hf k hk => by
    rcases List.mem_cons.1 hf with rfl | hf
    · exact hρ k hk
    · obtain ⟨i, hi⟩ := List.getElem?_of_mem hf
      rw [maskF_get, Option.map_eq_some_iff] at hi
      obtain ⟨f', hf', e⟩ := hi
      split at e
      · subst e; exact hk.elim
      · rename_i hc
        subst e
        exact hown i f' k hf' (by simpa using hc) hk
  refine ⟨⟨hl.os.trans hm.grown.os, hl.tape.trans hm.grown.tape, hl.output.trans hm.grown.output, Nat.le_trans hm.grown.size hl.size, fun k hk _ => ?_⟩, fun f hf => ?_, hm.own, hm.apart⟩
  · rw [hl.block k (Nat.lt_of_lt_of_le hk hm.grown.size) (holdB k hk)]
    exact hm.grown.block k hk (by simp)
  · have h1 := hm.holds f hf
    have hk := hkeep f hf
    rcases List.mem_cons.1 hf with rfl | hf
    · refine ⟨⟨fun d hd => (h1.1.1 d hd).keepsLt hl fun k hkk => hk k (.inl ⟨d, hd, hkk⟩), fun x hx => ?_⟩, baseFirm _ _⟩
      obtain ⟨T, hrow⟩ := h1.1.2 x hx
      exact ⟨T, (hl.block _ (Row.lt hrow) (hk _ (.inr ⟨x, hx, rfl⟩))).trans hrow⟩
    · obtain ⟨i, hi⟩ := List.getElem?_of_mem hf
      rw [maskF_get, Option.map_eq_some_iff] at hi
      obtain ⟨f', hf', e⟩ := hi
      split at e
      · subst e; exact ⟨trivial, deadFirm⟩
      · subst e
        obtain ⟨o, ho⟩ : ∃ o, os[i]? = some o := by
          have hi1 := (List.getElem?_eq_some_iff.1 hf').1
          have : i < os.length := by rw [hO.l1, ← hO.l2]; exact hi1
          exact ⟨_, List.getElem?_eq_getElem this⟩
        obtain ⟨v, f, g1, g2, g3⟩ := hO.get i o ho
        rw [hf'] at g2; cases g2
        cases o with
        | blk cs ty =>
          obtain ⟨b, vs, rfl, _, rfl⟩ := g3
          exact (hl.block b (Row.lt h1) (hk b rfl)).trans h1
        | own r t =>
          obtain ⟨A, n, c, xs, rfl, _, _, _, rfl⟩ := g3
          have hat : ∀ k, blkOf (.slice A n c) = some k → ¬ B k := fun k hkk => hk k hkk
          obtain ⟨A', c', e, hc, hlx, ha, ho⟩ := h1
          cases e
          refine ⟨A, c, rfl, hc, hlx, fun hn => ?_, fun h0 => ?_⟩
          · obtain ⟨ad, rfl, hb, hcell⟩ := ha hn
            refine ⟨ad, rfl, Nat.lt_of_lt_of_le hb hl.size, fun j u hu => ?_⟩
            have hnb : ¬ B ad.block := hat _ (by simp only [blkOf]; rw [if_pos (by omega)])
            rw [cell_lt hl (by rw [block_add]; exact hb) (by rw [block_add]; exact hnb)]
            exact hcell j u hu
          · obtain ⟨g, off, rfl, hB, hg, hj⟩ := ho h0
            have hnb : ¬ B g := hat _ (by simp only [blkOf]; rw [if_pos h0])
            refine ⟨g, off, rfl, hB, Nat.lt_of_lt_of_le hg hl.size, fun j hjc => ?_⟩
            rw [cell_lt hl (p := ⟨g, off + j, none⟩) hg hnb, frozen_lt hl (p := ⟨g, off + j, none⟩) hg hnb]
            exact hj j hjc
        | dead =>
          have g3' : f' = .gen (fun _ => True) (fun _ => False) := g3
          subst g3'
          exact ⟨trivial, deadFirm⟩
end
end Go.Proofs.YtonjilfbcofoaaaDoor
