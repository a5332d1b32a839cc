import Derived.Test.YtcigbgpdikadpaaDoorM10

set_option linter.unusedVariables false
set_option linter.unusedSimpArgs false

section
namespace Go.Proofs.YtcigbgpdikadpaaDoor
open Go.RowKit
set_option linter.unusedVariables false

/-- what stands behind a loop's round -/
def inLoop (P : Program) (c : Code) (Q : Exit → Act → World → Prop) (a : Act) (w : World) : Prop :=
  ∀ (b : Frame) (k : List Item) (cs : List Frame), ∃ e a' w', Q e a' w' ∧ Arrives P (lone (b.at a (.inLoop c :: k)) cs w) b k cs e a' w'
theorem inLoop_arr {P : Program} {c : Code} {Q : Exit → Act → World → Prop} {a : Act} {w : World} (h : c.wp P (Exit.then (inLoop P c Q) Q) a w) (b : Frame) (k : List Item) (cs : List Frame) :
    ∃ e a' w', Q e a' w' ∧ Arrives P (lone (b.at a (.code c :: .inLoop c :: k)) cs w) b k cs e a' w' := by
  obtain ⟨e, a₁, w₁, hq, harr⟩ := h b (.inLoop c :: k) cs
  cases e with
  | normal =>
    obtain ⟨e₂, a₂, w₂, hq₂, harr₂⟩ := hq b k cs
    exact ⟨e₂, a₂, w₂, hq₂, .of_steps harr harr₂⟩
  | exit id => exact ⟨_, a₁, w₁, hq, .pass (x := .inLoop c) rfl (fun _ _ => .inl (by simp)) harr⟩
  | goto l => exact ⟨_, a₁, w₁, hq, .pass (x := .inLoop c) rfl (fun _ _ => .inl (by simp)) harr⟩
  | ret => exact ⟨_, a₁, w₁, hq, .pass (x := .inLoop c) rfl (fun _ _ => .inl (by simp)) harr⟩
  | panic ch => exact ⟨_, a₁, w₁, hq, .pass (x := .inLoop c) rfl (fun _ _ => .inl (by simp)) harr⟩
  | outgrown => exact ⟨_, a₁, w₁, hq, .pass (x := .inLoop c) rfl (fun _ _ => .inl (by simp)) harr⟩
theorem inLoop_once {P : Program} {c : Code} {Q : Exit → Act → World → Prop} {a : Act} {w : World} (h : c.wp P (Exit.then (inLoop P c Q) Q) a w) : inLoop P c Q a w := fun b k cs => by
  obtain ⟨e, a', w', hq, harr⟩ := inLoop_arr h b k cs
  exact ⟨e, a', w', hq, .of_steps (.one step_inLoop) harr⟩
theorem loop_once {P : Program} {c : Code} {Q : Exit → Act → World → Prop} {a : Act} {w : World} (h : c.wp P (Exit.then (inLoop P c Q) Q) a w) : (Code.loop c).wp P Q a w := fun b k cs => by
  obtain ⟨e, a', w', hq, harr⟩ := inLoop_arr h b k cs
  exact ⟨e, a', w', hq, .of_steps (.one step_loop) harr⟩
theorem inLoop_ghost {P : Program} {c : Code} {Q : Exit → Act → World → Prop} {a : Act} {w : World} (I : Nat → Act → World → Prop) (n₀ : Nat) (h₀ : I n₀ a w)
    (round : ∀ n a w, I n a w → c.wp P (Exit.then (fun a' w' => ∃ n', n' < n ∧ I n' a' w') Q) a w) : inLoop P c Q a w := by
  have key : ∀ (n m : Nat), m < n → ∀ a w, I m a w → inLoop P c Q a w := by
    intro n
    induction n with
    | zero => intro m hm; omega
    | succ n ih =>
      intro m hm a w hI
      refine inLoop_once (wp_mono (round m a w hI) fun e a' w' hq => ?_)
      cases e with
      | normal =>
        obtain ⟨n', hlt, hI'⟩ := hq
        exact ih n' (by omega) a' w' hI'
      | exit id => exact hq
      | goto l => exact hq
      | ret => exact hq
      | panic ch => exact hq
      | outgrown => exact hq
  exact key (n₀ + 1) n₀ (by omega) a w h₀
inductive SK (E : Env) (w0 : World) (Fn : Exit → Act → World → Prop) : List (Inv × Nat) → List Dat → List Value → List K → (Exit → Act → World → Prop) → Prop where
  | fin {X : List (Inv × Nat)} {ρ : List Dat} {σ : List Value} (h : E.s0 <+: σ) : SK E w0 Fn X ρ σ [.fin] Fn
  | code {X : List (Inv × Nat)} {ρ : List Dat} {σ : List Value} {k : List K} {Q : Exit → Act → World → Prop} {c : Code} (h : SK E w0 Fn X ρ σ k Q) : SK E w0 Fn X ρ σ (.code c :: k) (Exit.then (c.wp E.P Q) Q)
  | blk {X : List (Inv × Nat)} {ρ : List Dat} {σ : List Value} {k : List K} {Q : Exit → Act → World → Prop} {id : Nat} (h : SK E w0 Fn X ρ σ k Q) : SK E w0 Fn X ρ σ (.blk id :: k) (Exit.inBlock id Q)
  | again {X : List (Inv × Nat)} {ρ ρ0 : List Dat} {σ σ0 : List Value} {k : List K} {Q : Exit → Act → World → Prop} {lvl : Nat} {H : St} {srcs : List Src} {ss : List Srt} {I : Inv × Nat} (hx : X[lvl]? = some I) (hp : ρ0 <+: ρ) (hq : σ0 <+: σ) (hpre : E.γ <+: ρ0)
      (h : SK E w0 Fn X ρ0 σ0 k Q) : SK E w0 Fn X ρ σ (.again lvl H ρ0.length σ0.length srcs ss :: k) (Exit.then (fun a w => ∃ m', m' < I.2 ∧ ∃ xs σx, I.1 xs m' ∧ All2 (Has E.Δ) ss xs ∧ Rel E w0 (ρ0 ++ xs) (σ0 ++ σx) H a w) Q)
  | inl {X : List (Inv × Nat)} {ρ : List Dat} {σ : List Value} {k : List K} {Q : Exit → Act → World → Prop} {b : Code} (h : SK E w0 Fn X ρ σ k Q) : SK E w0 Fn X ρ σ (.inl b :: k) (Exit.then (inLoop E.P b Q) Q)
  | ops {X : List (Inv × Nat)} {ρ : List Dat} {σ : List Value} {k : List K} {Q : Exit → Act → World → Prop} {l os : List Oper} (h : SK E w0 Fn X ρ σ k Q) : SK E w0 Fn X ρ σ (.ops l os :: k) (fun e a w => (e = .normal → wpList E.P os.toArray Q l a w) ∧ ∀ ch, e = .panic ch → Q e a w)
  | back {X : List (Inv × Nat)} {ρ : List Dat} {σ : List Value} {k : List K} {Q : Exit → Act → World → Prop} {sl : List AV} {ac : Act} {dst : Option Nat} {fn : Func} (hs : All2 (VR E ρ σ) sl ac.tmps.toList) (hd : ac.defers = []) (h : SK E w0 Fn X ρ σ k Q) :
      SK E w0 Fn X ρ σ (.back sl dst fn.results.toList :: k) (bodyPost E.P fn fun e w => (∃ v, e = .returned v ∧ Q .normal (ac.put dst v) w) ∨ ∃ ch, e = .panicked ch ∧ Q (.panic ch) ac w)
  | rgn {X : List (Inv × Nat)} {ρ : List Dat} {σ : List Value} {k : List K} {Q : Exit → Act → World → Prop} {sl : List AV} {ac : Act} {dst : Option Nat} {fn : Func} {d : DI} {fuel : Nat} {listed : List Bool} {os : List Oper} (hs : All2 (VR E ρ σ) sl ac.tmps.toList) (hd : ac.defers = []) (hno : d.hoist = false) (hsel : Region.noSelect os.toArray = true) (h : SK E w0 Fn X ρ σ k Q) :
      SK E w0 Fn X ρ σ (.rgn sl dst fn.results.toList d fuel listed os :: k) (bodyPost E.P fn fun e w => (∃ v, e = .returned v ∧ wpAnyR E.P .any os.toArray false (fun _ => True) Q fuel listed.toArray (ac.put dst v) w) ∨ ∃ ch, e = .panicked ch ∧ ∀ a' : Act, a'.defers = [] → Q (.panic ch) a' w)

section
variable {E : Env} {w0 w w' : World} {ρ ρ' : List Dat} {σ σ' σ0 : List Value} {S S' : St} {a : Act} {L : List Fact} {o : Oper} {Fn : Exit → Act → World → Prop} {X : List (Inv × Nat)} {k k' : List K} {Q : Exit → Act → World → Prop}
theorem SK.more (h : SK E w0 Fn X ρ σ k Q) (x : List (Inv × Nat)) : ∀ (r : List Dat) (s : List Value), SK E w0 Fn (X ++ x) (ρ ++ r) (σ ++ s) k Q := by
  induction h with
  | fin h0 => intro r s; exact .fin (h0.trans (List.prefix_append _ _))
  | code _ ih => intro r s; exact .code (ih r s)
  | inl _ ih => intro r s; exact .inl (ih r s)
  | blk _ ih => intro r s; exact .blk (ih r s)
  | again hx hp hq hpre _ ih =>
    intro r s
    have := ih [] []
    simp only [List.append_nil] at this
    exact .again (lt_get hx) (hp.trans (List.prefix_append _ _)) (hq.trans (List.prefix_append _ _)) hpre this
  | ops _ ih => intro r s; exact .ops (ih r s)
  | back hs hd _ ih => intro r s; exact .back (hs.mono fun _ _ h => h.more r s) hd (ih r s)
  | rgn hs hd hno hsel _ ih => intro r s; exact .rgn (hs.mono fun _ _ h => h.more r s) hd hno hsel (ih r s)
theorem SK.up (h : SK E w0 Fn X ρ σ k Q) (hp : ρ <+: ρ') (hq : σ <+: σ') : SK E w0 Fn X ρ' σ' k Q := by
  obtain ⟨r, rfl⟩ := hp
  obtain ⟨s, rfl⟩ := hq
  simpa using h.more [] r s
theorem exitK_ok {id : Nat} (h : SK E w0 Fn X ρ σ k Q) : ∀ {k' : List K}, exitK id k = some k' → ∃ Q', SK E w0 Fn X ρ σ k' Q' ∧ ∀ a w, Q' .normal a w → Q (.exit id) a w := by
  induction h with
  | fin _ => intro k' e; cases e
  | code _ ih => intro k' e; exact ih e
  | inl _ ih => intro k' e; exact ih e
  | blk hk ih =>
    rename_i id' 
    intro k' e
    simp only [exitK] at e
    split at e
    · rename_i hid
      cases e
      exact ⟨_, hk, fun a w h => by simp only [Exit.inBlock]; rw [if_pos hid.symm]; exact h⟩
    · rename_i hid
      obtain ⟨Q', h1, h2⟩ := ih e
      exact ⟨Q', h1, fun a w h => by simp only [Exit.inBlock]; rw [if_neg (fun e => hid e.symm)]; exact h2 a w h⟩
  | again hx hp hq hpre _ ih =>
    intro k' e
    obtain ⟨Q', h1, h2⟩ := ih e
    exact ⟨Q', h1.up hp hq, h2⟩
  | ops _ _ => intro k' e; cases e
  | back _ _ _ _ => intro k' e; cases e
  | rgn _ _ _ _ _ _ => intro k' e; cases e
theorem retK_ok (hFn : ∀ a w, Fn .normal a w → Fn .ret a w) (h : SK E w0 Fn X ρ σ k Q) : ∀ {k' : List K}, retK k = some k' → ∃ Q', SK E w0 Fn X ρ σ k' Q' ∧ ∀ a w, Q' .normal a w → Q .ret a w := by
  induction h with
  | fin h0 => intro k' e; cases e; exact ⟨_, .fin h0, hFn⟩
  | code _ ih => intro k' e; exact ih e
  | inl _ ih => intro k' e; exact ih e
  | blk hk ih => intro k' e; exact ih e
  | again hx hp hq hpre _ ih =>
    intro k' e
    obtain ⟨Q', h1, h2⟩ := ih e
    exact ⟨Q', h1.up hp hq, h2⟩
  | ops _ _ => intro k' e; cases e
  | back hs hd hk _ => intro k' e; cases e; exact ⟨_, .back hs hd hk, fun a w h => h⟩
  | rgn hs hd hno hsel hk _ => intro k' e; cases e; exact ⟨_, .rgn hs hd hno hsel hk, fun a w h => h⟩
/-- a panic goes through all that stands around -/
theorem SK.die {ch : List PanicEntry} {D : World → Prop} (hF : ∀ (a : Act) w, a.defers = [] → D w → Fn (.panic ch) a w) (h : SK E w0 Fn X ρ σ k Q) : ∀ (a : Act) (w : World), a.defers = [] → D w → Q (.panic ch) a w := by
  induction h with
  | fin _ => exact hF
  | code _ ih => exact ih
  | inl _ ih => exact ih
  | blk _ ih => exact ih
  | again hx hp hq hpre _ ih => exact ih
  | ops _ ih => exact fun a w ha hD => ⟨fun e => (by cases e), fun _ _ => ih a w ha hD⟩
  | back hs hd _ ih => exact fun a w ha hD => ⟨ha, .inr ⟨ch, rfl, ih _ w hd hD⟩⟩
  | rgn hs hd hno hsel _ ih => exact fun a w ha hD => ⟨ha, .inr ⟨ch, rfl, fun a' ha' => ih a' w ha' hD⟩⟩
/-- what may be written: nothing that is read -/
def wB (E : Env) (ρ : List Dat) (B : Nat → Prop) : Nat → Prop := fun k => B k ∧ ¬ (AtL ρ k ∨ E.gat k)
theorem wB_more {B : Nat → Prop} (rs : List Dat) : ∀ k, wB E (ρ ++ rs) B k → wB E ρ B k := fun k ⟨h1, h2⟩ => ⟨h1, fun h => h2 (h.imp (fun ⟨d, hd, hk⟩ => ⟨d, List.mem_append_left _ hd, hk⟩) id)⟩
/-- what is written is live -/
theorem tgtW_live {obs : List Tm} (he : evalW E.cx S o = some (S', obs)) {j : Nat} (hj : tgtW S o = some j) : j < S.objs.length ∧ isDead S.objs[j]? = false := by
  have fin : ∀ {x : Ob}, S.objs[j]? = some x → x ≠ .dead → j < S.objs.length ∧ isDead S.objs[j]? = false := fun {x} hx hne => by
    refine ⟨(List.getElem?_eq_some_iff.1 hx).1, ?_⟩
    rw [hx]
    cases x <;> first | rfl | exact absurd rfl hne
  unfold evalW at he
  split at he
  · rename_i ty x y ho
    unfold tgtW at hj
    rw [ho] at hj
    simp only at hj
    split at he
    · rename_i j' off dyn y' hr hy hdst
      rw [hr] at hj
      cases hj
      split at he
      · rename_i hb; exact fin hb (by intro e; cases e)
      · cases he
    · rename_i j' r ix off y' hr hy hdst
      rw [hr] at hj
      cases hj
      split at he
      · rename_i hb; exact fin hb (by intro e; cases e)
      · cases he
    · rename_i j' r ix off t st m u s hr hy hdst
      rw [hr] at hj
      cases hj
      split at he
      · rename_i hb; exact fin hb (by intro e; cases e)
      · cases he
    · cases he
  · rename_i t x hi mx ho
    unfold tgtW at hj
    rw [ho] at hj
    simp only at hj
    split at he
    · rename_i j' e hx hu
      rw [hx] at hj
      cases hj
      split at he
      · rename_i hb; exact fin hb (by intro e; cases e)
      · cases he
    · cases he
  · rename_i ho
    unfold tgtW at hj
    rw [ho] at hj
    cases hj
  · rename_i c ho
    unfold tgtW at hj
    rw [ho] at hj
    simp only at hj
    split at he
    · rename_i x y t t' g1 g2 g3
      rw [g2] at hj
      simp only at hj
      split at he
      · split at he
        · split at he
          · rename_i j' r u r' u' hx cx cy
            rw [hx] at hj
            cases hj
            rw [hx] at cx
            simp only [contentOf] at cx
            split at cx
            · rename_i hb; exact fin hb (by intro e; cases e)
            · cases cx
          · cases he
        · cases he
      · cases he
    · cases he
  · cases he
/-- where a region that draws its order stands -/
structure RI (E : Env) (w0 : World) (d : DI) (n0 : Nat) (σ0 : List Value) (ρ : List Dat) (σ : List Value) (w : World) : Prop where
  pre : σ0 <+: σ
  m0 : σ0.length = d.m0
  lo : w0.heap.size ≤ n0
  hi : n0 ≤ w.heap.size
  old : ∀ k, k < w0.heap.size → ¬ regB n0 σ0 d.M k
  prot : ∀ j, j < d.m0 → d.M.contains j = false → d.D.contains j = false → ∀ v k, σ0[j]? = some v → blkV v = some k → ¬ regB n0 σ0 d.M k
  new : ∀ (j : Nat), d.m0 ≤ j → ∀ v k, σ[j]? = some v → blkV v = some k → regB n0 σ0 d.M k
theorem isDead_not {o : Option Ob} (h : isDead o = false) : o ≠ some .dead := fun e => by rw [e] at h; cases h
theorem live_at (hO : ObsR E ρ σ S.objs L) {j : Nat} (hj : j < S.objs.length) (hl : isDead S.objs[j]? = false) {v : Value} {k : Nat} (hv : σ[j]? = some v) (hk : blkV v = some k) : ∃ f, L[j]? = some f ∧ f.wr = true ∧ f.at k := by
  obtain ⟨v', f, h1, h2, h3⟩ := hO.get j _ (List.getElem?_eq_getElem hj)
  rw [hv] at h1; cases h1
  rw [List.getElem?_eq_getElem hj] at hl
  generalize S.objs[j] = o at h3 hl
  cases o with
  | blk cs ty =>
    obtain ⟨b, vs, rfl, _, rfl⟩ := h3
    cases hk
    exact ⟨_, h2, rfl, rfl⟩
  | own r t =>
    obtain ⟨A, n, c, xs, rfl, _, _, _, rfl⟩ := h3
    exact ⟨_, h2, rfl, hk⟩
  | dead => cases hl
  | fr =>
    obtain ⟨rfl, _⟩ := h3
    cases hk
theorem RI.start (h : Rel E w0 ρ σ S a w) {d : DI} (hm : d.m0 = S.objs.length) (hok : okReg S d = true) : RI E w0 d w.heap.size σ ρ σ w := by
  obtain ⟨L, hO, hM⟩ := h.mem
  unfold okReg at hok
  simp only [Bool.and_eq_true] at hok
  obtain ⟨⟨o1, o2⟩, o3⟩ := hok
  obtain ⟨hbL, hLL⟩ := List.pairwise_cons.1 hM.apart
  have hpair := List.pairwise_iff_getElem.1 hLL
  have hMl : ∀ j ∈ d.M, ∀ v k, σ[j]? = some v → blkV v = some k → ∃ f, L[j]? = some f ∧ f.wr = true ∧ f.at k := fun j hj v k hv hk => by
    have := List.all_eq_true.1 o1 j hj
    simp only [Bool.and_eq_true, decide_eq_true_eq, Bool.not_eq_true'] at this
    exact live_at hO this.1 this.2 hv hk
  have hlt : ∀ {j : Nat} {f : Fact} {k : Nat}, L[j]? = some f → f.at k → k < w.heap.size := fun hf hk => Fact.lt (hM.holds _ (List.mem_cons_of_mem _ (List.mem_of_getElem? hf))) hk
  refine ⟨List.prefix_refl _, by rw [hm, hO.l1], hM.size, Nat.le_refl _, fun k hk hB => ?_, fun j hj hjM hjD v k hv hk hB => ?_, fun j hj v k hv hk => ?_⟩
  · rcases hB with hB | ⟨j, hj, v, hv, hk2⟩
    · have := hM.size; omega
    · obtain ⟨f, f1, f2, f3⟩ := hMl j hj v k hv hk2
      rcases hM.own f (List.mem_cons_of_mem _ (List.mem_of_getElem? f1)) f2 k f3 with h1 | h1
      · omega
      · cases h1
  · have hjl : j < S.objs.length := by rw [← hm]; exact hj
    have hlive : isDead S.objs[j]? = false := by
      have := List.all_eq_true.1 o3 j (by simpa using hjl)
      simp only [Bool.or_eq_true, Bool.not_eq_true'] at this
      rcases this with (h1 | h1) | h1
      · rw [hjM] at h1; cases h1
      · rw [hjD] at h1; cases h1
      · exact h1
    obtain ⟨f, f1, f2, f3⟩ := live_at hO hjl hlive hv hk
    rcases hB with hB | ⟨j', hj', v', hv', hk'⟩
    · have := hlt f1 f3; omega
    · obtain ⟨g, g1, g2, g3⟩ := hMl j' hj' v' k hv' hk'
      obtain ⟨l1, rfl⟩ := List.getElem?_eq_some_iff.1 f1
      obtain ⟨l2, rfl⟩ := List.getElem?_eq_some_iff.1 g1
      have hne : j ≠ j' := fun e => by
        subst e
        rw [List.contains_iff_mem.2 hj'] at hjM; cases hjM
      rcases Nat.lt_or_gt_of_ne hne with hlt' | hlt'
      · exact hpair _ _ l1 l2 hlt' (by rw [f2]; rfl) k f3 g3
      · exact hpair _ _ l2 l1 hlt' (by rw [g2]; rfl) k g3 f3
  · have := (List.getElem?_eq_some_iff.1 hv).1
    rw [← hO.l1] at this
    omega
theorem RI.wider {d : DI} {n0 : Nat} (h : RI E w0 d n0 σ0 ρ σ w) (hs : w.heap.size ≤ w'.heap.size) {x : List Value} (hx : ∀ u ∈ x, ∀ k, blkV u = some k → regB n0 σ0 d.M k) : RI E w0 d n0 σ0 ρ (σ ++ x) w' :=
  ⟨h.pre.trans (List.prefix_append _ _), h.m0, h.lo, Nat.le_trans h.hi hs, h.old, h.prot, fun j hj v k hv hk => by
    by_cases hlt : j < σ.length
    · rw [List.getElem?_append_left hlt] at hv
      exact h.new j hj v k hv hk
    · rw [List.getElem?_append_right (by omega)] at hv
      exact hx v (List.mem_of_getElem? hv) k hk⟩
theorem RI.at (hS : S.objs.length = σ.length) {d : DI} {n0 : Nat} (h : RI E w0 d n0 σ0 ρ σ w) {j : Nat} (hj : mayW d j = true) {v : Value} {k : Nat} (hv : σ[j]? = some v) (hk : blkV v = some k) : regB n0 σ0 d.M k := by
  unfold mayW at hj
  by_cases hlt : d.m0 ≤ j
  · exact h.new j hlt v k hv hk
  · have hM : d.M.contains j = true := by simpa [hlt] using hj
    exact .inr ⟨j, List.contains_iff_mem.1 hM, v, get_down h.pre (by rw [h.m0]; omega) hv, hk⟩
theorem ownArg_ok {l : List AV} {j r : Nat} {t : Tm} (h : ownArg S l = some (j, r, t)) : S.objs[j]? = some (.own r t) := by
  unfold ownArg at h
  split at h
  · cases h
  · split at h
    · rename_i hob
      cases h
      exact hob
    · cases h
theorem shareD_ok {sgs : Nat → Option Sig} {j r : Nat} {t : Tm} (h : shareD S sgs o = some (j, r, t)) : S.objs[j]? = some (.own r t) := by
  unfold shareD at h
  split at h
  · split at h
    · cases h
    · exact ownArg_ok h
    · cases h
  · exact ownArg_ok h
  · exact ownArg_ok h
  · split at h
    · cases h
    · split at h
      · cases h
      · exact ownArg_ok h
theorem pickD_ok {X : Ctx} {d : DI} {os : List Oper} {listed : Array Bool} : ∀ {r : List Nat} {i : Nat} {q : Option (AV × List Tm)}, pickD X S d os listed r = some (i, q) → i ∈ r ∧ ∃ o, os[i]? = some o ∧ Region.free .any os.toArray listed i = true ∧
    (match q with
      | none => guardOf S os o = .no
      | some p => guardOf S os o = .yes ∧ ((d.hoist = true ∧ evalQ X S.slots (maskO d.m0 d.M S.objs 0) S.known o = some p) ∨ idxOwn X S o = some p ∨ slotQ X S o = some p))
  | [], i, q, h => by cases h
  | i' :: r, i, q, h => by
    have rc := fun h : pickD X S d os listed r = some (i, q) => pickD_ok h
    simp only [pickD] at h
    split at h
    · rename_i o ho
      split at h
      · rename_i hf
        split at h
        · rename_i hg
          cases h
          exact ⟨List.mem_cons_self, o, ho, hf, hg⟩
        · rename_i hg
          split at h
          · rename_i p hp
            cases h
            split at hp
            case isFalse => cases hp
            rename_i hh
            rw [Bool.and_eq_true] at hh
            exact ⟨List.mem_cons_self, o, ho, hf, hg, .inl ⟨hh.1, hp⟩⟩
          · split at h
            · rename_i p hp
              cases h
              exact ⟨List.mem_cons_self, o, ho, hf, hg, .inr (.inl hp)⟩
            · split at h
              · rename_i p hp
                cases h
                split at hp
                · cases hp
                · exact ⟨List.mem_cons_self, o, ho, hf, hg, .inr (.inr hp)⟩
              · exact ⟨List.mem_cons_of_mem _ (rc h).1, (rc h).2⟩
        · exact ⟨List.mem_cons_of_mem _ (rc h).1, (rc h).2⟩
      · exact ⟨List.mem_cons_of_mem _ (rc h).1, (rc h).2⟩
    · exact ⟨List.mem_cons_of_mem _ (rc h).1, (rc h).2⟩
theorem idxOwn_ok (h : Rel E w0 ρ σ S a w) {r : AV} {obs : List Tm} (hq : idxOwn E.cx S o = some (r, obs)) (hob : obsOk E.Δ ρ obs) : ∃ v, VR E ρ σ r v ∧ ∀ w', (execOp a.eval o).run E.P w' = .ok (.value v) w' := by
  obtain ⟨L, hO, hM⟩ := h.mem
  unfold idxOwn at hq
  split at hq
  case h_2 => cases hq
  rename_i t x ix ho
  split at hq
  case h_2 => cases hq
  rename_i j hx
  have hi := opd_ok h.slots ix
  have hx' := opd_ok h.slots x
  rw [hx] at hx'
  unfold qIndexAddr at hq
  simp only [Option.bind_eq_some_iff] at hq
  obtain ⟨⟨i, kd⟩, hqi, hq⟩ := hq
  split at hq
  case isFalse => cases hq
  rename_i hk
  simp only at hk
  subst hk
  obtain ⟨n, d1, e1⟩ := opdI_ok hi hqi
  split at hq
  · rename_i e hu
    split at hq
    case h_2 => cases hq
    rename_i r' s hj
    split at hq
    case isFalse => cases hq
    rename_i hsz
    cases hq
    obtain ⟨v, f, g1, g2, A, m, c, xs, rfl, g3, g4, g5, rfl⟩ := hO.get j _ hj
    obtain ⟨hσ, _⟩ := hx'
    rw [g1] at hσ
    have hσ' := Option.some.inj hσ
    subst g5
    obtain ⟨h0, h1⟩ := idx_of d1.now (n := mkLen s) (m := xs.length) (by rw [mkLen_den]; simp [g3.now, Dat.xs]) hob
    have hrd := (hM.ow (List.mem_cons_of_mem _ (List.mem_of_getElem? g2))).rd
    refine ⟨pt A (n.toNat * (E.Δ.row r').length), ⟨A, _, 0, ⟨_, _, n, g1, d1, h0, h1, rfl⟩, rfl, rfl⟩, fun w' => ?_⟩
    obtain ⟨A', c', e', hc, hlen, ha⟩ := hrd
    cases e'
    obtain ⟨ad, rfl, _, _⟩ := ha (by omega)
    simp only [szT, Option.map_eq_some_iff] at hsz
    obtain ⟨ii, hii, hsz⟩ := hsz
    unfold execOp
    simp [ho, hσ'.symm, e1, Instr.indexAt, asIntOf, Sem.run_bind, run_underlying (show E.P.underlying t = some (.slice e) from hu), h0, h1, sizeOf, typeInfo, show E.P.info? e = some ii from hii, hsz, pt_eq]
    rfl
  · simp [opdR] at hq
  · cases hq
theorem slotQ_ok (h : Rel E w0 ρ σ S a w) {r : AV} {obs : List Tm} (hq : slotQ E.cx S o = some (r, obs)) : ∃ v, VR E ρ σ r v ∧ ∀ w', (execOp a.eval o).run E.P w' = .ok (.value v) w' := by
  unfold slotQ at hq
  split at hq
  · rename_i x ho
    cases hq
    exact ⟨_, opd_ok h.slots x, fun w' => by unfold execOp; simp [ho]⟩
  · rename_i t x k ho
    have hx := opd_ok h.slots x
    unfold qFieldAddr at hq
    simp only [Option.bind_eq_some_iff] at hq
    obtain ⟨⟨b, off, dyn⟩, hr, hq⟩ := hq
    obtain ⟨A, p, q, k1, k2, k3⟩ := opdR_ok hx hr
    split at hq
    · rename_i fs hu
      split at hq
      · rename_i f hf
        split at hq
        · rename_i hz
          cases hq
          refine ⟨_, ⟨A, p, q, k1, k2, rfl⟩, fun w => ?_⟩
          rw [show p + (off + f.offset) + q = p + off + q + f.offset by omega]
          exact R_field ho k3 hu hf hz
        · cases hq
      · cases hq
    · cases hq
  · cases hq
theorem askD_ok {os : List Oper} : ∀ {r : List Nat} {t : Tm}, askD S os r = some t → ∃ o, guardOf S os o = .ask t
  | [], t, h => by cases h
  | i :: r, t, h => by
    simp only [askD] at h
    split at h
    · rename_i o ho
      split at h
      · rename_i t' hg
        cases h
        exact ⟨o, hg⟩
      · exact askD_ok h
    · exact askD_ok h
theorem set_arr (l : List Bool) (i : Nat) : (l.set i true).toArray = l.toArray.setIfInBounds i true := by simp

theorem run_ok1 (hW : E.Wf) (hmix : E.P.follows .mixedOrders = true) {sgs : Nat → Option Sig} {Φ : Nat → Spec} (hΦ : ∀ f sg, sgs f = some sg → Prom E f sg (Φ f)) {F : Fin} {Post : List Dat → Prop}
    (hdie : ∀ T d w, F.sg.pan = some T → Has E.Δ .err d → DieR E w0 w → Post [.bool false, d] → ∀ a : Act, a.defers = [] → Fn (.panic (pvL T d)) a w)
    (hFn : ∀ a w, Fn .normal a w → Fn .ret a w) (hfin : ∀ S a w ρ σ ts, Rel E w0 ρ σ S a w → E.s0 <+: σ → finTms E.cx F S = some ts → Post (ts.map (den E.Δ ρ)) → Fn .normal a w) {n : Nat}
    (ih : ∀ (lv : Nat) (S : St) (k : List K) (ρ : List Dat) (σ : List Value) (X : List (Inv × Nat)) (Q : Exit → Act → World → Prop) (a : Act) (w : World), lv = X.length → SK E w0 Fn X ρ σ k Q → Rel E w0 ρ σ S a w →
      wp E.Δ Φ Post (run E.cx sgs F n lv S k) ρ X → Q .normal a w)
    (ihD : ∀ (lv : Nat) (S : St) (k : List K) (ρ : List Dat) (σ : List Value) (X : List (Inv × Nat)) (Q : Exit → Act → World → Prop) (a : Act) (w : World) (d : DI) (fuel : Nat) (listed : List Bool) (os : List Oper) (n0 : Nat) (σ0 : List Value), lv = X.length → SK E w0 Fn X ρ σ k Q → Rel E w0 ρ σ S a w →
      (d.hoist = true → RI E w0 d n0 σ0 ρ σ w) → Region.noSelect os.toArray = true → wp E.Δ Φ Post (run E.cx sgs F n lv S (.drw d fuel listed os :: k)) ρ X → wpAnyR E.P .any os.toArray d.hoist (wB E ρ (regB n0 σ0 d.M)) Q fuel listed.toArray a w) :
    ∀ (lv : Nat) (S : St) (k : List K) (ρ : List Dat) (σ : List Value) (X : List (Inv × Nat)) (Q : Exit → Act → World → Prop) (a : Act) (w : World), lv = X.length → SK E w0 Fn X ρ σ k Q → Rel E w0 ρ σ S a w →
      wp E.Δ Φ Post (run E.cx sgs F (n + 1) lv S k) ρ X → Q .normal a w := by
  intro lv S k ρ σ X Q a w hlv hk h hw
  cases k with
  | nil => exact hw.elim
  | cons x k =>
  cases x with
  | code c =>
    cases hk with
    | code hk =>
    rename_i Q
    show c.wp E.P Q a w
    cases c with
    | skip => exact wp_skip (ih lv S k ρ σ X Q a w hlv hk h hw)
    | seq x y => exact wp_seq (ih lv S _ ρ σ X _ a w hlv (.code (.code hk)) h hw)
    | cond c x y =>
      simp only [run, fAV_eq, fPut_eq, fKnow_eq, fCall_eq, fDeep_eq] at hw
      split at hw
      · rename_i S1 obs hp
        split at hp
        case isFalse => cases hp
        obtain ⟨w1, w2⟩ := obT_wp h.known hw
        obtain ⟨_, hc⟩ := pureC_ok hW _ _ _ _ _ hp a w h w1
        refine wp_mono hc fun e a' w' ⟨he, hr⟩ => ?_
        subst he
        exact ih lv _ k ρ σ X Q a' w' hlv hk hr w2
      split at hw
      · exact hw.elim
      · rename_i t ht
        obtain ⟨b, d1, e1⟩ := opdB_ok (opd_ok h.slots c) ht
        have key : ∀ (S' : St), Rel E w0 ρ σ S' a w → wp E.Δ Φ Post (run E.cx sgs F n lv S' (.code (if b then x else y) :: k)) ρ X → (Code.cond c x y).wp E.P Q a w := fun S' h' hw' => by
          refine wp_cond e1 ?_
          exact ih lv S' _ ρ σ X _ a w hlv (.code hk) h' hw'
        split at hw
        · rename_i hkn
          have := knows_ok h.known hkn
          rw [d1.now] at this; cases this
          exact key S h hw
        · rename_i hkn
          have := knows_ok h.known hkn
          rw [d1.now] at this; cases this
          exact key S h hw
        · split at hw
          case isFalse => exact hw.elim
          rename_i hb
          obtain ⟨w1, w2⟩ := hw
          cases b with
          | true => exact key _ (h.know hb d1.now) (w1 d1.now)
          | false => exact key _ (h.know hb d1.now) (w2 d1.now)
    | block id b => exact wp_block (ih lv S _ ρ σ X _ a w hlv (.code (.blk hk)) h hw)
    | exit id =>
      simp only [run, fAV_eq, fPut_eq, fKnow_eq, fCall_eq, fDeep_eq] at hw
      split at hw
      · rename_i k' hk'
        obtain ⟨Q', q1, q2⟩ := exitK_ok hk hk'
        exact wp_exit (q2 a w (ih lv S k' ρ σ X Q' a w hlv q1 h hw))
      · exact hw.elim
    | ret =>
      simp only [run, fAV_eq, fPut_eq, fKnow_eq, fCall_eq, fDeep_eq] at hw
      split at hw
      · rename_i k' hk'
        obtain ⟨Q', q1, q2⟩ := retK_ok hFn hk hk'
        exact wp_ret (q2 a w (ih lv S k' ρ σ X Q' a w hlv q1 h hw))
      · exact hw.elim
    | region id ops d =>
      cases d with
      | false =>
        simp only [run, fAV_eq, fPut_eq, fKnow_eq, fCall_eq, fDeep_eq] at hw
        have := (ih lv S _ ρ σ X _ a w hlv (.ops hk) h hw).1 rfl
        refine wp_region_list ?_
        simpa using this
      | true =>
        simp only [run, fL_eq fNat_eq, fL_eq fBool_eq, fNat_eq, fBool_eq] at hw
        split at hw
        case isFalse => exact hw.elim
        rename_i hsel
        split at hw
        case isFalse => exact hw.elim
        rename_i hc
        simp only [Bool.and_eq_true, decide_eq_true_eq, true_and] at hc
        have hdr := h.keep (Below.refl w.heap.size w).drew
        have hRI := RI.start hdr (d := ⟨S.objs.length, (regInfo E.cx.P S ops.toList).M, (regInfo E.cx.P S ops.toList).D, hoistB E.cx sgs S ops.toList⟩) rfl hc
        have := ihD lv S k ρ σ X Q a w.drew _ ops.size (List.replicate ops.size false) ops.toList _ _ hlv hk hdr (fun _ => hRI) (by simpa using hsel) hw
        refine wp_region_R (hs := hoistB E.cx sgs S ops.toList) hmix (wB E ρ (regB w.drew.heap.size σ (regInfo E.cx.P S ops.toList).M)) ?_
        simpa using this
    | loop b =>
      simp only [run, fAV_eq, fPut_eq, fKnow_eq, fCall_eq, fDeep_eq] at hw
      split at hw
      · exact loop_once (ih lv S (.code b :: .inl b :: k) ρ σ X _ a w hlv (.code (.inl hk)) h hw)
      split at hw
      · rename_i j c e own hfix
        obtain ⟨x, _, hr⟩ := h.fixNil j c e own
        exact ih lv _ (.code (.loop b) :: k) ρ (σ ++ x) X _ a w hlv (.code (hk.up (List.prefix_refl _) (List.prefix_append _ _))) hr hw
      split at hw
      case h_2 => exact hw.elim
      rename_i l hl
      split at hw
      case isFalse => exact hw.elim
      rename_i hc
      obtain ⟨I, ⟨m0, hI0⟩, hall⟩ := hw
      have hobj : S.objs.length = σ.length := by obtain ⟨L, hO, _⟩ := h.mem; exact hO.l1
      rw [h.n, hobj] at hc
      obtain ⟨hs0, σx, hr0⟩ := chk_ok h (List.prefix_refl _) (List.prefix_refl _) h.pre hc
      refine wp_loop_ghost (fun m a w => ∃ xs σx, I xs m ∧ All2 (Has E.Δ) (l.map (·.2)) xs ∧ Rel E w0 (ρ ++ xs) (σ ++ σx) (mkHead E.cx S b).1 a w) m0 ⟨_, σx, hI0, hs0, hr0⟩ fun m a w hinv => ?_
      obtain ⟨xs, σx, hI, hs, hr⟩ := hinv
      have hbody := allS_use hall hs m hI
      have hk2 : SK E w0 Fn (X ++ [(I, m)]) (ρ ++ xs) (σ ++ σx) (.code b :: .again lv (mkHead E.cx S b).1 ρ.length σ.length (mkHead E.cx S b).2 (l.map (·.2)) :: k) _ :=
        .code (.again (I := (I, m)) (by rw [hlv]; simp) (List.prefix_append ρ xs) (List.prefix_append σ σx) h.pre (by simpa using hk.more [(I, m)] [] []))
      rw [h.n, hobj] at hbody
      exact ih (lv + 1) _ _ _ _ _ _ a w (by simp [hlv]) hk2 hr hbody
    | rangeFunc _ _ _ _ => exact hw.elim
    | scope _ => exact hw.elim
    | label _ => exact hw.elim
    | goto _ => exact hw.elim
    | refuse _ => exact hw.elim
  | blk id =>
    cases hk with
    | blk hk =>
    rename_i Q
    show Q .normal a w
    exact ih lv S k ρ σ X Q a w hlv hk h hw
  | inl b =>
    cases hk with
    | inl hk =>
    rename_i Q
    show inLoop E.P b Q a w
    simp only [run, fAV_eq, fPut_eq, fKnow_eq, fCall_eq, fDeep_eq] at hw
    split at hw
    · exact inLoop_once (ih lv S (.code b :: .inl b :: k) ρ σ X _ a w hlv (.code (.inl hk)) h hw)
    split at hw
    · rename_i j c e own hfix
      obtain ⟨x, _, hr⟩ := h.fixNil j c e own
      exact ih lv _ (.inl b :: k) ρ (σ ++ x) X _ a w hlv (.inl (hk.up (List.prefix_refl _) (List.prefix_append _ _))) hr hw
    split at hw
    case h_2 => exact hw.elim
    rename_i l hl
    split at hw
    case isFalse => exact hw.elim
    rename_i hc
    obtain ⟨I, ⟨m0, hI0⟩, hall⟩ := hw
    have hobj : S.objs.length = σ.length := by obtain ⟨L, hO, _⟩ := h.mem; exact hO.l1
    rw [h.n, hobj] at hc
    obtain ⟨hs0, σx, hr0⟩ := chk_ok h (List.prefix_refl _) (List.prefix_refl _) h.pre hc
    refine inLoop_ghost (fun m a w => ∃ xs σx, I xs m ∧ All2 (Has E.Δ) (l.map (·.2)) xs ∧ Rel E w0 (ρ ++ xs) (σ ++ σx) (mkHead E.cx S b).1 a w) m0 ⟨_, σx, hI0, hs0, hr0⟩ fun m a w hinv => ?_
    obtain ⟨xs, σx, hI, hs, hr⟩ := hinv
    have hbody := allS_use hall hs m hI
    have hk2 : SK E w0 Fn (X ++ [(I, m)]) (ρ ++ xs) (σ ++ σx) (.code b :: .again lv (mkHead E.cx S b).1 ρ.length σ.length (mkHead E.cx S b).2 (l.map (·.2)) :: k) _ :=
      .code (.again (I := (I, m)) (by rw [hlv]; simp) (List.prefix_append ρ xs) (List.prefix_append σ σx) h.pre (by simpa using hk.more [(I, m)] [] []))
    rw [h.n, hobj] at hbody
    exact ih (lv + 1) _ _ _ _ _ _ a w (by simp [hlv]) hk2 hr hbody
  | again lvl H n0 m0 srcs ss =>
    cases hk with
    | again hx hp hq hpre hk =>
    rename_i ρ0 σ0 Q I
    simp only [run, fAV_eq, fPut_eq, fKnow_eq, fCall_eq, fDeep_eq] at hw
    split at hw
    case h_2 => exact hw.elim
    rename_i l hl
    split at hw
    case isFalse => exact hw.elim
    rename_i hc
    simp only [wp, hx] at hw
    obtain ⟨m', hm', hI⟩ := hw
    obtain ⟨hs0, σx, hr0⟩ := chk_ok h hp hq hpre hc
    exact ⟨m', hm', _, σx, hI, hs0, hr0⟩
  | ops l os =>
    cases hk with
    | ops hk =>
    rename_i Q
    refine ⟨fun _ => ?_, fun ch e => by cases e⟩
    cases l with
    | nil => exact ih lv S k ρ σ X Q a w hlv hk h hw
    | cons o l =>
    simp only [run, fAV_eq, fPut_eq, fKnow_eq, fCall_eq, fDeep_eq] at hw
    have hg := guardOf_ok (o := o) h (os := os)
    split at hw
    · exact hw.elim
    · rename_i hgd
      rw [hgd] at hg
      refine wpList_step fun K' hK => ?_
      rw [if_neg (by rw [hg]; exact Bool.false_ne_true)]
      exact hK _ _ ((ih lv _ _ ρ σ X _ _ w hlv (.ops hk) (h.puts (x := .v (.c .undef)) (v := undef) rfl o.dst) hw).1 rfl)
    · rename_i t hgd
      rw [hgd] at hg
      obtain ⟨b, hd⟩ := hg
      split at hw
      · rename_i S1 obs hp
        split at hp
        case isFalse => cases hp
        obtain ⟨w1, w2⟩ := obT_wp h.known hw
        have := (pureOps_ok (rest := []) (Q := Q) hW (pureF_ok hW 200) 400 (o :: l) _ _ _ hp a w h w1).2 fun a' w' hr _ => ih lv _ _ ρ σ X _ a' w' hlv hk hr w2
        rw [List.append_nil] at this
        exact this
      split at hw
      case isFalse => exact hw.elim
      rename_i hb
      obtain ⟨w1, w2⟩ := hw
      cases b with
      | true => exact (ih lv _ _ ρ σ X _ a w hlv (.ops hk) (h.know hb hd.now) (w1 hd.now)).1 rfl
      | false => exact (ih lv _ _ ρ σ X _ a w hlv (.ops hk) (h.know hb hd.now) (w2 hd.now)).1 rfl
    · rename_i hgd
      rw [hgd] at hg
      split at hw
      · rename_i t e hna
        obtain ⟨x, _, hr⟩ := h.slotNil t e
        exact (ih lv _ _ ρ (σ ++ x) X _ a w hlv (.ops (hk.up (List.prefix_refl _) (List.prefix_append _ _))) hr hw).1 rfl
      split at hw
      · rename_i f sg le ts hle
        obtain ⟨args, hcal, hsg, hn, rfl, hts⟩ := lendD_ok h hle
        obtain ⟨⟨fc, hbo⟩, hpr⟩ := hΦ f sg hsg
        rw [if_pos (by simpa using hn.1)] at hpr
        obtain ⟨hok, hH⟩ := hpr
        obtain ⟨vs, v1, v2, v3⟩ := callee_ok h hcal hbo
        simp only [List.map_nil, List.append_nil] at v1
        refine wpList_wanted hg fun K' hK => ?_
        unfold Oper.wp
        rw [v3 w, Oper.upon_enter]
        refine (h.lend hok hH hn.2 v1 hts hw o.dst).mono fun e w' ⟨u, σ', rs, q1, q2, q3, q4, _, x, q5, _⟩ => ?_
        subst q1 q5
        exact hK _ _ ((ih lv _ _ _ _ X _ _ w' hlv (.ops (hk.up (List.prefix_append _ _) (List.prefix_append _ _))) q4 q3).1 rfl)
      split at hw
      · rename_i e ct hli
        obtain ⟨A, x, w', u, hnew, hb, hrun, hr⟩ := litD_ok h hli
        refine wpList_wanted hg fun K' hK => ?_
        unfold Oper.wp
        simp only [hrun, Oper.upon]
        exact hK _ _ ((ih lv _ _ _ _ X _ _ w' hlv (.ops (hk.up (List.prefix_append _ _) (List.prefix_append _ _))) hr (hw A)).1 rfl)
      split at hw
      · rename_i t j r ct hbk
        obtain ⟨A, c, hr⟩ := blkD_share h hbk
        exact (ih lv _ _ _ σ X _ a w hlv (.ops (hk.up (List.prefix_append _ _) (List.prefix_refl _))) hr (hw A c)).1 rfl
      split at hw
      · rename_i j r t hsh
        obtain ⟨A, c, _, hr⟩ := h.share (shareD_ok hsh)
        exact (ih lv _ _ _ σ X _ a w hlv (.ops (hk.up (List.prefix_append _ _) (List.prefix_refl _))) hr (hw A c)).1 rfl
      split at hw
      · rename_i j r t hpre
        obtain ⟨A, c, _, hr⟩ := h.share (preD_ok hpre)
        exact (ih lv _ _ _ σ X _ a w hlv (.ops (hk.up (List.prefix_append _ _) (List.prefix_refl _))) hr (hw A c)).1 rfl
      · rename_i j c e hpre
        obtain ⟨x, _, hr⟩ := h.fixNil j c e true
        exact (ih lv _ _ ρ (σ ++ x) X _ a w hlv (.ops (hk.up (List.prefix_refl _) (List.prefix_append _ _))) hr hw).1 rfl
      split at hw
      · rename_i S' hS'
        obtain ⟨v, σ', w', u, rfl, _, hb, hrun, hr⟩ := evalN_ok h hS'
        refine wpList_wanted hg fun K' hK => ?_
        unfold Oper.wp
        simp only [hrun, Oper.upon]
        exact hK _ _ ((ih lv _ _ ρ _ X _ _ w' hlv (.ops (hk.up (List.prefix_refl _) (List.prefix_append _ _))) hr hw).1 rfl)
      split at hw
      · rename_i x obs hq
        obtain ⟨w1, w2⟩ := obT_wp h.known hw
        obtain ⟨L, hO, hM⟩ := h.mem
        obtain ⟨v, v1, v2⟩ := evalQ_ok (w0 := w0) hW hO h.pre h.known h.slots ⟨w, hM⟩ hq w1
        refine wpList_wanted hg fun K' hK => ?_
        unfold Oper.wp
        simp only [v2 w hM, Oper.upon]
        exact hK _ _ ((ih lv _ _ ρ σ X _ _ w hlv (.ops hk) (h.puts v1 o.dst) w2).1 rfl)
      split at hw
      · rename_i S' obs hq
        obtain ⟨w1, w2⟩ := obT_wp h.known hw
        obtain ⟨σ', w', x, rfl, _, hr⟩ := evalW_ok h hq w1
        refine wpList_wanted hg fun K' hK => ?_
        unfold Oper.wp
        rcases hr with ⟨hrun, hr⟩ | ⟨u, hrun, hr⟩
        · simp only [hrun, Oper.upon]
          exact hK _ _ ((ih lv _ _ ρ _ X _ _ w' hlv (.ops (hk.up (List.prefix_refl _) (List.prefix_append _ _))) hr w2).1 rfl)
        · simp only [hrun, Oper.upon]
          exact hK _ _ ((ih lv _ _ ρ _ X _ _ w' hlv (.ops (hk.up (List.prefix_refl _) (List.prefix_append _ _))) hr w2).1 rfl)
      split at hw
      · rename_i S' obs hq
        obtain ⟨w1, w2⟩ := obT_wp h.known hw
        obtain ⟨v, w', u, _, hb, hrun, hr⟩ := evalA_ok h hq w1
        refine wpList_wanted hg fun K' hK => ?_
        unfold Oper.wp
        simp only [hrun, Oper.upon]
        exact hK _ _ ((ih lv _ _ ρ _ X _ _ w' hlv (.ops (hk.up (List.prefix_refl _) (List.prefix_append _ _))) hr w2).1 rfl)
      split at hw
      · exact hw.elim
      rename_i f caps args hcal
      split at hw
      · rename_i S1 obs hp
        split at hp
        case isFalse => cases hp
        obtain ⟨w1, w2⟩ := obT_wp h.known hw
        exact (pureOps_ok (rest := l) (Q := Q) hW (pureF_ok hW 200) 400 [o] _ _ _ hp a w h w1).2 fun a' w' hr _ => (ih lv _ _ ρ σ X _ a' w' hlv (.ops hk) hr w2).1 rfl
      split at hw
      · rename_i sg hsg
        obtain ⟨⟨fc, hbo⟩, hpr⟩ := hΦ f sg hsg
        split at hw
        · rename_i hblk
          rw [if_neg (by rw [hblk]; exact Bool.noConfusion)] at hpr
          split at hw
          · rename_i ts js ow hin
            obtain ⟨hcaps, _⟩ := inD_go hin
            subst hcaps
            obtain ⟨vs, v1, v2, v3⟩ := callee_ok h hcal hbo
            simp only [List.map_nil, List.append_nil] at v1
            refine wpList_wanted hg fun K' hK => ?_
            unfold Oper.wp
            rw [v3 w, Oper.upon_enter]
            split at hw
            · rename_i hpan
              refine (h.callP hpr.1 hpr.2 v1 hin hw o.dst).mono fun e w' hend => ?_
              rw [hpan] at hend
              rcases hend with ⟨u, σ', rs, rfl, q3, q4, _, x, rfl⟩ | ⟨T, d, hT, _⟩
              · exact hK _ _ ((ih lv _ _ _ _ X _ _ w' hlv (.ops (hk.up (List.prefix_append _ _) (List.prefix_append _ _))) q4 q3).1 rfl)
              · cases hT
            · rename_i T hpan
              split at hw
              case isFalse => exact hw.elim
              rename_i hc
              refine (h.callP hpr.1 hpr.2 v1 hin hw o.dst).mono fun e w' hend => ?_
              rw [hpan] at hend
              rcases hend with ⟨u, σ', rs, rfl, q3, q4, _, x, rfl⟩ | ⟨T', d, hT, hW2, hd, rfl, hD⟩
              · exact hK _ _ ((ih lv _ _ _ _ X _ _ w' hlv (.ops (hk.up (List.prefix_append _ _) (List.prefix_append _ _))) q4 q3).1 rfl)
              · cases hT
                exact hk.die (D := fun w => DieR E w0 w) (fun a w ha hD => hdie T d w hc.1 hd hD hW2 a ha) a w' h.defers (hD _ hc.2)
          · exact hw.elim
        rename_i hblk
        rw [if_pos (by simpa using hblk)] at hpr
        obtain ⟨hok, hH⟩ := hpr
        split at hw
        case isFalse => exact hw.elim
        rename_i hcaps
        have hce : caps = [] := by simpa using hcaps
        subst hce
        split at hw
        · rename_i ts hts
          obtain ⟨vs, v1, v2, v3⟩ := callee_ok h hcal hbo
          simp only [List.map_nil, List.append_nil] at v1
          refine wpList_wanted hg fun K' hK => ?_
          unfold Oper.wp
          rw [v3 w, Oper.upon_enter]
          refine (h.call hok hH v1 hts hw o.dst).mono fun e w' ⟨u, σ', rs, q1, q2, q3, q4, _, x, q5, _⟩ => ?_
          subst q1 q5
          exact hK _ _ ((ih lv _ _ _ _ X _ _ w' hlv (.ops (hk.up (List.prefix_append _ _) (List.prefix_append _ _))) q4 q3).1 rfl)
        · exact hw.elim
      · split at hw
        · rename_i fn c hbo
          obtain ⟨vs, v1, v2, v3⟩ := callee_ok h hcal hbo
          obtain ⟨b1, b2, _⟩ := bodyOf_ok hbo
          refine wpList_wanted hg fun K' hK => ?_
          unfold Oper.wp
          rw [v3 w, Oper.upon_enter]
          have hbody : c.wp E.P (bodyPost E.P fn fun e w' => (∃ v, e = .returned v ∧ ((Exit.normal = Exit.normal → wpList E.P os.toArray Q l (a.put o.dst v) w') ∧ ∀ ch, Exit.normal = .panic ch → Q .normal (a.put o.dst v) w')) ∨ ∃ ch, e = .panicked ch ∧ ((Exit.panic ch = Exit.normal → wpList E.P os.toArray Q l a w') ∧ ∀ ch', Exit.panic ch = .panic ch' → Q (.panic ch) a w')) { tmps := vs.toArray ++ Array.replicate (fn.ntmps - vs.toArray.size) undef, defers := [] } w := by
            have hr : Rel E w0 ρ σ { S with slots := (args ++ caps.map fun x => .v (.c (.p x))) ++ List.replicate (fn.ntmps - (args.length + caps.length)) (.v (.c .undef)) } { tmps := vs.toArray ++ Array.replicate (fn.ntmps - vs.toArray.size) undef, defers := [] } w := by
              refine ⟨?_, rfl, h.n, h.known, h.mem, h.pre, h.reach⟩
              simp only [Array.toList_append, Array.toList_replicate, List.size_toArray, v2]
              exact v1.append (All2.replicate (show VR E ρ σ (.v (.c .undef)) undef from rfl) _)
            exact ih lv _ _ ρ σ X _ _ w hlv (.code (.back h.slots h.defers (.ops hk))) hr hw
          refine (calls_of_wp b1 b2 hbody).mono fun e w' hend => ?_
          rcases hend with ⟨v, rfl, hl⟩ | ⟨ch, rfl, hl⟩
          · exact hK _ _ (hl.1 rfl)
          · exact hl.2 ch rfl
        · exact hw.elim
  | drw d fuel listed os => cases hk
  | rgn sl dst res d fuel listed os =>
    cases hk with
    | rgn hs hd hno hsel hk =>
    rename_i Q ac fn
    simp only [run, fAV_eq, fPut_eq, fKnow_eq, fCall_eq, fDeep_eq] at hw
    split at hw
    · rename_i l hl
      obtain ⟨vs, v1, v2⟩ := resAll_ok hW h hl
      refine ⟨h.defers, retV vs, run_results v2, .inl ⟨retV vs, rfl, ?_⟩⟩
      have hr : Rel E w0 ρ σ { S with slots := putO sl dst (retAV l) } (ac.put dst (retV vs)) w := ⟨putO_ok hs (retAV_ok v1) dst, by rw [put_defers]; exact hd, h.n, h.known, h.mem, h.pre, h.reach⟩
      have := ihD lv _ k ρ σ X Q _ w d fuel listed os 0 [] hlv hk hr (fun e => by rw [hno] at e; cases e) hsel hw
      rw [hno] at this
      exact wpAnyR_free _ _ _ _ this
    · exact hw.elim
  | ev d fuel listed os l => cases hk
  | fin =>
    cases hk with
    | fin h0 =>
    simp only [run, fAV_eq, fPut_eq, fKnow_eq, fCall_eq, fDeep_eq] at hw
    split at hw
    · rename_i ts hts
      exact hfin S a w ρ σ ts h h0 hts hw
    · split at hw
      · split at hw
        · rename_i j hj r t hob
          obtain ⟨A, c, _, hr⟩ := h.share hob
          exact ih lv _ _ _ σ X _ a w hlv (.fin h0) hr (hw A c)
        · exact hw.elim
      · split at hw
        · split at hw
          · rename_i hob
            obtain ⟨A, c, _, hr⟩ := h.share hob
            exact ih lv _ _ _ σ X _ a w hlv (.fin h0) hr (hw A c)
          · exact hw.elim
        · rename_i j c e hpb
          obtain ⟨x, _, hr⟩ := h.fixNil j c e true
          exact ih lv _ _ ρ (σ ++ x) X _ a w hlv (.fin (h0.trans (List.prefix_append _ _))) hr hw
        · exact hw.elim
  | back sl dst res =>
    cases hk with
    | back hs hd hk =>
    rename_i Q ac fn
    simp only [run, fAV_eq, fPut_eq, fKnow_eq, fCall_eq, fDeep_eq] at hw
    split at hw
    · rename_i l hl
      obtain ⟨vs, v1, v2⟩ := resAll_ok hW h hl
      refine ⟨h.defers, retV vs, run_results v2, .inl ⟨retV vs, rfl, ?_⟩⟩
      have hr : Rel E w0 ρ σ { S with slots := putO sl dst (retAV l) } (ac.put dst (retV vs)) w := ⟨putO_ok hs (retAV_ok v1) dst, by rw [put_defers]; exact hd, h.n, h.known, h.mem, h.pre, h.reach⟩
      exact ih lv _ _ ρ σ X Q _ w hlv hk hr hw
    · exact hw.elim
theorem bothT_wp {Δ : Tab} {Φ : Nat → Spec} {Post : List Dat → Prop} {x y : Tree} {l : List Nat} {ρ : List Dat} {X : List (Inv × Nat)} (h : wp Δ Φ Post (bothT x l y) ρ X) : wp Δ Φ Post x ρ X ∧ (l ≠ [] → wp Δ Φ Post y ρ X) := by
  cases l with
  | nil => exact ⟨h, fun e => absurd rfl e⟩
  | cons a l => exact ⟨h.1, fun _ => h.2⟩
theorem wpOp_no {P : Program} {ops : Array Oper} {i : Nat} {o : Oper} {a : Act} {w : World} {B : Nat → Prop} {Q : Exit → Act → World → Prop} {hs : Bool} {K : Act → World → Prop} (hi : ops[i]? = some o) (hw : Region.wanted o (yielded ops a.tmps) = false) (h : K (a.put o.dst undef) w) : wpOp P ops Q i (fun a' w' => LtO hs B w w' ∧ K a' w') a w := by
  unfold wpOp
  simp only [hi, hw, Bool.false_eq_true, if_false]
  exact ⟨fun _ => Lt.refl B w, h⟩
theorem wpOp_yes {P : Program} {ops : Array Oper} {i : Nat} {o : Oper} {a : Act} {w : World} {B : Nat → Prop} {Q : Exit → Act → World → Prop} {hs : Bool} {K : Act → World → Prop} (hi : ops[i]? = some o) (hw : Region.wanted o (yielded ops a.tmps) = true) (h : ∀ K' : Act → World → Prop, (∀ a' w', LtO hs B w w' → K a' w' → K' a' w') → o.wp P a w K' Q) : wpOp P ops Q i (fun a' w' => LtO hs B w w' ∧ K a' w') a w := by
  unfold wpOp
  simp only [hi, hw, if_true]
  exact .inl (h _ fun a' w' h1 h2 => ⟨h1, h2⟩)
theorem run_ok2 (hW : E.Wf) (hmix : E.P.follows .mixedOrders = true) {sgs : Nat → Option Sig} {Φ : Nat → Spec} (hΦ : ∀ f sg, sgs f = some sg → Prom E f sg (Φ f)) {F : Fin} {Post : List Dat → Prop}
    (hdie : ∀ T d w, F.sg.pan = some T → Has E.Δ .err d → DieR E w0 w → Post [.bool false, d] → ∀ a : Act, a.defers = [] → Fn (.panic (pvL T d)) a w)
    {n : Nat}
    (ih : ∀ (lv : Nat) (S : St) (k : List K) (ρ : List Dat) (σ : List Value) (X : List (Inv × Nat)) (Q : Exit → Act → World → Prop) (a : Act) (w : World), lv = X.length → SK E w0 Fn X ρ σ k Q → Rel E w0 ρ σ S a w →
      wp E.Δ Φ Post (run E.cx sgs F n lv S k) ρ X → Q .normal a w)
    (ihD : ∀ (lv : Nat) (S : St) (k : List K) (ρ : List Dat) (σ : List Value) (X : List (Inv × Nat)) (Q : Exit → Act → World → Prop) (a : Act) (w : World) (d : DI) (fuel : Nat) (listed : List Bool) (os : List Oper) (n0 : Nat) (σ0 : List Value), lv = X.length → SK E w0 Fn X ρ σ k Q → Rel E w0 ρ σ S a w →
      (d.hoist = true → RI E w0 d n0 σ0 ρ σ w) → Region.noSelect os.toArray = true → wp E.Δ Φ Post (run E.cx sgs F n lv S (.drw d fuel listed os :: k)) ρ X → wpAnyR E.P .any os.toArray d.hoist (wB E ρ (regB n0 σ0 d.M)) Q fuel listed.toArray a w)
    (ihE : ∀ (lv : Nat) (S : St) (k : List K) (ρ : List Dat) (σ : List Value) (X : List (Inv × Nat)) (Q : Exit → Act → World → Prop) (a : Act) (w : World) (d : DI) (fuel : Nat) (listed : List Bool) (os : List Oper) (l : List Nat) (n0 : Nat) (σ0 : List Value), lv = X.length → SK E w0 Fn X ρ σ k Q → Rel E w0 ρ σ S a w →
      (d.hoist = true → RI E w0 d n0 σ0 ρ σ w) → Region.noSelect os.toArray = true → (∀ i ∈ l, i ∈ Region.ready .any os.toArray listed.toArray) → wp E.Δ Φ Post (run E.cx sgs F n lv S (.ev d fuel listed os l :: k)) ρ X →
      ∀ i ∈ l, wpOp E.P os.toArray (panQ Q) i (fun a' w' => LtO d.hoist (wB E ρ (regB n0 σ0 d.M)) w w' ∧ wpAnyR E.P .any os.toArray d.hoist (wB E ρ (regB n0 σ0 d.M)) Q fuel (listed.toArray.setIfInBounds i true) a' w') a w) :
    ∀ (lv : Nat) (S : St) (k : List K) (ρ : List Dat) (σ : List Value) (X : List (Inv × Nat)) (Q : Exit → Act → World → Prop) (a : Act) (w : World) (d : DI) (fuel : Nat) (listed : List Bool) (os : List Oper) (n0 : Nat) (σ0 : List Value), lv = X.length → SK E w0 Fn X ρ σ k Q → Rel E w0 ρ σ S a w →
      (d.hoist = true → RI E w0 d n0 σ0 ρ σ w) → Region.noSelect os.toArray = true → wp E.Δ Φ Post (run E.cx sgs F (n + 1) lv S (.drw d fuel listed os :: k)) ρ X → wpAnyR E.P .any os.toArray d.hoist (wB E ρ (regB n0 σ0 d.M)) Q fuel listed.toArray a w := by
  intro lv S k ρ σ X Q a w d fuel listed os n0 σ0 hlv hk h hRI hsel hw
  simp only [run, fAV_eq, fPut_eq, fKnow_eq, fCall_eq, fDeep_eq, fSet_eq] at hw
  have hobj : S.objs.length = σ.length := by obtain ⟨L, hO, _⟩ := h.mem; exact hO.l1
  split at hw
  · rename_i hr
    exact wpAnyR_done hr (ih lv S k ρ σ X Q a w hlv hk h hw)
  split at hw
  · exact hw.elim
  rename_i fuel
  split at hw
  · rename_i i x obs hp
    split at hp
    case isFalse => cases hp
    rename_i hho
    obtain ⟨hmem, o, ho, hfree, hgd, hq⟩ := pickD_ok hp
    rw [ho] at hw
    simp only at hw
    obtain ⟨w1, w2⟩ := obT_wp h.known hw
    have hg := guardOf_ok (o := o) h (os := os)
    rw [hgd] at hg
    have ho' : os.toArray[i]? = some o := by simpa using ho
    rcases hq with ⟨hd, hq⟩ | hq | hq
    case inr.inl =>
      obtain ⟨v, v1, v2⟩ := idxOwn_ok h hq w1
      refine wpAnyR_first ho' (Region.noSelect_spec hsel) fuel listed.toArray a w (Region.free_spec ho' hfree) hmem (.inl ⟨hg, fun w' hl => v2 w'⟩) ?_
      rw [← set_arr]
      exact ihD lv _ k ρ σ X Q _ w d fuel _ os n0 σ0 hlv hk (h.puts v1 o.dst) hRI hsel w2
    case inr.inr =>
      obtain ⟨v, v1, v2⟩ := slotQ_ok h hq
      refine wpAnyR_first ho' (Region.noSelect_spec hsel) fuel listed.toArray a w (Region.free_spec ho' hfree) hmem (.inl ⟨hg, fun w' hl => v2 w'⟩) ?_
      rw [← set_arr]
      exact ihD lv _ k ρ σ X Q _ w d fuel _ os n0 σ0 hlv hk (h.puts v1 o.dst) hRI hsel w2
    obtain ⟨L, hO, hM⟩ := h.mem
    have hho : hoistOk S d = true := by
      rw [hd] at hho
      simpa using hho
    unfold hoistOk at hho
    rw [Bool.and_eq_true, Bool.and_eq_true] at hho
    have hfr : ∀ j, S.objs[j]? = some .fr → (decide (d.m0 ≤ j) || d.M.contains j) = true := fun j hj => by
      have := List.all_eq_true.1 hho.2.2 j (List.mem_range.2 (List.getElem?_eq_some_iff.1 hj).1)
      rw [hj] at this
      simpa [mayW, isFr] using this
    have hRI' := hRI hho.1
    have hlater : ∀ w', Lt (wB E ρ (regB n0 σ0 d.M)) w w' → Mem none w0 w' (baseF E ρ :: maskF d.m0 d.M L 0) := fun w' hl =>
      hM.later hO (fun k hk hB => hB.2 hk) (fun j f k hf hc hk hB => by
        refine absurd hB.1 ?_
        simp only [Bool.or_eq_false_iff, decide_eq_false_iff_not, Nat.not_le] at hc
        have hjl : j < S.objs.length := by rw [hO.l1, ← hO.l2]; exact (List.getElem?_eq_some_iff.1 hf).1
        obtain ⟨v, f', g1, g2, g3⟩ := hO.get j _ (List.getElem?_eq_getElem hjl)
        rw [hf] at g2; cases g2
        by_cases hD : d.D.contains j = true
        · have hde := List.all_eq_true.1 hho.2.1 j (List.contains_iff_mem.1 hD)
          rw [List.getElem?_eq_getElem hjl] at hde
          generalize S.objs[j] = o at g3 hde
          cases o with
          | dead =>
            have g3' : f = .gen (fun _ => True) (fun _ => False) := g3
            subst g3'; exact hk.elim
          | _ => cases hde
        · exact hRI'.prot j hc.1 hc.2 (by simpa using hD) v k (get_down hRI'.pre (by rw [hRI'.m0]; exact hc.1) g1) (g3.at_blk (fun e => by
            have h2 := hfr j (by rw [List.getElem?_eq_getElem hjl, e])
            rw [hc.2, Bool.or_false, decide_eq_true_eq] at h2
            omega) hk)) (fun k hk hB => hRI'.old k hk hB.1) hfr hl
    obtain ⟨v, v1, v2⟩ := evalQ_ok (w0 := w0) hW (hO.mask d.m0 d.M) h.pre h.known h.slots ⟨w, hlater w (Lt.refl _ _)⟩ hq w1
    refine wpAnyR_first ho' (Region.noSelect_spec hsel) fuel listed.toArray a w (Region.free_spec ho' hfree) hmem (.inl ⟨hg, fun w' hl => v2 w' (hlater w' (hl hho.1))⟩) ?_
    rw [← set_arr]
    exact ihD lv _ k ρ σ X Q _ w d fuel _ os n0 σ0 hlv hk (h.puts v1 o.dst) hRI hsel w2
  · rename_i i hp
    split at hp
    case isFalse => cases hp
    obtain ⟨hmem, o, ho, hfree, hgd⟩ := pickD_ok hp
    rw [ho] at hw
    simp only at hw
    have hg := guardOf_ok (o := o) h (os := os)
    simp only at hgd
    rw [hgd] at hg
    have ho' : os.toArray[i]? = some o := by simpa using ho
    refine wpAnyR_first ho' (Region.noSelect_spec hsel) fuel listed.toArray a w (Region.free_spec ho' hfree) hmem (.inr ⟨hg, rfl⟩) ?_
    rw [← set_arr]
    exact ihD lv _ k ρ σ X Q _ w d fuel _ os n0 σ0 hlv hk (h.puts (x := .v (.c .undef)) (v := undef) rfl o.dst) hRI hsel hw
  split at hw
  · rename_i t hask
    obtain ⟨o, hgd⟩ := askD_ok hask
    have hg := guardOf_ok (o := o) h (os := os)
    rw [hgd] at hg
    obtain ⟨b, hd⟩ := hg
    split at hw
    case isFalse => exact hw.elim
    rename_i hb
    obtain ⟨w1, w2⟩ := hw
    cases b with
    | true => exact ihD lv _ k ρ σ X Q a w d _ listed os n0 σ0 hlv hk (h.know hb hd.now) hRI hsel (w1 hd.now)
    | false => exact ihD lv _ k ρ σ X Q a w d _ listed os n0 σ0 hlv hk (h.know hb hd.now) hRI hsel (w2 hd.now)
  rw [fL_eq fNat_eq] at hw
  have hall := ihE lv S k ρ σ X Q a w d fuel listed os _ n0 σ0 hlv hk h hRI hsel (fun i hi => hi) hw
  exact ⟨fun h0 => absurd h0 (by assumption), fun i hi => hall i hi⟩
theorem run_ok3 (hW : E.Wf) (hmix : E.P.follows .mixedOrders = true) {sgs : Nat → Option Sig} {Φ : Nat → Spec} (hΦ : ∀ f sg, sgs f = some sg → Prom E f sg (Φ f)) {F : Fin} {Post : List Dat → Prop}
    (hdie : ∀ T d w, F.sg.pan = some T → Has E.Δ .err d → DieR E w0 w → Post [.bool false, d] → ∀ a : Act, a.defers = [] → Fn (.panic (pvL T d)) a w)
    {n : Nat}
    (ih : ∀ (lv : Nat) (S : St) (k : List K) (ρ : List Dat) (σ : List Value) (X : List (Inv × Nat)) (Q : Exit → Act → World → Prop) (a : Act) (w : World), lv = X.length → SK E w0 Fn X ρ σ k Q → Rel E w0 ρ σ S a w →
      wp E.Δ Φ Post (run E.cx sgs F n lv S k) ρ X → Q .normal a w)
    (ihD : ∀ (lv : Nat) (S : St) (k : List K) (ρ : List Dat) (σ : List Value) (X : List (Inv × Nat)) (Q : Exit → Act → World → Prop) (a : Act) (w : World) (d : DI) (fuel : Nat) (listed : List Bool) (os : List Oper) (n0 : Nat) (σ0 : List Value), lv = X.length → SK E w0 Fn X ρ σ k Q → Rel E w0 ρ σ S a w →
      (d.hoist = true → RI E w0 d n0 σ0 ρ σ w) → Region.noSelect os.toArray = true → wp E.Δ Φ Post (run E.cx sgs F n lv S (.drw d fuel listed os :: k)) ρ X → wpAnyR E.P .any os.toArray d.hoist (wB E ρ (regB n0 σ0 d.M)) Q fuel listed.toArray a w)
    (ihE : ∀ (lv : Nat) (S : St) (k : List K) (ρ : List Dat) (σ : List Value) (X : List (Inv × Nat)) (Q : Exit → Act → World → Prop) (a : Act) (w : World) (d : DI) (fuel : Nat) (listed : List Bool) (os : List Oper) (l : List Nat) (n0 : Nat) (σ0 : List Value), lv = X.length → SK E w0 Fn X ρ σ k Q → Rel E w0 ρ σ S a w →
      (d.hoist = true → RI E w0 d n0 σ0 ρ σ w) → Region.noSelect os.toArray = true → (∀ i ∈ l, i ∈ Region.ready .any os.toArray listed.toArray) → wp E.Δ Φ Post (run E.cx sgs F n lv S (.ev d fuel listed os l :: k)) ρ X →
      ∀ i ∈ l, wpOp E.P os.toArray (panQ Q) i (fun a' w' => LtO d.hoist (wB E ρ (regB n0 σ0 d.M)) w w' ∧ wpAnyR E.P .any os.toArray d.hoist (wB E ρ (regB n0 σ0 d.M)) Q fuel (listed.toArray.setIfInBounds i true) a' w') a w) :
    ∀ (lv : Nat) (S : St) (k : List K) (ρ : List Dat) (σ : List Value) (X : List (Inv × Nat)) (Q : Exit → Act → World → Prop) (a : Act) (w : World) (d : DI) (fuel : Nat) (listed : List Bool) (os : List Oper) (l : List Nat) (n0 : Nat) (σ0 : List Value), lv = X.length → SK E w0 Fn X ρ σ k Q → Rel E w0 ρ σ S a w →
      (d.hoist = true → RI E w0 d n0 σ0 ρ σ w) → Region.noSelect os.toArray = true → (∀ i ∈ l, i ∈ Region.ready .any os.toArray listed.toArray) → wp E.Δ Φ Post (run E.cx sgs F (n + 1) lv S (.ev d fuel listed os l :: k)) ρ X →
      ∀ i ∈ l, wpOp E.P os.toArray (panQ Q) i (fun a' w' => LtO d.hoist (wB E ρ (regB n0 σ0 d.M)) w w' ∧ wpAnyR E.P .any os.toArray d.hoist (wB E ρ (regB n0 σ0 d.M)) Q fuel (listed.toArray.setIfInBounds i true) a' w') a w := by
  intro lv S k ρ σ X Q a w d fuel listed os l n0 σ0 hlv hk h hRI hsel hready hw
  have hobj : S.objs.length = σ.length := by obtain ⟨L, hO, _⟩ := h.mem; exact hO.l1
  cases l with
  | nil => intro i hi; cases hi
  | cons i l =>
  simp only [run] at hw
  obtain ⟨hw, hrest⟩ := bothT_wp hw
  have hr : i ∈ Region.ready .any os.toArray listed.toArray := hready i List.mem_cons_self
  intro i' hi'
  rcases List.mem_cons.1 hi' with hii | hi'
  case inr =>
    exact ihE lv S k ρ σ X Q a w d fuel listed os l n0 σ0 hlv hk h hRI hsel (fun j hj => hready j (List.mem_cons_of_mem _ hj)) (hrest (by intro e; subst e; cases hi')) i' hi'
  rw [hii]
  clear hrest hready hi' hii
  simp only [fAV_eq, fPut_eq, fKnow_eq, fCall_eq, fDeep_eq, fSet_eq] at hw
  split at hw
  · exact hw.elim
  rename_i o ho
  have ho' : os.toArray[i]? = some o := by simpa using ho
  have hg := guardOf_ok (o := o) h (os := os)
  split at hw
  · rename_i hgd
    rw [hgd] at hg
    refine wpOp_no ho' hg ?_
    rw [← set_arr]
    exact ihD lv _ k ρ σ X Q _ w d fuel _ os n0 σ0 hlv hk (h.puts (x := .v (.c .undef)) (v := undef) rfl o.dst) hRI hsel hw
  · rename_i hgd
    rw [hgd] at hg
    split at hw
    · rename_i t e hna
      obtain ⟨x, hx, hr'⟩ := h.slotNil t e
      refine (ihD lv _ k ρ (σ ++ x) X Q a w d (fuel + 1) listed os n0 σ0 hlv (hk.up (List.prefix_refl _) (List.prefix_append _ _)) hr' (fun hh => (hRI hh).wider (Nat.le_refl _) fun u hu k hk => (hx u hu k hk).elim) hsel hw).2 _ hr
    split at hw
    · rename_i f sg le ts hle
      obtain ⟨args, hcal, hsg, hn, rfl, hts⟩ := lendD_ok h hle
      obtain ⟨⟨fc, hbo⟩, hpr⟩ := hΦ f sg hsg
      rw [if_pos (by simpa using hn.1)] at hpr
      obtain ⟨hok, hH⟩ := hpr
      obtain ⟨vs, v1, v2, v3⟩ := callee_ok h hcal hbo
      simp only [List.map_nil, List.append_nil] at v1
      refine wpOp_yes ho' hg fun K' hK => ?_
      rw [← set_arr] at hK
      unfold Oper.wp
      rw [v3 w, Oper.upon_enter]
      refine (h.lend hok hH hn.2 v1 hts hw o.dst).mono fun e w' ⟨u, σ', rs, q1, q2, q3, q4, q5, x, q6, q7⟩ => ?_
      subst q1 q6
      have hRI1 := fun hh => (hRI hh).wider q2.size (x := x) (fun u hu k hk => .inl (Nat.le_trans (hRI hh).hi (q7 u hu k hk)))
      have hRI2 : d.hoist = true → RI E w0 d n0 σ0 (ρ ++ rs) (σ ++ x) w' := fun hh => ⟨(hRI1 hh).pre, (hRI1 hh).m0, (hRI1 hh).lo, (hRI1 hh).hi, (hRI1 hh).old, (hRI1 hh).prot, (hRI1 hh).new⟩
      exact hK _ _ (fun _ => Lt.below q2) (wpAnyR_wide (wB_more _) _ _ _ _ (ihD lv _ k _ _ X Q _ w' d fuel _ os n0 σ0 hlv (hk.up (List.prefix_append _ _) (List.prefix_append _ _)) q4 hRI2 hsel q3))
    split at hw
    · rename_i e ct hli
      obtain ⟨A, x, w', u, hnew, hb, hrun, hrel⟩ := litD_ok h hli
      refine wpOp_yes ho' hg fun K' hK => ?_
      rw [← set_arr] at hK
      unfold Oper.wp
      simp only [hrun, Oper.upon]
      have hRI1 := fun hh => (hRI hh).wider hb.size (x := [x]) (fun u hu k hk => by rw [List.mem_singleton.1 hu] at hk; exact .inl (Nat.le_trans (hRI hh).hi (hnew k hk)))
      exact hK _ _ (fun _ => Lt.below hb) (wpAnyR_wide (wB_more _) _ _ _ _ (ihD lv _ k _ _ X Q _ w' d fuel _ os n0 σ0 hlv (hk.up (List.prefix_append _ _) (List.prefix_append _ _)) hrel (fun hh => ⟨(hRI1 hh).pre, (hRI1 hh).m0, (hRI1 hh).lo, (hRI1 hh).hi, (hRI1 hh).old, (hRI1 hh).prot, (hRI1 hh).new⟩) hsel (hw A)))
    split at hw
    · rename_i t j r ct hbk
      obtain ⟨A, c, hrel⟩ := blkD_share h hbk
      refine (wpAnyR_wide (wB_more _) _ _ _ _ (ihD lv _ k _ σ X Q a w d (fuel + 1) listed os n0 σ0 hlv (hk.up (List.prefix_append _ _) (List.prefix_refl _)) hrel (fun hh => ⟨(hRI hh).pre, (hRI hh).m0, (hRI hh).lo, (hRI hh).hi, (hRI hh).old, (hRI hh).prot, (hRI hh).new⟩) hsel (hw A c))).2 _ hr
    split at hw
    · rename_i j r t hsh
      split at hw
      case isFalse => exact hw.elim
      have hob := shareD_ok hsh
      obtain ⟨A, c, _, hrel⟩ := h.share hob
      refine (wpAnyR_wide (wB_more _) _ _ _ _ (ihD lv _ k _ σ X Q a w d (fuel + 1) listed os n0 σ0 hlv (hk.up (List.prefix_append _ _) (List.prefix_refl _)) hrel (fun hh => ⟨(hRI hh).pre, (hRI hh).m0, (hRI hh).lo, (hRI hh).hi, (hRI hh).old, (hRI hh).prot, (hRI hh).new⟩) hsel (hw A c))).2 _ hr
    split at hw
    · rename_i j r t hpre
      split at hpre
      · cases hpre
      rename_i hno
      obtain ⟨A, c, _, hrel⟩ := h.share (preD_ok hpre)
      refine (wpAnyR_wide (wB_more _) _ _ _ _ (ihD lv _ k _ σ X Q a w d (fuel + 1) listed os n0 σ0 hlv (hk.up (List.prefix_append _ _) (List.prefix_refl _)) hrel (fun hh => ⟨(hRI hh).pre, (hRI hh).m0, (hRI hh).lo, (hRI hh).hi, (hRI hh).old, (hRI hh).prot, (hRI hh).new⟩) hsel (hw A c))).2 _ hr
    · rename_i j c e hpre
      split at hpre
      · cases hpre
      rename_i hno
      obtain ⟨x, _, hrel⟩ := h.fixNil j c e true
      exact (ihD lv _ k ρ (σ ++ x) X Q a w d (fuel + 1) listed os n0 σ0 hlv (hk.up (List.prefix_refl _) (List.prefix_append _ _)) hrel (fun hh => absurd hh hno) hsel hw).2 _ hr
    refine wpOp_yes ho' hg fun K' hK => ?_
    rw [← set_arr] at hK
    unfold Oper.wp
    split at hw
    · rename_i S' hS'
      obtain ⟨v, σ', w', u, rfl, hnew, hb, hrun, hrel⟩ := evalN_ok h hS'
      simp only [hrun, Oper.upon]
      exact hK _ _ (fun _ => Lt.below hb) (ihD lv _ k ρ _ X Q _ w' d fuel _ os n0 σ0 hlv (hk.up (List.prefix_refl _) (List.prefix_append _ _)) hrel (fun hh => (hRI hh).wider hb.size fun u hu k hk => .inl (Nat.le_trans (hRI hh).hi (hnew u hu k hk))) hsel hw)
    split at hw
    · rename_i x obs hq
      obtain ⟨w1, w2⟩ := obT_wp h.known hw
      obtain ⟨L, hO, hM⟩ := h.mem
      obtain ⟨v, v1, v2⟩ := evalQ_ok (w0 := w0) hW hO h.pre h.known h.slots ⟨w, hM⟩ hq w1
      simp only [v2 w hM, Oper.upon]
      exact hK _ _ (fun _ => Lt.refl _ _) (ihD lv _ k ρ σ X Q _ w d fuel _ os n0 σ0 hlv hk (h.puts v1 o.dst) hRI hsel w2)
    split at hw
    · rename_i S' obs hq
      split at hq
      case isFalse => cases hq
      rename_i hmay
      obtain ⟨w1, w2⟩ := obT_wp h.known hw
      obtain ⟨σ', w', x, rfl, ⟨ob, t2, t3, t4⟩, hrel⟩ := evalW_ok h hq w1
      have hat : d.hoist = true → ∀ k, (∃ j v, tgtW S o = some j ∧ σ[j]? = some v ∧ blkV v = some k) → regB n0 σ0 d.M k := fun hh k ⟨j, v, hj, hv, hk⟩ => by
        rw [hj] at hmay
        exact (hRI hh).at hobj hmay hv hk
      have hlt : LtO d.hoist (wB E ρ (regB n0 σ0 d.M)) w w' := fun hh => Lt.grown t2 fun k hk => ⟨hat hh k (t3 k hk), fun hin => by
        obtain ⟨j, v, hj, hv, hkb⟩ := t3 k hk
        obtain ⟨l1, l2⟩ := tgtW_live hq hj
        obtain ⟨L, hO, hM⟩ := h.mem
        obtain ⟨f, f1, f2, f3⟩ := live_at hO l1 l2 hv hkb
        exact (List.pairwise_cons.1 hM.apart).1 f (List.mem_of_getElem? f1) (by rw [f2, Bool.or_true]) k hin f3⟩
      have hRI' := fun hh => (hRI hh).wider t2.size (x := x) (fun u hu k hk => by
        rcases t4 u hu k hk with h1 | h1
        · exact hat hh k h1
        · exact .inl (Nat.le_trans (hRI hh).hi h1))
      rcases hrel with ⟨hrun, hrel⟩ | ⟨u, hrun, hrel⟩
      · simp only [hrun, Oper.upon]
        exact hK _ _ hlt (ihD lv _ k ρ _ X Q _ w' d fuel _ os n0 σ0 hlv (hk.up (List.prefix_refl _) (List.prefix_append _ _)) hrel hRI' hsel w2)
      · simp only [hrun, Oper.upon]
        exact hK _ _ hlt (ihD lv _ k ρ _ X Q _ w' d fuel _ os n0 σ0 hlv (hk.up (List.prefix_refl _) (List.prefix_append _ _)) hrel hRI' hsel w2)
    split at hw
    · rename_i S' obs hq
      obtain ⟨w1, w2⟩ := obT_wp h.known hw
      obtain ⟨v, w', u, hnew, hb, hrun, hrel⟩ := evalA_ok h hq w1
      simp only [hrun, Oper.upon]
      exact hK _ _ (fun _ => Lt.below hb) (ihD lv _ k ρ _ X Q _ w' d fuel _ os n0 σ0 hlv (hk.up (List.prefix_refl _) (List.prefix_append _ _)) hrel (fun hh => (hRI hh).wider hb.size fun u hu k hk => .inl (Nat.le_trans (hRI hh).hi (hnew u hu k hk))) hsel w2)
    split at hw
    · exact hw.elim
    rename_i f caps args hcal
    split at hw
    case h_2 =>
      split at hw
      case h_2 =>
        split at hw
        · exact hw.elim
        rename_i hno
        simp only [Bool.not_eq_true] at hno
        split at hw
        case h_2 => exact hw.elim
        rename_i fn c hbo
        obtain ⟨vs, v1, v2, v3⟩ := callee_ok h hcal hbo
        obtain ⟨b1, b2, _⟩ := bodyOf_ok hbo
        rw [v3 w, Oper.upon_enter]
        have hbody : c.wp E.P (bodyPost E.P fn fun e w' => (∃ v, e = .returned v ∧ wpAnyR E.P .any os.toArray false (fun _ => True) Q fuel (listed.set i true).toArray (a.put o.dst v) w') ∨ ∃ ch, e = .panicked ch ∧ ∀ a' : Act, a'.defers = [] → Q (.panic ch) a' w') { tmps := vs.toArray ++ Array.replicate (fn.ntmps - vs.toArray.size) undef, defers := [] } w := by
          have hr : Rel E w0 ρ σ { S with slots := (args ++ caps.map fun x => .v (.c (.p x))) ++ List.replicate (fn.ntmps - (args.length + caps.length)) (.v (.c .undef)) } { tmps := vs.toArray ++ Array.replicate (fn.ntmps - vs.toArray.size) undef, defers := [] } w := by
            refine ⟨?_, rfl, h.n, h.known, h.mem, h.pre, h.reach⟩
            simp only [Array.toList_append, Array.toList_replicate, List.size_toArray, v2]
            exact v1.append (All2.replicate (show VR E ρ σ (.v (.c .undef)) undef from rfl) _)
          exact ih lv _ _ ρ σ X _ _ w hlv (.code (.rgn h.slots h.defers hno hsel hk)) hr hw
        refine (calls_of_wp b1 b2 hbody).mono fun e w' hend => ?_
        rcases hend with ⟨v, rfl, hl⟩ | ⟨ch, rfl, hl⟩
        · refine hK _ _ (fun e => by rw [hno] at e; cases e) ?_
          rw [hno]
          exact wpAnyR_free _ _ _ _ hl
        · exact ⟨h.defers, hl⟩
      rename_i xs obs hp
      split at hp
      case isFalse => cases hp
      obtain ⟨w1, w2⟩ := obT_wp h.known hw
      obtain ⟨vs, v3, hcalls⟩ := callF_ok hW h hcal hp w1
      rw [v3 w, Oper.upon_enter]
      refine hcalls.mono fun e w' ⟨u, q1, q2, q3⟩ => ?_
      subst q1
      have hRI1 : d.hoist = true → RI E w0 d n0 σ0 ρ σ w' := fun hh => by
        have := (hRI hh).wider q2.size (x := []) (fun u hu k hk => by cases hu)
        rwa [List.append_nil] at this
      exact hK _ _ (fun _ => Lt.below q2) (ihD lv _ k ρ σ X Q _ w' d fuel _ os n0 σ0 hlv hk q3 hRI1 hsel w2)
    rename_i sg hsg
    obtain ⟨⟨fc, hbo⟩, hpr⟩ := hΦ f sg hsg
    split at hw
    · rename_i hblk
      rw [if_neg (by rw [hblk]; exact Bool.noConfusion)] at hpr
      split at hw
      · exact hw.elim
      rename_i hno
      simp only [Bool.not_eq_true] at hno
      split at hw
      · rename_i ts js ow hin
        obtain ⟨hcaps, _⟩ := inD_go hin
        subst hcaps
        obtain ⟨vs, v1, v2, v3⟩ := callee_ok h hcal hbo
        simp only [List.map_nil, List.append_nil] at v1
        rw [v3 w, Oper.upon_enter]
        split at hw
        · rename_i hpan
          refine (h.callP hpr.1 hpr.2 v1 hin hw o.dst).mono fun e w' hend => ?_
          rw [hpan] at hend
          rcases hend with ⟨u, σ', rs, rfl, q3, q4, _, x, rfl⟩ | ⟨T, d, hT, _⟩
          · exact hK _ _ (fun hh => by rw [hno] at hh; cases hh) (wpAnyR_wide (wB_more _) _ _ _ _ (ihD lv _ k _ _ X Q _ w' d fuel _ os n0 σ0 hlv (hk.up (List.prefix_append _ _) (List.prefix_append _ _)) q4 (fun hh => by rw [hno] at hh; cases hh) hsel q3))
          · cases hT
        · rename_i T hpan
          split at hw
          case isFalse => exact hw.elim
          rename_i hc
          refine (h.callP hpr.1 hpr.2 v1 hin hw o.dst).mono fun e w' hend => ?_
          rw [hpan] at hend
          rcases hend with ⟨u, σ', rs, rfl, q3, q4, _, x, rfl⟩ | ⟨T', d', hT, hW2, hd, rfl, hD⟩
          · exact hK _ _ (fun hh => by rw [hno] at hh; cases hh) (wpAnyR_wide (wB_more _) _ _ _ _ (ihD lv _ k _ _ X Q _ w' d fuel _ os n0 σ0 hlv (hk.up (List.prefix_append _ _) (List.prefix_append _ _)) q4 (fun hh => by rw [hno] at hh; cases hh) hsel q3))
          · cases hT
            exact ⟨h.defers, fun a' ha' => hk.die (D := fun w => DieR E w0 w) (fun a w ha hD => hdie T d' w hc.1 hd hD hW2 a ha) a' w' ha' (hD _ hc.2)⟩
      · exact hw.elim
    rename_i hblk
    rw [if_pos (by simpa using hblk)] at hpr
    obtain ⟨hok, hH⟩ := hpr
    split at hw
    case isFalse => exact hw.elim
    rename_i hcaps
    have hce : caps = [] := by simpa using hcaps
    subst hce
    · split at hw
      · rename_i ts hts
        obtain ⟨vs, v1, v2, v3⟩ := callee_ok h hcal hbo
        simp only [List.map_nil, List.append_nil] at v1
        rw [v3 w, Oper.upon_enter]
        refine (h.call hok hH v1 hts hw o.dst).mono fun e w' ⟨u, σ', rs, q1, q2, q3, q4, q5, x, q6, q7⟩ => ?_
        subst q1 q6
        have hRI1 := fun hh => (hRI hh).wider q2.size (x := x) (fun u hu k hk => .inl (Nat.le_trans (hRI hh).hi (q7 u hu k hk)))
        have hRI2 : d.hoist = true → RI E w0 d n0 σ0 (ρ ++ rs) (σ ++ x) w' := fun hh => ⟨(hRI1 hh).pre, (hRI1 hh).m0, (hRI1 hh).lo, (hRI1 hh).hi, (hRI1 hh).old, (hRI1 hh).prot, (hRI1 hh).new⟩
        exact hK _ _ (fun _ => Lt.below q2) (wpAnyR_wide (wB_more _) _ _ _ _ (ihD lv _ k _ _ X Q _ w' d fuel _ os n0 σ0 hlv (hk.up (List.prefix_append _ _) (List.prefix_append _ _)) q4 hRI2 hsel q3))
      · exact hw.elim
  · exact hw.elim
/-- what a whole walk demands, the code keeps -/
theorem run_ok (hW : E.Wf) (hmix : E.P.follows .mixedOrders = true) {sgs : Nat → Option Sig} {Φ : Nat → Spec} (hΦ : ∀ f sg, sgs f = some sg → Prom E f sg (Φ f)) {F : Fin} {Post : List Dat → Prop}
    (hdie : ∀ T d w, F.sg.pan = some T → Has E.Δ .err d → DieR E w0 w → Post [.bool false, d] → ∀ a : Act, a.defers = [] → Fn (.panic (pvL T d)) a w)
    (hFn : ∀ a w, Fn .normal a w → Fn .ret a w) (hfin : ∀ S a w ρ σ ts, Rel E w0 ρ σ S a w → E.s0 <+: σ → finTms E.cx F S = some ts → Post (ts.map (den E.Δ ρ)) → Fn .normal a w) :
    ∀ (n lv : Nat) (S : St) (k : List K) (ρ : List Dat) (σ : List Value) (X : List (Inv × Nat)) (Q : Exit → Act → World → Prop) (a : Act) (w : World), lv = X.length → SK E w0 Fn X ρ σ k Q → Rel E w0 ρ σ S a w →
      wp E.Δ Φ Post (run E.cx sgs F n lv S k) ρ X → Q .normal a w := by
  have both : ∀ n : Nat, (∀ (lv : Nat) (S : St) (k : List K) (ρ : List Dat) (σ : List Value) (X : List (Inv × Nat)) (Q : Exit → Act → World → Prop) (a : Act) (w : World), lv = X.length → SK E w0 Fn X ρ σ k Q → Rel E w0 ρ σ S a w →
      wp E.Δ Φ Post (run E.cx sgs F n lv S k) ρ X → Q .normal a w) ∧
    (∀ (lv : Nat) (S : St) (k : List K) (ρ : List Dat) (σ : List Value) (X : List (Inv × Nat)) (Q : Exit → Act → World → Prop) (a : Act) (w : World) (d : DI) (fuel : Nat) (listed : List Bool) (os : List Oper) (n0 : Nat) (σ0 : List Value), lv = X.length → SK E w0 Fn X ρ σ k Q → Rel E w0 ρ σ S a w →
      (d.hoist = true → RI E w0 d n0 σ0 ρ σ w) → Region.noSelect os.toArray = true → wp E.Δ Φ Post (run E.cx sgs F n lv S (.drw d fuel listed os :: k)) ρ X → wpAnyR E.P .any os.toArray d.hoist (wB E ρ (regB n0 σ0 d.M)) Q fuel listed.toArray a w) ∧
    (∀ (lv : Nat) (S : St) (k : List K) (ρ : List Dat) (σ : List Value) (X : List (Inv × Nat)) (Q : Exit → Act → World → Prop) (a : Act) (w : World) (d : DI) (fuel : Nat) (listed : List Bool) (os : List Oper) (l : List Nat) (n0 : Nat) (σ0 : List Value), lv = X.length → SK E w0 Fn X ρ σ k Q → Rel E w0 ρ σ S a w →
      (d.hoist = true → RI E w0 d n0 σ0 ρ σ w) → Region.noSelect os.toArray = true → (∀ i ∈ l, i ∈ Region.ready .any os.toArray listed.toArray) → wp E.Δ Φ Post (run E.cx sgs F n lv S (.ev d fuel listed os l :: k)) ρ X →
      ∀ i ∈ l, wpOp E.P os.toArray (panQ Q) i (fun a' w' => LtO d.hoist (wB E ρ (regB n0 σ0 d.M)) w w' ∧ wpAnyR E.P .any os.toArray d.hoist (wB E ρ (regB n0 σ0 d.M)) Q fuel (listed.toArray.setIfInBounds i true) a' w') a w) := by
   intro n
   induction n with
   | zero => exact ⟨fun lv S k ρ σ X Q a w hlv hk h hw => hw.elim, fun lv S k ρ σ X Q a w d fuel listed os n0 σ0 hlv hk h hRI hsel hw => hw.elim, fun lv S k ρ σ X Q a w d fuel listed os l n0 σ0 hlv hk h hRI hsel hrd hw => hw.elim⟩
   | succ n ih0 =>
   obtain ⟨ih, ihD, ihE⟩ := ih0
   refine ⟨?_, ?_, ?_⟩
   · exact run_ok1 hW hmix hΦ hdie hFn hfin ih ihD
   · exact run_ok2 hW hmix hΦ hdie ih ihD ihE
   · exact run_ok3 hW hmix hΦ hdie ih ihD ihE
  exact fun n => (both n).1
end
end Go.Proofs.YtcigbgpdikadpaaDoor
end

section
namespace Go.Proofs.YtcigbgpdikadpaaDoor
open Go.RowKit
set_option linter.unusedVariables false

section
variable {E : Env} {w0 w w' : World} {ρ ρ' : List Dat} {σ σ' : List Value} {S S' : St} {a : Act} {L : List Fact} {o : Oper}
theorem groupV_len : ∀ (l : List (Bool × List Srt)) (ds : List Dat), (groupV l ds).length = l.length
  | [], _ => rfl
  | (ag, ss) :: l, ds => by simp [groupV, groupV_len l]
theorem resA_len : ∀ (l : List (Bool × List Srt)) (n : Nat), (resA l n).length = l.length
  | [], _ => rfl
  | (ag, ss) :: l, n => by simp [resA, resA_len l]
theorem isP_of {sg : Sig} (h : sg.ok = true) : sg.isP = false := by
  unfold Sig.ok at h
  rw [Bool.and_eq_true, Bool.and_eq_true] at h
  simpa using h.1.1
theorem pan_of {sg : Sig} (h : sg.isP = false) : sg.pan = none := by
  unfold Sig.isP at h
  rw [Bool.or_eq_false_iff] at h
  cases e : sg.pan with
  | none => rfl
  | some T => rw [e] at h; cases h.2
theorem a1_av {l : List A1} {vs : List Value} (h : All2 (AR E ρ σ) l vs) : All2 (VR E ρ σ) (l.map AV.v) vs := by
  induction h with
  | nil => exact .nil
  | cons h _ ih => exact .cons h ih
theorem fin_ok (hW : E.Wf) {F : Fin} (hbl : F.sg.isP = false) {fn : Func} (hF : F.res = fn.results.toList) {Q : List Dat → Prop} {ts : List Tm} (h : Rel E w0 ρ σ S a w) (hf : finTms E.cx F S = some ts) (hQ : Q (ts.map (den E.Δ ρ))) :
    bodyPost E.P fn (fun e w' => Ends E F.sg w0 w' E.old Q e) .normal a w := by
  unfold finTms at hf
  rw [Option.bind_eq_some_iff] at hf
  obtain ⟨l, hl, hf⟩ := hf
  rw [hbl, if_neg Bool.false_ne_true] at hf
  obtain ⟨vs, v1, v2⟩ := resAll_ok hW h hl
  rw [hF] at v2
  obtain ⟨L, hO, hM⟩ := h.mem
  have hgood : ∀ d ∈ ts.map (den E.Δ ρ), Good w (AtL ρ) d := fun d hd => by
    obtain ⟨t, _, rfl⟩ := List.mem_map.1 hd
    exact den_good (fun d hd => ⟨h.ok d hd, fun k hk => ⟨d, hd, hk⟩⟩) t
  have hat : ∀ k, AtL (ts.map (den E.Δ ρ)) k → AtL ρ k := fun k ⟨d, hd, hk⟩ => (hgood d hd).2 k hk
  refine ⟨h.defers, retV vs, run_results v2, ts.map (den E.Δ ρ), hQ, ?_⟩
  by_cases hown : F.sg.own = true
  · rw [if_pos hown] at hf
    split at hf
    · rename_i j r hres
      split at hf
      · rename_i r' t hob
        split at hf
        case isFalse => cases hf
        rename_i hr
        subst hr
        cases hf
        obtain ⟨v, f, h1, h2, A, n, c, xs, rfl, h4, h5, h6, rfl⟩ := hO.get _ _ hob
        cases v1 with
        | cons u1 u2 =>
        cases u2
        have hv := u1.1
        rw [h1] at hv
        cases hv
        have hOw := hM.ow (List.mem_cons_of_mem _ (List.mem_of_getElem? h2))
        simp only [List.map_cons, List.map_nil, h4.now] at hat hgood ⊢
        refine ⟨?_, hM.below, fun d hd => (hgood d hd).1, fun k hk => h.reach k (hat k hk), ?_⟩
        · rw [hres]; exact .cons h5 .nil
        · rw [if_pos hown]
          refine ⟨A, n, c, r, xs, hres, rfl, rfl, hOw, h6, fun k hk hk2 => ?_⟩
          exact (List.pairwise_cons.1 hM.apart).1 _ (List.mem_of_getElem? h2) (by simp [Fact.wr]) k (.inl (hat k hk2)) hk
      · cases hf
    · cases hf
  · rw [if_neg hown] at hf
    have hv := a1_av v1
    obtain ⟨k1, k2⟩ := argTms_ok hv hf
    refine ⟨k2, hM.below, fun d hd => (hgood d hd).1, fun k hk => h.reach k (hat k hk), ?_⟩
    rw [if_neg hown, k1]
/-- what is known where a call begins -/
theorem start_ok {sg : Sig} (hsg : sg.ok = true) {ds : List Dat} (hs : All2 (Has E.Δ) (Sig.sorts sg.params) ds) (hok : OkL w ds) (hγ : OkL w E.γ) (hG : E.globs w) (hold : ∀ k, AtL ds k ∨ AtL E.γ k → E.old k) (nt : Nat) :
    Rel E w (E.γ ++ ds) [] (start sg E.γ.length nt) { tmps := (groupV sg.params ds).toArray ++ Array.replicate (nt - (groupV sg.params ds).toArray.size) undef, defers := [] } w := by
  have hp : grpOk sg.params = true := by
    unfold Sig.ok at hsg
    rw [Bool.and_eq_true, Bool.and_eq_true] at hsg
    exact hsg.1.2
  have hr := resA_ok (E := E) (ρ := E.γ ++ ds) (σ := []) (n := E.γ.length) hs hp (fun i d hd => by rw [List.getElem?_append_right (by omega), Nat.add_sub_cancel_left]; exact hd)
  have hlen : Sig.sorts sg.params = sg.params.flatMap (·.2) := rfl
  refine ⟨?_, rfl, ?_, (fun x hx => by cases hx), ⟨[], ⟨rfl, rfl, (fun j o h => by cases h)⟩, ?_⟩, List.prefix_append _ _, fun k hk => ?_⟩
  · simp only [start, Array.toList_append, Array.toList_replicate, List.size_toArray, resA_len, groupV_len]
    exact (a1_av hr).append (All2.replicate (show VR E (E.γ ++ ds) [] (.v (.c .undef)) undef from rfl) _)
  · simp only [start, List.length_append]
    rw [← hlen, hs.length]
  · refine (Mem.start w).addOld (f := baseF E (E.γ ++ ds)) ⟨⟨fun d hd => ?_, hG⟩, baseFirm _ _⟩ rfl fun k hk => ⟨?_, by simp⟩
    · rcases List.mem_append.1 hd with hd | hd
      · exact hγ d hd
      · exact hok d hd
    · refine (baseFirm E (E.γ ++ ds)).lt w ⟨fun d hd => ?_, hG⟩ k hk
      rcases List.mem_append.1 hd with hd | hd
      · exact hγ d hd
      · exact hok d hd
  · right
    refine hold k ?_
    rcases atL_append hk with hk | hk
    · exact .inr hk
    · exact .inl hk
/-- the contract of a function: what its tree demands -/
theorem walk_ok (hW : E.Wf) (hmix : E.P.follows .mixedOrders = true) {sgs : Nat → Option Sig} {Φ : Nat → Spec} (hΦ : ∀ f sg, sgs f = some sg → Prom E f sg (Φ f))
    {f : Nat} {sg : Sig} {T : Tree} (hT : walk E.cx sgs E.γ.length f sg = T) (hsg : sg.ok = true) {Ψ : Spec} (hspec : ∀ ds Q, All2 (Has E.Δ) (Sig.sorts sg.params) ds → Ψ ds Q → wp E.Δ Φ Q T (E.γ ++ ds) []) : Holds E f sg Ψ := by
  intro w ds Q hs hok hγ hG hΨ
  have hw := hspec ds Q hs hΨ
  rw [← hT] at hw
  unfold walk at hw
  split at hw
  case h_2 => exact hw.elim
  rename_i fn c hb
  obtain ⟨b1, b2, _⟩ := bodyOf_ok hb
  let E' : Env := { E with old := fun k => AtL ds k ∨ AtL E.γ k, s0 := [] }
  have hW' : E'.Wf := ⟨hW.srt⟩
  have hr := start_ok (E := E') hsg hs hok hγ hG (fun k hk => hk) fn.ntmps
  refine calls_of_wp b1 b2 ?_
  exact run_ok (E := E') (w0 := w) (Fn := bodyPost E.P fn (fun e w' => Ends E sg w w' (fun k => AtL ds k ∨ AtL E.γ k) Q e)) hW' hmix (Φ := Φ) hΦ (F := ⟨sg, fn.results.toList⟩) (Post := Q) (fun T d w hT => by rw [show sg.pan = none from pan_of (isP_of hsg)] at hT; cases hT) (fun a w h => h)
    (fun S a w' ρ σ ts h _ hf hQ => fin_ok hW' (F := ⟨sg, fn.results.toList⟩) (isP_of hsg) rfl h hf hQ) 100000 0 (start sg E.γ.length fn.ntmps) _ _ [] [] _ _ w rfl (.code (.fin (List.nil_prefix))) hr hw
theorem groupV_ones : ∀ (ps : List (Tm × Srt)) (ds : List Dat), ds.length = ps.length → groupV (ps.map fun p => (false, [p.2])) ds = ds.map Dat.toV
  | [], [], _ => rfl
  | p :: ps, d :: ds, h => by
    simp only [List.map_cons, groupV, Bool.false_eq_true, if_false, List.headD_cons, List.length_cons, List.length_nil, List.drop_succ_cons, List.drop_zero]
    rw [groupV_ones ps ds (by simpa using h)]
  | [], _ :: _, h => by cases h
  | _ :: _, [], h => by cases h
/-- .. with arguments that are known -/
theorem startAt_ok {sg : Sig} {ps : List (Tm × Srt)} (hps : sg.params = ps.map fun p => (false, [p.2])) (hp : ∀ p ∈ ps, Has E.Δ p.2 (den E.Δ [] p.1) ∧ p.1.bnd 0 = true ∧ p.2.one = true) {ds : List Dat} (hds : ds = ps.map fun p => den E.Δ [] p.1) (hok : OkL w ds) (hγ : OkL w E.γ) (hG : E.globs w) (hold : ∀ k, AtL ds k ∨ AtL E.γ k → E.old k) (nt : Nat) :
    Rel E w (E.γ ++ ds) [] (startAt E.γ.length nt ps) { tmps := (groupV sg.params ds).toArray ++ Array.replicate (nt - (groupV sg.params ds).toArray.size) undef, defers := [] } w := by
  have hlen : ds.length = ps.length := by rw [hds, List.length_map]
  refine ⟨?_, rfl, ?_, (fun x hx => by cases hx), ⟨[], ⟨rfl, rfl, (fun j o h => by cases h)⟩, ?_⟩, List.prefix_append _ _, fun k hk => ?_⟩
  · rw [hps, groupV_ones ps ds hlen]
    simp only [startAt, Array.toList_append, Array.toList_replicate, List.size_toArray, List.length_map, hlen]
    refine All2.append (All2.of (by simp [hlen]) fun i x v hx hv => ?_) (All2.replicate (show VR E (E.γ ++ ds) [] (.v (.c .undef)) undef from rfl) _)
    rw [List.getElem?_map, Option.map_eq_some_iff] at hx
    obtain ⟨p, hpi, rfl⟩ := hx
    rw [hds, List.map_map, List.getElem?_map, hpi] at hv
    simp only [Option.map_some, Option.some.injEq, Function.comp] at hv
    subst hv
    obtain ⟨h1, h2, h3⟩ := hp p (List.mem_of_getElem? hpi)
    refine ⟨den E.Δ [] p.1, fun e => ?_, h1, rfl, h3⟩
    have := den_below (Δ := E.Δ) (ρ := []) p.1 h2 (E.γ ++ ds ++ e)
    rw [List.nil_append] at this
    exact this
  · simp only [startAt, List.length_append, hlen]
  · refine (Mem.start w).addOld (f := baseF E (E.γ ++ ds)) ⟨⟨fun d hd => ?_, hG⟩, baseFirm _ _⟩ rfl fun k hk => ⟨?_, by simp⟩
    · rcases List.mem_append.1 hd with hd | hd
      · exact hγ d hd
      · exact hok d hd
    · refine (baseFirm E (E.γ ++ ds)).lt w ⟨fun d hd => ?_, hG⟩ k hk
      rcases List.mem_append.1 hd with hd | hd
      · exact hγ d hd
      · exact hok d hd
  · right
    refine hold k ?_
    rcases atL_append hk with hk | hk
    · exact .inr hk
    · exact .inl hk
theorem walkAt_ok (hW : E.Wf) (hmix : E.P.follows .mixedOrders = true) {sgs : Nat → Option Sig} {Φ : Nat → Spec} (hΦ : ∀ f sg, sgs f = some sg → Prom E f sg (Φ f))
    {f : Nat} {sg : Sig} (hsg : sg.ok = true) {ps : List (Tm × Srt)} (hps : sg.params = ps.map fun p => (false, [p.2])) (hp : ∀ p ∈ ps, Has E.Δ p.2 (den E.Δ [] p.1) ∧ p.1.bnd 0 = true ∧ p.2.one = true) {ds : List Dat} (hds : ds = ps.map fun p => den E.Δ [] p.1)
    {Q : List Dat → Prop} (hw : wp E.Δ Φ Q (walkAt E.cx sgs E.γ.length f sg ps) (E.γ ++ ds) []) {w : World} (hok : OkL w ds) (hγ : OkL w E.γ) (hG : E.globs w) :
    Calls E.P f (groupV sg.params ds).toArray w fun e w' => Ends E sg w w' (fun k => AtL ds k ∨ AtL E.γ k) Q e := by
  unfold walkAt at hw
  split at hw
  case h_2 => exact hw.elim
  rename_i fn c hb
  obtain ⟨b1, b2, _⟩ := bodyOf_ok hb
  let E' : Env := { E with old := fun k => AtL ds k ∨ AtL E.γ k, s0 := [] }
  have hW' : E'.Wf := ⟨hW.srt⟩
  have hr := startAt_ok (E := E') hps hp hds hok hγ hG (fun k hk => hk) fn.ntmps
  refine calls_of_wp b1 b2 ?_
  exact run_ok (E := E') (w0 := w) (Fn := bodyPost E.P fn (fun e w' => Ends E sg w w' (fun k => AtL ds k ∨ AtL E.γ k) Q e)) hW' hmix (Φ := Φ) hΦ (F := ⟨sg, fn.results.toList⟩) (Post := Q) (fun T d w hT => by rw [show sg.pan = none from pan_of (isP_of hsg)] at hT; cases hT) (fun a w h => h)
    (fun S a w' ρ σ ts h _ hf hQ => fin_ok hW' (F := ⟨sg, fn.results.toList⟩) (isP_of hsg) rfl h hf hQ) 100000 0 (startAt E.γ.length fn.ntmps ps) _ _ [] [] _ _ w rfl (.code (.fin (List.nil_prefix))) hr hw
end
end Go.Proofs.YtcigbgpdikadpaaDoor
end

section
namespace Go.Proofs.YtcigbgpdikadpaaDoor
open Go.RowKit
set_option linter.unusedVariables false

def sgsN : List (Nat × Sig) → Nat → Option Sig
  | [], _ => none
  | x :: l, k => if x.1 = k then some x.2 else sgsN l k
structure Con (E : Env) where
  f : Nat
  sg : Sig
  Φ : Spec
  ok : sg.ok = true
  bo : ∃ x, bodyOf E.P f = some x
  holds : Holds E f sg Φ
def specC {E : Env} : List (Con E) → Nat → Spec
  | [], _ => fun _ _ => False
  | c :: T, k => if c.f = k then c.Φ else specC T k
def names {E : Env} (T : List (Con E)) : List (Nat × Sig) := T.map fun c => (c.f, c.sg)
theorem sgsN_con {E : Env} : ∀ (T : List (Con E)) (f : Nat) (sg : Sig), sgsN (names T) f = some sg → Prom E f sg (specC T f)
  | [], f, sg, h => by cases h
  | c :: T, f, sg, h => by
    simp only [names, List.map_cons, sgsN] at h
    by_cases e : c.f = f
    · rw [if_pos e] at h
      cases h
      subst e
      refine ⟨c.bo, ?_⟩
      rw [specC, if_pos rfl, if_pos (isP_of c.ok)]; exact ⟨c.ok, c.holds⟩
    · rw [if_neg e] at h
      have := sgsN_con T f sg h
      rw [specC, if_neg e]; exact this
theorem bo_of {P : Program} {f : Nat} (h : (bodyOf P f).isSome = true) : ∃ x, bodyOf P f = some x := Option.isSome_iff_exists.1 h
/-- a tree's demands, for all arguments of the sorts -/
def Meets (E : Env) (T : List (Con E)) (sg : Sig) (tr : Tree) (Ψ : Spec) : Prop := allS E.Δ (Sig.sorts sg.params) fun ds => ∀ Q, Ψ ds Q → wp E.Δ (specC T) Q tr (E.γ ++ ds) []
theorem con_of {E : Env} (hW : E.Wf) (hmix : E.P.follows .mixedOrders = true) (T : List (Con E)) {ns : List (Nat × Sig)} (hn : names T = ns) {f : Nat} {sg : Sig} {tr : Tree} {n : Nat} (hγ : E.γ.length = n) (hT : walk E.cx (sgsN ns) n f sg = tr) (hsg : sg.ok = true) {Ψ : Spec}
    (h : Meets E T sg tr Ψ) : Holds E f sg Ψ := by
  subst hn hγ
  exact walk_ok hW hmix (sgsN_con T) hT hsg fun ds Q hs hΨ => allS_use h hs Q hΨ
/-- package variables that are plain numbers -/
def litOk : Tm × Srt → Bool
  | (.int k _, .int k') => decide (k = k')
  | (.bool _, .bool) => true
  | (.str _, .str) => true
  | _ => false
theorem wf_lit {E : Env} (h : E.gt.all (fun x => x.2.1.all litOk) = true) : E.Wf := by
  refine ⟨fun x hx t ht => ?_⟩
  have h1 := List.all_eq_true.1 (List.all_eq_true.1 h x hx) t ht
  obtain ⟨t, s⟩ := t
  unfold litOk at h1
  split at h1
  · rename_i k n k' e
    simp only [decide_eq_true_eq] at h1
    cases e; subst h1
    exact ⟨.int _ _, rfl, rfl⟩
  · rename_i b e
    cases e
    exact ⟨.bool _, rfl, rfl⟩
  · rename_i l e
    cases e
    exact ⟨.str _, rfl, rfl⟩
  · cases h1

/-- numbers in data -/
def rowI (r : List Dat) (c : Nat) : Int := (r.getD c (.int .i64 0)).toInt
def argI (ds : List Dat) (i : Nat) : Int := (ds.getD i (.int .i64 0)).toInt
theorem toInt_getD (r : List Dat) (c : Nat) : (r.getD c (.int .i64 0)).toInt = rowI r c := rfl
end Go.Proofs.YtcigbgpdikadpaaDoor
end

section
namespace Go.Proofs.YtcigbgpdikadpaaDoor
open Go.RowKit
set_option linter.unusedVariables false
def tab : Tab := [(39, List.replicate 7 (.int .i64) ++ [.bool] ++ List.replicate 5 (.int .i64) ++ [.list 37]), (37, List.replicate 4 (.int .i64) ++ [.list 37]), (3, [.int .i64]), (48, [.list 3]), (31, [.int .i64, .int .i64] ++ [.bool] ++ List.replicate 9 (.int .i64) ++ [.list 39]), (5, [.int .u8])]
def gts : List (Nat × List (Tm × Srt) × Nat) := [(0, [(.int .u64 1, .int .u64), (.int .u64 10, .int .u64), (.int .u64 100, .int .u64), (.int .u64 1000, .int .u64), (.int .u64 10000, .int .u64), (.int .u64 100000, .int .u64), (.int .u64 1000000, .int .u64), (.int .u64 10000000, .int .u64), (.int .u64 100000000, .int .u64), (.int .u64 1000000000, .int .u64), (.int .u64 10000000000, .int .u64), (.int .u64 100000000000, .int .u64), (.int .u64 1000000000000, .int .u64), (.int .u64 10000000000000, .int .u64), (.int .u64 100000000000000, .int .u64), (.int .u64 1000000000000000, .int .u64), (.int .u64 10000000000000000, .int .u64), (.int .u64 100000000000000000, .int .u64), (.int .u64 1000000000000000000, .int .u64), (.int .u64 10000000000000000000, .int .u64)], 83)]
noncomputable def E0 : Env := ⟨Tryd.prog, tab, gts, [], fun _ => False, [], Frm.none, fun _ => True, fun _ => False, []⟩
theorem g0 : E0.γ = [] := rfl
theorem wf0 : E0.Wf := wf_lit (by kernel_rfl)
theorem mix0 : E0.P.follows .mixedOrders = true := by kernel_rfl
end Go.Proofs.YtcigbgpdikadpaaDoor
end
