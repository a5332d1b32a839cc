import Derived.Test.YtccdlmiemelifaaM13

set_option linter.unusedVariables false
set_option linter.unusedSimpArgs false

section
namespace Go.Proofs.Ytccdlmiemelifaa
open Go.RowKit
set_option linter.unusedVariables false
set_option linter.unusedSimpArgs false

def frK (x y : Hdr) (va vb : Value) (w : World) (z5 z6 z18 z20 : Value) : Act := ⟨#[.agg (x.cs va), .agg (y.cs vb), .pointer (some ⟨w.heap.size, 0, none⟩), .pointer (some ⟨w.heap.size + 1, 0, none⟩), .bool false, z5, z6, undef, undef, .bool true, .bool false, .agg (x.cs va), .bool false, .bool false, .agg (y.cs vb), .bool false, .bool false, .agg (x.cs va), z18, .agg (x.cs va), z20, undef, undef, undef, undef, undef, undef, undef, undef, undef, undef, undef, undef, undef, undef, undef, undef, undef, undef, undef, undef, undef, undef, undef, undef, undef, undef, undef, undef, undef, undef, undef, undef, undef, undef, undef, undef, undef, undef, undef, undef, undef, undef, undef, undef, undef, undef, undef, undef, undef, undef, undef, undef, undef, undef, undef, undef, undef, undef], []⟩
def zeroK : Array Value := #[.int .i64 0, .int .i64 0, .bool false, .int .i64 0, .int .i64 0, .int .i64 0, .int .i64 0, .int .i64 0, .int .i64 0, .int .i64 0, .int .i64 0, .int .i64 0, .slice none 0 0]
theorem yR_load {P : Program} {ops : Array Oper} {B : Nat → Prop} {a : Act} {W : World} {o : Oper} {b : Nat} {cs : Array Value} {T ty : TypeId} {d : TypeDesc} (hr : Row W b cs T) (hb : ¬ B b) (hw : Region.wanted o (yielded ops a.tmps) = true)
    (x : Operand) (hop : o.op = .load ty x) (hx : a.eval x = .pointer (some ⟨b, 0, none⟩)) (hu : P.underlying ty = some d) (hd : (match d with | .struct _ | .array _ _ => true | _ => false) = true) (hi : (P.info? ty).map (·.size) = some cs.size) : YieldsR P ops true B W o (.agg cs) a := by
  refine .inl ⟨hw, fun w' h => ?_⟩
  have hr' : Row w' b cs T := ((h rfl).block b hr.lt hb).trans hr
  have hl := run_loadVar_cells (P := P) w' ⟨b, 0, none⟩ ty cs d hu hd hi hr'.addr
  unfold execOp
  simp only [hop, hx, Instr.loadAt, Instr.sureAddr, Sem.run_bind, Sem.run_pure, Result.andThen_ok, hl]
theorem wpOp_event {P : Program} {ops : Array Oper} {Q : Exit → Act → World → Prop} {i : Nat} {a : Act} {W : World} {o : Oper} {K : Act → World → Prop} (ho : ops[i]? = some o) (hw : Region.wanted o (yielded ops a.tmps) = true) (h : o.wp P a W K Q) : wpOp P ops Q i K a W := by
  unfold wpOp
  simp only [ho, hw, if_true]
  exact .inl h
theorem run_store_whole {P : Program} (w : World) (b : Nat) (t ty : TypeId) (cs cs' : Array Value) (hg : Row w b cs t) (hsz : cs.size = cs'.size) (hs : (P.info? ty).map (·.size) = some cs'.size) (h1 : cs'.all (·.oneCell') = true) : (storeVar ty ⟨b, 0, none⟩ (.agg cs')).run P w = .ok () (w.setRow b cs') := by
  have hr := run_storeCells_at (P := P) b 0 t cs'.toList 0 cs w hg (by simp [hsz]) (fun x hx => by
    have := Array.all_eq_true'.1 h1 x (by simpa using hx)
    exact this)
  simp only [Option.map_eq_some_iff] at hs
  obtain ⟨ii, hii, hq⟩ := hs
  have hrow : ((cs.toList.take (0 + 0) ++ cs'.toList ++ cs.toList.drop (0 + 0 + cs'.toList.length)).toArray : Array Value) = cs' := by
    rw [← Array.toList_inj]
    simp [List.drop_of_length_le, hsz]
  rw [hrow] at hr
  simp [storeVar, sizeOf, typeInfo, hii, hq, Value.cells, hr]
theorem wpAnyR_one {P : Program} {md : Region.Mode} {ops : Array Oper} {hs : Bool} {B : Nat → Prop} {Q : Act → World → Prop} {fuel i : Nat} {listed : Array Bool} {a : Act} {W : World} (hr : Region.ready md ops listed = [i]) (h : wpOp P ops (calm Q) i (fun a' w' => LtO hs B W w' ∧ wpAnyR P md ops hs B Q fuel (listed.setIfInBounds i true) a' w') a W) : wpAnyR P md ops hs B Q (fuel + 1) listed a W := by
  refine ⟨fun e => ?_, fun j hj => ?_⟩
  · rw [hr] at e; cases e
  · rw [hr, List.mem_singleton] at hj
    subst hj
    exact h
theorem wpOp_store {P : Program} {ops : Array Oper} {Q : Exit → Act → World → Prop} {i b : Nat} {a : Act} {W : World} {o : Oper} {K : Act → World → Prop} {cs cs' : Array Value} {T : TypeId} (hr : Row W b cs T) (ho : ops[i]? = some o) (hw : Region.wanted o (yielded ops a.tmps) = true) (hdst : o.dst = none) (ty : TypeId) (x y : Operand) (hop : o.op = .store ty x y) (hx : a.eval x = .pointer (some ⟨b, 0, none⟩)) (hy : a.eval y = .agg cs')
    (hi : (P.info? ty).map (·.size) = some cs'.size) (hs : cs.size = cs'.size) (h1 : cs'.all (·.oneCell') = true) (h : K a (W.setRow b cs')) : wpOp P ops Q i K a W := by
  refine wpOp_event ho hw ?_
  have hrun := run_store_whole (P := P) W b T ty cs cs' hr hs hi h1
  unfold Oper.wp execOp
  simp only [hop, hx, hy, Instr.storeAt, Instr.sureAddr, Sem.run_bind, Sem.run_pure, Result.andThen_ok, hrun, Oper.upon, hdst, Act.put]
  exact h
/-- what is known between the copies -/
structure InvK (x y : Hdr) (va vb : Value) (ra : List (List Dat)) (w : World) (n0 : Nat) (c : Nat) (s4 s5 : Bool) (z5 z6 z18 z20 : Value) (W : World) : Prop where
  hb : Below w.heap.size w W
  ha : Row W w.heap.size (x.cs va) 37
  hy : Row W (w.heap.size + 1) (y.cs vb) 37
  hn : n0 ≤ W.heap.size
  b5 : s4 = true → ∃ k, z5 = .pointer (some ⟨k, 0, none⟩) ∧ n0 ≤ k ∧ Row W k zeroK 37
  b6 : s5 = true → ∃ k, z6 = .pointer (some ⟨k, 0, none⟩) ∧ n0 ≤ k ∧ Row W k zeroK 37
  b56 : s4 = true → s5 = true → z5 ≠ z6
  c1 : 1 ≤ c → ∃ u B E, z18 = .agg (x.cs u) ∧ u.oneCell' = true ∧ n0 ≤ B ∧ B ≤ E ∧ E ≤ W.heap.size ∧ CF ra W B E u ∧ (∀ k, (s4 = true ∧ z5 = .pointer (some ⟨k, 0, none⟩)) ∨ (s5 = true ∧ z6 = .pointer (some ⟨k, 0, none⟩)) → k < B ∨ E ≤ k) ∧
    (2 ≤ c → ∃ u' B' E', z20 = .agg (x.cs u') ∧ u'.oneCell' = true ∧ E ≤ B' ∧ E' ≤ W.heap.size ∧ CF ra W B' E' u' ∧ ∀ k, (s4 = true ∧ z5 = .pointer (some ⟨k, 0, none⟩)) ∨ (s5 = true ∧ z6 = .pointer (some ⟨k, 0, none⟩)) → k < B' ∨ E' ≤ k)
section
variable {x y : Hdr} {va vb z5 z6 z18 z20 : Value} {ra : List (List Dat)} {w W W' : World} {n0 c : Nat} {s4 s5 : Bool}
theorem InvK.below (h : InvK x y va vb ra w n0 c s4 s5 z5 z6 z18 z20 W) (hb : Below W.heap.size W W') : InvK x y va vb ra w n0 c s4 s5 z5 z6 z18 z20 W' where
  hb := h.hb.trans (hb.mono h.hb.size)
  ha := h.ha.below hb
  hy := h.hy.below hb
  hn := Nat.le_trans h.hn hb.size
  b5 := fun e => by obtain ⟨k, h1, h2, h3⟩ := h.b5 e; exact ⟨k, h1, h2, h3.below hb⟩
  b6 := fun e => by obtain ⟨k, h1, h2, h3⟩ := h.b6 e; exact ⟨k, h1, h2, h3.below hb⟩
  b56 := h.b56
  c1 := fun e => by
    obtain ⟨u, B, E, h1, h2, h3, h4, h5, h6, h7, h8⟩ := h.c1 e
    refine ⟨u, B, E, h1, h2, h3, h4, Nat.le_trans h5 hb.size, h6.below hb h5, h7, fun e2 => ?_⟩
    obtain ⟨u', B', E', g1, g2, g3, g4, g5, g6⟩ := h8 e2
    exact ⟨u', B', E', g1, g2, g3, Nat.le_trans g4 hb.size, g5.below hb g4, g6⟩
theorem InvK.box (h : InvK x y va vb ra w n0 c s4 s5 z5 z6 z18 z20 W) {k : Nat} (hk : (s4 = true ∧ z5 = .pointer (some ⟨k, 0, none⟩)) ∨ (s5 = true ∧ z6 = .pointer (some ⟨k, 0, none⟩))) : k < W.heap.size := by
  rcases hk with ⟨e, hz⟩ | ⟨e, hz⟩
  · obtain ⟨k', h1, _, h3⟩ := h.b5 e
    rw [hz] at h1; cases h1
    exact h3.lt
  · obtain ⟨k', h1, _, h3⟩ := h.b6 e
    rw [hz] at h1; cases h1
    exact h3.lt
theorem InvK.copy1 (h : InvK x y va vb ra w n0 0 s4 s5 z5 z6 z18 z20 W) (hb : Below W.heap.size W W') {u : Value} (hu : u.oneCell' = true) (hc : CF ra W' W.heap.size W'.heap.size u) : InvK x y va vb ra w n0 1 s4 s5 z5 z6 (.agg (x.cs u)) z20 W' :=
  { hb := (h.below hb).hb, ha := (h.below hb).ha, hy := (h.below hb).hy, hn := (h.below hb).hn, b5 := (h.below hb).b5, b6 := (h.below hb).b6, b56 := h.b56,
    c1 := fun _ => ⟨u, _, _, rfl, hu, h.hn, hb.size, Nat.le_refl _, hc, fun k hk => .inl (h.box hk), fun e => by omega⟩ }
theorem InvK.copy2 (h : InvK x y va vb ra w n0 1 s4 s5 z5 z6 z18 z20 W) (hb : Below W.heap.size W W') {u : Value} (hu : u.oneCell' = true) (hc : CF ra W' W.heap.size W'.heap.size u) : InvK x y va vb ra w n0 2 s4 s5 z5 z6 z18 (.agg (x.cs u)) W' :=
  { hb := (h.below hb).hb, ha := (h.below hb).ha, hy := (h.below hb).hy, hn := (h.below hb).hn, b5 := (h.below hb).b5, b6 := (h.below hb).b6, b56 := h.b56,
    c1 := fun _ => by
      obtain ⟨u1, B, E, h1, h2, h3, h4, h5, h6, h7, _⟩ := h.c1 (Nat.le_refl _)
      exact ⟨u1, B, E, h1, h2, h3, h4, Nat.le_trans h5 hb.size, h6.below hb h5, h7, fun _ => ⟨u, _, _, rfl, hu, h5, Nat.le_refl _, hc, fun k hk => .inl (h.box hk)⟩⟩ }
theorem InvK.new5 (h : InvK x y va vb ra w n0 c false s5 z5 z6 z18 z20 W) : InvK x y va vb ra w n0 c true s5 (.pointer (some ⟨W.heap.size, 0, none⟩)) z6 z18 z20 (W.alloc (.cells zeroK 37)) := by
  have hb : Below W.heap.size W (W.alloc (.cells zeroK 37)) := (Below.refl _ _).alloc (Nat.le_refl _) _
  have g := h.below hb
  refine { hb := g.hb, ha := g.ha, hy := g.hy, hn := g.hn, b5 := fun _ => ⟨_, rfl, h.hn, Row.new _ _ _⟩, b6 := g.b6, b56 := fun _ e => ?_, c1 := fun e => ?_ }
  · obtain ⟨k, h1, h2, h3⟩ := h.b6 e
    rw [h1]
    intro e2
    cases e2
    exact absurd h3.lt (Nat.lt_irrefl _)
  · obtain ⟨u, B, E, h1, h2, h3, h4, h5, h6, h7, h8⟩ := h.c1 e
    refine ⟨u, B, E, h1, h2, h3, h4, Nat.le_trans h5 hb.size, h6.below hb h5, fun k hk => ?_, fun e2 => ?_⟩
    · rcases hk with ⟨_, hk⟩ | hk
      · cases hk; exact .inr h5
      · exact h7 k (.inr hk)
    · obtain ⟨u', B', E', g1, g2, g3, g4, g5, g6⟩ := h8 e2
      refine ⟨u', B', E', g1, g2, g3, Nat.le_trans g4 hb.size, g5.below hb g4, fun k hk => ?_⟩
      rcases hk with ⟨_, hk⟩ | hk
      · cases hk; exact .inr g4
      · exact g6 k (.inr hk)
theorem InvK.new6 (h : InvK x y va vb ra w n0 c s4 false z5 z6 z18 z20 W) : InvK x y va vb ra w n0 c s4 true z5 (.pointer (some ⟨W.heap.size, 0, none⟩)) z18 z20 (W.alloc (.cells zeroK 37)) := by
  have hb : Below W.heap.size W (W.alloc (.cells zeroK 37)) := (Below.refl _ _).alloc (Nat.le_refl _) _
  have g := h.below hb
  refine { hb := g.hb, ha := g.ha, hy := g.hy, hn := g.hn, b6 := fun _ => ⟨_, rfl, h.hn, Row.new _ _ _⟩, b5 := g.b5, b56 := fun e _ => ?_, c1 := fun e => ?_ }
  · obtain ⟨k, h1, h2, h3⟩ := h.b5 e
    rw [h1]
    intro e2
    cases e2
    exact absurd h3.lt (Nat.lt_irrefl _)
  · obtain ⟨u, B, E, h1, h2, h3, h4, h5, h6, h7, h8⟩ := h.c1 e
    refine ⟨u, B, E, h1, h2, h3, h4, Nat.le_trans h5 hb.size, h6.below hb h5, fun k hk => ?_, fun e2 => ?_⟩
    · rcases hk with hk | ⟨_, hk⟩
      · exact h7 k (.inl hk)
      · cases hk; exact .inr h5
    · obtain ⟨u', B', E', g1, g2, g3, g4, g5, g6⟩ := h8 e2
      refine ⟨u', B', E', g1, g2, g3, Nat.le_trans g4 hb.size, g5.below hb g4, fun k hk => ?_⟩
      rcases hk with hk | ⟨_, hk⟩
      · exact g6 k (.inl hk)
      · cases hk; exact .inr g4
end
set_option maxRecDepth 1000000 in
set_option maxHeartbeats 400000 in
theorem law7_w (x y : Hdr) (va vb : Value) (ra rb : List (List Dat)) (w : World) (hA : Has E0.Δ (.list 42) (.list va 14 ra)) (hB : Has E0.Δ (.list 42) (.list vb 14 rb)) (oA : OkD w (.list va 14 ra)) (oB : OkD w (.list vb 14 rb)) :
    Calls Try.prog 4 #[.agg (x.cs va), .agg (y.cs vb)] w fun e w' => e = .returned (.bool true) ∧ Below w.heap.size w w' := by
  have okA : ∀ W, Below w.heap.size w W → OkD W (.list va 14 ra) := fun W h => oA.keeps (grown_of_below h) fun _ _ e => by cases e
  have okB : ∀ W, Below w.heap.size w W → OkD W (.list vb 14 rb) := fun W h => oB.keeps (grown_of_below h) fun _ _ e => by cases e
  have HLA := fun W (h : Below w.heap.size w W) => c_large x va ra W hA (okA W h)
  have HLB := fun W (h : Below w.heap.size w W) => c_large y vb rb W hB (okB W h)
  have HB0 : Below w.heap.size w ((w.alloc (.cells (x.cs va) 37)).alloc (.cells (y.cs vb) 37)) := ((Below.refl w.heap.size w).alloc (Nat.le_refl _) _).alloc (by simp) _
  have HRA : Row ((w.alloc (.cells (x.cs va) 37)).alloc (.cells (y.cs vb) 37)) w.heap.size (x.cs va) 37 := (Row.new w _ _).alloc _
  have HRB : Row ((w.alloc (.cells (x.cs va) 37)).alloc (.cells (y.cs vb) 37)) (w.heap.size + 1) (y.cs vb) 37 := by
    have := Row.new (w.alloc (.cells (x.cs va) 37)) (y.cs vb) 37
    simpa using this
  go_enter Try.func4, Try.ntmps4
  go_wp2_with (first
    | (go_at_call 13; refine (c_alive _).mono ?_; rintro e W1 ⟨x, rfl, rfl, hb1⟩; replace HRA := HRA.below hb1; replace HRB := HRB.below hb1; replace HB0 := HB0.trans (hb1.mono HB0.size); clear hb1)
    | (refine wpList_load_Row HRA rfl _ _ rfl rfl _ Try.underlying37 rfl (Hdr.isz _ _) ?_)
    | (refine wpList_load_RowW HRB rfl _ _ rfl rfl _ Try.underlying37 rfl (Hdr.isz _ _) ?_)
    | (go_at_call_of 14 va; refine (HLA _ HB0).mono ?_; rintro e W2 ⟨la, rfl, hla, hb2⟩; replace HRA := HRA.below hb2; replace HRB := HRB.below hb2; replace HB0 := HB0.trans (hb2.mono HB0.size); clear hb2; cases la)
    | (go_at_call_of 14 (x.cs va); refine (HLA _ HB0).mono ?_; rintro e W2 ⟨la, rfl, hla, hb2⟩; replace HRA := HRA.below hb2; replace HRB := HRB.below hb2; replace HB0 := HB0.trans (hb2.mono HB0.size); clear hb2; cases la)
    | (go_at_call_of 14 vb; refine (HLB _ HB0).mono ?_; rintro e W3 ⟨lb, rfl, hlb, hb3⟩; replace HRA := HRA.below hb3; replace HRB := HRB.below hb3; replace HB0 := HB0.trans (hb3.mono HB0.size); clear hb3; cases lb)
    | (go_at_call_of 14 (y.cs vb); refine (HLB _ HB0).mono ?_; rintro e W3 ⟨lb, rfl, hlb, hb3⟩; replace HRA := HRA.below hb3; replace HRB := HRB.below hb3; replace HB0 := HB0.trans (hb3.mono HB0.size); clear hb3; cases lb))
  rotate_left
  · go_ret
    exact ⟨rfl, HB0⟩
  · go_ret
    exact ⟨rfl, HB0⟩
  have hsA : SzC ra := hla trivial
  clear hla hlb HLA HLB
  replace HRA := HRA.drew
  replace HRB := HRB.drew
  replace HB0 := HB0.drew
  refine wp_region_R (hs := true) (by kernel_rfl) (fun k => W3.drew.heap.size ≤ k) ?_
  generalize W3.drew = W at *
  have hl1 := HRB.lt
  refine wpAnyR_first (i := 0) (v := .agg (x.cs va)) rfl (Region.noSelect_spec (by kernel_rfl)) 7 _ _ _ (Region.free_spec rfl (by kernel_rfl)) (List.elem_iff.1 (by kernel_rfl)) (yR_load HRA (by omega) rfl _ rfl rfl Try.underlying37 rfl (Hdr.isz _ _)) ?_
  refine wpAnyR_first (i := 2) (v := .agg (x.cs va)) rfl (Region.noSelect_spec (by kernel_rfl)) 6 _ _ _ (Region.free_spec rfl (by kernel_rfl)) (List.elem_iff.1 (by kernel_rfl)) (yR_load HRA (by omega) rfl _ rfl rfl Try.underlying37 rfl (Hdr.isz _ _)) ?_
  refine r5 (frK x y va vb w) (InvK x y va vb ra w W.heap.size) ?_ ?_ ?_ ?_ ?_ ?_ 4 0 false false (by omega) rfl undef undef undef undef W ⟨HB0, HRA, HRB, Nat.le_refl _, fun h => (by cases h), fun h => (by cases h), fun h => (by cases h), fun h => (by omega)⟩
  · intro c s4 s5 hc hn
    obtain rfl | rfl | rfl : c = 0 ∨ c = 1 ∨ c = 2 := by omega
    · cases s4 <;> cases s5 <;> (clear hc hn; show _ = _; kernel_rfl)
    · cases s4 <;> cases s5 <;> (clear hc hn; show _ = _; kernel_rfl)
    · cases s4 <;> cases s5 <;> first | exact absurd ⟨rfl, rfl, rfl⟩ hn | (clear hc hn; show _ = _; kernel_rfl)
  · intro s4 s5 z5 z6 z18 z20 W1 h
    refine wpOp_event rfl rfl ?_
    go_step
    refine (c_copy x va ra W1 hA (okA W1 h.hb) hsA).mono ?_
    rintro e W4 ⟨u, rfl, hu, hb4, hc⟩
    exact ⟨fun _ => Lt.below hb4, _, rfl, h.copy1 hb4 hu hc⟩
  · intro s4 s5 z5 z6 z18 z20 W1 h
    refine wpOp_event rfl rfl ?_
    go_step
    refine (c_copy x va ra W1 hA (okA W1 h.hb) hsA).mono ?_
    rintro e W4 ⟨u, rfl, hu, hb4, hc⟩
    exact ⟨fun _ => Lt.below hb4, _, rfl, h.copy2 hb4 hu hc⟩
  · intro c s5 z5 z6 z18 z20 W1 h
    refine wpOp_event rfl rfl ?_
    go_step
    exact ⟨fun _ => Lt.below ((Below.refl _ _).alloc (Nat.le_refl _) _), _, rfl, h.new5⟩
  · intro c s4 z5 z6 z18 z20 W1 h
    refine wpOp_event rfl rfl ?_
    go_step
    exact ⟨fun _ => Lt.below ((Below.refl _ _).alloc (Nat.le_refl _) _), _, rfl, h.new6⟩
  intro z5 z6 z18 z20 W1 h
  obtain ⟨k5, rfl, hk5, HR5⟩ := h.b5 rfl
  obtain ⟨k6, rfl, hk6, HR6⟩ := h.b6 rfl
  have hne : k5 ≠ k6 := fun e => h.b56 rfl rfl (by rw [e])
  obtain ⟨u1, B1, E1, rfl, hu1, hB1, hBE1, hE1, hc1, hx1, h2⟩ := h.c1 (by omega)
  obtain ⟨u2, B2, E2, rfl, hu2, hB2, hE2, hc2, hx2⟩ := h2 (Nat.le_refl _)
  have o15 := hx1 k5 (.inl ⟨rfl, rfl⟩)
  have o16 := hx1 k6 (.inr ⟨rfl, rfl⟩)
  have o25 := hx2 k5 (.inl ⟨rfl, rfl⟩)
  have o26 := hx2 k6 (.inr ⟨rfl, rfl⟩)
  have g1 : W1.grownBy (W1.setRow k5 (x.cs u1)) (some k5) := grownBy_setRow _ _ _
  have g2 : (W1.setRow k5 (x.cs u1)).grownBy ((W1.setRow k5 (x.cs u1)).setRow k6 (x.cs u2)) (some k6) := grownBy_setRow _ _ _
  have s1 : (W1.setRow k5 (x.cs u1)).heap.size = W1.heap.size := by simp [World.setRow]
  have HRA2 := (h.ha.otherRow (b' := k5) (by omega) (x.cs u1)).otherRow (b' := k6) (by omega) (x.cs u2)
  have HRB2 := (h.hy.otherRow (b' := k5) (by omega) (x.cs u1)).otherRow (b' := k6) (by omega) (x.cs u2)
  have HR5b := (HR5.setRow (x.cs u1)).otherRow (b' := k6) hne (x.cs u2)
  have HR6a := HR6.otherRow (b' := k5) (Ne.symm hne) (x.cs u1)
  have HR6b := HR6a.setRow (x.cs u2)
  have HB2 := below_setRow (below_setRow h.hb (show w.heap.size ≤ k5 by omega) (x.cs u1)) (show w.heap.size ≤ k6 by omega) (x.cs u2)
  have hc1b := (hc1.grown g1 hE1 o15).grown g2 (by rw [s1]; exact hE1) o16
  have hc2b := (hc2.grown g1 hE2 o25).grown g2 (by rw [s1]; exact hE2) o26
  refine wpAnyR_one (i := 6) (by kernel_rfl) (wpOp_store HR5 rfl rfl rfl 37 _ _ rfl rfl rfl (Hdr.isz _ _) rfl (Hdr.ones _ hu1) ⟨fun _ => Lt.grown g1 (fun k e => by cases e; exact hk5), ?_⟩)
  refine wpAnyR_one (i := 7) (by kernel_rfl) (wpOp_store HR6a rfl rfl rfl 37 _ _ rfl rfl rfl (Hdr.isz _ _) rfl (Hdr.ones _ hu2) ⟨fun _ => Lt.grown g2 (fun k e => by cases e; exact hk6), ?_⟩)
  refine wpAnyR_done (by kernel_rfl) ?_
  generalize hW9 : (W1.setRow k5 (x.cs u1)).setRow k6 (x.cs u2) = W9 at *
  have hsz9 : W1.heap.size = W9.heap.size := by rw [← hW9]; simp [World.setRow]
  rw [hsz9] at hE1 hE2
  clear hW9 hsz9 g1 g2 s1 HR6a HR5 HR6 hc1 hc2 h h2 hx1 hx2 HRA HRB HB0
  obtain ⟨hC1, rc, c1, c2, c3, _⟩ := hc1b
  unfold frK
  go_wp2_with fail
  replace HRA2 := HRA2.drew
  replace HRB2 := HRB2.drew
  replace HR5b := HR5b.drew
  replace HR6b := HR6b.drew
  have hdr : Below W9.heap.size W9 W9.drew := (Below.refl _ _).drew
  replace HB2 := HB2.drew
  replace c1 : OkD W9.drew (.list u1 14 rc) := c1.keeps (grown_of_below hdr) fun _ _ e => by cases e
  replace hC1 : TrC W9.drew B1 E1 u1 ra.length := hC1.same (Sm.lt hdr hE1)
  replace hc2b := hc2b.below hdr hE2
  replace hE1 : E1 ≤ W9.drew.heap.size := hE1
  replace hE2 : E2 ≤ W9.drew.heap.size := hE2
  refine wp_region_E [(true, 0), (true, 1), (false, 2), (true, 3), (true, 4), (true, 5), (true, 6), (true, 8), (true, 9), (false, 7), (false, 10), (true, 11), (true, 12)] (by kernel_rfl) (by kernel_rfl) (by kernel_rfl) (by kernel_rfl) ?_
  generalize W9.drew = V at *
  clear hdr
  refine wpE_load HRA2 rfl rfl _ rfl rfl Try.underlying37 rfl (Hdr.isz _ _) ?_
  refine wpE_load HR5b rfl rfl _ rfl rfl Try.underlying37 rfl (Hdr.isz _ _) ?_
  refine wpE_event rfl rfl (fun K hK => ?_)
  go_step
  refine (c_same x x va u1 ra rc V hA c2 (okA _ HB2) c1 hsA).mono ?_
  rintro e V1 ⟨b, rfl, hb, hb8⟩
  obtain rfl : b = true := hb.2 (keyC_congr x c3.symm)
  refine hK _ _ (Lat.of hb8) ?_
  clear hK K hb c1 c2 c3
  replace HRA2 := HRA2.below hb8
  replace HRB2 := HRB2.below hb8
  replace HR5b := HR5b.below hb8
  replace HR6b := HR6b.below hb8
  replace HB2 := HB2.trans (hb8.mono HB2.size)
  replace hC1 := hC1.same (Sm.lt hb8 hE1)
  replace hc2b := hc2b.below hb8 hE2
  replace hE1 := Nat.le_trans hE1 hb8.size
  replace hE2 := Nat.le_trans hE2 hb8.size
  clear hb8
  iterate 2 (refine wpE_quiet rfl ?_; go_big_quiet_step (fail); refine wpQuiet_nil ?_)
  refine wpE_load HRA2 rfl rfl _ rfl rfl Try.underlying37 rfl (Hdr.isz _ _) ?_
  refine wpE_load HRB2 rfl rfl _ rfl rfl Try.underlying37 rfl (Hdr.isz _ _) ?_
  refine wpE_load HRA2 rfl rfl _ rfl rfl Try.underlying37 rfl (Hdr.isz _ _) ?_
  refine wpE_load HRB2 rfl rfl _ rfl rfl Try.underlying37 rfl (Hdr.isz _ _) ?_
  refine wpE_event rfl rfl (fun K hK => ?_)
  go_step
  refine (c_same x y va vb ra rb V1 hA hB (okA _ HB2) (okB _ HB2) hsA).mono ?_
  rintro e V2 ⟨b, rfl, hx, hb8⟩
  refine hK _ _ (Lat.of hb8) ?_
  clear hK K
  replace HRA2 := HRA2.below hb8
  replace HRB2 := HRB2.below hb8
  replace HR5b := HR5b.below hb8
  replace HR6b := HR6b.below hb8
  replace HB2 := HB2.trans (hb8.mono HB2.size)
  replace hC1 := hC1.same (Sm.lt hb8 hE1)
  replace hc2b := hc2b.below hb8 hE2
  replace hE1 := Nat.le_trans hE1 hb8.size
  replace hE2 := Nat.le_trans hE2 hb8.size
  clear hb8
  refine wpE_event rfl rfl (fun K hK => ?_)
  go_step
  refine (c_cards x y va vb ra rb V2 hA hB (okA _ HB2) (okB _ HB2) hsA).mono ?_
  rintro e V3 ⟨b', rfl, hy, hb8⟩
  refine hK _ _ (Lat.of hb8) ?_
  clear hK K
  replace HRA2 := HRA2.below hb8
  replace HRB2 := HRB2.below hb8
  replace HR5b := HR5b.below hb8
  replace HR6b := HR6b.below hb8
  replace HB2 := HB2.trans (hb8.mono HB2.size)
  replace hC1 := hC1.same (Sm.lt hb8 hE1)
  replace hc2b := hc2b.below hb8 hE2
  replace hE1 := Nat.le_trans hE1 hb8.size
  replace hE2 := Nat.le_trans hE2 hb8.size
  clear hb8
  obtain rfl : b = b' := by
    have := hx.trans hy.symm
    cases b <;> cases b' <;> simp at this <;> rfl
  clear hx hy HRB2
  iterate 2 (refine wpE_quiet rfl ?_; go_big_quiet_step (fail); refine wpQuiet_nil ?_)
  refine wpE_nil ?_
  have h0 : w.heap.size < B1 := by omega
  have HM : MidK x va ra w B1 E1 B2 E2 k5 k6 u1 u2 V3 := ⟨HRA2, HR5b, HR6b, HB2, hC1, hc2b, hE2⟩
  obtain ⟨A, cc, rfl, hn9⟩ := hC1.slice
  generalize hln : ra.length = ln at *
  have hc12 : V3.cell? ⟨k5, 12, none⟩ = some (.slice A ln cc) := HR5b.cell rfl
  have HP := fun (wr : World) (h : MidK x va ra w B1 E1 B2 E2 k5 k6 (.slice A ln cc) u2 wr) (g o : Nat) (y z : Int) (hp : wr.cell? ⟨g, o, none⟩ = some (.int .i64 y)) (hg : B1 ≤ g) (hg2 : g < E1) => h.poke h0 o15 o16 hB2 (z := z) hp hg hg2
  clear HRA2 HR5b HR6b HB2 hc2b hE1 hE2 hC1 o15 o16 o25 o26 hB1 hBE1 hB2 hk5 hk6 hl1 hu1 hu2
  go_wp2_with fail
  go_loopg [7, 37] ln (fun g _ p37 wr => ∃ i : Nat, ln ≤ i + g ∧ i ≤ ln ∧ p37 = .int .i64 i ∧ MidK x va ra w B1 E1 B2 E2 k5 k6 (.slice A ln cc) u2 wr)
  case atStart => exact ⟨0, by omega, by omega, rfl, HM⟩
  case round =>
    obtain ⟨i, hg, hi, rfl, HM⟩ := hrel
    by_cases hlt : i < ln
    · have hlt' : (i : Int) < ln := by omega
      have hC := HM.hC
      rw [hln] at hC
      obtain ⟨g, off, rfl, hgB, hgE, ⟨a0, hca, hfa⟩, _⟩ := hC.at hlt
      clear hC
      have hc5 : wr.cell? ⟨k5, 12, none⟩ = some (.slice (some ⟨g, off, none⟩) ln cc) := HM.h5.cell rfl
      have HM1 := HP wr HM g (off + i * 14) a0 (Go.RowKit.wrap64 (a0 + 1)) hca hgB hgE
      go_upto_region 12 with fail
      generalize hwr1 : wr.setCell ⟨g, off + i * 14, none⟩ (.int .i64 (Go.RowKit.wrap64 (a0 + 1))) = wr1 at *
      clear hwr1 hca hfa hc5 hc12 HM
      have hC1 := HM1.hC
      rw [hln] at hC1
      obtain ⟨g', off', e, _, _, _, u, hcu, htu⟩ := hC1.at hlt
      cases e
      clear hC1
      obtain ⟨Au, nu, cu, rfl⟩ := htu.slice
      have hnu := htu.small
      have hc5 : wr1.cell? ⟨k5, 12, none⟩ = some (.slice (some ⟨g, off, none⟩) ln cc) := HM1.h5.cell rfl
      have hcu' : wr1.cell? ⟨g, off + i * 14 + 9 + 4, none⟩ = some (.slice Au nu cu) := hcu
      go_wp2_with fail
      have HI : MidK x va ra w B1 E1 B2 E2 k5 k6 (.slice (some ⟨g, off, none⟩) ln cc) u2 wr1 ∧ wr1.cell? ⟨g, off + i * 14 + 13, none⟩ = some (.slice Au nu cu) := ⟨HM1, hcu⟩
      clear hc5 hcu' hcu htu HM1
      obtain ⟨G0, hG0⟩ : ∃ G0, G0 = gk := ⟨gk, rfl⟩
      have hgG : ln ≤ i + G0 := by omega
      go_loopg [8, 57] nu (fun gg _ p57 ws => ∃ k : Nat, nu ≤ k + gg ∧ k ≤ nu ∧ p57 = .int .i64 k ∧ MidK x va ra w B1 E1 B2 E2 k5 k6 (.slice (some ⟨g, off, none⟩) ln cc) u2 ws ∧ ws.cell? ⟨g, off + i * 14 + 13, none⟩ = some (.slice Au nu cu))
      case atStart => exact ⟨0, by omega, by omega, rfl, HI.1, HI.2⟩
      case round =>
        clear HI
        obtain ⟨k, hgk, hk, rfl, HMs, hcs⟩ := hrel
        by_cases hlk : k < nu
        · have hlk' : (k : Int) < nu := by omega
          have hC := HMs.hC
          rw [hln] at hC
          obtain ⟨g', off', e, _, _, _, u', hcu', htu'⟩ := hC.at hlt
          cases e
          rw [hcs] at hcu'
          cases hcu'
          obtain ⟨g2, off2, rfl, hB, hE, a2, hca2, hfa2⟩ := htu'.at hlk
          have hc5 : wr.cell? ⟨k5, 12, none⟩ = some (.slice (some ⟨g, off, none⟩) ln cc) := HMs.h5.cell rfl
          have hcs' : wr.cell? ⟨g, off + i * 14 + 9 + 4, none⟩ = some (.slice (some ⟨g2, off2, none⟩) nu cu) := hcs
          have HM2 := HP wr HMs g2 (off2 + k * 5 + 1) a2 (Go.RowKit.wrap64 (a2 + 1)) hca2 hB hE
          have hcs2 : (wr.setCell ⟨g2, off2 + k * 5 + 1, none⟩ (.int .i64 (Go.RowKit.wrap64 (a2 + 1)))).cell? ⟨g, off + i * 14 + 13, none⟩ = some (.slice (some ⟨g2, off2, none⟩) nu cu) := by
            rw [World.cell?_setCell_other (h := by
              intro e
              rw [e, hcs] at hca2
              cases hca2)]
            exact hcs
          have HF := Lib.hid (And.intro HM2 hcs2)
          have hk2 : (k : Int) + 1 ≤ 1001 := by omega
          have hk0 : (0 : Int) ≤ k := by omega
          clear HM2 hcs2 hcs htu' hC HMs HP
          go_wp2
          go_roundg (gk - 1)
          case rel => exact ⟨k + 1, by omega, by omega, by simp, HF.out.1, HF.out.2⟩
          case measure => omega
        · obtain rfl : k = nu := by omega
          have hcond : ¬ (k : Int) < k := by omega
          have hi2 : (i : Int) + 1 ≤ 1000 := by omega
          have hi0 : (0 : Int) ≤ i := by omega
          have HF := Lib.hid HMs
          clear HMs hcs HP
          go_wp2
          go_roundg (G0 - 1)
          case rel => exact ⟨i + 1, by omega, by omega, by simp, HF.out⟩
          case measure => omega
    · obtain rfl : i = ln := by omega
      have hcond : ¬ (i : Int) < i := by omega
      obtain ⟨_, rd, d1, d2, d3, _⟩ := HM.hD
      have HRA := HM.ha
      have HR6 := HM.h6
      have HBB := HM.hb
      clear HM HP hc12
      go_wp2_with (first
        | (refine wpList_load_Row HRA rfl _ _ rfl rfl _ Try.underlying37 rfl (Hdr.isz _ _) ?_)
        | (refine wpList_load_Row HR6 rfl _ _ rfl rfl _ Try.underlying37 rfl (Hdr.isz _ _) ?_)
        | (go_at_call 17; refine (c_cards x x va u2 ra rd wr hA d2 (okA _ HBB) d1 hsA).mono ?_; rintro e V4 ⟨b4, rfl, hb4, hbb⟩; obtain rfl : b4 = true := hb4.2 (keyC_congr x d3.symm); replace HBB := HBB.trans (hbb.mono HBB.size); clear hb4 hbb))
      go_ret
      exact ⟨rfl, HBB⟩
def k_lcardsame : Nat := 4
def sg_lcardsame : Sig := ⟨[(true, [.int .i64, .int .i64] ++ [.bool] ++ List.replicate 9 (.int .i64) ++ [.list 42]), (true, [.int .i64, .int .i64] ++ [.bool] ++ List.replicate 9 (.int .i64) ++ [.list 42])], [(false, [.bool])], false, false, false, false, false⟩
noncomputable def tr_lcardsame : Tree := walk E0.cx (sgsN []) 0 4 sg_lcardsame
theorem wk_lcardsame : walk E0.cx (sgsN []) 0 4 sg_lcardsame = tr_lcardsame := rfl
theorem bo_lcardsame : ∃ x, bodyOf E0.P 4 = some x := bo_of (by kernel_rfl)
theorem lcardsame_h : Holds E0 k_lcardsame sg_lcardsame (fun ds Q => InL ds ∧ Q [.bool true]) := fun w ds Q h1 h2 h3 h4 ⟨hi, hq⟩ => by
  obtain ⟨x0, x1, x2, x3, x4, x5, x6, x7, x8, x9, x10, x11, va, ra, rest, rfl, hA, h1'⟩ := card_split (ss := cardS) h1
  obtain ⟨y0, y1, y2, y3, y4, y5, y6, y7, y8, y9, y10, y11, vb, rb, rest', rfl, hB, h1''⟩ := card_split (ss := []) h1'
  cases h1''
  refine (law7_w ⟨x0, x1, x2, x3, x4, x5, x6, x7, x8, x9, x10, x11⟩ ⟨y0, y1, y2, y3, y4, y5, y6, y7, y8, y9, y10, y11⟩ va vb ra rb w hA hB (h2 _ (by simp)) (h2 _ (by simp))).mono ?_
  rintro e w' ⟨rfl, hb⟩
  refine ⟨_, hq, .cons (.bool _) .nil, hb, fun d hd => by rw [List.mem_singleton.1 hd]; exact .bool _, fun k ⟨d, hd, hk⟩ => ?_, ?_⟩
  · rw [List.mem_singleton.1 hd] at hk; cases hk
  · show (if false = true then _ else _)
    rw [if_neg Bool.false_ne_true]; rfl
end Go.Proofs.Ytccdlmiemelifaa
end
