import Derived.Test.YtbpbdanggilnpaaDoorM15
import Derived.Recover
import Derived.Tactics2
import Derived.Laws.Pointers

set_option linter.unusedVariables false
set_option linter.unusedSimpArgs false

section
namespace Go.Proofs.YtbpbdanggilnpaaDoor
open Go.RowKit
set_option linter.unusedVariables false
set_option linter.unusedSimpArgs false
def k_rRead : Nat := 16
def sg_rRead : Sig := ⟨[], [(true, [.list 3, .list 3, .list 3] ++ [.list 68]), (false, [.err])], false, false, false, false, false, [(false, [.b 0 0])], [(52, [.v (.list 5)])], none⟩
noncomputable def tr_rRead : Tree := walk E0.cx (sgsN []) 0 16 sg_rRead
theorem wk_rRead : walk E0.cx (sgsN []) 0 16 sg_rRead = tr_rRead := rfl
theorem bo_rRead : ∃ x, bodyOf E0.P 16 = some x := bo_of (by kernel_rfl)
theorem catch_idle (p q : Addr) (w : World) : CallsD Tryd.prog 31 #[.pointer (some p), .pointer (some q)] .returning w fun e u' w' => e = .returned (.tuple #[]) ∧ u' = .returning ∧ w' = w := by
  refine callsD_of_wpS Tryd.func31 rfl fun c₀ cs hu => ?_
  apply wpS_seq
  apply wpS_region
  simp [wpOpsS, go_sem, recoverD, hu, Tryd.ntmps31, Exit.thenS]
  refine wpS_of_wp ?_
  go_wp2
  cases c₀
  simp_all [bodyPostS, results, Tryd.results31]
theorem run_assert_wrong (v : Value) (w : World) : (Instr.typeAssert (.iface 77 v) 20 77 true).run Tryd.prog w = .ok (.tuple #[v, .bool true]) w := by
  simp [Instr.typeAssert, run_underlying Tryd.underlying77]
section
variable {P : Program} {ops : Array Oper} {md : Region.Mode} {B : Nat → Prop} {Q : Exit → Act → World → Prop} {hs : Bool} {a : Act} {w w0 : World} {L : List Fact} {ob : Option Nat} {o : Oper}
theorem wpAnyR_one {i : Nat} {fuel : Nat} {listed : Array Bool} (hr : Region.ready md ops listed = [i]) (h : wpOp P ops (panQ Q) i (fun a' w' => LtO hs B w w' ∧ wpAnyR P md ops hs B Q fuel (listed.setIfInBounds i true) a' w') a w) : wpAnyR P md ops hs B Q (fuel + 1) listed a w :=
  ⟨fun e => (by rw [hr] at e; cases e), fun j hj => by
    rw [hr, List.mem_singleton] at hj
    subst hj; exact h⟩
theorem wpOp_setRow (HM : Mem ob w0 w L) {i : Nat} (hi : ops[i]? = some o) (hw : Region.wanted o (yielded ops a.tmps) = true) {b : Nat} {cs cs' : Array Value} {T ty : TypeId} {x y : Operand} {k : Nat} (hdst : o.dst = none) (ho : o.op = .store ty x y) (hx : a.eval x = .pointer (some ⟨b, 0, none⟩)) (hy : a.eval y = .agg cs')
    (hk : Sel L k (.row b cs T)) (hin : (P.info? ty).map (·.size) = some cs'.size) (hss : cs.size = cs'.size) (h1 : cs'.all (·.oneCell') = true) (hB : B b) {K : Act → World → Prop}
    (h : ∀ w', Mem ob w0 w' (L.set k (.row b cs' T)) → K a w') : wpOp P ops Q i (fun a' w' => LtO hs B w w' ∧ K a' w') a w := by
  unfold wpOp
  have hR := HM.row (List.mem_of_getElem? hk.get)
  have hr := run_storeVar_row (P := P) w b T ty cs cs' hR hin hss h1
  simp only [hi, hw, if_true]
  refine .inl ?_
  unfold Oper.wp execOp
  simp only [ho, hx, hy, Instr.storeAt, Instr.sureAddr, Sem.run_bind, Sem.run_pure, Result.andThen_ok, hr, Oper.upon, hdst, Act.put]
  exact ⟨fun _ => Lt.grown (grownBy_setRow w b cs') (fun k hk => by cases hk; exact hB), h _ (HM.upd k hk.get (w' := w.setRow b cs') (f' := .row b cs' T) (grownBy_setRow w b cs') (fun j hj => by cases hj; exact ⟨rfl, rfl⟩) (hR.setRow _) rfl (fun j hj => .inl hj))⟩
theorem wpOp_set (HM : Mem ob w0 w L) {i : Nat} (hi : ops[i]? = some o) (hw : Region.wanted o (yielded ops a.tmps) = true) {b j : Nat} {cs : Array Value} {T ty : TypeId} {x y : Operand} {v : Value} {k : Nat} (hdst : o.dst = none) (ho : o.op = .store ty x y) (hx : a.eval x = .pointer (some ⟨b, j, none⟩)) (hy : a.eval y = v)
    (hk : Sel L k (.row b cs T)) (hj : j < cs.size) (hss : (P.info? ty).map (·.size) = some 1) (h1 : v.oneCell' = true) (hB : B b) {K : Act → World → Prop}
    (h : ∀ w', Mem ob w0 w' (L.set k (.row b (cs.setIfInBounds j v) T)) → K a w') : wpOp P ops Q i (fun a' w' => LtO hs B w w' ∧ K a' w') a w := by
  unfold wpOp
  obtain ⟨w', hrun, hst⟩ := run_store_cell (P := P) w b j T ty cs v (HM.row (List.mem_of_getElem? hk.get)) hj hss h1
  simp only [hi, hw, if_true]
  refine .inl ?_
  unfold Oper.wp execOp
  simp only [ho, hx, hy, Instr.storeAt, Instr.sureAddr, Sem.run_bind, Sem.run_pure, Result.andThen_ok, hrun, Oper.upon, hdst, Act.put]
  exact ⟨fun _ => Lt.grown hst.grown (fun k hk => by cases hk; exact hB), h w' (HM.upd k hk.get hst.grown (fun j hj => by cases hj; exact ⟨rfl, rfl⟩) hst.row rfl (fun j hj => .inl hj))⟩
theorem R_build0 {ρ : Operand → Value} {t : TypeId} {cells : Array Value} (ho : o.op = .build t #[]) (hb : P.built t [] = some cells) : (execOp ρ o).run P w = .ok (.value (.agg cells)) w := by
  have hrun := run_build (P := P) w t #[] cells hb
  unfold execOp
  simp only [ho, List.map_toArray, List.map_nil, Sem.run_bind, hrun, Result.andThen_ok, Sem.run_pure]
theorem R_cellW {ρ : Operand → Value} {ty : TypeId} {x : Operand} {ad : Addr} {d : TypeDesc} {v : Value} (ho : o.op = .load ty x) (hx : ρ x = .pointer (some ad)) (hc : w.cell? ad = some v) (hu : P.underlying ty = some d) (hd : d.isRow = false) : (execOp ρ o).run P w = .ok (.value v) w := by
  have hl := run_loadVar_one (P := P) w ad ty v d hu hd hc
  unfold execOp
  simp only [ho, hx, Instr.loadAt, Instr.sureAddr, Sem.run_bind, Sem.run_pure, Result.andThen_ok, hl]
end
abbrev scr0 : Array Value := #[.slice none 0 0, .slice none 0 0, .slice none 0 0, .slice none 0 0]
set_option maxRecDepth 100000 in
set_option maxHeartbeats 20000000 in
theorem catch_p {w0 w : World} {bE bS : Nat} {ve : Value} {cs : Array Value} {TE TS : TypeId} {L : List Fact} (HM : Mem none w0 w (.row bE #[ve] TE :: .row bS cs TS :: L)) (hcs : cs.size = 4) (t : TypeId) (pv : Value) (older : List PanicEntry) :
    CallsD Tryd.prog 31 #[.pointer (some ⟨bS, 0, none⟩), .pointer (some ⟨bE, 0, none⟩)] (.panicking ({ v := .iface 77 (.agg #[.iface t pv]), recovered := false } :: older)) w fun e u' w' => e = .returned (.tuple #[]) ∧ u' = .panicking ({ v := .iface 77 (.agg #[.iface t pv]), recovered := true } :: older) ∧
      Mem none w0 w' (.row bE #[.iface t pv] TE :: .row bS scr0 TS :: L) := by
  refine callsD_of_wpS Tryd.func31 rfl fun c₀ cs hu => ?_
  apply wpS_seq
  apply wpS_region
  simp [wpOpsS, go_sem, recoverD, hu, Tryd.ntmps31, Exit.thenS]
  refine wpS_of_wp ?_
  have hta := run_assert_wrong
  go_wp2
  have hE := Fact.lt (HM.holds _ List.mem_cons_self) (k := bE) rfl
  have hS := Fact.lt (HM.holds _ (List.mem_cons_of_mem _ List.mem_cons_self)) (k := bS) rfl
  have HM1 := (HM.addNew (f := .row w.heap.size #[.iface t pv] 77) ((Below.refl _ _).alloc (Nat.le_refl _) (.cells #[.iface t pv] 77)) (Row.new w _ _) (fun k hk => by cases hk; exact Nat.le_refl _)).drew
  have hcW : ∀ w', Lt (fun k => k = bS ∨ k = bE) (w.alloc (.cells #[.iface t pv] 77)).drew w' → w'.cell? ⟨w.heap.size, 0, none⟩ = some (.iface t pv) := fun w' hl => by
    have hR := HM1.row List.mem_cons_self
    have hlt := Fact.lt (HM1.holds _ List.mem_cons_self) (k := w.heap.size) rfl
    rw [cell_lt hl (p := ⟨w.heap.size, 0, none⟩) hlt (by rintro (h | h) <;> simp at h <;> omega)]
    exact Row.cell hR rfl
  generalize hW : (w.alloc (.cells #[.iface t pv] 77)).drew = W at *
  refine Code.wp_mono (Q := fun e a' w' => e = .normal ∧ a'.defers = [] ∧ Mem none w0 w' (.row bE #[.iface t pv] TE :: .row bS scr0 TS :: L)) ?_ ?_
  · rintro _ a' W2 ⟨rfl, hd, hm⟩
    exact ⟨hd, _, rfl, _, results_none (fn := Tryd.f31) rfl _ _ _, rfl, rfl, hm⟩
  refine wp_region_R (hs := true) (by kernel_rfl) (fun k => k = bS ∨ k = bE) ?_
  rw [hW]
  obtain ⟨x5, h5⟩ : ∃ x : Value, x = .iface 77 (.agg #[.iface t pv]) := ⟨_, rfl⟩
  obtain ⟨x8, h8⟩ : ∃ x : Value, x = .tuple #[.agg #[.iface t pv], .bool true] := ⟨_, rfl⟩
  obtain ⟨x10, h10⟩ : ∃ x : Value, x = .agg #[.iface t pv] := ⟨_, rfl⟩
  rw [h5.symm, h8.symm, h10.symm]
  change wpAnyR _ _ _ _ _ _ _ _ ⟨#[.pointer (some ⟨bS, 0, none⟩), .pointer (some ⟨bE, 0, none⟩), undef, .pointer (some ⟨w.heap.size, 0, none⟩), undef, x5, undef, .bool false, x8, .bool true, x10, undef, undef, undef], []⟩ W
  refine wpAnyR_first (i := 0) (v := .agg scr0) rfl (Region.noSelect_spec (by kernel_rfl)) 4 _ _ _ (Region.free_spec rfl (by kernel_rfl)) (List.mem_of_elem_eq_true (by kernel_rfl)) (.inl ⟨by kernel_rfl, fun w' hl => ?_⟩) ?_
  · exact R_build0 rfl (by kernel_rfl)
  change wpAnyR _ _ _ _ _ _ _ _ ⟨#[.pointer (some ⟨bS, 0, none⟩), .pointer (some ⟨bE, 0, none⟩), undef, .pointer (some ⟨w.heap.size, 0, none⟩), undef, x5, undef, .bool false, x8, .bool true, x10, .agg scr0, undef, undef], []⟩ _
  refine wpAnyR_first (i := 1) (v := .pointer (some ⟨w.heap.size, 0, none⟩)) rfl (Region.noSelect_spec (by kernel_rfl)) 3 _ _ _ (Region.free_spec rfl (by kernel_rfl)) (List.mem_of_elem_eq_true (by kernel_rfl)) (.inl ⟨by kernel_rfl, fun w' hl => ?_⟩) ?_
  · exact R_field (A := some ⟨w.heap.size, 0, none⟩) (p := 0) (k := 0) rfl rfl Tryd.underlying77 rfl (by kernel_rfl)
  change wpAnyR _ _ _ _ _ _ _ _ ⟨#[.pointer (some ⟨bS, 0, none⟩), .pointer (some ⟨bE, 0, none⟩), undef, .pointer (some ⟨w.heap.size, 0, none⟩), undef, x5, undef, .bool false, x8, .bool true, x10, .agg scr0, .pointer (some ⟨w.heap.size, 0, none⟩), undef], []⟩ _
  refine wpAnyR_first (i := 2) (v := .iface t pv) rfl (Region.noSelect_spec (by kernel_rfl)) 2 _ _ _ (Region.free_spec rfl (by kernel_rfl)) (List.mem_of_elem_eq_true (by kernel_rfl)) (.inl ⟨by kernel_rfl, fun w' hl => ?_⟩) ?_
  · exact R_cellW rfl rfl (hcW w' (hl rfl)) Tryd.underlying30 rfl
  change wpAnyR _ _ _ _ _ _ _ _ ⟨#[.pointer (some ⟨bS, 0, none⟩), .pointer (some ⟨bE, 0, none⟩), undef, .pointer (some ⟨w.heap.size, 0, none⟩), undef, x5, undef, .bool false, x8, .bool true, x10, .agg scr0, .pointer (some ⟨w.heap.size, 0, none⟩), .iface t pv], []⟩ _
  refine wpAnyR_one (i := 3) (by kernel_rfl) ?_
  refine wpOp_setRow (cs' := scr0) HM1 rfl (by kernel_rfl) rfl rfl rfl rfl (.tail _ (.tail _ (.head _ _))) (by kernel_rfl) hcs (by kernel_rfl) (.inl rfl) (fun W1 HM2 => ?_)
  refine wpAnyR_one (i := 4) (by kernel_rfl) ?_
  refine wpOp_set (v := .iface t pv) HM2 rfl (by kernel_rfl) rfl rfl rfl rfl (.tail _ (.head _ _)) (by simp) (by kernel_rfl) rfl (.inr rfl) (fun W2 HM3 => ?_)
  refine wpAnyR_done (by kernel_rfl) ?_
  exact ⟨rfl, rfl, HM3.tail⟩
end Go.Proofs.YtbpbdanggilnpaaDoor
end

section
namespace Go.Proofs.YtbpbdanggilnpaaDoor
open Go.RowKit
set_option linter.unusedVariables false
set_option linter.unusedSimpArgs false
abbrev TRd : TypeId := 52
abbrev TOp : TypeId := 68
abbrev TIn : TypeId := 3
abbrev TBy : TypeId := 5
noncomputable abbrev FE (F : Frm) : Env := { E0 with fr := F }
theorem all4 {α β : Type} {R : α → β → Prop} {s1 s2 s3 s4 : α} {l : List β} (h : All2 R [s1, s2, s3, s4] l) : ∃ a b c g, l = [a, b, c, g] := by
  match l, h with
  | _, .cons _ (.cons _ (.cons _ (.cons _ .nil))) => exact ⟨_, _, _, _, rfl⟩
section
variable {F : Frm} {op : World → Prop} {oq : Nat → Prop} {w0 w : World} {d : Dat} {k : Nat} {l r : List Nat} {x : ScrT}
theorem scr_blk (hd : Has E0.Δ (.list TBy) d) : BlkV E0.Δ [k] [(TRd, [.v (.list TBy)])] [k] [d] [.row k #[d.toV] TRd] [] := BlkV.cons (b := (TRd, [.v (.list TBy)])) (d1 := [d]) (d2 := []) (f1 := []) (owns := []) (vs := [d.toV]) (.v hd rfl .nil) .nil
theorem scr_ok (hd : Has E0.Δ (.list TBy) d) (hM : Mem none w0 w [baseF (FE F) [d], .row k #[d.toV] TRd, .ogen op oq]) (hx : d.xs = u8R l) (hb : Bts l) (hp : pS l = .ok (x, r)) :
    Calls Tryd.prog 32 #[.pointer (some ⟨k, 0, none⟩)] w fun e w' => ∃ a b c g d', e = .returned (.agg #[a.toV, b.toV, c.toV, g.toV]) ∧ encScr x [a, b, c, g] ∧ d'.xs = u8R r ∧
      All2 (Has E0.Δ) [.list TIn, .list TIn, .list TIn, .list TOp] [a, b, c, g] ∧ Has E0.Δ (.list TBy) d' ∧ Mem none w0 w' [baseF (FE F) [a, b, c, g, d'], .row k #[d'.toV] TRd, .ogen op oq] ∧ (∀ j, AtL [a, b, c, g, d'] j → w0.heap.size ≤ j ∨ AtL [d] j) := by
  refine (rScr_h F op oq w0 w [] [d] [k] _ _ (fun out => ∃ rs d', out = .bool true :: (rs ++ [d']) ∧ encScr x rs ∧ d'.xs = u8R r) .nil (scr_blk hd) hM ⟨l, by rw [show ([] : List Dat) ++ [d] = [d] from rfl, argL_c0]; exact hx, hb, ?_⟩).mono ?_
  · show Run pS l _ _
    unfold Run
    rw [hp]
    exact fun rs d' h1 h2 => ⟨rs, d', rfl, h1, h2⟩
  · rintro e w' (⟨rr, rb, rows', owns', hq, h1, h2, h3, h4, rfl⟩ | ⟨T, dd, hT, ⟨rs, d', hq, _⟩, _⟩)
    · obtain ⟨rs, d', hq, he, hd'⟩ := hq
      have h1 : All2 (Has E0.Δ) [.list TIn, .list TIn, .list TIn, .list TOp] rr := h1
      have h2 : BlkV E0.Δ [k] [(TRd, [.v (.list TBy)])] [k] rb rows' owns' := h2
      rcases h2 with _ | ⟨hc, ht⟩
      rcases ht with _ | _
      rcases hc with _ | ⟨g1, _, g2⟩
      rcases g2 with _ | _
      obtain ⟨a, b, c, g, rfl⟩ := all4 h1
      have hq : [a, b, c, g, _] = rs ++ [d'] := (List.cons.inj hq).2
      obtain ⟨hrs, hdd⟩ := List.append_inj' (s₁ := [a, b, c, g]) hq rfl
      cases hdd
      subst hrs
      exact ⟨a, b, c, g, d', rfl, he, hd', h1, g1, h3, fun j hj => (h4 j hj).imp id fun h => h.elim id fun ⟨d, hd, _⟩ => (by cases hd)⟩
    · cases hq
theorem scr_bad {n : Int} (hd : Has E0.Δ (.list TBy) d) (hM : Mem none w0 w [baseF (FE F) [d], .row k #[d.toV] TRd, .ogen op oq]) (hx : d.xs = u8R l) (hb : Bts l) (hp : pS l = .error n) (hn : n ≠ 0) :
    Calls Tryd.prog 32 #[.pointer (some ⟨k, 0, none⟩)] w fun e w' => e = .panicked [{ v := .iface 77 (.agg #[.iface 49 (.int .i64 n)]), recovered := false }] ∧ Mem none w0 w' [baseF (FE F) [], .ogen op oq] := by
  refine (rScr_h F op oq w0 w [] [d] [k] _ _ (fun out => out = [.bool false, errV n]) .nil (scr_blk hd) hM ⟨l, by rw [show ([] : List Dat) ++ [d] = [d] from rfl, argL_c0]; exact hx, hb, ?_⟩).mono ?_
  · show Run pS l _ _
    unfold Run
    rw [hp]
  · rintro e w' (⟨rr, rb, rows', owns', hq, _⟩ | ⟨T, dd, hT, hq, _, hm, rfl⟩)
    · cases hq
    · cases hq
      have hT : some 77 = some T := hT
      cases hT
      refine ⟨?_, hm⟩
      show Ending.panicked (pvL _ (errV n)) = _
      unfold pvL errV
      rw [if_neg hn]; rfl
end
theorem firm_join {op : World → Prop} {oq : Nat → Prop} (h : Firm op oq) (e s : Nat) (ce cs : Array Value) (Te Ts : TypeId) : Firm (fun w => op w ∧ Row w e ce Te ∧ Row w s cs Ts) (fun j => oq j ∨ j = e ∨ j = s) :=
  ⟨fun w1 w2 o ⟨h1, h2, h3⟩ hg hne => ⟨h.keeps w1 w2 o h1 hg fun k hk => hne k (.inl hk), Fact.keeps (B := 0) (f := .row e ce Te) h2 hg fun k hk => hne k (.inr (.inl hk)), Fact.keeps (B := 0) (f := .row s cs Ts) h3 hg fun k hk => hne k (.inr (.inr hk))⟩,
   fun w1 ⟨h1, h2, h3⟩ k hk => by
    rcases hk with hk | rfl | rfl
    · exact h.lt w1 h1 k hk
    · exact Row.lt h2
    · exact Row.lt h3⟩
section
variable {w0 w : World} {op : World → Prop} {oq : Nat → Prop} {e s : Nat} {ce cs : Array Value} {Te Ts : TypeId} {X : List Fact}
theorem Mem.join (h : Mem none w0 w (.row e ce Te :: .row s cs Ts :: (X ++ [.ogen op oq]))) : Mem none w0 w (X ++ [.ogen (fun w => op w ∧ Row w e ce Te ∧ Row w s cs Ts) (fun j => oq j ∨ j = e ∨ j = s)]) := by
  have hE := h.holds _ List.mem_cons_self
  have hS := h.holds _ (List.mem_cons_of_mem _ List.mem_cons_self)
  have hO := h.holds (.ogen op oq) (by simp)
  obtain ⟨p1, h2⟩ := List.pairwise_cons.1 h.apart
  obtain ⟨p2, h3⟩ := List.pairwise_cons.1 h2
  obtain ⟨p3, _, p4⟩ := List.pairwise_append.1 h3
  refine ⟨h.grown, fun g hg => ?_, fun g hg hw j hj => ?_, List.pairwise_append.2 ⟨p3, List.pairwise_singleton _ _, fun g hg f hf hw j h1 h2 => ?_⟩⟩
  · rcases List.mem_append.1 hg with hg | hg
    · exact h.holds g (by simp [hg])
    · cases List.mem_singleton.1 hg
      exact ⟨⟨hO.1, hE, hS⟩, firm_join hO.2 e s ce cs Te Ts⟩
  · rcases List.mem_append.1 hg with hg | hg
    · exact h.own g (by simp [hg]) hw j hj
    · cases List.mem_singleton.1 hg
      rcases hj with hj | rfl | rfl
      · exact h.own (.ogen op oq) (by simp) rfl j hj
      · exact h.own (.row j ce Te) (by simp) rfl j rfl
      · exact h.own (.row j cs Ts) (by simp) rfl j rfl
  · cases List.mem_singleton.1 hf
    rcases h2 with h2 | rfl | rfl
    · exact p4 g hg (.ogen op oq) (by simp) (by simp [Fact.wr]) j h1 h2
    · exact p1 g (by simp [hg]) (by simp [Fact.wr]) j rfl h1
    · exact p2 g (by simp [hg]) (by simp [Fact.wr]) j rfl h1
theorem Mem.split (hes : e ≠ s) (hqe : ¬ oq e) (hqs : ¬ oq s) (hf : Firm op oq) (h : Mem none w0 w (X ++ [.ogen (fun w => op w ∧ Row w e ce Te ∧ Row w s cs Ts) (fun j => oq j ∨ j = e ∨ j = s)])) : Mem none w0 w (.row e ce Te :: .row s cs Ts :: (X ++ [.ogen op oq])) := by
  have hO := h.holds (.ogen (fun w => op w ∧ Row w e ce Te ∧ Row w s cs Ts) (fun j => oq j ∨ j = e ∨ j = s)) (by simp)
  obtain ⟨p3, _, p4⟩ := List.pairwise_append.1 h.apart
  have p5 := fun g hg hw j h1 h2 => p4 g hg _ (List.mem_singleton.2 rfl) hw j h1 h2
  have ow := fun j hj => h.own (.ogen (fun w => op w ∧ Row w e ce Te ∧ Row w s cs Ts) (fun j => oq j ∨ j = e ∨ j = s)) (by simp) rfl j hj
  refine ⟨h.grown, fun g hg => ?_, fun g hg hw j hj => ?_, List.pairwise_cons.2 ⟨fun g hg hw j h1 h2 => ?_, List.pairwise_cons.2 ⟨fun g hg hw j h1 h2 => ?_, List.pairwise_append.2 ⟨p3, List.pairwise_singleton _ _, fun g hg f hf hw j h1 h2 => ?_⟩⟩⟩⟩
  · simp only [List.mem_cons, List.mem_append, List.not_mem_nil, or_false] at hg
    rcases hg with rfl | rfl | hg | rfl
    · exact hO.1.2.1
    · exact hO.1.2.2
    · exact h.holds g (by simp [hg])
    · exact ⟨hO.1.1, hf⟩
  · simp only [List.mem_cons, List.mem_append, List.not_mem_nil, or_false] at hg
    rcases hg with rfl | rfl | hg | rfl
    · cases hj; exact ow _ (.inr (.inl rfl))
    · cases hj; exact ow _ (.inr (.inr rfl))
    · exact h.own g (by simp [hg]) hw j hj
    · exact ow _ (.inl hj)
  · cases h1
    simp only [List.mem_cons, List.mem_append, List.not_mem_nil, or_false] at hg
    rcases hg with rfl | hg | rfl
    · exact hes h2
    · exact p5 g hg (by simp [Fact.wr]) _ h2 (.inr (.inl rfl))
    · exact hqe h2
  · cases h1
    simp only [List.mem_cons, List.mem_append, List.not_mem_nil, or_false] at hg
    rcases hg with hg | rfl
    · exact p5 g hg (by simp [Fact.wr]) _ h2 (.inr (.inr rfl))
    · exact hqs h2
  · cases List.mem_singleton.1 hf
    exact p5 g hg (by simp [Fact.wr]) j h1 (.inl h2)
end
/-- Check, called -/
theorem chk_w {a b c g : Dat} {w : World} (h1 : All2 (Has E0.Δ) [.list TIn, .list TIn, .list TIn, .list TOp] [a, b, c, g]) (h2 : OkL w [a, b, c, g]) (i0 : in64s (nums a.xs)) (i1 : in64s (nums b.xs)) (hg : E0.globs w) :
    Calls Tryd.prog 15 #[.agg #[a.toV, b.toV, c.toV, g.toV]] w fun e w' => e = .returned (errV (scrD [a, b, c, g])).toV ∧ Below w.heap.size w w' := by
  refine (sCheck_h w [a, b, c, g] (fun rs => rs = [errV (scrD [a, b, c, g])]) h1 h2 (fun d hd => by cases hd) hg ⟨by rw [argL_c0]; exact i0, by rw [argL_c1]; exact i1, rfl⟩).mono ?_
  rintro e w' ⟨rs, rfl, _, hb, _, _, he⟩
  rw [if_neg (by exact Bool.false_ne_true)] at he
  exact ⟨he, hb⟩
end Go.Proofs.YtbpbdanggilnpaaDoor
end

section
namespace Go.Proofs.YtbpbdanggilnpaaDoor
open Go.RowKit
set_option linter.unusedVariables false
set_option linter.unusedSimpArgs false
theorem results_cells2 {P : Program} {w : World} {fn : Func} {p q : Tmp} {ty te : TypeId} {b e : Nat} {cs : Array Value} {v : Value} {T Te : TypeId} (hr : Row w b cs T) (he : Row w e #[v] Te) (h : fn.results = #[.cell p ty, .cell q te]) (tmps : Array Value) (d de : TypeDesc)
    (hp : tmps.getD p undef = .pointer (some ⟨b, 0, none⟩)) (hq : tmps.getD q undef = .pointer (some ⟨e, 0, none⟩)) (hu : P.underlying ty = some d) (hd : (match d with | .struct _ | .array _ _ => true | _ => false) = true) (hi : (P.info? ty).map (·.size) = some cs.size) (hue : P.underlying te = some de) (hde : de.isRow = false) :
    (results fn tmps).run P w = .ok (.tuple #[.agg cs, v]) w := by
  have hp' : tmps[p]?.getD undef = .pointer (some ⟨b, 0, none⟩) := by simpa using hp
  have hq' : tmps[q]?.getD undef = .pointer (some ⟨e, 0, none⟩) := by simpa using hq
  have hl := run_loadVar_one (P := P) w ⟨e, 0, none⟩ te v de hue hde (he.cell rfl)
  simp [results, h, hp', hq', asAddr, run_loadVar_row w b T ty cs (0, 0) d hr hu hd hi, hl]
def Enz {α : Type} (p : P1 α) : Prop := ∀ l n, p l = .error n → n ≠ 0
theorem Enz.unit {α : Type} (x : α) : Enz (unit x) := fun l n h => by cases h
theorem Enz.bad {α : Type} {m : Int} (hm : m ≠ 0) : Enz (bad (α := α) m) := fun l n h => by cases h; exact hm
theorem Enz.bnd {α β : Type} {p : P1 α} {f : α → P1 β} (h1 : Enz p) (h2 : ∀ x, Enz (f x)) : Enz (bnd p f) := fun l n h => by
  unfold Go.Proofs.YtbpbdanggilnpaaDoor.bnd at h
  cases e : p l with
  | error m => rw [e] at h; cases h; exact h1 l _ e
  | ok q => rw [e] at h; exact h2 q.1 q.2 n h
theorem enz_N : Enz pN := fun l n h => by
  unfold pN at h
  split at h
  · cases h
  · cases h; assumption
theorem enz_L (most : Int) : Enz (pL most) := fun l n h => by
  unfold pL at h
  split at h
  · cases h
  · cases h; assumption
theorem enz_C (most : Int) : Enz (pC most) := enz_N.bnd fun n => by
  split
  · exact Enz.bad (by omega)
  · split
    · exact Enz.bad (by omega)
    · exact Enz.unit _
theorem enz_many {α : Type} {p : P1 α} (h : Enz p) : ∀ n, Enz (pMany p n)
  | 0 => Enz.unit _
  | n + 1 => h.bnd fun x => (enz_many h n).bnd fun xs => Enz.unit _
theorem enz_D : Enz pD := enz_N.bnd fun _ => enz_N.bnd fun _ => enz_N.bnd fun _ => enz_N.bnd fun _ => (enz_L 400).bnd fun _ => Enz.unit _
theorem enz_O : Enz pO := enz_N.bnd fun _ => enz_N.bnd fun _ => enz_N.bnd fun _ => (enz_C 16).bnd fun _ => (enz_many enz_D _).bnd fun _ => Enz.unit _
theorem enz_S : Enz pS := (enz_L 100).bnd fun _ => (enz_L 100).bnd fun _ => (enz_L 4096).bnd fun _ => (enz_C 1000).bnd fun _ => (enz_many enz_O _).bnd fun _ => Enz.unit _
theorem bnd_ok {α β : Type} {p : P1 α} {f : α → P1 β} {l r : List Nat} {y : β} (h : bnd p f l = .ok (y, r)) : ∃ x r', p l = .ok (x, r') ∧ f x r' = .ok (y, r) := by
  unfold bnd at h
  cases e : p l with
  | error m => rw [e] at h; cases h
  | ok q => rw [e] at h; exact ⟨q.1, q.2, rfl, h⟩
theorem pL_ok {most : Int} {l r : List Nat} {x : List Int} (hb : bytes l) (h : pL most l = .ok (x, r)) : mth.encL x ++ r = l ∧ mth.Ok x ∧ (x.length : Int) ≤ most := by
  unfold pL at h
  split at h
  · rename_i h0
    cases h
    exact mth.tkL_canon l most _ _ hb (by rw [← h0])
  · cases h
/-- what is read is within what a number holds -/
theorem pS_in {l r : List Nat} {x : ScrT} (hb : Bts l) (h : pS l = .ok (x, r)) : mth.Ok x.1 ∧ mth.Ok x.2.1 ∧ mth.Ok x.2.2.1 := by
  unfold pS at h
  obtain ⟨a, r1, e1, h⟩ := bnd_ok h
  obtain ⟨b, r2, e2, h⟩ := bnd_ok h
  obtain ⟨c, r3, e3, h⟩ := bnd_ok h
  obtain ⟨n, r4, e4, h⟩ := bnd_ok h
  obtain ⟨o, r5, e5, h⟩ := bnd_ok h
  cases h
  have b1 := hb.of (sfx_L 100) e1
  have b2 := b1.of (sfx_L 100) e2
  exact ⟨(pL_ok hb.1 e1).2.1, (pL_ok b1.1 e2).2.1, (pL_ok b2.1 e3).2.1⟩
theorem in_of_ok {x : List Int} (h : mth.Ok x) : in64s x := fun n hn => by
  obtain ⟨h1, h2⟩ := h n hn
  simp only [Lit.wf, IntKind.min, IntKind.max, IntKind.signed, IntKind.bits]
  simp
  omega
end Go.Proofs.YtbpbdanggilnpaaDoor
end

section
namespace Go.Proofs.YtbpbdanggilnpaaDoor
open Go.RowKit
set_option linter.unusedVariables false
set_option linter.unusedSimpArgs false
abbrev z1 : Dat := .list (.slice none 0 0) 1 []
abbrev z4 : Dat := .list (.slice none 0 0) 4 []
abbrev scrZ : List Dat := [z1, z1, z1, z4]
theorem scrZ_has : All2 (Has E0.Δ) [.list TIn, .list TIn, .list TIn, .list TOp] scrZ :=
  have h := fun r => Has.list (Δ := E0.Δ) r none 0 0 [] (fun _ h => by cases h) (fun _ h => by cases h)
  .cons (h TIn) (.cons (h TIn) (.cons (h TIn) (.cons (h TOp) .nil)))
theorem scrZ_ok (w : World) : OkL w scrZ := fun d hd => by
  simp only [scrZ, List.mem_cons, List.not_mem_nil, or_false] at hd
  rcases hd with rfl | rfl | rfl | rfl <;> exact .list _ _ _ (Ow.nil w 0 _).rd (fun _ h => by cases h)
theorem scrZ_at {j : Nat} (h : AtL scrZ j) : False := by
  obtain ⟨d, hd, hj⟩ := h
  simp only [scrZ, List.mem_cons, List.not_mem_nil, or_false] at hd
  rcases hd with rfl | rfl | rfl | rfl <;> (cases hj with
    | here h => exact h
    | list h _ _ => cases h)
theorem scrZ_mem {F : Frm} {w0 w : World} {f : Fact} {ds : List Dat} (h : Mem none w0 w [baseF (FE F) ds, f]) : Mem none w0 w [baseF (FE F) scrZ, f] := by
  refine Mem.zero h ⟨⟨scrZ_ok w, (h.holds _ List.mem_cons_self).1.2⟩, baseFirm _ _⟩ rfl fun k hk => ?_
  rcases hk with hk | hk
  · exact (scrZ_at hk).elim
  · exact .inr hk
/-- how it ends -/
def readQ (l : List Nat) (K : List Dat → Int → Prop) : Prop := Run pS l (fun x r => if r = [] then ∀ rs, encScr x rs → if scrD rs = 0 then K rs 0 else K scrZ (scrD rs) else K scrZ 3) (fun n => K scrZ n)
def ReadR (F : Frm) (op : World → Prop) (oq : Nat → Prop) (w0 : World) (d : Dat) (K : List Dat → Int → Prop) (e : Ending) (w' : World) : Prop :=
  ∃ a b c g n, e = .returned (.tuple #[.agg #[a.toV, b.toV, c.toV, g.toV], (errV n).toV]) ∧ K [a, b, c, g] n ∧ All2 (Has E0.Δ) [.list TIn, .list TIn, .list TIn, .list TOp] [a, b, c, g] ∧ Mem none w0 w' [baseF (FE F) [a, b, c, g], .ogen op oq] ∧ ∀ j, AtL [a, b, c, g] j → w0.heap.size ≤ j ∨ AtL [d] j
section
variable {F : Frm} {op : World → Prop} {oq : Nat → Prop} {w0 w : World} {d : Dat} {k : Nat} {l : List Nat} {K : List Dat → Int → Prop}
/-- two new variables -/
theorem two_new (hM : Mem none w0 w [baseF (FE F) [d], .row k #[d.toV] TRd, .ogen op oq]) (Ts Te : TypeId) : Mem none w0 ((w.alloc (.cells scr0 Ts)).alloc (.cells #[.nilIface] Te)) [.row (w.heap.size + 1) #[.nilIface] Te, .row w.heap.size scr0 Ts, baseF (FE F) [d], .row k #[d.toV] TRd, .ogen op oq] := by
  have h1 := hM.addNew (f := .row w.heap.size scr0 Ts) ((Below.refl _ _).alloc (Nat.le_refl _) (.cells scr0 Ts)) (Row.new w _ _) (fun k hk => by cases hk; exact Nat.le_refl _)
  have h2 := h1.addNew (f := .row (w.alloc (.cells scr0 Ts)).heap.size #[.nilIface] Te) ((Below.refl _ _).alloc (Nat.le_refl _) (.cells #[.nilIface] Te)) (Row.new _ _ _) (fun k hk => by cases hk; exact Nat.le_refl _)
  have hs : (w.alloc (.cells scr0 Ts)).heap.size = w.heap.size + 1 := by simp
  rwa [hs] at h2
set_option maxRecDepth 100000 in
set_option maxHeartbeats 20000000 in
theorem read_bad {n : Int} (hd : Has E0.Δ (.list TBy) d) (hM : Mem none w0 w [baseF (FE F) [d], .row k #[d.toV] TRd, .ogen op oq]) (hx : d.xs = u8R l) (hb : Bts l) (hp : pS l = .error n) (hn : n ≠ 0) (hK : K scrZ n) :
    Calls Tryd.prog 16 #[.pointer (some ⟨k, 0, none⟩)] w fun e w' => ReadR F op oq w0 d K e w' := by
  have HM1 := (two_new hM 28 30)
  have hoq := (hM.holds (.ogen op oq) (by simp)).2
  have hlt := fun j (hj : oq j) => Fact.lt (hM.holds (.ogen op oq) (by simp)) (k := j) hj
  have HJ := Mem.join (X := [_, _]) HM1
  have hmf : ∀ (fn : Fn) (first cap : Array Value) (w : World), (Instr.makeFunc fn first cap).run Tryd.prog w = .ok (.func fn first cap) w := fun _ _ _ _ => rfl
  go_enter_defers Tryd.func16, Tryd.ntmps16
  go_wp2_with (first
    | (go_at_call 32; refine (scr_bad hd HJ hx hb hp hn).mono ?_; rintro e w1 ⟨rfl, hm1⟩)
    | fail)
  refine leaves_cons (f := 31) (args := #[.pointer (some ⟨w.heap.size, 0, none⟩), .pointer (some ⟨w.heap.size + 1, 0, none⟩)]) (by simp) (by simp [go_sem]) ?_
  have hm2 := Mem.split (X := [_]) (by omega) (fun h => by have := hlt _ h; omega) (fun h => by have := hlt _ h; omega) hoq hm1
  refine (catch_p hm2 rfl _ _ []).mono ?_
  rintro e u' w2 ⟨rfl, rfl, hm3⟩
  exact ⟨_, results_cells2 (hm3.row (List.mem_cons_of_mem _ List.mem_cons_self)) (hm3.row List.mem_cons_self) rfl _ _ _ rfl rfl Tryd.underlying28 rfl (by kernel_rfl) Tryd.underlying30 rfl, z1, z1, z1, z4, n, by unfold errV; rw [if_neg hn]; rfl, hK, scrZ_has, scrZ_mem (hm3.tail.tail), fun j hj => (scrZ_at hj).elim⟩
theorem list_v {r : Nat} {d : Dat} {w : World} (h : Has E0.Δ (.list r) d) (ho : OkD w d) : ∃ A c, d.toV = .slice A d.xs.length c := by
  cases h with
  | list A n c xs hl h =>
    cases ho with
    | list _ _ _ hr _ =>
      obtain ⟨A', c', e, _⟩ := hr
      cases e
      exact ⟨_, _, rfl⟩
theorem list_one {r : Nat} {d : Dat} (h : Has E0.Δ (.list r) d) : d.toV.oneCell' = true := by
  cases h; rfl
theorem one4 {a b c g : Dat} {s1 s2 s3 s4 : Nat} (h : All2 (Has E0.Δ) [.list s1, .list s2, .list s3, .list s4] [a, b, c, g]) : (#[a.toV, b.toV, c.toV, g.toV]).all (·.oneCell') = true := by
  match h with
  | .cons h1 (.cons h2 (.cons h3 (.cons h4 .nil))) => simp [list_one h1, list_one h2, list_one h3, list_one h4]
theorem mem5 {a b c g d' d : Dat} (h : d ∈ [a, b, c, g]) : d ∈ [a, b, c, g, d'] := by
  simp only [List.mem_cons, List.not_mem_nil, or_false] at h ⊢
  rcases h with h | h | h | h <;> simp [h]
theorem glob_of {F : Frm} {w : World} (h : (FE F).globs w) : E0.globs w := ⟨h.1, h.2.1, trivial⟩
theorem nums_i64 (l : List Int) : nums (i64R l) = l := by
  induction l with
  | nil => rfl
  | cons a l ih => show a :: nums (i64R l) = _; rw [ih]
theorem enc_in0 {x : ScrT} {a b c g : Dat} (h : encScr x [a, b, c, g]) (ho : mth.Ok x.1) : in64s (nums a.xs) := by
  obtain ⟨d0, d1, d2, d3, e, h0, _⟩ := h
  cases e
  rw [h0, nums_i64]; exact in_of_ok ho
theorem enc_in1 {x : ScrT} {a b c g : Dat} (h : encScr x [a, b, c, g]) (ho : mth.Ok x.2.1) : in64s (nums b.xs) := by
  obtain ⟨d0, d1, d2, d3, e, _, h0, _⟩ := h
  cases e
  rw [h0, nums_i64]; exact in_of_ok ho
theorem four_at {a b c g d' : Dat} {j : Nat} (h : AtL [a, b, c, g] j) : AtL [a, b, c, g, d'] j := by
  obtain ⟨d, hd, hj⟩ := h
  exact ⟨d, mem5 hd, hj⟩
theorem four_mem {F : Frm} {w0 w : World} {f : Fact} {a b c g d' : Dat} (h : Mem none w0 w [baseF (FE F) [a, b, c, g, d'], f]) : Mem none w0 w [baseF (FE F) [a, b, c, g], f] := by
  have h0 := (h.holds _ List.mem_cons_self).1
  refine Mem.zero h ⟨⟨fun d hd => h0.1 d (mem5 hd), h0.2⟩, baseFirm _ _⟩ rfl fun k hk => ?_
  exact hk.imp four_at id
theorem must_any (n : Int) (w : World) : Calls Tryd.prog 33 #[(errV n).toV] w fun e w' => (n = 0 ∧ e = .returned (.tuple #[]) ∧ w = w') ∨ (n ≠ 0 ∧ e = .panicked [{ v := .iface 77 (.agg #[.iface 49 (.int .i64 n)]), recovered := false }] ∧ w = w') := by
  by_cases h : n = 0
  · subst h
    exact (must_nil w).mono fun e w' ⟨h1, h2⟩ => .inl ⟨rfl, h1, h2.symm⟩
  · unfold errV; rw [if_neg h]
    exact (must_err _ _ w).mono fun e w' ⟨h1, h2⟩ => .inr ⟨h, h1, h2.symm⟩
set_option maxRecDepth 100000 in
set_option maxHeartbeats 20000000 in
theorem read_long {x : ScrT} {r : List Nat} (hd : Has E0.Δ (.list TBy) d) (hM : Mem none w0 w [baseF (FE F) [d], .row k #[d.toV] TRd, .ogen op oq]) (hx : d.xs = u8R l) (hb : Bts l) (hp : pS l = .ok (x, r)) (hr : r ≠ []) (hK : K scrZ 3) :
    Calls Tryd.prog 16 #[.pointer (some ⟨k, 0, none⟩)] w fun e w' => ReadR F op oq w0 d K e w' := by
  have HM1 := (two_new hM 28 30)
  have hoq := (hM.holds (.ogen op oq) (by simp)).2
  have hlt := fun j (hj : oq j) => Fact.lt (hM.holds (.ogen op oq) (by simp)) (k := j) hj
  have HJ := Mem.join (X := [_, _]) HM1
  have hmf : ∀ (fn : Fn) (first cap : Array Value) (w : World), (Instr.makeFunc fn first cap).run Tryd.prog w = .ok (.func fn first cap) w := fun _ _ _ _ => rfl
  generalize hbS : w.heap.size = bS at *
  go_enter_defers Tryd.func16, Tryd.ntmps16
  go_wp2_with (first
    | (go_at_call 32; refine (scr_ok hd HJ hx hb hp).mono ?_; rintro e w1 ⟨a, b, c, g, d', rfl, he, hd', h1, h2, hm1, hre⟩; have hm2 := Mem.split (X := [_, _]) (by omega) (fun h => by have := hlt _ h; omega) (fun h => by have := hlt _ h; omega) hoq hm1; have hone := one4 h1; obtain ⟨A', c', hv'⟩ := list_v h2 ((hm1.holds _ List.mem_cons_self).1.1 d' (by simp)); rw [hv'] at hm2; have hpos : ((d'.xs.length : Nat) : Int) > 0 := (by rw [hd', u8R_len]; have := List.length_pos_iff.2 hr; omega); generalize d'.xs.length = n' at *)
    | (refine M_setRow hm2 (by kernel_rfl) rfl rfl rfl rfl (.tail _ (.head _ _)) (by kernel_rfl) rfl hone ?_; intro w2 hm3)
    | (refine M_of (.slice A' n' c') (by kernel_rfl) (R_cell hm3 rfl rfl (.tail _ (.tail _ (.tail _ (.head _)))) rfl Tryd.underlying22 rfl) ?_)
    | (go_at_call 33; refine (must_err _ _ _).mono ?_; rintro e w4 ⟨rfl, rfl⟩)
    | fail)
  have hmD : Mem none w0 w4 [.row (bS + 1) #[.nilIface] _, .row bS _ _, _, _, _] := hm3
  refine leaves_cons (f := 31) (args := #[.pointer (some ⟨bS, 0, none⟩), .pointer (some ⟨bS + 1, 0, none⟩)]) (by simp) (by simp [go_sem]) ?_
  refine (catch_p hmD rfl _ _ []).mono ?_
  rintro e u' wD ⟨rfl, rfl, hmE⟩
  simp only [settle, Leaves]
  exact ⟨_, results_cells2 (hmE.row (List.mem_cons_of_mem _ List.mem_cons_self)) (hmE.row List.mem_cons_self) rfl _ _ _ rfl rfl Tryd.underlying28 rfl (by kernel_rfl) Tryd.underlying30 rfl, z1, z1, z1, z4, 3, by unfold errV; rw [if_neg (by omega)]; rfl, hK, scrZ_has, scrZ_mem (hmE.tail.tail.sub (.cons_cons _ (.cons _ (.cons_cons _ .slnil)))), fun j hj => (scrZ_at hj).elim⟩
set_option maxRecDepth 100000 in
set_option maxHeartbeats 20000000 in
theorem read_chk {x : ScrT} (hd : Has E0.Δ (.list TBy) d) (hM : Mem none w0 w [baseF (FE F) [d], .row k #[d.toV] TRd, .ogen op oq]) (hx : d.xs = u8R l) (hb : Bts l) (hp : pS l = .ok (x, [])) (hK : ∀ rs, encScr x rs → if scrD rs = 0 then K rs 0 else K scrZ (scrD rs)) :
    Calls Tryd.prog 16 #[.pointer (some ⟨k, 0, none⟩)] w fun e w' => ReadR F op oq w0 d K e w' := by
  have HM1 := (two_new hM 28 30)
  have hoq := (hM.holds (.ogen op oq) (by simp)).2
  have hlt := fun j (hj : oq j) => Fact.lt (hM.holds (.ogen op oq) (by simp)) (k := j) hj
  have HJ := Mem.join (X := [_, _]) HM1
  obtain ⟨o1, o2, o3⟩ := pS_in hb hp
  have hmf : ∀ (fn : Fn) (first cap : Array Value) (w : World), (Instr.makeFunc fn first cap).run Tryd.prog w = .ok (.func fn first cap) w := fun _ _ _ _ => rfl
  generalize hbS : w.heap.size = bS at *
  go_enter_defers Tryd.func16, Tryd.ntmps16
  go_wp2_with (first
    | (go_at_call 32; refine (scr_ok hd HJ hx hb hp).mono ?_; rintro e w1 ⟨a, b, c, g, d', rfl, he, hd', h1, h2, hm1, hre⟩; have hm2 := Mem.split (X := [_, _]) (by omega) (fun h => by have := hlt _ h; omega) (fun h => by have := hlt _ h; omega) hoq hm1; have hone := one4 h1; obtain ⟨A', c', hv'⟩ := list_v h2 ((hm1.holds _ List.mem_cons_self).1.1 d' (by simp)); rw [hv'] at hm2; have hpos : d'.xs.length = 0 := (by rw [hd']; rfl); rw [hpos] at hm2 hv')
    | (refine M_setRow hm2 (by kernel_rfl) rfl rfl rfl rfl (.tail _ (.head _ _)) (by kernel_rfl) rfl hone ?_; intro w2 hm3)
    | (refine M_of (.slice A' 0 c') (by kernel_rfl) (R_cell hm3 rfl rfl (.tail _ (.tail _ (.tail _ (.head _)))) rfl Tryd.underlying22 rfl) ?_)
    | (refine M_of (.agg #[a.toV, b.toV, c.toV, g.toV]) (by kernel_rfl) (R_row hm3 rfl rfl (.tail _ (.head _)) Tryd.underlying28 rfl (by kernel_rfl)) ?_)
    | (refine M_of (.agg #[a.toV, b.toV, c.toV, g.toV]) (by kernel_rfl) (R_row hm4 rfl rfl (.tail _ (.head _)) Tryd.underlying28 rfl (by kernel_rfl)) ?_)
    | (refine M_setRow hm4 (by kernel_rfl) rfl rfl rfl rfl (.tail _ (.head _ _)) (by kernel_rfl) rfl hone ?_; intro w5 hm5)
    | (refine M_set (v := .nilIface) hm5 (by kernel_rfl) rfl rfl rfl rfl (.head _ _) (by simp) (by kernel_rfl) rfl ?_; intro w6 hm6)
    | (go_at_call 15; refine (chk_w h1 (fun d hd => (hm3.holds _ (.tail _ (.tail _ (.head _)))).1.1 d (mem5 hd)) (enc_in0 he o1) (enc_in1 he o2) (glob_of (hm3.holds _ (.tail _ (.tail _ (.head _)))).1.2)).mono ?_; rintro e w3 ⟨rfl, hb3⟩; have hm4 := hm3.keep hb3; have HKK := Lib.hid (hK _ he))
    | (go_at_call 33; refine (must_any _ _).mono ?_; rintro e w4 (⟨hz, rfl, rfl⟩ | ⟨hz, rfl, rfl⟩))
    | fail)
  · have hmD : Mem none w0 w6 [.row (bS + 1) #[.nilIface] 30, .row bS #[a.toV, b.toV, c.toV, g.toV] 28, baseF (FE F) [a, b, c, g, d'], .row k _ _, .ogen op oq] := hm6
    refine leaves_cons (f := 31) (args := #[.pointer (some ⟨bS, 0, none⟩), .pointer (some ⟨bS + 1, 0, none⟩)]) (by simp) (by simp [go_sem]) ?_
    refine (catch_idle _ _ w6).mono ?_
    rintro e u' wD ⟨rfl, rfl, rfl⟩
    simp only [settle, Leaves]
    exact ⟨_, results_cells2 (hmD.row (List.mem_cons_of_mem _ List.mem_cons_self)) (hmD.row List.mem_cons_self) rfl _ _ _ rfl rfl Tryd.underlying28 rfl (by kernel_rfl) Tryd.underlying30 rfl, a, b, c, g, 0, rfl, by have := HKK.out; rw [if_pos hz] at this; exact this, h1, four_mem (hmD.tail.tail.sub (.cons_cons _ (.cons _ (.cons_cons _ .slnil)))), fun j hj => hre j (four_at hj)⟩
  · have hmD : Mem none w0 w3 [.row (bS + 1) #[.nilIface] 30, .row bS #[a.toV, b.toV, c.toV, g.toV] 28, baseF (FE F) [a, b, c, g, d'], .row k _ _, .ogen op oq] := hm4
    refine leaves_cons (f := 31) (args := #[.pointer (some ⟨bS, 0, none⟩), .pointer (some ⟨bS + 1, 0, none⟩)]) (by simp) (by simp [go_sem]) ?_
    refine (catch_p hmD rfl _ _ []).mono ?_
    rintro e u' wD ⟨rfl, rfl, hmE⟩
    simp only [settle, Leaves]
    exact ⟨_, results_cells2 (hmE.row (List.mem_cons_of_mem _ List.mem_cons_self)) (hmE.row List.mem_cons_self) rfl _ _ _ rfl rfl Tryd.underlying28 rfl (by kernel_rfl) Tryd.underlying30 rfl, z1, z1, z1, z4, scrD [a, b, c, g], by unfold errV; rw [if_neg hz]; rfl, by have := HKK.out; rw [if_neg hz] at this; exact this, scrZ_has, scrZ_mem (hmE.tail.tail.sub (.cons_cons _ (.cons _ (.cons_cons _ .slnil)))), fun j hj => (scrZ_at hj).elim⟩
/-- reading a whole script -/
theorem read_w (hd : Has E0.Δ (.list TBy) d) (hM : Mem none w0 w [baseF (FE F) [d], .row k #[d.toV] TRd, .ogen op oq]) (hx : d.xs = u8R l) (hb : Bts l) (hK : readQ l K) :
    Calls Tryd.prog 16 #[.pointer (some ⟨k, 0, none⟩)] w fun e w' => ReadR F op oq w0 d K e w' := by
  unfold readQ Run at hK
  cases hp : pS l with
  | error n => rw [hp] at hK; exact read_bad hd hM hx hb hp (enz_S l n hp) hK
  | ok q =>
    obtain ⟨x, r⟩ := q
    rw [hp] at hK
    by_cases hr : r = []
    · subst hr
      exact read_chk hd hM hx hb hp (by have hK : if ([] : List Nat) = [] then _ else _ := hK; rw [if_pos rfl] at hK; exact hK)
    · exact read_long hd hM hx hb hp hr (by have hK : if r = [] then _ else _ := hK; rw [if_neg hr] at hK; exact hK)
end
end Go.Proofs.YtbpbdanggilnpaaDoor
end

section
namespace Go.Proofs.YtbpbdanggilnpaaDoor
open Go.RowKit
set_option linter.unusedVariables false
set_option linter.unusedSimpArgs false
def k_tParse : Nat := 6
def sg_tParse : Sig := ⟨[(false, [.list 5])], [(true, [.list 3, .list 3, .list 3] ++ [.list 68]), (false, [.err])], false, false, false, false, false, [], [], none⟩
noncomputable def tr_tParse : Tree := walk E0.cx (sgsN []) 0 6 sg_tParse
theorem wk_tParse : walk E0.cx (sgsN []) 0 6 sg_tParse = tr_tParse := rfl
theorem bo_tParse : ∃ x, bodyOf E0.P 6 = some x := bo_of (by kernel_rfl)
def tParse_s : Spec := fun ds Q => ∃ l, argL ds 0 = u8R l ∧ bytes l ∧ l.length ≤ 90000000 ∧ (if 65536 < l.length then Q (scrZ ++ [errV 3]) else readQ l fun rs n => Q (rs ++ [errV n]))
theorem Mem.row_o {w0 w : World} {L : List Fact} {b : Nat} {cs : Array Value} {T : TypeId} {i : Nat} (h : Mem none w0 w L) (hi : L[i]? = some (.row b cs T)) : Mem none w0 w (L.set i (.ogen (fun w => Row w b cs T) (fun j => j = b))) :=
  h.upd i hi (World.grownBy.refl w none) (fun k hk => by cases hk) (f' := .ogen (fun w => Row w b cs T) (fun j => j = b))
    ⟨h.holds _ (List.mem_of_getElem? hi), fun w1 w2 o h1 hg hne => Fact.keeps (B := 0) (f := .row b cs T) h1 hg fun k hk => hne k hk, fun w1 h1 k hk => by cases hk; exact Row.lt h1⟩ rfl (fun k hk => .inl hk)
theorem Mem.o_row {w0 w : World} {L : List Fact} {b : Nat} {cs : Array Value} {T : TypeId} {i : Nat} (h : Mem none w0 w L) (hi : L[i]? = some (.ogen (fun w => Row w b cs T) (fun j => j = b))) : Mem none w0 w (L.set i (.row b cs T)) :=
  h.upd i hi (World.grownBy.refl w none) (fun k hk => by cases hk) (f' := .row b cs T) (h.holds _ (List.mem_of_getElem? hi)).1 rfl (fun k hk => .inl hk)
theorem Mem.base0 {w : World} {ds : List Dat} (h : OkL w ds) (hg : E0.globs w) : Mem none w w [baseF (FE Frm.none) ds] := by
  refine (Mem.start w).addOld ⟨⟨h, hg⟩, baseFirm _ _⟩ rfl fun k hk => ⟨?_, by simp⟩
  exact (baseFirm (FE Frm.none) ds).lt w ⟨h, hg⟩ k hk
set_option maxRecDepth 100000 in
set_option maxHeartbeats 20000000 in
theorem parse_w {w : World} {d : Dat} {l : List Nat} {K : List Dat → Int → Prop} (hd : Has E0.Δ (.list TBy) d) (hok : OkL w [d]) (hg : E0.globs w) (hx : d.xs = u8R l) (hb : bytes l) (hlen : l.length ≤ 65536) (hK : readQ l K) :
    Calls Tryd.prog 6 #[d.toV] w fun e w' => ∃ a b c g n, e = .returned (.tuple #[.agg #[a.toV, b.toV, c.toV, g.toV], (errV n).toV]) ∧ K [a, b, c, g] n ∧ All2 (Has E0.Δ) [.list TIn, .list TIn, .list TIn, .list TOp] [a, b, c, g] ∧ Mem none w w' [baseF (FE Frm.none) [a, b, c, g]] ∧ ∀ j, AtL [a, b, c, g] j → w.heap.size ≤ j ∨ AtL [d] j := by
  have hM := Mem.base0 hok hg
  have hB : Bts l := ⟨hb, by omega⟩
  obtain ⟨A, c0, hv⟩ := list_v hd (hok d (by simp))
  have hn : d.xs.length = l.length := by rw [hx, u8R_len]
  rw [hn] at hv
  have hle : ¬ ((l.length : Nat) : Int) > 65536 := by omega
  rw [hv]
  have HRD := fun (k : Nat) (w1 : World) op oq hM => read_w (w := w1) (k := k) (F := Frm.none) (op := op) (oq := oq) (w0 := w) hd hM hx hB hK
  rw [hv] at HRD
  generalize l.length = n at *
  clear hK hx
  go_enter Tryd.func6, Tryd.ntmps6
  go_wp2_with (first
    | (refine M_allocV hM (by kernel_rfl) (.agg scr0) rfl (by kernel_rfl) ?_; intro b2 w1 hM1)
    | (refine M_boxV hM1 (by kernel_rfl) rfl ?_; intro bk w2 hM2)
    | (go_at_call 16; refine (HRD bk w2 _ _ (Mem.rot (Mem.rot (Mem.row_o (i := 1) hM2 rfl)))).mono ?_; rintro e w3 ⟨a, b, c, g, m, rfl, hk, h1, hM3, hre⟩; have hM4 := Mem.o_row (i := 1) hM3 rfl; have hone := one4 h1)
    | (refine M_setRow hM4 (by kernel_rfl) rfl rfl rfl rfl (.tail _ (.head _ _)) (by kernel_rfl) rfl hone ?_; intro w4 hM5)
    | fail)
  exact ⟨rfl, _, results_Row2 (hM5.row (List.mem_cons_of_mem _ List.mem_cons_self)) rfl _ _ rfl Tryd.underlying28 rfl (by kernel_rfl), a, b, c, g, m, rfl, hk, h1, hM5.sub (.cons_cons _ (.cons _ .slnil)), hre⟩
set_option maxRecDepth 100000 in
set_option maxHeartbeats 20000000 in
theorem parse_long {w : World} {d : Dat} {l : List Nat} (hd : Has E0.Δ (.list TBy) d) (hok : OkL w [d]) (hg : E0.globs w) (hx : d.xs = u8R l) (hb : bytes l) (hlen : 65536 < l.length) :
    Calls Tryd.prog 6 #[d.toV] w fun e w' => e = .returned (.tuple #[.agg scr0, (errV 3).toV]) ∧ Mem none w w' [baseF (FE Frm.none) scrZ] := by
  have hM := Mem.base0 (scrZ_ok w) hg
  obtain ⟨A, c0, hv⟩ := list_v hd (hok d (by simp))
  have hn : d.xs.length = l.length := by rw [hx, u8R_len]
  rw [hn] at hv
  have hle : ((l.length : Nat) : Int) > 65536 := by omega
  rw [hv]
  generalize l.length = n at *
  clear hx
  go_enter Tryd.func6, Tryd.ntmps6
  go_wp2_with (first
    | (refine M_allocV hM (by kernel_rfl) (.agg scr0) rfl (by kernel_rfl) ?_; intro b2 w1 hM1)
    | (refine M_of (.agg scr0) (by kernel_rfl) (R_build0 rfl (by kernel_rfl)) ?_)
    | (refine M_setRow (cs' := scr0) hM1 (by kernel_rfl) rfl rfl rfl rfl (.head _ _) (by kernel_rfl) rfl (by kernel_rfl) ?_; intro w4 hM5)
    | fail)
  exact ⟨rfl, _, results_Row2 (hM5.row List.mem_cons_self) rfl _ _ rfl Tryd.underlying28 rfl (by kernel_rfl), rfl, hM5.tail⟩
theorem errV_val (n : Int) : ∃ v, errV n = .val v := by
  unfold errV; split <;> exact ⟨_, rfl⟩
theorem err_ok {w : World} {rs : List Dat} (n : Int) (h : OkL w rs) : OkL w (rs ++ [errV n]) := fun d hd => by
  rcases List.mem_append.1 hd with hd | hd
  · exact h d hd
  · rw [List.mem_singleton.1 hd]
    obtain ⟨v, e⟩ := errV_val n
    rw [e]; exact .val v
theorem err_at {rs : List Dat} {n : Int} {k : Nat} (h : AtL (rs ++ [errV n]) k) : AtL rs k := by
  obtain ⟨d, hd, hk⟩ := h
  rcases List.mem_append.1 hd with hd | hd
  · exact ⟨d, hd, hk⟩
  · rw [List.mem_singleton.1 hd] at hk
    obtain ⟨v, e⟩ := errV_val n
    rw [e] at hk; cases hk
theorem tParse_h : Holds E0 k_tParse sg_tParse tParse_s := fun w ds Q hs hok _ hg ⟨l, hx, hb, hlen, h⟩ => by
  rcases hs with _ | ⟨hd, h1⟩
  rcases h1 with _ | _
  rename_i d
  rw [argL_c0] at hx
  by_cases h0 : 65536 < l.length
  · rw [if_pos h0] at h
    refine (parse_long hd hok hg hx hb h0).mono ?_
    rintro e w' ⟨rfl, hm⟩
    exact ⟨_, h, scrZ_has.append (.cons (.ifc 3) .nil), hm.below, err_ok _ (hm.holds _ List.mem_cons_self).1.1, fun k hk => (scrZ_at (err_at hk)).elim, rfl⟩
  · rw [if_neg h0] at h
    refine (parse_w hd hok hg hx hb (by omega) h).mono ?_
    rintro e w' ⟨a, b, c, g, n, rfl, hk, h1, hm, hre⟩
    exact ⟨_, hk, h1.append (.cons (errV_has n) .nil), hm.below, err_ok _ (hm.holds _ List.mem_cons_self).1.1, fun k hk => (hre k (err_at hk)).imp id .inl, rfl⟩
noncomputable def con_tParse : Con E0 := ⟨k_tParse, sg_tParse, tParse_s, rfl, bo_tParse, tParse_h⟩
end Go.Proofs.YtbpbdanggilnpaaDoor
end

section
namespace Go.Proofs.YtbpbdanggilnpaaDoor
open Go.RowKit
set_option linter.unusedVariables false
set_option linter.unusedSimpArgs false
/-- a reader's contract: place i of the arguments holds its bytes, how far it is, its error -/
def qS {α : Type} (i : Nat) (p : List Dat → P1 α) (enc : α → List Dat → Prop) (any : List Dat → Prop) : Spec := fun ds Q => ∃ l0 : List Nat, argL ds i = u8R l0 ∧ Bts l0 ∧
  (argI ds (i + 2) ≠ 0 → ∀ rs a', any rs → Q (rs ++ [ds.getD i (.bool false), .int .i64 a', .int .i64 (argI ds (i + 2))])) ∧
  (argI ds (i + 2) = 0 → ∃ j : Nat, argI ds (i + 1) = j ∧ j ≤ l0.length ∧ Run (p ds) (l0.drop j) (fun x r => ∀ rs j', enc x rs → j' ≤ l0.length → r = l0.drop j' → Q (rs ++ [ds.getD i (.bool false), .int .i64 (j' : Nat), .int .i64 0]))
    (fun n => ∀ rs a', any rs → Q (rs ++ [ds.getD i (.bool false), .int .i64 a', .int .i64 n])))
def anyN (rs : List Dat) : Prop := ∃ n, rs = [.int .i64 n]
def anyL (rs : List Dat) : Prop := ∃ d, rs = [d]
theorem int_at {ss : List Srt} {ds : List Dat} {i : Nat} (hs : All2 (Has E0.Δ) ss ds) (h : ss[i]? = some (.int .i64)) : ds.getD i (.bool false) = .int .i64 (argI ds i) := by
  have h1 := all2_get hs h
  have hi : i < ds.length := by
    have := (List.getElem?_eq_some_iff.1 h).1
    rw [← hs.length]; exact this
  unfold argI
  rw [List.getD_eq_getElem?_getD, List.getElem?_eq_getElem hi, Option.getD_some] at h1 ⊢
  rw [List.getD_eq_getElem?_getD, List.getElem?_eq_getElem hi, Option.getD_some]
  generalize ds[i] = d at *
  cases h1; rfl
def k_qNum : Nat := 19
def sg_qNum : Sig := ⟨[], [(false, [.int .i64])], false, false, true, false, false, [(false, [.b 0 0])], [(56, [.v (.list 5)] ++ [.v (.int .i64), .v (.int .i64)])], none⟩
def tr_qNum : Tree := (.ite (.cmp .ne (.var 2) (.int .i64 0))
 (.ret [(.int .i64 0), (.var 0), (.var 1), (.var 2)])
 (.both (.ob (.cmp .ge (.var 1) (.int .i64 0))
 (.ob (.cmp .le (.var 1) (.len (.var 0)))
 (.call k_rTake2 [(.cut (.var 0) (.var 1) (.len (.var 0)))] [(.int .i64), (.int .i64), (.int .i64)]
 (.ret [(.var 3), (.var 0), (.ar .add .i64 (.var 1) (.var 4)), (.var 5)])))) (.ob (.cmp .ge (.var 1) (.int .i64 0))
 (.ob (.cmp .le (.var 1) (.len (.var 0)))
 (.call k_rTake2 [(.cut (.var 0) (.var 1) (.len (.var 0)))] [(.int .i64), (.int .i64), (.int .i64)]
 (.ret [(.var 3), (.var 0), (.ar .add .i64 (.var 1) (.var 4)), (.var 5)]))))))
theorem wk_qNum : walkP E0.cx (sgsN [(34, sg_rTake2)]) 0 19 sg_qNum = tr_qNum := by kernel_rfl
theorem bo_qNum : ∃ x, bodyOf E0.P 19 = some x := bo_of (by kernel_rfl)
theorem sp_qNum_rTake2 : specX [.q con_rTake2] k_rTake2 = rTake2_s := rfl
def qNum_s : Spec := qS 0 (fun _ => pN) encN anyN
theorem qNum_h : HoldsP E0 k_qNum sg_qNum qNum_s := con_fnP wf0 mix0 g0 rfl [.q con_rTake2] rfl wk_qNum rfl (by
  intro Φ hΦ ds Q hs ⟨l, hx, hb, h1, h2⟩
  have hl : ds.length = 3 := hs.length.symm
  have s1 : Φ k_rTake2 = rTake2_s := by rw [hΦ]; rfl
  clear hΦ
  have hH : Has E0.Δ (.list 5) (ds.getD 0 (.bool false)) := all2_get hs (i := 0) rfl
  have hlen0 : (argL ds 0).length = l.length := by rw [hx, u8R_len]
  simp only [tr_qNum, wp, den_int, den_bool, den_nili, den_ar, den_cmp, den_not, den_len, den_elem, den_isnil, den_errI, den_ifc, den_rep, den_push, den_app, den_emp, den_upd, row0_econs, row0_enil, den_and, den_beq, den_nil, toInt_int, toBool_bool, xs_rows, xs_list, dflt_int, dflt_bool, of_eq, of_ne, of_lt, of_le, of_gt, of_ge, of_add, of_sub, of_rem, List.map_cons, List.map_nil, Dat.bool.injEq, decide_eq_true_eq, decide_eq_false_iff_not, Bool.not_eq_true', Bool.not_eq_false', beq_iff_eq, bne_iff_ne, beq_eq_false_iff_ne, bne_eq_false_iff_eq, ne_eq, List.append_assoc, List.cons_append, List.nil_append, allS, s1, rTake2_s, argL_c0, argI_c0, argI_c1, den_cutT, @den_var0 E0.Δ ds, den_varA, den_varB, hl, Nat.reduceLT, Nat.reduceLeDiff, Nat.reduceSub, List.getD_cons_zero, List.getD_cons_succ, argL_fold ds, argI_fold ds, List.append_assoc, List.cons_append, List.nil_append, toInt_int, toBool_bool, xs_rows, xs_list, Int.toNat_natCast, Dat.bool.injEq]
  have g1 := int_at hs (i := 1) rfl
  have g2 := int_at hs (i := 2) rfl
  rw [g1, g2]
  refine ⟨fun h0 => h1 h0 [_] _ ⟨0, rfl⟩, fun h0 => ?_⟩
  obtain ⟨j, hj, hjl, h⟩ := h2 h0
  have hj : argI ds 1 = j := hj
  have h : Run pN (l.drop j) _ _ := h
  have hbr := bytes_drop hb.1 j
  have hlr : (l.drop j).length = l.length - j := List.length_drop
  have key : Q [.int .i64 (mth.tk 0 0 (l.drop j)).1, ds.getD 0 (.bool false), .int .i64 (IntKind.i64.wrap (argI ds 1 + ((mth.tk 0 0 (l.drop j)).2.1 : Nat))), .int .i64 (mth.tk 0 0 (l.drop j)).2.2] := by
    by_cases h3 : (mth.tk 0 0 (l.drop j)).2.2 = 0
    · rw [Run_N0 h3] at h
      have hk := tk_0 hbr h3
      have := h [_] (j + (mth.tk 0 0 (l.drop j)).2.1) rfl (by omega) (by rw [List.drop_drop])
      rw [hj, wrap64 (by have := hb.2; omega) (by have := hb.2; omega), h3]
      exact this
    · rw [Run_N1 h3] at h
      exact h [_] _ ⟨_, rfl⟩
  have hcut : (cutD (argI ds 1).toNat (argL ds 0).length (ds.getD 0 (.bool false))).xs = u8R (l.drop j) := by
    rw [hlen0, hj, Int.toNat_natCast]; exact cut_u8 hH (by rw [argL_fold, hx]) hjl
  refine ⟨⟨by omega, by rw [hlen0]; omega, l.drop j, hcut, hbr, by have := hb.2; omega, ?_⟩, ⟨by omega, by rw [hlen0]; omega, l.drop j, hcut, hbr, by have := hb.2; omega, ?_⟩⟩
  all_goals exact key)
noncomputable def con_qNum : ConP E0 := ⟨k_qNum, sg_qNum, qNum_s, rfl, bo_qNum, qNum_h⟩
end Go.Proofs.YtbpbdanggilnpaaDoor
end

section
namespace Go.Proofs.YtbpbdanggilnpaaDoor
open Go.RowKit
set_option linter.unusedVariables false
set_option linter.unusedSimpArgs false
theorem beq_eq_decide (a b : Int) : (a == b) = decide (a = b) := by
  by_cases h : a = b <;> simp [h]
def k_qCnt : Nat := 18
def sg_qCnt : Sig := ⟨[], [(false, [.int .i64])], false, false, true, false, false, [(false, [.b 0 0]), (false, [.v (.int .i64)])], [(56, [.v (.list 5)] ++ [.v (.int .i64), .v (.int .i64)])], none⟩
def tr_qCnt : Tree := (.call k_qNum [(.var 1), (.var 2), (.var 3)] [(.int .i64), (.list 5), (.int .i64), (.int .i64)]
(.ite (.cmp .ne (.ite (.and (.cmp .eq (.ite (.and (.cmp .eq (.var 7) (.int .i64 0)) (.cmp .lt (.var 4) (.int .i64 0))) (.int .i64 1) (.var 7)) (.int .i64 0)) (.cmp .gt (.var 4) (.var 0))) (.int .i64 19) (.ite (.and (.cmp .eq (.var 7) (.int .i64 0)) (.cmp .lt (.var 4) (.int .i64 0))) (.int .i64 1) (.var 7))) (.int .i64 0))
 (.ret [(.int .i64 0), (.var 5), (.var 6), (.ite (.and (.cmp .eq (.ite (.and (.cmp .eq (.var 7) (.int .i64 0)) (.cmp .lt (.var 4) (.int .i64 0))) (.int .i64 1) (.var 7)) (.int .i64 0)) (.cmp .gt (.var 4) (.var 0))) (.int .i64 19) (.ite (.and (.cmp .eq (.var 7) (.int .i64 0)) (.cmp .lt (.var 4) (.int .i64 0))) (.int .i64 1) (.var 7)))])
 (.ret [(.var 4), (.var 5), (.var 6), (.ite (.and (.cmp .eq (.ite (.and (.cmp .eq (.var 7) (.int .i64 0)) (.cmp .lt (.var 4) (.int .i64 0))) (.int .i64 1) (.var 7)) (.int .i64 0)) (.cmp .gt (.var 4) (.var 0))) (.int .i64 19) (.ite (.and (.cmp .eq (.var 7) (.int .i64 0)) (.cmp .lt (.var 4) (.int .i64 0))) (.int .i64 1) (.var 7)))])))
theorem wk_qCnt : walkP E0.cx (sgsN [(19, sg_qNum)]) 0 18 sg_qCnt = tr_qCnt := by kernel_rfl
theorem bo_qCnt : ∃ x, bodyOf E0.P 18 = some x := bo_of (by kernel_rfl)
theorem sp_qCnt_qNum : specX [.p con_qNum] k_qNum = qNum_s := rfl
/-- without a count nothing is counted -/
def any0 (rs : List Dat) : Prop := rs = [.int .i64 0]
def qCnt_s : Spec := qS 1 (fun ds => pC (argI ds 0)) encN any0
theorem qCnt_h : HoldsP E0 k_qCnt sg_qCnt qCnt_s := con_fnP wf0 mix0 g0 rfl [.p con_qNum] rfl wk_qCnt rfl (by
  intro Φ hΦ ds Q hs ⟨l, hx, hb, h1, h2⟩
  have hl : ds.length = 4 := hs.length.symm
  have s1 : Φ k_qNum = qNum_s := by rw [hΦ]; rfl
  clear hΦ
  simp only [tr_qCnt, wp, den_int, den_bool, den_nili, den_ar, den_cmp, den_not, den_len, den_elem, den_isnil, den_errI, den_ifc, den_rep, den_push, den_app, den_emp, den_upd, row0_econs, row0_enil, den_and, den_beq, den_nil, toInt_int, toBool_bool, xs_rows, xs_list, dflt_int, dflt_bool, of_eq, of_ne, of_lt, of_le, of_gt, of_ge, of_add, of_sub, of_rem, List.map_cons, List.map_nil, Dat.bool.injEq, decide_eq_true_eq, decide_eq_false_iff_not, Bool.not_eq_true', Bool.not_eq_false', beq_iff_eq, bne_iff_ne, beq_eq_false_iff_ne, bne_eq_false_iff_eq, ne_eq, List.append_assoc, List.cons_append, List.nil_append, allS, s1, qNum_s, qS, argL_c0, argI_c0, argI_c1, @den_var0 E0.Δ ds, den_varA, den_varB, hl, Nat.reduceLT, Nat.reduceLeDiff, Nat.reduceSub, List.getD_cons_zero, List.getD_cons_succ, argL_fold ds, argI_fold ds, List.append_assoc, List.cons_append, List.nil_append, toInt_int, toBool_bool, xs_rows, xs_list, Int.toNat_natCast, Dat.bool.injEq]
  refine ⟨l, hx, hb, ?_, ?_⟩
  · intro h0 rs a' ⟨n, hn⟩
    subst hn
    have hne : ¬ argI ds 3 = 0 := h0
    simp only [den_ite, den_and, den_cmp, den_int, toInt_int, toBool_bool, Cmp.of, @den_var0 E0.Δ ds, den_varA, den_varB, hl, Nat.reduceLT, Nat.reduceLeDiff, Nat.reduceSub, List.getD_cons_zero, List.getD_cons_succ, argL_fold ds, argI_fold ds, List.append_assoc, List.cons_append, List.nil_append, toInt_int, toBool_bool, xs_rows, xs_list, Int.toNat_natCast, Dat.bool.injEq, beq_eq_decide, hne, decide_false, Bool.false_and, Bool.false_eq_true, if_false]
    exact ⟨fun _ => h1 hne [_] _ rfl, fun h => h.elim⟩
  · intro h0
    obtain ⟨j, hj, hjl, h⟩ := h2 h0
    refine ⟨j, hj, hjl, ?_⟩
    have h : Run (pC (argI ds 0)) (l.drop j) _ _ := h
    unfold pC at h
    rw [Run_bnd] at h
    refine h.mono (fun n r hr hk rs j' hrs hj' hr' => ?_) (fun n hr hn rs a' hrs => ?_)
    · have hrs : rs = [.int .i64 n] := hrs
      subst hrs
      simp only [den_ite, den_and, den_cmp, den_int, toInt_int, toBool_bool, Cmp.of, @den_var0 E0.Δ ds, den_varA, den_varB, hl, Nat.reduceLT, Nat.reduceLeDiff, Nat.reduceSub, List.getD_cons_zero, List.getD_cons_succ, argL_fold ds, argI_fold ds, List.append_assoc, List.cons_append, List.nil_append, toInt_int, toBool_bool, xs_rows, xs_list, Int.toNat_natCast, Dat.bool.injEq, beq_self_eq_true, decide_true, Bool.true_and]
      by_cases c1 : n < 0
      · rw [if_pos c1] at hk
        simp [c1, toInt_int, -List.getD_eq_getElem?_getD]
        exact hk [_] _ rfl
      · rw [if_neg c1] at hk
        by_cases c2 : argI ds 0 < n
        · rw [if_pos c2] at hk
          simp [c1, c2, toInt_int, -List.getD_eq_getElem?_getD]
          exact hk [_] _ rfl
        · rw [if_neg c2] at hk
          simp [c1, c2, toInt_int, -List.getD_eq_getElem?_getD]
          exact hk [_] j' rfl hj' hr'
    · obtain ⟨m, rfl⟩ := hrs
      have hne : ¬ n = 0 := enz_N _ _ hr
      simp only [den_ite, den_and, den_cmp, den_int, toInt_int, toBool_bool, Cmp.of, @den_var0 E0.Δ ds, den_varA, den_varB, hl, Nat.reduceLT, Nat.reduceLeDiff, Nat.reduceSub, List.getD_cons_zero, List.getD_cons_succ, argL_fold ds, argI_fold ds, List.append_assoc, List.cons_append, List.nil_append, toInt_int, toBool_bool, xs_rows, xs_list, Int.toNat_natCast, Dat.bool.injEq, beq_eq_decide, hne, decide_false, Bool.false_and, Bool.false_eq_true, if_false]
      exact ⟨fun _ => hn [_] _ rfl, fun h => h.elim⟩)
noncomputable def con_qCnt : ConP E0 := ⟨k_qCnt, sg_qCnt, qCnt_s, rfl, bo_qCnt, qCnt_h⟩
end Go.Proofs.YtbpbdanggilnpaaDoor
end

section
namespace Go.Proofs.YtbpbdanggilnpaaDoor
open Go.RowKit
set_option linter.unusedVariables false
set_option linter.unusedSimpArgs false
theorem bnd_of {α β : Type} {p : P1 α} {f : α → P1 β} {l r : List Nat} {x : α} (h : p l = .ok (x, r)) : bnd p f l = f x r := by
  unfold bnd; rw [h]
theorem bnd_er {α β : Type} {p : P1 α} {f : α → P1 β} {l : List Nat} {n : Int} (h : p l = .error n) : bnd p f l = .error n := by
  unfold bnd; rw [h]
theorem pN_0 {l : List Nat} (h : (mth.tk 0 0 l).2.2 = 0) : pN l = .ok ((mth.tk 0 0 l).1, l.drop (mth.tk 0 0 l).2.1) := by
  unfold pN; rw [if_pos h]
theorem pN_1 {l : List Nat} (h : (mth.tk 0 0 l).2.2 ≠ 0) : pN l = .error (mth.tk 0 0 l).2.2 := by
  unfold pN; rw [if_neg h]
theorem many_N : ∀ (n : Nat) (l : List Nat), pMany pN n l = if (mth.tkN n l).2.2 = 0 then .ok ((mth.tkN n l).1, (mth.tkN n l).2.1) else .error (mth.tkN n l).2.2
  | 0, l => rfl
  | n + 1, l => by
    have ih := many_N n (l.drop (mth.tk 0 0 l).2.1)
    rw [pMany, mth.tkN]
    by_cases h : (mth.tk 0 0 l).2.2 = 0
    · rw [if_pos h, bnd_of (pN_0 h)]
      generalize mth.tkN n (l.drop (mth.tk 0 0 l).2.1) = t at *
      unfold mth.pre
      by_cases h2 : t.2.2 = 0
      · rw [if_pos h2] at ih
        rw [if_pos h2, if_pos rfl, bnd_of ih]; rfl
      · rw [if_neg h2] at ih
        rw [if_neg h2, if_neg h2, bnd_er ih]
    · rw [if_neg h, if_neg h, bnd_er (pN_1 h)]
theorem pL_many (most : Int) (l : List Nat) : pL most l = bnd (pC most) (fun n => pMany pN n.toNat) l := by
  unfold pL pC mth.tkL
  by_cases h : (mth.tk 0 0 l).2.2 = 0
  · rw [if_pos h]
    by_cases h1 : (mth.tk 0 0 l).1 < 0
    · rw [if_pos h1, bnd_er (n := 1) (by rw [bnd_of (pN_0 h), if_pos h1]; rfl)]; rfl
    · by_cases h2 : most < (mth.tk 0 0 l).1
      · rw [if_neg h1, if_pos h2, bnd_er (n := 19) (by rw [bnd_of (pN_0 h), if_neg h1, if_pos h2]; rfl)]; rfl
      · rw [if_neg h1, if_neg h2, bnd_of (x := (mth.tk 0 0 l).1) (r := l.drop (mth.tk 0 0 l).2.1) (by rw [bnd_of (pN_0 h), if_neg h1, if_neg h2]; rfl)]
        exact (many_N _ _).symm
  · rw [if_neg h, bnd_er (bnd_er (pN_1 h)), if_neg h]
end Go.Proofs.YtbpbdanggilnpaaDoor
end

section
namespace Go.Proofs.YtbpbdanggilnpaaDoor
open Go.RowKit
set_option linter.unusedVariables false
set_option linter.unusedSimpArgs false
def k_qLst : Nat := 17
def sg_qLst : Sig := ⟨[], [(false, [.list 3])], false, false, true, false, false, [(false, [.b 0 0]), (false, [.v (.int .i64)])], [(56, [.v (.list 5)] ++ [.v (.int .i64), .v (.int .i64)])], none⟩
def tr_qLst_1 : Tree := (.ite (.cmp .lt (.var 9) (.var 4)) (.call k_qNum [(.var 10), (.var 11), (.var 12)] [(.int .i64), (.list 5), (.int .i64), (.int .i64)] (.ob (.cmp .le (.len (.push (.var 8) (.econs (.var 13) .enil))) (.int .i64 17592186044416)) (.again 0 [(.push (.var 8) (.econs (.var 13) .enil)), (.ar .add .i64 (.var 9) (.int .i64 1)), (.var 14), (.var 15), (.var 16)]))) (.share 3 (.var 8) (.ret [(.var 13), (.var 10), (.var 11), (.var 12)])))
def tr_qLst : Tree := (.call k_qCnt [(.var 0), (.var 1), (.var 2), (.var 3)] [(.int .i64), (.list 5), (.int .i64), (.int .i64)] (.loop [.emp, (.int .i64 0), (.var 5), (.var 6), (.var 7)] [(.rows 3), (.int .i64), (.list 5), (.int .i64), (.int .i64)] tr_qLst_1))
theorem wk_qLst : walkP E0.cx (sgsN [(18, sg_qCnt), (19, sg_qNum)]) 0 17 sg_qLst = tr_qLst := by kernel_rfl
theorem bo_qLst : ∃ x, bodyOf E0.P 17 = some x := bo_of (by kernel_rfl)
theorem sp_qLst_qCnt : specX [.p con_qCnt, .p con_qNum] k_qCnt = qCnt_s := rfl
theorem sp_qLst_qNum : specX [.p con_qCnt, .p con_qNum] k_qNum = qNum_s := rfl
def qLst_s : Spec := fun ds Q => argI ds 0 ≤ 100000 ∧ qS 1 (fun ds => pL (argI ds 0)) encLs anyL ds Q
/-- a list under way: it goes well, or an error is known -/
def LstS (Q : List Dat → Prop) (l : List Nat) (B : Dat) (N : Int) (rows : List (List Dat)) (a b : Int) : Prop :=
  (b ≠ 0 ∧ ∀ d a', Q [d, B, .int .i64 a', .int .i64 b]) ∨
  (b = 0 ∧ ∃ (acc : List Int) (j : Nat), rows = i64R acc ∧ a = j ∧ j ≤ l.length ∧ Run (pMany pN (N.toNat - acc.length)) (l.drop j)
    (fun zs r => ∀ (d : Dat) (j' : Nat), d.xs = i64R (acc ++ zs) → j' ≤ l.length → r = l.drop j' → Q [d, B, .int .i64 j', .int .i64 0]) (fun n => ∀ d a', Q [d, B, .int .i64 a', .int .i64 n]))
def LstI (Q : List Dat → Prop) (l : List Nat) (B : Dat) (N : Int) (xs : List Dat) (m : Nat) : Prop :=
  ∃ (k : Nat) (rows : List (List Dat)) (a b : Int), xs = [.rows rows, .int .i64 k, B, .int .i64 a, .int .i64 b] ∧ rows.length = k ∧ (k : Int) ≤ 100000 ∧ m = N.toNat - k ∧ LstS Q l B N rows a b
theorem qLst_1 {Φ : Nat → Spec} {ds : List Dat} {Q : List Dat → Prop} {l : List Nat} {B B0 : Dat} {N a0 b0 : Int} (s2 : Φ k_qNum = qNum_s) (hl : ds.length = 4) (hb : Bts l) (hB : B.xs = u8R l) (hN : N ≤ 100000) {xs : List Dat} {m : Nat} (h : LstI Q l B N xs m) :
    wp E0.Δ Φ Q tr_qLst_1 (ds ++ ([.int .i64 N, B0, .int .i64 a0, .int .i64 b0] ++ xs)) [(LstI Q l B N, m)] := by
  obtain ⟨k, rows, a, b, rfl, hk, hk1, rfl, h⟩ := h
  simp only [tr_qLst_1, wp, den_int, den_bool, den_nili, den_ar, den_cmp, den_not, den_len, den_elem, den_isnil, den_errI, den_ifc, den_rep, den_push, den_app, den_emp, den_upd, row0_econs, row0_enil, den_and, den_beq, den_nil, toInt_int, toBool_bool, xs_rows, xs_list, dflt_int, dflt_bool, of_eq, of_ne, of_lt, of_le, of_gt, of_ge, of_add, of_sub, of_rem, List.map_cons, List.map_nil, Dat.bool.injEq, decide_eq_true_eq, decide_eq_false_iff_not, Bool.not_eq_true', Bool.not_eq_false', beq_iff_eq, bne_iff_ne, beq_eq_false_iff_ne, bne_eq_false_iff_eq, ne_eq, List.append_assoc, List.cons_append, List.nil_append, allS, s2, qNum_s, qS, @den_var0 E0.Δ ds, den_varA, den_varB, hl, Nat.reduceLT, Nat.reduceLeDiff, Nat.reduceSub, List.getD_cons_zero, List.getD_cons_succ, argL_fold ds, argI_fold ds, List.append_assoc, List.cons_append, List.nil_append, toInt_int, toBool_bool, xs_rows, xs_list, Int.toNat_natCast, Dat.bool.injEq, List.cons_append, List.nil_append]
  refine ⟨fun hlt => ⟨l, hB, hb, ?_, ?_⟩, fun hge A c => ?_⟩
  · intro hb0 rs a' ⟨n, hn⟩
    subst hn
    have hb0 : b ≠ 0 := hb0
    rcases h with ⟨_, h⟩ | ⟨h0, _⟩
    · refine ⟨by rw [List.length_append]; simp only [List.length_cons, List.length_nil]; omega, N.toNat - (k + 1), by omega, k + 1, _, a', b, by rw [wrap64 (by omega) (by omega)]; rfl, by rw [List.length_append]; simp only [List.length_cons, List.length_nil]; omega, by omega, rfl, .inl ⟨hb0, h⟩⟩
    · exact (hb0 h0).elim
  · intro hb0
    have hb0 : b = 0 := hb0
    rcases h with ⟨h0, _⟩ | ⟨_, acc, j, rfl, rfl, hj, hrun⟩
    · exact (h0 hb0).elim
    have hka : acc.length = k := by rw [← hk, i64R_len]
    refine ⟨j, rfl, hj, ?_⟩
    have hs : N.toNat - acc.length = (N.toNat - (acc.length + 1)) + 1 := by omega
    rw [hs, Run_many] at hrun
    refine hrun.mono (fun x r ex hk2 rs j' hrs hj' hr' => ?_) (fun n ex hn rs a' hrs => ?_)
    · have hrs : rs = [.int .i64 x] := hrs
      subst hrs
      refine ⟨by rw [List.length_append]; simp only [List.length_cons, List.length_nil]; omega, N.toNat - (k + 1), by omega, k + 1, _, j', 0, by rw [wrap64 (by omega) (by omega)]; rfl, by rw [List.length_append]; simp only [List.length_cons, List.length_nil]; omega, by omega, rfl, .inr ⟨rfl, acc ++ [x], j', by rw [i64R_app]; rfl, rfl, hj', ?_⟩⟩
      rw [List.length_append]
      subst hr'
      refine hk2.mono (fun zs r' _ h => ?_) (fun _ _ hn => hn)
      rw [List.append_assoc]; exact h
    · obtain ⟨n', rfl⟩ := hrs
      exact ⟨by rw [List.length_append]; simp only [List.length_cons, List.length_nil]; omega, N.toNat - (k + 1), by omega, k + 1, _, a', n, by rw [wrap64 (by omega) (by omega)]; rfl, by rw [List.length_append]; simp only [List.length_cons, List.length_nil]; omega, by omega, rfl, .inl ⟨enz_N _ _ ex, hn⟩⟩
  · rcases h with ⟨_, h⟩ | ⟨rfl, acc, j, rfl, rfl, hj, hrun⟩
    · exact h _ _
    · have hka : acc.length = k := by rw [← hk, i64R_len]
      have h0 : N.toNat - acc.length = 0 := by omega
      rw [h0] at hrun
      have hrun : ∀ (d : Dat) (j' : Nat), d.xs = i64R (acc ++ []) → j' ≤ l.length → l.drop j = l.drop j' → Q [d, B, .int .i64 j', .int .i64 0] := hrun
      rw [List.append_nil] at hrun
      exact hrun _ j (by rw [xs_list]) hj rfl
theorem qLst_h : HoldsP E0 k_qLst sg_qLst qLst_s := con_fnP wf0 mix0 g0 rfl [.p con_qCnt, .p con_qNum] rfl wk_qLst rfl (by
  intro Φ hΦ ds Q hs ⟨hmost, l, hx, hb, h1, h2⟩
  have hl : ds.length = 4 := hs.length.symm
  have s1 : Φ k_qCnt = qCnt_s := by rw [hΦ]; rfl
  have s2 : Φ k_qNum = qNum_s := by rw [hΦ]; rfl
  clear hΦ
  have hB : (ds.getD 1 (.bool false)).xs = u8R l := by rw [argL_fold]; exact hx
  simp only [tr_qLst, wp, den_int, den_bool, den_nili, den_ar, den_cmp, den_not, den_len, den_elem, den_isnil, den_errI, den_ifc, den_rep, den_push, den_app, den_emp, den_upd, row0_econs, row0_enil, den_and, den_beq, den_nil, toInt_int, toBool_bool, xs_rows, xs_list, dflt_int, dflt_bool, of_eq, of_ne, of_lt, of_le, of_gt, of_ge, of_add, of_sub, of_rem, List.map_cons, List.map_nil, Dat.bool.injEq, decide_eq_true_eq, decide_eq_false_iff_not, Bool.not_eq_true', Bool.not_eq_false', beq_iff_eq, bne_iff_ne, beq_eq_false_iff_ne, bne_eq_false_iff_eq, ne_eq, List.append_assoc, List.cons_append, List.nil_append, allS, s1, qCnt_s, qS, argL_c0, argI_c0, argI_c1, @den_var0 E0.Δ ds, den_varA, den_varB, hl, Nat.reduceLT, Nat.reduceLeDiff, Nat.reduceSub, List.getD_cons_zero, List.getD_cons_succ, argL_fold ds, argI_fold ds, List.append_assoc, List.cons_append, List.nil_append, toInt_int, toBool_bool, xs_rows, xs_list, Int.toNat_natCast, Dat.bool.injEq]
  refine ⟨l, hx, hb, ?_, ?_⟩
  · intro h0 rs a' hrs
    have hrs : rs = [.int .i64 0] := hrs
    subst hrs
    refine ⟨LstI Q l (ds.getD 1 (.bool false)) 0, ⟨_, 0, [], a', argI ds 3, rfl, rfl, by omega, rfl, .inl ⟨h0, fun d a' => h1 h0 [d] a' ⟨d, rfl⟩⟩⟩, ?_⟩
    intro d hd n d1 hd1 n1 n2 m hI
    exact qLst_1 s2 hl hb hB (by omega) hI
  · intro h0
    obtain ⟨j, hj, hjl, h⟩ := h2 h0
    refine ⟨j, hj, hjl, ?_⟩
    have h : Run (pL (argI ds 0)) (l.drop j) _ _ := h
    unfold Run at h
    rw [pL_many] at h
    have h : Run (bnd (pC (argI ds 0)) fun n => pMany pN n.toNat) (l.drop j) _ _ := h
    rw [Run_bnd] at h
    refine h.mono (fun N r hr hk rs j' hrs hj' hr' => ?_) (fun n hr hn rs a' hrs => ?_)
    · have hrs : rs = [.int .i64 N] := hrs
      subst hrs hr'
      have hN := pC_rng hr
      refine ⟨LstI Q l (ds.getD 1 (.bool false)) N, ⟨_, 0, [], j', 0, rfl, rfl, by omega, rfl, .inr ⟨rfl, [], j', rfl, rfl, hj', ?_⟩⟩, ?_⟩
      · refine Run.mono (p := pMany pN N.toNat) hk (fun zs r' _ h d j'' hd h1 h2 => h [d] j'' ⟨d, rfl, hd⟩ h1 h2) (fun n _ h d a' => h [d] a' ⟨d, rfl⟩)
      · intro d hd n d1 hd1 n1 n2 m hI
        exact qLst_1 s2 hl hb hB (by omega) hI
    · have hrs : rs = [.int .i64 0] := hrs
      subst hrs
      have hne : n ≠ 0 := enz_C _ _ _ hr
      refine ⟨LstI Q l (ds.getD 1 (.bool false)) 0, ⟨_, 0, [], a', n, rfl, rfl, by omega, rfl, .inl ⟨hne, fun d a' => hn [d] a' ⟨d, rfl⟩⟩⟩, ?_⟩
      intro d hd n d1 hd1 n1 n2 m hI
      exact qLst_1 s2 hl hb hB (by omega) hI)
noncomputable def con_qLst : ConP E0 := ⟨k_qLst, sg_qLst, qLst_s, rfl, bo_qLst, qLst_h⟩
end Go.Proofs.YtbpbdanggilnpaaDoor
end
