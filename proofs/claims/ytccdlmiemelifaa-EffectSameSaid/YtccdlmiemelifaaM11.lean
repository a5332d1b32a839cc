import Derived.Test.YtccdlmiemelifaaM10
import Derived.Deep.LoopGhost
import Derived.Deep.CutBlock
import Derived.WalkKit
import Derived.BigCall
import Derived.Test.YtccdlmiemelifaaM0
import Derived.WalkSpells
import Derived.Lib.SliceRun
import Derived.Lib.Zigzag
import Derived.OwnWalk

set_option linter.unusedVariables false
set_option linter.unusedSimpArgs false

section
namespace Go.Proofs.Ytccdlmiemelifaa
open Go.RowKit
set_option linter.unusedVariables false
set_option linter.unusedSimpArgs false

def k_eClone : Nat := 21
def sg_eClone : Sig := ⟨[(false, [.list 24])], [(false, [.rows 24])], true, false, false, false, false⟩
def tr_eClone : Tree := (.ite (.isnil (.var 0))
 (.ret [.emp])
 (.ob (.cmp .le (.len (.app .emp (.var 0))) (.int .i64 2513169434916))
 (.ret [(.app .emp (.var 0))])))
theorem wk_eClone : walk E0.cx (sgsN []) 0 21 sg_eClone = tr_eClone := by kernel_rfl
theorem bo_eClone : ∃ x, bodyOf E0.P 21 = some x := bo_of (by kernel_rfl)
def eClone_s : Spec := fun ds Q => (argL ds 0).length ≤ 100000000 ∧ Q [.rows (argL ds 0)]
theorem eClone_h : Holds E0 k_eClone sg_eClone eClone_s := con_fnN wf0 mix0 g0 [] rfl wk_eClone rfl (by
  intro Φ hΦ ds Q hs hnil ⟨hn, h⟩
  have hl : ds.length = 1 := hs.length.symm
  simp only [tr_eClone, wp, den_int, den_bool, den_nili, den_ar, den_cmp, den_not, den_len, den_elem, den_isnil, den_errI, den_ifc, den_rep, den_push, den_app, den_emp, den_upd, row0_econs, row0_enil, den_and, den_beq, den_nil, toInt_int, toBool_bool, xs_rows, xs_list, dflt_int, dflt_bool, of_eq, of_ne, of_lt, of_le, of_gt, of_ge, of_add, of_sub, of_rem, List.map_cons, List.map_nil, Dat.bool.injEq, decide_eq_true_eq, decide_eq_false_iff_not, Bool.not_eq_true', Bool.not_eq_false', beq_iff_eq, bne_iff_ne, beq_eq_false_iff_ne, bne_eq_false_iff_eq, ne_eq, List.append_assoc, List.cons_append, List.nil_append, @den_var0 E0.Δ ds, den_varA, den_varB, hl, Nat.reduceLT, Nat.reduceLeDiff, Nat.reduceSub, List.getD_cons_zero, List.getD_cons_succ, argL_fold ds, argI_fold ds, List.append_assoc, List.cons_append, List.nil_append, toInt_int, toBool_bool, xs_rows, xs_list, Int.toNat_natCast, Dat.bool.injEq]
  refine ⟨fun h0 => ?_, fun _ => ⟨by omega, h⟩⟩
  have : argL ds 0 = [] := by
    rw [← argL_fold]
    exact hnil _ (getD_memL (by omega)) h0
  rw [this] at h; exact h)
noncomputable def con_eClone : Con E0 := ⟨k_eClone, sg_eClone, eClone_s, rfl, bo_eClone, eClone_h⟩
theorem eff_row5 : (E0.Δ.row 24).length = 5 := by kernel_rfl
theorem clone_res : sg_eClone.res = [(false, [.rows 24])] := rfl
theorem globs_any (w : World) : E0.globs w := ⟨fun x hx => absurd hx (by simp [E0, gts]), fun x hx => absurd hx (by simp [E0])⟩
/-- a row's cells laid in an own slice -/
theorem ow_laid {P : Program} {B sz n g off c : Nat} (p : Nat) : ∀ (us : List Value) (i : Nat) (w : World) (xs : List Value), (∀ u ∈ us, u.oneCell' = true) → p + i + us.length ≤ n * sz → Ow w B sz (.slice (some ⟨g, off, none⟩) n c) n xs →
    ∃ w', (storeCells ⟨g, off + p, none⟩ us i).run P w = .ok () w' ∧ Ow w' B sz (.slice (some ⟨g, off, none⟩) n c) n (setMany xs (p + i) us) ∧ w.grownBy w' (some g)
  | [], i, w, xs, _, _, ho => ⟨w, rfl, by rw [setMany]; exact ho, grownBy_some (grownBy_below (Below.refl _ _))⟩
  | u :: us, i, w, xs, h1, hp, ho => by
    have hpos : p + i < n * sz := by simp only [List.length_cons] at hp; omega
    have hn0 : 0 < n := Nat.pos_of_ne_zero fun e => by subst e; simp at hpos
    obtain ⟨A2, c2', e2, hcc, hll, haa, hoo⟩ := id ho
    cases e2
    obtain ⟨g', o2', e3, hB, hg, hjj⟩ := hoo (by omega)
    cases e3
    obtain ⟨hc1, hc2⟩ := hjj _ (Nat.lt_of_lt_of_le hpos (Nat.mul_le_mul_right _ hcc))
    obtain ⟨u0, hu0⟩ := Option.isSome_iff_exists.1 hc1
    have hrun := run_store1 (P := P) (w := w) (h1 u (List.mem_cons_self ..)) hu0 hc2
    have hOw2 := ho.setp hpos u
    obtain ⟨w', q1, q2, q3⟩ := ow_laid p us (i + 1) _ _ (fun v hv => h1 v (List.mem_cons_of_mem _ hv)) (by simp only [List.length_cons] at hp; omega) hOw2
    refine ⟨w', ?_, by rw [setMany]; exact q2, grownBy_trans (grownBy_setCell w g _ _) q3 (fun j hj => .inr hj)⟩
    rw [storeCells]
    have ha : (⟨g, off + p, none⟩ : Addr).add i = ⟨g, off + (p + i), none⟩ := by rw [Addr.add_lit]; congr 1; omega
    rw [ha, Sem.run_bind, hrun]
    exact q1
section
variable {P : Program}
/-- a struct out of an own slice, loaded -/
theorem wpG_loadO {bo : Option Nat} {os : List Oper} {Q : Act → World → Prop} {i B sz n g off c p : Nat} {rest : List (Bool × Nat)} {a : Act} {w : World} {o : Oper} {xs : List Value} {cs : Array Value} {d : TypeDesc} (hO : Ow w B sz (.slice (some ⟨g, off, none⟩) n c) n xs) (ho : nth os i = some o) (hw : Region.wanted o (yielded os.toArray a.tmps) = true)
    (ty : TypeId) (x : Operand) (hop : o.op = .load ty x) (hx : a.eval x = .pointer (some ⟨g, off + p, none⟩)) (hn : 0 < n) (hc : ∀ j v, cs[j]? = some v → xs[p + j]? = some v) (hu : P.underlying ty = some d) (hd : d.isRow = true) (hi : (P.info? ty).map (·.size) = some cs.size)
    (h : wpG P os.toArray bo Q rest (a.put o.dst (.agg cs)) w) : wpG P os.toArray bo Q ((false, i) :: rest) a w := by
  refine wpG_event ho hw fun K hK => ?_
  have hrun := run_loadVar_rowC (P := P) w ⟨g, off + p, none⟩ ty cs d hu hd hi (fun j v hv => by
    obtain ⟨A, c', e, _, _, ha, _⟩ := id hO
    cases e
    obtain ⟨ad, e, _, hcell⟩ := ha hn
    cases e
    have := hcell (p + j) v (hc j v hv)
    rw [Addr.add_lit] at this ⊢
    rw [← this]; congr 2; omega)
  unfold Oper.wp execOp
  simp only [hop, hx, Instr.loadAt, Instr.sureAddr, Sem.run_bind, Sem.run_pure, Result.andThen_ok, hrun, Oper.upon]
  exact hK _ _ (LatG.self w) h
/-- a struct stored in an own slice -/
theorem wpG_storeO {os : List Oper} {Q : Act → World → Prop} {i B sz n g off c p : Nat} {rest : List (Bool × Nat)} {a : Act} {w : World} {o : Oper} {xs : List Value} {cs : Array Value} (hO : Ow w B sz (.slice (some ⟨g, off, none⟩) n c) n xs) (ho : nth os i = some o) (hw : Region.wanted o (yielded os.toArray a.tmps) = true)
    (hdst : o.dst = none) (ty : TypeId) (x y : Operand) (hop : o.op = .store ty x y) (hx : a.eval x = .pointer (some ⟨g, off + p, none⟩)) (hy : a.eval y = .agg cs) (hn : p + cs.size ≤ n * sz) (hs : (P.info? ty).map (·.size) = some cs.size) (h1 : ∀ u ∈ cs.toList, u.oneCell' = true)
    (h : ∀ w', Ow w' B sz (.slice (some ⟨g, off, none⟩) n c) n (setMany xs p cs.toList) → w.grownBy w' (some g) → wpG P os.toArray (some g) Q rest a w') : wpG P os.toArray (some g) Q ((false, i) :: rest) a w := by
  refine wpG_event ho hw fun K hK => ?_
  obtain ⟨w', q1, q2, q3⟩ := ow_laid (P := P) p cs.toList 0 w xs h1 (by simpa using hn) hO
  have hrun : (storeVar ty ⟨g, off + p, none⟩ (.agg cs)).run P w = .ok () w' := by
    simp only [Option.map_eq_some_iff] at hs
    obtain ⟨ii, hii, hsz⟩ := hs
    have hsz' : cs.size = ii.size := hsz.symm
    simp [storeVar, sizeOf, typeInfo, hii, hsz', Value.cells, q1]
  unfold Oper.wp execOp
  simp only [hop, hx, hy, Instr.storeAt, Instr.sureAddr, Sem.run_bind, Sem.run_pure, Result.andThen_ok, hrun, Oper.upon, hdst, Act.put]
  exact hK _ _ (LatG.of q3) (h w' q2 q3)
/-- a call -/
theorem wpG_call {bo : Option Nat} {os : List Oper} {Q : Act → World → Prop} {i F : Nat} {rest : List (Bool × Nat)} {a : Act} {w : World} {o : Oper} {vs : Array Value} {R : Value → World → Prop} (ho : nth os i = some o) (hw : Region.wanted o (yielded os.toArray a.tmps) = true)
    (hex : (execOp a.eval o).run P w = .ok (.enter F vs) w) (hc : Calls P F vs w fun e w' => ∃ u, e = .returned u ∧ R u w')
    (h : ∀ u w', R u w' → LatG bo w w' ∧ wpG P os.toArray bo Q rest (a.put o.dst u) w') : wpG P os.toArray bo Q ((false, i) :: rest) a w := by
  refine wpG_event ho hw fun K hK => ?_
  unfold Oper.wp
  rw [hex]
  exact hc.mono fun e w' ⟨u, he, hR⟩ => by subst he; exact hK _ _ (h u w' hR).1 (h u w' hR).2
end
/-- the effects' cells -/
def subV (r : List Dat) : Value := (r.getD 4 (.bool false)).toV
theorem eff_list {e : Dat} (h : Has E0.Δ (.list 24) e) : ∃ v sub, e = Dat.list v 5 sub := by
  have hrow : (E0.Δ.row 24).length = 5 := by kernel_rfl
  cases h with
  | list _ A n c xs hl h => exact ⟨_, xs, by rw [hrow]⟩
theorem eff_shape {r : List Dat} (h : All2 (Has E0.Δ) [.int .i64, .int .i64, .int .i64, .int .i64, .list 24] r) : ∃ a b c d v sub, r = [.int .i64 a, .int .i64 b, .int .i64 c, .int .i64 d, .list v 5 sub] ∧ Has E0.Δ (.list 24) (.list v 5 sub) ∧ effOf r = .mk a b c d (sub.map effOf) ∧ subV r = v := by
  match r, h with
  | _, .cons (.int _ a) (.cons (.int _ b) (.cons (.int _ c) (.cons (.int _ d) (.cons h4 .nil)))) =>
    obtain ⟨v, sub, rfl⟩ := eff_list h4
    exact ⟨a, b, c, d, v, sub, rfl, h4, by rw [effOf_eq]; rfl, rfl⟩
theorem eff_rows {v : Value} {rows : List (List Dat)} (h : Has E0.Δ (.list 24) (.list v 5 rows)) : ∀ r ∈ rows, All2 (Has E0.Δ) [.int .i64, .int .i64, .int .i64, .int .i64, .list 24] r := by
  have hrow : E0.Δ.row 24 = [.int .i64, .int .i64, .int .i64, .int .i64, .list 24] := by kernel_rfl
  generalize hd : Dat.list v 5 rows = d at h
  cases h with
  | list _ A n c xs hl hx =>
    cases hd
    intro r hr
    have h5 := hl r hr
    have hg := hx r hr
    rw [hrow] at h5 hg
    match r, h5 with
    | [a, b, c, d, e], _ => exact .cons (hg 0 _ _ rfl rfl) (.cons (hg 1 _ _ rfl rfl) (.cons (hg 2 _ _ rfl rfl) (.cons (hg 3 _ _ rfl rfl) (.cons (hg 4 _ _ rfl rfl) .nil))))
theorem flat_rowsE : ∀ {rows : List (List Dat)}, (∀ r ∈ rows, All2 (Has E0.Δ) [.int .i64, .int .i64, .int .i64, .int .i64, .list 24] r) → flatV rows = rowsE (rows.map effOf) (rows.map subV)
  | [], _ => rfl
  | r :: rows, h => by
    have ih := flat_rowsE (rows := rows) fun r hr => h r (List.mem_cons_of_mem _ hr)
    obtain ⟨a, b, c, d, v, sub, rfl, _, he, hv⟩ := eff_shape (h r (List.mem_cons_self ..))
    rw [List.map_cons, List.map_cons, rowsE, he, hv, ← ih]
    rfl
theorem below_st {w : World} {B : Nat} (b i : Nat) (v : Value) (hb : B ≤ b) : Below B w (w.setCell ⟨b, i, none⟩ v) := (Below.refl B w).setCell (p := ⟨b, i, none⟩) hb v
theorem row_grown {w w' : World} {b g : Nat} {cs : Array Value} {T : TypeId} (h : Row w b cs T) (hg : w.grownBy w' (some g)) (hne : b ≠ g) : Row w' b cs T := (hg.block b h.lt (by simpa using hne)).trans h
theorem below_grown {w w' w'' : World} {B g : Nat} (hb : Below B w w') (hg : w'.grownBy w'' (some g)) (hB : B ≤ w'.heap.size) (h : B ≤ g) : Below B w w'' :=
  hb.trans ⟨hg.os, hg.tape, hg.output, hg.size, fun k hk => hg.block k (by omega) (by intro e; cases e; omega)⟩
theorem eff_one (a b c d : Int) {u : Value} (h : u.oneCell' = true) : (#[Value.int .i64 a, .int .i64 b, .int .i64 c, .int .i64 d, u] : Array Value).all (·.oneCell') = true := by
  cases u <;> first | (cases h; done) | simp [Value.oneCell']
theorem eff_isz (a b c d u : Value) : (Try.prog.info? 24).map (·.size) = some (#[a, b, c, d, u] : Array Value).size := by kernel_rfl
/-- what a round of the loop finds -/
def CpyI (w : World) (op n m who : Int) (rows : List (List Dat)) (B' : Nat) (A : Option Addr) (c : Nat) (i : Nat) (wr : World) : Prop :=
  ∃ us : List Value, us.length = rows.length ∧ Row wr w.heap.size #[.int .i64 op, .int .i64 n, .int .i64 m, .int .i64 who, .slice A rows.length c] 24 ∧ Row wr (w.heap.size + 1) #[.int .i64 0, .int .i64 0, .int .i64 0, .int .i64 0, .slice none 0 0] 24 ∧ Below w.heap.size w wr ∧ B' ≤ wr.heap.size ∧
    Ow wr (w.heap.size + 2) 5 (.slice A rows.length c) rows.length (rowsE (rows.map effOf) us) ∧ (∀ k, blkOf (.slice A rows.length c) = some k → k < B') ∧ (∀ j r, i ≤ j → rows[j]? = some r → us[j]? = some (subV r)) ∧ ∀ j r u, j < i → rows[j]? = some r → us[j]? = some u → TrE wr B' u (effOf r).subs
set_option maxRecDepth 1000000 in
set_option maxHeartbeats 4000000 in
theorem copy_w (N : Nat) : ∀ (op n m who : Int) (v : Value) (rows : List (List Dat)) (w : World), (1 + Eff.sizes (rows.map effOf)) < N → Eff.sizes (rows.map effOf) ≤ 1000 → OkD w (.list v 5 rows) → Has E0.Δ (.list 24) (.list v 5 rows) →
    Calls Try.prog 7 #[.agg #[.int .i64 op, .int .i64 n, .int .i64 m, .int .i64 who, v]] w fun e w' => ∃ u, e = .returned (.agg #[.int .i64 op, .int .i64 n, .int .i64 m, .int .i64 who, u]) ∧ Below w.heap.size w w' ∧ TrE w' w.heap.size u (rows.map effOf) := by
  induction N with
  | zero => intro _ _ _ _ _ _ _ h; omega
  | succ N ih =>
  intro op n m who v rows w hN hsz hok hhas
  have hrows := eff_rows hhas
  have hlen1 : rows.length ≤ 1000 := by
    have := Eff.length_le_sizes (rows.map effOf)
    rw [List.length_map] at this; omega
  have hcl : ∀ W, Below w.heap.size w W → w.heap.size ≤ W.heap.size → Calls Try.prog 21 #[v] W fun e w' => ∃ A c, e = .returned (.slice A rows.length c) ∧ Below W.heap.size W w' ∧ Ow w' W.heap.size 5 (.slice A rows.length c) rows.length (flatV rows) := by
    intro W hb _
    refine (eClone_h W [.list v 5 rows] (fun rs => rs = [.rows rows]) (.cons hhas .nil) (fun d hd => by rw [List.mem_singleton.1 hd]; exact hok.keeps (grown_of_below hb) fun _ _ e => by cases e) (fun d hd => by cases hd) (globs_any W) ⟨by show rows.length ≤ _; omega, rfl⟩).mono ?_
    rintro e w' ⟨rs, rfl, _, hb2, _, _, h⟩
    rw [if_pos (show sg_eClone.own = true from rfl)] at h
    obtain ⟨A, n, c, r, xs, h1, h2, h3, h4, h5, _⟩ := h
    cases h2
    rw [clone_res] at h1
    have hr : 24 = r := by injection h1 with h1 _; injection h1 with _ h1; injection h1 with h1 _; injection h1
    subst hr
    rw [eff_row5] at h4
    subst h5
    exact ⟨A, c, h3, hb2, h4⟩
  generalize hln : rows.length = ln at *
  go_enter Try.func7, Try.ntmps7
  have HB0 : Below w.heap.size w ((w.alloc (.cells #[.int .i64 op, .int .i64 n, .int .i64 m, .int .i64 who, v] 24)).alloc (.cells #[.int .i64 0, .int .i64 0, .int .i64 0, .int .i64 0, .slice none 0 0] 24)) := ((Below.refl w.heap.size w).alloc (Nat.le_refl _) _).alloc (by simp) _
  have HRW : ∀ W2, Below ((w.alloc (.cells #[.int .i64 op, .int .i64 n, .int .i64 m, .int .i64 who, v] 24)).alloc (.cells #[.int .i64 0, .int .i64 0, .int .i64 0, .int .i64 0, .slice none 0 0] 24)).heap.size ((w.alloc (.cells #[.int .i64 op, .int .i64 n, .int .i64 m, .int .i64 who, v] 24)).alloc (.cells #[.int .i64 0, .int .i64 0, .int .i64 0, .int .i64 0, .slice none 0 0] 24)) W2 → Row W2 w.heap.size #[.int .i64 op, .int .i64 n, .int .i64 m, .int .i64 who, v] 24 ∧ Row W2 (w.heap.size + 1) #[.int .i64 0, .int .i64 0, .int .i64 0, .int .i64 0, .slice none 0 0] 24 ∧ Below w.heap.size w W2 ∧ w.heap.size + 2 ≤ W2.heap.size := fun W2 hb => ⟨((Row.new w _ _).alloc _).below hb, by
    have := (Row.new (w.alloc (.cells #[.int .i64 op, .int .i64 n, .int .i64 m, .int .i64 who, v] 24)) #[.int .i64 0, .int .i64 0, .int .i64 0, .int .i64 0, .slice none 0 0] 24).below hb
    simpa using this, HB0.trans (hb.mono HB0.size), by have := hb.size; simpa using this⟩
  have hszW : ((w.alloc (.cells #[.int .i64 op, .int .i64 n, .int .i64 m, .int .i64 who, v] 24)).alloc (.cells #[.int .i64 0, .int .i64 0, .int .i64 0, .int .i64 0, .slice none 0 0] 24)).heap.size = w.heap.size + 2 := by simp
  go_wp2_with (go_at_call 21; refine (hcl _ HB0 HB0.size).mono ?_; rintro e W2 ⟨A, c, rfl, hb2, hO⟩; rw [hszW] at hO; obtain ⟨HR, HR1, HB, HS⟩ := HRW W2 hb2; clear hb2 HRW HB0; have hc4 := HR.cell (i := 4) rfl; have hf4 := HR.free 4)
  have hfl := flat_rowsE hrows
  rw [hfl] at hO
  clear hc4 hf4 hcl hszW
  have HSW := HS
  go_loopg [3, 11] ln (fun g _ p11 wr => ∃ i : Nat, ln ≤ i + g ∧ i ≤ ln ∧ p11 = .int .i64 i ∧ CpyI w op n m who rows W2.heap.size A c i wr)
  case atStart =>
    refine ⟨0, by omega, by omega, rfl, rows.map subV, by simp, ?_, HR1.other (by omega) _ _, HB.trans (below_st _ _ _ (Nat.le_refl _)), by simp, ?_, by rw [hln]; exact fun k hk => (hO.blk_lt k hk).2, ?_, ?_⟩
    · rw [hln]; exact HR.set 4 _
    · rw [hln]; exact hO.grown (grownBy_setCell W2 _ _ _) (by
        cases hv : blkOf _ with
        | none => exact .inl rfl
        | some k => right; intro e; have := (hO.blk_lt k hv).1; cases e; omega)
    · intro j r _ hr; rw [List.getElem?_map, hr]; rfl
    · intro j r u hj; omega
  case round =>
    clear HR HR1 HB HS hO
    obtain ⟨i, hg, hi, rfl, us, hul, HR, HR1, HB, HS, HO, hBk, hold, hnew⟩ := hrel
    rw [hln] at HR HO hBk
    by_cases hlt : i < ln
    · have hlt' : (i : Int) < ln := by omega
      obtain ⟨A', c', e, _, _, _, hoo⟩ := id HO
      cases e
      obtain ⟨g, off, rfl, hgB, hgl, _⟩ := hoo (by omega)
      clear hoo
      have hc4 := HR.cell (i := 4) rfl
      have hlt0 : w.heap.size < wr.heap.size := HR.lt
      have hne0 : w.heap.size ≠ g := by omega
      go_upto_region 5 with fail
      have q4 : ∀ x : Gro (some g) wr.drew, (gro (some g) wr.drew x).cell? ⟨w.heap.size, 4, none⟩ = some (.slice (some ⟨g, off, none⟩) ln c) := fun x => (gro_cell1 (w := wr.drew) hlt0 hne0).trans hc4
      refine wp_region_G (bo := some g) [(true, 0), (true, 1), (true, 2), (true, 3), (true, 4), (true, 5), (true, 6), (false, 7), (false, 8), (true, 9), (false, 10)] (by kernel_rfl) (by kernel_rfl) (by kernel_rfl) (by kernel_rfl) ?_
      iterate 7 (refine wpG_quiet rfl ?_; go_big_quiet_step (fail); refine wpQuiet_nil ?_)
      have hil : i < rows.length := by omega
      obtain ⟨a, b, c0, d, v0, sub, hr, hsub, he, hv⟩ := eff_shape (hrows _ (List.getElem_mem hil))
      have hri : rows[i]? = some rows[i] := List.getElem?_eq_getElem hil
      have hui : us[i]? = some v0 := by rw [hold i _ (Nat.le_refl _) hri, hv]
      have hei : (rows.map effOf)[i]? = some (.mk a b c0 d (sub.map effOf)) := by rw [List.getElem?_map, hri]; show some (effOf _) = _; rw [he]
      have HOd := HO.below ((Below.refl wr.heap.size wr).drew)
      refine wpG_loadO (p := i * 5) (cs := #[.int .i64 a, .int .i64 b, .int .i64 c0, .int .i64 d, v0]) HOd rfl rfl 24 _ rfl rfl (by omega) (fun j u hj => ?_) Try.underlying24 rfl (by kernel_rfl) ?_
      · have hj5 : j < 5 := (Array.getElem?_eq_some_iff.1 hj).1
        rw [rowsE_get hei hui hj5, ← hj]
        exact (List.getElem?_toArray).symm
      refine wpG_event rfl rfl fun K hK => ?_
      go_step
      have hmem : effOf rows[i] ∈ rows.map effOf := List.mem_map_of_mem (List.getElem_mem hil)
      have hsz2 := Eff.size_le_sizes hmem
      rw [he, Eff.size_eq] at hsz2
      replace hsz2 : 1 + Eff.sizes (sub.map effOf) ≤ Eff.sizes (rows.map effOf) := hsz2
      have hok2 : OkD wr.drew (.list v0 5 sub) := by
        cases hok with
        | list _ _ _ _ hx =>
          have := hx _ (List.getElem_mem hil) (.list v0 5 sub) (by rw [hr]; simp)
          exact this.keeps (grown_of_below HB.drew) fun _ _ e => by cases e
      refine (ih a b c0 d v0 sub wr.drew (by omega) (by omega) hok2 hsub).mono ?_
      rintro e W3 ⟨u, rfl, hb3, htr⟩
      refine hK _ _ (LatG.below hb3) ?_
      clear hK K
      have HO3 := HOd.below hb3
      have hgB' : g < W2.heap.size := hBk g (by simp only [blkOf]; rw [if_pos (by omega)])
      have hs3 := hb3.size
      have hnewW : ∀ j r' u', j < i → rows[j]? = some r' → us[j]? = some u' → TrE W3 W2.heap.size u' (effOf r').subs := fun j r' u' hj h1 h2 => ((hnew j r' u' hj h1 h2).kept ((Below.refl wr.heap.size wr).drew)).kept hb3
      have htrW : TrE W3 W2.heap.size u (sub.map effOf) := htr.weak HS
      have hval : setMany (rowsE (rows.map effOf) us) (i * 5) [.int .i64 a, .int .i64 b, .int .i64 c0, .int .i64 d, u] = rowsE (rows.map effOf) (us.set i u) := by
        have h1 := rowsE_set (es := rows.map effOf) (us := us) (i := i) (.mk a b c0 d (sub.map effOf)) u (by rw [hul, List.length_map]) (by rw [List.length_map]; exact hil)
        have h2 : (rows.map effOf).set i (.mk a b c0 d (sub.map effOf)) = rows.map effOf := by
          refine List.ext_getElem? fun k => ?_
          rw [List.getElem?_set]
          split
          · rename_i e; subst e; rw [if_pos (by rw [List.length_map]; exact hil), hei]
          · rfl
        rw [h2] at h1
        exact h1.symm
      have hl5 : ((rows.map effOf)[i]? = some (.mk a b c0 d (sub.map effOf))) := hei
      have hu1 : u.oneCell' = true := by
        cases htr with
        | mk _ ho _ _ _ => obtain ⟨_, _, rfl, _⟩ := ho; rfl
      refine wpG_quiet rfl ?_
      go_big_quiet_step (fail)
      refine wpQuiet_nil ?_
      refine wpG_storeO (p := i * 5) (cs := #[.int .i64 a, .int .i64 b, .int .i64 c0, .int .i64 d, u]) HO3 rfl rfl rfl 24 _ _ rfl rfl rfl ?_ (by kernel_rfl) ?_ ?_
      · show i * 5 + 5 ≤ ln * 5; omega
      · intro x hx
        simp only [List.mem_cons, List.not_mem_nil, or_false] at hx
        rcases hx with rfl | rfl | rfl | rfl | rfl
        · rfl
        · rfl
        · rfl
        · rfl
        · exact hu1
      intro wn hOn hgr
      rw [hval] at hOn
      refine wpG_nil ?_
      have HRn := row_grown (((HR.drew).below hb3)) hgr (by omega)
      have HR1n := row_grown (((HR1.drew).below hb3)) hgr (by omega)
      have HBn : Below w.heap.size w wn := below_grown (HB.drew.trans (hb3.mono (by have := HB.size; exact this))) hgr (by have h1 := HB.size; have h2 : wr.heap.size ≤ W3.heap.size := hs3; omega) (by omega)
      have hsn := hgr.size
      have hnewN : ∀ j r' u', j < i + 1 → rows[j]? = some r' → (us.set i u)[j]? = some u' → TrE wn W2.heap.size u' (effOf r').subs := by
        intro j r' u' hj h1 h2
        rw [List.getElem?_set] at h2
        by_cases hji : i = j
        · subst hji
          rw [if_pos rfl, if_pos (by omega)] at h2
          cases h2
          rw [hri] at h1; cases h1
          rw [he]
          exact htrW.grown hgr fun k hk => by cases hk; exact hgB'
        · rw [if_neg hji] at h2
          exact (hnewW j r' u' (by omega) h1 h2).grown hgr fun k hk => by cases hk; exact hgB'
      have holdN : ∀ j r', i + 1 ≤ j → rows[j]? = some r' → (us.set i u)[j]? = some (subV r') := by
        intro j r' hj h1
        rw [List.getElem?_set, if_neg (by omega)]
        exact hold j r' (by omega) h1
      have hlenN : (us.set i u).length = rows.length := by rw [List.length_set]; exact hul
      have hSn : W2.heap.size ≤ wn.heap.size := by have : wr.heap.size ≤ W3.heap.size := hs3; omega
      rw [← hln] at HRn hOn hBk
      have HF : CpyI w op n m who rows W2.heap.size (some ⟨g, off, none⟩) c (i + 1) wn := ⟨us.set i u, hlenN, HRn, HR1n, HBn, hSn, hOn, hBk, holdN, hnewN⟩
      clear HRn HR1n HBn hSn hOn hBk holdN hnewN hlenN hsn hgr hu1 hl5 hval htrW hnewW hs3 HO3 htr hb3 hok2 hsz2 hmem HOd hei hui hri hv he hsub hr q4 HR HR1 HB HS HO hold hnew hc4
      have hi2 : (i : Int) + 1 ≤ 1000 := by omega
      have hi0 : (0 : Int) ≤ i := by omega
      go_wp2
      go_roundg (gk - 1)
      case rel => exact ⟨i + 1, by omega, by omega, by simp, HF⟩
      case measure => omega
    · obtain rfl : i = ln := by omega
      have hcond : ¬ (i : Int) < i := by omega
      have hfin : TrE wr (w.heap.size + 2) (.slice A i c) (rows.map effOf) := by
        have hl2 : us.length = (rows.map effOf).length := by rw [List.length_map, hul]
        refine .mk hl2 ?_ hBk ?_ ?_
        · rw [List.length_map, hln]; exact HO
        · exact HSW
        · intro j e u he hu
          rw [List.getElem?_map, Option.map_eq_some_iff] at he
          obtain ⟨r, hr, rfl⟩ := he
          exact hnew j r u (by have := (List.getElem?_eq_some_iff.1 hr).1; omega) hr hu
      clear hnew hold HO hBk hul hrows hfl hhas hok
      go_wp2_with (first
        | (refine wpList_load_Row HR rfl _ _ rfl rfl _ Try.underlying24 rfl (eff_isz _ _ _ _ _) ?_)
        | (refine wpList_store_Row HR1 rfl rfl _ _ _ rfl rfl rfl (eff_isz _ _ _ _ _) rfl (eff_one _ _ _ _ rfl) ?_))
      refine bodyPost_ret (results_Row (HR1.setRow _) rfl _ _ rfl Try.underlying24 rfl (eff_isz _ _ _ _ _)) rfl ?_
      exact ⟨_, rfl, below_setRow HB (by omega) _, (hfin.grown (grownBy_setRow wr (w.heap.size + 1) _) fun k hk => by cases hk; omega).weak (by omega)⟩
end Go.Proofs.Ytccdlmiemelifaa
end

section
namespace Go.Proofs.Ytccdlmiemelifaa
open Go.RowKit
set_option linter.unusedVariables false
set_option linter.unusedSimpArgs false

/-- slice v holds effects in blocks from B up to E, at most d deep -/
def TrS (w : World) (B E : Nat) : Nat → Value → Prop
  | 0, _ => False
  | d + 1, v => ∃ n xs, Ow w B 5 v n xs ∧ n ≤ 1000 ∧ (∀ k, blkOf v = some k → k < E) ∧
      ∀ i, i < n → (∀ j, j < 4 → ∃ a : Int, xs[i * 5 + j]? = some (.int .i64 a)) ∧ ∃ u, xs[i * 5 + 4]? = some u ∧ TrS w B E d u
theorem TrS.slice {w : World} {B E d : Nat} {v : Value} (h : TrS w B E d v) : ∃ A n c, v = .slice A n c := by
  cases d with
  | zero => exact h.elim
  | succ d => obtain ⟨n, xs, ⟨A, c, rfl, _⟩, _⟩ := h; exact ⟨_, _, _, rfl⟩
/-- what such a write leaves -/
structure SpW (B E : Nat) (w w' : World) : Prop where
  os : w'.os = w.os
  tape : w'.tape = w.tape
  output : w'.output = w.output
  size : w.heap.size ≤ w'.heap.size
  block : ∀ k, k < w.heap.size → (k < B ∨ E ≤ k) → w'.heap[k]? = w.heap[k]?
  tree : ∀ d v, TrS w B E d v → TrS w' B E d v
theorem SpW.refl (B E : Nat) (w : World) : SpW B E w w := ⟨rfl, rfl, rfl, Nat.le_refl _, fun _ _ _ => rfl, fun _ _ h => h⟩
theorem SpW.trans {B E : Nat} {a b c : World} (h : SpW B E a b) (k : SpW B E b c) : SpW B E a c :=
  ⟨k.os.trans h.os, k.tape.trans h.tape, k.output.trans h.output, Nat.le_trans h.size k.size, fun i hi hb => (k.block i (Nat.lt_of_lt_of_le hi h.size) hb).trans (h.block i hi hb), fun d v ht => k.tree d v (h.tree d v ht)⟩
theorem TrS.grown {w w' : World} {B E : Nat} (hb : w.grownBy w' none) : ∀ {d : Nat} {v : Value}, TrS w B E d v → TrS w' B E d v
  | 0, _, h => h.elim
  | d + 1, v, ⟨n, xs, ho, hn, hE, hx⟩ => ⟨n, xs, ho.grown hb (by cases hv : blkOf v with
      | none => exact .inl rfl
      | some k => right; intro e; cases e), hn, hE, fun i hi => ⟨(hx i hi).1, by obtain ⟨u, h1, h2⟩ := (hx i hi).2; exact ⟨u, h1, h2.grown hb⟩⟩⟩
theorem SpW.below {B E : Nat} {w w' : World} (h : Below w.heap.size w w') : SpW B E w w' := ⟨h.os, h.tape, h.output, h.size, fun k hk _ => h.block k hk, fun _ _ ht => ht.grown (grown_of_below h)⟩
/-- a box that is not of the tree -/
theorem TrS.other {w w' : World} {B E g : Nat} (hb : w.grownBy w' (some g)) (hg : g < B ∨ E ≤ g) : ∀ {d : Nat} {v : Value}, TrS w B E d v → TrS w' B E d v
  | 0, _, h => h.elim
  | d + 1, v, ⟨n, xs, ho, hn, hE, hx⟩ => ⟨n, xs, ho.grown hb (by cases hv : blkOf v with
      | none => exact .inl rfl
      | some k =>
        right; intro e; cases e
        have := (ho.blk_lt g hv).1
        have := hE g hv
        omega), hn, hE, fun i hi => ⟨(hx i hi).1, by obtain ⟨u, h1, h2⟩ := (hx i hi).2; exact ⟨u, h1, h2.other hb hg⟩⟩⟩
/-- a cell written anew -/
theorem Ow.poke {w : World} {B sz n : Nat} {v : Value} {xs : List Value} (h : Ow w B sz v n xs) {p : Addr} {u0 : Value} (hp : w.cell? p = some u0) (x : Value) :
    ∃ xs', Ow (w.setCell p x) B sz v n xs' ∧ xs'.length = xs.length ∧ ∀ j : Nat, xs'[j]? = xs[j]? ∨ xs[j]? = some u0 ∧ xs'[j]? = some x := by
  have hlen := h.len
  obtain ⟨A, c, rfl, hc, hl, ha, ho⟩ := id h
  by_cases hq : ∃ q, q < n * sz ∧ ∃ g off, A = some ⟨g, off, none⟩ ∧ p = ⟨g, off + q, none⟩
  · obtain ⟨q, hq, g, off, rfl, rfl⟩ := hq
    refine ⟨xs.set q x, h.setp hq x, List.length_set .., fun (j : Nat) => ?_⟩
    rw [List.getElem?_set]
    by_cases e : q = j
    · subst e
      right
      have hn0 : 0 < n := Nat.pos_of_ne_zero fun e => by subst e; simp at hq
      obtain ⟨ad, e, _, hcell⟩ := ha hn0
      cases e
      have hxs : xs[q]? = some (xs[q]'(by omega)) := List.getElem?_eq_getElem (by omega)
      have := hcell q _ hxs
      rw [Addr.add_lit, hp] at this
      rw [if_pos rfl, if_pos (by omega), hxs, this]
      exact ⟨rfl, rfl⟩
    · rw [if_neg e]; exact .inl rfl
  · refine ⟨xs, ?_, rfl, fun _ => .inl rfl⟩
    refine ⟨A, c, rfl, hc, hl, fun hn => ?_, fun hn => ?_⟩
    · obtain ⟨ad, rfl, hb, hcell⟩ := ha hn
      obtain ⟨g, off, e, _⟩ := ho (by omega)
      cases e
      refine ⟨_, rfl, by simpa using hb, fun j u hj => ?_⟩
      rw [World.cell?_setCell_other (h := ?_)]
      · exact hcell j u hj
      · intro e
        rw [Addr.add_lit] at e
        exact hq ⟨j, by rw [← hl]; exact (List.getElem?_eq_some_iff.1 hj).1, g, off, rfl, e⟩
    · obtain ⟨g, off, rfl, hB, hg, hj⟩ := ho hn
      refine ⟨g, off, rfl, hB, by simpa using hg, fun j hjc => ⟨?_, by rw [World.frozen?_setCell]; exact (hj j hjc).2⟩⟩
      by_cases e : p = ⟨g, off + j, none⟩
      · subst e
        rw [World.cell?_setCell_same (h := hp)]; rfl
      · rw [World.cell?_setCell_other (h := e)]; exact (hj j hjc).1
theorem TrS.poke {w : World} {B E : Nat} {p : Addr} {y z : Int} (hp : w.cell? p = some (.int .i64 y)) : ∀ {d : Nat} {v : Value}, TrS w B E d v → TrS (w.setCell p (.int .i64 z)) B E d v
  | 0, _, h => h.elim
  | d + 1, v, ⟨n, xs, ho, hn, hE, hx⟩ => by
    obtain ⟨xs', h1, h2, h3⟩ := ho.poke hp (.int .i64 z)
    refine ⟨n, xs', h1, hn, hE, fun i hi => ⟨fun j hj => ?_, ?_⟩⟩
    · obtain ⟨a, ha⟩ := (hx i hi).1 j hj
      rcases h3 (i * 5 + j) with e | ⟨_, e⟩
      · exact ⟨a, e.trans ha⟩
      · exact ⟨z, e⟩
    · obtain ⟨u, hu, ht⟩ := (hx i hi).2
      rcases h3 (i * 5 + 4) with e | ⟨e, _⟩
      · exact ⟨u, e.trans hu, ht.poke hp⟩
      · rw [hu] at e
        cases e
        obtain ⟨A, n', c, e⟩ := ht.slice
        cases e
theorem SpW.poke {w : World} {B E g o : Nat} {y z : Int} (hp : w.cell? ⟨g, o, none⟩ = some (.int .i64 y)) (hB : B ≤ g) (hE : g < E) : SpW B E w (w.setCell ⟨g, o, none⟩ (.int .i64 z)) :=
  ⟨rfl, rfl, rfl, by simp, fun k hk hb => heap_setCell_other w ⟨g, o, none⟩ k _ (by intro e; have e : k = g := e; omega), fun d v ht => ht.poke hp⟩
/-- what effect.Copy makes -/
theorem TrE.shape {w : World} {B0 E : Nat} : ∀ (d : Nat) {B : Nat} {v : Value} {es : List Eff}, TrE w B v es → B0 ≤ B → w.heap.size ≤ E → Eff.sizes es ≤ 1000 → Eff.sizes es < d → TrS w B0 E d v
  | 0, _, _, _, _, _, _, _, h => absurd h (Nat.not_lt_zero _)
  | d + 1, B, v, es, .mk (us := us) hl ho hb hBB hs, hB, hE, hz, hd => by
    have hlen : es.length ≤ 1000 := Nat.le_trans (Eff.length_le_sizes es) hz
    refine ⟨es.length, rowsE es us, ho.weak hB, hlen, fun k hk => Nat.lt_of_lt_of_le (ho.blk_lt k hk).2 hE, fun i hi => ?_⟩
    have he : es[i]? = some es[i] := List.getElem?_eq_getElem hi
    have hu : us[i]? = some (us[i]'(by omega)) := List.getElem?_eq_getElem (by omega)
    have hmem := Eff.size_le_sizes (List.getElem_mem hi)
    rw [Eff.size_eq] at hmem
    refine ⟨fun j hj => ?_, us[i]'(by omega), rowsE_get he hu (by omega), (hs i _ _ he hu).shape d (by omega) hE (by omega) (by omega)⟩
    rw [rowsE_get he hu (by omega)]
    match j, hj with
    | 0, _ => exact ⟨_, rfl⟩
    | 1, _ => exact ⟨_, rfl⟩
    | 2, _ => exact ⟨_, rfl⟩
    | 3, _ => exact ⟨_, rfl⟩
set_option maxRecDepth 1000000 in
set_option maxHeartbeats 4000000 in
theorem spoil_w (B E : Nat) (d : Nat) : ∀ (op n m who : Int) (v : Value) (w : World), E ≤ w.heap.size → TrS w B E d v →
    Calls Try.prog 11 #[.agg #[.int .i64 op, .int .i64 n, .int .i64 m, .int .i64 who, v]] w fun e w' => e = .returned (.tuple #[]) ∧ SpW B E w w' := by
  induction d with
  | zero => intro _ _ _ _ _ _ _ h; exact h.elim
  | succ d ih =>
  intro op n m who v w hE hT
  obtain ⟨A, ln, c, rfl⟩ := hT.slice
  have hln : ln ≤ 1000 := by
    obtain ⟨n', xs, ⟨A', c', e, _⟩, hn, _⟩ := id hT
    cases e; exact hn
  have HR0 := Row.new w #[.int .i64 op, .int .i64 n, .int .i64 m, .int .i64 who, .slice A ln c] 24
  have HS0 : SpW B E w (w.alloc (.cells #[.int .i64 op, .int .i64 n, .int .i64 m, .int .i64 who, .slice A ln c] 24)) := .below ((Below.refl _ _).alloc (Nat.le_refl _) _)
  have HT0 := HS0.tree _ _ hT
  go_enter Try.func11, Try.ntmps11
  have hc40 := HR0.cell (i := 4) rfl
  go_wp2
  go_loopg [2, 6] ln (fun g _ p6 wr => ∃ i : Nat, ln ≤ i + g ∧ i ≤ ln ∧ p6 = .int .i64 i ∧ Row wr w.heap.size #[.int .i64 op, .int .i64 n, .int .i64 m, .int .i64 who, .slice A ln c] 24 ∧ SpW B E w wr)
  case atStart => exact ⟨0, by omega, by omega, rfl, HR0, HS0⟩
  case round =>
    obtain ⟨i, hg, hi, rfl, HR, HS⟩ := hrel
    clear HR0 HS0 HT0
    by_cases hlt : i < ln
    · have hlt' : (i : Int) < ln := by omega
      have HT := HS.tree _ _ hT
      obtain ⟨n', xs, hO, _, hEk, hx⟩ := id HT
      obtain ⟨A', c', e, _, _, ha, hoo⟩ := id hO
      cases e
      obtain ⟨g, off, rfl, hgB, hgl, hjj⟩ := hoo (by omega)
      have hgE := hEk g (by simp only [blkOf]; rw [if_pos (by omega)])
      obtain ⟨ad, e, _, hcell⟩ := ha (by omega)
      cases e
      obtain ⟨a0, h0⟩ := (hx i hlt).1 0 (by omega)
      obtain ⟨a1, h1⟩ := (hx i hlt).1 1 (by omega)
      obtain ⟨a2, h2⟩ := (hx i hlt).1 2 (by omega)
      obtain ⟨a3, h3⟩ := (hx i hlt).1 3 (by omega)
      obtain ⟨u, h4, htu⟩ := (hx i hlt).2
      have hcs : ∀ j v, (#[.int .i64 a0, .int .i64 a1, .int .i64 a2, .int .i64 a3, u] : Array Value)[j]? = some v → wr.cell? ((⟨g, off + i * 5, none⟩ : Addr).add j) = some v := by
        intro j v hj
        have hj5 : j < 5 := (Array.getElem?_eq_some_iff.1 hj).1
        have key : xs[i * 5 + j]? = some v := by
          rw [← hj]
          match j, hj5 with
          | 0, _ => exact h0
          | 1, _ => exact h1
          | 2, _ => exact h2
          | 3, _ => exact h3
          | 4, _ => exact h4
        have := hcell _ _ key
        rw [Addr.add_lit] at this ⊢
        rw [← this]; congr 2; omega
      have hEr : E ≤ wr.heap.size := Nat.le_trans hE HS.size
      have hc4 := HR.cell (i := 4) rfl
      have hlt0 : w.heap.size < wr.heap.size := HR.lt
      clear hx hcell h0 h1 h2 h3 h4 hjj hO ha hEk hc40
      have hnext : ∀ w3, SpW B E wr w3 → Row w3 w.heap.size #[.int .i64 op, .int .i64 n, .int .i64 m, .int .i64 who, .slice (some ⟨g, off, none⟩) ln c] 24 ∧ ∃ b : Int, w3.cell? ⟨g, off + i * 5 + 1, none⟩ = some (.int .i64 b) ∧ w3.frozen? ⟨g, off + i * 5 + 1, none⟩ = false := by
        intro w3 h
        refine ⟨(h.block _ hlt0 (.inr hE)).trans HR, ?_⟩
        obtain ⟨n', xs, hO, _, hEk, hx⟩ := h.tree _ _ HT
        obtain ⟨A', c', e, hnc, _, ha, hoo⟩ := id hO
        cases e
        obtain ⟨g', off', e, hgB, hgl, hjj⟩ := hoo (by omega)
        cases e
        obtain ⟨ad, e, _, hcell⟩ := ha (by omega)
        cases e
        obtain ⟨a1, h1⟩ := (hx i hlt).1 1 (by omega)
        have := hcell _ _ h1
        rw [Addr.add_lit, ← Nat.add_assoc] at this
        exact ⟨a1, this, by have := (hjj (i * 5 + 1) (by have := Nat.mul_le_mul_right 5 hnc; omega)).2; rwa [← Nat.add_assoc] at this⟩
      go_upto_region 5 with (first
        | (refine wpList_load_cells rfl _ _ rfl ⟨g, off + i * 5, none⟩ rfl #[.int .i64 a0, .int .i64 a1, .int .i64 a2, .int .i64 a3, u] _ Try.underlying24 rfl (eff_isz _ _ _ _ _) hcs ?_)
        | (go_at_call 11; refine (ih a0 a1 a2 a3 u wr hEr htu).mono ?_; rintro e w3 ⟨rfl, hSp⟩))
      obtain ⟨HR3, b, hcb, hfb⟩ := hnext w3 hSp
      have hc43 := HR3.cell (i := 4) rfl
      have HP := SpW.poke (B := B) (E := E) (z := Go.RowKit.wrap64 (b + 1)) hcb hgB hgE
      have HRp := HR3.other (b' := g) (by omega) (off + i * 5 + 1) (.int .i64 (Go.RowKit.wrap64 (b + 1)))
      have HF := Lib.hid (And.intro HRp ((HS.trans hSp).trans HP))
      clear HP HRp hnext hSp htu HT hcs hgB hgl hgE hEr HS HR hT hc4
      have hi2 : (i : Int) + 1 ≤ 1000 := by omega
      have hi0 : (0 : Int) ≤ i := by omega
      go_wp2
      go_roundg (gk - 1)
      case rel => exact ⟨i + 1, by omega, by omega, by simp, HF.out.1, HF.out.2⟩
      case measure => omega
    · obtain rfl : i = ln := by omega
      have hcond : ¬ (i : Int) < i := by omega
      go_wp2
      exact ⟨rfl, .tuple #[], by simp [results, Try.func11], rfl, HS⟩
end Go.Proofs.Ytccdlmiemelifaa
end

section
namespace Go.Proofs.Ytccdlmiemelifaa
open Go.RowKit
set_option linter.unusedVariables false
set_option linter.unusedSimpArgs false
def k_Is : Nat := 19
def sg_Is : Sig := ⟨[(false, [.err]), (false, [.int .i64])], [(false, [.bool])], false, false, false, false, false⟩
def tr_Is : Tree := (.call k_Num [(.var 0)] [(.int .i64)]
(.ret [(.cmp .eq (.var 2) (.var 1))]))
theorem wk_Is : walk E0.cx (sgsN [(29, sg_Num)]) 0 19 sg_Is = tr_Is := by kernel_rfl
theorem bo_Is : ∃ x, bodyOf E0.P 19 = some x := bo_of (by kernel_rfl)
theorem sp_Is_Num : specC [con_Num] k_Num = Num_s := rfl
def Is_s : Spec := fun ds Q => ∃ n m : Int, ds = [errV n, .int .i64 m] ∧ Q [.bool (n == m)]
theorem Is_h : Holds E0 k_Is sg_Is Is_s := con_by wf0 mix0 g0 [con_Num] rfl wk_Is rfl (by
  intro ds Q hs ⟨n, m, e, h⟩
  subst e
  simp only [tr_Is, wp, den_int, den_bool, den_nili, den_ar, den_cmp, den_not, den_len, den_elem, den_isnil, den_errI, den_ifc, den_rep, den_push, den_app, den_emp, den_upd, row0_econs, row0_enil, den_and, den_beq, den_nil, toInt_int, toBool_bool, xs_rows, xs_list, dflt_int, dflt_bool, of_eq, of_ne, of_lt, of_le, of_gt, of_ge, of_add, of_sub, of_rem, List.map_cons, List.map_nil, Dat.bool.injEq, decide_eq_true_eq, decide_eq_false_iff_not, Bool.not_eq_true', Bool.not_eq_false', beq_iff_eq, bne_iff_ne, beq_eq_false_iff_ne, bne_eq_false_iff_eq, ne_eq, List.append_assoc, List.cons_append, List.nil_append, allS, sp_Is_Num, Num_s, den_var0, List.getD_cons_zero]
  exact ⟨n, rfl, h⟩)
noncomputable def con_Is : Con E0 := ⟨k_Is, sg_Is, Is_s, rfl, bo_Is, Is_h⟩
end Go.Proofs.Ytccdlmiemelifaa
end

section
namespace Go.Proofs.Ytccdlmiemelifaa
open Go.RowKit
set_option linter.unusedVariables false
set_option linter.unusedSimpArgs false

-- lacks mulligan/mulliganref06.ranges : rranges
def rranges_s : Spec := fun ds Q => ∀ b : Bool, (b = true ↔ rngP (argI ds 0) (argI ds 1) (argI ds 2) (argI ds 3)) → Q [.bool b]
def rfits_s : Spec := fun ds Q => ∀ b : Bool, (b = true ↔ fitP (argI ds 0) (argI ds 3) (argI ds 5)) → Q [.bool b]
def rcheck_s : Spec := fun ds Q => 0 ≤ argI ds 5 ∧ argI ds 5 ≤ 5 ∧ 1 ≤ argI ds 6 ∧ argI ds 6 ≤ 9 ∧ (argE ds).size ≤ 1000 ∧ Q [.int .i64 ((argE ds).chk (argI ds 5) (argI ds 6))]
def k_eCheck : Nat := 18
def sg_eCheck : Sig := ⟨[(true, List.replicate 4 (.int .i64) ++ [.list 24]), (false, [.int .i64])], [(false, [.err])], false, false, false, false, false⟩
def tr_eCheck : Tree := (.ite (.cmp .lt (.var 5) (.int .i64 0))
 (.ret [(.ifc (.int .i64 6))])
 (.ite (.cmp .ge (.var 5) (.int .i64 6))
  (.ret [(.ifc (.int .i64 6))])
  (.call k_echeck [(.var 0), (.var 1), (.var 2), (.var 3), (.var 4), (.var 5), (.int .i64 1)] [.err]
  (.ret [(.var 6)]))))
theorem wk_eCheck : walk E0.cx (sgsN [(28, sg_echeck)]) 0 18 sg_eCheck = tr_eCheck := by kernel_rfl
theorem bo_eCheck : ∃ x, bodyOf E0.P 18 = some x := bo_of (by kernel_rfl)
theorem sp_eCheck_echeck : specC [con_echeck] k_echeck = echeck_s := rfl
def eCheck_s : Spec := fun ds Q => Q [errV (if argI ds 5 < 0 ∨ 5 < argI ds 5 then 6 else (argE ds).chk (argI ds 5) 1)]
theorem eCheck_h : Holds E0 k_eCheck sg_eCheck eCheck_s := con_fn wf0 mix0 g0 [con_echeck] rfl wk_eCheck rfl (by
  intro Φ hΦ ds Q hs h
  have hl : ds.length = 6 := hs.length.symm
  have sp : Φ k_echeck = echeck_s := by rw [hΦ]; rfl
  clear hΦ
  have hv5 : ds.getD 5 (.bool false) = .int .i64 (argI ds 5) := argV (all2_get hs (i := 5) rfl)
  unfold eCheck_s at h
  simp only [tr_eCheck, wp, den_int, den_bool, den_nili, den_ar, den_cmp, den_not, den_len, den_elem, den_isnil, den_errI, den_ifc, den_rep, den_push, den_app, den_emp, den_upd, row0_econs, row0_enil, den_and, den_beq, den_nil, toInt_int, toBool_bool, xs_rows, xs_list, dflt_int, dflt_bool, of_eq, of_ne, of_lt, of_le, of_gt, of_ge, of_add, of_sub, of_rem, List.map_cons, List.map_nil, Dat.bool.injEq, decide_eq_true_eq, decide_eq_false_iff_not, Bool.not_eq_true', Bool.not_eq_false', beq_iff_eq, bne_iff_ne, beq_eq_false_iff_ne, bne_eq_false_iff_eq, ne_eq, List.append_assoc, List.cons_append, List.nil_append, allS, sp, echeck_s, @den_var0 E0.Δ ds, den_varA, den_varB, hl, Nat.reduceLT, Nat.reduceLeDiff, Nat.reduceSub, List.getD_cons_zero, List.getD_cons_succ, argL_fold ds, argI_fold ds, List.append_assoc, List.cons_append, List.nil_append, toInt_int, toBool_bool, xs_rows, xs_list, Int.toNat_natCast, Dat.bool.injEq, argI_c0, argI_c1]
  refine ⟨fun h1 => ?_, fun h1 => ⟨fun h2 => ?_, fun h2 => ?_⟩⟩
  · rw [if_pos (by omega)] at h; exact h
  · rw [if_pos (by omega)] at h; exact h
  · rw [if_neg (by omega)] at h
    refine ⟨by omega, by omega, by omega, by omega, ?_⟩
    have e : argE [ds.getD 0 (.bool false), ds.getD 1 (.bool false), ds.getD 2 (.bool false), ds.getD 3 (.bool false), ds.getD 4 (.bool false), ds.getD 5 (.bool false), .int .i64 1] = argE ds := by
      match ds, hl with
      | [_, _, _, _, _, _], _ => rfl
    rw [e]; exact h)
noncomputable def con_eCheck : Con E0 := ⟨k_eCheck, sg_eCheck, eCheck_s, rfl, bo_eCheck, eCheck_h⟩
-- lacks mulligan/mulliganref06.Check : rCheck6
def rCheck6_s : Spec := fun ds Q => (argE ds).size ≤ 1000 ∧ Q [.int .i64 (if argI ds 5 < 0 ∨ 5 < argI ds 5 then 6 else (argE ds).chk (argI ds 5) 1)]
end Go.Proofs.Ytccdlmiemelifaa
end

section
namespace Go.Proofs.Ytccdlmiemelifaa
open Go.RowKit
set_option linter.unusedVariables false
set_option linter.unusedSimpArgs false

-- lacks mulligan/effect.Size : eSize
def eSize_s : Spec := fun ds Q => (argE ds).size ≤ 1000 ∧ Q [.int .i64 (argE ds).size]
theorem ite_max (a b : Nat) : (if decide ((b : Int) < (a : Int)) = true then Dat.int .i64 (a : Int) else .int .i64 (b : Int)) = .int .i64 ((max b a : Nat) : Int) := by
  by_cases h : b < a
  · rw [if_pos (by simpa using h), Nat.max_eq_right (by omega)]
  · rw [if_neg (by simpa using h), Nat.max_eq_left (by omega)]
-- lacks mulligan/effect.Depth : eDepth
def eDepth_s : Spec := fun ds Q => (argE ds).size ≤ 1000 ∧ Q [.int .i64 (argE ds).depth]
theorem hass_take {o : Int} {l : List (List Dat)} {i : Nat} (h : i < l.length) : Eff.hass o ((l.take (i + 1)).map effOf) = (Eff.hass o ((l.take i).map effOf) || (effOf (l.getD i [])).has o) := by
  rw [take_succ_getD (d := ([] : List Dat)) h, List.map_append, Eff.hass_append]
  simp [Eff.hass]
theorem hass_true {o : Int} {l : List (List Dat)} {i : Nat} (h : i < l.length) (h2 : (effOf (l.getD i [])).has o = true) : Eff.hass o (l.map effOf) = true := by
  rw [← List.take_append_drop (i + 1) l, List.map_append, Eff.hass_append, hass_take h, h2]; simp
-- lacks mulligan/effect.Has : eHas
def eHas_s : Spec := fun ds Q => (argE ds).size ≤ 1000 ∧ Q [.bool ((argE ds).has (argI ds 5))]
def rHas_s : Spec := fun ds Q => (argE ds).size ≤ 1000 ∧ Q [.bool ((argE ds).has (argI ds 5))]
def rSize_s : Spec := fun ds Q => (argE ds).size ≤ 1000 ∧ Q [.int .i64 (argE ds).size, .int .i64 (argE ds).depth]
end Go.Proofs.Ytccdlmiemelifaa
end

section
namespace Go.Proofs.Ytccdlmiemelifaa
open Go.RowKit
set_option linter.unusedVariables false
set_option linter.unusedSimpArgs false

theorem argE_lit {op n m who : Int} {v : Value} {sz : Nat} {e : List Dat} : argE (.int .i64 op :: .int .i64 n :: .int .i64 m :: .int .i64 who :: .list v sz [] :: e) = .mk op n m who [] := by
  have h := argE_row (r := [.int .i64 op, .int .i64 n, .int .i64 m, .int .i64 who, .list v sz []]) (e := e) rfl
  refine h.trans ?_
  rw [effOf_eq]; rfl
def k_alive : Nat := 5
def sg_alive : Sig := ⟨[], [(false, [.bool])], false, false, false, false, false⟩
def tr_alive : Tree := (.call k_eCheck [(.int .i64 1), (.int .i64 3), (.int .i64 0), (.int .i64 2), (.nil 24), (.int .i64 3)] [.err]
(.ite (.isnil (.var 0))
 (.call k_eCheck [(.int .i64 1), (.int .i64 3), (.int .i64 0), (.int .i64 2), (.nil 24), (.int .i64 0)] [.err]
 (.call k_Is [(.var 1), (.int .i64 11)] [.bool]
 (.ret [(.var 2)])))
 (.ret [(.bool false)])))
theorem wk_alive : walk E0.cx (sgsN [(18, sg_eCheck), (19, sg_Is)]) 0 5 sg_alive = tr_alive := by kernel_rfl
theorem bo_alive : ∃ x, bodyOf E0.P 5 = some x := bo_of (by kernel_rfl)
theorem sp_alive_eCheck : specC [con_eCheck, con_Is] k_eCheck = eCheck_s := rfl
theorem sp_alive_Is : specC [con_eCheck, con_Is] k_Is = Is_s := rfl
def alive_s : Spec := fun ds Q => Q [.bool true]
theorem alive_h : Holds E0 k_alive sg_alive alive_s := con_fn wf0 mix0 g0 [con_eCheck, con_Is] rfl wk_alive rfl (by
  intro Φ hΦ ds Q hs h
  have sp : Φ k_eCheck = eCheck_s := by rw [hΦ]; rfl
  have sp2 : Φ k_Is = Is_s := by rw [hΦ]; rfl
  clear hΦ
  have e1 : Eff.chk 3 1 (.mk 1 3 0 2 []) = 0 := by decide +kernel
  have e2 : Eff.chk 0 1 (.mk 1 3 0 2 []) = 11 := by decide +kernel
  simp only [tr_alive, wp, allS, den_nil, sp, eCheck_s, List.map_cons, List.map_nil, den_int, argE_lit, argI_c0, argI_c1, toInt_int, Int.reduceLT, if_false, or_self, e1, e2, errV_0, den_isnil, den_bool]
  simp only [den, errV_0, isNilI, Dat.bool.injEq, Bool.true_eq_false, true_imp_iff, false_imp_iff, and_true, sp2, Is_s]
  obtain rfl := List.length_eq_zero_iff.1 (show ds.length = 0 from hs.length.symm)
  exact ⟨fun _ => ⟨11, 11, rfl, h⟩, fun hx => Bool.noConfusion hx⟩)
noncomputable def con_alive : Con E0 := ⟨k_alive, sg_alive, alive_s, rfl, bo_alive, alive_h⟩
-- lacks mulligan/mulliganlaw06.EffectChecks : lchecks6
end Go.Proofs.Ytccdlmiemelifaa
end

section
namespace Go.Proofs.Ytccdlmiemelifaa.mth

/-- what stands for a number -/
def zig (n : Int) : Nat := if 0 ≤ n then (2 * n).toNat else (-2 * n - 1).toNat

/-- a number's bytes: seven bits each, the lowest first; f: how many may follow -/
def encF : Nat → Nat → List Nat
  | 0, x => [x]
  | f + 1, x => if x < 128 then [x] else (x % 128 + 128) :: encF f (x / 128)
def enc (x : Nat) : List Nat := encF 9 x
def encI (n : Int) : List Nat := enc (zig n)

theorem encF_small (f x : Nat) (h : x < 128) : encF f x = [x] := by
  cases f with
  | zero => rfl
  | succ f => simp [encF, h]
theorem encF_step (f x : Nat) (h : ¬ x < 128) : encF (f + 1) x = (x % 128 + 128) :: encF f (x / 128) := by simp [encF, h]

theorem zig_lt (n : Int) (h1 : -9223372036854775808 ≤ n) (h2 : n ≤ 9223372036854775807) : zig n < 18446744073709551616 := by
  unfold zig; split <;> omega

theorem encF_len (f : Nat) : ∀ x, 1 ≤ (encF f x).length ∧ (encF f x).length ≤ f + 1 := by
  induction f with
  | zero => intro x; simp [encF]
  | succ f ih =>
    intro x
    by_cases h : x < 128
    · rw [encF_small _ _ h]; simp
    · rw [encF_step _ _ h, List.length_cons]; have := ih (x / 128); omega
theorem enc_len (x : Nat) : 1 ≤ (enc x).length ∧ (enc x).length ≤ 10 := encF_len 9 x

theorem encF_byte (f : Nat) : ∀ x, x < 128 ^ (f + 1) → ∀ b ∈ encF f x, b < 256 := by
  induction f with
  | zero => intro x hx b hb; simp [encF] at hb; subst hb; omega
  | succ f ih =>
    intro x hx b hb
    by_cases h : x < 128
    · rw [encF_small _ _ h] at hb; simp at hb; omega
    · rw [encF_step _ _ h] at hb
      rcases List.mem_cons.1 hb with e | e
      · omega
      · refine ih (x / 128) ?_ b e
        rw [Nat.pow_succ] at hx
        exact (Nat.div_lt_iff_lt_mul (by omega)).2 hx

/-- where the loop stands: k bytes are out, y is left -/
structure Going (X k y : Nat) (done : List Nat) : Prop where
  hk : k ≤ 9
  len : done.length = k
  lt : y < 128 ^ (10 - k)
  all : done ++ encF (9 - k) y = enc X
  le : y ≤ X

theorem going_start (X : Nat) (hX : X < 18446744073709551616) : Going X 0 X [] :=
  ⟨by omega, rfl, Nat.lt_of_lt_of_le hX (by decide), rfl, Nat.le_refl _⟩
theorem going_step {X k y : Nat} {done : List Nat} (h : Going X k y done) (hy : ¬ y < 128) : Going X (k + 1) (y / 128) (done ++ [y % 128 + 128]) := by
  obtain ⟨hk, hl, hlt, ha, hle⟩ := h
  have h9 : k < 9 := by
    apply Classical.byContradiction
    intro h
    have : k = 9 := by omega
    subst this
    omega
  refine ⟨by omega, by simp [hl], ?_, ?_, Nat.le_trans (Nat.div_le_self _ _) hle⟩
  · rw [show 10 - k = (10 - (k + 1)) + 1 from by omega, Nat.pow_succ] at hlt
    exact (Nat.div_lt_iff_lt_mul (by omega)).2 hlt
  · rw [show 9 - k = (9 - (k + 1)) + 1 from by omega, encF_step _ _ hy] at ha
    rw [← ha]; simp
theorem going_end {X k y : Nat} {done : List Nat} (h : Going X k y done) (hy : y < 128) : done ++ [y] = enc X ∧ k + 1 = (enc X).length := by
  have : done ++ [y] = enc X := by rw [← encF_small (9 - k) y hy]; exact h.all
  exact ⟨this, by rw [← this]; simp [h.len]⟩

/-- a list's bytes -/
def encAll : List Int → List Nat
  | [] => []
  | n :: l => encI n ++ encAll l
def encL (l : List Int) : List Nat := encI (l.length : Int) ++ encAll l
theorem encAll_append (a b : List Int) : encAll (a ++ b) = encAll a ++ encAll b := by
  induction a with
  | nil => rfl
  | cons n a ih => simp [encAll, ih]
theorem encAll_len (l : List Int) : (encAll l).length ≤ 10 * l.length := by
  induction l with
  | nil => simp [encAll]
  | cons n l ih => have := (enc_len (zig n)).2; simp only [encAll, encI, List.length_append, List.length_cons]; omega

theorem or128 (y : Nat) : (y % 256) ||| 128 = y % 128 + 128 := by
  have h : y % 256 < 256 := Nat.mod_lt _ (by omega)
  have e : y % 128 = y % 256 % 128 := by omega
  rw [e]
  generalize y % 256 = b at *
  have : ∀ b, b < 256 → b ||| 128 = b % 128 + 128 := by decide +kernel
  exact this b h

end Go.Proofs.Ytccdlmiemelifaa.mth
end

section
namespace Go.Proofs.Ytccdlmiemelifaa.mth

def zag (x : Nat) : Int := if x % 2 = 0 then ((x / 2 : Nat) : Int) else -((x / 2 : Nat) : Int) - 1
theorem zag_zig (n : Int) : zag (zig n) = n := by unfold zag zig; split <;> split <;> omega
theorem zig_zag (x : Nat) : zig (zag x) = x := by unfold zag zig; split <;> split <;> omega
theorem zag_range (x : Nat) (h : x < 18446744073709551616) : -9223372036854775808 ≤ zag x ∧ zag x ≤ 9223372036854775807 := by unfold zag; split <;> omega

/-- a number, how many bytes it has, an error's number -/
def tk (i x : Nat) : List Nat → Int × Nat × Int
  | [] => (0, 0, 7)
  | c :: t =>
    if 10 ≤ i then (0, 0, 7)
    else if i = 9 ∧ 1 < c then (0, 0, 2)
    else if 128 ≤ c then tk (i + 1) (x + 128 ^ i * (c % 128)) t
    else if c = 0 ∧ 0 < i then (0, 0, 2)
    else (zag (x + 128 ^ i * c), i + 1, 0)

theorem tk_ten (i x : Nat) (l : List Nat) (h : 10 ≤ i) : tk i x l = (0, 0, 7) := by cases l <;> simp [tk, h]
theorem tk_nine {i x c : Nat} {t : List Nat} (h : i = 9) (h' : 1 < c) : tk i x (c :: t) = (0, 0, 2) := by subst h; simp [tk, h']
theorem tk_more {i x c : Nat} {t : List Nat} (h0 : i < 10) (h : ¬ (i = 9 ∧ 1 < c)) (h' : 128 ≤ c) : tk i x (c :: t) = tk (i + 1) (x + 128 ^ i * (c % 128)) t := by
  rw [tk, if_neg (by omega), if_neg h, if_pos h']
theorem tk_zero {i x c : Nat} {t : List Nat} (h0 : i < 10) (h : c = 0) (h' : 0 < i) : tk i x (c :: t) = (0, 0, 2) := by
  rw [tk, if_neg (by omega), if_neg (by omega), if_neg (by omega), if_pos ⟨h, h'⟩]
theorem tk_end {i x c : Nat} {t : List Nat} (h0 : i < 10) (h : ¬ (i = 9 ∧ 1 < c)) (h' : ¬ 128 ≤ c) (h'' : ¬ (c = 0 ∧ 0 < i)) : tk i x (c :: t) = (zag (x + 128 ^ i * c), i + 1, 0) := by
  rw [tk, if_neg (by omega), if_neg h, if_neg h', if_neg h'']

theorem pow_step (i x d : Nat) (hx : x < 128 ^ i) (hd : d < 128) : x + 128 ^ i * d < 128 ^ (i + 1) := by
  rw [Nat.pow_succ]
  have h1 : 128 ^ i * d + 128 ^ i ≤ 128 ^ i * 128 := by rw [← Nat.mul_succ]; exact Nat.mul_le_mul_left _ (by omega)
  omega
theorem pow_le9 (i : Nat) (h : i ≤ 9) : 128 ^ i ≤ 9223372036854775808 := by
  have := Nat.pow_le_pow_right (n := 128) (by omega) h
  have e : 128 ^ 9 = 9223372036854775808 := by decide
  omega
theorem below64 (i x c : Nat) (h0 : i < 10) (hx : x < 128 ^ i) (h : ¬ (i = 9 ∧ 1 < c)) (h' : c < 128) : x + 128 ^ i * c < 18446744073709551616 := by
  by_cases h9 : i = 9
  · subst h9
    have e : 128 ^ 9 = 9223372036854775808 := by decide
    rw [e] at hx ⊢
    omega
  · have := pow_step i x c hx h'
    have := pow_le9 (i + 1) (by omega)
    omega

theorem tk_back (f : Nat) : ∀ (i x y : Nat) (rest : List Nat), i + f = 9 → x < 128 ^ i → 128 ^ i * y < 18446744073709551616 → (0 < i → 0 < y) → tk i x (encF f y ++ rest) = (zag (x + 128 ^ i * y), i + (encF f y).length, 0) := by
  induction f with
  | zero =>
    intro i x y rest hi hx hy h0
    obtain rfl : i = 9 := by omega
    have e : 128 ^ 9 = 9223372036854775808 := by decide
    rw [e] at hy
    have hy1 : y ≤ 1 := by omega
    simp only [encF, List.cons_append, List.nil_append]
    rw [tk_end (by omega) (by omega) (by omega) (by omega)]
    rfl
  | succ f ih =>
    intro i x y rest hi hx hy h0
    by_cases h : y < 128
    · rw [encF_small _ _ h, List.cons_append, tk_end (by omega) (by omega) (by omega) (by omega)]
      simp
    · rw [encF_step _ _ h, List.cons_append, tk_more (by omega) (by omega) (by omega)]
      have hm : (y % 128 + 128) % 128 = y % 128 := by omega
      have hs : 128 ^ i * y = 128 ^ i * (y % 128) + 128 ^ (i + 1) * (y / 128) := by
        rw [Nat.pow_succ, Nat.mul_assoc, ← Nat.mul_add]
        congr 1
        omega
      rw [hm, ih (i + 1) _ _ _ (by omega) (pow_step i x _ hx (by omega)) (by omega) (by omega)]
      rw [hs, Nat.add_assoc, List.length_cons]
      congr 2
      omega

theorem tk_enc (n : Int) (rest : List Nat) (h1 : -9223372036854775808 ≤ n) (h2 : n ≤ 9223372036854775807) : tk 0 0 (encI n ++ rest) = (n, (encI n).length, 0) := by
  have := tk_back 9 0 0 (zig n) rest (by omega) (by simp) (by have := zig_lt n h1 h2; simpa using this) (by omega)
  simp only [Nat.pow_zero, Nat.one_mul, Nat.zero_add, zag_zig] at this
  exact this

theorem tk_bytes : ∀ (l : List Nat) (i x : Nat) (v : Int) (k : Nat), (∀ b ∈ l, b < 256) → x < 128 ^ i → tk i x l = (v, k, 0) →
    i < 10 ∧ ∃ y, l.take (k - i) = encF (9 - i) y ∧ v = zag (x + 128 ^ i * y) ∧ x + 128 ^ i * y < 18446744073709551616 ∧ i < k ∧ k ≤ i + l.length ∧ (0 < i → 0 < y)
  | [], i, x, v, k, _, _, h => by simp [tk] at h
  | c :: t, i, x, v, k, hb, hx, h => by
    by_cases h10 : 10 ≤ i
    · rw [tk_ten _ _ _ h10] at h; simp at h
    refine ⟨by omega, ?_⟩
    by_cases h9 : i = 9 ∧ 1 < c
    · rw [tk_nine h9.1 h9.2] at h; simp at h
    by_cases hc : 128 ≤ c
    · have hi8 : i ≤ 8 := by omega
      have hc2 := hb c (by simp)
      rw [tk_more (by omega) h9 hc] at h
      obtain ⟨_, y, h1, h2, h3, h4, h5, h6⟩ := tk_bytes t (i + 1) _ v k (fun b hb' => hb b (by simp [hb'])) (pow_step i x _ hx (by omega)) h
      have hy := h6 (by omega)
      have hs : x + 128 ^ i * (c % 128) + 128 ^ (i + 1) * y = x + 128 ^ i * (c % 128 + 128 * y) := by
        rw [Nat.pow_succ, Nat.mul_assoc, Nat.add_assoc, ← Nat.mul_add]
      refine ⟨c % 128 + 128 * y, ?_, by rw [h2, hs], by rw [← hs]; exact h3, by omega, by simp; omega, by omega⟩
      rw [show k - i = (k - (i + 1)) + 1 by omega, List.take_succ_cons, h1, show 9 - i = (9 - (i + 1)) + 1 by omega, encF_step _ _ (by omega)]
      congr 1
      · omega
      · congr 1; omega
    · by_cases h0 : c = 0 ∧ 0 < i
      · rw [tk_zero (by omega) h0.1 h0.2] at h; simp at h
      rw [tk_end (by omega) h9 hc h0] at h
      simp only [Prod.mk.injEq, and_true] at h
      obtain ⟨rfl, rfl⟩ := h
      refine ⟨c, ?_, rfl, below64 i x c (by omega) hx h9 (by omega), by omega, by simp, by omega⟩
      rw [show i + 1 - i = 1 by omega, encF_small _ _ (by omega)]
      rfl

/-- the bytes of what is taken, its range, its length -/
theorem tk_canon (l : List Nat) (v : Int) (k : Nat) (hb : ∀ b ∈ l, b < 256) (h : tk 0 0 l = (v, k, 0)) : l.take k = encI v ∧ 0 < k ∧ k ≤ l.length ∧ -9223372036854775808 ≤ v ∧ v ≤ 9223372036854775807 := by
  obtain ⟨_, y, h1, h2, h3, h4, h5, _⟩ := tk_bytes l 0 0 v k hb (by simp) h
  simp only [Nat.pow_zero, Nat.one_mul, Nat.zero_add, Nat.sub_zero] at *
  have := zag_range y h3
  refine ⟨?_, h4, h5, by rw [h2]; exact this.1, by rw [h2]; exact this.2⟩
  rw [h1, h2, encI, zig_zag]
  rfl
theorem tk_bad (l : List Nat) (v : Int) (k : Nat) (e : Int) : ∀ i x, tk i x l = (v, k, e) → e ≠ 0 → v = 0 ∧ k = 0 ∧ (e = 7 ∨ e = 2) := by
  induction l with
  | nil => intro i x h he; simp [tk] at h; omega
  | cons c t ih =>
    intro i x h he
    unfold tk at h
    split at h
    · simp at h; omega
    split at h
    · simp at h; omega
    split at h
    · exact ih _ _ h he
    split at h
    · simp at h; omega
    · simp at h; omega

/-- a list, what is left, an error's number -/
def pre (o : List Int) (r : List Int × List Nat × Int) : List Int × List Nat × Int := if r.2.2 = 0 then (o ++ r.1, r.2.1, 0) else ([], [], r.2.2)
def tkN : Nat → List Nat → List Int × List Nat × Int
  | 0, b => ([], b, 0)
  | m + 1, b => if (tk 0 0 b).2.2 = 0 then pre [(tk 0 0 b).1] (tkN m (b.drop (tk 0 0 b).2.1)) else ([], [], (tk 0 0 b).2.2)
def tkL (b : List Nat) (many : Int) : List Int × List Nat × Int :=
  if (tk 0 0 b).2.2 = 0 then
    if (tk 0 0 b).1 < 0 then ([], [], 1) else if many < (tk 0 0 b).1 then ([], [], 19) else tkN (tk 0 0 b).1.toNat (b.drop (tk 0 0 b).2.1)
  else ([], [], (tk 0 0 b).2.2)

theorem pre_nil (r : List Int × List Nat × Int) (h : r.2.2 ≠ 0 → r = ([], [], r.2.2)) : pre [] r = r := by
  unfold pre
  split
  · rename_i h0
    obtain ⟨a, b, c⟩ := r
    simp at h0
    simp [h0]
  · rename_i h0
    exact (h h0).symm
theorem tkN_err (m : Nat) (b : List Nat) (h : (tkN m b).2.2 ≠ 0) : tkN m b = ([], [], (tkN m b).2.2) := by
  cases m with
  | zero => simp [tkN] at h
  | succ m =>
    unfold tkN at h ⊢
    by_cases h1 : (tk 0 0 b).2.2 = 0
    · rw [if_pos h1] at h ⊢
      unfold pre at h ⊢
      by_cases h2 : (tkN m (b.drop (tk 0 0 b).2.1)).2.2 = 0
      · rw [if_pos h2] at h; simp at h
      · rw [if_neg h2]
    · rw [if_neg h1]
theorem pre_start (m : Nat) (b : List Nat) : tkN m b = pre [] (tkN m b) := (pre_nil _ (tkN_err m b)).symm
theorem pre_pre (o o' : List Int) (r : List Int × List Nat × Int) : pre o (pre o' r) = pre (o ++ o') r := by
  unfold pre
  by_cases h : r.2.2 = 0
  · simp [h]
  · simp [h]
theorem pre_step {o : List Int} {m : Nat} {b : List Nat} {v : Int} {k : Nat} (h : tk 0 0 b = (v, k, 0)) : pre o (tkN (m + 1) b) = pre (o ++ [v]) (tkN m (b.drop k)) := by
  have : tkN (m + 1) b = pre [v] (tkN m (b.drop k)) := by rw [tkN, h]; simp
  rw [this, pre_pre]
theorem pre_bad {o : List Int} {m : Nat} {b : List Nat} {v : Int} {k : Nat} {e : Int} (h : tk 0 0 b = (v, k, e)) (he : e ≠ 0) : pre o (tkN (m + 1) b) = ([], [], e) := by
  have : tkN (m + 1) b = ([], [], e) := by rw [tkN, h, if_neg he]
  rw [this, pre, if_neg he]
theorem pre_end (o : List Int) (b : List Nat) : pre o (tkN 0 b) = (o, b, 0) := by simp [tkN, pre]

def Ok (l : List Int) : Prop := ∀ n ∈ l, -9223372036854775808 ≤ n ∧ n ≤ 9223372036854775807

theorem tkN_back : ∀ (l : List Int) (rest : List Nat), Ok l → tkN l.length (encAll l ++ rest) = (l, rest, 0)
  | [], rest, _ => rfl
  | n :: l, rest, h => by
    have hn := h n (by simp)
    have ih := tkN_back l rest (fun x hx => h x (by simp [hx]))
    have ht := tk_enc n (encAll l ++ rest) hn.1 hn.2
    rw [List.length_cons, encAll, List.append_assoc, tkN, ht]
    simp [ih, pre]
theorem tkL_back (l : List Int) (rest : List Nat) (many : Int) (h : Ok l) (hl : (l.length : Int) ≤ 9223372036854775807) (hm : (l.length : Int) ≤ many) : tkL (encL l ++ rest) many = (l, rest, 0) := by
  have ht := tk_enc (l.length : Int) (encAll l ++ rest) (by omega) hl
  rw [encL, List.append_assoc, tkL, ht]
  simp only [if_true]
  rw [if_neg (by omega), if_neg (by omega)]
  simp [tkN_back l rest h]

theorem tkN_canon : ∀ (m : Nat) (b : List Nat) (l : List Int) (r : List Nat), (∀ x ∈ b, x < 256) → tkN m b = (l, r, 0) → encAll l ++ r = b ∧ l.length = m ∧ Ok l
  | 0, b, l, r, _, h => by simp [tkN] at h; obtain ⟨rfl, rfl⟩ := h; exact ⟨rfl, rfl, fun x hx => by simp at hx⟩
  | m + 1, b, l, r, hb, h => by
    obtain ⟨v, k, e, ht⟩ : ∃ v k e, tk 0 0 b = (v, k, e) := ⟨_, _, _, rfl⟩
    by_cases he : e = 0
    · subst he
      obtain ⟨h1, h2, h3, h4, h5⟩ := tk_canon b v k hb ht
      have hs : tkN (m + 1) b = pre [v] (tkN m (b.drop k)) := by rw [tkN, ht]; simp
      rw [hs] at h
      unfold pre at h
      split at h
      · rename_i h0
        obtain ⟨l', r', e', hr⟩ : ∃ l' r' e', tkN m (b.drop k) = (l', r', e') := ⟨_, _, _, rfl⟩
        rw [hr] at h h0
        simp at h0 h
        obtain ⟨rfl, rfl⟩ := h
        subst h0
        obtain ⟨g1, g2, g3⟩ := tkN_canon m (b.drop k) l' r' (fun x hx => hb x (List.mem_of_mem_drop hx)) hr
        refine ⟨?_, by simp [g2], ?_⟩
        · rw [encAll, List.append_assoc, g1, ← h1, List.take_append_drop]
        · intro x hx
          rcases List.mem_cons.1 hx with rfl | hx
          · exact ⟨h4, h5⟩
          · exact g3 x hx
      · rename_i h0; simp at h; exact absurd h.2.2 h0
    · have : tkN (m + 1) b = ([], [], e) := by rw [tkN, ht, if_neg he]
      rw [this] at h
      simp at h
      exact absurd h.2.2 he

theorem tkL_canon (b : List Nat) (many : Int) (l : List Int) (r : List Nat) (hb : ∀ x ∈ b, x < 256) (h : tkL b many = (l, r, 0)) : encL l ++ r = b ∧ Ok l ∧ (l.length : Int) ≤ many := by
  obtain ⟨v, k, e, ht⟩ : ∃ v k e, tk 0 0 b = (v, k, e) := ⟨_, _, _, rfl⟩
  unfold tkL at h
  rw [ht] at h
  simp only at h
  by_cases he : e = 0
  · rw [if_pos he] at h
    subst he
    by_cases h1 : v < 0
    · rw [if_pos h1] at h; simp at h
    by_cases h2 : many < v
    · rw [if_neg h1, if_pos h2] at h; simp at h
    rw [if_neg h1, if_neg h2] at h
    obtain ⟨g1, g2, g3⟩ := tkN_canon _ _ _ _ (fun x hx => hb x (List.mem_of_mem_drop hx)) h
    obtain ⟨c1, c2, c3, c4, c5⟩ := tk_canon b v k hb ht
    refine ⟨?_, g3, by omega⟩
    rw [encL, List.append_assoc, g1, g2, show ((v.toNat : Nat) : Int) = v by omega, ← c1, List.take_append_drop]
  · rw [if_neg he] at h
    simp at h
    exact absurd h.2.2 he

/-- unlike lists have unlike bytes, of which none begin with the other's -/
theorem encL_apart (a b : List Int) (ha : Ok a) (hb : Ok b) (hla : (a.length : Int) ≤ 9223372036854775807) (hlb : (b.length : Int) ≤ 9223372036854775807)
    (h : (encL a).take (min (encL a).length (encL b).length) = (encL b).take (min (encL a).length (encL b).length)) : a = b := by
  have key : ∀ (a b : List Int), Ok a → Ok b → (a.length : Int) ≤ 9223372036854775807 → (b.length : Int) ≤ 9223372036854775807 → (encL a).length ≤ (encL b).length → encL a = (encL b).take (encL a).length → a = b := by
    intro a b ha hb hla hlb hl h
    have e : encL b = encL a ++ (encL b).drop (encL a).length := by
      rw [← List.take_append_drop (encL a).length (encL b), ← h]
      simp
    have h1 := tkL_back a ((encL b).drop (encL a).length) (max (a.length : Int) b.length) ha hla (by omega)
    have h2 := tkL_back b [] (max (a.length : Int) b.length) hb hlb (by omega)
    rw [List.append_nil, e, h1] at h2
    simp at h2
    exact h2.1
  by_cases hl : (encL a).length ≤ (encL b).length
  · refine key a b ha hb hla hlb hl ?_
    rw [Nat.min_eq_left hl, List.take_length] at h
    exact h
  · refine (key b a hb ha hlb hla (by omega) ?_).symm
    rw [Nat.min_eq_right (by omega), List.take_length] at h
    exact h.symm
end Go.Proofs.Ytccdlmiemelifaa.mth
end

section
namespace Go.Proofs.Ytccdlmiemelifaa
open Go.RowKit
set_option linter.unusedVariables false

theorem zig_bits (n : Int) (h1 : -9223372036854775808 ≤ n) (h2 : n ≤ 9223372036854775807) :
    bits .xor .u64 (IntKind.u64.wrap (IntKind.u64.wrap n * 2)) (IntKind.u64.wrap (n / 9223372036854775808)) = ((mth.zig n : Nat) : Int) := by
  unfold mth.zig
  by_cases h : 0 ≤ n
  · rw [if_pos h]
    have e1 : IntKind.u64.wrap (IntKind.u64.wrap n * 2) = (((2 * n).toNat : Nat) : Int) := by rw [IntKind.wrap_u64, IntKind.wrap_u64]; omega
    have e2 : IntKind.u64.wrap (n / 9223372036854775808) = ((0 : Nat) : Int) := by rw [IntKind.wrap_u64]; omega
    rw [e1, e2, u64_xor_nat _ _ (by omega) (by omega), Nat.xor_zero]
  · rw [if_neg h]
    have e1 : IntKind.u64.wrap (IntKind.u64.wrap n * 2) = (((18446744073709551616 + 2 * n).toNat : Nat) : Int) := by rw [IntKind.wrap_u64, IntKind.wrap_u64]; omega
    have e2 : IntKind.u64.wrap (n / 9223372036854775808) = ((18446744073709551615 : Nat) : Int) := by rw [IntKind.wrap_u64]; omega
    rw [e1, e2, u64_xor_nat _ _ (by omega) (by omega)]
    have hx : ∀ a b : Nat, a < 2 ^ 64 → b = 2 ^ 64 - 1 → a ^^^ b = 2 ^ 64 - 1 - a := fun a b ha hb => by
      subst hb
      apply Nat.eq_of_testBit_eq
      intro i
      rw [Nat.testBit_xor, Nat.testBit_two_pow_sub_one, show 2 ^ 64 - 1 - a = 2 ^ 64 - (a + 1) from by omega, Nat.testBit_two_pow_sub_succ ha]
      by_cases hi : i < 64
      · simp [hi]
      · rw [Nat.testBit_lt_two_pow (Nat.lt_of_lt_of_le ha (Nat.pow_le_pow_right (by omega) (by omega)))]
        simp [hi]
    rw [hx _ _ (by omega) rfl]
    omega

theorem u8_andNot128 (c : Nat) (h : c < 256) : bits .andNot .u8 (c : Int) 128 = ((c % 128 : Nat) : Int) := by
  have : ∀ c : _root_.Fin 256, bits .andNot .u8 (c.val : Int) 128 = ((c.val % 128 : Nat) : Int) := by decide +kernel
  exact this ⟨c, h⟩
theorem u8_and128 (c : Nat) (h : c < 256) : bits .and .u8 (c : Int) 128 = if (128 : Int) ≤ (c : Int) then 128 else 0 := by
  have : ∀ c : _root_.Fin 256, bits .and .u8 (c.val : Int) 128 = if (128 : Int) ≤ (c.val : Int) then 128 else 0 := by decide +kernel
  exact this ⟨c, h⟩

theorem xor_comm_i64 (a b : Int) : bits .xor .i64 a b = bits .xor .i64 b a := by
  show IntKind.i64.wrap ((BitVec.ofInt 64 a ^^^ BitVec.ofInt 64 b).toNat : Int) = IntKind.i64.wrap ((BitVec.ofInt 64 b ^^^ BitVec.ofInt 64 a).toNat : Int)
  rw [BitVec.xor_comm]
theorem xor_zero_i64 (x : Nat) (hx : x < 9223372036854775808) : bits .xor .i64 (x : Int) 0 = (x : Int) := by
  show IntKind.i64.wrap ((BitVec.ofInt 64 (x : Int) ^^^ BitVec.ofInt 64 0).toNat : Int) = _
  have h2 : (BitVec.ofInt 64 (x : Int)).toNat = x := by
    rw [BitVec.ofInt_natCast, BitVec.toNat_ofNat]; exact Nat.mod_eq_of_lt (by omega)
  have h1 : (BitVec.ofInt 64 0).toNat = 0 := by decide
  rw [BitVec.toNat_xor, h1, h2, Nat.xor_zero, IntKind.wrap_i64]
  omega
theorem zag_bits (x : Nat) (h : x < 18446744073709551616) : bits .xor .i64 ((x : Int) / 2) (Go.RowKit.wrap64 (-Go.RowKit.wrap64 (bits .and .u64 (x : Int) 1))) = mth.zag x := by
  rw [Lib.u64_and1 (x : Int) (by omega) (by omega)]
  have e : ((x : Int) / 2) = ((x / 2 : Nat) : Int) := by omega
  unfold mth.zag
  by_cases h0 : x % 2 = 0
  · have e0 : (x : Int) % 2 = 0 := by omega
    rw [if_pos h0, e, e0]
    rw [show Go.RowKit.wrap64 (-Go.RowKit.wrap64 0) = 0 by decide +kernel]
    exact xor_zero_i64 (x / 2) (by omega)
  · have e0 : (x : Int) % 2 = 1 := by omega
    rw [if_neg h0, e, e0]
    have e1 : Go.RowKit.wrap64 (-Go.RowKit.wrap64 1) = -1 := by decide +kernel
    rw [e1, xor_comm_i64, Lib.i64_not _ (by omega)]

theorem or_part (X d k : Nat) (hX : X < 128 ^ k) (h64 : X + 128 ^ k * d < 18446744073709551616) : bits .or .u64 (X : Int) (IntKind.u64.wrap ((d : Int) * 2 ^ (k * 7))) = ((X + 128 ^ k * d : Nat) : Int) := by
  have hp : 128 ^ k = 2 ^ (k * 7) := by rw [Nat.mul_comm k 7, Nat.pow_mul]
  rw [hp] at hX h64 ⊢
  have hdn : d * 2 ^ (k * 7) < 18446744073709551616 := by rw [Nat.mul_comm]; omega
  have e : IntKind.u64.wrap ((d : Int) * 2 ^ (k * 7)) = ((d * 2 ^ (k * 7) : Nat) : Int) := by
    have h1 : (d : Int) * 2 ^ (k * 7) = ((d * 2 ^ (k * 7) : Nat) : Int) := by simp
    rw [h1, IntKind.wrap_u64]
    omega
  rw [e, u64_or_nat _ _ (by omega) hdn]
  congr 1
  have := Nat.shiftLeft_add_eq_or_of_lt hX d
  rw [Nat.shiftLeft_eq] at this
  rw [Nat.or_comm, ← this, Nat.mul_comm d, Nat.add_comm]

theorem zag_e (Y : Nat) (h : Y < 18446744073709551616) (he : Y % 2 = 0) : Go.RowKit.wrap64 (IntKind.u64.wrap ((Y : Int) / 2)) = mth.zag Y := by
  rw [IntKind.wrap_u64, mth.zag, if_pos he]
  unfold Go.RowKit.wrap64
  omega
theorem zag_o (Y : Nat) (h : Y < 18446744073709551616) (he : ¬ Y % 2 = 0) : Go.RowKit.wrap64 (Go.RowKit.wrap64 (-Go.RowKit.wrap64 (IntKind.u64.wrap ((Y : Int) / 2))) - 1) = mth.zag Y := by
  rw [IntKind.wrap_u64, mth.zag, if_neg he]
  unfold Go.RowKit.wrap64
  omega

end Go.Proofs.Ytccdlmiemelifaa
end

section
namespace Go.Proofs.Ytccdlmiemelifaa
open Go.RowKit
set_option linter.unusedVariables false
set_option linter.unusedSimpArgs false

/-- bytes as rows -/
def u8R (l : List Nat) : List (List Dat) := l.map fun c : Nat => [.int .u8 (c : Int)]
theorem u8R_app (a b : List Nat) : u8R (a ++ b) = u8R a ++ u8R b := by simp [u8R]
theorem u8R_len (a : List Nat) : (u8R a).length = a.length := by simp [u8R]
theorem u8R_get {l : List Nat} {i : Nat} (h : i < l.length) (d : Dat) : ((u8R l).getD i []).getD 0 d = .int .u8 (l[i] : Int) := by
  simp [u8R, List.getD_eq_getElem?_getD, List.getElem?_eq_getElem h]
theorem sh63 : (2 : Int) ^ (min (Int.toNat 63) 64) = 9223372036854775808 := by decide
theorem zig_of (n : Int) (h1 : -9223372036854775808 ≤ n) (h2 : n ≤ 9223372036854775807) :
    Ar.xor.of .u64 (Ar.shl.of .u64 (IntKind.u64.wrap n) 1) (IntKind.u64.wrap (Ar.shr.of .i64 n 63)) = ((mth.zig n : Nat) : Int) := by
  have := zig_bits n h1 h2
  have e1 : Ar.shl.of .u64 (IntKind.u64.wrap n) 1 = IntKind.u64.wrap (IntKind.u64.wrap n * 2) := rfl
  have e2 : Ar.shr.of .i64 n 63 = n / 9223372036854775808 := by
    show n.fdiv (2 ^ 63) = _
    rw [Int.fdiv_eq_ediv_of_nonneg _ (by decide)]; rfl
  rw [e1, e2]; exact this
theorem zag_of (x : Nat) (h : x < 18446744073709551616) : Ar.xor.of .i64 (IntKind.i64.wrap (Ar.shr.of .u64 (x : Int) 1)) (IntKind.i64.wrap (0 - IntKind.i64.wrap (Ar.and.of .u64 (x : Int) 1))) = mth.zag x := by
  have := zag_bits x h
  have e1 : Ar.shr.of .u64 (x : Int) 1 = (x : Int) / 2 := by
    show (x : Int).fdiv (2 ^ 1) = _
    rw [Int.fdiv_eq_ediv_of_nonneg _ (by decide)]; rfl
  have e2 : IntKind.i64.wrap ((x : Int) / 2) = (x : Int) / 2 := wrap64 (by omega) (by omega)
  have w64 : ∀ y, IntKind.i64.wrap y = RowKit.wrap64 y := fun y => by rw [IntKind.wrap_i64, RowKit.wrap64]
  rw [e1, e2, Int.zero_sub, w64, w64]; exact this
-- lacks slices.Clone[[]byte,byte] : Cl8
def Cl8_s : Spec := fun ds Q => (argL ds 0).length ≤ 100000000 ∧ Q [.rows (argL ds 0)]
/-- bytes that bytes are put behind -/
-- lacks mulligan/wire.Put : wPut
def wPut_s : Spec := fun ds Q => (argL ds 0).length ≤ 90000000 ∧ -9223372036854775808 ≤ argI ds 1 ∧ argI ds 1 ≤ 9223372036854775807 ∧ Q [.rows (argL ds 0 ++ u8R (mth.encI (argI ds 1)))]
theorem or128_of (y : Nat) (h : y < 18446744073709551616) : Ar.or.of .u8 (IntKind.u8.wrap (y : Int)) 128 = ((y % 128 + 128 : Nat) : Int) := by
  have e : IntKind.u8.wrap (y : Int) = ((y % 256 : Nat) : Int) := by rw [IntKind.wrap_u8]; omega
  rw [e]
  have key : ∀ c : _root_.Fin 256, Ar.or.of .u8 (c.val : Int) 128 = ((c.val % 128 + 128 : Nat) : Int) := by decide +kernel
  have := key ⟨y % 256, Nat.mod_lt _ (by decide)⟩
  rw [this]
  congr 1
  show y % 256 % 128 + 128 = _
  omega
theorem shr7 (y : Nat) : Ar.shr.of .u64 (y : Int) 7 = ((y / 128 : Nat) : Int) := by
  show (y : Int).fdiv (2 ^ 7) = _
  rw [Int.fdiv_eq_ediv_of_nonneg _ (by decide)]; rfl
theorem stands_of (n : Int) (h1 : -9223372036854775808 ≤ n) (h2 : n ≤ 9223372036854775807) : (if 0 ≤ n then Dat.int .u64 (Ar.mul.of .u64 2 (IntKind.u64.wrap n)) else Dat.int .u64 (IntKind.u64.wrap (Ar.mul.of .u64 2 (IntKind.u64.wrap (IntKind.i64.wrap (0 - IntKind.i64.wrap (n + 1)))) + 1))) = .int .u64 ((mth.zig n : Nat) : Int) := by
  by_cases h : 0 ≤ n
  · rw [if_pos h]
    congr 1
    simp only [Ar.of, mth.zig, if_pos h, IntKind.wrap_u64]
    omega
  · rw [if_neg h, wrap64 (x := n + 1) (by omega) (by omega), wrap64 (by omega) (by omega)]
    congr 1
    simp only [Ar.of, mth.zig, if_neg h, IntKind.wrap_u64]
    omega
theorem quo128 (y : Nat) (h : y < 18446744073709551616) : Ar.quo.of .u64 (y : Int) 128 = ((y / 128 : Nat) : Int) := by
  show IntKind.u64.wrap ((y : Int).tdiv 128) = _
  rw [Int.tdiv_eq_ediv_of_nonneg (by omega), IntKind.wrap_u64]
  omega
theorem rem128 (y : Nat) (h : y < 18446744073709551616) : IntKind.u8.wrap (IntKind.u8.wrap ((y : Int).tmod 128) + 128) = ((y % 128 + 128 : Nat) : Int) := by
  rw [Int.tmod_eq_emod_of_nonneg (by omega), IntKind.wrap_u8, IntKind.wrap_u8]
  omega
def k_rBytes2 : Nat := 22
def sg_rBytes2 : Sig := ⟨[(false, [.int .i64])], [(false, [.rows 5])], true, false, true, false, false⟩
def tr_rBytes2 : Tree := (.loop [(.ite (.cmp .ge (.var 0) (.int .i64 0)) (.ar .mul .u64 (.int .u64 2) (.conv .u64 (.var 0))) (.ar .add .u64 (.ar .mul .u64 (.int .u64 2) (.conv .u64 (.ar .sub .i64 (.int .i64 0) (.ar .add .i64 (.var 0) (.int .i64 1))))) (.int .u64 1))), .emp] [(.int .u64), (.rows 5)]
 (.ite (.cmp .gt (.var 1) (.int .u64 127))
  (.ob (.cmp .le (.len (.push (.var 2) (.econs (.ar .add .u8 (.conv .u8 (.ar .rem .u64 (.var 1) (.int .u64 128))) (.int .u8 128)) .enil))) (.int .i64 140737488355328))
  (.again 0 [(.ar .quo .u64 (.var 1) (.int .u64 128)), (.push (.var 2) (.econs (.ar .add .u8 (.conv .u8 (.ar .rem .u64 (.var 1) (.int .u64 128))) (.int .u8 128)) .enil))]))
  (.ob (.cmp .le (.len (.push (.var 2) (.econs (.conv .u8 (.var 1)) .enil))) (.int .i64 140737488355328))
  (.ret [(.push (.var 2) (.econs (.conv .u8 (.var 1)) .enil))]))))
theorem wk_rBytes2 : walk E0.cx (sgsN []) 0 22 sg_rBytes2 = tr_rBytes2 := by kernel_rfl
theorem bo_rBytes2 : ∃ x, bodyOf E0.P 22 = some x := bo_of (by kernel_rfl)
def rBytes2_s : Spec := fun ds Q => -9223372036854775808 ≤ argI ds 0 ∧ argI ds 0 ≤ 9223372036854775807 ∧ Q [.rows (u8R (mth.encI (argI ds 0)))]
theorem rBytes2_h : Holds E0 k_rBytes2 sg_rBytes2 rBytes2_s := con_fn wf0 mix0 g0 [] rfl wk_rBytes2 rfl (by
  intro Φ hΦ ds Q hs ⟨n1, n2, h⟩
  have hl : ds.length = 1 := hs.length.symm
  clear hΦ
  simp only [tr_rBytes2, wp, den_int, den_bool, den_nili, den_ar, den_cmp, den_not, den_len, den_elem, den_isnil, den_errI, den_ifc, den_rep, den_push, den_app, den_emp, den_upd, row0_econs, row0_enil, den_and, den_beq, den_nil, toInt_int, toBool_bool, xs_rows, xs_list, dflt_int, dflt_bool, of_eq, of_ne, of_lt, of_le, of_gt, of_ge, of_add, of_sub, of_rem, List.map_cons, List.map_nil, Dat.bool.injEq, decide_eq_true_eq, decide_eq_false_iff_not, Bool.not_eq_true', Bool.not_eq_false', beq_iff_eq, bne_iff_ne, beq_eq_false_iff_ne, bne_eq_false_iff_eq, ne_eq, List.append_assoc, List.cons_append, List.nil_append, allS, den_conv, den_ite, @den_var0 E0.Δ ds, den_varA, den_varB, hl, Nat.reduceLT, Nat.reduceLeDiff, Nat.reduceSub, List.getD_cons_zero, List.getD_cons_succ, argL_fold ds, argI_fold ds, List.append_assoc, List.cons_append, List.nil_append, toInt_int, toBool_bool, xs_rows, xs_list, Int.toNat_natCast, Dat.bool.injEq]
  have hX := mth.zig_lt _ n1 n2
  rw [stands_of _ n1 n2]
  refine ⟨fun xs m => ∃ (k y : Nat) (dn : List Nat), mth.Going (mth.zig (argI ds 0)) k y dn ∧ xs = [.int .u64 (y : Int), .rows (u8R dn)] ∧ m = y, ⟨_, 0, _, [], mth.going_start _ hX, rfl, rfl⟩, ?_⟩
  rintro n d hd m ⟨k, y, dn, hg, e, hm⟩
  cases e
  have hlen := hg.len
  have hk := hg.hk
  have hle := hg.le
  refine ⟨fun h128 => ⟨?_, ?_⟩, fun h128 => ⟨?_, ?_⟩⟩
  · simp only [xs_rows, List.length_append, u8R_len, List.length_cons, List.length_nil]; omega
  · have hy : ¬ y < 128 := by omega
    refine ⟨y / 128, by omega, k + 1, y / 128, _, mth.going_step hg hy, ?_, rfl⟩
    rw [quo128 y (by omega), rem128 y (by omega), u8R_app]; rfl
  · simp only [xs_rows, List.length_append, u8R_len, List.length_cons, List.length_nil]; omega
  · have hy : y < 128 := by omega
    have he := (mth.going_end hg hy).1
    have ew : IntKind.u8.wrap (y : Int) = (y : Int) := by rw [IntKind.wrap_u8]; omega
    rw [ew]
    have e2 : u8R (mth.encI (argI ds 0)) = u8R dn ++ [[.int .u8 (y : Int)]] := by
      rw [mth.encI, ← he, u8R_app]; rfl
    rw [e2] at h
    exact h)
noncomputable def con_rBytes2 : Con E0 := ⟨k_rBytes2, sg_rBytes2, rBytes2_s, rfl, bo_rBytes2, rBytes2_h⟩
-- lacks mulligan/wire.zag : wzag
def wzag_s : Spec := fun ds Q => ∃ x : Nat, x < 18446744073709551616 ∧ argI ds 0 = (x : Int) ∧ Q [.int .i64 (mth.zag x)]
def wTake_s : Spec := fun ds Q => ∃ l : List Nat, argL ds 0 = u8R l ∧ (∀ c ∈ l, c < 256) ∧ l.length ≤ 90000000 ∧ ∀ d : Dat, d.xs = (if (mth.tk 0 0 l).2.2 = 0 then u8R (l.drop (mth.tk 0 0 l).2.1) else []) → Q [.int .i64 (mth.tk 0 0 l).1, d, errV (mth.tk 0 0 l).2.2]
def rTake2_s : Spec := fun ds Q => ∃ l : List Nat, argL ds 0 = u8R l ∧ (∀ c ∈ l, c < 256) ∧ l.length ≤ 90000000 ∧ Q [.int .i64 (mth.tk 0 0 l).1, .int .i64 ((mth.tk 0 0 l).2.1 : Nat), .int .i64 (mth.tk 0 0 l).2.2]
end Go.Proofs.Ytccdlmiemelifaa
end

section
namespace Go.Proofs.Ytccdlmiemelifaa
open Go.RowKit
set_option linter.unusedVariables false
set_option linter.unusedSimpArgs false

mutual
def Eff.enc : Eff → List Nat
  | .mk op n m who l => mth.encI op ++ mth.encI n ++ mth.encI m ++ mth.encI who ++ mth.encI (l.length : Int) ++ Eff.encs l
def Eff.encs : List Eff → List Nat
  | [] => []
  | e :: l => e.enc ++ Eff.encs l
end
def in64 (n : Int) : Prop := -9223372036854775808 ≤ n ∧ n ≤ 9223372036854775807
mutual
/-- all numbers are within 64 bits -/
def Eff.ok : Eff → Prop
  | .mk op n m who l => in64 op ∧ in64 n ∧ in64 m ∧ in64 who ∧ Eff.oks l
def Eff.oks : List Eff → Prop
  | [] => True
  | e :: l => e.ok ∧ Eff.oks l
end
theorem Eff.oks_mem : ∀ {l : List Eff}, Eff.oks l → ∀ e ∈ l, e.ok
  | x :: l, h, e, he => by
    rcases List.mem_cons.1 he with rfl | he
    · exact h.1
    · exact Eff.oks_mem h.2 e he
theorem Eff.oks_of : ∀ {l : List Eff}, (∀ e ∈ l, e.ok) → Eff.oks l
  | [], _ => trivial
  | x :: l, h => ⟨h x (by simp), Eff.oks_of fun e he => h e (by simp [he])⟩
theorem Eff.ok_eq (e : Eff) : e.ok ↔ in64 e.op ∧ in64 e.n ∧ in64 e.m ∧ in64 e.who ∧ Eff.oks e.subs := by cases e; rfl
theorem Eff.enc_eq (e : Eff) : e.enc = mth.encI e.op ++ mth.encI e.n ++ mth.encI e.m ++ mth.encI e.who ++ mth.encI (e.subs.length : Int) ++ Eff.encs e.subs := by cases e; rfl
theorem Eff.encs_append : ∀ (a b : List Eff), Eff.encs (a ++ b) = Eff.encs a ++ Eff.encs b
  | [], b => by simp [Eff.encs]
  | e :: a, b => by simp [Eff.encs, Eff.encs_append a b]
theorem encI_len (n : Int) : (mth.encI n).length ≤ 10 := (mth.enc_len _).2
mutual
theorem Eff.enc_len : ∀ e : Eff, e.enc.length ≤ 50 * e.size
  | .mk op n m who l => by
    have h1 := encI_len op
    have h2 := encI_len n
    have h3 := encI_len m
    have h4 := encI_len who
    have h5 := encI_len (l.length : Int)
    have h6 := Eff.encs_len l
    simp only [Eff.enc, Eff.size, List.length_append]; omega
theorem Eff.encs_len : ∀ l : List Eff, (Eff.encs l).length ≤ 50 * Eff.sizes l
  | [] => by simp [Eff.encs, Eff.sizes]
  | e :: l => by
    have h1 := Eff.enc_len e
    have h2 := Eff.encs_len l
    simp only [Eff.encs, Eff.sizes, List.length_append]; omega
end
theorem encs_take {l : List (List Dat)} {i : Nat} (h : i < l.length) : Eff.encs ((l.take (i + 1)).map effOf) = Eff.encs ((l.take i).map effOf) ++ (effOf (l.getD i [])).enc := by
  rw [take_succ_getD (d := ([] : List Dat)) h, List.map_append, Eff.encs_append]
  simp [Eff.encs]
-- lacks mulligan/effect.Bytes : eBytes
def eBytes_s : Spec := fun ds Q => (argE ds).size ≤ 1000 ∧ (argE ds).ok ∧ Q [.rows (u8R (argE ds).enc)]
def k_rBytes6 : Nat := 8
def sg_rBytes6 : Sig := ⟨[(true, List.replicate 4 (.int .i64) ++ [.list 24])], [(false, [.rows 5])], true, true, false, false, false⟩
def tr_rBytes6 : Tree := (.call k_rBytes2 [(.var 0)] [(.rows 5)]
(.call k_rBytes2 [(.var 1)] [(.rows 5)]
(.ob (.cmp .le (.len (.app (.app .emp (.var 5)) (.app .emp (.var 6)))) (.int .i64 140737488355328))
(.call k_rBytes2 [(.var 2)] [(.rows 5)]
(.ob (.cmp .le (.len (.app (.app (.app .emp (.var 5)) (.app .emp (.var 6))) (.app .emp (.var 7)))) (.int .i64 140737488355328))
(.call k_rBytes2 [(.var 3)] [(.rows 5)]
(.ob (.cmp .le (.len (.app (.app (.app (.app .emp (.var 5)) (.app .emp (.var 6))) (.app .emp (.var 7))) (.app .emp (.var 8)))) (.int .i64 140737488355328))
(.call k_rBytes2 [(.len (.var 4))] [(.rows 5)]
(.ob (.cmp .le (.len (.app (.app (.app (.app (.app .emp (.var 5)) (.app .emp (.var 6))) (.app .emp (.var 7))) (.app .emp (.var 8))) (.app .emp (.var 9)))) (.int .i64 140737488355328))
(.loop [(.app (.app (.app (.app (.app .emp (.var 5)) (.app .emp (.var 6))) (.app .emp (.var 7))) (.app .emp (.var 8))) (.app .emp (.var 9))), (.int .i64 0)] [(.rows 5), (.int .i64)]
 (.ite (.cmp .lt (.var 11) (.len (.var 4)))
  (.ob (.cmp .ge (.var 11) (.int .i64 0))
  (.call k_rBytes6 [(.elem (.var 4) (.var 11) 0 (.int .i64)), (.elem (.var 4) (.var 11) 1 (.int .i64)), (.elem (.var 4) (.var 11) 2 (.int .i64)), (.elem (.var 4) (.var 11) 3 (.int .i64)), (.elem (.var 4) (.var 11) 4 (.list 24))] [(.rows 5)]
  (.ob (.cmp .le (.len (.app (.var 10) (.app .emp (.var 12)))) (.int .i64 140737488355328))
  (.again 0 [(.app (.var 10) (.app .emp (.var 12))), (.ar .add .i64 (.var 11) (.int .i64 1))]))))
  (.ret [(.var 10)]))))))))))))
theorem wk_rBytes6 : walk E0.cx (sgsN [(22, sg_rBytes2), (8, sg_rBytes6)]) 0 8 sg_rBytes6 = tr_rBytes6 := by kernel_rfl
theorem bo_rBytes6 : ∃ x, bodyOf E0.P 8 = some x := bo_of (by kernel_rfl)
def rBytes6_s : Spec := fun ds Q => (argE ds).size ≤ 1000 ∧ (argE ds).ok ∧ Q [.rows (u8R (argE ds).enc)]
theorem rBytes6_h : Holds E0 k_rBytes6 sg_rBytes6 rBytes6_s := holds_rec mE fun n ih => con_fn wf0 mix0 g0 [con_rBytes2, ⟨_, _, _, rfl, bo_rBytes6, ih⟩] rfl wk_rBytes6 rfl (by
  intro Φ hΦ ds Q hs ⟨hm, hsz, hok, h⟩
  have hl : ds.length = 5 := hs.length.symm
  have sp : Φ k_rBytes6 = (fun ds Q => mE ds < n ∧ rBytes6_s ds Q) := by rw [hΦ]; rfl
  have sp1 : Φ k_rBytes2 = rBytes2_s := by rw [hΦ]; rfl
  clear hΦ
  have hrow := eff_len (all2_get hs (i := 4) rfl)
  rw [argL_fold] at hrow
  have hsub := argE_subs ds
  have hlen := Eff.length_le_sizes ((argL ds 4).map effOf)
  rw [List.length_map] at hlen
  rw [mE] at hm
  rw [Eff.size_eq, hsub] at hm hsz
  rw [Eff.enc_eq, hsub, List.length_map, argE_opI, argE_n, argE_m, argE_who] at h
  rw [Eff.ok_eq, argE_opI, argE_n, argE_m, argE_who, hsub] at hok
  obtain ⟨o1, o2, o3, o4, o5⟩ := hok
  have q1 := encI_len (argI ds 0)
  have q2 := encI_len (argI ds 1)
  have q3 := encI_len (argI ds 2)
  have q4 := encI_len (argI ds 3)
  have q5 := encI_len ((argL ds 4).length : Int)
  have a0 : ∀ {x y : List Dat}, argL (x ++ y) 0 = argL (x ++ y) 0 := rfl
  simp only [tr_rBytes6, wp, den_int, den_bool, den_nili, den_ar, den_cmp, den_not, den_len, den_elem, den_isnil, den_errI, den_ifc, den_rep, den_push, den_app, den_emp, den_upd, row0_econs, row0_enil, den_and, den_beq, den_nil, toInt_int, toBool_bool, xs_rows, xs_list, dflt_int, dflt_bool, of_eq, of_ne, of_lt, of_le, of_gt, of_ge, of_add, of_sub, of_rem, List.map_cons, List.map_nil, Dat.bool.injEq, decide_eq_true_eq, decide_eq_false_iff_not, Bool.not_eq_true', Bool.not_eq_false', beq_iff_eq, bne_iff_ne, beq_eq_false_iff_ne, bne_eq_false_iff_eq, ne_eq, List.append_assoc, List.cons_append, List.nil_append, allS, sp, sp1, rBytes2_s, @den_var0 E0.Δ ds, den_varA, den_varB, hl, Nat.reduceLT, Nat.reduceLeDiff, Nat.reduceSub, List.getD_cons_zero, List.getD_cons_succ, argL_fold ds, argI_fold ds, List.append_assoc, List.cons_append, List.nil_append, toInt_int, toBool_bool, xs_rows, xs_list, Int.toNat_natCast, Dat.bool.injEq, argL_c0, argI_c1, argI_c0]
  have p : ∀ i, i < 4 → True := fun _ _ => trivial
  refine ⟨o1.1, o1.2, o2.1, o2.2, ?_, o3.1, o3.2, ?_, o4.1, o4.2, ?_, by omega, by omega, ?_, ?_⟩
  · simp only [xs_rows, List.length_append, u8R_len, List.length_nil, List.nil_append]; omega
  · simp only [xs_rows, List.length_append, u8R_len, List.length_nil, List.nil_append]; omega
  · simp only [xs_rows, List.length_append, u8R_len, List.length_nil, List.nil_append]; omega
  · simp only [xs_rows, List.length_append, u8R_len, List.length_nil, List.nil_append]; omega
  refine ⟨fun xs m => ∃ i : Nat, i ≤ (argL ds 4).length ∧ m = (argL ds 4).length - i ∧ xs = [.rows (u8R (mth.encI (argI ds 0) ++ mth.encI (argI ds 1) ++ mth.encI (argI ds 2) ++ mth.encI (argI ds 3) ++ mth.encI ((argL ds 4).length : Int) ++ Eff.encs (((argL ds 4).take i).map effOf))), .int .i64 i], ⟨_, 0, by omega, rfl, by simp [Eff.encs, u8R_app]⟩, ?_⟩
  rintro d hd i' m ⟨i, hi, hmi, e⟩
  cases e
  refine ⟨fun hlt => ⟨by omega, ?_⟩, fun hge => ?_⟩
  · have hi2 : i < (argL ds 4).length := by omega
    have hr := hrow _ (getD_memL (d := []) hi2)
    have hle : (effOf ((argL ds 4).getD i [])).size ≤ Eff.sizes ((argL ds 4).map effOf) := Eff.size_le_sizes (List.mem_map.2 ⟨_, getD_memL hi2, rfl⟩)
    have hokx := Eff.oks_mem o5 _ (List.mem_map.2 ⟨_, getD_memL (d := ([] : List Dat)) hi2, rfl⟩)
    have hl1 := Eff.encs_len (((argL ds 4).take i).map effOf)
    have hl2 := Eff.sizes_take (argL ds 4) i
    have hl3 := Eff.enc_len (effOf ((argL ds 4).getD i []))
    simp only [Int.toNat_natCast, fold5 hr, mE, rBytes6_s]
    simp only [argE_row0 hr]
    refine ⟨by omega, by omega, hokx, ?_, (argL ds 4).length - (i + 1), by omega, i + 1, by omega, rfl, ?_⟩
    · simp only [xs_rows, List.length_append, u8R_len, List.getD_cons_zero, List.nil_append]; omega
    · rw [wrap64 (by omega) (by omega), encs_take hi2]
      simp only [xs_rows, List.getD_cons_zero, List.nil_append, u8R_app, List.append_assoc]; rfl
  · have hkk : i = (argL ds 4).length := by omega
    rw [hkk, List.take_of_length_le (by omega)]
    exact h)
noncomputable def con_rBytes6 : Con E0 := ⟨k_rBytes6, sg_rBytes6, rBytes6_s, rfl, bo_rBytes6, rBytes6_h⟩
end Go.Proofs.Ytccdlmiemelifaa
end
