/-
  Who knows: the program's small functions, and the document's way to apply an event of an object's number.
-/
import Derived.Test.YtlgfnimahmmgeaaDoorKnV
namespace Go.Proofs.YtlgfnimahmmgeaaDoor
open Go.RowKit
set_option linter.unusedVariables false
set_option linter.unusedSimpArgs false

theorem show_tab : ∀ (x : _root_.Fin 4) (b : _root_.Fin 2), Ar.or.of .i64 (x.val : Int) (Ar.and.of .i64 ((b.val : Int) + 1) 3) = if kn (b.val : Int) (x.val : Int) then (x.val : Int) else (x.val : Int) + ((b.val : Int) + 1) := by decide +kernel
theorem hide_tab : ∀ (x : _root_.Fin 4) (b : _root_.Fin 2), Ar.andNot.of .i64 (x.val : Int) (Ar.and.of .i64 ((b.val : Int) + 1) 3) = if kn (b.val : Int) (x.val : Int) then (x.val : Int) - ((b.val : Int) + 1) else (x.val : Int) := by decide +kernel
theorem gain_tab : ∀ (x : _root_.Fin 4) (b : _root_.Fin 2), kn (b.val : Int) (x.val : Int) = false → Ar.and.of .i64 (Ar.andNot.of .i64 ((x.val : Int) + ((b.val : Int) + 1)) (x.val : Int)) 3 ≠ 0 ∧ (x.val : Int) + ((b.val : Int) + 1) ≤ 3 ∧ kn (b.val : Int) ((x.val : Int) + ((b.val : Int) + 1)) = true ∧ kn (1 - (b.val : Int)) ((x.val : Int) + ((b.val : Int) + 1)) = kn (1 - (b.val : Int)) (x.val : Int) := by decide +kernel
theorem fin4 {x : Int} (h0 : 0 ≤ x) (h1 : x ≤ 3) : ∃ i : _root_.Fin 4, (i.val : Int) = x := ⟨⟨x.toNat, by omega⟩, by simp; omega⟩
theorem fin2 {p : Int} (h : p = 0 ∨ p = 1) : ∃ i : _root_.Fin 2, (i.val : Int) = p := ⟨⟨p.toNat, by omega⟩, by simp; omega⟩
theorem show_or {x p : Int} (h0 : 0 ≤ x) (h1 : x ≤ 3) (hp : p = 0 ∨ p = 1) : Ar.or.of .i64 x (Ar.and.of .i64 (p + 1) 3) = if kn p x then x else x + (p + 1) := by
  obtain ⟨i, rfl⟩ := fin4 h0 h1
  obtain ⟨b, rfl⟩ := fin2 hp
  exact show_tab i b
theorem hide_andNot {x p : Int} (h0 : 0 ≤ x) (h1 : x ≤ 3) (hp : p = 0 ∨ p = 1) : Ar.andNot.of .i64 x (Ar.and.of .i64 (p + 1) 3) = if kn p x then x - (p + 1) else x := by
  obtain ⟨i, rfl⟩ := fin4 h0 h1
  obtain ⟨b, rfl⟩ := fin2 hp
  exact hide_tab i b
theorem gain_bits {x p : Int} (h0 : 0 ≤ x) (h1 : x ≤ 3) (hp : p = 0 ∨ p = 1) (hk : kn p x = false) : Ar.and.of .i64 (Ar.andNot.of .i64 (x + (p + 1)) x) 3 ≠ 0 ∧ x + (p + 1) ≤ 3 ∧ kn p (x + (p + 1)) = true ∧ kn (1 - p) (x + (p + 1)) = kn (1 - p) x := by
  obtain ⟨i, rfl⟩ := fin4 h0 h1
  obtain ⟨b, rfl⟩ := fin2 hp
  exact gain_tab i b hk
/-- just one event -/
def Ev1 (l : List (List Dat)) (a b c d e f : Int) : Prop := l.length = 1 ∧ rowI (l.getD 0 []) 0 = a ∧ rowI (l.getD 0 []) 1 = b ∧ rowI (l.getD 0 []) 2 = c ∧ rowI (l.getD 0 []) 3 = d ∧ rowI (l.getD 0 []) 4 = e ∧ rowI (l.getD 0 []) 5 = f
/-- the object's bits -/
def bitsO (ds : List Dat) (id : Int) : Int := rowI ((argL ds 0).getD id.toNat []) 17
def Show_s : Spec := fun ds Q => 0 ≤ argI ds 37 ∧ argI ds 37 < (argL ds 0).length ∧ 0 ≤ bitsO ds (argI ds 37) ∧ bitsO ds (argI ds 37) ≤ 3 ∧ ∃ p, (p = 0 ∨ p = 1) ∧ argI ds 38 = p + 1 ∧ ∀ d : Dat, (kn p (bitsO ds (argI ds 37)) = true → d.xs = []) → (kn p (bitsO ds (argI ds 37)) = false → Ev1 d.xs 2 (argI ds 37) 17 (bitsO ds (argI ds 37)) (bitsO ds (argI ds 37) + (p + 1)) 0) → Q [d]
def k_Show : Nat := 14
def sg_Show : Sig := ⟨[(true, [.list 49] ++ List.replicate 11 (.list 3) ++ List.replicate 25 (.int .i64)), (false, [.int .i64]), (false, [.int .i64])], [(false, [.list 53])], false, false, false⟩
def tr_Show : Tree := (.ite (.cmp .lt (.var 37) (.int .i64 0))
 (.share 53 .emp
 (.ret [(.var 39)]))
 (.ite (.cmp .ge (.var 37) (.len (.var 0)))
  (.share 53 .emp
  (.ret [(.var 39)]))
  (.ite (.cmp .eq (.ar .or .i64 (.elem (.var 0) (.var 37) 17 (.int .i64)) (.ar .and .i64 (.var 38) (.int .i64 3))) (.elem (.var 0) (.var 37) 17 (.int .i64)))
   (.share 53 .emp
   (.ret [(.var 39)]))
   (.share 53 (.push .emp (.econs (.int .i64 2) (.econs (.var 37) (.econs (.int .i64 17) (.econs (.elem (.var 0) (.var 37) 17 (.int .i64)) (.econs (.ar .or .i64 (.elem (.var 0) (.var 37) 17 (.int .i64)) (.ar .and .i64 (.var 38) (.int .i64 3))) (.econs (.int .i64 0) .enil)))))))
   (.ret [(.var 39)])))))
theorem wk_Show : walk E0.cx (sgsN []) 0 14 sg_Show = tr_Show := by kernel_rfl
theorem bo_Show : ∃ x, bodyOf E0.P 14 = some x := bo_of (by kernel_rfl)
theorem Show_h : Holds E0 k_Show sg_Show Show_s := con_fn wf0 mix0 g0 [] rfl wk_Show rfl (by
  intro Φ hΦ ds Q hs ⟨h0, h1, h2, h3, p, hp, hq, h⟩
  have hl : ds.length = 39 := hs.length.symm
  clear hΦ
  simp only [tr_Show, wp, den_int, den_bool, den_nili, den_ar, den_cmp, den_not, den_len, den_elem, den_isnil, den_errI, den_ifc, den_rep, den_push, den_app, den_emp, den_upd, row0_econs, row0_enil, den_and, den_beq, den_nil, toInt_int, toBool_bool, xs_rows, xs_list, dflt_int, dflt_bool, of_eq, of_ne, of_lt, of_le, of_gt, of_ge, of_add, of_sub, of_rem, List.map_cons, List.map_nil, Dat.bool.injEq, decide_eq_true_eq, decide_eq_false_iff_not, Bool.not_eq_true', Bool.not_eq_false', beq_iff_eq, bne_iff_ne, beq_eq_false_iff_ne, bne_eq_false_iff_eq, ne_eq, List.append_assoc, List.cons_append, List.nil_append, allS, @den_var0 E0.Δ ds, den_varA, den_varB, hl, Nat.reduceLT, Nat.reduceLeDiff, Nat.reduceSub, List.getD_cons_zero, List.getD_cons_succ, argL_fold ds, argI_fold ds, List.append_assoc, List.cons_append, List.nil_append, toInt_int, toBool_bool, xs_rows, xs_list, Int.toNat_natCast, Dat.bool.injEq]
  have hx : (((argL ds 0).getD (argI ds 37).toNat []).getD 17 (Dat.int .i64 0)).toInt = bitsO ds (argI ds 37) := rfl
  simp only [hx, hq]
  rw [show_or h2 h3 hp]
  refine ⟨fun hx => absurd hx (by omega), fun _ => ⟨fun hx => absurd hx (by omega), fun _ => ⟨fun he A c => ?_, fun hne A c => ?_⟩⟩⟩
  · refine h _ (fun _ => rfl) fun hk => ?_
    rw [hk] at he
    simp at he
    omega
  · refine h _ (fun hk => ?_) fun hk => ?_
    · rw [hk] at hne; exact absurd rfl hne
    · refine ⟨rfl, rfl, argI_fold ds 37, rfl, rfl, ?_, rfl⟩
      show (if kn p (bitsO ds (argI ds 37)) = true then _ else _) = _
      rw [hk]; rfl)
noncomputable def con_Show : Con E0 := ⟨k_Show, sg_Show, Show_s, rfl, bo_Show, Show_h⟩
def Hide_s : Spec := fun ds Q => 0 ≤ argI ds 37 ∧ argI ds 37 < (argL ds 0).length ∧ 0 ≤ bitsO ds (argI ds 37) ∧ bitsO ds (argI ds 37) ≤ 3 ∧ ∃ p, (p = 0 ∨ p = 1) ∧ argI ds 38 = p + 1 ∧ kn p (bitsO ds (argI ds 37)) = true ∧ ∀ d : Dat, Ev1 d.xs 2 (argI ds 37) 17 (bitsO ds (argI ds 37)) (bitsO ds (argI ds 37) - (p + 1)) 0 → Q [d]
def k_Hide : Nat := 18
def sg_Hide : Sig := ⟨[(true, [.list 49] ++ List.replicate 11 (.list 3) ++ List.replicate 25 (.int .i64)), (false, [.int .i64]), (false, [.int .i64])], [(false, [.list 53])], false, false, false⟩
def tr_Hide : Tree := (.ite (.cmp .lt (.var 37) (.int .i64 0))
 (.share 53 .emp
 (.ret [(.var 39)]))
 (.ite (.cmp .ge (.var 37) (.len (.var 0)))
  (.share 53 .emp
  (.ret [(.var 39)]))
  (.ite (.cmp .eq (.ar .andNot .i64 (.elem (.var 0) (.var 37) 17 (.int .i64)) (.ar .and .i64 (.var 38) (.int .i64 3))) (.elem (.var 0) (.var 37) 17 (.int .i64)))
   (.share 53 .emp
   (.ret [(.var 39)]))
   (.share 53 (.push .emp (.econs (.int .i64 2) (.econs (.var 37) (.econs (.int .i64 17) (.econs (.elem (.var 0) (.var 37) 17 (.int .i64)) (.econs (.ar .andNot .i64 (.elem (.var 0) (.var 37) 17 (.int .i64)) (.ar .and .i64 (.var 38) (.int .i64 3))) (.econs (.int .i64 0) .enil)))))))
   (.ret [(.var 39)])))))
theorem wk_Hide : walk E0.cx (sgsN []) 0 18 sg_Hide = tr_Hide := by kernel_rfl
theorem bo_Hide : ∃ x, bodyOf E0.P 18 = some x := bo_of (by kernel_rfl)
theorem Hide_h : Holds E0 k_Hide sg_Hide Hide_s := con_fn wf0 mix0 g0 [] rfl wk_Hide rfl (by
  intro Φ hΦ ds Q hs ⟨h0, h1, h2, h3, p, hp, hq, hk, h⟩
  have hl : ds.length = 39 := hs.length.symm
  clear hΦ
  simp only [tr_Hide, wp, den_int, den_bool, den_nili, den_ar, den_cmp, den_not, den_len, den_elem, den_isnil, den_errI, den_ifc, den_rep, den_push, den_app, den_emp, den_upd, row0_econs, row0_enil, den_and, den_beq, den_nil, toInt_int, toBool_bool, xs_rows, xs_list, dflt_int, dflt_bool, of_eq, of_ne, of_lt, of_le, of_gt, of_ge, of_add, of_sub, of_rem, List.map_cons, List.map_nil, Dat.bool.injEq, decide_eq_true_eq, decide_eq_false_iff_not, Bool.not_eq_true', Bool.not_eq_false', beq_iff_eq, bne_iff_ne, beq_eq_false_iff_ne, bne_eq_false_iff_eq, ne_eq, List.append_assoc, List.cons_append, List.nil_append, allS, @den_var0 E0.Δ ds, den_varA, den_varB, hl, Nat.reduceLT, Nat.reduceLeDiff, Nat.reduceSub, List.getD_cons_zero, List.getD_cons_succ, argL_fold ds, argI_fold ds, List.append_assoc, List.cons_append, List.nil_append, toInt_int, toBool_bool, xs_rows, xs_list, Int.toNat_natCast, Dat.bool.injEq]
  have hx : (((argL ds 0).getD (argI ds 37).toNat []).getD 17 (Dat.int .i64 0)).toInt = bitsO ds (argI ds 37) := rfl
  simp only [hx, hq]
  rw [hide_andNot h2 h3 hp, if_pos hk]
  refine ⟨fun hx => absurd hx (by omega), fun _ => ⟨fun hx => absurd hx (by omega), fun _ => ⟨fun he A c => absurd he (by omega), fun hne A c => ?_⟩⟩⟩
  exact h _ ⟨rfl, rfl, argI_fold ds 37, rfl, rfl, rfl, rfl⟩)
noncomputable def con_Hide : Con E0 := ⟨k_Hide, sg_Hide, Hide_s, rfl, bo_Hide, Hide_h⟩
def Gained_s : Spec := fun ds Q => (argL ds 0 = [] ∧ Q [.bool false]) ∨ (∃ id x p, Ev1 (argL ds 0) 2 id 17 x (x + (p + 1)) 0 ∧ 0 ≤ x ∧ x ≤ 3 ∧ (p = 0 ∨ p = 1) ∧ kn p x = false ∧ Q [.bool true])
def k_Gained : Nat := 15
def sg_Gained : Sig := ⟨[(false, [.list 53])], [(false, [.bool])], false, false, false⟩
def tr_Gained : Tree := (.loop [(.int .i64 0), (.int .i64 0)] [(.int .i64), (.int .i64)]
 (.ite (.cmp .lt (.var 2) (.len (.var 0)))
  (.ob (.cmp .ge (.var 2) (.int .i64 0))
  (.ite (.cmp .eq (.elem (.var 0) (.var 2) 0 (.int .i64)) (.int .i64 2))
   (.ite (.cmp .eq (.elem (.var 0) (.var 2) 2 (.int .i64)) (.int .i64 17))
    (.ite (.cmp .ne (.ar .and .i64 (.ar .andNot .i64 (.elem (.var 0) (.var 2) 4 (.int .i64)) (.elem (.var 0) (.var 2) 3 (.int .i64))) (.int .i64 3)) (.int .i64 0))
     (.ret [(.cmp .ge (.var 2) (.int .i64 0))])
     (.again 0 [(.var 1), (.ar .add .i64 (.var 2) (.int .i64 1))]))
    (.again 0 [(.var 1), (.ar .add .i64 (.var 2) (.int .i64 1))]))
   (.again 0 [(.var 1), (.ar .add .i64 (.var 2) (.int .i64 1))])))
  (.ret [(.bool false)])))
theorem wk_Gained : walk E0.cx (sgsN []) 0 15 sg_Gained = tr_Gained := by kernel_rfl
theorem bo_Gained : ∃ x, bodyOf E0.P 15 = some x := bo_of (by kernel_rfl)
theorem Gained_h : Holds E0 k_Gained sg_Gained Gained_s := con_fn wf0 mix0 g0 [] rfl wk_Gained rfl (by
  intro Φ hΦ ds Q hs hcase
  have hl : ds.length = 1 := hs.length.symm
  clear hΦ
  simp only [tr_Gained, wp, den_int, den_bool, den_nili, den_ar, den_cmp, den_not, den_len, den_elem, den_isnil, den_errI, den_ifc, den_rep, den_push, den_app, den_emp, den_upd, row0_econs, row0_enil, den_and, den_beq, den_nil, toInt_int, toBool_bool, xs_rows, xs_list, dflt_int, dflt_bool, of_eq, of_ne, of_lt, of_le, of_gt, of_ge, of_add, of_sub, of_rem, List.map_cons, List.map_nil, Dat.bool.injEq, decide_eq_true_eq, decide_eq_false_iff_not, Bool.not_eq_true', Bool.not_eq_false', beq_iff_eq, bne_iff_ne, beq_eq_false_iff_ne, bne_eq_false_iff_eq, ne_eq, List.append_assoc, List.cons_append, List.nil_append, allS, @den_var0 E0.Δ ds, den_varA, den_varB, hl, Nat.reduceLT, Nat.reduceLeDiff, Nat.reduceSub, List.getD_cons_zero, List.getD_cons_succ, argL_fold ds, argI_fold ds, List.append_assoc, List.cons_append, List.nil_append, toInt_int, toBool_bool, xs_rows, xs_list, Int.toNat_natCast, Dat.bool.injEq]
  refine ⟨fun xs m => xs.getD 1 (.bool false) = .int .i64 0, ⟨0, rfl⟩, ?_⟩
  intro n i m hI
  have hI : Dat.int .i64 i = .int .i64 0 := hI
  cases hI
  rcases hcase with ⟨he, h⟩ | ⟨id, x, p, hev, h0, h1, hp, hk, h⟩
  · rw [he]
    exact ⟨fun hx => absurd hx (by simp), fun _ => h⟩
  · obtain ⟨e1, e2, e3, e4, e5, e6, e7⟩ := hev
    have e2 : (((argL ds 0).getD (0 : Int).toNat []).getD 0 (Dat.int .i64 0)).toInt = 2 := e2
    have e4 : (((argL ds 0).getD (0 : Int).toNat []).getD 2 (Dat.int .i64 0)).toInt = 17 := e4
    have e5 : (((argL ds 0).getD (0 : Int).toNat []).getD 3 (Dat.int .i64 0)).toInt = x := e5
    have e6 : (((argL ds 0).getD (0 : Int).toNat []).getD 4 (Dat.int .i64 0)).toInt = x + (p + 1) := e6
    rw [e1, e2, e4, e5, e6]
    refine ⟨fun _ => ⟨by omega, fun _ => ⟨fun _ => ⟨fun _ => h, fun hx => absurd hx (gain_bits h0 h1 hp hk).1⟩, fun hx => absurd rfl hx⟩, fun hx => absurd rfl hx⟩, fun hx => absurd hx (by decide)⟩)
noncomputable def con_Gained : Con E0 := ⟨k_Gained, sg_Gained, Gained_s, rfl, bo_Gained, Gained_h⟩
def Knows_s : Spec := fun ds Q => (argI ds 18 = 0 ∨ argI ds 18 = 1) ∧ Q [.bool (kn (argI ds 18) (argI ds 17))]
def k_Knows : Nat := 16
def sg_Knows : Sig := ⟨[(true, List.replicate 18 (.int .i64)), (false, [.int .i64])], [(false, [.bool])], false, false, true⟩
def tr_Knows : Tree := (.ob (.or (.not (.or (.cmp .eq (.var 18) (.int .i64 0)) (.cmp .eq (.var 18) (.int .i64 1)))) (.or (.not (.and (.cmp .ge (.var 18) (.int .i64 0)) (.cmp .lt (.var 18) (.int .i64 64)))) (.cmp .ge (.conv .u64 (.var 18)) (.int .u64 0))))
(.ret [(.and (.or (.cmp .eq (.var 18) (.int .i64 0)) (.cmp .eq (.var 18) (.int .i64 1))) (.and (.and (.cmp .ge (.var 18) (.int .i64 0)) (.cmp .lt (.var 18) (.int .i64 64))) (.cmp .eq (.ar .and .u64 (.ar .shr .u64 (.conv .u64 (.var 17)) (.conv .u64 (.var 18))) (.int .u64 1)) (.int .u64 1))))]))
theorem wk_Knows : walk E0.cx (sgsN []) 0 16 sg_Knows = tr_Knows := by kernel_rfl
theorem bo_Knows : ∃ x, bodyOf E0.P 16 = some x := bo_of (by kernel_rfl)
theorem Knows_h : Holds E0 k_Knows sg_Knows Knows_s := con_fn wf0 mix0 g0 [] rfl wk_Knows rfl (by
  intro Φ hΦ ds Q hs ⟨hp, h⟩
  have hl : ds.length = 19 := hs.length.symm
  clear hΦ
  simp only [tr_Knows, wp, den_int, den_bool, den_nili, den_ar, den_cmp, den_not, den_len, den_elem, den_isnil, den_errI, den_ifc, den_rep, den_push, den_app, den_emp, den_upd, row0_econs, row0_enil, den_and, den_beq, den_nil, toInt_int, toBool_bool, xs_rows, xs_list, dflt_int, dflt_bool, of_eq, of_ne, of_lt, of_le, of_gt, of_ge, of_add, of_sub, of_rem, List.map_cons, List.map_nil, Dat.bool.injEq, decide_eq_true_eq, decide_eq_false_iff_not, Bool.not_eq_true', Bool.not_eq_false', beq_iff_eq, bne_iff_ne, beq_eq_false_iff_ne, bne_eq_false_iff_eq, ne_eq, List.append_assoc, List.cons_append, List.nil_append, allS, @den_var0 E0.Δ ds, den_varA, den_varB, hl, Nat.reduceLT, Nat.reduceLeDiff, Nat.reduceSub, List.getD_cons_zero, List.getD_cons_succ, argL_fold ds, argI_fold ds, List.append_assoc, List.cons_append, List.nil_append, toInt_int, toBool_bool, xs_rows, xs_list, Int.toNat_natCast, Dat.bool.injEq, den_or, den_conv]
  have hb : ∀ c : Bool, (decide (0 ≤ argI ds 18) && decide (argI ds 18 < 64) && c) = c := fun c => by
    rw [decide_eq_true (show 0 ≤ argI ds 18 by omega), decide_eq_true (show argI ds 18 < 64 by omega)]; rfl
  have hb2 : (argI ds 18 == 0 || argI ds 18 == 1) = true := by simpa using hp
  have hw : decide (0 ≤ IntKind.u64.wrap (argI ds 18)) = true := decide_eq_true (by rw [wrapU]; omega)
  simp only [hb, hb2, hw, has_kn hp, Bool.true_and, Bool.or_true, true_and]
  exact h)
noncomputable def con_Knows : Con E0 := ⟨k_Knows, sg_Knows, Knows_s, rfl, bo_Knows, Knows_h⟩
def Invert_s : Spec := fun ds Q => argI ds 0 = 2 ∧ ∀ rs : List Dat, rs.length = 6 → argI rs 0 = 2 → argI rs 1 = argI ds 1 → argI rs 2 = argI ds 2 → argI rs 3 = argI ds 4 → argI rs 4 = argI ds 3 → argI rs 5 = argI ds 5 → Q rs
def k_Invert : Nat := 19
def sg_Invert : Sig := ⟨[(true, List.replicate 6 (.int .i64))], [(true, List.replicate 6 (.int .i64))], false, false, false⟩
def tr_Invert : Tree := (.ite (.cmp .eq (.var 0) (.int .i64 0))
 (.ret [(.int .i64 5), (.var 1), (.var 2), (.var 3), (.var 4), (.var 5)])
 (.ite (.cmp .eq (.var 0) (.int .i64 5))
  (.ret [(.int .i64 0), (.var 1), (.var 2), (.var 3), (.var 4), (.var 5)])
  (.ite (.cmp .eq (.var 0) (.int .i64 1))
   (.ret [(.var 0), (.var 1), (.var 4), (.var 5), (.var 2), (.var 3)])
   (.ite (.cmp .eq (.var 0) (.int .i64 2))
    (.ret [(.var 0), (.var 1), (.var 2), (.var 4), (.var 3), (.var 5)])
    (.ite (.cmp .eq (.var 0) (.int .i64 3))
     (.ret [(.var 0), (.var 1), (.var 2), (.var 4), (.var 3), (.var 5)])
     (.ite (.cmp .eq (.var 0) (.int .i64 4))
      (.ret [(.var 0), (.var 1), (.var 2), (.var 4), (.var 3), (.var 5)])
      (.ret [(.var 0), (.var 1), (.var 2), (.var 3), (.var 4), (.var 5)])))))))
theorem wk_Invert : walk E0.cx (sgsN []) 0 19 sg_Invert = tr_Invert := by kernel_rfl
theorem bo_Invert : ∃ x, bodyOf E0.P 19 = some x := bo_of (by kernel_rfl)
theorem Invert_h : Holds E0 k_Invert sg_Invert Invert_s := con_fn wf0 mix0 g0 [] rfl wk_Invert rfl (by
  intro Φ hΦ ds Q hs ⟨h2, h⟩
  have hl : ds.length = 6 := hs.length.symm
  clear hΦ
  simp only [tr_Invert, wp, den_int, den_bool, den_nili, den_ar, den_cmp, den_not, den_len, den_elem, den_isnil, den_errI, den_ifc, den_rep, den_push, den_app, den_emp, den_upd, row0_econs, row0_enil, den_and, den_beq, den_nil, toInt_int, toBool_bool, xs_rows, xs_list, dflt_int, dflt_bool, of_eq, of_ne, of_lt, of_le, of_gt, of_ge, of_add, of_sub, of_rem, List.map_cons, List.map_nil, Dat.bool.injEq, decide_eq_true_eq, decide_eq_false_iff_not, Bool.not_eq_true', Bool.not_eq_false', beq_iff_eq, bne_iff_ne, beq_eq_false_iff_ne, bne_eq_false_iff_eq, ne_eq, List.append_assoc, List.cons_append, List.nil_append, allS, @den_var0 E0.Δ ds, den_varA, den_varB, hl, Nat.reduceLT, Nat.reduceLeDiff, Nat.reduceSub, List.getD_cons_zero, List.getD_cons_succ, argL_fold ds, argI_fold ds, List.append_assoc, List.cons_append, List.nil_append, toInt_int, toBool_bool, xs_rows, xs_list, Int.toNat_natCast, Dat.bool.injEq, h2]
  exact ⟨fun hx => absurd hx (by decide), fun _ => ⟨fun hx => absurd hx (by decide), fun _ => ⟨fun hx => absurd hx (by decide), fun _ => ⟨fun _ => h _ rfl ((argI_fold ds 0).trans h2) (argI_fold ds 1) (argI_fold ds 2) (argI_fold ds 4) (argI_fold ds 3) (argI_fold ds 5), fun hx => absurd trivial hx⟩⟩⟩⟩)
noncomputable def con_Invert : Con E0 := ⟨k_Invert, sg_Invert, Invert_s, rfl, bo_Invert, Invert_h⟩
end Go.Proofs.YtlgfnimahmmgeaaDoor
