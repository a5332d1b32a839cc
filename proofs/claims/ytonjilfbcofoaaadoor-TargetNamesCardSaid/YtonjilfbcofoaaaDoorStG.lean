/-
  The program's check of a state, and errors' numbers.
-/
import Derived.Test.YtonjilfbcofoaaaDoorStF
import Derived.Test.YtonjilfbcofoaaaDoorRefD
import Derived.Test.YtonjilfbcofoaaaDoorSymU
namespace Go.Proofs.YtonjilfbcofoaaaDoor
open Go.RowKit
set_option linter.unusedVariables false
set_option linter.unusedSimpArgs false

theorem sel9i {i : Nat} (hi : i < 9) (x : Dat) : ([Dat.int .i64 4, .int .i64 5, .int .i64 6, .int .i64 7, .int .i64 8, .int .i64 9, .int .i64 10, .int .i64 11, .int .i64 12].getD i x).toInt = ((4 + i : Nat) : Int) := by
  match i, hi with
  | 0, _ | 1, _ | 2, _ | 3, _ | 4, _ | 5, _ | 6, _ | 7, _ | 8, _ => rfl
theorem selV18 (o : List Dat) {f : Nat} (hf : f < 18) (x : Dat) : ([o.getD 0 (.bool false), o.getD 1 (.bool false), o.getD 2 (.bool false), o.getD 3 (.bool false), o.getD 4 (.bool false), o.getD 5 (.bool false), o.getD 6 (.bool false), o.getD 7 (.bool false), o.getD 8 (.bool false), o.getD 9 (.bool false), o.getD 10 (.bool false), o.getD 11 (.bool false), o.getD 12 (.bool false), o.getD 13 (.bool false), o.getD 14 (.bool false), o.getD 15 (.bool false), o.getD 16 (.bool false), o.getD 17 (.bool false)].getD f x).toInt = rowI o f := by
  match f, hf with
  | 0, _ | 1, _ | 2, _ | 3, _ | 4, _ | 5, _ | 6, _ | 7, _ | 8, _ | 9, _ | 10, _ | 11, _ | 12, _ | 13, _ | 14, _ | 15, _ | 16, _ | 17, _ => simp only [List.getD_cons_zero, List.getD_cons_succ, argI_fold]; rfl
  | n + 18, h => exact absurd h (by omega)
theorem formedP_iff (o : List Dat) : formedP o ↔ (rowI o 3 ≠ 8 → ∀ i, i < 9 → rowI o (4 + i) = 0) ∧ (rowI o 3 < 8 → rowI o 2 = rowI o 1) ∧ (rowI o 3 = 9 ∨ rowI o 16 = 0) := by
  refine and_congr (imp_congr_right fun _ => ?_) Iff.rfl
  constructor
  · rintro ⟨h4, h5, h6, h7, h8, h9, h10, h11, h12⟩ i hi
    match i, hi with
    | 0, _ => exact h4
    | 1, _ => exact h5
    | 2, _ => exact h6
    | 3, _ => exact h7
    | 4, _ => exact h8
    | 5, _ => exact h9
    | 6, _ => exact h10
    | 7, _ => exact h11
    | 8, _ => exact h12
  · intro h
    exact ⟨h 0 (by omega), h 1 (by omega), h 2 (by omega), h 3 (by omega), h 4 (by omega), h 5 (by omega), h 6 (by omega), h 7 (by omega), h 8 (by omega)⟩
def k_formed : Nat := 33
def sg_formed : Sig := ⟨[(true, List.replicate 18 (.int .i64))], [(false, [.bool])], false, false, false⟩
def tr_formed : Tree := (.ite (.cmp .ne (.var 3) (.int .i64 8))
 (.loop [(.int .i64 0), (.int .i64 0)] [(.int .i64), (.int .i64)]
  (.ite (.cmp .lt (.var 19) (.int .i64 9))
   (.ob (.cmp .ge (.var 19) (.int .i64 0))
   (.ob (.cmp .ge (.sel (.econs (.int .i64 4) (.econs (.int .i64 5) (.econs (.int .i64 6) (.econs (.int .i64 7) (.econs (.int .i64 8) (.econs (.int .i64 9) (.econs (.int .i64 10) (.econs (.int .i64 11) (.econs (.int .i64 12) .enil))))))))) (.var 19) (.int .i64)) (.int .i64 0))
   (.ob (.cmp .lt (.sel (.econs (.int .i64 4) (.econs (.int .i64 5) (.econs (.int .i64 6) (.econs (.int .i64 7) (.econs (.int .i64 8) (.econs (.int .i64 9) (.econs (.int .i64 10) (.econs (.int .i64 11) (.econs (.int .i64 12) .enil))))))))) (.var 19) (.int .i64)) (.int .i64 18))
   (.ite (.cmp .ne (.sel (.econs (.var 0) (.econs (.var 1) (.econs (.var 2) (.econs (.var 3) (.econs (.var 4) (.econs (.var 5) (.econs (.var 6) (.econs (.var 7) (.econs (.var 8) (.econs (.var 9) (.econs (.var 10) (.econs (.var 11) (.econs (.var 12) (.econs (.var 13) (.econs (.var 14) (.econs (.var 15) (.econs (.var 16) (.econs (.var 17) .enil)))))))))))))))))) (.sel (.econs (.int .i64 4) (.econs (.int .i64 5) (.econs (.int .i64 6) (.econs (.int .i64 7) (.econs (.int .i64 8) (.econs (.int .i64 9) (.econs (.int .i64 10) (.econs (.int .i64 11) (.econs (.int .i64 12) .enil))))))))) (.var 19) (.int .i64)) (.int .i64)) (.int .i64 0))
    (.ite (.cmp .ge (.var 19) (.int .i64 0))
     (.ret [(.bool false)])
     (.ite (.cmp .lt (.var 3) (.int .i64 8))
      (.ite (.cmp .ne (.var 2) (.var 1))
       (.ret [(.bool false)])
       (.ret [(.cmp .eq (.var 16) (.int .i64 0))]))
      (.ite (.cmp .eq (.var 3) (.int .i64 9))
       (.ret [(.bool true)])
       (.ret [(.cmp .eq (.var 16) (.int .i64 0))]))))
    (.again 0 [(.var 18), (.ar .add .i64 (.var 19) (.int .i64 1))])))))
   (.ite (.cmp .lt (.var 3) (.int .i64 8))
    (.ite (.cmp .ne (.var 2) (.var 1))
     (.ret [(.bool false)])
     (.ret [(.cmp .eq (.var 16) (.int .i64 0))]))
    (.ite (.cmp .eq (.var 3) (.int .i64 9))
     (.ret [(.bool true)])
     (.ret [(.cmp .eq (.var 16) (.int .i64 0))])))))
 (.ret [(.cmp .eq (.var 16) (.int .i64 0))]))
theorem wk_formed : walk E0.cx (sgsN []) 0 33 sg_formed = tr_formed := by kernel_rfl
theorem bo_formed : ∃ x, bodyOf E0.P 33 = some x := bo_of (by kernel_rfl)
def formed_s : Spec := iff_o formedP
theorem formed_h : Holds E0 k_formed sg_formed formed_s := con_by wf0 mix0 g0 [] rfl wk_formed rfl (by
  intro ds Q hs h
  have hl : ds.length = 18 := hs.length.symm
  simp only [tr_formed, wp, den_int, den_bool, den_nili, den_ar, den_cmp, den_not, den_len, den_elem, den_isnil, den_errI, den_ifc, den_rep, den_push, den_app, den_emp, den_upd, row0_econs, row0_enil, den_and, den_beq, den_nil, toInt_int, toBool_bool, xs_rows, xs_list, dflt_int, dflt_bool, of_eq, of_ne, of_lt, of_le, of_gt, of_ge, of_add, of_sub, of_rem, List.map_cons, List.map_nil, Dat.bool.injEq, decide_eq_true_eq, decide_eq_false_iff_not, Bool.not_eq_true', Bool.not_eq_false', beq_iff_eq, bne_iff_ne, beq_eq_false_iff_ne, bne_eq_false_iff_eq, ne_eq, List.append_assoc, List.cons_append, List.nil_append, allS, @den_var0 E0.Δ ds, den_varA, den_varB, hl, Nat.reduceLT, Nat.reduceLeDiff, Nat.reduceSub, List.getD_cons_zero, List.getD_cons_succ, argL_fold ds, argI_fold ds, List.append_assoc, List.cons_append, List.nil_append, toInt_int, toBool_bool, xs_rows, xs_list, Int.toNat_natCast, Dat.bool.injEq, argI_rowI]
  have rest : (rowI ds 3 ≠ 8 → ∀ i, i < 9 → rowI ds (4 + i) = 0) → (rowI ds 3 < 8 → (¬rowI ds 2 = rowI ds 1 → Q [.bool false]) ∧ (rowI ds 2 = rowI ds 1 → (rowI ds 3 = 9 → Q [.bool true]) ∧ (¬rowI ds 3 = 9 → Q [.bool (rowI ds 16 == 0)]))) ∧ (¬rowI ds 3 < 8 → (rowI ds 3 = 9 → Q [.bool true]) ∧ (¬rowI ds 3 = 9 → Q [.bool (rowI ds 16 == 0)])) := fun hr =>
    ⟨fun h1 => ⟨fun h2 => h _ (by rw [formedP_iff]; simp only [Bool.false_eq_true, false_iff]; exact fun hP => h2 (hP.2.1 h1)), fun h2 => ⟨fun h3 => h _ (by rw [formedP_iff]; simp only [true_iff]; exact ⟨hr, fun _ => h2, .inl h3⟩), fun h3 => h _ (by rw [formedP_iff, beq_iff_eq]; exact ⟨fun h4 => ⟨hr, fun _ => h2, .inr h4⟩, fun hP => hP.2.2.resolve_left h3⟩)⟩⟩,
      fun h1 => ⟨fun h3 => h _ (by rw [formedP_iff]; simp only [true_iff]; exact ⟨hr, fun h4 => absurd h4 h1, .inl h3⟩), fun h3 => h _ (by rw [formedP_iff, beq_iff_eq]; exact ⟨fun h4 => ⟨hr, fun h4 => absurd h4 h1, .inr h4⟩, fun hP => hP.2.2.resolve_left h3⟩)⟩⟩
  refine ⟨fun h8 => ?_, fun h8 => ((rest fun hx => absurd hx (by omega)).2 (by omega)).2 (by omega)⟩
  refine ⟨fun xs m => ∃ (n : Int) (i : Nat), xs = [.int .i64 n, .int .i64 i] ∧ i ≤ 9 ∧ (∀ k, k < i → rowI ds (4 + k) = 0) ∧ m = 9 - i, ⟨_, 0, 0, rfl, by omega, by intro k hk; omega, rfl⟩, ?_⟩
  intro n i' m ⟨_, i, e, hi, hall, hm⟩
  cases e
  refine ⟨fun hlt => ⟨by omega, ?_⟩, fun hge => have r := rest (fun _ k hk => hall k (by omega)); ⟨fun a => ⟨(r.1 a).1, fun b => ((r.1 a).2 b).2 (by omega)⟩, r.2⟩⟩
  have hi9 : i < 9 := by omega
  simp only [den_sel, row0_econs, row0_enil, den_elem, den_len, @den_var0 E0.Δ ds, den_varA, den_varB, hl, Nat.reduceLT, Nat.reduceLeDiff, Nat.reduceSub, List.getD_cons_zero, List.getD_cons_succ, argL_fold ds, argI_fold ds, List.append_assoc, List.cons_append, List.nil_append, toInt_int, toBool_bool, xs_rows, xs_list, Int.toNat_natCast, Dat.bool.injEq, den_int, sel9i hi9, selV18 ds (show 4 + i < 18 by omega)]
  refine ⟨by omega, by omega, fun hne => ⟨fun _ => h _ ?_, fun hx => absurd (show (0 : Int) ≤ (i : Int) by omega) hx⟩, fun he => ⟨9 - (i + 1), by omega, n, i + 1, ?_, by omega, fun k hk => ?_, rfl⟩⟩
  · rw [formedP_iff]; simp only [Bool.false_eq_true, false_iff]
    exact fun hP => hne (hP.1 h8 i hi9)
  · rw [wrap64 (by omega) (by omega)]; rfl
  · by_cases hki : k = i
    · subst hki; exact he
    · exact hall k (by omega))
noncomputable def con_formed : Con E0 := ⟨k_formed, sg_formed, formed_s, rfl, bo_formed, formed_h⟩

def k_Check : Nat := 24
def sg_Check : Sig := ⟨[(true, [.list 50] ++ List.replicate 11 (.list 3) ++ List.replicate 25 (.int .i64))], [(false, [.err])], false, false, false⟩
def tr_Check : Tree := (.ite (.cmp .gt (.len (.var 0)) (.int .i64 400))
 (.ret [(.ifc (.int .i64 5))])
 (.call k_ranges [(.var 0), (.var 1), (.var 2), (.var 3), (.var 4), (.var 5), (.var 6), (.var 7), (.var 8), (.var 9), (.var 10), (.var 11), (.var 12), (.var 13), (.var 14), (.var 15), (.var 16), (.var 17), (.var 18), (.var 19), (.var 20), (.var 21), (.var 22), (.var 23), (.var 24), (.var 25), (.var 26), (.var 27), (.var 28), (.var 29), (.var 30), (.var 31), (.var 32), (.var 33), (.var 34), (.var 35), (.var 36)] [.bool]
 (.ite (.not (.var 37))
  (.ret [(.ifc (.int .i64 1))])
  (.call k_zones [(.var 0), (.var 1), (.var 2), (.var 3), (.var 4), (.var 5), (.var 6), (.var 7), (.var 8), (.var 9), (.var 10), (.var 11), (.var 12), (.var 13), (.var 14), (.var 15), (.var 16), (.var 17), (.var 18), (.var 19), (.var 20), (.var 21), (.var 22), (.var 23), (.var 24), (.var 25), (.var 26), (.var 27), (.var 28), (.var 29), (.var 30), (.var 31), (.var 32), (.var 33), (.var 34), (.var 35), (.var 36)] [.bool]
  (.ite (.not (.var 38))
   (.ret [(.ifc (.int .i64 12))])
   (.loop [(.int .i64 0), (.int .i64 0)] [(.int .i64), (.int .i64)]
    (.ite (.cmp .lt (.var 40) (.len (.var 0)))
     (.ob (.cmp .ge (.var 40) (.int .i64 0))
     (.call k_formed [(.elem (.var 0) (.var 40) 0 (.int .i64)), (.elem (.var 0) (.var 40) 1 (.int .i64)), (.elem (.var 0) (.var 40) 2 (.int .i64)), (.elem (.var 0) (.var 40) 3 (.int .i64)), (.elem (.var 0) (.var 40) 4 (.int .i64)), (.elem (.var 0) (.var 40) 5 (.int .i64)), (.elem (.var 0) (.var 40) 6 (.int .i64)), (.elem (.var 0) (.var 40) 7 (.int .i64)), (.elem (.var 0) (.var 40) 8 (.int .i64)), (.elem (.var 0) (.var 40) 9 (.int .i64)), (.elem (.var 0) (.var 40) 10 (.int .i64)), (.elem (.var 0) (.var 40) 11 (.int .i64)), (.elem (.var 0) (.var 40) 12 (.int .i64)), (.elem (.var 0) (.var 40) 13 (.int .i64)), (.elem (.var 0) (.var 40) 14 (.int .i64)), (.elem (.var 0) (.var 40) 15 (.int .i64)), (.elem (.var 0) (.var 40) 16 (.int .i64)), (.elem (.var 0) (.var 40) 17 (.int .i64))] [.bool]
     (.ite (.not (.var 41))
      (.ite (.cmp .ge (.var 40) (.int .i64 0))
       (.ret [(.ifc (.int .i64 2))])
       (.ret [.nili]))
      (.again 0 [(.var 39), (.ar .add .i64 (.var 40) (.int .i64 1))]))))
     (.ret [.nili]))))))))
theorem wk_Check : walk E0.cx (sgsN [(29, sg_ranges), (30, sg_zones), (33, sg_formed)]) 0 24 sg_Check = tr_Check := by kernel_rfl
theorem bo_Check : ∃ x, bodyOf E0.P 24 = some x := bo_of (by kernel_rfl)
theorem sp_Check_ranges : specC [con_ranges, con_zones, con_formed] k_ranges = ranges_s := rfl
theorem sp_Check_zones : specC [con_ranges, con_zones, con_formed] k_zones = zones_s := rfl
theorem sp_Check_formed : specC [con_ranges, con_zones, con_formed] k_formed = formed_s := rfl
def Check_s : Spec := fun ds Q => Sm ds ∧ ∀ n : Int, errP ds n → Q [errV n]
theorem Check_h : Holds E0 k_Check sg_Check Check_s := con_by wf0 mix0 g0 [con_ranges, con_zones, con_formed] rfl wk_Check rfl (by
  intro ds Q hs ⟨hsm, h⟩
  have hl : ds.length = 37 := hs.length.symm
  have hn := hsm 0 (by omega)
  have h5 := h 5
  have h1 := h 1
  have h12 := h 12
  have h2 := h 2
  have h0 := h 0
  simp only [errV, if_pos, Int.reduceEq, if_false] at h5 h1 h12 h2 h0
  simp only [tr_Check, wp, den_int, den_bool, den_nili, den_ar, den_cmp, den_not, den_len, den_elem, den_isnil, den_errI, den_ifc, den_rep, den_push, den_app, den_emp, den_upd, row0_econs, row0_enil, den_and, den_beq, den_nil, toInt_int, toBool_bool, xs_rows, xs_list, dflt_int, dflt_bool, of_eq, of_ne, of_lt, of_le, of_gt, of_ge, of_add, of_sub, of_rem, List.map_cons, List.map_nil, Dat.bool.injEq, decide_eq_true_eq, decide_eq_false_iff_not, Bool.not_eq_true', Bool.not_eq_false', beq_iff_eq, bne_iff_ne, beq_eq_false_iff_ne, bne_eq_false_iff_eq, ne_eq, List.append_assoc, List.cons_append, List.nil_append, allS, sp_Check_ranges, sp_Check_zones, sp_Check_formed, ranges_s, zones_s, formed_s, iff_s, iff_o, @den_var0 E0.Δ ds, den_varA, den_varB, hl, Nat.reduceLT, Nat.reduceLeDiff, Nat.reduceSub, List.getD_cons_zero, List.getD_cons_succ, argL_fold ds, argI_fold ds, List.append_assoc, List.cons_append, List.nil_append, toInt_int, toBool_bool, xs_rows, xs_list, Int.toNat_natCast, Dat.bool.injEq, fold37 hl, formed_row]
  refine ⟨fun hf => h5 (by unfold errP; rw [if_pos (by omega)]), fun hf => ⟨hsm, fun b hb => ⟨fun e => h1 ?_, fun e => ⟨hsm, fun b' hb' => ⟨fun e' => h12 ?_, fun e' => ?_⟩⟩⟩⟩⟩
  · subst e
    unfold errP; rw [if_neg (by omega)]
    exact .inl ⟨fun hP => Bool.noConfusion (hb.2 hP), rfl⟩
  · subst e e'
    unfold errP; rw [if_neg (by omega)]
    exact .inr (.inl ⟨hb.1 rfl, fun hP => Bool.noConfusion (hb'.2 hP), rfl⟩)
  · subst e e'
    have hR := hb.1 rfl
    have hZ := hb'.1 rfl
    clear hb hb'
    refine ⟨fun xs m => ∃ (n : Int) (i : Nat), xs = [.int .i64 n, .int .i64 i] ∧ i ≤ (argL ds 0).length ∧ (∀ o ∈ (argL ds 0).take i, formedP o) ∧ m = (argL ds 0).length - i, ⟨_, 0, 0, rfl, by omega, by simp, rfl⟩, ?_⟩
    intro n i' m ⟨_, i, e, hi, hall, hm⟩
    cases e
    refine ⟨fun hlt => ⟨by omega, ?_⟩, fun hge => ?_⟩
    · have hi2 : i < (argL ds 0).length := by omega
      simp only [Int.toNat_natCast, getD_lt hi2]
      intro b hb
      refine ⟨fun e => ⟨fun _ => h2 ?_, fun hx => absurd (show (0 : Int) ≤ (i : Int) by omega) hx⟩, fun e => ?_⟩
      · subst e
        unfold errP; rw [if_neg (by omega)]
        exact .inr (.inr (.inl ⟨hR, hZ, fun hP => Bool.noConfusion (hb.2 (hP _ (List.getElem_mem hi2))), rfl⟩))
      · subst e
        refine ⟨(argL ds 0).length - (i + 1), by omega, n, i + 1, ?_, by omega, all_take hall hi2 (hb.1 rfl), rfl⟩
        rw [wrap64 (by omega) (by omega)]; rfl
    · refine h0 ?_
      unfold errP; rw [if_neg (by omega)]
      refine .inr (.inr (.inr ⟨hR, hZ, ?_, rfl⟩))
      rw [List.take_of_length_le (by omega)] at hall; exact hall)
noncomputable def con_Check : Con E0 := ⟨k_Check, sg_Check, Check_s, rfl, bo_Check, Check_h⟩

end Go.Proofs.YtonjilfbcofoaaaDoor
