/-
  The program's bounds of a state's numbers, and whose a list is.
-/
import Derived.Test.YtonjilfbcofoaaaDoorRefC
namespace Go.Proofs.YtonjilfbcofoaaaDoor
open Go.RowKit
set_option linter.unusedVariables false
set_option linter.unusedSimpArgs false

def k_has : Nat := 38
def sg_has : Sig := ⟨[(true, [.int .i64, .int .i64]), (false, [.int .i64])], [(false, [.bool])], false, false, false⟩
def tr_has : Tree := (.ite (.cmp .ge (.var 2) (.var 0))
 (.ret [(.cmp .le (.var 2) (.var 1))])
 (.ret [(.bool false)]))
theorem wk_has : walk E0.cx (sgsN []) 0 38 sg_has = tr_has := by kernel_rfl
theorem bo_has : ∃ x, bodyOf E0.P 38 = some x := bo_of (by kernel_rfl)
def has_s : Spec := fun ds Q => Q [.bool (inB (argI ds 2) (argI ds 0) (argI ds 1))]
theorem has_h : Holds E0 k_has sg_has has_s := con_each wf0 mix0 g0 [] rfl wk_has rfl (by
  intro l m n Q h
  simp only [has_s, argI, Dat.toInt, inB, List.getD_cons_zero, List.getD_cons_succ] at h
  simp only [tr_has, wp, den, Dat.toInt, Cmp.of, List.nil_append, List.getD_cons_zero, List.getD_cons_succ, List.map_cons, List.map_nil, Dat.bool.injEq, decide_eq_true_eq, decide_eq_false_iff_not, ge_iff_le]
  exact ⟨fun h1 => by simpa [h1] using h, fun h1 => by simpa [h1] using h⟩)
noncomputable def con_has : Con E0 := ⟨k_has, sg_has, has_s, rfl, bo_has, has_h⟩

def loO (f : Nat) : Int := [0, 0, 0, 0, 0, 0, 0, 0, -1073741824, -1073741824, 0, 0, 0, 0, 0, 0, -2, 0].getD f 0
def hiO (m : Int) (f : Nat) : Int := [119, 1, 1, 10, 1, 1, 1073741824, 1073741824, 1073741824, 1073741824, 255, 1, m, 2, 3, m, m, 3].getD f 0
def twos (lo hi : Nat → Int) : Nat → Nat → List Dat
  | _, 0 => []
  | f, n + 1 => .int .i64 (lo f) :: .int .i64 (hi f) :: twos lo hi (f + 1) n
def k_objects : Nat := 37
def sg_objects : Sig := ⟨[(false, [.int .i64])], [(true, List.replicate 36 (.int .i64))], false, false, false⟩
def tr_objects : Tree := (.ret [(.int .i64 0), (.int .i64 119), (.int .i64 0), (.int .i64 1), (.int .i64 0), (.int .i64 1), (.int .i64 0), (.int .i64 10), (.int .i64 0), (.int .i64 1), (.int .i64 0), (.int .i64 1), (.int .i64 0), (.int .i64 1073741824), (.int .i64 0), (.int .i64 1073741824), (.int .i64 (-1073741824)), (.int .i64 1073741824), (.int .i64 (-1073741824)), (.int .i64 1073741824), (.int .i64 0), (.int .i64 255), (.int .i64 0), (.int .i64 1), (.int .i64 0), (.var 0), (.int .i64 0), (.int .i64 2), (.int .i64 0), (.int .i64 3), (.int .i64 0), (.var 0), (.int .i64 (-2)), (.var 0), (.int .i64 0), (.int .i64 3)])
theorem wk_objects : walk E0.cx (sgsN []) 0 37 sg_objects = tr_objects := by kernel_rfl
theorem bo_objects : ∃ x, bodyOf E0.P 37 = some x := bo_of (by kernel_rfl)
def objects_s : Spec := fun ds Q => Q (twos loO (hiO (argI ds 0)) 0 18)
theorem objects_h : Holds E0 k_objects sg_objects objects_s := con_each wf0 mix0 g0 [] rfl wk_objects rfl (by
  intro m Q h
  simp only [objects_s, argI, Dat.toInt, List.getD_cons_zero] at h
  exact h)
noncomputable def con_objects : Con E0 := ⟨k_objects, sg_objects, objects_s, rfl, bo_objects, objects_h⟩

def loP (f : Nat) : Int := [-1073741824, 0, 0, 0, 0, 0, 0, 0, 0].getD f 0
def hiP (f : Nat) : Int := [1073741824, 1000, 1000, 1000, 1000, 1000, 1000, 1, 1].getD f 0
def k_players : Nat := 39
def sg_players : Sig := ⟨[], [(true, List.replicate 18 (.int .i64))], false, false, false⟩
def tr_players : Tree := (.loop [(.int .i64 0), (.int .i64 0), (.int .i64 0), (.int .i64 0), (.int .i64 0), (.int .i64 0), (.int .i64 0), (.int .i64 0), (.int .i64 0), (.int .i64 0), (.int .i64 0), (.int .i64 0), (.int .i64 0), (.int .i64 0), (.int .i64 0), (.int .i64 0), (.int .i64 0), (.int .i64 0), (.int .i64 0)] [(.int .i64), (.int .i64), (.int .i64), (.int .i64), (.int .i64), (.int .i64), (.int .i64), (.int .i64), (.int .i64), (.int .i64), (.int .i64), (.int .i64), (.int .i64), (.int .i64), (.int .i64), (.int .i64), (.int .i64), (.int .i64), (.int .i64)]
 (.ite (.cmp .lt (.var 0) (.int .i64 9))
  (.ob (.cmp .ge (.var 0) (.int .i64 0))
  (.again 0 [(.ar .add .i64 (.var 0) (.int .i64 1)), (.ite (.cmp .eq (.var 0) (.int .i64 0)) (.int .i64 0) (.var 1)), (.ite (.cmp .eq (.var 0) (.int .i64 0)) (.int .i64 1000) (.var 2)), (.ite (.cmp .eq (.var 0) (.int .i64 1)) (.int .i64 0) (.var 3)), (.ite (.cmp .eq (.var 0) (.int .i64 1)) (.int .i64 1000) (.var 4)), (.ite (.cmp .eq (.var 0) (.int .i64 2)) (.int .i64 0) (.var 5)), (.ite (.cmp .eq (.var 0) (.int .i64 2)) (.int .i64 1000) (.var 6)), (.ite (.cmp .eq (.var 0) (.int .i64 3)) (.int .i64 0) (.var 7)), (.ite (.cmp .eq (.var 0) (.int .i64 3)) (.int .i64 1000) (.var 8)), (.ite (.cmp .eq (.var 0) (.int .i64 4)) (.int .i64 0) (.var 9)), (.ite (.cmp .eq (.var 0) (.int .i64 4)) (.int .i64 1000) (.var 10)), (.ite (.cmp .eq (.var 0) (.int .i64 5)) (.int .i64 0) (.var 11)), (.ite (.cmp .eq (.var 0) (.int .i64 5)) (.int .i64 1000) (.var 12)), (.ite (.cmp .eq (.var 0) (.int .i64 6)) (.int .i64 0) (.var 13)), (.ite (.cmp .eq (.var 0) (.int .i64 6)) (.int .i64 1000) (.var 14)), (.ite (.cmp .eq (.var 0) (.int .i64 7)) (.int .i64 0) (.var 15)), (.ite (.cmp .eq (.var 0) (.int .i64 7)) (.int .i64 1000) (.var 16)), (.ite (.cmp .eq (.var 0) (.int .i64 8)) (.int .i64 0) (.var 17)), (.ite (.cmp .eq (.var 0) (.int .i64 8)) (.int .i64 1000) (.var 18))]))
  (.ret [(.int .i64 (-1073741824)), (.int .i64 1073741824), (.var 3), (.var 4), (.var 5), (.var 6), (.var 7), (.var 8), (.var 9), (.var 10), (.var 11), (.var 12), (.var 13), (.var 14), (.int .i64 0), (.int .i64 1), (.int .i64 0), (.int .i64 1)])))
theorem wk_players : walk E0.cx (sgsN []) 0 39 sg_players = tr_players := by kernel_rfl
theorem bo_players : ∃ x, bodyOf E0.P 39 = some x := bo_of (by kernel_rfl)
def players_s : Spec := fun ds Q => Q (twos loP hiP 0 9)
theorem players_h : Holds E0 k_players sg_players players_s := con_by wf0 mix0 g0 [] rfl wk_players rfl (by
  intro ds Q hs h
  have hl : ds.length = 0 := hs.length.symm
  simp only [players_s] at h
  simp only [tr_players, wp, den_int, den_bool, den_nili, den_ar, den_cmp, den_not, den_len, den_elem, den_isnil, den_errI, den_ifc, den_rep, den_push, den_app, den_emp, den_upd, row0_econs, row0_enil, den_and, den_beq, den_nil, toInt_int, toBool_bool, xs_rows, xs_list, dflt_int, dflt_bool, of_eq, of_ne, of_lt, of_le, of_gt, of_ge, of_add, of_sub, of_rem, List.map_cons, List.map_nil, Dat.bool.injEq, decide_eq_true_eq, decide_eq_false_iff_not, Bool.not_eq_true', Bool.not_eq_false', beq_iff_eq, bne_iff_ne, beq_eq_false_iff_ne, bne_eq_false_iff_eq, ne_eq, List.append_assoc, List.cons_append, List.nil_append, allS, @den_var0 E0.Δ ds, den_varA, den_varB, hl, Nat.reduceLT, Nat.reduceLeDiff, Nat.reduceSub, List.getD_cons_zero, List.getD_cons_succ, argL_fold ds, argI_fold ds, List.append_assoc, List.cons_append, List.nil_append, toInt_int, toBool_bool, xs_rows, xs_list, Int.toNat_natCast, Dat.bool.injEq]
  refine ⟨fun xs m => ∃ i : Nat, xs = .int .i64 i :: twos (fun _ => 0) (fun k => if k < i then 1000 else 0) 0 9 ∧ i ≤ 9 ∧ m = 9 - i, ⟨_, 0, rfl, by omega, rfl⟩, ?_⟩
  intro a0 a1 a2 a3 a4 a5 a6 a7 a8 a9 a10 a11 a12 a13 a14 a15 a16 a17 a18 m ⟨i, e, hi, hm⟩
  cases e
  obtain rfl := List.length_eq_zero_iff.1 hl
  refine ⟨fun hlt => ⟨by omega, 9 - (i + 1), by omega, i + 1, ?_, by omega, rfl⟩, fun hge => ?_⟩
  · match i, (show i < 9 by omega) with
    | 0, _ | 1, _ | 2, _ | 3, _ | 4, _ | 5, _ | 6, _ | 7, _ | 8, _ => rfl
  · have e9 : i = 9 := by omega
    subst e9
    exact h)
noncomputable def con_players : Con E0 := ⟨k_players, sg_players, players_s, rfl, bo_players, players_h⟩

def loG (f : Nat) : Int := [0, 0, 0, 0, 0, 0, 0].getD f 0
def hiG (f : Nat) : Int := [1073741824, 1, 7, 1, 1, 4096, 3].getD f 0
def k_game : Nat := 40
def sg_game : Sig := ⟨[], [(true, List.replicate 14 (.int .i64))], false, false, false⟩
def tr_game : Tree := (.ret [(.int .i64 0), (.int .i64 1073741824), (.int .i64 0), (.int .i64 1), (.int .i64 0), (.int .i64 7), (.int .i64 0), (.int .i64 1), (.int .i64 0), (.int .i64 1), (.int .i64 0), (.int .i64 4096), (.int .i64 0), (.int .i64 3)])
theorem wk_game : walk E0.cx (sgsN []) 0 40 sg_game = tr_game := by kernel_rfl
theorem bo_game : ∃ x, bodyOf E0.P 40 = some x := bo_of (by kernel_rfl)
def game_s : Spec := fun ds Q => Q (twos loG hiG 0 7)
theorem game_h : Holds E0 k_game sg_game game_s := con_each wf0 mix0 g0 [] rfl wk_game rfl (by
  intro Q h
  exact h)
noncomputable def con_game : Con E0 := ⟨k_game, sg_game, game_s, rfl, bo_game, game_h⟩

def sideB (z : Int) : Int := if z < 0 ∨ 11 ≤ z then 0 else if z < 8 then z - z.tmod 2 else z
def sideP (z : Int) : Int := if z < 0 ∨ 8 ≤ z then 0 else z.tmod 2
def k_Side : Nat := 52
def sg_Side : Sig := ⟨[(false, [.int .i64])], [(false, [.int .i64]), (false, [.int .i64]), (false, [.bool])], false, false, false⟩
def tr_Side : Tree := (.ite (.cmp .lt (.var 0) (.int .i64 0))
 (.ret [(.int .i64 0), (.int .i64 0), (.bool false)])
 (.ite (.cmp .ge (.var 0) (.int .i64 11))
  (.ret [(.int .i64 0), (.int .i64 0), (.bool false)])
  (.ite (.cmp .lt (.var 0) (.int .i64 8))
   (.ret [(.ar .andNot .i64 (.var 0) (.int .i64 1)), (.ar .and .i64 (.var 0) (.int .i64 1)), (.bool true)])
   (.ret [(.var 0), (.int .i64 0), (.bool false)]))))
theorem wk_Side : walk E0.cx (sgsN []) 0 52 sg_Side = tr_Side := by kernel_rfl
theorem bo_Side : ∃ x, bodyOf E0.P 52 = some x := bo_of (by kernel_rfl)
def Side_s : Spec := fun ds Q => Q [.int .i64 (sideB (argI ds 0)), .int .i64 (sideP (argI ds 0)), .bool (decide (0 ≤ argI ds 0 ∧ argI ds 0 < 8))]
theorem Side_h : Holds E0 k_Side sg_Side Side_s := con_each wf0 mix0 g0 [] rfl wk_Side rfl (by
  intro z Q h
  simp only [Side_s, argI, Dat.toInt, List.getD_cons_zero, sideB, sideP] at h
  simp only [tr_Side, wp, den, Dat.toInt, Cmp.of, List.nil_append, List.getD_cons_zero, List.getD_cons_succ, List.map_cons, List.map_nil, Dat.bool.injEq, decide_eq_true_eq, decide_eq_false_iff_not, ge_iff_le]
  refine ⟨fun h0 => ?_, fun h0 => ⟨fun h1 => ?_, fun h1 => ⟨fun h2 => ?_, fun h2 => ?_⟩⟩⟩
  · rw [if_pos (.inl h0), if_pos (.inl h0)] at h
    simpa [show ¬ (0 ≤ z) by omega] using h
  · rw [if_pos (.inr h1), if_pos (.inr (by omega))] at h
    simpa [show ¬ (z < 8) by omega] using h
  · have hz : z = 0 ∨ z = 1 ∨ z = 2 ∨ z = 3 ∨ z = 4 ∨ z = 5 ∨ z = 6 ∨ z = 7 := by omega
    rcases hz with rfl | rfl | rfl | rfl | rfl | rfl | rfl | rfl <;> exact h
  · rw [if_neg (by omega), if_neg h2, if_pos (.inr (by omega))] at h
    simpa [show ¬ (z < 8) by omega] using h)
noncomputable def con_Side : Con E0 := ⟨k_Side, sg_Side, Side_s, rfl, bo_Side, Side_h⟩

def k_stands : Nat := 41
def sg_stands : Sig := ⟨[(true, List.replicate 18 (.int .i64)), (false, [.int .i64])], [(false, [.bool])], false, false, false⟩
def tr_stands : Tree := (.call k_Side [(.var 18)] [(.int .i64), (.int .i64), .bool]
(.ite (.var 21)
 (.ite (.cmp .eq (.var 1) (.var 20))
  (.ret [(.cmp .eq (.var 13) (.int .i64 0))])
  (.ret [(.bool false)]))
 (.ite (.cmp .eq (.var 18) (.int .i64 8))
  (.ret [(.cmp .ne (.var 13) (.int .i64 2))])
  (.ret [(.bool true)]))))
theorem wk_stands : walk E0.cx (sgsN [(52, sg_Side)]) 0 41 sg_stands = tr_stands := by kernel_rfl
theorem bo_stands : ∃ x, bodyOf E0.P 41 = some x := bo_of (by kernel_rfl)
theorem sp_stands_Side : specC [con_Side] k_Side = Side_s := rfl
def stands_s : Spec := fun ds Q => 0 ≤ argI ds 18 ∧ argI ds 18 < 11 ∧ ∀ b : Bool, (b = true ↔ standsP (ds.take 18) (argI ds 18)) → Q [.bool b]
theorem stands_h : Holds E0 k_stands sg_stands stands_s := con_by wf0 mix0 g0 [con_Side] rfl wk_stands rfl (by
  intro ds Q hs ⟨h1, h2, h⟩
  have hl : ds.length = 19 := hs.length.symm
  simp only [tr_stands, wp, den_int, den_bool, den_nili, den_ar, den_cmp, den_not, den_len, den_elem, den_isnil, den_errI, den_ifc, den_rep, den_push, den_app, den_emp, den_upd, row0_econs, row0_enil, den_and, den_beq, den_nil, toInt_int, toBool_bool, xs_rows, xs_list, dflt_int, dflt_bool, of_eq, of_ne, of_lt, of_le, of_gt, of_ge, of_add, of_sub, of_rem, List.map_cons, List.map_nil, Dat.bool.injEq, decide_eq_true_eq, decide_eq_false_iff_not, Bool.not_eq_true', Bool.not_eq_false', beq_iff_eq, bne_iff_ne, beq_eq_false_iff_ne, bne_eq_false_iff_eq, ne_eq, List.append_assoc, List.cons_append, List.nil_append, allS, @den_var0 E0.Δ ds, den_varA, den_varB, hl, Nat.reduceLT, Nat.reduceLeDiff, Nat.reduceSub, List.getD_cons_zero, List.getD_cons_succ, argL_fold ds, argI_fold ds, List.append_assoc, List.cons_append, List.nil_append, toInt_int, toBool_bool, xs_rows, xs_list, Int.toNat_natCast, Dat.bool.injEq, sp_stands_Side, Side_s, argI, List.getD_cons_zero, List.getD_cons_succ]
  have e1 : rowI (ds.take 18) 1 = (ds.getD 1 (.int .i64 0)).toInt := by simp [rowI, List.getD_eq_getElem?_getD, List.getElem?_take]
  have e13 : rowI (ds.take 18) 13 = (ds.getD 13 (.int .i64 0)).toInt := by simp [rowI, List.getD_eq_getElem?_getD, List.getElem?_take]
  simp only [standsP, e1, e13, argI] at h h1 h2
  refine ⟨fun h3 => ⟨fun h4 => h _ ?_, fun h4 => h _ ?_⟩, fun h3 => ⟨fun h4 => h _ ?_, fun h4 => h _ ?_⟩⟩
  · rw [sideP, if_neg (by omega)] at h4
    simp only [beq_iff_eq]
    exact ⟨fun h5 => ⟨fun _ => ⟨h4, h5⟩, fun h6 => by omega⟩, fun h5 => (h5.1 h3.2).2⟩
  · rw [sideP, if_neg (by omega)] at h4
    simp only [Bool.false_eq_true, false_iff]
    exact fun h5 => h4 (h5.1 h3.2).1
  · simp only [bne_iff_ne, ne_eq]
    exact ⟨fun h5 => ⟨fun h6 => by omega, fun _ => h5⟩, fun h5 => h5.2 h4⟩
  · simp only [true_iff]
    exact ⟨fun h6 => by omega, fun h6 => absurd h6 h4⟩)
noncomputable def con_stands : Con E0 := ⟨k_stands, sg_stands, stands_s, rfl, bo_stands, stands_h⟩
end Go.Proofs.YtonjilfbcofoaaaDoor
