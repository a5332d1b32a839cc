/-
  The law on whose a list is: that it holds.
-/
import Derived.Test.YtkoenohfgpjkjaaDoorStJ
namespace Go.Proofs.YtkoenohfgpjkjaaDoor
open Go.RowKit
set_option linter.unusedVariables false
set_option linter.unusedSimpArgs false

def env8 (ds : List Dat) (b0 b1 is : Bool) (x w : Int) : List Dat := ds ++ [.bool b0, .bool b1, .int .i64 (sideB (argI ds 37)), .int .i64 (sideP (argI ds 37)), .bool (decide (0 ≤ argI ds 37 ∧ argI ds 37 < 8)), .int .i64 x, .bool is, .int .i64 w]
theorem lzones_2 {ds : List Dat} {Q : List Dat → Prop} (hl : ds.length = 39) (h : Q [.bool true]) (hsm : Sm ds) {C : Nat → Spec} {b0 b1 is : Bool} {x w : Int} {z : Nat} (hz : argI ds 37 = z) (hz11 : z < 11) (ht : TopOk ds (argI ds 37) x is) :
    wp E0.Δ C Q tr_lzones_2 (env8 ds b0 b1 is x w) [] := by
  obtain ⟨ht1, ht2⟩ := ht.2 z hz hz11
  have hb := hsm (z + 1) (by omega)
  unfold env8
  have hd : ∀ e s, den E0.Δ (ds ++ e) (.sel (.econs (.var 1) (.econs (.var 2) (.econs (.var 3) (.econs (.var 4) (.econs (.var 5) (.econs (.var 6) (.econs (.var 7) (.econs (.var 8) (.econs (.var 9) (.econs (.var 10) (.econs (.var 11) .enil))))))))))) (.var 37) s) = ds.getD (z + 1) (.bool false) := fun e s => den_listsG (by omega) (by simp only [@den_var0 E0.Δ ds, den_varA, den_varB, hl, Nat.reduceLT, Nat.reduceLeDiff, Nat.reduceSub, List.getD_cons_zero, List.getD_cons_succ, argL_fold ds, argI_fold ds, List.append_assoc, List.cons_append, List.nil_append, toInt_int, toBool_bool, xs_rows, xs_list, Int.toNat_natCast, Dat.bool.injEq]; exact hz) hz11
  simp only [tr_lzones_2, tr_lzones_1, wp, den_int, den_bool, den_nili, den_ar, den_cmp, den_not, den_len, den_elem, den_isnil, den_errI, den_ifc, den_rep, den_push, den_app, den_emp, den_upd, row0_econs, row0_enil, den_and, den_beq, den_nil, toInt_int, toBool_bool, xs_rows, xs_list, dflt_int, dflt_bool, of_eq, of_ne, of_lt, of_le, of_gt, of_ge, of_add, of_sub, of_rem, List.map_cons, List.map_nil, Dat.bool.injEq, decide_eq_true_eq, decide_eq_false_iff_not, Bool.not_eq_true', Bool.not_eq_false', beq_iff_eq, bne_iff_ne, beq_eq_false_iff_ne, bne_eq_false_iff_eq, ne_eq, List.append_assoc, List.cons_append, List.nil_append, hd, @den_var0 E0.Δ ds, den_varA, den_varB, hl, Nat.reduceLT, Nat.reduceLeDiff, Nat.reduceSub, List.getD_cons_zero, List.getD_cons_succ, argL_fold ds, argI_fold ds, List.append_assoc, List.cons_append, List.nil_append, toInt_int, toBool_bool, xs_rows, xs_list, Int.toNat_natCast, Dat.bool.injEq]
  rw [wrap64 (by omega) (by omega)]
  by_cases hne : lst ds z = []
  · obtain ⟨rfl, rfl⟩ := ht1 hne
    have h0 : (argL ds (z + 1)).length = 0 := by rw [← lst_len, hne]; rfl
    refine ⟨by omega, by omega, fun _ => ⟨fun _ => ⟨fun _ => h, fun hx => absurd rfl hx⟩, fun hx => Bool.noConfusion hx⟩, fun hx => absurd ?_ hx⟩
    rw [h0]; rfl
  · obtain ⟨rfl, rfl⟩ := ht2 hne
    have hpos : 0 < (argL ds (z + 1)).length := by
      rcases Nat.eq_zero_or_pos (argL ds (z + 1)).length with h0 | h0
      · exact absurd (List.length_eq_zero_iff.1 (by rw [lst_len]; exact h0)) hne
      · exact h0
    have hlt : (argL ds (z + 1)).length - 1 < (argL ds (z + 1)).length := by omega
    have e1 : (((argL ds (z + 1)).length : Int) - 1).toNat = (argL ds (z + 1)).length - 1 := by omega
    have e2 : (lst ds z)[(argL ds (z + 1)).length - 1]'(by rw [lst_len]; exact hlt) = (lst ds z).getLast hne := by
      rw [List.getLast_eq_getElem]; congr 1; rw [lst_len]
    rw [e1, lst_el hlt, e2, beq_self_eq_true]
    refine ⟨by omega, by omega, fun _ => ⟨fun hx => Bool.noConfusion hx, fun _ => ⟨fun _ => ⟨by omega, by omega, h⟩, fun hx => Bool.noConfusion hx⟩⟩, fun hx => absurd ?_ hx⟩
    exact (decide_eq_true (by omega)).symm
theorem lzones_4 {ds : List Dat} {Q : List Dat → Prop} (hl : ds.length = 39) (h : Q [.bool true]) (hsm : Sm ds) {C : Nat → Spec} {b0 b1 is : Bool} {x w : Int} (ht : TopOk ds (argI ds 37) x is) :
    wp E0.Δ C Q tr_lzones_4 (env8 ds b0 b1 is x w) [] := by
  have in2 : ∀ z : Nat, argI ds 37 = z → z < 11 → wp E0.Δ C Q tr_lzones_2 (env8 ds b0 b1 is x w) [] := fun z hz hz11 => lzones_2 hl h hsm hz hz11 ht
  unfold env8 at in2 ⊢
  simp only [tr_lzones_4, tr_lzones_3, wp, den_int, den_bool, den_nili, den_ar, den_cmp, den_not, den_len, den_elem, den_isnil, den_errI, den_ifc, den_rep, den_push, den_app, den_emp, den_upd, row0_econs, row0_enil, den_and, den_beq, den_nil, toInt_int, toBool_bool, xs_rows, xs_list, dflt_int, dflt_bool, of_eq, of_ne, of_lt, of_le, of_gt, of_ge, of_add, of_sub, of_rem, List.map_cons, List.map_nil, Dat.bool.injEq, decide_eq_true_eq, decide_eq_false_iff_not, Bool.not_eq_true', Bool.not_eq_false', beq_iff_eq, bne_iff_ne, beq_eq_false_iff_ne, bne_eq_false_iff_eq, ne_eq, List.append_assoc, List.cons_append, List.nil_append, @den_var0 E0.Δ ds, den_varA, den_varB, hl, Nat.reduceLT, Nat.reduceLeDiff, Nat.reduceSub, List.getD_cons_zero, List.getD_cons_succ, argL_fold ds, argI_fold ds, List.append_assoc, List.cons_append, List.nil_append, toInt_int, toBool_bool, xs_rows, xs_list, Int.toNat_natCast, Dat.bool.injEq]
  have out : (argI ds 37 < 0 ∨ 11 ≤ argI ds 37) → (sideB (argI ds 37) = 0 → (sideP (argI ds 37) = 0 → (¬(0 ≤ argI ds 37 ∧ argI ds 37 < 8) → (x = 0 → Q [Dat.bool !is]) ∧ (¬x = 0 → Q [Dat.bool false])) ∧ (0 ≤ argI ds 37 ∧ argI ds 37 < 8 → Q [Dat.bool false])) ∧ (¬sideP (argI ds 37) = 0 → Q [Dat.bool false])) ∧ (¬sideB (argI ds 37) = 0 → Q [Dat.bool false]) := fun ho => by
    obtain ⟨rfl, rfl⟩ := ht.1 ho
    refine ⟨fun _ => ⟨fun _ => ⟨fun _ => ⟨fun _ => h, fun hx => absurd rfl hx⟩, fun hx => by omega⟩, fun hx => absurd ?_ hx⟩, fun hx => absurd ?_ hx⟩
    · rw [sideP, if_pos (by omega)]
    · rw [sideB, if_pos ho]
  refine ⟨fun h0 => out (.inl h0), fun h0 => ⟨fun h1 => out (.inr (by omega)), fun h1 => ?_⟩⟩
  obtain ⟨z, hz⟩ := Int.eq_ofNat_of_zero_le (show 0 ≤ argI ds 37 by omega)
  have key := in2 z hz (by omega)
  refine ⟨fun h2 => ⟨fun hx => by omega, fun _ => ⟨fun hx => absurd ?_ hx, fun _ => ⟨fun hx => absurd ?_ hx, fun _ => ⟨fun hx => by omega, fun _ => key⟩⟩⟩⟩, fun h2 => ⟨fun _ => ⟨fun hx => by omega, fun _ => ⟨fun hx => absurd ?_ hx, fun _ => ⟨fun hx => absurd ?_ hx, fun _ => key⟩⟩⟩, fun hx => by omega⟩⟩
  · rw [sideP, if_neg (by omega)]
  · have e : sideP (argI ds 37) = (argI ds 37).tmod 2 := by rw [sideP, if_neg (by omega)]
    have hm := Int.tmod_lt_of_pos (argI ds 37) (show (0 : Int) < 2 by omega)
    have hm2 := Int.tmod_nonneg 2 (show 0 ≤ argI ds 37 by omega)
    rw [e, wrap64 (by omega) (by omega), sideB, if_neg (by omega), if_pos h2]
  · rw [sideB, if_neg (by omega), if_neg h2]
  · rw [sideP, if_pos (by omega)]
theorem lzones_5 {ds : List Dat} {Q : List Dat → Prop} (hl : ds.length = 39) (h : Q [.bool true]) (hsm : Sm ds) {b0 b1 : Bool} (hp : (argI ds 37 = 0 ∨ argI ds 37 = 2 ∨ argI ds 37 = 4 ∨ argI ds 37 = 6) ∧ (argI ds 38 = 0 ∨ argI ds 38 = 1)) :
    wp E0.Δ (specC [con_alive, con_Long, con_Side, con_Zone, con_Top]) Q tr_lzones_5 (ds ++ [.bool b0, .bool b1]) [] := by
  have sm38 : Sm (ds.take 38) := fun i hi => by rw [argL_take (by omega)]; exact hsm i hi
  simp only [tr_lzones_5, wp, den_int, den_bool, den_nili, den_ar, den_cmp, den_not, den_len, den_elem, den_isnil, den_errI, den_ifc, den_rep, den_push, den_app, den_emp, den_upd, row0_econs, row0_enil, den_and, den_beq, den_nil, toInt_int, toBool_bool, xs_rows, xs_list, dflt_int, dflt_bool, of_eq, of_ne, of_lt, of_le, of_gt, of_ge, of_add, of_sub, of_rem, List.map_cons, List.map_nil, Dat.bool.injEq, decide_eq_true_eq, decide_eq_false_iff_not, Bool.not_eq_true', Bool.not_eq_false', beq_iff_eq, bne_iff_ne, beq_eq_false_iff_ne, bne_eq_false_iff_eq, ne_eq, List.append_assoc, List.cons_append, List.nil_append, allS, sp_lzones_Side, sp_lzones_Zone, sp_lzones_Top, Side_s, Zone_s, Top_s, @den_var0 E0.Δ ds, den_varA, den_varB, hl, Nat.reduceLT, Nat.reduceLeDiff, Nat.reduceSub, List.getD_cons_zero, List.getD_cons_succ, argL_fold ds, argI_fold ds, List.append_assoc, List.cons_append, List.nil_append, toInt_int, toBool_bool, xs_rows, xs_list, Int.toNat_natCast, Dat.bool.injEq, fold38t (show 38 ≤ ds.length by omega), argI_c0, argI_c1, argI_take (show 37 < 38 by omega)]
  have fin : ∀ (x : Int) (is : Bool), TopOk ds (argI ds 37) x is → wp E0.Δ (specC [con_alive, con_Long, con_Side, con_Zone, con_Top]) Q tr_lzones_4 (env8 ds b0 b1 is x (zoneN (argI ds 37) (argI ds 38))) [] := fun x is ht => lzones_4 hl h hsm ht
  unfold env8 at fin
  have eq : zoneN (argI ds 37) (argI ds 38) = IntKind.i64.wrap (argI ds 37 + argI ds 38) := by rw [zoneN, if_pos hp, wrap64 (by omega) (by omega)]
  refine ⟨fun ho => ⟨fun hx => absurd eq hx, fun _ => fin 0 false ⟨fun _ => ⟨rfl, rfl⟩, fun z hz hz11 => by exfalso; omega⟩⟩, fun z hz hz11 => ⟨sm38, fun hn => ⟨fun hx => absurd eq hx, fun _ => fin 0 false ⟨fun ho => by exfalso; omega, fun z' hz' h' => ?_⟩⟩, fun hn => ⟨fun hx => absurd eq hx, fun _ => fin _ true ⟨fun ho => by exfalso; omega, fun z' hz' h' => ?_⟩⟩⟩⟩
  · obtain rfl : z' = z := by omega
    rw [lst_take (by omega)] at hn
    exact ⟨fun _ => ⟨rfl, rfl⟩, fun hx => absurd hn hx⟩
  · obtain rfl : z' = z := by omega
    have e := lst_take (ds := ds) (z := z') (n := 38) (by omega)
    refine ⟨fun hx => absurd (e.trans hx) hn, fun hx => ⟨?_, rfl⟩⟩
    simp only [e]
theorem lzones_6 {ds : List Dat} {Q : List Dat → Prop} (hl : ds.length = 39) (h : Q [.bool true]) (hsm : Sm ds) {b0 b1 : Bool} (hp : ¬ ((argI ds 37 = 0 ∨ argI ds 37 = 2 ∨ argI ds 37 = 4 ∨ argI ds 37 = 6) ∧ (argI ds 38 = 0 ∨ argI ds 38 = 1))) :
    wp E0.Δ (specC [con_alive, con_Long, con_Side, con_Zone, con_Top]) Q tr_lzones_6 (ds ++ [.bool b0, .bool b1]) [] := by
  have sm38 : Sm (ds.take 38) := fun i hi => by rw [argL_take (by omega)]; exact hsm i hi
  simp only [tr_lzones_6, wp, den_int, den_bool, den_nili, den_ar, den_cmp, den_not, den_len, den_elem, den_isnil, den_errI, den_ifc, den_rep, den_push, den_app, den_emp, den_upd, row0_econs, row0_enil, den_and, den_beq, den_nil, toInt_int, toBool_bool, xs_rows, xs_list, dflt_int, dflt_bool, of_eq, of_ne, of_lt, of_le, of_gt, of_ge, of_add, of_sub, of_rem, List.map_cons, List.map_nil, Dat.bool.injEq, decide_eq_true_eq, decide_eq_false_iff_not, Bool.not_eq_true', Bool.not_eq_false', beq_iff_eq, bne_iff_ne, beq_eq_false_iff_ne, bne_eq_false_iff_eq, ne_eq, List.append_assoc, List.cons_append, List.nil_append, allS, sp_lzones_Side, sp_lzones_Zone, sp_lzones_Top, Side_s, Zone_s, Top_s, @den_var0 E0.Δ ds, den_varA, den_varB, hl, Nat.reduceLT, Nat.reduceLeDiff, Nat.reduceSub, List.getD_cons_zero, List.getD_cons_succ, argL_fold ds, argI_fold ds, List.append_assoc, List.cons_append, List.nil_append, toInt_int, toBool_bool, xs_rows, xs_list, Int.toNat_natCast, Dat.bool.injEq, fold38t (show 38 ≤ ds.length by omega), argI_c0, argI_c1, argI_take (show 37 < 38 by omega)]
  have fin : ∀ (x : Int) (is : Bool), TopOk ds (argI ds 37) x is → wp E0.Δ (specC [con_alive, con_Long, con_Side, con_Zone, con_Top]) Q tr_lzones_4 (env8 ds b0 b1 is x (zoneN (argI ds 37) (argI ds 38))) [] := fun x is ht => lzones_4 hl h hsm ht
  unfold env8 at fin
  have eq : zoneN (argI ds 37) (argI ds 38) = -1 := by rw [zoneN, if_neg hp]
  refine ⟨fun ho => ⟨fun hx => absurd eq hx, fun _ => fin 0 false ⟨fun _ => ⟨rfl, rfl⟩, fun z hz hz11 => by exfalso; omega⟩⟩, fun z hz hz11 => ⟨sm38, fun hn => ⟨fun hx => absurd eq hx, fun _ => fin 0 false ⟨fun ho => by exfalso; omega, fun z' hz' h' => ?_⟩⟩, fun hn => ⟨fun hx => absurd eq hx, fun _ => fin _ true ⟨fun ho => by exfalso; omega, fun z' hz' h' => ?_⟩⟩⟩⟩
  · obtain rfl : z' = z := by omega
    rw [lst_take (by omega)] at hn
    exact ⟨fun _ => ⟨rfl, rfl⟩, fun hx => absurd hn hx⟩
  · obtain rfl : z' = z := by omega
    have e := lst_take (ds := ds) (z := z') (n := 38) (by omega)
    refine ⟨fun hx => absurd (e.trans hx) hn, fun hx => ⟨?_, rfl⟩⟩
    simp only [e]
theorem lzones_h : Holds E0 k_lzones sg_lzones true_s := con_by wf0 mix0 g0 [con_alive, con_Long, con_Side, con_Zone, con_Top] rfl wk_lzones rfl (by
  intro ds Q hs h
  have hl : ds.length = 39 := hs.length.symm
  simp only [tr_lzones, tr_lzones_7, wp, den_int, den_bool, den_nili, den_ar, den_cmp, den_not, den_len, den_elem, den_isnil, den_errI, den_ifc, den_rep, den_push, den_app, den_emp, den_upd, row0_econs, row0_enil, den_and, den_beq, den_nil, toInt_int, toBool_bool, xs_rows, xs_list, dflt_int, dflt_bool, of_eq, of_ne, of_lt, of_le, of_gt, of_ge, of_add, of_sub, of_rem, List.map_cons, List.map_nil, Dat.bool.injEq, decide_eq_true_eq, decide_eq_false_iff_not, Bool.not_eq_true', Bool.not_eq_false', beq_iff_eq, bne_iff_ne, beq_eq_false_iff_ne, bne_eq_false_iff_eq, ne_eq, List.append_assoc, List.cons_append, List.nil_append, allS, sp_lzones_alive, sp_lzones_Long, alive_s, Long_s, @den_var0 E0.Δ ds, den_varA, den_varB, hl, Nat.reduceLT, Nat.reduceLeDiff, Nat.reduceSub, List.getD_cons_zero, List.getD_cons_succ, argL_fold ds, argI_fold ds, List.append_assoc, List.cons_append, List.nil_append, toInt_int, toBool_bool, xs_rows, xs_list, Int.toNat_natCast, Dat.bool.injEq, fold37t (show 37 ≤ ds.length by omega), argI_c0, argI_c1, argI_last (show (ds.take 37).length = 37 by simp [hl]), longP_head (show 12 ≤ (ds.take 37).length by simp [hl]), longP_take (show 12 ≤ 37 by omega)]
  refine ⟨fun hx => Bool.noConfusion hx, fun _ => ⟨by omega, by omega, fun b hb => ⟨fun _ => h, fun hbf => ?_⟩⟩⟩
  have hlong : ¬ LongP 200 ds := fun hx => by rw [hb.2 hx] at hbf; cases hbf
  have hsm := sm_of_long hlong (by omega)
  have five : (argI ds 37 = 0 ∨ argI ds 37 = 2 ∨ argI ds 37 = 4 ∨ argI ds 37 = 6) ∧ (argI ds 38 = 0 ∨ argI ds 38 = 1) → _ := fun hp => lzones_5 (b0 := true) (b1 := b) hl h hsm hp
  have six : ¬ ((argI ds 37 = 0 ∨ argI ds 37 = 2 ∨ argI ds 37 = 4 ∨ argI ds 37 = 6) ∧ (argI ds 38 = 0 ∨ argI ds 38 = 1)) → _ := fun hp => lzones_6 (b0 := true) (b1 := b) hl h hsm hp
  have player : (argI ds 37 = 0 ∨ argI ds 37 = 2 ∨ argI ds 37 = 4 ∨ argI ds 37 = 6) → _ := fun hb => (⟨fun h0 => five ⟨hb, .inl h0⟩, fun h0 => ⟨fun h1 => five ⟨hb, .inr h1⟩, fun h1 => six (by omega)⟩⟩ : (argI ds 38 = 0 → _) ∧ (¬ argI ds 38 = 0 → (argI ds 38 = 1 → _) ∧ (¬ argI ds 38 = 1 → _)))
  exact ⟨fun h0 => player (by omega), fun h0 => ⟨fun h1 => player (by omega), fun h1 => ⟨fun h2 => player (by omega), fun h2 => ⟨fun h3 => player (by omega), fun h3 => six (by omega)⟩⟩⟩⟩)
end Go.Proofs.YtkoenohfgpjkjaaDoor
