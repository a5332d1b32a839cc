/-
  The laws on states, as functions.
-/
import Derived.Test.YtkoenohfgpjkjaaDoorStH
namespace Go.Proofs.YtkoenohfgpjkjaaDoor
open Go.RowKit
set_option linter.unusedVariables false
set_option linter.unusedSimpArgs false

theorem fold37e {α : Type} {ds : List α} {d x : α} (hl : ds.length = 37) : [ds.getD 0 d, ds.getD 1 d, ds.getD 2 d, ds.getD 3 d, ds.getD 4 d, ds.getD 5 d, ds.getD 6 d, ds.getD 7 d, ds.getD 8 d, ds.getD 9 d, ds.getD 10 d, ds.getD 11 d, ds.getD 12 d, ds.getD 13 d, ds.getD 14 d, ds.getD 15 d, ds.getD 16 d, ds.getD 17 d, ds.getD 18 d, ds.getD 19 d, ds.getD 20 d, ds.getD 21 d, ds.getD 22 d, ds.getD 23 d, ds.getD 24 d, ds.getD 25 d, ds.getD 26 d, ds.getD 27 d, ds.getD 28 d, ds.getD 29 d, ds.getD 30 d, ds.getD 31 d, ds.getD 32 d, ds.getD 33 d, ds.getD 34 d, ds.getD 35 d, ds.getD 36 d, x] = ds ++ [x] := by
  have := congrArg (· ++ [x]) (fold37 hl (d := d))
  exact this
theorem argI_tail {ds e : List Dat} {i : Nat} (h : ds.length ≤ i) : argI (ds ++ e) i = argI e (i - ds.length) := by
  simp [argI, List.getD_eq_getElem?_getD, List.getElem?_append_right h]
theorem argL_head {ds e : List Dat} {i : Nat} (h : i < ds.length) : argL (ds ++ e) i = argL ds i := by
  simp [argL, List.getD_eq_getElem?_getD, List.getElem?_append_left h]
theorem longP_head {ds e : List Dat} {m : Int} (h : 12 ≤ ds.length) : LongP m (ds ++ e) ↔ LongP m ds := by
  unfold LongP
  rw [argL_head (by omega)]
  refine or_congr Iff.rfl (exists_congr fun z => ?_)
  constructor
  · rintro ⟨h1, h2⟩
    rw [argL_head (by omega)] at h2; exact ⟨h1, h2⟩
  · rintro ⟨h1, h2⟩
    rw [argL_head (by omega)]; exact ⟨h1, h2⟩
theorem argI_last {ds : List Dat} {i : Nat} {k : IntKind} {n : Int} (h : ds.length = i) : argI (ds ++ [.int k n]) i = n := by
  rw [argI_tail (by omega), h, Nat.sub_self]; rfl
theorem argI_c0 {d : Dat} {l : List Dat} : argI (d :: l) 0 = d.toInt := rfl
theorem argI_c1 {d : Dat} {l : List Dat} {n : Nat} : argI (d :: l) (n + 1) = argI l n := rfl
def true_s : Spec := fun ds Q => Q [.bool true]
def sg_lchecks : Sig := ⟨[(true, [.list 33] ++ List.replicate 11 (.list 3) ++ List.replicate 25 (.int .i64))], [(false, [.bool])], false⟩
def tr_lchecks : Tree := (.call k_alive [] [.bool]
(.ite (.not (.var 37))
 (.ret [(.bool false)])
 (.call k_Long [(.var 0), (.var 1), (.var 2), (.var 3), (.var 4), (.var 5), (.var 6), (.var 7), (.var 8), (.var 9), (.var 10), (.var 11), (.var 12), (.var 13), (.var 14), (.var 15), (.var 16), (.var 17), (.var 18), (.var 19), (.var 20), (.var 21), (.var 22), (.var 23), (.var 24), (.var 25), (.var 26), (.var 27), (.var 28), (.var 29), (.var 30), (.var 31), (.var 32), (.var 33), (.var 34), (.var 35), (.var 36), (.int .i64 60)] [.bool]
 (.ite (.var 38)
  (.ret [(.bool true)])
  (.loop [(.int .i64 0), (.int .i64 0)] [(.int .i64), (.int .i64)]
   (.ite (.cmp .lt (.var 40) (.len (.var 0)))
    (.ob (.cmp .ge (.var 40) (.int .i64 0))
    (.ob (.cmp .lt (.var 40) (.len (.var 0)))
    (.ite (.cmp .eq (.elem (.var 0) (.var 40) 13 (.int .i64)) (.int .i64 0))
     (.again 0 [(.ar .add .i64 (.var 39) (.int .i64 1)), (.ar .add .i64 (.var 40) (.int .i64 1))])
     (.again 0 [(.var 39), (.ar .add .i64 (.var 40) (.int .i64 1))]))))
    (.call k_Check [(.var 0), (.var 1), (.var 2), (.var 3), (.var 4), (.var 5), (.var 6), (.var 7), (.var 8), (.var 9), (.var 10), (.var 11), (.var 12), (.var 13), (.var 14), (.var 15), (.var 16), (.var 17), (.var 18), (.var 19), (.var 20), (.var 21), (.var 22), (.var 23), (.var 24), (.var 25), (.var 26), (.var 27), (.var 28), (.var 29), (.var 30), (.var 31), (.var 32), (.var 33), (.var 34), (.var 35), (.var 36)] [.err]
    (.call k_Num [(.var 41)] [(.int .i64)]
    (.call k_rCheck [(.var 0), (.var 1), (.var 2), (.var 3), (.var 4), (.var 5), (.var 6), (.var 7), (.var 8), (.var 9), (.var 10), (.var 11), (.var 12), (.var 13), (.var 14), (.var 15), (.var 16), (.var 17), (.var 18), (.var 19), (.var 20), (.var 21), (.var 22), (.var 23), (.var 24), (.var 25), (.var 26), (.var 27), (.var 28), (.var 29), (.var 30), (.var 31), (.var 32), (.var 33), (.var 34), (.var 35), (.var 36)] [(.int .i64)]
    (.ite (.cmp .eq (.var 42) (.var 43))
     (.call k_Cards [(.var 0), (.var 1), (.var 2), (.var 3), (.var 4), (.var 5), (.var 6), (.var 7), (.var 8), (.var 9), (.var 10), (.var 11), (.var 12), (.var 13), (.var 14), (.var 15), (.var 16), (.var 17), (.var 18), (.var 19), (.var 20), (.var 21), (.var 22), (.var 23), (.var 24), (.var 25), (.var 26), (.var 27), (.var 28), (.var 29), (.var 30), (.var 31), (.var 32), (.var 33), (.var 34), (.var 35), (.var 36)] [(.int .i64)]
     (.ret [(.cmp .eq (.var 44) (.var 39))]))
     (.ret [(.bool false)])))))))))))
theorem wk_lchecks : walk E0.cx (sgsN [(7, sg_alive), (8, sg_Long), (10, sg_Check), (9, sg_Num), (11, sg_rCheck), (12, sg_Cards)]) 0 3 sg_lchecks = tr_lchecks := by kernel_rfl
theorem bo_lchecks : ∃ x, bodyOf E0.P 3 = some x := bo_of (by kernel_rfl)
def k_lchecks : Nat := 3
theorem sp_lchecks_alive : specC [con_alive, con_Long, con_Check, con_Num, con_rCheck, con_Cards] k_alive = alive_s := rfl
theorem sp_lchecks_Long : specC [con_alive, con_Long, con_Check, con_Num, con_rCheck, con_Cards] k_Long = Long_s := rfl
theorem sp_lchecks_Check : specC [con_alive, con_Long, con_Check, con_Num, con_rCheck, con_Cards] k_Check = Check_s := rfl
theorem sp_lchecks_Num : specC [con_alive, con_Long, con_Check, con_Num, con_rCheck, con_Cards] k_Num = Num_s := rfl
theorem sp_lchecks_rCheck : specC [con_alive, con_Long, con_Check, con_Num, con_rCheck, con_Cards] k_rCheck = rCheck_s := rfl
theorem sp_lchecks_Cards : specC [con_alive, con_Long, con_Check, con_Num, con_rCheck, con_Cards] k_Cards = Cards_s := rfl
theorem lchecks_h : Holds E0 k_lchecks sg_lchecks true_s := con_by wf0 mix0 g0 [con_alive, con_Long, con_Check, con_Num, con_rCheck, con_Cards] rfl wk_lchecks rfl (by
  intro ds Q hs h
  have hl : ds.length = 37 := hs.length.symm
  simp only [tr_lchecks, wp, den_int, den_bool, den_nili, den_ar, den_cmp, den_not, den_len, den_elem, den_isnil, den_errI, den_ifc, den_rep, den_push, den_app, den_emp, den_upd, row0_econs, row0_enil, den_and, den_beq, den_nil, toInt_int, toBool_bool, xs_rows, xs_list, dflt_int, dflt_bool, of_eq, of_ne, of_lt, of_le, of_gt, of_ge, of_add, of_sub, of_rem, List.map_cons, List.map_nil, Dat.bool.injEq, decide_eq_true_eq, decide_eq_false_iff_not, Bool.not_eq_true', Bool.not_eq_false', beq_iff_eq, bne_iff_ne, beq_eq_false_iff_ne, bne_eq_false_iff_eq, ne_eq, List.append_assoc, List.cons_append, List.nil_append, allS, sp_lchecks_alive, sp_lchecks_Long, sp_lchecks_Check, sp_lchecks_Num, sp_lchecks_rCheck, sp_lchecks_Cards, alive_s, Long_s, Check_s, Num_s, rCheck_s, Cards_s, @den_var0 E0.Δ ds, den_varA, den_varB, hl, Nat.reduceLT, Nat.reduceLeDiff, Nat.reduceSub, List.getD_cons_zero, List.getD_cons_succ, argL_fold ds, argI_fold ds, List.append_assoc, List.cons_append, List.nil_append, toInt_int, toBool_bool, xs_rows, xs_list, Int.toNat_natCast, Dat.bool.injEq, fold37 hl, fold37e hl, argI_last hl, longP_head (show 12 ≤ ds.length by omega), argI_c0, argI_c1]
  refine ⟨fun hx => Bool.noConfusion hx, fun _ => ⟨by omega, by omega, fun b hb => ⟨fun _ => h, fun hbf => ?_⟩⟩⟩
  have hlong : ¬ LongP 60 ds := fun hx => by rw [hb.2 hx] at hbf; cases hbf
  have hsm := sm_of_long hlong (by omega)
  have hn := hsm 0 (by omega)
  refine ⟨fun xs m => ∃ (i : Nat), xs = [.int .i64 (cardsN ((argL ds 0).take i)), .int .i64 i] ∧ i ≤ (argL ds 0).length ∧ m = (argL ds 0).length - i, ⟨_, 0, rfl, by omega, rfl⟩, ?_⟩
  intro n i' m ⟨i, e, hi, hm⟩
  cases e
  have hle := cardsN_le ((argL ds 0).take i)
  rw [List.length_take] at hle
  refine ⟨fun hlt => ⟨by omega, hlt, ?_⟩, fun hge => ?_⟩
  · have hi2 : i < (argL ds 0).length := by omega
    have ht := cardsN_take hi2
    simp only [Int.toNat_natCast, getD_lt hi2]
    refine ⟨fun h0 => ⟨(argL ds 0).length - (i + 1), by omega, i + 1, ?_, by omega, rfl⟩, fun h0 => ⟨(argL ds 0).length - (i + 1), by omega, i + 1, ?_, by omega, rfl⟩⟩
    · rw [if_pos (show rowI (argL ds 0)[i] 13 = 0 from h0)] at ht
      rw [wrap64 (by omega) (by omega), wrap64 (by omega) (by omega), ht]; rfl
    · rw [if_neg (show ¬ rowI (argL ds 0)[i] 13 = 0 from h0)] at ht
      rw [wrap64 (by omega) (by omega), ht]; rfl
  · have hkk : i = (argL ds 0).length := by omega
    rw [List.take_of_length_le (by omega)]
    refine ⟨hsm, fun n hn => ⟨n, rfl, hsm, fun n2 hn2 => ?_⟩⟩
    obtain rfl := errP_inj hn hn2
    refine ⟨fun _ => ⟨hsm, ?_⟩, fun hx => absurd rfl hx⟩
    rw [beq_self_eq_true]; exact h)
theorem side_lo {z : Nat} (h : z < 8) : zoneN (sideB z) (sideP z) = z := by
  match z, h with
  | 0, _ | 1, _ | 2, _ | 3, _ | 4, _ | 5, _ | 6, _ | 7, _ => rfl
theorem side_hi {z : Nat} (h : 8 ≤ z) (h2 : z < 11) : sideB z = z ∧ zoneN (sideB z) (sideP z) = -1 := by
  obtain rfl | rfl | rfl : z = 8 ∨ z = 9 ∨ z = 10 := by omega
  all_goals exact ⟨rfl, rfl⟩
def sg_lsides : Sig := ⟨[(true, [.list 33] ++ List.replicate 11 (.list 3) ++ List.replicate 25 (.int .i64))], [(false, [.bool])], false⟩
def tr_lsides : Tree := (.call k_alive [] [.bool]
(.ite (.not (.var 37))
 (.ret [(.bool false)])
 (.call k_Long [(.var 0), (.var 1), (.var 2), (.var 3), (.var 4), (.var 5), (.var 6), (.var 7), (.var 8), (.var 9), (.var 10), (.var 11), (.var 12), (.var 13), (.var 14), (.var 15), (.var 16), (.var 17), (.var 18), (.var 19), (.var 20), (.var 21), (.var 22), (.var 23), (.var 24), (.var 25), (.var 26), (.var 27), (.var 28), (.var 29), (.var 30), (.var 31), (.var 32), (.var 33), (.var 34), (.var 35), (.var 36), (.int .i64 200)] [.bool]
 (.ite (.var 38)
  (.ret [(.bool true)])
  (.loop [(.bool false), (.int .i64 0)] [.bool, (.int .i64)]
   (.ite (.cmp .lt (.var 40) (.int .i64 11))
    (.call k_Side [(.var 40)] [(.int .i64), (.int .i64), .bool]
    (.ite (.var 43)
     (.call k_Zone [(.var 41), (.var 42)] [(.int .i64)]
     (.ite (.cmp .ne (.var 44) (.var 40))
      (.ret [(.bool false)])
      (.ite (.not (.var 43))
       (.ite (.cmp .ne (.var 41) (.var 40))
        (.ret [(.bool false)])
        (.call k_Zone [(.var 41), (.var 42)] [(.int .i64)]
        (.ite (.cmp .ne (.var 45) (.int .i64 (-1)))
         (.ret [(.bool false)])
         (.again 0 [(.var 39), (.ar .add .i64 (.var 40) (.int .i64 1))]))))
       (.again 0 [(.var 39), (.ar .add .i64 (.var 40) (.int .i64 1))]))))
     (.ite (.not (.var 43))
      (.ite (.cmp .ne (.var 41) (.var 40))
       (.ret [(.bool false)])
       (.call k_Zone [(.var 41), (.var 42)] [(.int .i64)]
       (.ite (.cmp .ne (.var 44) (.int .i64 (-1)))
        (.ret [(.bool false)])
        (.again 0 [(.var 39), (.ar .add .i64 (.var 40) (.int .i64 1))]))))
      (.again 0 [(.var 39), (.ar .add .i64 (.var 40) (.int .i64 1))]))))
    (.call k_Check [(.var 0), (.var 1), (.var 2), (.var 3), (.var 4), (.var 5), (.var 6), (.var 7), (.var 8), (.var 9), (.var 10), (.var 11), (.var 12), (.var 13), (.var 14), (.var 15), (.var 16), (.var 17), (.var 18), (.var 19), (.var 20), (.var 21), (.var 22), (.var 23), (.var 24), (.var 25), (.var 26), (.var 27), (.var 28), (.var 29), (.var 30), (.var 31), (.var 32), (.var 33), (.var 34), (.var 35), (.var 36)] [.err]
    (.ite (.not (.isnil (.var 41)))
     (.ret [(.bool true)])
     (.loop [(.var 39), (.int .i64 0), (.int .i64 0)] [.bool, (.int .i64), (.int .i64)]
      (.ite (.cmp .lt (.var 44) (.int .i64 11))
       (.ob (.cmp .ge (.var 44) (.int .i64 0))
       (.ob (.cmp .lt (.var 44) (.int .i64 11))
       (.loop [(.var 42), (.int .i64 0)] [.bool, (.int .i64)]
        (.ite (.cmp .lt (.var 46) (.len (.sel (.econs (.var 1) (.econs (.var 2) (.econs (.var 3) (.econs (.var 4) (.econs (.var 5) (.econs (.var 6) (.econs (.var 7) (.econs (.var 8) (.econs (.var 9) (.econs (.var 10) (.econs (.var 11) .enil))))))))))) (.var 44) (.list 3))))
         (.ob (.cmp .ge (.var 46) (.int .i64 0))
         (.ob (.cmp .lt (.var 46) (.len (.sel (.econs (.var 1) (.econs (.var 2) (.econs (.var 3) (.econs (.var 4) (.econs (.var 5) (.econs (.var 6) (.econs (.var 7) (.econs (.var 8) (.econs (.var 9) (.econs (.var 10) (.econs (.var 11) .enil))))))))))) (.var 44) (.list 3))))
         (.ob (.cmp .ge (.elem (.sel (.econs (.var 1) (.econs (.var 2) (.econs (.var 3) (.econs (.var 4) (.econs (.var 5) (.econs (.var 6) (.econs (.var 7) (.econs (.var 8) (.econs (.var 9) (.econs (.var 10) (.econs (.var 11) .enil))))))))))) (.var 44) (.list 3)) (.var 46) 0 (.int .i64)) (.int .i64 0))
         (.ob (.cmp .lt (.elem (.sel (.econs (.var 1) (.econs (.var 2) (.econs (.var 3) (.econs (.var 4) (.econs (.var 5) (.econs (.var 6) (.econs (.var 7) (.econs (.var 8) (.econs (.var 9) (.econs (.var 10) (.econs (.var 11) .enil))))))))))) (.var 44) (.list 3)) (.var 46) 0 (.int .i64)) (.len (.var 0)))
         (.ite (.cmp .ne (.elem (.var 0) (.elem (.sel (.econs (.var 1) (.econs (.var 2) (.econs (.var 3) (.econs (.var 4) (.econs (.var 5) (.econs (.var 6) (.econs (.var 7) (.econs (.var 8) (.econs (.var 9) (.econs (.var 10) (.econs (.var 11) .enil))))))))))) (.var 44) (.list 3)) (.var 46) 0 (.int .i64)) 3 (.int .i64)) (.var 44))
          (.ret [(.bool false)])
          (.again 2 [(.var 45), (.ar .add .i64 (.var 46) (.int .i64 1))]))))))
         (.again 1 [(.var 45), (.ar .add .i64 (.var 43) (.len (.sel (.econs (.var 1) (.econs (.var 2) (.econs (.var 3) (.econs (.var 4) (.econs (.var 5) (.econs (.var 6) (.econs (.var 7) (.econs (.var 8) (.econs (.var 9) (.econs (.var 10) (.econs (.var 11) .enil))))))))))) (.var 44) (.list 3)))), (.ar .add .i64 (.var 44) (.int .i64 1))])))))
       (.ite (.cmp .eq (.var 43) (.len (.var 0)))
        (.ret [(.cmp .le (.len (.var 0)) (.int .i64 400))])
        (.ret [(.bool false)]))))))))))))
theorem wk_lsides : walk E0.cx (sgsN [(7, sg_alive), (8, sg_Long), (10, sg_Check), (13, sg_Side), (14, sg_Zone)]) 0 4 sg_lsides = tr_lsides := by kernel_rfl
theorem bo_lsides : ∃ x, bodyOf E0.P 4 = some x := bo_of (by kernel_rfl)
def k_lsides : Nat := 4
theorem sp_lsides_alive : specC [con_alive, con_Long, con_Check, con_Side, con_Zone] k_alive = alive_s := rfl
theorem sp_lsides_Long : specC [con_alive, con_Long, con_Check, con_Side, con_Zone] k_Long = Long_s := rfl
theorem sp_lsides_Check : specC [con_alive, con_Long, con_Check, con_Side, con_Zone] k_Check = Check_s := rfl
theorem sp_lsides_Side : specC [con_alive, con_Long, con_Check, con_Side, con_Zone] k_Side = Side_s := rfl
theorem sp_lsides_Zone : specC [con_alive, con_Long, con_Check, con_Side, con_Zone] k_Zone = Zone_s := rfl
theorem lsides_h : Holds E0 k_lsides sg_lsides true_s := con_by wf0 mix0 g0 [con_alive, con_Long, con_Check, con_Side, con_Zone] rfl wk_lsides rfl (by
  intro ds Q hs h
  have hl : ds.length = 37 := hs.length.symm
  simp only [tr_lsides, wp, den_int, den_bool, den_nili, den_ar, den_cmp, den_not, den_len, den_elem, den_isnil, den_errI, den_ifc, den_rep, den_push, den_app, den_emp, den_upd, row0_econs, row0_enil, den_and, den_beq, den_nil, toInt_int, toBool_bool, xs_rows, xs_list, dflt_int, dflt_bool, of_eq, of_ne, of_lt, of_le, of_gt, of_ge, of_add, of_sub, of_rem, List.map_cons, List.map_nil, Dat.bool.injEq, decide_eq_true_eq, decide_eq_false_iff_not, Bool.not_eq_true', Bool.not_eq_false', beq_iff_eq, bne_iff_ne, beq_eq_false_iff_ne, bne_eq_false_iff_eq, ne_eq, List.append_assoc, List.cons_append, List.nil_append, allS, sp_lsides_alive, sp_lsides_Long, sp_lsides_Check, sp_lsides_Side, sp_lsides_Zone, alive_s, Long_s, Check_s, Side_s, Zone_s, @den_var0 E0.Δ ds, den_varA, den_varB, hl, Nat.reduceLT, Nat.reduceLeDiff, Nat.reduceSub, List.getD_cons_zero, List.getD_cons_succ, argL_fold ds, argI_fold ds, List.append_assoc, List.cons_append, List.nil_append, toInt_int, toBool_bool, xs_rows, xs_list, Int.toNat_natCast, Dat.bool.injEq, fold37 hl, fold37e hl, argI_last hl, longP_head (show 12 ≤ ds.length by omega), argI_c0, argI_c1]
  refine ⟨fun hx => Bool.noConfusion hx, fun _ => ⟨by omega, by omega, fun b hb => ⟨fun _ => h, fun hbf => ?_⟩⟩⟩
  have hlong : ¬ LongP 200 ds := fun hx => by rw [hb.2 hx] at hbf; cases hbf
  have hsm := sm_of_long hlong (by omega)
  have hn := hsm 0 (by omega)
  refine ⟨fun xs m => ∃ (b : Bool) (z : Nat), xs = [.bool b, .int .i64 z] ∧ z ≤ 11 ∧ m = 11 - z, ⟨_, false, 0, rfl, by omega, rfl⟩, ?_⟩
  intro b1 z' m ⟨_, z, e, hz, hm⟩
  cases e
  refine ⟨fun hlt => ?_, fun hge => ?_⟩
  · have next : ∃ m', m' < m ∧ ∃ (b : Bool) (z_1 : Nat), [Dat.bool b1, Dat.int .i64 (IntKind.i64.wrap (z + 1))] = [.bool b, .int .i64 z_1] ∧ z_1 ≤ 11 ∧ m' = 11 - z_1 := by
      refine ⟨11 - (z + 1), by omega, b1, z + 1, ?_, by omega, rfl⟩
      rw [wrap64 (by omega) (by omega)]; rfl
    refine ⟨fun h8 => ⟨fun hx => absurd (side_lo (by omega)) hx, fun _ => ⟨fun hx => absurd h8 hx, fun _ => next⟩⟩, fun h8 => ⟨fun _ => ?_, fun hx => absurd hx h8⟩⟩
    obtain ⟨e1, e2⟩ := side_hi (z := z) (by omega) (by omega)
    exact ⟨fun hx => absurd e1 hx, fun _ => ⟨fun hx => absurd e2 hx, fun _ => next⟩⟩
  · refine ⟨hsm, fun n hn0 => ⟨fun _ => h, fun hnil => ?_⟩⟩
    have hn00 : n = 0 := by
      by_cases e : n = 0
      · exact e
      · simp only [errV, if_neg e] at hnil; exact Bool.noConfusion hnil
    subst hn00
    have hP : zonesP ds ∧ (argL ds 0).length ≤ 400 := by
      unfold errP at hn0
      split at hn0
      · exact absurd hn0 (by decide)
      · refine ⟨?_, by omega⟩
        rcases hn0 with h1 | h1 | h1 | h1
        · exact absurd h1.2 (by decide)
        · exact absurd h1.2.2 (by decide)
        · exact absurd h1.2.2.2 (by decide)
        · exact h1.2.1
    obtain ⟨hP, h400⟩ := hP
    refine ⟨fun xs m => ∃ (b : Bool) (z : Nat), xs = [.bool b, .int .i64 (ids ds z).length, .int .i64 z] ∧ z ≤ 11 ∧ m = 11 - z, ⟨_, b1, 0, rfl, by omega, rfl⟩, ?_⟩
    intro b2 n1' z1' m1 ⟨_, z1, e, hz1, hm1⟩
    cases e
    have hal := alls_len hsm z1 (by omega)
    rw [alls, List.length_map] at hal
    refine ⟨fun hlt => ⟨by omega, hlt, ?_⟩, fun hge => ?_⟩
    · have hz11 : z1 < 11 := by omega
      have hb1 := hsm (z1 + 1) (by omega)
      refine ⟨fun xs m => ∃ (b : Bool) (i : Nat), xs = [.bool b, .int .i64 i] ∧ i ≤ (argL ds (z1 + 1)).length ∧ m = (argL ds (z1 + 1)).length - i, ⟨_, b2, 0, rfl, by omega, rfl⟩, ?_⟩
      intro b3 i' m2 ⟨_, i, e, hi, hm2⟩
      cases e
      have hd : ∀ s, den E0.Δ (ds ++ [.bool true, .bool b, .bool b1, .int .i64 z, errV 0, .bool b2, .int .i64 (ids ds z1).length, .int .i64 z1, .bool b3, .int .i64 i]) (.sel (.econs (.var 1) (.econs (.var 2) (.econs (.var 3) (.econs (.var 4) (.econs (.var 5) (.econs (.var 6) (.econs (.var 7) (.econs (.var 8) (.econs (.var 9) (.econs (.var 10) (.econs (.var 11) .enil))))))))))) (.var 44) s) = ds.getD (z1 + 1) (.bool false) := fun s => den_listsG (by omega) (by simp only [@den_var0 E0.Δ ds, den_varA, den_varB, hl, Nat.reduceLT, Nat.reduceLeDiff, Nat.reduceSub, List.getD_cons_zero, List.getD_cons_succ, argL_fold ds, argI_fold ds, List.append_assoc, List.cons_append, List.nil_append, toInt_int, toBool_bool, xs_rows, xs_list, Int.toNat_natCast, Dat.bool.injEq]) hz11
      simp only [hd, @den_var0 E0.Δ ds, den_varA, den_varB, hl, Nat.reduceLT, Nat.reduceLeDiff, Nat.reduceSub, List.getD_cons_zero, List.getD_cons_succ, argL_fold ds, argI_fold ds, List.append_assoc, List.cons_append, List.nil_append, toInt_int, toBool_bool, xs_rows, xs_list, Int.toNat_natCast, Dat.bool.injEq]
      refine ⟨fun hlt1 => ⟨by omega, hlt1, ?_⟩, fun hge1 => ?_⟩
      · have hi1 : i < (argL ds (z1 + 1)).length := by omega
        rw [lst_el hi1]
        have hmem : (lst ds z1)[i]'(by rw [lst_len]; exact hi1) ∈ lst ds z1 := List.getElem_mem _
        have hpl := hP.1 ((z1 : Int), (lst ds z1)[i]'(by rw [lst_len]; exact hi1)) (mem_ids.2 ⟨z1, hz11, rfl, hmem⟩)
        refine ⟨hpl.1, hpl.2.1, fun hx => absurd hpl.2.2.1 hx, fun _ => ⟨(argL ds (z1 + 1)).length - (i + 1), by omega, b3, i + 1, ?_, by omega, rfl⟩⟩
        rw [wrap64 (by omega) (by omega)]; rfl
      · refine ⟨11 - (z1 + 1), by omega, b3, z1 + 1, ?_, by omega, rfl⟩
        have e1 : (ids ds (z1 + 1)).length = (ids ds z1).length + (argL ds (z1 + 1)).length := by
          rw [ids, List.length_append, idz, List.length_map, lst_len]
        rw [wrap64 (by omega) (by omega), wrap64 (by omega) (by omega), e1]; rfl
    · obtain rfl : z1 = 11 := by omega
      refine ⟨fun _ => ?_, fun hx => absurd (by rw [hP.2.2]) hx⟩
      rw [decide_eq_true (show ((argL ds 0).length : Int) ≤ 400 by omega)]; exact h)
end Go.Proofs.YtkoenohfgpjkjaaDoor
