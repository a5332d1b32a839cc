/-
  The program's look at a state's numbers.
-/
import Derived.Test.YtonjilfbcofoaaaDoorStD
namespace Go.Proofs.YtonjilfbcofoaaaDoor
open Go.RowKit
set_option linter.unusedVariables false
set_option linter.unusedSimpArgs false

theorem objB_iff (o : List Dat) (m : Int) : objB o m = true ↔ ∀ f, f < 18 → inB (rowI o f) (loO f) (hiO m f) = true := by
  constructor
  · intro h f hf
    simp only [objB, Bool.and_eq_true] at h
    obtain ⟨⟨⟨⟨⟨⟨⟨⟨⟨⟨⟨⟨⟨⟨⟨⟨⟨h0, h1⟩, h2⟩, h3⟩, h4⟩, h5⟩, h11⟩, h13⟩, h17⟩, h10⟩, h14⟩, h6⟩, h7⟩, h8⟩, h9⟩, h12⟩, h15⟩, h16⟩ := h
    match f, hf with
    | 0, _ => exact h0
    | 1, _ => exact h1
    | 2, _ => exact h2
    | 3, _ => exact h3
    | 4, _ => exact h4
    | 5, _ => exact h5
    | 6, _ => exact h6
    | 7, _ => exact h7
    | 8, _ => exact h8
    | 9, _ => exact h9
    | 10, _ => exact h10
    | 11, _ => exact h11
    | 12, _ => exact h12
    | 13, _ => exact h13
    | 14, _ => exact h14
    | 15, _ => exact h15
    | 16, _ => exact h16
    | 17, _ => exact h17
    | n + 18, h => exact absurd h (by omega)
  · intro h
    simp only [objB, Bool.and_eq_true]
    exact ⟨⟨⟨⟨⟨⟨⟨⟨⟨⟨⟨⟨⟨⟨⟨⟨⟨h 0 (by omega), h 1 (by omega)⟩, h 2 (by omega)⟩, h 3 (by omega)⟩, h 4 (by omega)⟩, h 5 (by omega)⟩, h 11 (by omega)⟩, h 13 (by omega)⟩, h 17 (by omega)⟩, h 10 (by omega)⟩, h 14 (by omega)⟩, h 6 (by omega)⟩, h 7 (by omega)⟩, h 8 (by omega)⟩, h 9 (by omega)⟩, h 12 (by omega)⟩, h 15 (by omega)⟩, h 16 (by omega)⟩
theorem plP_iff (ds : List Dat) : plP ds ↔ ∀ i, i < 2 → ∀ f, f < 9 → inB (pl ds (9 * i + f)) (loP f) (hiP f) = true := by
  constructor
  · intro h i hi f hf
    obtain ⟨h0, h7, h8, hk⟩ := h i hi
    match f, hf with
    | 0, _ => exact h0
    | 7, _ => exact h7
    | 8, _ => exact h8
    | 1, _ => exact hk 1 (by omega) (by omega)
    | 2, _ => exact hk 2 (by omega) (by omega)
    | 3, _ => exact hk 3 (by omega) (by omega)
    | 4, _ => exact hk 4 (by omega) (by omega)
    | 5, _ => exact hk 5 (by omega) (by omega)
    | 6, _ => exact hk 6 (by omega) (by omega)
  · intro h i hi
    refine ⟨h i hi 0 (by omega), h i hi 7 (by omega), h i hi 8 (by omega), fun k h1 h2 => ?_⟩
    have := h i hi k (by omega)
    match k, h1, h2 with
    | 1, _, _ | 2, _, _ | 3, _, _ | 4, _, _ | 5, _, _ | 6, _, _ => exact this
theorem gmP_iff (ds : List Dat) : gmP ds ↔ ∀ f, f < 7 → inB (gm ds f) (loG f) (hiG f) = true := by
  constructor
  · rintro ⟨h0, h1, h2, h3, h4, h5, h6⟩ f hf
    match f, hf with
    | 0, _ => exact h0
    | 1, _ => exact h1
    | 2, _ => exact h2
    | 3, _ => exact h3
    | 4, _ => exact h4
    | 5, _ => exact h5
    | 6, _ => exact h6
  · intro h
    exact ⟨h 0 (by omega), h 1 (by omega), h 2 (by omega), h 3 (by omega), h 4 (by omega), h 5 (by omega), h 6 (by omega)⟩
theorem selG18 (g : Nat → Int) {f : Nat} (hf : f < 18) (x : Dat) : ([.int .i64 (g 0), .int .i64 (g 1), .int .i64 (g 2), .int .i64 (g 3), .int .i64 (g 4), .int .i64 (g 5), .int .i64 (g 6), .int .i64 (g 7), .int .i64 (g 8), .int .i64 (g 9), .int .i64 (g 10), .int .i64 (g 11), .int .i64 (g 12), .int .i64 (g 13), .int .i64 (g 14), .int .i64 (g 15), .int .i64 (g 16), .int .i64 (g 17)].getD f x).toInt = g f := by
  match f, hf with
  | 0, _ | 1, _ | 2, _ | 3, _ | 4, _ | 5, _ | 6, _ | 7, _ | 8, _ | 9, _ | 10, _ | 11, _ | 12, _ | 13, _ | 14, _ | 15, _ | 16, _ | 17, _ => rfl
  | n + 18, h => exact absurd h (by omega)
theorem selG9 (g : Nat → Int) {f : Nat} (hf : f < 9) (x : Dat) : ([.int .i64 (g 0), .int .i64 (g 1), .int .i64 (g 2), .int .i64 (g 3), .int .i64 (g 4), .int .i64 (g 5), .int .i64 (g 6), .int .i64 (g 7), .int .i64 (g 8)].getD f x).toInt = g f := by
  match f, hf with
  | 0, _ | 1, _ | 2, _ | 3, _ | 4, _ | 5, _ | 6, _ | 7, _ | 8, _ => rfl
  | n + 9, h => exact absurd h (by omega)
theorem selG7 (g : Nat → Int) {f : Nat} (hf : f < 7) (x : Dat) : ([.int .i64 (g 0), .int .i64 (g 1), .int .i64 (g 2), .int .i64 (g 3), .int .i64 (g 4), .int .i64 (g 5), .int .i64 (g 6)].getD f x).toInt = g f := by
  match f, hf with
  | 0, _ | 1, _ | 2, _ | 3, _ | 4, _ | 5, _ | 6, _ => rfl
  | n + 7, h => exact absurd h (by omega)
theorem selR18 (o : List Dat) {f : Nat} (hf : f < 18) (x : Dat) : ([o.getD 0 (.int .i64 0), o.getD 1 (.int .i64 0), o.getD 2 (.int .i64 0), o.getD 3 (.int .i64 0), o.getD 4 (.int .i64 0), o.getD 5 (.int .i64 0), o.getD 6 (.int .i64 0), o.getD 7 (.int .i64 0), o.getD 8 (.int .i64 0), o.getD 9 (.int .i64 0), o.getD 10 (.int .i64 0), o.getD 11 (.int .i64 0), o.getD 12 (.int .i64 0), o.getD 13 (.int .i64 0), o.getD 14 (.int .i64 0), o.getD 15 (.int .i64 0), o.getD 16 (.int .i64 0), o.getD 17 (.int .i64 0)].getD f x).toInt = rowI o f := by
  match f, hf with
  | 0, _ | 1, _ | 2, _ | 3, _ | 4, _ | 5, _ | 6, _ | 7, _ | 8, _ | 9, _ | 10, _ | 11, _ | 12, _ | 13, _ | 14, _ | 15, _ | 16, _ | 17, _ => rfl
  | n + 18, h => exact absurd h (by omega)
theorem selV7 (o : List Dat) {f : Nat} (hf : f < 7) (x : Dat) : ([o.getD 30 (.bool false), o.getD 31 (.bool false), o.getD 32 (.bool false), o.getD 33 (.bool false), o.getD 34 (.bool false), o.getD 35 (.bool false), o.getD 36 (.bool false)].getD f x).toInt = gm o f := by
  match f, hf with
  | 0, _ | 1, _ | 2, _ | 3, _ | 4, _ | 5, _ | 6, _ => simp only [List.getD_cons_zero, List.getD_cons_succ, argI_fold]; rfl
  | n + 7, h => exact absurd h (by omega)
def k_ranges : Nat := 29
def sg_ranges : Sig := ⟨[(true, [.list 50] ++ List.replicate 11 (.list 3) ++ List.replicate 25 (.int .i64))], [(false, [.bool])], false, false, false⟩
def tr_ranges : Tree := (.call k_objects [(.len (.var 0))] [(.int .i64), (.int .i64), (.int .i64), (.int .i64), (.int .i64), (.int .i64), (.int .i64), (.int .i64), (.int .i64), (.int .i64), (.int .i64), (.int .i64), (.int .i64), (.int .i64), (.int .i64), (.int .i64), (.int .i64), (.int .i64), (.int .i64), (.int .i64), (.int .i64), (.int .i64), (.int .i64), (.int .i64), (.int .i64), (.int .i64), (.int .i64), (.int .i64), (.int .i64), (.int .i64), (.int .i64), (.int .i64), (.int .i64), (.int .i64), (.int .i64), (.int .i64)]
(.loop [(.bool false), (.int .i64 0)] [.bool, (.int .i64)]
 (.ite (.cmp .lt (.var 74) (.len (.var 0)))
  (.ob (.cmp .ge (.var 74) (.int .i64 0))
  (.loop [(.var 73), (.int .i64 0)] [.bool, (.int .i64)]
   (.ite (.cmp .lt (.var 76) (.int .i64 18))
    (.ob (.cmp .ge (.var 76) (.int .i64 0))
    (.ob (.cmp .ge (.var 76) (.int .i64 0))
    (.call k_has [(.sel (.econs (.var 37) (.econs (.var 39) (.econs (.var 41) (.econs (.var 43) (.econs (.var 45) (.econs (.var 47) (.econs (.var 49) (.econs (.var 51) (.econs (.var 53) (.econs (.var 55) (.econs (.var 57) (.econs (.var 59) (.econs (.var 61) (.econs (.var 63) (.econs (.var 65) (.econs (.var 67) (.econs (.var 69) (.econs (.var 71) .enil)))))))))))))))))) (.var 76) (.int .i64)), (.sel (.econs (.var 38) (.econs (.var 40) (.econs (.var 42) (.econs (.var 44) (.econs (.var 46) (.econs (.var 48) (.econs (.var 50) (.econs (.var 52) (.econs (.var 54) (.econs (.var 56) (.econs (.var 58) (.econs (.var 60) (.econs (.var 62) (.econs (.var 64) (.econs (.var 66) (.econs (.var 68) (.econs (.var 70) (.econs (.var 72) .enil)))))))))))))))))) (.var 76) (.int .i64)), (.sel (.econs (.elem (.var 0) (.var 74) 0 (.int .i64)) (.econs (.elem (.var 0) (.var 74) 1 (.int .i64)) (.econs (.elem (.var 0) (.var 74) 2 (.int .i64)) (.econs (.elem (.var 0) (.var 74) 3 (.int .i64)) (.econs (.elem (.var 0) (.var 74) 4 (.int .i64)) (.econs (.elem (.var 0) (.var 74) 5 (.int .i64)) (.econs (.elem (.var 0) (.var 74) 6 (.int .i64)) (.econs (.elem (.var 0) (.var 74) 7 (.int .i64)) (.econs (.elem (.var 0) (.var 74) 8 (.int .i64)) (.econs (.elem (.var 0) (.var 74) 9 (.int .i64)) (.econs (.elem (.var 0) (.var 74) 10 (.int .i64)) (.econs (.elem (.var 0) (.var 74) 11 (.int .i64)) (.econs (.elem (.var 0) (.var 74) 12 (.int .i64)) (.econs (.elem (.var 0) (.var 74) 13 (.int .i64)) (.econs (.elem (.var 0) (.var 74) 14 (.int .i64)) (.econs (.elem (.var 0) (.var 74) 15 (.int .i64)) (.econs (.elem (.var 0) (.var 74) 16 (.int .i64)) (.econs (.elem (.var 0) (.var 74) 17 (.int .i64)) .enil)))))))))))))))))) (.var 76) (.int .i64))] [.bool]
    (.ite (.not (.var 77))
     (.ret [(.bool false)])
     (.again 1 [(.var 75), (.ar .add .i64 (.var 76) (.int .i64 1))])))))
    (.again 0 [(.var 75), (.ar .add .i64 (.var 74) (.int .i64 1))]))))
  (.loop [(.var 73), (.int .i64 0)] [.bool, (.int .i64)]
   (.ite (.cmp .lt (.var 76) (.int .i64 2))
    (.ob (.cmp .ge (.var 76) (.int .i64 0))
    (.call k_players [] [(.int .i64), (.int .i64), (.int .i64), (.int .i64), (.int .i64), (.int .i64), (.int .i64), (.int .i64), (.int .i64), (.int .i64), (.int .i64), (.int .i64), (.int .i64), (.int .i64), (.int .i64), (.int .i64), (.int .i64), (.int .i64)]
    (.loop [(.var 75), (.int .i64 0)] [.bool, (.int .i64)]
     (.ite (.cmp .lt (.var 96) (.int .i64 9))
      (.ob (.cmp .ge (.var 96) (.int .i64 0))
      (.ob (.cmp .ge (.var 96) (.int .i64 0))
      (.call k_has [(.sel (.econs (.var 77) (.econs (.var 79) (.econs (.var 81) (.econs (.var 83) (.econs (.var 85) (.econs (.var 87) (.econs (.var 89) (.econs (.var 91) (.econs (.var 93) .enil))))))))) (.var 96) (.int .i64)), (.sel (.econs (.var 78) (.econs (.var 80) (.econs (.var 82) (.econs (.var 84) (.econs (.var 86) (.econs (.var 88) (.econs (.var 90) (.econs (.var 92) (.econs (.var 94) .enil))))))))) (.var 96) (.int .i64)), (.sel (.econs (.sel (.econs (.var 12) (.econs (.var 21) .enil)) (.var 76) (.int .i64)) (.econs (.sel (.econs (.var 13) (.econs (.var 22) .enil)) (.var 76) (.int .i64)) (.econs (.sel (.econs (.var 14) (.econs (.var 23) .enil)) (.var 76) (.int .i64)) (.econs (.sel (.econs (.var 15) (.econs (.var 24) .enil)) (.var 76) (.int .i64)) (.econs (.sel (.econs (.var 16) (.econs (.var 25) .enil)) (.var 76) (.int .i64)) (.econs (.sel (.econs (.var 17) (.econs (.var 26) .enil)) (.var 76) (.int .i64)) (.econs (.sel (.econs (.var 18) (.econs (.var 27) .enil)) (.var 76) (.int .i64)) (.econs (.sel (.econs (.var 19) (.econs (.var 28) .enil)) (.var 76) (.int .i64)) (.econs (.sel (.econs (.var 20) (.econs (.var 29) .enil)) (.var 76) (.int .i64)) .enil))))))))) (.var 96) (.int .i64))] [.bool]
      (.ite (.not (.var 97))
       (.ret [(.bool false)])
       (.again 2 [(.var 95), (.ar .add .i64 (.var 96) (.int .i64 1))])))))
      (.again 1 [(.var 95), (.ar .add .i64 (.var 76) (.int .i64 1))])))))
    (.call k_game [] [(.int .i64), (.int .i64), (.int .i64), (.int .i64), (.int .i64), (.int .i64), (.int .i64), (.int .i64), (.int .i64), (.int .i64), (.int .i64), (.int .i64), (.int .i64), (.int .i64)]
    (.loop [(.var 75), (.int .i64 0)] [.bool, (.int .i64)]
     (.ite (.cmp .lt (.var 92) (.int .i64 7))
      (.ob (.cmp .ge (.var 92) (.int .i64 0))
      (.ob (.cmp .ge (.var 92) (.int .i64 0))
      (.call k_has [(.sel (.econs (.var 77) (.econs (.var 79) (.econs (.var 81) (.econs (.var 83) (.econs (.var 85) (.econs (.var 87) (.econs (.var 89) .enil))))))) (.var 92) (.int .i64)), (.sel (.econs (.var 78) (.econs (.var 80) (.econs (.var 82) (.econs (.var 84) (.econs (.var 86) (.econs (.var 88) (.econs (.var 90) .enil))))))) (.var 92) (.int .i64)), (.sel (.econs (.var 30) (.econs (.var 31) (.econs (.var 32) (.econs (.var 33) (.econs (.var 34) (.econs (.var 35) (.econs (.var 36) .enil))))))) (.var 92) (.int .i64))] [.bool]
      (.ite (.not (.var 93))
       (.ret [(.bool false)])
       (.again 2 [(.var 91), (.ar .add .i64 (.var 92) (.int .i64 1))])))))
      (.ret [(.bool true)])))))))))
theorem wk_ranges : walk E0.cx (sgsN [(37, sg_objects), (38, sg_has), (39, sg_players), (40, sg_game)]) 0 29 sg_ranges = tr_ranges := by kernel_rfl
theorem bo_ranges : ∃ x, bodyOf E0.P 29 = some x := bo_of (by kernel_rfl)
theorem sp_ranges_objects : specC [con_objects, con_has, con_players, con_game] k_objects = objects_s := rfl
theorem sp_ranges_has : specC [con_objects, con_has, con_players, con_game] k_has = has_s := rfl
theorem sp_ranges_players : specC [con_objects, con_has, con_players, con_game] k_players = players_s := rfl
theorem sp_ranges_game : specC [con_objects, con_has, con_players, con_game] k_game = game_s := rfl
def ranges_s : Spec := iff_s rangesP
theorem ranges_h : Holds E0 k_ranges sg_ranges ranges_s := con_by wf0 mix0 g0 [con_objects, con_has, con_players, con_game] rfl wk_ranges rfl (by
  intro ds Q hs ⟨hsm, h⟩
  have hl : ds.length = 37 := hs.length.symm
  have hn := hsm 0 (by omega)
  have fail : ¬ rangesP ds → Q [.bool false] := fun hn => h _ (by simp only [Bool.false_eq_true, false_iff]; exact hn)
  simp only [tr_ranges, wp, den_int, den_bool, den_nili, den_ar, den_cmp, den_not, den_len, den_elem, den_isnil, den_errI, den_ifc, den_rep, den_push, den_app, den_emp, den_upd, row0_econs, row0_enil, den_and, den_beq, den_nil, toInt_int, toBool_bool, xs_rows, xs_list, dflt_int, dflt_bool, of_eq, of_ne, of_lt, of_le, of_gt, of_ge, of_add, of_sub, of_rem, List.map_cons, List.map_nil, Dat.bool.injEq, decide_eq_true_eq, decide_eq_false_iff_not, Bool.not_eq_true', Bool.not_eq_false', beq_iff_eq, bne_iff_ne, beq_eq_false_iff_ne, bne_eq_false_iff_eq, ne_eq, List.append_assoc, List.cons_append, List.nil_append, allS, sp_ranges_objects, sp_ranges_has, sp_ranges_players, sp_ranges_game, objects_s, has_s, players_s, game_s, twos, Nat.reduceAdd, Nat.zero_add, argI, List.getD_cons_zero, List.getD_cons_succ, @den_var0 E0.Δ ds, den_varA, den_varB, hl, Nat.reduceLT, Nat.reduceLeDiff, Nat.reduceSub, List.getD_cons_zero, List.getD_cons_succ, argL_fold ds, argI_fold ds, List.append_assoc, List.cons_append, List.nil_append, toInt_int, toBool_bool, xs_rows, xs_list, Int.toNat_natCast, Dat.bool.injEq]
  refine ⟨fun xs m => ∃ (b : Bool) (i : Nat), xs = [.bool b, .int .i64 i] ∧ i ≤ (argL ds 0).length ∧ (∀ o ∈ (argL ds 0).take i, objB o (argL ds 0).length = true) ∧ m = (argL ds 0).length - i, ⟨_, false, 0, rfl, by omega, by simp, rfl⟩, ?_⟩
  intro b i' m ⟨_, i, e, hi, hall, hm⟩
  cases e
  refine ⟨fun hlt => ⟨by omega, ?_⟩, fun hge => ?_⟩
  · have hi2 : i < (argL ds 0).length := by omega
    refine ⟨fun xs m => ∃ (b : Bool) (f : Nat), xs = [.bool b, .int .i64 f] ∧ f ≤ 18 ∧ (∀ k, k < f → inB (rowI (argL ds 0)[i] k) (loO k) (hiO (argL ds 0).length k) = true) ∧ m = 18 - f, ⟨_, b, 0, rfl, by omega, by intro y hy; omega, rfl⟩, ?_⟩
    intro b1 f' m1 ⟨_, f, e, hf, hall1, hm1⟩
    cases e
    refine ⟨fun hlt1 => ⟨by omega, by omega, ?_⟩, fun hge1 => ?_⟩
    · have hf1 : f < 18 := by omega
      simp only [den_sel, row0_econs, row0_enil, den_elem, den_len, @den_var0 E0.Δ ds, den_varA, den_varB, hl, Nat.reduceLT, Nat.reduceLeDiff, Nat.reduceSub, List.getD_cons_zero, List.getD_cons_succ, argL_fold ds, argI_fold ds, List.append_assoc, List.cons_append, List.nil_append, toInt_int, toBool_bool, xs_rows, xs_list, Int.toNat_natCast, Dat.bool.injEq, getD_lt hi2, selG18 loO hf1, selG18 (hiO _) hf1]
      simp only [dflt_int, selR18 _ hf1]
      refine ⟨fun h1 => fail fun hP => ?_, fun h1 => ⟨18 - (f + 1), by omega, b1, f + 1, ?_, by omega, fun k hk => ?_, rfl⟩⟩
      · have := (objB_iff _ _).1 (hP.1 _ (List.getElem_mem hi2)) f hf1
        rw [h1] at this; cases this
      · rw [wrap64 (by omega) (by omega)]; rfl
      · by_cases hkf : k = f
        · subst hkf; exact h1
        · exact hall1 k (by omega)
    · refine ⟨(argL ds 0).length - (i + 1), by omega, b1, i + 1, ?_, by omega, all_take hall hi2 ((objB_iff _ _).2 fun k hk => hall1 k (by omega)), rfl⟩
      rw [wrap64 (by omega) (by omega)]; rfl
  · have hobj : ∀ o ∈ argL ds 0, objB o (argL ds 0).length = true := by rw [List.take_of_length_le (by omega)] at hall; exact hall
    clear hall hm hge hi
    refine ⟨fun xs m => ∃ (b : Bool) (i : Nat), xs = [.bool b, .int .i64 i] ∧ i ≤ 2 ∧ (∀ j, j < i → ∀ f, f < 9 → inB (pl ds (9 * j + f)) (loP f) (hiP f) = true) ∧ m = 2 - i, ⟨_, b, 0, rfl, by omega, by intro j hj; omega, rfl⟩, ?_⟩
    intro b1 i1' m1 ⟨_, i1, e, hi1, hall, hm⟩
    cases e
    refine ⟨fun hlt => ⟨by omega, ?_⟩, fun hge => ?_⟩
    · have hi2 : i1 < 2 := by omega
      refine ⟨fun xs m => ∃ (b : Bool) (f : Nat), xs = [.bool b, .int .i64 f] ∧ f ≤ 9 ∧ (∀ k, k < f → inB (pl ds (9 * i1 + k)) (loP k) (hiP k) = true) ∧ m = 9 - f, ⟨_, b1, 0, rfl, by omega, by intro y hy; omega, rfl⟩, ?_⟩
      intro b2 f' m2 ⟨_, f, e, hf, hall1, hm1⟩
      cases e
      refine ⟨fun hlt1 => ⟨by omega, by omega, ?_⟩, fun hge1 => ?_⟩
      · have hf1 : f < 9 := by omega
        simp only [den_sel, row0_econs, row0_enil, den_elem, den_len, @den_var0 E0.Δ ds, den_varA, den_varB, hl, Nat.reduceLT, Nat.reduceLeDiff, Nat.reduceSub, List.getD_cons_zero, List.getD_cons_succ, argL_fold ds, argI_fold ds, List.append_assoc, List.cons_append, List.nil_append, toInt_int, toBool_bool, xs_rows, xs_list, Int.toNat_natCast, Dat.bool.injEq, selG9 loP hf1, selG9 hiP hf1, sel2 hi2 (c := 9) rfl]
        have e9 : ∀ x, ([ds.getD (12 + 9 * i1) (.bool false), ds.getD (13 + 9 * i1) (.bool false), ds.getD (14 + 9 * i1) (.bool false), ds.getD (15 + 9 * i1) (.bool false), ds.getD (16 + 9 * i1) (.bool false), ds.getD (17 + 9 * i1) (.bool false), ds.getD (18 + 9 * i1) (.bool false), ds.getD (19 + 9 * i1) (.bool false), ds.getD (20 + 9 * i1) (.bool false)].getD f x).toInt = pl ds (9 * i1 + f) := fun x => by
          match f, hf1 with
          | 0, _ | 1, _ | 2, _ | 3, _ | 4, _ | 5, _ | 6, _ | 7, _ | 8, _ =>
            simp only [List.getD_cons_zero, List.getD_cons_succ, argI_fold, pl]
            first | rfl | (congr 1; omega)
        simp only [e9]
        refine ⟨fun h1 => fail fun hP => ?_, fun h1 => ⟨9 - (f + 1), by omega, b2, f + 1, ?_, by omega, fun k hk => ?_, rfl⟩⟩
        · have := (plP_iff _).1 hP.2.1 i1 hi2 f hf1
          rw [h1] at this; cases this
        · rw [wrap64 (by omega) (by omega)]; rfl
        · by_cases hkf : k = f
          · subst hkf; exact h1
          · exact hall1 k (by omega)
      · refine ⟨2 - (i1 + 1), by omega, b2, i1 + 1, ?_, by omega, fun j hj => ?_, rfl⟩
        · rw [wrap64 (by omega) (by omega)]; rfl
        · by_cases hji : j = i1
          · subst hji; exact fun k hk => hall1 k (by omega)
          · exact hall j (by omega)
    · have hpl : plP ds := (plP_iff ds).2 fun i hi => hall i (by omega)
      clear hall hm hge hi1
      refine ⟨fun xs m => ∃ (b : Bool) (f : Nat), xs = [.bool b, .int .i64 f] ∧ f ≤ 7 ∧ (∀ k, k < f → inB (gm ds k) (loG k) (hiG k) = true) ∧ m = 7 - f, ⟨_, b1, 0, rfl, by omega, by intro y hy; omega, rfl⟩, ?_⟩
      intro b2 f' m2 ⟨_, f, e, hf, hall1, hm1⟩
      cases e
      refine ⟨fun hlt1 => ⟨by omega, by omega, ?_⟩, fun hge1 => ?_⟩
      · have hf1 : f < 7 := by omega
        simp only [den_sel, row0_econs, row0_enil, den_elem, den_len, @den_var0 E0.Δ ds, den_varA, den_varB, hl, Nat.reduceLT, Nat.reduceLeDiff, Nat.reduceSub, List.getD_cons_zero, List.getD_cons_succ, argL_fold ds, argI_fold ds, List.append_assoc, List.cons_append, List.nil_append, toInt_int, toBool_bool, xs_rows, xs_list, Int.toNat_natCast, Dat.bool.injEq, selG7 loG hf1, selG7 hiG hf1]
        simp only [selV7 _ hf1]
        refine ⟨fun h1 => fail fun hP => ?_, fun h1 => ⟨7 - (f + 1), by omega, b2, f + 1, ?_, by omega, fun k hk => ?_, rfl⟩⟩
        · have := (gmP_iff _).1 hP.2.2 f hf1
          rw [h1] at this; cases this
        · rw [wrap64 (by omega) (by omega)]; rfl
        · by_cases hkf : k = f
          · subst hkf; exact h1
          · exact hall1 k (by omega)
      · refine h _ ?_
        simp only [true_iff]
        exact ⟨hobj, hpl, (gmP_iff ds).2 fun f hf => hall1 f (by omega)⟩)
noncomputable def con_ranges : Con E0 := ⟨k_ranges, sg_ranges, ranges_s, rfl, bo_ranges, ranges_h⟩
end Go.Proofs.YtonjilfbcofoaaaDoor
