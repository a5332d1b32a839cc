import Derived.Test.YtelfhmeobfimiaaDoorM20

section
namespace Go.Proofs.YtelfhmeobfimiaaDoor
open Go.RowKit
set_option linter.unusedVariables false
set_option linter.unusedSimpArgs false

theorem allow1 (S : List Dat) (self t : Int) : allowB S 1 self t = if t = -1 ∨ t = -2 then false else if t ≤ 0 ∨ ((argL S 0).length : Int) ≤ t - 1 then false else isC S (t - 1) := by
  unfold allowB
  simp
theorem allow2 (S : List Dat) (self t : Int) : allowB S 2 self t = if t = -1 ∨ t = -2 then true else false := by
  unfold allowB
  simp
theorem allow3 (S : List Dat) (self t : Int) : allowB S 3 self t = if t = -1 ∨ t = -2 then true else if t ≤ 0 ∨ ((argL S 0).length : Int) ≤ t - 1 then false else isC S (t - 1) := by
  unfold allowB
  simp
theorem allow5 (S : List Dat) (self t : Int) : allowB S 5 self t = if t = -1 ∨ t = -2 then false else if t ≤ 0 ∨ ((argL S 0).length : Int) ≤ t - 1 then false else decide (rowI (obj S (t - 1)) 3 = 8) := by
  unfold allowB
  simp
theorem allow_any (S : List Dat) (self t : Int) : allowB S 3 self t = (allowB S 1 self t || allowB S 2 self t) := by
  rw [allow1, allow2, allow3]
  split
  · rfl
  · rw [Bool.or_false]
theorem allow_not {S : List Dat} {self t : Int} (h : allowB S 1 self t = true) : allowB S 2 self t = false := by
  rw [allow1] at h
  rw [allow2]
  split
  · rename_i e
    rw [if_pos e] at h
    cases h
  · rfl
theorem allow_thing {S : List Dat} {self t : Int} (h : allowB S 1 self t = true) : allowB S 5 self t = true := by
  rw [allow1] at h
  rw [allow5]
  split
  · rename_i e
    rw [if_pos e] at h
    cases h
  · rename_i e
    rw [if_neg e] at h
    split
    · rename_i e2
      rw [if_pos e2] at h
      cases h
    · rename_i e2
      rw [if_neg e2] at h
      unfold isC at h
      simp only [Bool.and_eq_true, beq_iff_eq] at h
      exact decide_eq_true h.1.2
theorem allow_cast {S : List Dat} {self t : Int} (h : t ≤ 0 ∨ t = self + 1) (h2 : ¬ (t = -1 ∨ t = -2)) : allowB S 4 self t = false := by
  unfold allowB
  rw [if_neg (by decide), if_neg h2]
  split
  · rfl
  · rw [if_neg (by decide), if_pos rfl, decide_eq_false (by omega)]
    rfl
theorem chk_0 {S : List Dat} {k self t : Int} (h0 : 0 ≤ k) (h6 : k < 6) : (chk18 S k self t = 0) = (allowB S k self t = true) := by
  unfold chk18
  rw [if_neg (by omega)]
  refine propext ⟨fun h => ?_, fun h => if_pos h⟩
  split at h
  · assumption
  · cases h
def k_ltmore : Nat := 9
def sg_ltmore : Sig := ⟨[(true, [.list 36] ++ List.replicate 11 (.list 3) ++ List.replicate 25 (.int .i64)), (false, [.int .i64]), (false, [.int .i64])], [(false, [.bool])], false, false, true, false, false⟩
def tr_ltmore : Tree := (.call k_alive18 [] [.bool]
(.ite (.not (.var 39))
 (.ret [(.bool false)])
 (.call k_Long [(.var 0), (.var 1), (.var 2), (.var 3), (.var 4), (.var 5), (.var 6), (.var 7), (.var 8), (.var 9), (.var 10), (.var 11), (.var 12), (.var 13), (.var 14), (.var 15), (.var 16), (.var 17), (.var 18), (.var 19), (.var 20), (.var 21), (.var 22), (.var 23), (.var 24), (.var 25), (.var 26), (.var 27), (.var 28), (.var 29), (.var 30), (.var 31), (.var 32), (.var 33), (.var 34), (.var 35), (.var 36), (.int .i64 60)] [.bool]
 (.ite (.var 40)
  (.ret [(.bool true)])
  (.call k_rCheck [(.var 0), (.var 1), (.var 2), (.var 3), (.var 4), (.var 5), (.var 6), (.var 7), (.var 8), (.var 9), (.var 10), (.var 11), (.var 12), (.var 13), (.var 14), (.var 15), (.var 16), (.var 17), (.var 18), (.var 19), (.var 20), (.var 21), (.var 22), (.var 23), (.var 24), (.var 25), (.var 26), (.var 27), (.var 28), (.var 29), (.var 30), (.var 31), (.var 32), (.var 33), (.var 34), (.var 35), (.var 36)] [(.int .i64)]
  (.ite (.cmp .ne (.var 41) (.int .i64 0))
   (.ret [(.bool true)])
   (.call k_tCheck18 [(.var 0), (.var 1), (.var 2), (.var 3), (.var 4), (.var 5), (.var 6), (.var 7), (.var 8), (.var 9), (.var 10), (.var 11), (.var 12), (.var 13), (.var 14), (.var 15), (.var 16), (.var 17), (.var 18), (.var 19), (.var 20), (.var 21), (.var 22), (.var 23), (.var 24), (.var 25), (.var 26), (.var 27), (.var 28), (.var 29), (.var 30), (.var 31), (.var 32), (.var 33), (.var 34), (.var 35), (.var 36), (.int .i64 1), (.var 37), (.var 38)] [.err]
   (.call k_tCheck18 [(.var 0), (.var 1), (.var 2), (.var 3), (.var 4), (.var 5), (.var 6), (.var 7), (.var 8), (.var 9), (.var 10), (.var 11), (.var 12), (.var 13), (.var 14), (.var 15), (.var 16), (.var 17), (.var 18), (.var 19), (.var 20), (.var 21), (.var 22), (.var 23), (.var 24), (.var 25), (.var 26), (.var 27), (.var 28), (.var 29), (.var 30), (.var 31), (.var 32), (.var 33), (.var 34), (.var 35), (.var 36), (.int .i64 2), (.var 37), (.var 38)] [.err]
   (.call k_tCheck18 [(.var 0), (.var 1), (.var 2), (.var 3), (.var 4), (.var 5), (.var 6), (.var 7), (.var 8), (.var 9), (.var 10), (.var 11), (.var 12), (.var 13), (.var 14), (.var 15), (.var 16), (.var 17), (.var 18), (.var 19), (.var 20), (.var 21), (.var 22), (.var 23), (.var 24), (.var 25), (.var 26), (.var 27), (.var 28), (.var 29), (.var 30), (.var 31), (.var 32), (.var 33), (.var 34), (.var 35), (.var 36), (.int .i64 3), (.var 37), (.var 38)] [.err]
   (.ite (.isnil (.var 42))
    (.ite (.not (.beq (.isnil (.var 44)) (.bool true)))
     (.ret [(.bool false)])
     (.ite (.isnil (.var 43))
      (.ret [(.bool false)])
      (.call k_tCheck18 [(.var 0), (.var 1), (.var 2), (.var 3), (.var 4), (.var 5), (.var 6), (.var 7), (.var 8), (.var 9), (.var 10), (.var 11), (.var 12), (.var 13), (.var 14), (.var 15), (.var 16), (.var 17), (.var 18), (.var 19), (.var 20), (.var 21), (.var 22), (.var 23), (.var 24), (.var 25), (.var 26), (.var 27), (.var 28), (.var 29), (.var 30), (.var 31), (.var 32), (.var 33), (.var 34), (.var 35), (.var 36), (.int .i64 5), (.var 37), (.var 38)] [.err]
      (.ite (.not (.isnil (.var 45)))
       (.ret [(.bool false)])
       (.loop [(.bool false), (.int .i64 0)] [.bool, (.int .i64)]
        (.ite (.cmp .lt (.var 47) (.int .i64 6))
         (.call k_tList [(.var 0), (.var 1), (.var 2), (.var 3), (.var 4), (.var 5), (.var 6), (.var 7), (.var 8), (.var 9), (.var 10), (.var 11), (.var 12), (.var 13), (.var 14), (.var 15), (.var 16), (.var 17), (.var 18), (.var 19), (.var 20), (.var 21), (.var 22), (.var 23), (.var 24), (.var 25), (.var 26), (.var 27), (.var 28), (.var 29), (.var 30), (.var 31), (.var 32), (.var 33), (.var 34), (.var 35), (.var 36), (.var 47), (.var 37)] [(.list 3)]
         (.loop [(.bool false), (.int .i64 0)] [.bool, (.int .i64)]
          (.ite (.cmp .lt (.var 50) (.len (.var 48)))
           (.ob (.cmp .ge (.var 50) (.int .i64 0))
           (.again 1 [(.or (.var 49) (.cmp .eq (.elem (.var 48) (.var 50) 0 (.int .i64)) (.var 38))), (.ar .add .i64 (.var 50) (.int .i64 1))]))
           (.call k_tCheck18 [(.var 0), (.var 1), (.var 2), (.var 3), (.var 4), (.var 5), (.var 6), (.var 7), (.var 8), (.var 9), (.var 10), (.var 11), (.var 12), (.var 13), (.var 14), (.var 15), (.var 16), (.var 17), (.var 18), (.var 19), (.var 20), (.var 21), (.var 22), (.var 23), (.var 24), (.var 25), (.var 26), (.var 27), (.var 28), (.var 29), (.var 30), (.var 31), (.var 32), (.var 33), (.var 34), (.var 35), (.var 36), (.var 47), (.var 37), (.var 38)] [.err]
           (.ite (.not (.beq (.var 49) (.isnil (.var 51))))
            (.ret [(.bool false)])
            (.again 0 [(.var 46), (.ar .add .i64 (.var 47) (.int .i64 1))]))))))
         (.call k_tCheck18 [(.var 0), (.var 1), (.var 2), (.var 3), (.var 4), (.var 5), (.var 6), (.var 7), (.var 8), (.var 9), (.var 10), (.var 11), (.var 12), (.var 13), (.var 14), (.var 15), (.var 16), (.var 17), (.var 18), (.var 19), (.var 20), (.var 21), (.var 22), (.var 23), (.var 24), (.var 25), (.var 26), (.var 27), (.var 28), (.var 29), (.var 30), (.var 31), (.var 32), (.var 33), (.var 34), (.var 35), (.var 36), (.int .i64 4), (.var 37), (.ite (.or (.cmp .lt (.var 37) (.int .i64 0)) (.cmp .eq (.var 37) (.int .i64 9223372036854775807))) (.int .i64 0) (.ar .add .i64 (.var 37) (.int .i64 1)))] [.err]
         (.ret [(.not (.isnil (.var 48)))]))))))))
    (.ite (.not (.beq (.isnil (.var 44)) (.isnil (.var 43))))
     (.ret [(.bool false)])
     (.loop [(.bool false), (.int .i64 0)] [.bool, (.int .i64)]
      (.ite (.cmp .lt (.var 46) (.int .i64 6))
       (.call k_tList [(.var 0), (.var 1), (.var 2), (.var 3), (.var 4), (.var 5), (.var 6), (.var 7), (.var 8), (.var 9), (.var 10), (.var 11), (.var 12), (.var 13), (.var 14), (.var 15), (.var 16), (.var 17), (.var 18), (.var 19), (.var 20), (.var 21), (.var 22), (.var 23), (.var 24), (.var 25), (.var 26), (.var 27), (.var 28), (.var 29), (.var 30), (.var 31), (.var 32), (.var 33), (.var 34), (.var 35), (.var 36), (.var 46), (.var 37)] [(.list 3)]
       (.loop [(.bool false), (.int .i64 0)] [.bool, (.int .i64)]
        (.ite (.cmp .lt (.var 49) (.len (.var 47)))
         (.ob (.cmp .ge (.var 49) (.int .i64 0))
         (.again 1 [(.or (.var 48) (.cmp .eq (.elem (.var 47) (.var 49) 0 (.int .i64)) (.var 38))), (.ar .add .i64 (.var 49) (.int .i64 1))]))
         (.call k_tCheck18 [(.var 0), (.var 1), (.var 2), (.var 3), (.var 4), (.var 5), (.var 6), (.var 7), (.var 8), (.var 9), (.var 10), (.var 11), (.var 12), (.var 13), (.var 14), (.var 15), (.var 16), (.var 17), (.var 18), (.var 19), (.var 20), (.var 21), (.var 22), (.var 23), (.var 24), (.var 25), (.var 26), (.var 27), (.var 28), (.var 29), (.var 30), (.var 31), (.var 32), (.var 33), (.var 34), (.var 35), (.var 36), (.var 46), (.var 37), (.var 38)] [.err]
         (.ite (.not (.beq (.var 48) (.isnil (.var 50))))
          (.ret [(.bool false)])
          (.again 0 [(.var 45), (.ar .add .i64 (.var 46) (.int .i64 1))]))))))
       (.call k_tCheck18 [(.var 0), (.var 1), (.var 2), (.var 3), (.var 4), (.var 5), (.var 6), (.var 7), (.var 8), (.var 9), (.var 10), (.var 11), (.var 12), (.var 13), (.var 14), (.var 15), (.var 16), (.var 17), (.var 18), (.var 19), (.var 20), (.var 21), (.var 22), (.var 23), (.var 24), (.var 25), (.var 26), (.var 27), (.var 28), (.var 29), (.var 30), (.var 31), (.var 32), (.var 33), (.var 34), (.var 35), (.var 36), (.int .i64 4), (.var 37), (.ite (.or (.cmp .lt (.var 37) (.int .i64 0)) (.cmp .eq (.var 37) (.int .i64 9223372036854775807))) (.int .i64 0) (.ar .add .i64 (.var 37) (.int .i64 1)))] [.err]
       (.ret [(.not (.isnil (.var 47)))])))))))))))))))
theorem wk_ltmore : walk E0.cx (sgsN [(22, sg_alive18), (16, sg_Long), (23, sg_rCheck), (39, sg_tCheck18), (26, sg_tList)]) 0 9 sg_ltmore = tr_ltmore := by kernel_rfl
theorem bo_ltmore : ∃ x, bodyOf E0.P 9 = some x := bo_of (by kernel_rfl)
theorem sp_ltmore_alive18 : specC [con_alive18, con_Long, con_rCheck, con_tCheck18, con_tList] k_alive18 = alive18_s := rfl
theorem sp_ltmore_Long : specC [con_alive18, con_Long, con_rCheck, con_tCheck18, con_tList] k_Long = Long_s := rfl
theorem sp_ltmore_rCheck : specC [con_alive18, con_Long, con_rCheck, con_tCheck18, con_tList] k_rCheck = rCheck_s := rfl
theorem sp_ltmore_tCheck18 : specC [con_alive18, con_Long, con_rCheck, con_tCheck18, con_tList] k_tCheck18 = tCheck18_s := rfl
theorem sp_ltmore_tList : specC [con_alive18, con_Long, con_rCheck, con_tCheck18, con_tList] k_tList = tList_s := rfl
theorem ltmore_h : Holds E0 k_ltmore sg_ltmore law_s := con_fn wf0 mix0 g0 [con_alive18, con_Long, con_rCheck, con_tCheck18, con_tList] rfl wk_ltmore rfl (by
  intro Φ hΦ ds Q hs ⟨hin, h⟩
  have hl : ds.length = 39 := hs.length.symm
  have s1 : Φ k_alive18 = alive18_s := by rw [hΦ]; rfl
  have s2 : Φ k_Long = Long_s := by rw [hΦ]; rfl
  have s3 : Φ k_rCheck = rCheck_s := by rw [hΦ]; rfl
  have s4 : Φ k_tCheck18 = tCheck18_s := by rw [hΦ]; rfl
  have s5 : Φ k_tList = tList_s := by rw [hΦ]; rfl
  clear hΦ
  have hol : (argL (ds.take 37) 0).length = (argL ds 0).length := by rw [argL_t (by omega)]
  have et : (ds.take 37).take 37 = ds.take 37 := by rw [List.take_take]; rfl
  have hi37 := inI hin (k := 37) (by omega) (argV (all2_get hs (i := 37) rfl))
  have hi38 := inI hin (k := 38) (by omega) (argV (all2_get hs (i := 38) rfl))
  simp (config := {maxSteps := 2000000}) only [tr_ltmore, wp, den_int, den_bool, den_nili, den_ar, den_cmp, den_not, den_len, den_elem, den_isnil, den_errI, den_ifc, den_rep, den_push, den_app, den_emp, den_upd, row0_econs, row0_enil, den_and, den_beq, den_nil, toInt_int, toBool_bool, xs_rows, xs_list, dflt_int, dflt_bool, of_eq, of_ne, of_lt, of_le, of_gt, of_ge, of_add, of_sub, of_rem, List.map_cons, List.map_nil, Dat.bool.injEq, decide_eq_true_eq, decide_eq_false_iff_not, Bool.not_eq_true', Bool.not_eq_false', beq_iff_eq, bne_iff_ne, beq_eq_false_iff_ne, bne_eq_false_iff_eq, ne_eq, List.append_assoc, List.cons_append, List.nil_append, allS, s1, s2, s3, s4, s5, alive18_s, true_s, Long_s, rCheck_s, tCheck18_s, tList_s, @den_var0 E0.Δ ds, den_varA, den_varB, hl, Nat.reduceLT, Nat.reduceLeDiff, Nat.reduceSub, List.getD_cons_zero, List.getD_cons_succ, argL_fold ds, argI_fold ds, List.append_assoc, List.cons_append, List.nil_append, toInt_int, toBool_bool, xs_rows, xs_list, Int.toNat_natCast, Dat.bool.injEq, dflt_int, fold37x (show 37 ≤ ds.length by omega), take_ta (show 37 ≤ ds.length by omega), argI_ta (show 37 ≤ ds.length by omega) 0, argL_ta (i := 0) (show 0 < 37 by omega) (show 37 ≤ ds.length by omega), argI_c0, argI_fold ds, toInt_getD, List.append_nil, ← obj_t, den_ite, den_not, toBool_bool, argI_ta (show 37 ≤ ds.length by omega) 1, argI_ta (show 37 ≤ ds.length by omega) 2, argI_c1, et, den_or, List.getElem?_cons_zero, List.getElem?_cons_succ, errV_nil, argL_ta (show 0 < 37 by omega) (show 37 ≤ ds.length by omega)]
  refine ⟨fun hx => absurd hx (by decide), fun _ => ⟨by decide, by decide, fun b hb => ⟨fun _ => h, fun hbf => ?_⟩⟩⟩
  have hsm : Sm (ds.take 37) := sm_t60 (m := 60) (by omega) (fun hL => by rw [hb.2 hL] at hbf; exact absurd hbf (by decide)) (by decide)
  refine ⟨hsm, fun n hn => ⟨fun h0 => h, fun h0 => ?_⟩⟩
  subst h0
  refine ⟨hsm, hi38, fun n1 h1 => ⟨hsm, hi38, fun n2 h2 => ⟨hsm, hi38, fun n3 h3 => ?_⟩⟩⟩
  obtain rfl := errP_inj hn h1
  obtain rfl := errP_inj hn h2
  obtain rfl := errP_inj hn h3
  have e0 : ∀ x : Int, (if (0 : Int) = 0 then x else 0) = x := fun x => if_pos rfl
  simp only [↓reduceIte, chk_0 (show (0 : Int) ≤ 1 by decide) (show (1 : Int) < 6 by decide), chk_0 (show (0 : Int) ≤ 2 by decide) (show (2 : Int) < 6 by decide), chk_0 (show (0 : Int) ≤ 3 by decide) (show (3 : Int) < 6 by decide), Bool.decide_eq_true]
  have an := allow_any (ds.take 37) (argI ds 37) (argI ds 38)
  refine ⟨fun a1 => ⟨fun a3 => absurd (by rw [an, a1]; rfl) a3, fun a3 => ⟨fun a2 => absurd a2 (by rw [allow_not a1]; decide), fun a2 => ⟨hsm, hi38, fun n1 h1 => ⟨fun a5 => absurd ?_ a5, fun a5 => ?_⟩⟩⟩⟩, fun a1 => ⟨fun hx => absurd ?_ hx, fun hx => ?_⟩⟩
  · obtain rfl := errP_inj hn h1
    rw [if_pos rfl, chk_0 (by decide) (by decide)]
    exact allow_thing a1
  rotate_left 1
  · rw [an, Bool.eq_false_iff.2 a1, Bool.false_or]
  all_goals
    refine ⟨fun xs m => ∃ (b : Bool) (k : Nat), k ≤ 6 ∧ m = 6 - k ∧ xs = [.bool b, .int .i64 k], ⟨6, false, 0, by omega, rfl, rfl⟩, ?_⟩
    intro b1 n1 m ⟨b, k, hk, hm, e⟩
    obtain ⟨rfl, rfl⟩ : b1 = b ∧ n1 = (k : Int) := by simpa using e
    subst hm
    refine ⟨fun hlt => ⟨hsm, fun n3 h3 v => ?_⟩, fun hge => ⟨hsm, ?_, fun n3 h3 => ?_⟩⟩
    · obtain rfl := errP_inj hn h3
      rw [if_pos rfl]
      have hmem := mem_listP (S := ds.take 37) (kind := (k : Int)) (self := argI ds 37) (t := argI ds 38)
      rw [hol] at hmem
      have hll := listP_len (ds.take 37) (k : Int) (argI ds 37) ((argL ds 0).length + 3)
      have hsm0 := hsm 0 (by omega)
      rw [hol] at hsm0
      generalize listP (ds.take 37) (k : Int) (argI ds 37) ((argL ds 0).length + 3) = L at *
      refine ⟨fun xs m => ∃ j : Nat, j ≤ L.length ∧ m = L.length - j ∧ xs = [.bool (decide (argI ds 38 ∈ L.take j)), .int .i64 j], ⟨_, 0, by omega, rfl, by simp⟩, ?_⟩
      intro b2 n2 m2 ⟨j, hj, hm2, e2⟩
      obtain ⟨rfl, rfl⟩ : b2 = decide (argI ds 38 ∈ L.take j) ∧ n2 = (j : Int) := by simpa using e2
      subst hm2
      rw [intR_len]
      refine ⟨fun hlt2 => ⟨by omega, _, (by omega : L.length - (j + 1) < _), j + 1, by omega, rfl, ?_⟩, fun hge2 => ⟨hsm, hi38, fun n4 h4 => ?_⟩⟩
      · have hj2 : j < L.length := by omega
        rw [Int.toNat_natCast, intR_get L hj2, wrap64 (by omega) (by omega)]
        refine congrArg (fun b => [Dat.bool b, Dat.int .i64 ((j + 1 : Nat) : Int)]) ?_
        rw [take_succ_getD (d := 0) hj2, Bool.eq_iff_iff]
        simp only [Bool.or_eq_true, decide_eq_true_eq, beq_iff_eq, List.mem_append, List.mem_singleton]
        exact or_congr Iff.rfl eq_comm
      · obtain rfl := errP_inj hn h4
        obtain rfl : j = L.length := by omega
        rw [if_pos rfl, List.take_length]
        refine ⟨fun hx => absurd ?_ hx, fun _ => ⟨6 - (k + 1), by omega, b1, k + 1, by omega, rfl, by rw [wrap64 (by omega) (by omega)]; rfl⟩⟩
        rw [decide_eq_decide, chk_0 (by omega) (by omega)]
        exact hmem
    · split
      · exact ⟨by decide, by decide⟩
      · rename_i hx
        rw [Bool.or_eq_true, decide_eq_true_eq, beq_iff_eq] at hx
        rw [toInt_int, wrap64 (by omega) (by omega)]
        omega
    · obtain rfl := errP_inj hn h3
      rw [if_pos rfl]
      have hc : ∀ x : Int, (x ≤ 0 ∨ x = argI ds 37 + 1) → ¬ (x = -1 ∨ x = -2) → Q [.bool (!decide (chk18 (ds.take 37) 4 (argI ds 37) x = 0))] := fun x h1 h2 => by
        have : ¬ chk18 (ds.take 37) 4 (argI ds 37) x = 0 := by
          rw [chk_0 (by decide) (by decide), allow_cast h1 h2]
          exact Bool.false_ne_true
        rw [decide_eq_false this]
        exact h
      split
      · exact hc 0 (.inl (by decide)) (by decide)
      · rename_i hx
        rw [Bool.or_eq_true, decide_eq_true_eq, beq_iff_eq] at hx
        rw [toInt_int, wrap64 (by omega) (by omega)]
        exact hc _ (.inr rfl) (by omega))
end Go.Proofs.YtelfhmeobfimiaaDoor
end
