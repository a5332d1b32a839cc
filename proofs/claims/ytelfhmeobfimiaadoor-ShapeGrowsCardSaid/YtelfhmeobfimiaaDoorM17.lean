import Derived.Test.YtelfhmeobfimiaaDoorM16

section
namespace Go.Proofs.YtelfhmeobfimiaaDoor
open Go.RowKit
set_option linter.unusedVariables false
set_option linter.unusedSimpArgs false

def k_lshapeof : Nat := 10
def sg_lshapeof : Sig := ⟨[(true, [.list 36] ++ List.replicate 11 (.list 3) ++ List.replicate 25 (.int .i64)), (false, [.int .i64])], [(false, [.bool])], false, false, true, false, false⟩
def tr_lshapeof : Tree := (.call k_alive17 [] [.bool]
(.ite (.not (.var 38))
 (.ret [(.bool false)])
 (.call k_Long [(.var 0), (.var 1), (.var 2), (.var 3), (.var 4), (.var 5), (.var 6), (.var 7), (.var 8), (.var 9), (.var 10), (.var 11), (.var 12), (.var 13), (.var 14), (.var 15), (.var 16), (.var 17), (.var 18), (.var 19), (.var 20), (.var 21), (.var 22), (.var 23), (.var 24), (.var 25), (.var 26), (.var 27), (.var 28), (.var 29), (.var 30), (.var 31), (.var 32), (.var 33), (.var 34), (.var 35), (.var 36), (.int .i64 60)] [.bool]
 (.ite (.var 39)
  (.ret [(.bool true)])
  (.call k_rCheck [(.var 0), (.var 1), (.var 2), (.var 3), (.var 4), (.var 5), (.var 6), (.var 7), (.var 8), (.var 9), (.var 10), (.var 11), (.var 12), (.var 13), (.var 14), (.var 15), (.var 16), (.var 17), (.var 18), (.var 19), (.var 20), (.var 21), (.var 22), (.var 23), (.var 24), (.var 25), (.var 26), (.var 27), (.var 28), (.var 29), (.var 30), (.var 31), (.var 32), (.var 33), (.var 34), (.var 35), (.var 36)] [(.int .i64)]
  (.ite (.cmp .eq (.var 40) (.int .i64 0))
   (.call k_rIs [(.var 0), (.var 1), (.var 2), (.var 3), (.var 4), (.var 5), (.var 6), (.var 7), (.var 8), (.var 9), (.var 10), (.var 11), (.var 12), (.var 13), (.var 14), (.var 15), (.var 16), (.var 17), (.var 18), (.var 19), (.var 20), (.var 21), (.var 22), (.var 23), (.var 24), (.var 25), (.var 26), (.var 27), (.var 28), (.var 29), (.var 30), (.var 31), (.var 32), (.var 33), (.var 34), (.var 35), (.var 36), (.var 37)] [.bool]
   (.ite (.var 41)
    (.call k_rOf17 [(.var 0), (.var 1), (.var 2), (.var 3), (.var 4), (.var 5), (.var 6), (.var 7), (.var 8), (.var 9), (.var 10), (.var 11), (.var 12), (.var 13), (.var 14), (.var 15), (.var 16), (.var 17), (.var 18), (.var 19), (.var 20), (.var 21), (.var 22), (.var 23), (.var 24), (.var 25), (.var 26), (.var 27), (.var 28), (.var 29), (.var 30), (.var 31), (.var 32), (.var 33), (.var 34), (.var 35), (.var 36), (.var 37)] [(.int .i64), (.int .i64), (.int .i64)]
    (.ob (.cmp .ge (.var 37) (.int .i64 0))
    (.ob (.cmp .lt (.var 37) (.len (.var 0)))
    (.call k_tOf [(.var 0), (.var 1), (.var 2), (.var 3), (.var 4), (.var 5), (.var 6), (.var 7), (.var 8), (.var 9), (.var 10), (.var 11), (.var 12), (.var 13), (.var 14), (.var 15), (.var 16), (.var 17), (.var 18), (.var 19), (.var 20), (.var 21), (.var 22), (.var 23), (.var 24), (.var 25), (.var 26), (.var 27), (.var 28), (.var 29), (.var 30), (.var 31), (.var 32), (.var 33), (.var 34), (.var 35), (.var 36), (.var 37)] [(.int .i64), (.int .i64), (.int .i64), .err]
    (.call k_tLeft [(.var 0), (.var 1), (.var 2), (.var 3), (.var 4), (.var 5), (.var 6), (.var 7), (.var 8), (.var 9), (.var 10), (.var 11), (.var 12), (.var 13), (.var 14), (.var 15), (.var 16), (.var 17), (.var 18), (.var 19), (.var 20), (.var 21), (.var 22), (.var 23), (.var 24), (.var 25), (.var 26), (.var 27), (.var 28), (.var 29), (.var 30), (.var 31), (.var 32), (.var 33), (.var 34), (.var 35), (.var 36), (.var 37)] [(.int .i64), .err]
    (.ite (.and (.cmp .eq (.var 45) (.var 42)) (.and (.cmp .eq (.var 46) (.var 43)) (.cmp .eq (.var 47) (.var 44))))
     (.call k_Num [(.var 48)] [(.int .i64)]
     (.ite (.cmp .eq (.var 51) (.ite (.not (.var 41)) (.int .i64 4) (.var 40)))
      (.ite (.cmp .eq (.var 49) (.ar .sub .i64 (.var 43) (.elem (.var 0) (.var 37) 6 (.int .i64))))
       (.call k_Num [(.var 50)] [(.int .i64)]
       (.ite (.cmp .eq (.var 52) (.ite (.not (.var 41)) (.int .i64 4) (.var 40)))
        (.call k_tIs [(.var 0), (.var 1), (.var 2), (.var 3), (.var 4), (.var 5), (.var 6), (.var 7), (.var 8), (.var 9), (.var 10), (.var 11), (.var 12), (.var 13), (.var 14), (.var 15), (.var 16), (.var 17), (.var 18), (.var 19), (.var 20), (.var 21), (.var 22), (.var 23), (.var 24), (.var 25), (.var 26), (.var 27), (.var 28), (.var 29), (.var 30), (.var 31), (.var 32), (.var 33), (.var 34), (.var 35), (.var 36), (.var 37)] [.bool]
        (.ret [(.beq (.var 53) (.var 41))]))
        (.ret [(.bool false)])))
       (.ret [(.bool false)]))
      (.ret [(.bool false)])))
     (.ret [(.bool false)])))))))
    (.call k_tOf [(.var 0), (.var 1), (.var 2), (.var 3), (.var 4), (.var 5), (.var 6), (.var 7), (.var 8), (.var 9), (.var 10), (.var 11), (.var 12), (.var 13), (.var 14), (.var 15), (.var 16), (.var 17), (.var 18), (.var 19), (.var 20), (.var 21), (.var 22), (.var 23), (.var 24), (.var 25), (.var 26), (.var 27), (.var 28), (.var 29), (.var 30), (.var 31), (.var 32), (.var 33), (.var 34), (.var 35), (.var 36), (.var 37)] [(.int .i64), (.int .i64), (.int .i64), .err]
    (.call k_tLeft [(.var 0), (.var 1), (.var 2), (.var 3), (.var 4), (.var 5), (.var 6), (.var 7), (.var 8), (.var 9), (.var 10), (.var 11), (.var 12), (.var 13), (.var 14), (.var 15), (.var 16), (.var 17), (.var 18), (.var 19), (.var 20), (.var 21), (.var 22), (.var 23), (.var 24), (.var 25), (.var 26), (.var 27), (.var 28), (.var 29), (.var 30), (.var 31), (.var 32), (.var 33), (.var 34), (.var 35), (.var 36), (.var 37)] [(.int .i64), .err]
    (.ite (.and (.cmp .eq (.var 42) (.int .i64 0)) (.and (.cmp .eq (.var 43) (.int .i64 0)) (.cmp .eq (.var 44) (.int .i64 0))))
     (.call k_Num [(.var 45)] [(.int .i64)]
     (.ite (.cmp .eq (.var 48) (.ite (.not (.var 41)) (.int .i64 4) (.var 40)))
      (.ite (.cmp .eq (.var 46) (.int .i64 0))
       (.call k_Num [(.var 47)] [(.int .i64)]
       (.ite (.cmp .eq (.var 49) (.ite (.not (.var 41)) (.int .i64 4) (.var 40)))
        (.call k_tIs [(.var 0), (.var 1), (.var 2), (.var 3), (.var 4), (.var 5), (.var 6), (.var 7), (.var 8), (.var 9), (.var 10), (.var 11), (.var 12), (.var 13), (.var 14), (.var 15), (.var 16), (.var 17), (.var 18), (.var 19), (.var 20), (.var 21), (.var 22), (.var 23), (.var 24), (.var 25), (.var 26), (.var 27), (.var 28), (.var 29), (.var 30), (.var 31), (.var 32), (.var 33), (.var 34), (.var 35), (.var 36), (.var 37)] [.bool]
        (.ret [(.beq (.var 50) (.var 41))]))
        (.ret [(.bool false)])))
       (.ret [(.bool false)]))
      (.ret [(.bool false)])))
     (.ret [(.bool false)]))))))
   (.call k_tOf [(.var 0), (.var 1), (.var 2), (.var 3), (.var 4), (.var 5), (.var 6), (.var 7), (.var 8), (.var 9), (.var 10), (.var 11), (.var 12), (.var 13), (.var 14), (.var 15), (.var 16), (.var 17), (.var 18), (.var 19), (.var 20), (.var 21), (.var 22), (.var 23), (.var 24), (.var 25), (.var 26), (.var 27), (.var 28), (.var 29), (.var 30), (.var 31), (.var 32), (.var 33), (.var 34), (.var 35), (.var 36), (.var 37)] [(.int .i64), (.int .i64), (.int .i64), .err]
   (.call k_tLeft [(.var 0), (.var 1), (.var 2), (.var 3), (.var 4), (.var 5), (.var 6), (.var 7), (.var 8), (.var 9), (.var 10), (.var 11), (.var 12), (.var 13), (.var 14), (.var 15), (.var 16), (.var 17), (.var 18), (.var 19), (.var 20), (.var 21), (.var 22), (.var 23), (.var 24), (.var 25), (.var 26), (.var 27), (.var 28), (.var 29), (.var 30), (.var 31), (.var 32), (.var 33), (.var 34), (.var 35), (.var 36), (.var 37)] [(.int .i64), .err]
   (.ite (.and (.cmp .eq (.var 41) (.int .i64 0)) (.and (.cmp .eq (.var 42) (.int .i64 0)) (.cmp .eq (.var 43) (.int .i64 0))))
    (.call k_Num [(.var 44)] [(.int .i64)]
    (.ite (.cmp .eq (.var 47) (.var 40))
     (.ite (.cmp .eq (.var 45) (.int .i64 0))
      (.call k_Num [(.var 46)] [(.int .i64)]
      (.ite (.cmp .eq (.var 48) (.var 40))
       (.call k_tIs [(.var 0), (.var 1), (.var 2), (.var 3), (.var 4), (.var 5), (.var 6), (.var 7), (.var 8), (.var 9), (.var 10), (.var 11), (.var 12), (.var 13), (.var 14), (.var 15), (.var 16), (.var 17), (.var 18), (.var 19), (.var 20), (.var 21), (.var 22), (.var 23), (.var 24), (.var 25), (.var 26), (.var 27), (.var 28), (.var 29), (.var 30), (.var 31), (.var 32), (.var 33), (.var 34), (.var 35), (.var 36), (.var 37)] [.bool]
       (.ret [(.beq (.var 49) (.bool false))]))
       (.ret [(.bool false)])))
      (.ret [(.bool false)]))
     (.ret [(.bool false)])))
    (.ret [(.bool false)]))))))))))
theorem wk_lshapeof : walk E0.cx (sgsN [(35, sg_alive17), (16, sg_Long), (23, sg_rCheck), (41, sg_rIs), (42, sg_rOf17), (37, sg_tOf), (43, sg_tLeft), (36, sg_tIs), (32, sg_Num)]) 0 10 sg_lshapeof = tr_lshapeof := by kernel_rfl
theorem bo_lshapeof : ∃ x, bodyOf E0.P 10 = some x := bo_of (by kernel_rfl)
theorem sp_lshapeof_alive17 : specC [con_alive17, con_Long, con_rCheck, con_rIs, con_rOf17, con_tOf, con_tLeft, con_tIs, con_Num] k_alive17 = alive17_s := rfl
theorem sp_lshapeof_Long : specC [con_alive17, con_Long, con_rCheck, con_rIs, con_rOf17, con_tOf, con_tLeft, con_tIs, con_Num] k_Long = Long_s := rfl
theorem sp_lshapeof_rCheck : specC [con_alive17, con_Long, con_rCheck, con_rIs, con_rOf17, con_tOf, con_tLeft, con_tIs, con_Num] k_rCheck = rCheck_s := rfl
theorem sp_lshapeof_rIs : specC [con_alive17, con_Long, con_rCheck, con_rIs, con_rOf17, con_tOf, con_tLeft, con_tIs, con_Num] k_rIs = rIs_s := rfl
theorem sp_lshapeof_rOf17 : specC [con_alive17, con_Long, con_rCheck, con_rIs, con_rOf17, con_tOf, con_tLeft, con_tIs, con_Num] k_rOf17 = rOf17_s := rfl
theorem sp_lshapeof_tOf : specC [con_alive17, con_Long, con_rCheck, con_rIs, con_rOf17, con_tOf, con_tLeft, con_tIs, con_Num] k_tOf = tOf_s := rfl
theorem sp_lshapeof_tLeft : specC [con_alive17, con_Long, con_rCheck, con_rIs, con_rOf17, con_tOf, con_tLeft, con_tIs, con_Num] k_tLeft = tLeft_s := rfl
theorem sp_lshapeof_tIs : specC [con_alive17, con_Long, con_rCheck, con_rIs, con_rOf17, con_tOf, con_tLeft, con_tIs, con_Num] k_tIs = tIs_s := rfl
theorem sp_lshapeof_Num : specC [con_alive17, con_Long, con_rCheck, con_rIs, con_rOf17, con_tOf, con_tLeft, con_tIs, con_Num] k_Num = Num_s := rfl
theorem lshapeof_h : Holds E0 k_lshapeof sg_lshapeof true_s := con_fn wf0 mix0 g0 [con_alive17, con_Long, con_rCheck, con_rIs, con_rOf17, con_tOf, con_tLeft, con_tIs, con_Num] rfl wk_lshapeof rfl (by
  intro Φ hΦ ds Q hs h
  have hl : ds.length = 38 := hs.length.symm
  have s1 : Φ k_alive17 = alive17_s := by rw [hΦ]; rfl
  have s2 : Φ k_Long = Long_s := by rw [hΦ]; rfl
  have s3 : Φ k_rCheck = rCheck_s := by rw [hΦ]; rfl
  have s4 : Φ k_rIs = rIs_s := by rw [hΦ]; rfl
  have s5 : Φ k_rOf17 = rOf17_s := by rw [hΦ]; rfl
  have s6 : Φ k_tOf = tOf_s := by rw [hΦ]; rfl
  have s7 : Φ k_tLeft = tLeft_s := by rw [hΦ]; rfl
  have s8 : Φ k_tIs = tIs_s := by rw [hΦ]; rfl
  have s9 : Φ k_Num = Num_s := by rw [hΦ]; rfl
  have h : Q [.bool true] := h
  clear hΦ
  have hol : (argL (ds.take 37) 0).length = (argL ds 0).length := by rw [argL_t (by omega)]
  simp (config := {maxSteps := 2000000}) only [tr_lshapeof, wp, den_int, den_bool, den_nili, den_ar, den_cmp, den_not, den_len, den_elem, den_isnil, den_errI, den_ifc, den_rep, den_push, den_app, den_emp, den_upd, row0_econs, row0_enil, den_and, den_beq, den_nil, toInt_int, toBool_bool, xs_rows, xs_list, dflt_int, dflt_bool, of_eq, of_ne, of_lt, of_le, of_gt, of_ge, of_add, of_sub, of_rem, List.map_cons, List.map_nil, Dat.bool.injEq, decide_eq_true_eq, decide_eq_false_iff_not, Bool.not_eq_true', Bool.not_eq_false', beq_iff_eq, bne_iff_ne, beq_eq_false_iff_ne, bne_eq_false_iff_eq, ne_eq, List.append_assoc, List.cons_append, List.nil_append, allS, s1, s2, s3, s4, s5, s6, s7, s8, s9, alive17_s, true_s, Long_s, rCheck_s, rIs_s, rOf17_s, tOf_s, tLeft_s, tIs_s, Num_s, @den_var0 E0.Δ ds, den_varA, den_varB, hl, Nat.reduceLT, Nat.reduceLeDiff, Nat.reduceSub, List.getD_cons_zero, List.getD_cons_succ, argL_fold ds, argI_fold ds, List.append_assoc, List.cons_append, List.nil_append, toInt_int, toBool_bool, xs_rows, xs_list, Int.toNat_natCast, Dat.bool.injEq, dflt_int, fold37x (show 37 ≤ ds.length by omega), take_ta (show 37 ≤ ds.length by omega), argI_ta (show 37 ≤ ds.length by omega) 0, argL_ta (i := 0) (show 0 < 37 by omega) (show 37 ≤ ds.length by omega), argI_c0, argI_fold ds, toInt_getD, List.append_nil, shp, ← obj_t, den_ite, den_not, toBool_bool]
  refine ⟨fun hx => absurd hx (by decide), fun _ => ⟨by decide, by decide, fun b hb => ⟨fun _ => h, fun hbf => ?_⟩⟩⟩
  have hsm : Sm (ds.take 37) := sm_t60 (m := 60) (by omega) (fun hL => by rw [hb.2 hL] at hbf; exact absurd hbf (by decide)) (by decide)
  refine ⟨hsm, fun n hn => ⟨fun h0 => ?_, fun h0 => ?_⟩⟩
  · have h0 : n = 0 := h0
    subst h0
    have hok := okS_of hsm hn
    refine ⟨hok, fun hc => ?_, fun hc => ?_⟩
    · obtain ⟨i0, i1⟩ := isC_in hc
      rw [hol] at i1
      refine ⟨hok, i0, i1, i0, i1, hsm, fun n1 h1 => ?_⟩
      obtain rfl := errP_inj hn h1
      refine ⟨fun hx => absurd rfl hx, fun _ => ?_⟩
      rw [hc]
      refine ⟨fun hx => absurd hx (by decide), fun _ => ⟨hsm, fun n2 h2 => ?_⟩⟩
      obtain rfl := errP_inj hn h2
      refine ⟨fun hx => absurd rfl hx, fun _ => ⟨fun hx => absurd hx (by decide), fun _ => ⟨fun _ => ⟨0, rfl, fun _ => ⟨fun _ => ⟨0, rfl, fun _ => ⟨hsm, fun n3 h3 => ?_⟩, fun hx => absurd rfl hx⟩, fun hx => absurd rfl hx⟩, fun hx => absurd rfl hx⟩, fun hx => ?_⟩⟩⟩
      · obtain rfl := errP_inj hn h3
        exact h
      · simp only [beq_self_eq_true, Bool.and_true] at hx
        exact absurd hx (by decide)
    · refine ⟨hsm, fun n1 h1 => ?_⟩
      obtain rfl := errP_inj hn h1
      refine ⟨fun hx => absurd rfl hx, fun _ => ?_⟩
      rw [hc]
      refine ⟨fun _ => ⟨hsm, fun n2 h2 => ?_⟩, fun hx => absurd hx (by decide)⟩
      obtain rfl := errP_inj hn h2
      refine ⟨fun hx => absurd rfl hx, fun _ => ⟨fun _ => ?_, fun hx => absurd hx (by decide)⟩⟩
      refine ⟨fun _ => ⟨4, rfl, fun _ => ⟨fun _ => ⟨4, rfl, fun _ => ⟨hsm, fun n3 h3 => ?_⟩, fun hx => absurd rfl hx⟩, fun hx => absurd trivial hx⟩, fun hx => absurd rfl hx⟩, fun hx => absurd hx (by decide)⟩
      rw [Bool.and_false]
      exact h
  · have h0 : ¬ n = 0 := h0
    refine ⟨hsm, fun n1 h1 => ?_⟩
    obtain rfl := errP_inj hn h1
    refine ⟨fun _ => ⟨hsm, fun n2 h2 => ?_⟩, fun hx => absurd hx h0⟩
    obtain rfl := errP_inj hn h2
    refine ⟨fun _ => ?_, fun hx => absurd hx h0⟩
    refine ⟨fun _ => ⟨n, rfl, fun _ => ⟨fun _ => ⟨n, rfl, fun _ => ⟨hsm, fun n3 h3 => ?_⟩, fun hx => absurd rfl hx⟩, fun hx => absurd trivial hx⟩, fun hx => absurd rfl hx⟩, fun hx => absurd hx (by decide)⟩
    obtain rfl := errP_inj hn h3
    rw [decide_eq_false h0, Bool.false_and]
    exact h)
end Go.Proofs.YtelfhmeobfimiaaDoor
end
