import Derived.Test.YtelfhmeobfimiaaDoorM19
import Derived.Test.YtelfhmeobfimiaaDoorM17
import Derived.Test.YtelfhmeobfimiaaDoorM18

section
namespace Go.Proofs.YtelfhmeobfimiaaDoor
open Go.RowKit
set_option linter.unusedVariables false
set_option linter.unusedSimpArgs false

theorem quo2 (w : Nat) (hw : w < 256) : Ar.quo.of .i64 (w : Int) 2 = ((w / 2 : Nat) : Int) := by
  show IntKind.i64.wrap ((w : Int).tdiv 2) = _
  rw [show ((w : Int).tdiv 2) = ((w / 2 : Nat) : Int) from rfl, wrap64 (by omega) (by omega)]
theorem rem2 (w : Nat) : (w : Int).tmod 2 = ((w % 2 : Nat) : Int) := rfl
theorem nums_int (l : List Int) : nums (l.map fun n => [Dat.int .i64 n]) = l := by
  unfold nums
  rw [List.map_map]
  exact (List.map_congr_left fun n _ => rfl).trans (List.map_id _)
def k_lshapehas : Nat := 12
def sg_lshapehas : Sig := ⟨[(true, [.list 36] ++ List.replicate 11 (.list 3) ++ List.replicate 25 (.int .i64)), (false, [.int .i64]), (false, [.int .i64])], [(false, [.bool])], false, false, true, false, false⟩
def tr_lshapehas : Tree := (.call k_alive17 [] [.bool]
(.ite (.not (.var 39))
 (.ret [(.bool false)])
 (.call k_Long [(.var 0), (.var 1), (.var 2), (.var 3), (.var 4), (.var 5), (.var 6), (.var 7), (.var 8), (.var 9), (.var 10), (.var 11), (.var 12), (.var 13), (.var 14), (.var 15), (.var 16), (.var 17), (.var 18), (.var 19), (.var 20), (.var 21), (.var 22), (.var 23), (.var 24), (.var 25), (.var 26), (.var 27), (.var 28), (.var 29), (.var 30), (.var 31), (.var 32), (.var 33), (.var 34), (.var 35), (.var 36), (.int .i64 60)] [.bool]
 (.ite (.var 40)
  (.ret [(.bool true)])
  (.call k_rCheck [(.var 0), (.var 1), (.var 2), (.var 3), (.var 4), (.var 5), (.var 6), (.var 7), (.var 8), (.var 9), (.var 10), (.var 11), (.var 12), (.var 13), (.var 14), (.var 15), (.var 16), (.var 17), (.var 18), (.var 19), (.var 20), (.var 21), (.var 22), (.var 23), (.var 24), (.var 25), (.var 26), (.var 27), (.var 28), (.var 29), (.var 30), (.var 31), (.var 32), (.var 33), (.var 34), (.var 35), (.var 36)] [(.int .i64)]
  (.ite (.cmp .ne (.var 41) (.int .i64 0))
   (.call k_tHas [(.var 0), (.var 1), (.var 2), (.var 3), (.var 4), (.var 5), (.var 6), (.var 7), (.var 8), (.var 9), (.var 10), (.var 11), (.var 12), (.var 13), (.var 14), (.var 15), (.var 16), (.var 17), (.var 18), (.var 19), (.var 20), (.var 21), (.var 22), (.var 23), (.var 24), (.var 25), (.var 26), (.var 27), (.var 28), (.var 29), (.var 30), (.var 31), (.var 32), (.var 33), (.var 34), (.var 35), (.var 36), (.var 37), (.var 38)] [.bool]
   (.ite (.not (.var 42))
    (.call k_tBeasts [(.var 0), (.var 1), (.var 2), (.var 3), (.var 4), (.var 5), (.var 6), (.var 7), (.var 8), (.var 9), (.var 10), (.var 11), (.var 12), (.var 13), (.var 14), (.var 15), (.var 16), (.var 17), (.var 18), (.var 19), (.var 20), (.var 21), (.var 22), (.var 23), (.var 24), (.var 25), (.var 26), (.var 27), (.var 28), (.var 29), (.var 30), (.var 31), (.var 32), (.var 33), (.var 34), (.var 35), (.var 36), (.var 38)] [(.list 3)]
    (.ite (.cmp .eq (.len (.var 43)) (.int .i64 0))
     (.call k_tStatics [(.var 0), (.var 1), (.var 2), (.var 3), (.var 4), (.var 5), (.var 6), (.var 7), (.var 8), (.var 9), (.var 10), (.var 11), (.var 12), (.var 13), (.var 14), (.var 15), (.var 16), (.var 17), (.var 18), (.var 19), (.var 20), (.var 21), (.var 22), (.var 23), (.var 24), (.var 25), (.var 26), (.var 27), (.var 28), (.var 29), (.var 30), (.var 31), (.var 32), (.var 33), (.var 34), (.var 35), (.var 36)] [(.int .i64)]
     (.ret [(.cmp .eq (.var 44) (.int .i64 0))]))
     (.ret [(.bool false)])))
    (.ret [(.bool false)])))
   (.call k_rIs [(.var 0), (.var 1), (.var 2), (.var 3), (.var 4), (.var 5), (.var 6), (.var 7), (.var 8), (.var 9), (.var 10), (.var 11), (.var 12), (.var 13), (.var 14), (.var 15), (.var 16), (.var 17), (.var 18), (.var 19), (.var 20), (.var 21), (.var 22), (.var 23), (.var 24), (.var 25), (.var 26), (.var 27), (.var 28), (.var 29), (.var 30), (.var 31), (.var 32), (.var 33), (.var 34), (.var 35), (.var 36), (.var 37)] [.bool]
   (.ite (.and (.var 42) (.and (.cmp .ge (.var 38) (.int .i64 1)) (.cmp .le (.var 38) (.int .i64 255))))
    (.call k_rOf17 [(.var 0), (.var 1), (.var 2), (.var 3), (.var 4), (.var 5), (.var 6), (.var 7), (.var 8), (.var 9), (.var 10), (.var 11), (.var 12), (.var 13), (.var 14), (.var 15), (.var 16), (.var 17), (.var 18), (.var 19), (.var 20), (.var 21), (.var 22), (.var 23), (.var 24), (.var 25), (.var 26), (.var 27), (.var 28), (.var 29), (.var 30), (.var 31), (.var 32), (.var 33), (.var 34), (.var 35), (.var 36), (.var 37)] [(.int .i64), (.int .i64), (.int .i64)]
    (.loop [(.and (.var 42) (.and (.cmp .ge (.var 38) (.int .i64 1)) (.cmp .le (.var 38) (.int .i64 255)))), (.var 38), (.var 45)] [.bool, (.int .i64), (.int .i64)]
     (.ite (.cmp .gt (.var 47) (.int .i64 0))
      (.again 0 [(.and (.var 46) (.or (.cmp .eq (.ar .rem .i64 (.var 47) (.int .i64 2)) (.int .i64 0)) (.cmp .eq (.ar .rem .i64 (.var 48) (.int .i64 2)) (.int .i64 1)))), (.ar .quo .i64 (.var 47) (.int .i64 2)), (.ar .quo .i64 (.var 48) (.int .i64 2))])
      (.call k_tHas [(.var 0), (.var 1), (.var 2), (.var 3), (.var 4), (.var 5), (.var 6), (.var 7), (.var 8), (.var 9), (.var 10), (.var 11), (.var 12), (.var 13), (.var 14), (.var 15), (.var 16), (.var 17), (.var 18), (.var 19), (.var 20), (.var 21), (.var 22), (.var 23), (.var 24), (.var 25), (.var 26), (.var 27), (.var 28), (.var 29), (.var 30), (.var 31), (.var 32), (.var 33), (.var 34), (.var 35), (.var 36), (.var 37), (.var 38)] [.bool]
      (.ite (.beq (.var 49) (.var 46))
       (.call k_tBeasts [(.var 0), (.var 1), (.var 2), (.var 3), (.var 4), (.var 5), (.var 6), (.var 7), (.var 8), (.var 9), (.var 10), (.var 11), (.var 12), (.var 13), (.var 14), (.var 15), (.var 16), (.var 17), (.var 18), (.var 19), (.var 20), (.var 21), (.var 22), (.var 23), (.var 24), (.var 25), (.var 26), (.var 27), (.var 28), (.var 29), (.var 30), (.var 31), (.var 32), (.var 33), (.var 34), (.var 35), (.var 36), (.var 38)] [(.list 3)]
       (.call k_rBeasts [(.var 0), (.var 1), (.var 2), (.var 3), (.var 4), (.var 5), (.var 6), (.var 7), (.var 8), (.var 9), (.var 10), (.var 11), (.var 12), (.var 13), (.var 14), (.var 15), (.var 16), (.var 17), (.var 18), (.var 19), (.var 20), (.var 21), (.var 22), (.var 23), (.var 24), (.var 25), (.var 26), (.var 27), (.var 28), (.var 29), (.var 30), (.var 31), (.var 32), (.var 33), (.var 34), (.var 35), (.var 36), (.var 38)] [(.list 3)]
       (.call k_Ints [(.var 50), (.var 51)] [.bool]
       (.ite (.var 52)
        (.call k_tStatics [(.var 0), (.var 1), (.var 2), (.var 3), (.var 4), (.var 5), (.var 6), (.var 7), (.var 8), (.var 9), (.var 10), (.var 11), (.var 12), (.var 13), (.var 14), (.var 15), (.var 16), (.var 17), (.var 18), (.var 19), (.var 20), (.var 21), (.var 22), (.var 23), (.var 24), (.var 25), (.var 26), (.var 27), (.var 28), (.var 29), (.var 30), (.var 31), (.var 32), (.var 33), (.var 34), (.var 35), (.var 36)] [(.int .i64)]
        (.call k_rStatics [(.var 0), (.var 1), (.var 2), (.var 3), (.var 4), (.var 5), (.var 6), (.var 7), (.var 8), (.var 9), (.var 10), (.var 11), (.var 12), (.var 13), (.var 14), (.var 15), (.var 16), (.var 17), (.var 18), (.var 19), (.var 20), (.var 21), (.var 22), (.var 23), (.var 24), (.var 25), (.var 26), (.var 27), (.var 28), (.var 29), (.var 30), (.var 31), (.var 32), (.var 33), (.var 34), (.var 35), (.var 36)] [(.list 118)]
        (.ret [(.cmp .eq (.var 53) (.len (.var 54)))])))
        (.ret [(.bool false)])))))
       (.ret [(.bool false)]))))))
    (.call k_tHas [(.var 0), (.var 1), (.var 2), (.var 3), (.var 4), (.var 5), (.var 6), (.var 7), (.var 8), (.var 9), (.var 10), (.var 11), (.var 12), (.var 13), (.var 14), (.var 15), (.var 16), (.var 17), (.var 18), (.var 19), (.var 20), (.var 21), (.var 22), (.var 23), (.var 24), (.var 25), (.var 26), (.var 27), (.var 28), (.var 29), (.var 30), (.var 31), (.var 32), (.var 33), (.var 34), (.var 35), (.var 36), (.var 37), (.var 38)] [.bool]
    (.ite (.beq (.var 43) (.and (.var 42) (.and (.cmp .ge (.var 38) (.int .i64 1)) (.cmp .le (.var 38) (.int .i64 255)))))
     (.call k_tBeasts [(.var 0), (.var 1), (.var 2), (.var 3), (.var 4), (.var 5), (.var 6), (.var 7), (.var 8), (.var 9), (.var 10), (.var 11), (.var 12), (.var 13), (.var 14), (.var 15), (.var 16), (.var 17), (.var 18), (.var 19), (.var 20), (.var 21), (.var 22), (.var 23), (.var 24), (.var 25), (.var 26), (.var 27), (.var 28), (.var 29), (.var 30), (.var 31), (.var 32), (.var 33), (.var 34), (.var 35), (.var 36), (.var 38)] [(.list 3)]
     (.call k_rBeasts [(.var 0), (.var 1), (.var 2), (.var 3), (.var 4), (.var 5), (.var 6), (.var 7), (.var 8), (.var 9), (.var 10), (.var 11), (.var 12), (.var 13), (.var 14), (.var 15), (.var 16), (.var 17), (.var 18), (.var 19), (.var 20), (.var 21), (.var 22), (.var 23), (.var 24), (.var 25), (.var 26), (.var 27), (.var 28), (.var 29), (.var 30), (.var 31), (.var 32), (.var 33), (.var 34), (.var 35), (.var 36), (.var 38)] [(.list 3)]
     (.call k_Ints [(.var 44), (.var 45)] [.bool]
     (.ite (.var 46)
      (.call k_tStatics [(.var 0), (.var 1), (.var 2), (.var 3), (.var 4), (.var 5), (.var 6), (.var 7), (.var 8), (.var 9), (.var 10), (.var 11), (.var 12), (.var 13), (.var 14), (.var 15), (.var 16), (.var 17), (.var 18), (.var 19), (.var 20), (.var 21), (.var 22), (.var 23), (.var 24), (.var 25), (.var 26), (.var 27), (.var 28), (.var 29), (.var 30), (.var 31), (.var 32), (.var 33), (.var 34), (.var 35), (.var 36)] [(.int .i64)]
      (.call k_rStatics [(.var 0), (.var 1), (.var 2), (.var 3), (.var 4), (.var 5), (.var 6), (.var 7), (.var 8), (.var 9), (.var 10), (.var 11), (.var 12), (.var 13), (.var 14), (.var 15), (.var 16), (.var 17), (.var 18), (.var 19), (.var 20), (.var 21), (.var 22), (.var 23), (.var 24), (.var 25), (.var 26), (.var 27), (.var 28), (.var 29), (.var 30), (.var 31), (.var 32), (.var 33), (.var 34), (.var 35), (.var 36)] [(.list 118)]
      (.ret [(.cmp .eq (.var 47) (.len (.var 48)))])))
      (.ret [(.bool false)])))))
     (.ret [(.bool false)])))))))))))
theorem wk_lshapehas : walk E0.cx (sgsN [(35, sg_alive17), (16, sg_Long), (23, sg_rCheck), (41, sg_rIs), (42, sg_rOf17), (46, sg_tHas), (45, sg_tBeasts), (44, sg_tStatics), (47, sg_rBeasts), (48, sg_rStatics), (25, sg_Ints)]) 0 12 sg_lshapehas = tr_lshapehas := by kernel_rfl
theorem bo_lshapehas : ∃ x, bodyOf E0.P 12 = some x := bo_of (by kernel_rfl)
theorem sp_lshapehas_alive17 : specC [con_alive17, con_Long, con_rCheck, con_rIs, con_rOf17, con_tHas, con_tBeasts, con_tStatics, con_rBeasts, con_rStatics, con_Ints] k_alive17 = alive17_s := rfl
theorem sp_lshapehas_Long : specC [con_alive17, con_Long, con_rCheck, con_rIs, con_rOf17, con_tHas, con_tBeasts, con_tStatics, con_rBeasts, con_rStatics, con_Ints] k_Long = Long_s := rfl
theorem sp_lshapehas_rCheck : specC [con_alive17, con_Long, con_rCheck, con_rIs, con_rOf17, con_tHas, con_tBeasts, con_tStatics, con_rBeasts, con_rStatics, con_Ints] k_rCheck = rCheck_s := rfl
theorem sp_lshapehas_rIs : specC [con_alive17, con_Long, con_rCheck, con_rIs, con_rOf17, con_tHas, con_tBeasts, con_tStatics, con_rBeasts, con_rStatics, con_Ints] k_rIs = rIs_s := rfl
theorem sp_lshapehas_rOf17 : specC [con_alive17, con_Long, con_rCheck, con_rIs, con_rOf17, con_tHas, con_tBeasts, con_tStatics, con_rBeasts, con_rStatics, con_Ints] k_rOf17 = rOf17_s := rfl
theorem sp_lshapehas_tHas : specC [con_alive17, con_Long, con_rCheck, con_rIs, con_rOf17, con_tHas, con_tBeasts, con_tStatics, con_rBeasts, con_rStatics, con_Ints] k_tHas = tHas_s := rfl
theorem sp_lshapehas_tBeasts : specC [con_alive17, con_Long, con_rCheck, con_rIs, con_rOf17, con_tHas, con_tBeasts, con_tStatics, con_rBeasts, con_rStatics, con_Ints] k_tBeasts = tBeasts_s := rfl
theorem sp_lshapehas_tStatics : specC [con_alive17, con_Long, con_rCheck, con_rIs, con_rOf17, con_tHas, con_tBeasts, con_tStatics, con_rBeasts, con_rStatics, con_Ints] k_tStatics = tStatics_s := rfl
theorem sp_lshapehas_rBeasts : specC [con_alive17, con_Long, con_rCheck, con_rIs, con_rOf17, con_tHas, con_tBeasts, con_tStatics, con_rBeasts, con_rStatics, con_Ints] k_rBeasts = rBeasts_s := rfl
theorem sp_lshapehas_rStatics : specC [con_alive17, con_Long, con_rCheck, con_rIs, con_rOf17, con_tHas, con_tBeasts, con_tStatics, con_rBeasts, con_rStatics, con_Ints] k_rStatics = rStatics_s := rfl
theorem sp_lshapehas_Ints : specC [con_alive17, con_Long, con_rCheck, con_rIs, con_rOf17, con_tHas, con_tBeasts, con_tStatics, con_rBeasts, con_rStatics, con_Ints] k_Ints = Ints_s := rfl
theorem lshapehas_h : Holds E0 k_lshapehas sg_lshapehas true_s := con_fn wf0 mix0 g0 [con_alive17, con_Long, con_rCheck, con_rIs, con_rOf17, con_tHas, con_tBeasts, con_tStatics, con_rBeasts, con_rStatics, con_Ints] rfl wk_lshapehas rfl (by
  intro Φ hΦ ds Q hs h
  have hl : ds.length = 39 := hs.length.symm
  have s1 : Φ k_alive17 = alive17_s := by rw [hΦ]; rfl
  have s2 : Φ k_Long = Long_s := by rw [hΦ]; rfl
  have s3 : Φ k_rCheck = rCheck_s := by rw [hΦ]; rfl
  have s4 : Φ k_rIs = rIs_s := by rw [hΦ]; rfl
  have s5 : Φ k_rOf17 = rOf17_s := by rw [hΦ]; rfl
  have s6 : Φ k_tHas = tHas_s := by rw [hΦ]; rfl
  have s7 : Φ k_tBeasts = tBeasts_s := by rw [hΦ]; rfl
  have s8 : Φ k_tStatics = tStatics_s := by rw [hΦ]; rfl
  have s9 : Φ k_rBeasts = rBeasts_s := by rw [hΦ]; rfl
  have s10 : Φ k_rStatics = rStatics_s := by rw [hΦ]; rfl
  have s11 : Φ k_Ints = Ints_s := by rw [hΦ]; rfl
  have h : Q [.bool true] := h
  clear hΦ
  have hol : (argL (ds.take 37) 0).length = (argL ds 0).length := by rw [argL_t (by omega)]
  have et : (ds.take 37).take 37 = ds.take 37 := by rw [List.take_take]; rfl
  simp (config := {maxSteps := 2000000}) only [tr_lshapehas, wp, den_int, den_bool, den_nili, den_ar, den_cmp, den_not, den_len, den_elem, den_isnil, den_errI, den_ifc, den_rep, den_push, den_app, den_emp, den_upd, row0_econs, row0_enil, den_and, den_beq, den_nil, toInt_int, toBool_bool, xs_rows, xs_list, dflt_int, dflt_bool, of_eq, of_ne, of_lt, of_le, of_gt, of_ge, of_add, of_sub, of_rem, List.map_cons, List.map_nil, Dat.bool.injEq, decide_eq_true_eq, decide_eq_false_iff_not, Bool.not_eq_true', Bool.not_eq_false', beq_iff_eq, bne_iff_ne, beq_eq_false_iff_ne, bne_eq_false_iff_eq, ne_eq, List.append_assoc, List.cons_append, List.nil_append, allS, s1, s2, s3, s4, s5, s6, s7, s8, s9, s10, s11, alive17_s, true_s, Long_s, rCheck_s, rIs_s, rOf17_s, tHas_s, tBeasts_s, tStatics_s, rBeasts_s, rStatics_s, Ints_s, @den_var0 E0.Δ ds, den_varA, den_varB, hl, Nat.reduceLT, Nat.reduceLeDiff, Nat.reduceSub, List.getD_cons_zero, List.getD_cons_succ, argL_fold ds, argI_fold ds, List.append_assoc, List.cons_append, List.nil_append, toInt_int, toBool_bool, xs_rows, xs_list, Int.toNat_natCast, Dat.bool.injEq, dflt_int, fold37x (show 37 ≤ ds.length by omega), take_ta (show 37 ≤ ds.length by omega), argI_ta (show 37 ≤ ds.length by omega) 0, argL_ta (i := 0) (show 0 < 37 by omega) (show 37 ≤ ds.length by omega), argI_c0, argI_fold ds, toInt_getD, List.append_nil, ← obj_t, den_ite, den_not, toBool_bool, argI_ta (show 37 ≤ ds.length by omega) 1, argI_c1, et, den_or, List.getElem?_cons_zero]
  refine ⟨fun hx => absurd hx (by decide), fun _ => ⟨by decide, by decide, fun b hb => ⟨fun _ => h, fun hbf => ?_⟩⟩⟩
  have hsm : Sm (ds.take 37) := sm_t60 (m := 60) (by omega) (fun hL => by rw [hb.2 hL] at hbf; exact absurd hbf (by decide)) (by decide)
  refine ⟨hsm, fun n hn => ⟨fun h0 => ?_, fun h0 => ?_⟩⟩
  · refine ⟨hsm, fun n1 h1 => ?_⟩
    obtain rfl := errP_inj hn h1
    rw [decide_eq_false h0, Bool.false_and]
    refine ⟨fun _ => ⟨hsm, fun n2 h2 v => ?_⟩, fun hx => absurd hx (by decide)⟩
    obtain rfl := errP_inj hn h2
    rw [if_neg h0]
    refine ⟨fun _ => ⟨hsm, fun n3 h3 => ?_⟩, fun hx => absurd rfl hx⟩
    obtain rfl := errP_inj hn h3
    rw [if_neg h0]
    exact h
  · subst h0
    have hok := okS_of hsm hn
    have hbl : ∀ p, (beastsP (ds.take 37) p).length ≤ 1000000 := fun p => by
      have h1 := List.length_filter_le (fun x => isC (ds.take 37) x && (rowI (obj (ds.take 37) x) 2 == p)) (lst (ds.take 37) 8)
      have h2 := hsm 9 (by omega)
      have h3 : (lst (ds.take 37) 8).length = (argL (ds.take 37) 9).length := lst_len (ds.take 37) 8
      unfold beastsP
      omega
    have hv : ds.getD 38 (.bool false) = .int .i64 (argI ds 38) := argV (all2_get hs (i := 38) rfl)
    rw [hv]
    refine ⟨hok, fun hc => ?_, fun hc => ?_⟩
    · have hc' := hc
      simp only [Bool.and_eq_true, decide_eq_true_eq] at hc'
      obtain ⟨c1, w1, w2⟩ := hc'
      obtain ⟨i0, i1⟩ := isC_in c1
      have hlt := woR_lt hok i0 i1
      have hP : hasP (ds.take 37) (argI ds 37) (argI ds 38) = subB (argI ds 38).toNat (woR (ds.take 37) (argI ds 37)) := by
        unfold hasP
        rw [c1, decide_eq_true w1, decide_eq_true w2]
        rfl
      rw [hol] at i1
      refine ⟨hok, i0, i1, fun xs m => ∃ (b1 : Bool) (w W : Nat), xs = [.bool b1, .int .i64 w, .int .i64 W] ∧ w = m ∧ w < 256 ∧ W < 256 ∧ (b1 && subB w W) = hasP (ds.take 37) (argI ds 37) (argI ds 38), ⟨_, true, (argI ds 38).toNat, woR (ds.take 37) (argI ds 37), by rw [hc, Int.toNat_of_nonneg (by omega)], rfl, by omega, hlt, by rw [hP, Bool.true_and]⟩, ?_⟩
      intro b1 n1 n2 m ⟨b, w, W, e, hm, hw, hW, he⟩
      obtain ⟨rfl, rfl, rfl⟩ : b1 = b ∧ n1 = (w : Int) ∧ n2 = (W : Int) := by simpa using e
      subst hm
      refine ⟨fun hlt2 => ?_, fun hge => ⟨hsm, fun n1 h1 => ?_⟩⟩
      · rw [quo2 w hw, quo2 W hW, rem2, rem2]
        refine ⟨w / 2, by omega, _, w / 2, W / 2, rfl, rfl, by omega, by omega, ?_⟩
        rw [← he, subB_step w W, ← Bool.and_assoc]
        congr 2
        rw [Bool.eq_iff_iff]
        simp only [Bool.or_eq_true, beq_iff_eq, decide_eq_true_eq]
        omega
      · obtain rfl := errP_inj hn h1
        have hw0 : w = 0 := by omega
        subst hw0
        rw [subB_0, Bool.and_true] at he
        rw [← he]
        refine ⟨fun _ => ⟨hsm, fun n2 h2 v => ⟨hok, fun v2 => ?_⟩⟩, fun hx => absurd rfl hx⟩
        obtain rfl := errP_inj hn h2
        rw [if_pos rfl]
        refine ⟨by rw [argL_c0, xs_list, List.length_map]; exact hbl _, fun _ => ⟨hsm, fun n3 h3 => ⟨hok, fun v3 xs hx => ?_⟩⟩, fun hx => absurd rfl hx⟩
        obtain rfl := errP_inj hn h3
        have := congrArg List.length hx
        rw [staticsR_eq, List.length_map, List.length_map] at this
        rw [this, if_pos rfl, beq_self_eq_true]
        exact h
    · have hP : hasP (ds.take 37) (argI ds 37) (argI ds 38) = false := by
        unfold hasP
        rw [Bool.and_assoc (isC _ _), hc]
        rfl
      refine ⟨hsm, fun n1 h1 => ?_⟩
      obtain rfl := errP_inj hn h1
      rw [hP, hc]
      refine ⟨fun _ => ⟨hsm, fun n2 h2 v => ⟨hok, fun v2 => ?_⟩⟩, fun hx => absurd rfl hx⟩
      obtain rfl := errP_inj hn h2
      rw [if_pos rfl]
      refine ⟨by rw [argL_c0, xs_list, List.length_map]; exact hbl _, fun _ => ⟨hsm, fun n3 h3 => ⟨hok, fun v3 xs hx => ?_⟩⟩, fun hx => absurd rfl hx⟩
      obtain rfl := errP_inj hn h3
      have := congrArg List.length hx
      rw [staticsR_eq, List.length_map, List.length_map] at this
      rw [this, if_pos rfl, beq_self_eq_true]
      exact h)
end Go.Proofs.YtelfhmeobfimiaaDoor
end
