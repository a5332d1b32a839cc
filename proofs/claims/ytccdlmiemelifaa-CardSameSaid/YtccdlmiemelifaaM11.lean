import Derived.Test.YtccdlmiemelifaaM10
import Derived.Deep.LoopGhost
import Derived.Deep.CutBlock
import Derived.WalkKit
import Derived.BigCall

set_option linter.unusedVariables false
set_option linter.unusedSimpArgs false

section
namespace Go.Proofs.Ytccdlmiemelifaa
open Go.RowKit
set_option linter.unusedVariables false
set_option linter.unusedSimpArgs false

/-- what tells an ability -/
def abK (r : List Dat) : (Int × Int × Int × Int × Int × Int × Int × Bool × Int) × Eff := ((rowI r 0, rowI r 1, rowI r 2, rowI r 3, rowI r 4, rowI r 5, rowI r 6, (r.getD 7 (.bool false)).toBool, rowI r 8), effOf (r.drop 9))
/-- what tells a card, but for its abilities -/
def cdH (ds : List Dat) : Int × Int × Bool × Int × Int × Int × Int × Int × Int × Int × Int × Int := (argI ds 0, argI ds 1, (ds.getD 2 (.bool false)).toBool, argI ds 3, argI ds 4, argI ds 5, argI ds 6, argI ds 7, argI ds 8, argI ds 9, argI ds 10, argI ds 11)
def cdK (ds : List Dat) := (cdH ds, (argL ds 12).map abK)
def eqC_s : Spec := fun ds Q => (∀ r ∈ argL ds 12, (effOf (r.drop 9)).size ≤ 1000) ∧ (argL ds 12).length ≤ 1000 ∧ ∀ b : Bool, (b = true ↔ cdK ds = cdK (ds.drop 13)) → Q [.bool b]
theorem cdK_iff {ds : List Dat} (hl : ds.length = 26) : cdK ds = cdK (ds.drop 13) ↔ argI ds 0 = argI ds 13 ∧ argI ds 1 = argI ds 14 ∧ (ds.getD 2 (.bool false)).toBool = (ds.getD 15 (.bool false)).toBool ∧ (argI ds 3 = argI ds 16 ∧ argI ds 4 = argI ds 17 ∧ argI ds 5 = argI ds 18 ∧ argI ds 6 = argI ds 19 ∧ argI ds 7 = argI ds 20 ∧ argI ds 8 = argI ds 21) ∧ argI ds 9 = argI ds 22 ∧ argI ds 10 = argI ds 23 ∧ argI ds 11 = argI ds 24 ∧ (argL ds 12).map abK = (argL ds 25).map abK := by
  have hb : (ds.drop 13).getD 2 (.bool false) = ds.getD 15 (.bool false) := by simp [List.getD_eq_getElem?_getD, List.getElem?_drop]
  simp only [cdK, cdH, Prod.mk.injEq, argI_drop, argL_drop, hb, Nat.reduceAdd, and_assoc]
theorem abK_iff (r s : List Dat) : abK r = abK s ↔ rowI r 0 = rowI s 0 ∧ (rowI r 1 = rowI s 1 ∧ rowI r 2 = rowI s 2 ∧ rowI r 3 = rowI s 3 ∧ rowI r 4 = rowI s 4 ∧ rowI r 5 = rowI s 5 ∧ rowI r 6 = rowI s 6) ∧ (r.getD 7 (.bool false)).toBool = (s.getD 7 (.bool false)).toBool ∧ rowI r 8 = rowI s 8 ∧ effOf (r.drop 9) = effOf (s.drop 9) := by
  simp only [abK, Prod.mk.injEq, and_assoc]
theorem fold14c {r s : List Dat} (h : r.length = 14) (h' : s.length = 14) (a b c d e a' b' c' d' e' : Dat) : [r.getD 9 a, r.getD 10 b, r.getD 11 c, r.getD 12 d, r.getD 13 e, s.getD 9 a', s.getD 10 b', s.getD 11 c', s.getD 12 d', s.getD 13 e'] = r.drop 9 ++ s.drop 9 := by
  match r, s, h, h' with
  | [_, _, _, _, _, _, _, _, _, _, _, _, _, _], [_, _, _, _, _, _, _, _, _, _, _, _, _, _], _, _ => rfl
theorem row14c {d : Dat} (h : Has E0.Δ (.list 42) d) : ∀ r ∈ d.xs, r.length = 14 := by
  have h14 : (E0.Δ.row 42).length = 14 := by kernel_rfl
  cases h with
  | list _ A n c xs hl h => exact fun r hr => (hl r hr).trans h14
theorem map_take_abK {l : List (List Dat)} {i : Nat} (h : i < l.length) : (l.take (i + 1)).map abK = (l.take i).map abK ++ [abK (l.getD i [])] := by
  rw [take_succ_getD (d := ([] : List Dat)) h, List.map_append]; rfl
theorem take_of_abK {l m : List (List Dat)} (h : l.map abK = m.map abK) (i : Nat) : (l.take i).map abK = (m.take i).map abK := by
  rw [List.map_take, List.map_take, h]
/-- one step of the comparison -/
theorem abK_next {l m : List (List Dat)} {i : Nat} (h1 : i < l.length) (h2 : i < m.length) (h : (l.take i).map abK = (m.take i).map abK) : ((l.take (i + 1)).map abK = (m.take (i + 1)).map abK ↔ abK (l.getD i []) = abK (m.getD i [])) := by
  rw [map_take_abK h1, map_take_abK h2, h]
  constructor
  · intro e; exact (List.cons.inj (List.append_cancel_left e)).1
  · intro e; rw [e]
theorem and6_no {a1 b1 a2 b2 a3 b3 a4 b4 a5 b5 a6 b6 : Int} (h : (a1 == b1 && (a2 == b2 && (a3 == b3 && (a4 == b4 && (a5 == b5 && a6 == b6))))) = false) : ¬ (a1 = b1 ∧ a2 = b2 ∧ a3 = b3 ∧ a4 = b4 ∧ a5 = b5 ∧ a6 = b6) := by
  rintro ⟨rfl, rfl, rfl, rfl, rfl, rfl⟩; simp at h
theorem and6_yes {a1 b1 a2 b2 a3 b3 a4 b4 a5 b5 a6 b6 : Int} (h : (a1 == b1 && (a2 == b2 && (a3 == b3 && (a4 == b4 && (a5 == b5 && a6 == b6))))) = true) : a1 = b1 ∧ a2 = b2 ∧ a3 = b3 ∧ a4 = b4 ∧ a5 = b5 ∧ a6 = b6 := by
  simpa using h
def k_cSame : Nat := 16
def sg_cSame : Sig := ⟨[(true, [.int .i64, .int .i64] ++ [.bool] ++ List.replicate 9 (.int .i64) ++ [.list 42]), (true, [.int .i64, .int .i64] ++ [.bool] ++ List.replicate 9 (.int .i64) ++ [.list 42])], [(false, [.bool])], false, false, false, false, false⟩
def tr_cSame : Tree := (.ite (.cmp .eq (.var 0) (.var 13))
 (.ite (.cmp .eq (.var 1) (.var 14))
  (.ite (.beq (.var 2) (.var 15))
   (.ite (.and (.cmp .eq (.var 3) (.var 16)) (.and (.cmp .eq (.var 4) (.var 17)) (.and (.cmp .eq (.var 5) (.var 18)) (.and (.cmp .eq (.var 6) (.var 19)) (.and (.cmp .eq (.var 7) (.var 20)) (.cmp .eq (.var 8) (.var 21)))))))
    (.ite (.cmp .eq (.var 9) (.var 22))
     (.ite (.cmp .eq (.var 10) (.var 23))
      (.ite (.cmp .eq (.var 11) (.var 24))
       (.ite (.cmp .ne (.len (.var 12)) (.len (.var 25)))
        (.ret [(.bool false)])
        (.loop [(.bool false), (.int .i64 0)] [.bool, (.int .i64)]
         (.ite (.cmp .lt (.var 27) (.len (.var 12)))
          (.ob (.cmp .ge (.var 27) (.int .i64 0))
          (.ob (.cmp .ge (.var 27) (.int .i64 0))
          (.ob (.cmp .lt (.var 27) (.len (.var 25)))
          (.ite (.cmp .eq (.elem (.var 12) (.var 27) 0 (.int .i64)) (.elem (.var 25) (.var 27) 0 (.int .i64)))
           (.ite (.and (.cmp .eq (.elem (.var 12) (.var 27) 1 (.int .i64)) (.elem (.var 25) (.var 27) 1 (.int .i64))) (.and (.cmp .eq (.elem (.var 12) (.var 27) 2 (.int .i64)) (.elem (.var 25) (.var 27) 2 (.int .i64))) (.and (.cmp .eq (.elem (.var 12) (.var 27) 3 (.int .i64)) (.elem (.var 25) (.var 27) 3 (.int .i64))) (.and (.cmp .eq (.elem (.var 12) (.var 27) 4 (.int .i64)) (.elem (.var 25) (.var 27) 4 (.int .i64))) (.and (.cmp .eq (.elem (.var 12) (.var 27) 5 (.int .i64)) (.elem (.var 25) (.var 27) 5 (.int .i64))) (.cmp .eq (.elem (.var 12) (.var 27) 6 (.int .i64)) (.elem (.var 25) (.var 27) 6 (.int .i64))))))))
            (.ite (.beq (.elem (.var 12) (.var 27) 7 .bool) (.elem (.var 25) (.var 27) 7 .bool))
             (.ite (.cmp .eq (.elem (.var 12) (.var 27) 8 (.int .i64)) (.elem (.var 25) (.var 27) 8 (.int .i64)))
              (.call k_effSame [(.elem (.var 12) (.var 27) 9 (.int .i64)), (.elem (.var 12) (.var 27) 10 (.int .i64)), (.elem (.var 12) (.var 27) 11 (.int .i64)), (.elem (.var 12) (.var 27) 12 (.int .i64)), (.elem (.var 12) (.var 27) 13 (.list 24)), (.elem (.var 25) (.var 27) 9 (.int .i64)), (.elem (.var 25) (.var 27) 10 (.int .i64)), (.elem (.var 25) (.var 27) 11 (.int .i64)), (.elem (.var 25) (.var 27) 12 (.int .i64)), (.elem (.var 25) (.var 27) 13 (.list 24))] [.bool]
              (.ite (.not (.var 28))
               (.ret [(.bool false)])
               (.again 0 [(.var 26), (.ar .add .i64 (.var 27) (.int .i64 1))])))
              (.ret [(.bool false)]))
             (.ret [(.bool false)]))
            (.ret [(.bool false)]))
           (.ret [(.bool false)])))))
          (.ret [(.bool true)]))))
       (.ret [(.bool false)]))
      (.ret [(.bool false)]))
     (.ret [(.bool false)]))
    (.ret [(.bool false)]))
   (.ret [(.bool false)]))
  (.ret [(.bool false)]))
 (.ret [(.bool false)]))
theorem wk_cSame : walk E0.cx (sgsN [(9, sg_effSame)]) 0 16 sg_cSame = tr_cSame := by kernel_rfl
theorem bo_cSame : ∃ x, bodyOf E0.P 16 = some x := bo_of (by kernel_rfl)
theorem sp_cSame_effSame : specC [con_effSame] k_effSame = effSame_s := rfl
def cSame_s : Spec := eqC_s
theorem cSame_h : Holds E0 k_cSame sg_cSame cSame_s := con_fn wf0 mix0 g0 [con_effSame] rfl wk_cSame rfl (by
  intro Φ hΦ ds Q hs ⟨hsz, hn, h⟩
  have hl : ds.length = 26 := hs.length.symm
  have sp : Φ k_effSame = effSame_s := by rw [hΦ]; rfl
  clear hΦ
  have hrow := row14c (all2_get hs (i := 12) rfl)
  have hrow2 := row14c (all2_get hs (i := 25) rfl)
  rw [argL_fold] at hrow hrow2
  rw [cdK_iff hl] at h
  simp only [tr_cSame, wp, den_int, den_bool, den_nili, den_ar, den_cmp, den_not, den_len, den_elem, den_isnil, den_errI, den_ifc, den_rep, den_push, den_app, den_emp, den_upd, row0_econs, row0_enil, den_and, den_beq, den_nil, toInt_int, toBool_bool, xs_rows, xs_list, dflt_int, dflt_bool, of_eq, of_ne, of_lt, of_le, of_gt, of_ge, of_add, of_sub, of_rem, List.map_cons, List.map_nil, Dat.bool.injEq, decide_eq_true_eq, decide_eq_false_iff_not, Bool.not_eq_true', Bool.not_eq_false', beq_iff_eq, bne_iff_ne, beq_eq_false_iff_ne, bne_eq_false_iff_eq, ne_eq, List.append_assoc, List.cons_append, List.nil_append, allS, sp, effSame_s, eqE_s, @den_var0 E0.Δ ds, den_varA, den_varB, hl, Nat.reduceLT, Nat.reduceLeDiff, Nat.reduceSub, List.getD_cons_zero, List.getD_cons_succ, argL_fold ds, argI_fold ds, List.append_assoc, List.cons_append, List.nil_append, toInt_int, toBool_bool, xs_rows, xs_list, Int.toNat_natCast, Dat.bool.injEq, Bool.and_eq_true, beq_iff_eq]
  generalize hC : (argI ds 0 = argI ds 13 ∧ argI ds 1 = argI ds 14 ∧ (ds.getD 2 (.bool false)).toBool = (ds.getD 15 (.bool false)).toBool ∧ (argI ds 3 = argI ds 16 ∧ argI ds 4 = argI ds 17 ∧ argI ds 5 = argI ds 18 ∧ argI ds 6 = argI ds 19 ∧ argI ds 7 = argI ds 20 ∧ argI ds 8 = argI ds 21) ∧ argI ds 9 = argI ds 22 ∧ argI ds 10 = argI ds 23 ∧ argI ds 11 = argI ds 24 ∧ (argL ds 12).map abK = (argL ds 25).map abK) = C at h
  have no : ¬ C → Q [.bool false] := fun hx => h _ (by simp only [Bool.false_eq_true, false_iff]; exact hx)
  subst hC
  refine ⟨fun p1 => ⟨fun p2 => ⟨fun p3 => ⟨fun p4 => ⟨fun p5 => ⟨fun p6 => ⟨fun p7 => ⟨fun p8 => ?_, fun p8 => ?_⟩, fun p7 => no fun hx => p7 hx.2.2.2.2.2.2.1⟩, fun p6 => no fun hx => p6 hx.2.2.2.2.2.1⟩, fun p5 => no fun hx => p5 hx.2.2.2.2.1⟩, fun p4 => ?_⟩, fun p3 => no fun hx => p3 hx.2.2.1⟩, fun p2 => no fun hx => p2 hx.2.1⟩, fun p1 => no fun hx => p1 hx.1⟩
  · refine no fun hx => p8 ?_
    have := congrArg List.length hx.2.2.2.2.2.2.2
    simp only [List.length_map] at this
    omega
  · have hll : (argL ds 12).length = (argL ds 25).length := by omega
    refine ⟨fun xs m => ∃ (i : Nat) (b : Bool), xs = [.bool b, .int .i64 (i : Int)] ∧ i ≤ (argL ds 12).length ∧ m = (argL ds 12).length - i ∧ ((argL ds 12).take i).map abK = ((argL ds 25).take i).map abK, ⟨_, 0, _, rfl, by omega, rfl, by simp⟩, ?_⟩
    rintro b i' m ⟨i, _, e, hi, hmi, hsame⟩
    cases e
    refine ⟨fun hlt => ⟨by omega, by omega, by omega, ?_⟩, fun hge => ?_⟩
    · have hi2 : i < (argL ds 12).length := by omega
      have hi3 : i < (argL ds 25).length := by omega
      have hr := hrow _ (getD_memL (d := []) hi2)
      have hr2 := hrow2 _ (getD_memL (d := []) hi3)
      have hle := hsz _ (getD_memL (d := []) hi2)
      have hnx := abK_next hi2 hi3 hsame
      rw [abK_iff] at hnx
      have hd1 : (((argL ds 12).getD i []).drop 9).length = 5 := by rw [List.length_drop, hr]
      have hd2 : (((argL ds 25).getD i []).drop 9).length = 5 := by rw [List.length_drop, hr2]
      simp only [Int.toNat_natCast, fold14c hr hr2]
      simp only [argE_row hd1, argE2_row hd1 hd2]
      have no2 : ¬ _ → Q [.bool false] := fun hx => no fun hy => hx (hnx.1 (take_of_abK hy.2.2.2.2.2.2.2 (i + 1)))
      refine ⟨fun q1 => ⟨fun q2 => ⟨fun q3 => ⟨fun q4 => ⟨hle, fun v hv => ⟨fun hf => no2 fun hx => ?_, fun ht => ?_⟩⟩, fun q4 => no2 fun hx => q4 hx.2.2.2.1⟩, fun q3 => no2 fun hx => q3 hx.2.2.1⟩, fun q2 => no2 fun hx => and6_no q2 hx.2.1⟩, fun q1 => no2 fun hx => q1 hx.1⟩
      · rw [hv.2 hx.2.2.2.2] at hf; cases hf
      · refine ⟨(argL ds 12).length - (i + 1), by omega, i + 1, b, ?_, by omega, rfl, hnx.2 ⟨q1, q2, q3, q4, hv.1 ht⟩⟩
        rw [wrap64 (by omega) (by omega)]; rfl
    · have hkk : i = (argL ds 12).length := by omega
      rw [List.take_of_length_le (by omega), List.take_of_length_le (by omega)] at hsame
      refine h _ ?_
      simp only [true_iff]
      exact ⟨p1, p2, p3, by simpa using p4, p5, p6, p7, hsame⟩
  · exact no fun hx => and6_no p4 hx.2.2.2.1)
noncomputable def con_cSame : Con E0 := ⟨k_cSame, sg_cSame, cSame_s, rfl, bo_cSame, cSame_h⟩
def k_nCards : Nat := 17
def sg_nCards : Sig := ⟨[(true, [.int .i64, .int .i64] ++ [.bool] ++ List.replicate 9 (.int .i64) ++ [.list 42]), (true, [.int .i64, .int .i64] ++ [.bool] ++ List.replicate 9 (.int .i64) ++ [.list 42])], [(false, [.bool])], false, false, true, false, false⟩
def tr_nCards : Tree := (.ite (.or (.cmp .ne (.var 0) (.var 13)) (.or (.cmp .ne (.var 1) (.var 14)) (.or (.not (.beq (.var 2) (.var 15))) (.or (.not (.and (.cmp .eq (.var 3) (.var 16)) (.and (.cmp .eq (.var 4) (.var 17)) (.and (.cmp .eq (.var 5) (.var 18)) (.and (.cmp .eq (.var 6) (.var 19)) (.and (.cmp .eq (.var 7) (.var 20)) (.cmp .eq (.var 8) (.var 21)))))))) (.or (.cmp .ne (.var 9) (.var 22)) (.or (.cmp .ne (.var 10) (.var 23)) (.or (.cmp .ne (.var 11) (.var 24)) (.cmp .ne (.len (.var 12)) (.len (.var 25))))))))))
 (.ret [(.bool false)])
 (.loop [(.bool false), (.int .i64 0)] [.bool, (.int .i64)]
  (.ite (.cmp .lt (.var 27) (.len (.var 12)))
   (.ob (.cmp .ge (.var 27) (.int .i64 0))
   (.ob (.cmp .ge (.var 27) (.int .i64 0))
   (.ob (.cmp .lt (.var 27) (.len (.var 25)))
   (.ite (.cmp .ne (.elem (.var 12) (.var 27) 0 (.int .i64)) (.elem (.var 25) (.var 27) 0 (.int .i64)))
    (.ret [(.bool false)])
    (.ite (.not (.and (.cmp .eq (.elem (.var 12) (.var 27) 1 (.int .i64)) (.elem (.var 25) (.var 27) 1 (.int .i64))) (.and (.cmp .eq (.elem (.var 12) (.var 27) 2 (.int .i64)) (.elem (.var 25) (.var 27) 2 (.int .i64))) (.and (.cmp .eq (.elem (.var 12) (.var 27) 3 (.int .i64)) (.elem (.var 25) (.var 27) 3 (.int .i64))) (.and (.cmp .eq (.elem (.var 12) (.var 27) 4 (.int .i64)) (.elem (.var 25) (.var 27) 4 (.int .i64))) (.and (.cmp .eq (.elem (.var 12) (.var 27) 5 (.int .i64)) (.elem (.var 25) (.var 27) 5 (.int .i64))) (.cmp .eq (.elem (.var 12) (.var 27) 6 (.int .i64)) (.elem (.var 25) (.var 27) 6 (.int .i64)))))))))
     (.ret [(.bool false)])
     (.ite (.not (.beq (.elem (.var 12) (.var 27) 7 .bool) (.elem (.var 25) (.var 27) 7 .bool)))
      (.ret [(.bool false)])
      (.ite (.cmp .ne (.elem (.var 12) (.var 27) 8 (.int .i64)) (.elem (.var 25) (.var 27) 8 (.int .i64)))
       (.ret [(.bool false)])
       (.call k_numEffects [(.elem (.var 12) (.var 27) 9 (.int .i64)), (.elem (.var 12) (.var 27) 10 (.int .i64)), (.elem (.var 12) (.var 27) 11 (.int .i64)), (.elem (.var 12) (.var 27) 12 (.int .i64)), (.elem (.var 12) (.var 27) 13 (.list 24)), (.elem (.var 25) (.var 27) 9 (.int .i64)), (.elem (.var 25) (.var 27) 10 (.int .i64)), (.elem (.var 25) (.var 27) 11 (.int .i64)), (.elem (.var 25) (.var 27) 12 (.int .i64)), (.elem (.var 25) (.var 27) 13 (.list 24))] [.bool]
       (.ite (.not (.var 28))
        (.ret [(.bool false)])
        (.again 0 [(.var 26), (.ar .add .i64 (.var 27) (.int .i64 1))]))))))))))
   (.ret [(.bool true)]))))
theorem wk_nCards : walk E0.cx (sgsN [(10, sg_numEffects)]) 0 17 sg_nCards = tr_nCards := by kernel_rfl
theorem bo_nCards : ∃ x, bodyOf E0.P 17 = some x := bo_of (by kernel_rfl)
theorem sp_nCards_numEffects : specC [con_numEffects] k_numEffects = numEffects_s := rfl
def nCards_s : Spec := eqC_s
theorem nCards_h : Holds E0 k_nCards sg_nCards nCards_s := con_fn wf0 mix0 g0 [con_numEffects] rfl wk_nCards rfl (by
  intro Φ hΦ ds Q hs ⟨hsz, hn, h⟩
  have hl : ds.length = 26 := hs.length.symm
  have sp : Φ k_numEffects = eqE_s := by rw [hΦ]; rfl
  clear hΦ
  have hrow := row14c (all2_get hs (i := 12) rfl)
  have hrow2 := row14c (all2_get hs (i := 25) rfl)
  rw [argL_fold] at hrow hrow2
  rw [cdK_iff hl] at h
  simp only [tr_nCards, wp, den_int, den_bool, den_nili, den_ar, den_cmp, den_not, den_len, den_elem, den_isnil, den_errI, den_ifc, den_rep, den_push, den_app, den_emp, den_upd, row0_econs, row0_enil, den_and, den_beq, den_nil, toInt_int, toBool_bool, xs_rows, xs_list, dflt_int, dflt_bool, of_eq, of_ne, of_lt, of_le, of_gt, of_ge, of_add, of_sub, of_rem, List.map_cons, List.map_nil, Dat.bool.injEq, decide_eq_true_eq, decide_eq_false_iff_not, Bool.not_eq_true', Bool.not_eq_false', beq_iff_eq, bne_iff_ne, beq_eq_false_iff_ne, bne_eq_false_iff_eq, ne_eq, List.append_assoc, List.cons_append, List.nil_append, allS, sp, eqE_s, den_or, @den_var0 E0.Δ ds, den_varA, den_varB, hl, Nat.reduceLT, Nat.reduceLeDiff, Nat.reduceSub, List.getD_cons_zero, List.getD_cons_succ, argL_fold ds, argI_fold ds, List.append_assoc, List.cons_append, List.nil_append, toInt_int, toBool_bool, xs_rows, xs_list, Int.toNat_natCast, Dat.bool.injEq]
  have no : ¬ _ → Q [.bool false] := fun hx => h false (by simp only [Bool.false_eq_true, false_iff]; exact hx)
  refine ⟨fun p => no fun hx => ?_, fun p => ?_⟩
  · obtain ⟨x1, x2, x3, ⟨x4, x5, x6, x7, x8, x9⟩, x10, x11, x12, x13⟩ := hx
    have x14 : (argL ds 12).length = (argL ds 25).length := by
      have := congrArg List.length x13
      simpa using this
    rw [x1, x2, x3, x4, x5, x6, x7, x8, x9, x10, x11, x12, x14] at p
    simp at p
  simp only [Bool.or_eq_false_iff, bne_eq_false_iff_eq, Bool.not_eq_false', beq_iff_eq] at p
  obtain ⟨p1, p2, p3, p4, p5, p6, p7, p8⟩ := p
  have p4' := and6_yes p4
  have hll : (argL ds 12).length = (argL ds 25).length := by omega
  refine ⟨fun xs m => ∃ (i : Nat) (b : Bool), xs = [.bool b, .int .i64 (i : Int)] ∧ i ≤ (argL ds 12).length ∧ m = (argL ds 12).length - i ∧ ((argL ds 12).take i).map abK = ((argL ds 25).take i).map abK, ⟨_, 0, _, rfl, by omega, rfl, by simp⟩, ?_⟩
  rintro b i' m ⟨i, _, e, hi, hmi, hsame⟩
  cases e
  refine ⟨fun hlt => ⟨by omega, by omega, by omega, ?_⟩, fun hge => ?_⟩
  · have hi2 : i < (argL ds 12).length := by omega
    have hi3 : i < (argL ds 25).length := by omega
    have hr := hrow _ (getD_memL (d := []) hi2)
    have hr2 := hrow2 _ (getD_memL (d := []) hi3)
    have hle := hsz _ (getD_memL (d := []) hi2)
    have hnx := abK_next hi2 hi3 hsame
    rw [abK_iff] at hnx
    have hd1 : (((argL ds 12).getD i []).drop 9).length = 5 := by rw [List.length_drop, hr]
    have hd2 : (((argL ds 25).getD i []).drop 9).length = 5 := by rw [List.length_drop, hr2]
    simp only [Int.toNat_natCast, fold14c hr hr2]
    simp only [argE_row hd1, argE2_row hd1 hd2]
    have no2 : ¬ _ → Q [.bool false] := fun hx => no fun hy => hx (hnx.1 (take_of_abK hy.2.2.2.2.2.2.2 (i + 1)))
    refine ⟨fun q1 => no2 fun hx => q1 hx.1, fun q1 => ⟨fun q2 => no2 fun hx => and6_no q2 hx.2.1, fun q2 => ⟨fun q3 => no2 fun hx => q3 hx.2.2.1, fun q3 => ⟨fun q4 => no2 fun hx => q4 hx.2.2.2.1, fun q4 => ⟨hle, fun v hv => ⟨fun hf => no2 fun hx => ?_, fun ht => ?_⟩⟩⟩⟩⟩⟩
    · rw [hv.2 hx.2.2.2.2] at hf; cases hf
    · refine ⟨(argL ds 12).length - (i + 1), by omega, i + 1, b, ?_, by omega, rfl, hnx.2 ⟨q1, and6_yes q2, q3, q4, hv.1 ht⟩⟩
      rw [wrap64 (by omega) (by omega)]; rfl
  · have hkk : i = (argL ds 12).length := by omega
    rw [List.take_of_length_le (by omega), List.take_of_length_le (by omega)] at hsame
    refine h _ ?_
    simp only [true_iff]
    exact ⟨p1, p2, p3, p4', p5, p6, p7, hsame⟩)
noncomputable def con_nCards : Con E0 := ⟨k_nCards, sg_nCards, nCards_s, rfl, bo_nCards, nCards_h⟩
end Go.Proofs.Ytccdlmiemelifaa
end

section
namespace Go.Proofs.Ytccdlmiemelifaa
open Go.RowKit
set_option linter.unusedVariables false
set_option linter.unusedSimpArgs false

def cellsE (e : Eff) (u : Value) : List Value := [.int .i64 e.op, .int .i64 e.n, .int .i64 e.m, .int .i64 e.who, u]
def rowsE : List Eff → List Value → List Value
  | e :: es, u :: us => cellsE e u ++ rowsE es us
  | _, _ => []
theorem rowsE_len : ∀ {es : List Eff} {us : List Value}, us.length = es.length → (rowsE es us).length = es.length * 5
  | [], [], _ => rfl
  | e :: es, u :: us, h => by
    rw [rowsE, List.length_append, rowsE_len (by simpa using h), List.length_cons]
    show 5 + _ = _
    omega
  | [], _ :: _, h => by cases h
  | _ :: _, [], h => by cases h
theorem rowsE_get : ∀ {es : List Eff} {us : List Value} {i c : Nat} {e : Eff} {u : Value}, es[i]? = some e → us[i]? = some u → c < 5 → (rowsE es us)[i * 5 + c]? = (cellsE e u)[c]?
  | e :: es, u :: us, 0, c, _, _, he, hu, hc => by
    cases he; cases hu
    rw [rowsE, Nat.zero_mul, Nat.zero_add, List.getElem?_append_left (by exact hc)]
  | e :: es, u :: us, i + 1, c, _, _, he, hu, hc => by
    rw [rowsE, List.getElem?_append_right (by show 5 ≤ _; omega)]
    have e5 : (cellsE e u).length = 5 := rfl
    rw [e5, show (i + 1) * 5 + c - 5 = i * 5 + c by omega]
    exact rowsE_get (by simpa using he) (by simpa using hu) hc
  | [], _, i, _, _, _, he, _, _ => by cases i <;> cases he
  | _ :: _, [], i, _, _, _, _, hu, _ => by cases i <;> cases hu
/-- the i-th row anew -/
theorem rowsE_set : ∀ {es : List Eff} {us : List Value} {i : Nat} (e : Eff) (u : Value), us.length = es.length → i < es.length → rowsE (es.set i e) (us.set i u) = setMany (rowsE es us) (i * 5) (cellsE e u)
  | e0 :: es, u0 :: us, 0, e, u, hl, hi => by
    rw [setMany_eq _ _ _ (by rw [rowsE_len hl]; show 0 * 5 + 5 ≤ _; simp only [List.length_cons]; omega)]
    show cellsE e u ++ rowsE es us = _
    rw [Nat.zero_mul, List.take_zero, List.nil_append, rowsE]
    rfl
  | e0 :: es, u0 :: us, i + 1, e, u, hl, hi => by
    have hl' : us.length = es.length := by simpa using hl
    have hi' : i < es.length := by simpa using hi
    have h5 : (cellsE e u).length = 5 := rfl
    have h50 : (cellsE e0 u0).length = 5 := rfl
    have ih := rowsE_set e u hl' hi'
    have hlen := rowsE_len hl'
    rw [setMany_eq _ _ _ (by rw [h5, hlen]; omega)] at ih
    rw [setMany_eq _ _ _ (by rw [rowsE_len hl, h5]; simp only [List.length_cons]; omega)]
    rw [List.set_cons_succ, List.set_cons_succ, rowsE, ih, rowsE]
    have q1 : ∀ X : List Value, (cellsE e0 u0 ++ X).take ((i + 1) * 5) = cellsE e0 u0 ++ X.take (i * 5) := fun X => by
      rw [List.take_append, h50, List.take_of_length_le (by rw [h50]; omega), show (i + 1) * 5 - 5 = i * 5 by omega]
    have q2 : ∀ X : List Value, (cellsE e0 u0 ++ X).drop ((i + 1) * 5 + 5) = X.drop (i * 5 + 5) := fun X => by
      rw [List.drop_append, h50, List.drop_of_length_le (by rw [h50]; omega), show (i + 1) * 5 + 5 - 5 = i * 5 + 5 by omega, List.nil_append]
    rw [h5, q1, q2, List.append_assoc, List.append_assoc, List.append_assoc]
  | [], _, i, _, _, _, hi => by cases hi
  | _ :: _, [], _, _, _, hl, _ => by cases hl
inductive TrE (w : World) : Nat → Value → List Eff → Prop
  | mk {B B' : Nat} {v : Value} {es : List Eff} {us : List Value} (hl : us.length = es.length) (ho : Ow w B 5 v es.length (rowsE es us)) (hb : ∀ k, blkOf v = some k → k < B') (hBB : B ≤ B')
      (hs : ∀ (i : Nat) (e : Eff) (u : Value), es[i]? = some e → us[i]? = some u → TrE w B' u e.subs) : TrE w B v es
theorem grown_of_below {w w' : World} (h : Below w.heap.size w w') : w.grownBy w' none := ⟨h.os, h.tape, h.output, h.size, fun k hk _ => h.block k hk⟩
theorem TrE.grown {w w' : World} {B : Nat} {v : Value} {es : List Eff} (h : TrE w B v es) {o : Option Nat} (hg : w.grownBy w' o) (ho : ∀ k, o = some k → k < B) : TrE w' B v es := by
  induction h with
  | mk hl hw hb hBB hs ih =>
    refine .mk hl (hw.grown hg ?_) hb hBB fun i e u he hu => ih i e u he hu fun k hk => Nat.lt_of_lt_of_le (ho k hk) hBB
    cases hv : blkOf _ with
    | none => exact .inl rfl
    | some k =>
      right
      intro e
      have := (hw.blk_lt k hv).1
      have := ho k e.symm
      omega
theorem TrE.kept {w w' : World} {B : Nat} {v : Value} {es : List Eff} (h : TrE w B v es) (hb : Below w.heap.size w w') : TrE w' B v es := h.grown (grown_of_below hb) fun k hk => by cases hk
theorem TrE.weak {w : World} {B B0 : Nat} {v : Value} {es : List Eff} (h : TrE w B v es) (hB : B0 ≤ B) : TrE w B0 v es := by
  cases h with
  | mk hl hw hb hBB hs => exact .mk hl (hw.weak hB) hb (by omega) hs
/-- it can be read, and tells the same effects -/
theorem TrE.data {w : World} {B : Nat} {v : Value} {es : List Eff} (h : TrE w B v es) : ∃ rows : List (List Dat), OkD w (.list v 5 rows) ∧ Has E0.Δ (.list 24) (.list v 5 rows) ∧ rows.map effOf = es ∧ ∀ k, AtL [.list v 5 rows] k → B ≤ k := by
  induction h with
  | mk hl hw hb hBB hs ih =>
    rename_i B B' v es us
    have key : ∀ (es : List Eff) (us : List Value), us.length = es.length → (∀ (i : Nat) (e : Eff) (u : Value), es[i]? = some e → us[i]? = some u → ∃ rows : List (List Dat), OkD w (.list u 5 rows) ∧ Has E0.Δ (.list 24) (.list u 5 rows) ∧ rows.map effOf = e.subs ∧ ∀ k, AtL [.list u 5 rows] k → B' ≤ k) →
        ∃ rows : List (List Dat), flatV rows = rowsE es us ∧ rows.map effOf = es ∧ (∀ r ∈ rows, All2 (Has E0.Δ) [.int .i64, .int .i64, .int .i64, .int .i64, .list 24] r ∧ OkL w r ∧ ∀ k, AtL r k → B' ≤ k) := by
      intro es
      induction es with
      | nil =>
        intro us hu _
        cases us with
        | nil => exact ⟨[], rfl, rfl, fun r hr => by cases hr⟩
        | cons _ _ => cases hu
      | cons e es ihe =>
        intro us hu hall
        cases us with
        | nil => cases hu
        | cons u us =>
          obtain ⟨rows, r1, r2, r3⟩ := ihe us (by simpa using hu) fun i e' u' he hu' => hall (i + 1) e' u' (by simpa using he) (by simpa using hu')
          obtain ⟨sub, s1, s2, s3, s4⟩ := hall 0 e u rfl rfl
          refine ⟨[.int .i64 e.op, .int .i64 e.n, .int .i64 e.m, .int .i64 e.who, .list u 5 sub] :: rows, ?_, ?_, fun r hr => ?_⟩
          · show [Dat.int .i64 e.op, .int .i64 e.n, .int .i64 e.m, .int .i64 e.who, .list u 5 sub].map Dat.toV ++ flatV rows = _
            rw [r1]; rfl
          · rw [List.map_cons, r2, effOf_eq]
            congr 1
            show Eff.mk e.op e.n e.m e.who (sub.map effOf) = e
            rw [s3]; cases e; rfl
          · rcases List.mem_cons.1 hr with rfl | hr
            · refine ⟨.cons (.int _ _) (.cons (.int _ _) (.cons (.int _ _) (.cons (.int _ _) (.cons s2 .nil)))), fun d hd => ?_, fun k ⟨d, hd, hk⟩ => ?_⟩
              · simp only [List.mem_cons, List.not_mem_nil, or_false] at hd
                rcases hd with rfl | rfl | rfl | rfl | rfl
                · exact .int _ _
                · exact .int _ _
                · exact .int _ _
                · exact .int _ _
                · exact s1
              · simp only [List.mem_cons, List.not_mem_nil, or_false] at hd
                rcases hd with rfl | rfl | rfl | rfl | rfl
                · cases hk
                · cases hk
                · cases hk
                · cases hk
                · exact s4 k ⟨_, List.mem_singleton.2 rfl, hk⟩
            · exact r3 r hr
    obtain ⟨rows, r1, r2, r3⟩ := key es us hl ih
    have hn : rows.length = es.length := by rw [← r2, List.length_map]
    have hrow : E0.Δ.row 24 = [.int .i64, .int .i64, .int .i64, .int .i64, .list 24] := by kernel_rfl
    refine ⟨rows, .list v 5 rows (by rw [r1, hn]; exact hw.rd) fun r hr d hd => (r3 r hr).2.1 d hd, ?_, r2, fun k ⟨d, hd, hk⟩ => ?_⟩
    · obtain ⟨A, c, hv, _⟩ := id hw
      have h5 : (E0.Δ.row 24).length = 5 := by rw [hrow]; rfl
      have := Has.list (Δ := E0.Δ) 24 A es.length c rows (fun r hr => by rw [← (r3 r hr).1.length, hrow]) fun r hr cc s d hs hd => by
        rw [hrow] at hs
        obtain ⟨d', h1, h2⟩ := (r3 r hr).1.get hs
        rw [hd] at h1; cases h1; exact h2
      rw [h5] at this
      rw [hv]; exact this
    · rw [List.mem_singleton.1 hd] at hk
      cases hk with
      | here h =>
        obtain ⟨A, c, hv, hnc, _⟩ := id hw
        subst hv
        cases A with
        | none => exact h.elim
        | some a =>
          obtain ⟨h1, rfl⟩ := h
          exact (hw.blk_lt a.block (by simp only [blkOf]; rw [if_pos (by omega)])).1
      | list h1 h2 h3 => exact Nat.le_trans hBB ((r3 _ h1).2.2 k ⟨_, h2, h3⟩)
end Go.Proofs.Ytccdlmiemelifaa
end

section
namespace Go.Proofs.Ytccdlmiemelifaa
open Go.RowKit
set_option linter.unusedVariables false
set_option linter.unusedSimpArgs false

def k_eClone : Nat := 21
def sg_eClone : Sig := ⟨[(false, [.list 24])], [(false, [.rows 24])], true, false, false, false, false⟩
def tr_eClone : Tree := (.ite (.isnil (.var 0))
 (.ret [.emp])
 (.ob (.cmp .le (.len (.app .emp (.var 0))) (.int .i64 2513169434916))
 (.ret [(.app .emp (.var 0))])))
theorem wk_eClone : walk E0.cx (sgsN []) 0 21 sg_eClone = tr_eClone := by kernel_rfl
theorem bo_eClone : ∃ x, bodyOf E0.P 21 = some x := bo_of (by kernel_rfl)
def eClone_s : Spec := fun ds Q => (argL ds 0).length ≤ 100000000 ∧ Q [.rows (argL ds 0)]
theorem eClone_h : Holds E0 k_eClone sg_eClone eClone_s := con_fnN wf0 mix0 g0 [] rfl wk_eClone rfl (by
  intro Φ hΦ ds Q hs hnil ⟨hn, h⟩
  have hl : ds.length = 1 := hs.length.symm
  simp only [tr_eClone, wp, den_int, den_bool, den_nili, den_ar, den_cmp, den_not, den_len, den_elem, den_isnil, den_errI, den_ifc, den_rep, den_push, den_app, den_emp, den_upd, row0_econs, row0_enil, den_and, den_beq, den_nil, toInt_int, toBool_bool, xs_rows, xs_list, dflt_int, dflt_bool, of_eq, of_ne, of_lt, of_le, of_gt, of_ge, of_add, of_sub, of_rem, List.map_cons, List.map_nil, Dat.bool.injEq, decide_eq_true_eq, decide_eq_false_iff_not, Bool.not_eq_true', Bool.not_eq_false', beq_iff_eq, bne_iff_ne, beq_eq_false_iff_ne, bne_eq_false_iff_eq, ne_eq, List.append_assoc, List.cons_append, List.nil_append, @den_var0 E0.Δ ds, den_varA, den_varB, hl, Nat.reduceLT, Nat.reduceLeDiff, Nat.reduceSub, List.getD_cons_zero, List.getD_cons_succ, argL_fold ds, argI_fold ds, List.append_assoc, List.cons_append, List.nil_append, toInt_int, toBool_bool, xs_rows, xs_list, Int.toNat_natCast, Dat.bool.injEq]
  refine ⟨fun h0 => ?_, fun _ => ⟨by omega, h⟩⟩
  have : argL ds 0 = [] := by
    rw [← argL_fold]
    exact hnil _ (getD_memL (by omega)) h0
  rw [this] at h; exact h)
noncomputable def con_eClone : Con E0 := ⟨k_eClone, sg_eClone, eClone_s, rfl, bo_eClone, eClone_h⟩
theorem eff_row5 : (E0.Δ.row 24).length = 5 := by kernel_rfl
theorem clone_res : sg_eClone.res = [(false, [.rows 24])] := rfl
theorem globs_any (w : World) : E0.globs w := ⟨fun x hx => absurd hx (by simp [E0, gts]), fun x hx => absurd hx (by simp [E0])⟩
/-- a row's cells laid in an own slice -/
theorem ow_laid {P : Program} {B sz n g off c : Nat} (p : Nat) : ∀ (us : List Value) (i : Nat) (w : World) (xs : List Value), (∀ u ∈ us, u.oneCell' = true) → p + i + us.length ≤ n * sz → Ow w B sz (.slice (some ⟨g, off, none⟩) n c) n xs →
    ∃ w', (storeCells ⟨g, off + p, none⟩ us i).run P w = .ok () w' ∧ Ow w' B sz (.slice (some ⟨g, off, none⟩) n c) n (setMany xs (p + i) us) ∧ w.grownBy w' (some g)
  | [], i, w, xs, _, _, ho => ⟨w, rfl, by rw [setMany]; exact ho, grownBy_some (grownBy_below (Below.refl _ _))⟩
  | u :: us, i, w, xs, h1, hp, ho => by
    have hpos : p + i < n * sz := by simp only [List.length_cons] at hp; omega
    have hn0 : 0 < n := Nat.pos_of_ne_zero fun e => by subst e; simp at hpos
    obtain ⟨A2, c2', e2, hcc, hll, haa, hoo⟩ := id ho
    cases e2
    obtain ⟨g', o2', e3, hB, hg, hjj⟩ := hoo (by omega)
    cases e3
    obtain ⟨hc1, hc2⟩ := hjj _ (Nat.lt_of_lt_of_le hpos (Nat.mul_le_mul_right _ hcc))
    obtain ⟨u0, hu0⟩ := Option.isSome_iff_exists.1 hc1
    have hrun := run_store1 (P := P) (w := w) (h1 u (List.mem_cons_self ..)) hu0 hc2
    have hOw2 := ho.setp hpos u
    obtain ⟨w', q1, q2, q3⟩ := ow_laid p us (i + 1) _ _ (fun v hv => h1 v (List.mem_cons_of_mem _ hv)) (by simp only [List.length_cons] at hp; omega) hOw2
    refine ⟨w', ?_, by rw [setMany]; exact q2, grownBy_trans (grownBy_setCell w g _ _) q3 (fun j hj => .inr hj)⟩
    rw [storeCells]
    have ha : (⟨g, off + p, none⟩ : Addr).add i = ⟨g, off + (p + i), none⟩ := by rw [Addr.add_lit]; congr 1; omega
    rw [ha, Sem.run_bind, hrun]
    exact q1
section
variable {P : Program}
/-- a struct out of an own slice, loaded -/
theorem wpG_loadO {bo : Option Nat} {os : List Oper} {Q : Act → World → Prop} {i B sz n g off c p : Nat} {rest : List (Bool × Nat)} {a : Act} {w : World} {o : Oper} {xs : List Value} {cs : Array Value} {d : TypeDesc} (hO : Ow w B sz (.slice (some ⟨g, off, none⟩) n c) n xs) (ho : nth os i = some o) (hw : Region.wanted o (yielded os.toArray a.tmps) = true)
    (ty : TypeId) (x : Operand) (hop : o.op = .load ty x) (hx : a.eval x = .pointer (some ⟨g, off + p, none⟩)) (hn : 0 < n) (hc : ∀ j v, cs[j]? = some v → xs[p + j]? = some v) (hu : P.underlying ty = some d) (hd : d.isRow = true) (hi : (P.info? ty).map (·.size) = some cs.size)
    (h : wpG P os.toArray bo Q rest (a.put o.dst (.agg cs)) w) : wpG P os.toArray bo Q ((false, i) :: rest) a w := by
  refine wpG_event ho hw fun K hK => ?_
  have hrun := run_loadVar_rowC (P := P) w ⟨g, off + p, none⟩ ty cs d hu hd hi (fun j v hv => by
    obtain ⟨A, c', e, _, _, ha, _⟩ := id hO
    cases e
    obtain ⟨ad, e, _, hcell⟩ := ha hn
    cases e
    have := hcell (p + j) v (hc j v hv)
    rw [Addr.add_lit] at this ⊢
    rw [← this]; congr 2; omega)
  unfold Oper.wp execOp
  simp only [hop, hx, Instr.loadAt, Instr.sureAddr, Sem.run_bind, Sem.run_pure, Result.andThen_ok, hrun, Oper.upon]
  exact hK _ _ (LatG.self w) h
/-- a struct stored in an own slice -/
theorem wpG_storeO {os : List Oper} {Q : Act → World → Prop} {i B sz n g off c p : Nat} {rest : List (Bool × Nat)} {a : Act} {w : World} {o : Oper} {xs : List Value} {cs : Array Value} (hO : Ow w B sz (.slice (some ⟨g, off, none⟩) n c) n xs) (ho : nth os i = some o) (hw : Region.wanted o (yielded os.toArray a.tmps) = true)
    (hdst : o.dst = none) (ty : TypeId) (x y : Operand) (hop : o.op = .store ty x y) (hx : a.eval x = .pointer (some ⟨g, off + p, none⟩)) (hy : a.eval y = .agg cs) (hn : p + cs.size ≤ n * sz) (hs : (P.info? ty).map (·.size) = some cs.size) (h1 : ∀ u ∈ cs.toList, u.oneCell' = true)
    (h : ∀ w', Ow w' B sz (.slice (some ⟨g, off, none⟩) n c) n (setMany xs p cs.toList) → w.grownBy w' (some g) → wpG P os.toArray (some g) Q rest a w') : wpG P os.toArray (some g) Q ((false, i) :: rest) a w := by
  refine wpG_event ho hw fun K hK => ?_
  obtain ⟨w', q1, q2, q3⟩ := ow_laid (P := P) p cs.toList 0 w xs h1 (by simpa using hn) hO
  have hrun : (storeVar ty ⟨g, off + p, none⟩ (.agg cs)).run P w = .ok () w' := by
    simp only [Option.map_eq_some_iff] at hs
    obtain ⟨ii, hii, hsz⟩ := hs
    have hsz' : cs.size = ii.size := hsz.symm
    simp [storeVar, sizeOf, typeInfo, hii, hsz', Value.cells, q1]
  unfold Oper.wp execOp
  simp only [hop, hx, hy, Instr.storeAt, Instr.sureAddr, Sem.run_bind, Sem.run_pure, Result.andThen_ok, hrun, Oper.upon, hdst, Act.put]
  exact hK _ _ (LatG.of q3) (h w' q2 q3)
/-- a call -/
theorem wpG_call {bo : Option Nat} {os : List Oper} {Q : Act → World → Prop} {i F : Nat} {rest : List (Bool × Nat)} {a : Act} {w : World} {o : Oper} {vs : Array Value} {R : Value → World → Prop} (ho : nth os i = some o) (hw : Region.wanted o (yielded os.toArray a.tmps) = true)
    (hex : (execOp a.eval o).run P w = .ok (.enter F vs) w) (hc : Calls P F vs w fun e w' => ∃ u, e = .returned u ∧ R u w')
    (h : ∀ u w', R u w' → LatG bo w w' ∧ wpG P os.toArray bo Q rest (a.put o.dst u) w') : wpG P os.toArray bo Q ((false, i) :: rest) a w := by
  refine wpG_event ho hw fun K hK => ?_
  unfold Oper.wp
  rw [hex]
  exact hc.mono fun e w' ⟨u, he, hR⟩ => by subst he; exact hK _ _ (h u w' hR).1 (h u w' hR).2
end
/-- the effects' cells -/
def subV (r : List Dat) : Value := (r.getD 4 (.bool false)).toV
theorem eff_list {e : Dat} (h : Has E0.Δ (.list 24) e) : ∃ v sub, e = Dat.list v 5 sub := by
  have hrow : (E0.Δ.row 24).length = 5 := by kernel_rfl
  cases h with
  | list _ A n c xs hl h => exact ⟨_, xs, by rw [hrow]⟩
theorem eff_shape {r : List Dat} (h : All2 (Has E0.Δ) [.int .i64, .int .i64, .int .i64, .int .i64, .list 24] r) : ∃ a b c d v sub, r = [.int .i64 a, .int .i64 b, .int .i64 c, .int .i64 d, .list v 5 sub] ∧ Has E0.Δ (.list 24) (.list v 5 sub) ∧ effOf r = .mk a b c d (sub.map effOf) ∧ subV r = v := by
  match r, h with
  | _, .cons (.int _ a) (.cons (.int _ b) (.cons (.int _ c) (.cons (.int _ d) (.cons h4 .nil)))) =>
    obtain ⟨v, sub, rfl⟩ := eff_list h4
    exact ⟨a, b, c, d, v, sub, rfl, h4, by rw [effOf_eq]; rfl, rfl⟩
theorem eff_rows {v : Value} {rows : List (List Dat)} (h : Has E0.Δ (.list 24) (.list v 5 rows)) : ∀ r ∈ rows, All2 (Has E0.Δ) [.int .i64, .int .i64, .int .i64, .int .i64, .list 24] r := by
  have hrow : E0.Δ.row 24 = [.int .i64, .int .i64, .int .i64, .int .i64, .list 24] := by kernel_rfl
  generalize hd : Dat.list v 5 rows = d at h
  cases h with
  | list _ A n c xs hl hx =>
    cases hd
    intro r hr
    have h5 := hl r hr
    have hg := hx r hr
    rw [hrow] at h5 hg
    match r, h5 with
    | [a, b, c, d, e], _ => exact .cons (hg 0 _ _ rfl rfl) (.cons (hg 1 _ _ rfl rfl) (.cons (hg 2 _ _ rfl rfl) (.cons (hg 3 _ _ rfl rfl) (.cons (hg 4 _ _ rfl rfl) .nil))))
theorem flat_rowsE : ∀ {rows : List (List Dat)}, (∀ r ∈ rows, All2 (Has E0.Δ) [.int .i64, .int .i64, .int .i64, .int .i64, .list 24] r) → flatV rows = rowsE (rows.map effOf) (rows.map subV)
  | [], _ => rfl
  | r :: rows, h => by
    have ih := flat_rowsE (rows := rows) fun r hr => h r (List.mem_cons_of_mem _ hr)
    obtain ⟨a, b, c, d, v, sub, rfl, _, he, hv⟩ := eff_shape (h r (List.mem_cons_self ..))
    rw [List.map_cons, List.map_cons, rowsE, he, hv, ← ih]
    rfl
theorem below_st {w : World} {B : Nat} (b i : Nat) (v : Value) (hb : B ≤ b) : Below B w (w.setCell ⟨b, i, none⟩ v) := (Below.refl B w).setCell (p := ⟨b, i, none⟩) hb v
theorem row_grown {w w' : World} {b g : Nat} {cs : Array Value} {T : TypeId} (h : Row w b cs T) (hg : w.grownBy w' (some g)) (hne : b ≠ g) : Row w' b cs T := (hg.block b h.lt (by simpa using hne)).trans h
theorem below_grown {w w' w'' : World} {B g : Nat} (hb : Below B w w') (hg : w'.grownBy w'' (some g)) (hB : B ≤ w'.heap.size) (h : B ≤ g) : Below B w w'' :=
  hb.trans ⟨hg.os, hg.tape, hg.output, hg.size, fun k hk => hg.block k (by omega) (by intro e; cases e; omega)⟩
theorem eff_one (a b c d : Int) {u : Value} (h : u.oneCell' = true) : (#[Value.int .i64 a, .int .i64 b, .int .i64 c, .int .i64 d, u] : Array Value).all (·.oneCell') = true := by
  cases u <;> first | (cases h; done) | simp [Value.oneCell']
theorem eff_isz (a b c d u : Value) : (Try.prog.info? 24).map (·.size) = some (#[a, b, c, d, u] : Array Value).size := by kernel_rfl
/-- what a round of the loop finds -/
def CpyI (w : World) (op n m who : Int) (rows : List (List Dat)) (B' : Nat) (A : Option Addr) (c : Nat) (i : Nat) (wr : World) : Prop :=
  ∃ us : List Value, us.length = rows.length ∧ Row wr w.heap.size #[.int .i64 op, .int .i64 n, .int .i64 m, .int .i64 who, .slice A rows.length c] 24 ∧ Row wr (w.heap.size + 1) #[.int .i64 0, .int .i64 0, .int .i64 0, .int .i64 0, .slice none 0 0] 24 ∧ Below w.heap.size w wr ∧ B' ≤ wr.heap.size ∧
    Ow wr (w.heap.size + 2) 5 (.slice A rows.length c) rows.length (rowsE (rows.map effOf) us) ∧ (∀ k, blkOf (.slice A rows.length c) = some k → k < B') ∧ (∀ j r, i ≤ j → rows[j]? = some r → us[j]? = some (subV r)) ∧ ∀ j r u, j < i → rows[j]? = some r → us[j]? = some u → TrE wr B' u (effOf r).subs
set_option maxRecDepth 1000000 in
set_option maxHeartbeats 4000000 in
theorem copy_w (N : Nat) : ∀ (op n m who : Int) (v : Value) (rows : List (List Dat)) (w : World), (1 + Eff.sizes (rows.map effOf)) < N → Eff.sizes (rows.map effOf) ≤ 1000 → OkD w (.list v 5 rows) → Has E0.Δ (.list 24) (.list v 5 rows) →
    Calls Try.prog 7 #[.agg #[.int .i64 op, .int .i64 n, .int .i64 m, .int .i64 who, v]] w fun e w' => ∃ u, e = .returned (.agg #[.int .i64 op, .int .i64 n, .int .i64 m, .int .i64 who, u]) ∧ Below w.heap.size w w' ∧ TrE w' w.heap.size u (rows.map effOf) := by
  induction N with
  | zero => intro _ _ _ _ _ _ _ h; omega
  | succ N ih =>
  intro op n m who v rows w hN hsz hok hhas
  have hrows := eff_rows hhas
  have hlen1 : rows.length ≤ 1000 := by
    have := Eff.length_le_sizes (rows.map effOf)
    rw [List.length_map] at this; omega
  have hcl : ∀ W, Below w.heap.size w W → w.heap.size ≤ W.heap.size → Calls Try.prog 21 #[v] W fun e w' => ∃ A c, e = .returned (.slice A rows.length c) ∧ Below W.heap.size W w' ∧ Ow w' W.heap.size 5 (.slice A rows.length c) rows.length (flatV rows) := by
    intro W hb _
    refine (eClone_h W [.list v 5 rows] (fun rs => rs = [.rows rows]) (.cons hhas .nil) (fun d hd => by rw [List.mem_singleton.1 hd]; exact hok.keeps (grown_of_below hb) fun _ _ e => by cases e) (fun d hd => by cases hd) (globs_any W) ⟨by show rows.length ≤ _; omega, rfl⟩).mono ?_
    rintro e w' ⟨rs, rfl, _, hb2, _, _, h⟩
    rw [if_pos (show sg_eClone.own = true from rfl)] at h
    obtain ⟨A, n, c, r, xs, h1, h2, h3, h4, h5, _⟩ := h
    cases h2
    rw [clone_res] at h1
    have hr : 24 = r := by injection h1 with h1 _; injection h1 with _ h1; injection h1 with h1 _; injection h1
    subst hr
    rw [eff_row5] at h4
    subst h5
    exact ⟨A, c, h3, hb2, h4⟩
  generalize hln : rows.length = ln at *
  go_enter Try.func7, Try.ntmps7
  have HB0 : Below w.heap.size w ((w.alloc (.cells #[.int .i64 op, .int .i64 n, .int .i64 m, .int .i64 who, v] 24)).alloc (.cells #[.int .i64 0, .int .i64 0, .int .i64 0, .int .i64 0, .slice none 0 0] 24)) := ((Below.refl w.heap.size w).alloc (Nat.le_refl _) _).alloc (by simp) _
  have HRW : ∀ W2, Below ((w.alloc (.cells #[.int .i64 op, .int .i64 n, .int .i64 m, .int .i64 who, v] 24)).alloc (.cells #[.int .i64 0, .int .i64 0, .int .i64 0, .int .i64 0, .slice none 0 0] 24)).heap.size ((w.alloc (.cells #[.int .i64 op, .int .i64 n, .int .i64 m, .int .i64 who, v] 24)).alloc (.cells #[.int .i64 0, .int .i64 0, .int .i64 0, .int .i64 0, .slice none 0 0] 24)) W2 → Row W2 w.heap.size #[.int .i64 op, .int .i64 n, .int .i64 m, .int .i64 who, v] 24 ∧ Row W2 (w.heap.size + 1) #[.int .i64 0, .int .i64 0, .int .i64 0, .int .i64 0, .slice none 0 0] 24 ∧ Below w.heap.size w W2 ∧ w.heap.size + 2 ≤ W2.heap.size := fun W2 hb => ⟨((Row.new w _ _).alloc _).below hb, by
    have := (Row.new (w.alloc (.cells #[.int .i64 op, .int .i64 n, .int .i64 m, .int .i64 who, v] 24)) #[.int .i64 0, .int .i64 0, .int .i64 0, .int .i64 0, .slice none 0 0] 24).below hb
    simpa using this, HB0.trans (hb.mono HB0.size), by have := hb.size; simpa using this⟩
  have hszW : ((w.alloc (.cells #[.int .i64 op, .int .i64 n, .int .i64 m, .int .i64 who, v] 24)).alloc (.cells #[.int .i64 0, .int .i64 0, .int .i64 0, .int .i64 0, .slice none 0 0] 24)).heap.size = w.heap.size + 2 := by simp
  go_wp2_with (go_at_call 21; refine (hcl _ HB0 HB0.size).mono ?_; rintro e W2 ⟨A, c, rfl, hb2, hO⟩; rw [hszW] at hO; obtain ⟨HR, HR1, HB, HS⟩ := HRW W2 hb2; clear hb2 HRW HB0; have hc4 := HR.cell (i := 4) rfl; have hf4 := HR.free 4)
  have hfl := flat_rowsE hrows
  rw [hfl] at hO
  clear hc4 hf4 hcl hszW
  have HSW := HS
  go_loopg [3, 11] ln (fun g _ p11 wr => ∃ i : Nat, ln ≤ i + g ∧ i ≤ ln ∧ p11 = .int .i64 i ∧ CpyI w op n m who rows W2.heap.size A c i wr)
  case atStart =>
    refine ⟨0, by omega, by omega, rfl, rows.map subV, by simp, ?_, HR1.other (by omega) _ _, HB.trans (below_st _ _ _ (Nat.le_refl _)), by simp, ?_, by rw [hln]; exact fun k hk => (hO.blk_lt k hk).2, ?_, ?_⟩
    · rw [hln]; exact HR.set 4 _
    · rw [hln]; exact hO.grown (grownBy_setCell W2 _ _ _) (by
        cases hv : blkOf _ with
        | none => exact .inl rfl
        | some k => right; intro e; have := (hO.blk_lt k hv).1; cases e; omega)
    · intro j r _ hr; rw [List.getElem?_map, hr]; rfl
    · intro j r u hj; omega
  case round =>
    clear HR HR1 HB HS hO
    obtain ⟨i, hg, hi, rfl, us, hul, HR, HR1, HB, HS, HO, hBk, hold, hnew⟩ := hrel
    rw [hln] at HR HO hBk
    by_cases hlt : i < ln
    · have hlt' : (i : Int) < ln := by omega
      obtain ⟨A', c', e, _, _, _, hoo⟩ := id HO
      cases e
      obtain ⟨g, off, rfl, hgB, hgl, _⟩ := hoo (by omega)
      clear hoo
      have hc4 := HR.cell (i := 4) rfl
      have hlt0 : w.heap.size < wr.heap.size := HR.lt
      have hne0 : w.heap.size ≠ g := by omega
      go_upto_region 5 with fail
      have q4 : ∀ x : Gro (some g) wr.drew, (gro (some g) wr.drew x).cell? ⟨w.heap.size, 4, none⟩ = some (.slice (some ⟨g, off, none⟩) ln c) := fun x => (gro_cell1 (w := wr.drew) hlt0 hne0).trans hc4
      refine wp_region_G (bo := some g) [(true, 0), (true, 1), (true, 2), (true, 3), (true, 4), (true, 5), (true, 6), (false, 7), (false, 8), (true, 9), (false, 10)] (by kernel_rfl) (by kernel_rfl) (by kernel_rfl) (by kernel_rfl) ?_
      iterate 7 (refine wpG_quiet rfl ?_; go_big_quiet_step (fail); refine wpQuiet_nil ?_)
      have hil : i < rows.length := by omega
      obtain ⟨a, b, c0, d, v0, sub, hr, hsub, he, hv⟩ := eff_shape (hrows _ (List.getElem_mem hil))
      have hri : rows[i]? = some rows[i] := List.getElem?_eq_getElem hil
      have hui : us[i]? = some v0 := by rw [hold i _ (Nat.le_refl _) hri, hv]
      have hei : (rows.map effOf)[i]? = some (.mk a b c0 d (sub.map effOf)) := by rw [List.getElem?_map, hri]; show some (effOf _) = _; rw [he]
      have HOd := HO.below ((Below.refl wr.heap.size wr).drew)
      refine wpG_loadO (p := i * 5) (cs := #[.int .i64 a, .int .i64 b, .int .i64 c0, .int .i64 d, v0]) HOd rfl rfl 24 _ rfl rfl (by omega) (fun j u hj => ?_) Try.underlying24 rfl (by kernel_rfl) ?_
      · have hj5 : j < 5 := (Array.getElem?_eq_some_iff.1 hj).1
        rw [rowsE_get hei hui hj5, ← hj]
        exact (List.getElem?_toArray).symm
      refine wpG_event rfl rfl fun K hK => ?_
      go_step
      have hmem : effOf rows[i] ∈ rows.map effOf := List.mem_map_of_mem (List.getElem_mem hil)
      have hsz2 := Eff.size_le_sizes hmem
      rw [he, Eff.size_eq] at hsz2
      replace hsz2 : 1 + Eff.sizes (sub.map effOf) ≤ Eff.sizes (rows.map effOf) := hsz2
      have hok2 : OkD wr.drew (.list v0 5 sub) := by
        cases hok with
        | list _ _ _ _ hx =>
          have := hx _ (List.getElem_mem hil) (.list v0 5 sub) (by rw [hr]; simp)
          exact this.keeps (grown_of_below HB.drew) fun _ _ e => by cases e
      refine (ih a b c0 d v0 sub wr.drew (by omega) (by omega) hok2 hsub).mono ?_
      rintro e W3 ⟨u, rfl, hb3, htr⟩
      refine hK _ _ (LatG.below hb3) ?_
      clear hK K
      have HO3 := HOd.below hb3
      have hgB' : g < W2.heap.size := hBk g (by simp only [blkOf]; rw [if_pos (by omega)])
      have hs3 := hb3.size
      have hnewW : ∀ j r' u', j < i → rows[j]? = some r' → us[j]? = some u' → TrE W3 W2.heap.size u' (effOf r').subs := fun j r' u' hj h1 h2 => ((hnew j r' u' hj h1 h2).kept ((Below.refl wr.heap.size wr).drew)).kept hb3
      have htrW : TrE W3 W2.heap.size u (sub.map effOf) := htr.weak HS
      have hval : setMany (rowsE (rows.map effOf) us) (i * 5) [.int .i64 a, .int .i64 b, .int .i64 c0, .int .i64 d, u] = rowsE (rows.map effOf) (us.set i u) := by
        have h1 := rowsE_set (es := rows.map effOf) (us := us) (i := i) (.mk a b c0 d (sub.map effOf)) u (by rw [hul, List.length_map]) (by rw [List.length_map]; exact hil)
        have h2 : (rows.map effOf).set i (.mk a b c0 d (sub.map effOf)) = rows.map effOf := by
          refine List.ext_getElem? fun k => ?_
          rw [List.getElem?_set]
          split
          · rename_i e; subst e; rw [if_pos (by rw [List.length_map]; exact hil), hei]
          · rfl
        rw [h2] at h1
        exact h1.symm
      have hl5 : ((rows.map effOf)[i]? = some (.mk a b c0 d (sub.map effOf))) := hei
      have hu1 : u.oneCell' = true := by
        cases htr with
        | mk _ ho _ _ _ => obtain ⟨_, _, rfl, _⟩ := ho; rfl
      refine wpG_quiet rfl ?_
      go_big_quiet_step (fail)
      refine wpQuiet_nil ?_
      refine wpG_storeO (p := i * 5) (cs := #[.int .i64 a, .int .i64 b, .int .i64 c0, .int .i64 d, u]) HO3 rfl rfl rfl 24 _ _ rfl rfl rfl ?_ (by kernel_rfl) ?_ ?_
      · show i * 5 + 5 ≤ ln * 5; omega
      · intro x hx
        simp only [List.mem_cons, List.not_mem_nil, or_false] at hx
        rcases hx with rfl | rfl | rfl | rfl | rfl
        · rfl
        · rfl
        · rfl
        · rfl
        · exact hu1
      intro wn hOn hgr
      rw [hval] at hOn
      refine wpG_nil ?_
      have HRn := row_grown (((HR.drew).below hb3)) hgr (by omega)
      have HR1n := row_grown (((HR1.drew).below hb3)) hgr (by omega)
      have HBn : Below w.heap.size w wn := below_grown (HB.drew.trans (hb3.mono (by have := HB.size; exact this))) hgr (by have h1 := HB.size; have h2 : wr.heap.size ≤ W3.heap.size := hs3; omega) (by omega)
      have hsn := hgr.size
      have hnewN : ∀ j r' u', j < i + 1 → rows[j]? = some r' → (us.set i u)[j]? = some u' → TrE wn W2.heap.size u' (effOf r').subs := by
        intro j r' u' hj h1 h2
        rw [List.getElem?_set] at h2
        by_cases hji : i = j
        · subst hji
          rw [if_pos rfl, if_pos (by omega)] at h2
          cases h2
          rw [hri] at h1; cases h1
          rw [he]
          exact htrW.grown hgr fun k hk => by cases hk; exact hgB'
        · rw [if_neg hji] at h2
          exact (hnewW j r' u' (by omega) h1 h2).grown hgr fun k hk => by cases hk; exact hgB'
      have holdN : ∀ j r', i + 1 ≤ j → rows[j]? = some r' → (us.set i u)[j]? = some (subV r') := by
        intro j r' hj h1
        rw [List.getElem?_set, if_neg (by omega)]
        exact hold j r' (by omega) h1
      have hlenN : (us.set i u).length = rows.length := by rw [List.length_set]; exact hul
      have hSn : W2.heap.size ≤ wn.heap.size := by have : wr.heap.size ≤ W3.heap.size := hs3; omega
      rw [← hln] at HRn hOn hBk
      have HF : CpyI w op n m who rows W2.heap.size (some ⟨g, off, none⟩) c (i + 1) wn := ⟨us.set i u, hlenN, HRn, HR1n, HBn, hSn, hOn, hBk, holdN, hnewN⟩
      clear HRn HR1n HBn hSn hOn hBk holdN hnewN hlenN hsn hgr hu1 hl5 hval htrW hnewW hs3 HO3 htr hb3 hok2 hsz2 hmem HOd hei hui hri hv he hsub hr q4 HR HR1 HB HS HO hold hnew hc4
      have hi2 : (i : Int) + 1 ≤ 1000 := by omega
      have hi0 : (0 : Int) ≤ i := by omega
      go_wp2
      go_roundg (gk - 1)
      case rel => exact ⟨i + 1, by omega, by omega, by simp, HF⟩
      case measure => omega
    · obtain rfl : i = ln := by omega
      have hcond : ¬ (i : Int) < i := by omega
      have hfin : TrE wr (w.heap.size + 2) (.slice A i c) (rows.map effOf) := by
        have hl2 : us.length = (rows.map effOf).length := by rw [List.length_map, hul]
        refine .mk hl2 ?_ hBk ?_ ?_
        · rw [List.length_map, hln]; exact HO
        · exact HSW
        · intro j e u he hu
          rw [List.getElem?_map, Option.map_eq_some_iff] at he
          obtain ⟨r, hr, rfl⟩ := he
          exact hnew j r u (by have := (List.getElem?_eq_some_iff.1 hr).1; omega) hr hu
      clear hnew hold HO hBk hul hrows hfl hhas hok
      go_wp2_with (first
        | (refine wpList_load_Row HR rfl _ _ rfl rfl _ Try.underlying24 rfl (eff_isz _ _ _ _ _) ?_)
        | (refine wpList_store_Row HR1 rfl rfl _ _ _ rfl rfl rfl (eff_isz _ _ _ _ _) rfl (eff_one _ _ _ _ rfl) ?_))
      refine bodyPost_ret (results_Row (HR1.setRow _) rfl _ _ rfl Try.underlying24 rfl (eff_isz _ _ _ _ _)) rfl ?_
      exact ⟨_, rfl, below_setRow HB (by omega) _, (hfin.grown (grownBy_setRow wr (w.heap.size + 1) _) fun k hk => by cases hk; omega).weak (by omega)⟩
end Go.Proofs.Ytccdlmiemelifaa
end

section
namespace Go.Proofs.Ytccdlmiemelifaa
open Go.RowKit
set_option linter.unusedVariables false
set_option linter.unusedSimpArgs false

/-- slice v holds effects in blocks from B up to E, at most d deep -/
def TrS (w : World) (B E : Nat) : Nat → Value → Prop
  | 0, _ => False
  | d + 1, v => ∃ n xs, Ow w B 5 v n xs ∧ n ≤ 1000 ∧ (∀ k, blkOf v = some k → k < E) ∧
      ∀ i, i < n → (∀ j, j < 4 → ∃ a : Int, xs[i * 5 + j]? = some (.int .i64 a)) ∧ ∃ u, xs[i * 5 + 4]? = some u ∧ TrS w B E d u
theorem TrS.slice {w : World} {B E d : Nat} {v : Value} (h : TrS w B E d v) : ∃ A n c, v = .slice A n c := by
  cases d with
  | zero => exact h.elim
  | succ d => obtain ⟨n, xs, ⟨A, c, rfl, _⟩, _⟩ := h; exact ⟨_, _, _, rfl⟩
/-- what such a write leaves -/
structure SpW (B E : Nat) (w w' : World) : Prop where
  os : w'.os = w.os
  tape : w'.tape = w.tape
  output : w'.output = w.output
  size : w.heap.size ≤ w'.heap.size
  block : ∀ k, k < w.heap.size → (k < B ∨ E ≤ k) → w'.heap[k]? = w.heap[k]?
  tree : ∀ d v, TrS w B E d v → TrS w' B E d v
theorem SpW.refl (B E : Nat) (w : World) : SpW B E w w := ⟨rfl, rfl, rfl, Nat.le_refl _, fun _ _ _ => rfl, fun _ _ h => h⟩
theorem SpW.trans {B E : Nat} {a b c : World} (h : SpW B E a b) (k : SpW B E b c) : SpW B E a c :=
  ⟨k.os.trans h.os, k.tape.trans h.tape, k.output.trans h.output, Nat.le_trans h.size k.size, fun i hi hb => (k.block i (Nat.lt_of_lt_of_le hi h.size) hb).trans (h.block i hi hb), fun d v ht => k.tree d v (h.tree d v ht)⟩
theorem TrS.grown {w w' : World} {B E : Nat} (hb : w.grownBy w' none) : ∀ {d : Nat} {v : Value}, TrS w B E d v → TrS w' B E d v
  | 0, _, h => h.elim
  | d + 1, v, ⟨n, xs, ho, hn, hE, hx⟩ => ⟨n, xs, ho.grown hb (by cases hv : blkOf v with
      | none => exact .inl rfl
      | some k => right; intro e; cases e), hn, hE, fun i hi => ⟨(hx i hi).1, by obtain ⟨u, h1, h2⟩ := (hx i hi).2; exact ⟨u, h1, h2.grown hb⟩⟩⟩
theorem SpW.below {B E : Nat} {w w' : World} (h : Below w.heap.size w w') : SpW B E w w' := ⟨h.os, h.tape, h.output, h.size, fun k hk _ => h.block k hk, fun _ _ ht => ht.grown (grown_of_below h)⟩
/-- a box that is not of the tree -/
theorem TrS.other {w w' : World} {B E g : Nat} (hb : w.grownBy w' (some g)) (hg : g < B ∨ E ≤ g) : ∀ {d : Nat} {v : Value}, TrS w B E d v → TrS w' B E d v
  | 0, _, h => h.elim
  | d + 1, v, ⟨n, xs, ho, hn, hE, hx⟩ => ⟨n, xs, ho.grown hb (by cases hv : blkOf v with
      | none => exact .inl rfl
      | some k =>
        right; intro e; cases e
        have := (ho.blk_lt g hv).1
        have := hE g hv
        omega), hn, hE, fun i hi => ⟨(hx i hi).1, by obtain ⟨u, h1, h2⟩ := (hx i hi).2; exact ⟨u, h1, h2.other hb hg⟩⟩⟩
/-- a cell written anew -/
theorem Ow.poke {w : World} {B sz n : Nat} {v : Value} {xs : List Value} (h : Ow w B sz v n xs) {p : Addr} {u0 : Value} (hp : w.cell? p = some u0) (x : Value) :
    ∃ xs', Ow (w.setCell p x) B sz v n xs' ∧ xs'.length = xs.length ∧ ∀ j : Nat, xs'[j]? = xs[j]? ∨ xs[j]? = some u0 ∧ xs'[j]? = some x := by
  have hlen := h.len
  obtain ⟨A, c, rfl, hc, hl, ha, ho⟩ := id h
  by_cases hq : ∃ q, q < n * sz ∧ ∃ g off, A = some ⟨g, off, none⟩ ∧ p = ⟨g, off + q, none⟩
  · obtain ⟨q, hq, g, off, rfl, rfl⟩ := hq
    refine ⟨xs.set q x, h.setp hq x, List.length_set .., fun (j : Nat) => ?_⟩
    rw [List.getElem?_set]
    by_cases e : q = j
    · subst e
      right
      have hn0 : 0 < n := Nat.pos_of_ne_zero fun e => by subst e; simp at hq
      obtain ⟨ad, e, _, hcell⟩ := ha hn0
      cases e
      have hxs : xs[q]? = some (xs[q]'(by omega)) := List.getElem?_eq_getElem (by omega)
      have := hcell q _ hxs
      rw [Addr.add_lit, hp] at this
      rw [if_pos rfl, if_pos (by omega), hxs, this]
      exact ⟨rfl, rfl⟩
    · rw [if_neg e]; exact .inl rfl
  · refine ⟨xs, ?_, rfl, fun _ => .inl rfl⟩
    refine ⟨A, c, rfl, hc, hl, fun hn => ?_, fun hn => ?_⟩
    · obtain ⟨ad, rfl, hb, hcell⟩ := ha hn
      obtain ⟨g, off, e, _⟩ := ho (by omega)
      cases e
      refine ⟨_, rfl, by simpa using hb, fun j u hj => ?_⟩
      rw [World.cell?_setCell_other (h := ?_)]
      · exact hcell j u hj
      · intro e
        rw [Addr.add_lit] at e
        exact hq ⟨j, by rw [← hl]; exact (List.getElem?_eq_some_iff.1 hj).1, g, off, rfl, e⟩
    · obtain ⟨g, off, rfl, hB, hg, hj⟩ := ho hn
      refine ⟨g, off, rfl, hB, by simpa using hg, fun j hjc => ⟨?_, by rw [World.frozen?_setCell]; exact (hj j hjc).2⟩⟩
      by_cases e : p = ⟨g, off + j, none⟩
      · subst e
        rw [World.cell?_setCell_same (h := hp)]; rfl
      · rw [World.cell?_setCell_other (h := e)]; exact (hj j hjc).1
theorem TrS.poke {w : World} {B E : Nat} {p : Addr} {y z : Int} (hp : w.cell? p = some (.int .i64 y)) : ∀ {d : Nat} {v : Value}, TrS w B E d v → TrS (w.setCell p (.int .i64 z)) B E d v
  | 0, _, h => h.elim
  | d + 1, v, ⟨n, xs, ho, hn, hE, hx⟩ => by
    obtain ⟨xs', h1, h2, h3⟩ := ho.poke hp (.int .i64 z)
    refine ⟨n, xs', h1, hn, hE, fun i hi => ⟨fun j hj => ?_, ?_⟩⟩
    · obtain ⟨a, ha⟩ := (hx i hi).1 j hj
      rcases h3 (i * 5 + j) with e | ⟨_, e⟩
      · exact ⟨a, e.trans ha⟩
      · exact ⟨z, e⟩
    · obtain ⟨u, hu, ht⟩ := (hx i hi).2
      rcases h3 (i * 5 + 4) with e | ⟨e, _⟩
      · exact ⟨u, e.trans hu, ht.poke hp⟩
      · rw [hu] at e
        cases e
        obtain ⟨A, n', c, e⟩ := ht.slice
        cases e
theorem SpW.poke {w : World} {B E g o : Nat} {y z : Int} (hp : w.cell? ⟨g, o, none⟩ = some (.int .i64 y)) (hB : B ≤ g) (hE : g < E) : SpW B E w (w.setCell ⟨g, o, none⟩ (.int .i64 z)) :=
  ⟨rfl, rfl, rfl, by simp, fun k hk hb => heap_setCell_other w ⟨g, o, none⟩ k _ (by intro e; have e : k = g := e; omega), fun d v ht => ht.poke hp⟩
/-- what effect.Copy makes -/
theorem TrE.shape {w : World} {B0 E : Nat} : ∀ (d : Nat) {B : Nat} {v : Value} {es : List Eff}, TrE w B v es → B0 ≤ B → w.heap.size ≤ E → Eff.sizes es ≤ 1000 → Eff.sizes es < d → TrS w B0 E d v
  | 0, _, _, _, _, _, _, _, h => absurd h (Nat.not_lt_zero _)
  | d + 1, B, v, es, .mk (us := us) hl ho hb hBB hs, hB, hE, hz, hd => by
    have hlen : es.length ≤ 1000 := Nat.le_trans (Eff.length_le_sizes es) hz
    refine ⟨es.length, rowsE es us, ho.weak hB, hlen, fun k hk => Nat.lt_of_lt_of_le (ho.blk_lt k hk).2 hE, fun i hi => ?_⟩
    have he : es[i]? = some es[i] := List.getElem?_eq_getElem hi
    have hu : us[i]? = some (us[i]'(by omega)) := List.getElem?_eq_getElem (by omega)
    have hmem := Eff.size_le_sizes (List.getElem_mem hi)
    rw [Eff.size_eq] at hmem
    refine ⟨fun j hj => ?_, us[i]'(by omega), rowsE_get he hu (by omega), (hs i _ _ he hu).shape d (by omega) hE (by omega) (by omega)⟩
    rw [rowsE_get he hu (by omega)]
    match j, hj with
    | 0, _ => exact ⟨_, rfl⟩
    | 1, _ => exact ⟨_, rfl⟩
    | 2, _ => exact ⟨_, rfl⟩
    | 3, _ => exact ⟨_, rfl⟩
set_option maxRecDepth 1000000 in
set_option maxHeartbeats 4000000 in
theorem spoil_w (B E : Nat) (d : Nat) : ∀ (op n m who : Int) (v : Value) (w : World), E ≤ w.heap.size → TrS w B E d v →
    Calls Try.prog 11 #[.agg #[.int .i64 op, .int .i64 n, .int .i64 m, .int .i64 who, v]] w fun e w' => e = .returned (.tuple #[]) ∧ SpW B E w w' := by
  induction d with
  | zero => intro _ _ _ _ _ _ _ h; exact h.elim
  | succ d ih =>
  intro op n m who v w hE hT
  obtain ⟨A, ln, c, rfl⟩ := hT.slice
  have hln : ln ≤ 1000 := by
    obtain ⟨n', xs, ⟨A', c', e, _⟩, hn, _⟩ := id hT
    cases e; exact hn
  have HR0 := Row.new w #[.int .i64 op, .int .i64 n, .int .i64 m, .int .i64 who, .slice A ln c] 24
  have HS0 : SpW B E w (w.alloc (.cells #[.int .i64 op, .int .i64 n, .int .i64 m, .int .i64 who, .slice A ln c] 24)) := .below ((Below.refl _ _).alloc (Nat.le_refl _) _)
  have HT0 := HS0.tree _ _ hT
  go_enter Try.func11, Try.ntmps11
  have hc40 := HR0.cell (i := 4) rfl
  go_wp2
  go_loopg [2, 6] ln (fun g _ p6 wr => ∃ i : Nat, ln ≤ i + g ∧ i ≤ ln ∧ p6 = .int .i64 i ∧ Row wr w.heap.size #[.int .i64 op, .int .i64 n, .int .i64 m, .int .i64 who, .slice A ln c] 24 ∧ SpW B E w wr)
  case atStart => exact ⟨0, by omega, by omega, rfl, HR0, HS0⟩
  case round =>
    obtain ⟨i, hg, hi, rfl, HR, HS⟩ := hrel
    clear HR0 HS0 HT0
    by_cases hlt : i < ln
    · have hlt' : (i : Int) < ln := by omega
      have HT := HS.tree _ _ hT
      obtain ⟨n', xs, hO, _, hEk, hx⟩ := id HT
      obtain ⟨A', c', e, _, _, ha, hoo⟩ := id hO
      cases e
      obtain ⟨g, off, rfl, hgB, hgl, hjj⟩ := hoo (by omega)
      have hgE := hEk g (by simp only [blkOf]; rw [if_pos (by omega)])
      obtain ⟨ad, e, _, hcell⟩ := ha (by omega)
      cases e
      obtain ⟨a0, h0⟩ := (hx i hlt).1 0 (by omega)
      obtain ⟨a1, h1⟩ := (hx i hlt).1 1 (by omega)
      obtain ⟨a2, h2⟩ := (hx i hlt).1 2 (by omega)
      obtain ⟨a3, h3⟩ := (hx i hlt).1 3 (by omega)
      obtain ⟨u, h4, htu⟩ := (hx i hlt).2
      have hcs : ∀ j v, (#[.int .i64 a0, .int .i64 a1, .int .i64 a2, .int .i64 a3, u] : Array Value)[j]? = some v → wr.cell? ((⟨g, off + i * 5, none⟩ : Addr).add j) = some v := by
        intro j v hj
        have hj5 : j < 5 := (Array.getElem?_eq_some_iff.1 hj).1
        have key : xs[i * 5 + j]? = some v := by
          rw [← hj]
          match j, hj5 with
          | 0, _ => exact h0
          | 1, _ => exact h1
          | 2, _ => exact h2
          | 3, _ => exact h3
          | 4, _ => exact h4
        have := hcell _ _ key
        rw [Addr.add_lit] at this ⊢
        rw [← this]; congr 2; omega
      have hEr : E ≤ wr.heap.size := Nat.le_trans hE HS.size
      have hc4 := HR.cell (i := 4) rfl
      have hlt0 : w.heap.size < wr.heap.size := HR.lt
      clear hx hcell h0 h1 h2 h3 h4 hjj hO ha hEk hc40
      have hnext : ∀ w3, SpW B E wr w3 → Row w3 w.heap.size #[.int .i64 op, .int .i64 n, .int .i64 m, .int .i64 who, .slice (some ⟨g, off, none⟩) ln c] 24 ∧ ∃ b : Int, w3.cell? ⟨g, off + i * 5 + 1, none⟩ = some (.int .i64 b) ∧ w3.frozen? ⟨g, off + i * 5 + 1, none⟩ = false := by
        intro w3 h
        refine ⟨(h.block _ hlt0 (.inr hE)).trans HR, ?_⟩
        obtain ⟨n', xs, hO, _, hEk, hx⟩ := h.tree _ _ HT
        obtain ⟨A', c', e, hnc, _, ha, hoo⟩ := id hO
        cases e
        obtain ⟨g', off', e, hgB, hgl, hjj⟩ := hoo (by omega)
        cases e
        obtain ⟨ad, e, _, hcell⟩ := ha (by omega)
        cases e
        obtain ⟨a1, h1⟩ := (hx i hlt).1 1 (by omega)
        have := hcell _ _ h1
        rw [Addr.add_lit, ← Nat.add_assoc] at this
        exact ⟨a1, this, by have := (hjj (i * 5 + 1) (by have := Nat.mul_le_mul_right 5 hnc; omega)).2; rwa [← Nat.add_assoc] at this⟩
      go_upto_region 5 with (first
        | (refine wpList_load_cells rfl _ _ rfl ⟨g, off + i * 5, none⟩ rfl #[.int .i64 a0, .int .i64 a1, .int .i64 a2, .int .i64 a3, u] _ Try.underlying24 rfl (eff_isz _ _ _ _ _) hcs ?_)
        | (go_at_call 11; refine (ih a0 a1 a2 a3 u wr hEr htu).mono ?_; rintro e w3 ⟨rfl, hSp⟩))
      obtain ⟨HR3, b, hcb, hfb⟩ := hnext w3 hSp
      have hc43 := HR3.cell (i := 4) rfl
      have HP := SpW.poke (B := B) (E := E) (z := Go.RowKit.wrap64 (b + 1)) hcb hgB hgE
      have HRp := HR3.other (b' := g) (by omega) (off + i * 5 + 1) (.int .i64 (Go.RowKit.wrap64 (b + 1)))
      have HF := Lib.hid (And.intro HRp ((HS.trans hSp).trans HP))
      clear HP HRp hnext hSp htu HT hcs hgB hgl hgE hEr HS HR hT hc4
      have hi2 : (i : Int) + 1 ≤ 1000 := by omega
      have hi0 : (0 : Int) ≤ i := by omega
      go_wp2
      go_roundg (gk - 1)
      case rel => exact ⟨i + 1, by omega, by omega, by simp, HF.out.1, HF.out.2⟩
      case measure => omega
    · obtain rfl : i = ln := by omega
      have hcond : ¬ (i : Int) < i := by omega
      go_wp2
      exact ⟨rfl, .tuple #[], by simp [results, Try.func11], rfl, HS⟩
end Go.Proofs.Ytccdlmiemelifaa
end

section
namespace Go.Proofs.Ytccdlmiemelifaa
open Go.RowKit
set_option linter.unusedVariables false
set_option linter.unusedSimpArgs false
def k_Is : Nat := 19
def sg_Is : Sig := ⟨[(false, [.err]), (false, [.int .i64])], [(false, [.bool])], false, false, false, false, false⟩
def tr_Is : Tree := (.call k_Num [(.var 0)] [(.int .i64)]
(.ret [(.cmp .eq (.var 2) (.var 1))]))
theorem wk_Is : walk E0.cx (sgsN [(29, sg_Num)]) 0 19 sg_Is = tr_Is := by kernel_rfl
theorem bo_Is : ∃ x, bodyOf E0.P 19 = some x := bo_of (by kernel_rfl)
theorem sp_Is_Num : specC [con_Num] k_Num = Num_s := rfl
def Is_s : Spec := fun ds Q => ∃ n m : Int, ds = [errV n, .int .i64 m] ∧ Q [.bool (n == m)]
theorem Is_h : Holds E0 k_Is sg_Is Is_s := con_by wf0 mix0 g0 [con_Num] rfl wk_Is rfl (by
  intro ds Q hs ⟨n, m, e, h⟩
  subst e
  simp only [tr_Is, wp, den_int, den_bool, den_nili, den_ar, den_cmp, den_not, den_len, den_elem, den_isnil, den_errI, den_ifc, den_rep, den_push, den_app, den_emp, den_upd, row0_econs, row0_enil, den_and, den_beq, den_nil, toInt_int, toBool_bool, xs_rows, xs_list, dflt_int, dflt_bool, of_eq, of_ne, of_lt, of_le, of_gt, of_ge, of_add, of_sub, of_rem, List.map_cons, List.map_nil, Dat.bool.injEq, decide_eq_true_eq, decide_eq_false_iff_not, Bool.not_eq_true', Bool.not_eq_false', beq_iff_eq, bne_iff_ne, beq_eq_false_iff_ne, bne_eq_false_iff_eq, ne_eq, List.append_assoc, List.cons_append, List.nil_append, allS, sp_Is_Num, Num_s, den_var0, List.getD_cons_zero]
  exact ⟨n, rfl, h⟩)
noncomputable def con_Is : Con E0 := ⟨k_Is, sg_Is, Is_s, rfl, bo_Is, Is_h⟩
end Go.Proofs.Ytccdlmiemelifaa
end

section
namespace Go.Proofs.Ytccdlmiemelifaa
open Go.RowKit
set_option linter.unusedVariables false
set_option linter.unusedSimpArgs false

-- lacks mulligan/mulliganref06.ranges : rranges
def rranges_s : Spec := fun ds Q => ∀ b : Bool, (b = true ↔ rngP (argI ds 0) (argI ds 1) (argI ds 2) (argI ds 3)) → Q [.bool b]
def rfits_s : Spec := fun ds Q => ∀ b : Bool, (b = true ↔ fitP (argI ds 0) (argI ds 3) (argI ds 5)) → Q [.bool b]
def rcheck_s : Spec := fun ds Q => 0 ≤ argI ds 5 ∧ argI ds 5 ≤ 5 ∧ 1 ≤ argI ds 6 ∧ argI ds 6 ≤ 9 ∧ (argE ds).size ≤ 1000 ∧ Q [.int .i64 ((argE ds).chk (argI ds 5) (argI ds 6))]
def k_eCheck : Nat := 18
def sg_eCheck : Sig := ⟨[(true, List.replicate 4 (.int .i64) ++ [.list 24]), (false, [.int .i64])], [(false, [.err])], false, false, false, false, false⟩
def tr_eCheck : Tree := (.ite (.cmp .lt (.var 5) (.int .i64 0))
 (.ret [(.ifc (.int .i64 6))])
 (.ite (.cmp .ge (.var 5) (.int .i64 6))
  (.ret [(.ifc (.int .i64 6))])
  (.call k_echeck [(.var 0), (.var 1), (.var 2), (.var 3), (.var 4), (.var 5), (.int .i64 1)] [.err]
  (.ret [(.var 6)]))))
theorem wk_eCheck : walk E0.cx (sgsN [(28, sg_echeck)]) 0 18 sg_eCheck = tr_eCheck := by kernel_rfl
theorem bo_eCheck : ∃ x, bodyOf E0.P 18 = some x := bo_of (by kernel_rfl)
theorem sp_eCheck_echeck : specC [con_echeck] k_echeck = echeck_s := rfl
def eCheck_s : Spec := fun ds Q => Q [errV (if argI ds 5 < 0 ∨ 5 < argI ds 5 then 6 else (argE ds).chk (argI ds 5) 1)]
theorem eCheck_h : Holds E0 k_eCheck sg_eCheck eCheck_s := con_fn wf0 mix0 g0 [con_echeck] rfl wk_eCheck rfl (by
  intro Φ hΦ ds Q hs h
  have hl : ds.length = 6 := hs.length.symm
  have sp : Φ k_echeck = echeck_s := by rw [hΦ]; rfl
  clear hΦ
  have hv5 : ds.getD 5 (.bool false) = .int .i64 (argI ds 5) := argV (all2_get hs (i := 5) rfl)
  unfold eCheck_s at h
  simp only [tr_eCheck, wp, den_int, den_bool, den_nili, den_ar, den_cmp, den_not, den_len, den_elem, den_isnil, den_errI, den_ifc, den_rep, den_push, den_app, den_emp, den_upd, row0_econs, row0_enil, den_and, den_beq, den_nil, toInt_int, toBool_bool, xs_rows, xs_list, dflt_int, dflt_bool, of_eq, of_ne, of_lt, of_le, of_gt, of_ge, of_add, of_sub, of_rem, List.map_cons, List.map_nil, Dat.bool.injEq, decide_eq_true_eq, decide_eq_false_iff_not, Bool.not_eq_true', Bool.not_eq_false', beq_iff_eq, bne_iff_ne, beq_eq_false_iff_ne, bne_eq_false_iff_eq, ne_eq, List.append_assoc, List.cons_append, List.nil_append, allS, sp, echeck_s, @den_var0 E0.Δ ds, den_varA, den_varB, hl, Nat.reduceLT, Nat.reduceLeDiff, Nat.reduceSub, List.getD_cons_zero, List.getD_cons_succ, argL_fold ds, argI_fold ds, List.append_assoc, List.cons_append, List.nil_append, toInt_int, toBool_bool, xs_rows, xs_list, Int.toNat_natCast, Dat.bool.injEq, argI_c0, argI_c1]
  refine ⟨fun h1 => ?_, fun h1 => ⟨fun h2 => ?_, fun h2 => ?_⟩⟩
  · rw [if_pos (by omega)] at h; exact h
  · rw [if_pos (by omega)] at h; exact h
  · rw [if_neg (by omega)] at h
    refine ⟨by omega, by omega, by omega, by omega, ?_⟩
    have e : argE [ds.getD 0 (.bool false), ds.getD 1 (.bool false), ds.getD 2 (.bool false), ds.getD 3 (.bool false), ds.getD 4 (.bool false), ds.getD 5 (.bool false), .int .i64 1] = argE ds := by
      match ds, hl with
      | [_, _, _, _, _, _], _ => rfl
    rw [e]; exact h)
noncomputable def con_eCheck : Con E0 := ⟨k_eCheck, sg_eCheck, eCheck_s, rfl, bo_eCheck, eCheck_h⟩
-- lacks mulligan/mulliganref06.Check : rCheck6
def rCheck6_s : Spec := fun ds Q => (argE ds).size ≤ 1000 ∧ Q [.int .i64 (if argI ds 5 < 0 ∨ 5 < argI ds 5 then 6 else (argE ds).chk (argI ds 5) 1)]
end Go.Proofs.Ytccdlmiemelifaa
end

section
namespace Go.Proofs.Ytccdlmiemelifaa
open Go.RowKit
set_option linter.unusedVariables false
set_option linter.unusedSimpArgs false

-- lacks mulligan/effect.Size : eSize
def eSize_s : Spec := fun ds Q => (argE ds).size ≤ 1000 ∧ Q [.int .i64 (argE ds).size]
theorem ite_max (a b : Nat) : (if decide ((b : Int) < (a : Int)) = true then Dat.int .i64 (a : Int) else .int .i64 (b : Int)) = .int .i64 ((max b a : Nat) : Int) := by
  by_cases h : b < a
  · rw [if_pos (by simpa using h), Nat.max_eq_right (by omega)]
  · rw [if_neg (by simpa using h), Nat.max_eq_left (by omega)]
-- lacks mulligan/effect.Depth : eDepth
def eDepth_s : Spec := fun ds Q => (argE ds).size ≤ 1000 ∧ Q [.int .i64 (argE ds).depth]
theorem hass_take {o : Int} {l : List (List Dat)} {i : Nat} (h : i < l.length) : Eff.hass o ((l.take (i + 1)).map effOf) = (Eff.hass o ((l.take i).map effOf) || (effOf (l.getD i [])).has o) := by
  rw [take_succ_getD (d := ([] : List Dat)) h, List.map_append, Eff.hass_append]
  simp [Eff.hass]
theorem hass_true {o : Int} {l : List (List Dat)} {i : Nat} (h : i < l.length) (h2 : (effOf (l.getD i [])).has o = true) : Eff.hass o (l.map effOf) = true := by
  rw [← List.take_append_drop (i + 1) l, List.map_append, Eff.hass_append, hass_take h, h2]; simp
-- lacks mulligan/effect.Has : eHas
def eHas_s : Spec := fun ds Q => (argE ds).size ≤ 1000 ∧ Q [.bool ((argE ds).has (argI ds 5))]
def rHas_s : Spec := fun ds Q => (argE ds).size ≤ 1000 ∧ Q [.bool ((argE ds).has (argI ds 5))]
def rSize_s : Spec := fun ds Q => (argE ds).size ≤ 1000 ∧ Q [.int .i64 (argE ds).size, .int .i64 (argE ds).depth]
end Go.Proofs.Ytccdlmiemelifaa
end

section
namespace Go.Proofs.Ytccdlmiemelifaa
open Go.RowKit
set_option linter.unusedVariables false
set_option linter.unusedSimpArgs false

theorem argE_lit {op n m who : Int} {v : Value} {sz : Nat} {e : List Dat} : argE (.int .i64 op :: .int .i64 n :: .int .i64 m :: .int .i64 who :: .list v sz [] :: e) = .mk op n m who [] := by
  have h := argE_row (r := [.int .i64 op, .int .i64 n, .int .i64 m, .int .i64 who, .list v sz []]) (e := e) rfl
  refine h.trans ?_
  rw [effOf_eq]; rfl
def k_alive : Nat := 5
def sg_alive : Sig := ⟨[], [(false, [.bool])], false, false, false, false, false⟩
def tr_alive : Tree := (.call k_eCheck [(.int .i64 1), (.int .i64 3), (.int .i64 0), (.int .i64 2), (.nil 24), (.int .i64 3)] [.err]
(.ite (.isnil (.var 0))
 (.call k_eCheck [(.int .i64 1), (.int .i64 3), (.int .i64 0), (.int .i64 2), (.nil 24), (.int .i64 0)] [.err]
 (.call k_Is [(.var 1), (.int .i64 11)] [.bool]
 (.ret [(.var 2)])))
 (.ret [(.bool false)])))
theorem wk_alive : walk E0.cx (sgsN [(18, sg_eCheck), (19, sg_Is)]) 0 5 sg_alive = tr_alive := by kernel_rfl
theorem bo_alive : ∃ x, bodyOf E0.P 5 = some x := bo_of (by kernel_rfl)
theorem sp_alive_eCheck : specC [con_eCheck, con_Is] k_eCheck = eCheck_s := rfl
theorem sp_alive_Is : specC [con_eCheck, con_Is] k_Is = Is_s := rfl
def alive_s : Spec := fun ds Q => Q [.bool true]
theorem alive_h : Holds E0 k_alive sg_alive alive_s := con_fn wf0 mix0 g0 [con_eCheck, con_Is] rfl wk_alive rfl (by
  intro Φ hΦ ds Q hs h
  have sp : Φ k_eCheck = eCheck_s := by rw [hΦ]; rfl
  have sp2 : Φ k_Is = Is_s := by rw [hΦ]; rfl
  clear hΦ
  have e1 : Eff.chk 3 1 (.mk 1 3 0 2 []) = 0 := by decide +kernel
  have e2 : Eff.chk 0 1 (.mk 1 3 0 2 []) = 11 := by decide +kernel
  simp only [tr_alive, wp, allS, den_nil, sp, eCheck_s, List.map_cons, List.map_nil, den_int, argE_lit, argI_c0, argI_c1, toInt_int, Int.reduceLT, if_false, or_self, e1, e2, errV_0, den_isnil, den_bool]
  simp only [den, errV_0, isNilI, Dat.bool.injEq, Bool.true_eq_false, true_imp_iff, false_imp_iff, and_true, sp2, Is_s]
  obtain rfl := List.length_eq_zero_iff.1 (show ds.length = 0 from hs.length.symm)
  exact ⟨fun _ => ⟨11, 11, rfl, h⟩, fun hx => Bool.noConfusion hx⟩)
noncomputable def con_alive : Con E0 := ⟨k_alive, sg_alive, alive_s, rfl, bo_alive, alive_h⟩
-- lacks mulligan/mulliganlaw06.EffectChecks : lchecks6
end Go.Proofs.Ytccdlmiemelifaa
end

section
namespace Go.Proofs.Ytccdlmiemelifaa.mth

/-- what stands for a number -/
def zig (n : Int) : Nat := if 0 ≤ n then (2 * n).toNat else (-2 * n - 1).toNat

/-- a number's bytes: seven bits each, the lowest first; f: how many may follow -/
def encF : Nat → Nat → List Nat
  | 0, x => [x]
  | f + 1, x => if x < 128 then [x] else (x % 128 + 128) :: encF f (x / 128)
def enc (x : Nat) : List Nat := encF 9 x
def encI (n : Int) : List Nat := enc (zig n)

theorem encF_small (f x : Nat) (h : x < 128) : encF f x = [x] := by
  cases f with
  | zero => rfl
  | succ f => simp [encF, h]
theorem encF_step (f x : Nat) (h : ¬ x < 128) : encF (f + 1) x = (x % 128 + 128) :: encF f (x / 128) := by simp [encF, h]

theorem zig_lt (n : Int) (h1 : -9223372036854775808 ≤ n) (h2 : n ≤ 9223372036854775807) : zig n < 18446744073709551616 := by
  unfold zig; split <;> omega

theorem encF_len (f : Nat) : ∀ x, 1 ≤ (encF f x).length ∧ (encF f x).length ≤ f + 1 := by
  induction f with
  | zero => intro x; simp [encF]
  | succ f ih =>
    intro x
    by_cases h : x < 128
    · rw [encF_small _ _ h]; simp
    · rw [encF_step _ _ h, List.length_cons]; have := ih (x / 128); omega
theorem enc_len (x : Nat) : 1 ≤ (enc x).length ∧ (enc x).length ≤ 10 := encF_len 9 x

theorem encF_byte (f : Nat) : ∀ x, x < 128 ^ (f + 1) → ∀ b ∈ encF f x, b < 256 := by
  induction f with
  | zero => intro x hx b hb; simp [encF] at hb; subst hb; omega
  | succ f ih =>
    intro x hx b hb
    by_cases h : x < 128
    · rw [encF_small _ _ h] at hb; simp at hb; omega
    · rw [encF_step _ _ h] at hb
      rcases List.mem_cons.1 hb with e | e
      · omega
      · refine ih (x / 128) ?_ b e
        rw [Nat.pow_succ] at hx
        exact (Nat.div_lt_iff_lt_mul (by omega)).2 hx

/-- where the loop stands: k bytes are out, y is left -/
structure Going (X k y : Nat) (done : List Nat) : Prop where
  hk : k ≤ 9
  len : done.length = k
  lt : y < 128 ^ (10 - k)
  all : done ++ encF (9 - k) y = enc X
  le : y ≤ X

theorem going_start (X : Nat) (hX : X < 18446744073709551616) : Going X 0 X [] :=
  ⟨by omega, rfl, Nat.lt_of_lt_of_le hX (by decide), rfl, Nat.le_refl _⟩
theorem going_step {X k y : Nat} {done : List Nat} (h : Going X k y done) (hy : ¬ y < 128) : Going X (k + 1) (y / 128) (done ++ [y % 128 + 128]) := by
  obtain ⟨hk, hl, hlt, ha, hle⟩ := h
  have h9 : k < 9 := by
    apply Classical.byContradiction
    intro h
    have : k = 9 := by omega
    subst this
    omega
  refine ⟨by omega, by simp [hl], ?_, ?_, Nat.le_trans (Nat.div_le_self _ _) hle⟩
  · rw [show 10 - k = (10 - (k + 1)) + 1 from by omega, Nat.pow_succ] at hlt
    exact (Nat.div_lt_iff_lt_mul (by omega)).2 hlt
  · rw [show 9 - k = (9 - (k + 1)) + 1 from by omega, encF_step _ _ hy] at ha
    rw [← ha]; simp
theorem going_end {X k y : Nat} {done : List Nat} (h : Going X k y done) (hy : y < 128) : done ++ [y] = enc X ∧ k + 1 = (enc X).length := by
  have : done ++ [y] = enc X := by rw [← encF_small (9 - k) y hy]; exact h.all
  exact ⟨this, by rw [← this]; simp [h.len]⟩

/-- a list's bytes -/
def encAll : List Int → List Nat
  | [] => []
  | n :: l => encI n ++ encAll l
def encL (l : List Int) : List Nat := encI (l.length : Int) ++ encAll l
theorem encAll_append (a b : List Int) : encAll (a ++ b) = encAll a ++ encAll b := by
  induction a with
  | nil => rfl
  | cons n a ih => simp [encAll, ih]
theorem encAll_len (l : List Int) : (encAll l).length ≤ 10 * l.length := by
  induction l with
  | nil => simp [encAll]
  | cons n l ih => have := (enc_len (zig n)).2; simp only [encAll, encI, List.length_append, List.length_cons]; omega

theorem or128 (y : Nat) : (y % 256) ||| 128 = y % 128 + 128 := by
  have h : y % 256 < 256 := Nat.mod_lt _ (by omega)
  have e : y % 128 = y % 256 % 128 := by omega
  rw [e]
  generalize y % 256 = b at *
  have : ∀ b, b < 256 → b ||| 128 = b % 128 + 128 := by decide +kernel
  exact this b h

end Go.Proofs.Ytccdlmiemelifaa.mth
end
