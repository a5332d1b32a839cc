/-
  Which two effects are the same: program and checker.
-/
import Derived.Test.YtiolgkmfjcdbiaaEffD
namespace Go.Proofs.Ytiolgkmfjcdbiaa
open Go.RowKit
set_option linter.unusedVariables false
set_option linter.unusedSimpArgs false

theorem Eff.eq_iff (a b : Eff) : a = b ↔ a.op = b.op ∧ a.n = b.n ∧ a.m = b.m ∧ a.who = b.who ∧ a.subs = b.subs := by
  cases a; cases b
  simp [Eff.op, Eff.n, Eff.m, Eff.who, Eff.subs]
theorem fold10 {r s : List Dat} (h : r.length = 5) (h' : s.length = 5) (a b c d e a' b' c' d' e' : Dat) : [r.getD 0 a, r.getD 1 b, r.getD 2 c, r.getD 3 d, r.getD 4 e, s.getD 0 a', s.getD 1 b', s.getD 2 c', s.getD 3 d', s.getD 4 e'] = r ++ s := by
  match r, s, h, h' with
  | [_, _, _, _, _], [_, _, _, _, _], _, _ => rfl
/-- the second effect of a call's arguments -/
def argE2 (ds : List Dat) : Eff := argE (ds.drop 5)
theorem argE2_row {r s : List Dat} (h : r.length = 5) (h' : s.length = 5) : argE2 (r ++ s) = effOf s := by
  rw [argE2, List.drop_append_of_le_length (by omega), List.drop_of_length_le (by omega), List.nil_append, argE_row0 h']
theorem argI_drop (ds : List Dat) (k i : Nat) : argI (ds.drop k) i = argI ds (k + i) := by
  simp [argI, List.getD_eq_getElem?_getD, List.getElem?_drop]
theorem argL_drop (ds : List Dat) (k i : Nat) : argL (ds.drop k) i = argL ds (k + i) := by
  simp [argL, List.getD_eq_getElem?_getD, List.getElem?_drop]
theorem eff_eq (ds : List Dat) : argE ds = argE2 ds ↔ argI ds 0 = argI ds 5 ∧ argI ds 1 = argI ds 6 ∧ argI ds 2 = argI ds 7 ∧ argI ds 3 = argI ds 8 ∧ (argL ds 4).map effOf = (argL ds 9).map effOf := by
  rw [Eff.eq_iff, argE2, argE_opI, argE_n, argE_m, argE_who, argE_subs, argE_opI, argE_n, argE_m, argE_who, argE_subs, argI_drop, argI_drop, argI_drop, argI_drop, argL_drop]
def eqE_s : Spec := fun ds Q => (argE ds).size ≤ 1000 ∧ ∀ b : Bool, (b = true ↔ argE ds = argE2 ds) → Q [.bool b]
theorem map_take_succ {l : List (List Dat)} {i : Nat} (h : i < l.length) : (l.take (i + 1)).map effOf = (l.take i).map effOf ++ [effOf (l.getD i [])] := by
  rw [take_succ_getD (d := ([] : List Dat)) h, List.map_append]; rfl
theorem take_of_map {l m : List (List Dat)} (h : l.map effOf = m.map effOf) (i : Nat) : (l.take i).map effOf = (m.take i).map effOf := by
  rw [List.map_take, List.map_take, h]
def k_numEffects : Nat := 34
def sg_numEffects : Sig := ⟨[(true, List.replicate 4 (.int .i64) ++ [.list 36]), (true, List.replicate 4 (.int .i64) ++ [.list 36])], [(false, [.bool])], false, false, true⟩
def tr_numEffects : Tree := (.ite (.or (.cmp .ne (.var 0) (.var 5)) (.or (.cmp .ne (.var 1) (.var 6)) (.or (.cmp .ne (.var 2) (.var 7)) (.or (.cmp .ne (.var 3) (.var 8)) (.cmp .ne (.len (.var 4)) (.len (.var 9)))))))
 (.ret [(.bool false)])
 (.loop [(.bool false), (.int .i64 0)] [.bool, (.int .i64)]
  (.ite (.cmp .lt (.var 11) (.len (.var 4)))
   (.ob (.cmp .ge (.var 11) (.int .i64 0))
   (.ob (.cmp .ge (.var 11) (.int .i64 0))
   (.ob (.cmp .lt (.var 11) (.len (.var 9)))
   (.call k_numEffects [(.elem (.var 4) (.var 11) 0 (.int .i64)), (.elem (.var 4) (.var 11) 1 (.int .i64)), (.elem (.var 4) (.var 11) 2 (.int .i64)), (.elem (.var 4) (.var 11) 3 (.int .i64)), (.elem (.var 4) (.var 11) 4 (.list 36)), (.elem (.var 9) (.var 11) 0 (.int .i64)), (.elem (.var 9) (.var 11) 1 (.int .i64)), (.elem (.var 9) (.var 11) 2 (.int .i64)), (.elem (.var 9) (.var 11) 3 (.int .i64)), (.elem (.var 9) (.var 11) 4 (.list 36))] [.bool]
   (.ite (.not (.var 12))
    (.ret [(.bool false)])
    (.again 0 [(.var 10), (.ar .add .i64 (.var 11) (.int .i64 1))]))))))
   (.ret [(.bool true)]))))
theorem wk_numEffects : walk E0.cx (sgsN [(34, sg_numEffects)]) 0 34 sg_numEffects = tr_numEffects := by kernel_rfl
theorem bo_numEffects : ∃ x, bodyOf E0.P 34 = some x := bo_of (by kernel_rfl)
theorem numEffects_h : Holds E0 k_numEffects sg_numEffects eqE_s := holds_rec mE fun n ih => con_fn wf0 mix0 g0 [⟨_, _, _, rfl, bo_numEffects, ih⟩] rfl wk_numEffects rfl (by
  intro Φ hΦ ds Q hs ⟨hm, hsz, h⟩
  have hl : ds.length = 10 := hs.length.symm
  have sp : Φ k_numEffects = (fun ds Q => mE ds < n ∧ eqE_s ds Q) := by rw [hΦ]; rfl
  clear hΦ
  have hrow := eff_len (all2_get hs (i := 4) rfl)
  have hrow2 := eff_len (all2_get hs (i := 9) rfl)
  rw [argL_fold] at hrow hrow2
  have hsub := argE_subs ds
  have hlen := Eff.length_le_sizes ((argL ds 4).map effOf)
  rw [List.length_map] at hlen
  rw [mE] at hm
  rw [Eff.size_eq, hsub] at hm hsz
  rw [eff_eq] at h
  simp only [tr_numEffects, wp, den_int, den_bool, den_nili, den_ar, den_cmp, den_not, den_len, den_elem, den_isnil, den_errI, den_ifc, den_rep, den_push, den_app, den_emp, den_upd, row0_econs, row0_enil, den_and, den_beq, den_nil, toInt_int, toBool_bool, xs_rows, xs_list, dflt_int, dflt_bool, of_eq, of_ne, of_lt, of_le, of_gt, of_ge, of_add, of_sub, of_rem, List.map_cons, List.map_nil, Dat.bool.injEq, decide_eq_true_eq, decide_eq_false_iff_not, Bool.not_eq_true', Bool.not_eq_false', beq_iff_eq, bne_iff_ne, beq_eq_false_iff_ne, bne_eq_false_iff_eq, ne_eq, List.append_assoc, List.cons_append, List.nil_append, allS, sp, eqE_s, den_or, @den_var0 E0.Δ ds, den_varA, den_varB, hl, Nat.reduceLT, Nat.reduceLeDiff, Nat.reduceSub, List.getD_cons_zero, List.getD_cons_succ, argL_fold ds, argI_fold ds, List.append_assoc, List.cons_append, List.nil_append, toInt_int, toBool_bool, xs_rows, xs_list, Int.toNat_natCast, Dat.bool.injEq]
  refine ⟨fun h1 => h _ ?_, fun h1 => ?_⟩
  · simp only [Bool.or_eq_true, bne_iff_ne, ne_eq] at h1
    simp only [Bool.false_eq_true, false_iff]
    rintro ⟨p1, p2, p3, p4, p5⟩
    have := congrArg List.length p5
    simp only [List.length_map] at this
    omega
  simp only [Bool.or_eq_false_iff, bne_eq_false_iff_eq] at h1
  obtain ⟨p1, p2, p3, p4, p5⟩ := h1
  have hll : (argL ds 4).length = (argL ds 9).length := by omega
  refine ⟨fun xs m => ∃ (i : Nat) (b : Bool), xs = [.bool b, .int .i64 (i : Int)] ∧ i ≤ (argL ds 4).length ∧ m = (argL ds 4).length - i ∧ ((argL ds 4).take i).map effOf = ((argL ds 9).take i).map effOf, ⟨_, 0, _, rfl, by omega, rfl, by simp⟩, ?_⟩
  rintro b i' m ⟨i, _, e, hi, hmi, hsame⟩
  cases e
  refine ⟨fun hlt => ⟨by omega, by omega, by omega, ?_⟩, fun hge => ?_⟩
  · have hi2 : i < (argL ds 4).length := by omega
    have hi3 : i < (argL ds 9).length := by omega
    have hr := hrow _ (getD_memL (d := []) hi2)
    have hr2 := hrow2 _ (getD_memL (d := []) hi3)
    have hle : (effOf ((argL ds 4).getD i [])).size ≤ Eff.sizes ((argL ds 4).map effOf) := Eff.size_le_sizes (List.mem_map.2 ⟨_, getD_memL hi2, rfl⟩)
    simp only [Int.toNat_natCast, fold10 hr hr2, mE]
    simp only [argE_row hr, argE2_row hr hr2]
    refine ⟨by omega, by omega, fun v hv => ⟨fun hf => h _ ?_, fun ht => ?_⟩⟩
    · simp only [Bool.false_eq_true, false_iff]
      rintro ⟨_, _, _, _, p6⟩
      have := take_of_map p6 (i + 1)
      rw [map_take_succ hi2, map_take_succ hi3, hsame] at this
      have hq := List.append_cancel_left this
      have hv2 : v = true := hv.2 (List.cons.inj hq).1
      have hf2 : v = false := hf
      rw [hv2] at hf2; cases hf2
    · refine ⟨(argL ds 4).length - (i + 1), by omega, i + 1, b, ?_, by omega, rfl, ?_⟩
      · rw [wrap64 (by omega) (by omega)]; rfl
      · rw [map_take_succ hi2, map_take_succ hi3, hsame, hv.1 ht]
  · have hkk : i = (argL ds 4).length := by omega
    rw [List.take_of_length_le (by omega), List.take_of_length_le (by omega)] at hsame
    refine h _ ?_
    simp only [true_iff]
    exact ⟨p1, p2, p3, p4, hsame⟩)
def numEffects_s : Spec := eqE_s
noncomputable def con_numEffects : Con E0 := ⟨k_numEffects, sg_numEffects, numEffects_s, rfl, bo_numEffects, numEffects_h⟩
def k_effSame : Nat := 46
def sg_effSame : Sig := ⟨[(true, List.replicate 4 (.int .i64) ++ [.list 36]), (true, List.replicate 4 (.int .i64) ++ [.list 36])], [(false, [.bool])], false, false, false⟩
def tr_effSame : Tree := (.ite (.cmp .eq (.var 0) (.var 5))
 (.ite (.cmp .eq (.var 1) (.var 6))
  (.ite (.cmp .eq (.var 2) (.var 7))
   (.ite (.cmp .eq (.var 3) (.var 8))
    (.ite (.cmp .ne (.len (.var 4)) (.len (.var 9)))
     (.ret [(.bool false)])
     (.loop [(.bool false), (.int .i64 0)] [.bool, (.int .i64)]
      (.ite (.cmp .lt (.var 11) (.len (.var 4)))
       (.ob (.cmp .ge (.var 11) (.int .i64 0))
       (.ob (.cmp .ge (.var 11) (.int .i64 0))
       (.ob (.cmp .lt (.var 11) (.len (.var 9)))
       (.call k_effSame [(.elem (.var 4) (.var 11) 0 (.int .i64)), (.elem (.var 4) (.var 11) 1 (.int .i64)), (.elem (.var 4) (.var 11) 2 (.int .i64)), (.elem (.var 4) (.var 11) 3 (.int .i64)), (.elem (.var 4) (.var 11) 4 (.list 36)), (.elem (.var 9) (.var 11) 0 (.int .i64)), (.elem (.var 9) (.var 11) 1 (.int .i64)), (.elem (.var 9) (.var 11) 2 (.int .i64)), (.elem (.var 9) (.var 11) 3 (.int .i64)), (.elem (.var 9) (.var 11) 4 (.list 36))] [.bool]
       (.ite (.not (.var 12))
        (.ret [(.bool false)])
        (.again 0 [(.var 10), (.ar .add .i64 (.var 11) (.int .i64 1))]))))))
       (.ret [(.bool true)]))))
    (.ret [(.bool false)]))
   (.ret [(.bool false)]))
  (.ret [(.bool false)]))
 (.ret [(.bool false)]))
theorem wk_effSame : walk E0.cx (sgsN [(46, sg_effSame)]) 0 46 sg_effSame = tr_effSame := by kernel_rfl
theorem bo_effSame : ∃ x, bodyOf E0.P 46 = some x := bo_of (by kernel_rfl)
def effSame_s : Spec := eqE_s
theorem effSame_h : Holds E0 k_effSame sg_effSame effSame_s := holds_rec mE fun n ih => con_fn wf0 mix0 g0 [⟨_, _, _, rfl, bo_effSame, ih⟩] rfl wk_effSame rfl (by
  intro Φ hΦ ds Q hs ⟨hm, hsz, h⟩
  have hl : ds.length = 10 := hs.length.symm
  have sp : Φ k_effSame = (fun ds Q => mE ds < n ∧ effSame_s ds Q) := by rw [hΦ]; rfl
  clear hΦ
  have hrow := eff_len (all2_get hs (i := 4) rfl)
  have hrow2 := eff_len (all2_get hs (i := 9) rfl)
  rw [argL_fold] at hrow hrow2
  have hsub := argE_subs ds
  have hlen := Eff.length_le_sizes ((argL ds 4).map effOf)
  rw [List.length_map] at hlen
  rw [mE] at hm
  rw [Eff.size_eq, hsub] at hm hsz
  rw [eff_eq] at h
  simp only [tr_effSame, wp, den_int, den_bool, den_nili, den_ar, den_cmp, den_not, den_len, den_elem, den_isnil, den_errI, den_ifc, den_rep, den_push, den_app, den_emp, den_upd, row0_econs, row0_enil, den_and, den_beq, den_nil, toInt_int, toBool_bool, xs_rows, xs_list, dflt_int, dflt_bool, of_eq, of_ne, of_lt, of_le, of_gt, of_ge, of_add, of_sub, of_rem, List.map_cons, List.map_nil, Dat.bool.injEq, decide_eq_true_eq, decide_eq_false_iff_not, Bool.not_eq_true', Bool.not_eq_false', beq_iff_eq, bne_iff_ne, beq_eq_false_iff_ne, bne_eq_false_iff_eq, ne_eq, List.append_assoc, List.cons_append, List.nil_append, allS, sp, effSame_s, eqE_s, @den_var0 E0.Δ ds, den_varA, den_varB, hl, Nat.reduceLT, Nat.reduceLeDiff, Nat.reduceSub, List.getD_cons_zero, List.getD_cons_succ, argL_fold ds, argI_fold ds, List.append_assoc, List.cons_append, List.nil_append, toInt_int, toBool_bool, xs_rows, xs_list, Int.toNat_natCast, Dat.bool.injEq]
  have no : ¬ (argI ds 0 = argI ds 5 ∧ argI ds 1 = argI ds 6 ∧ argI ds 2 = argI ds 7 ∧ argI ds 3 = argI ds 8 ∧ (argL ds 4).map effOf = (argL ds 9).map effOf) → Q [.bool false] := fun hx => h _ (by simp only [Bool.false_eq_true, false_iff]; exact hx)
  refine ⟨fun p1 => ⟨fun p2 => ⟨fun p3 => ⟨fun p4 => ⟨fun p5 => ?_, fun p5 => ?_⟩, fun p4 => ?_⟩, fun p3 => ?_⟩, fun p2 => ?_⟩, fun p1 => ?_⟩
  · refine no fun hx => p5 ?_
    have := congrArg List.length hx.2.2.2.2
    simp only [List.length_map] at this
    omega
  · have hll : (argL ds 4).length = (argL ds 9).length := by omega
    refine ⟨fun xs m => ∃ (i : Nat) (b : Bool), xs = [.bool b, .int .i64 (i : Int)] ∧ i ≤ (argL ds 4).length ∧ m = (argL ds 4).length - i ∧ ((argL ds 4).take i).map effOf = ((argL ds 9).take i).map effOf, ⟨_, 0, _, rfl, by omega, rfl, by simp⟩, ?_⟩
    rintro b i' m ⟨i, _, e, hi, hmi, hsame⟩
    cases e
    refine ⟨fun hlt => ⟨by omega, by omega, by omega, ?_⟩, fun hge => ?_⟩
    · have hi2 : i < (argL ds 4).length := by omega
      have hi3 : i < (argL ds 9).length := by omega
      have hr := hrow _ (getD_memL (d := []) hi2)
      have hr2 := hrow2 _ (getD_memL (d := []) hi3)
      have hle : (effOf ((argL ds 4).getD i [])).size ≤ Eff.sizes ((argL ds 4).map effOf) := Eff.size_le_sizes (List.mem_map.2 ⟨_, getD_memL hi2, rfl⟩)
      simp only [Int.toNat_natCast, fold10 hr hr2, mE]
      simp only [argE_row hr, argE2_row hr hr2]
      refine ⟨by omega, by omega, fun v hv => ⟨fun hf => no ?_, fun ht => ?_⟩⟩
      · rintro ⟨_, _, _, _, p6⟩
        have := take_of_map p6 (i + 1)
        rw [map_take_succ hi2, map_take_succ hi3, hsame] at this
        have hq := List.append_cancel_left this
        have hv2 : v = true := hv.2 (List.cons.inj hq).1
        have hf2 : v = false := hf
        rw [hv2] at hf2; cases hf2
      · refine ⟨(argL ds 4).length - (i + 1), by omega, i + 1, b, ?_, by omega, rfl, ?_⟩
        · rw [wrap64 (by omega) (by omega)]; rfl
        · rw [map_take_succ hi2, map_take_succ hi3, hsame, hv.1 ht]
    · have hkk : i = (argL ds 4).length := by omega
      rw [List.take_of_length_le (by omega), List.take_of_length_le (by omega)] at hsame
      refine h _ ?_
      simp only [true_iff]
      exact ⟨p1, p2, p3, p4, hsame⟩
  · exact no fun hx => p4 hx.2.2.2.1
  · exact no fun hx => p3 hx.2.2.1
  · exact no fun hx => p2 hx.2.1
  · exact no fun hx => p1 hx.1)
noncomputable def con_effSame : Con E0 := ⟨k_effSame, sg_effSame, effSame_s, rfl, bo_effSame, effSame_h⟩
end Go.Proofs.Ytiolgkmfjcdbiaa
