/-
  How many effects there are, how deep, and which are within: program and document.
-/
import Derived.Test.YtkilkcgnfhlfiaaEffA
namespace Go.Proofs.Ytkilkcgnfhlfiaa
open Go.RowKit
set_option linter.unusedVariables false
set_option linter.unusedSimpArgs false

def k_eSize : Nat := 13
def sg_eSize : Sig := ⟨[(true, List.replicate 4 (.int .i64) ++ [.list 24])], [(false, [.int .i64])], false, false, false⟩
def tr_eSize : Tree := (.loop [(.int .i64 1), (.int .i64 0)] [(.int .i64), (.int .i64)]
 (.ite (.cmp .lt (.var 6) (.len (.var 4)))
  (.ob (.cmp .ge (.var 6) (.int .i64 0))
  (.call k_eSize [(.elem (.var 4) (.var 6) 0 (.int .i64)), (.elem (.var 4) (.var 6) 1 (.int .i64)), (.elem (.var 4) (.var 6) 2 (.int .i64)), (.elem (.var 4) (.var 6) 3 (.int .i64)), (.elem (.var 4) (.var 6) 4 (.list 24))] [(.int .i64)]
  (.again 0 [(.ar .add .i64 (.var 5) (.var 7)), (.ar .add .i64 (.var 6) (.int .i64 1))])))
  (.ret [(.var 5)])))
theorem wk_eSize : walk E0.cx (sgsN [(13, sg_eSize)]) 0 13 sg_eSize = tr_eSize := by kernel_rfl
theorem bo_eSize : ∃ x, bodyOf E0.P 13 = some x := bo_of (by kernel_rfl)
def eSize_s : Spec := fun ds Q => (argE ds).size ≤ 1000 ∧ Q [.int .i64 (argE ds).size]
theorem eSize_h : Holds E0 k_eSize sg_eSize eSize_s := holds_rec mE fun n ih => con_fn wf0 mix0 g0 [⟨_, _, _, rfl, bo_eSize, ih⟩] rfl wk_eSize rfl (by
  intro Φ hΦ ds Q hs ⟨hm, hsz, h⟩
  have hl : ds.length = 5 := hs.length.symm
  have sp : Φ k_eSize = (fun ds Q => mE ds < n ∧ eSize_s ds Q) := by rw [hΦ]; rfl
  clear hΦ
  have hrow := eff_len (all2_get hs (i := 4) rfl)
  rw [argL_fold] at hrow
  have hsub := argE_subs ds
  have hlen := Eff.length_le_sizes ((argL ds 4).map effOf)
  rw [List.length_map] at hlen
  rw [mE] at hm
  rw [Eff.size_eq, hsub] at hm hsz h
  simp only [tr_eSize, wp, den_int, den_bool, den_nili, den_ar, den_cmp, den_not, den_len, den_elem, den_isnil, den_errI, den_ifc, den_rep, den_push, den_app, den_emp, den_upd, row0_econs, row0_enil, den_and, den_beq, den_nil, toInt_int, toBool_bool, xs_rows, xs_list, dflt_int, dflt_bool, of_eq, of_ne, of_lt, of_le, of_gt, of_ge, of_add, of_sub, of_rem, List.map_cons, List.map_nil, Dat.bool.injEq, decide_eq_true_eq, decide_eq_false_iff_not, Bool.not_eq_true', Bool.not_eq_false', beq_iff_eq, bne_iff_ne, beq_eq_false_iff_ne, bne_eq_false_iff_eq, ne_eq, List.append_assoc, List.cons_append, List.nil_append, allS, sp, eSize_s, @den_var0 E0.Δ ds, den_varA, den_varB, hl, Nat.reduceLT, Nat.reduceLeDiff, Nat.reduceSub, List.getD_cons_zero, List.getD_cons_succ, argL_fold ds, argI_fold ds, List.append_assoc, List.cons_append, List.nil_append, toInt_int, toBool_bool, xs_rows, xs_list, Int.toNat_natCast, Dat.bool.injEq]
  refine ⟨fun xs m => ∃ i : Nat, i ≤ (argL ds 4).length ∧ m = (argL ds 4).length - i ∧ xs = [.int .i64 ((1 + Eff.sizes (((argL ds 4).take i).map effOf) : Nat) : Int), .int .i64 i], ⟨_, 0, by omega, rfl, by simp [Eff.sizes]⟩, ?_⟩
  rintro s i' m ⟨i, hi, hmi, e⟩
  cases e
  refine ⟨fun hlt => ⟨by omega, ?_⟩, fun hge => ?_⟩
  · have hi2 : i < (argL ds 4).length := by omega
    have hr := hrow _ (getD_memL (d := []) hi2)
    have ht := take_succ_getD (d := ([] : List Dat)) hi2
    have hle : (effOf ((argL ds 4).getD i [])).size ≤ Eff.sizes ((argL ds 4).map effOf) := Eff.size_le_sizes (List.mem_map.2 ⟨_, getD_memL hi2, rfl⟩)
    have hall : Eff.sizes (((argL ds 4).take (i + 1)).map effOf) ≤ Eff.sizes ((argL ds 4).map effOf) := Eff.sizes_take _ _
    rw [ht, List.map_append, Eff.sizes_append] at hall
    simp only [List.map_cons, List.map_nil, Eff.sizes] at hall
    simp only [Int.toNat_natCast, fold5 hr, mE]
    rw [argE_row0 hr]
    refine ⟨by omega, by omega, (argL ds 4).length - (i + 1), by omega, i + 1, by omega, rfl, ?_⟩
    rw [ht, List.map_append, Eff.sizes_append]
    simp only [List.map_cons, List.map_nil, Eff.sizes, List.getD_cons_zero, toInt_int]
    rw [wrap64 (by omega) (by omega), wrap64 (by omega) (by omega)]
    congr 2 <;> congr 1 <;> omega
  · have hkk : i = (argL ds 4).length := by omega
    rw [hkk, List.take_of_length_le (by omega)]
    exact h)
noncomputable def con_eSize : Con E0 := ⟨k_eSize, sg_eSize, eSize_s, rfl, bo_eSize, eSize_h⟩
theorem ite_max (a b : Nat) : (if decide ((b : Int) < (a : Int)) = true then Dat.int .i64 (a : Int) else .int .i64 (b : Int)) = .int .i64 ((max b a : Nat) : Int) := by
  by_cases h : b < a
  · rw [if_pos (by simpa using h), Nat.max_eq_right (by omega)]
  · rw [if_neg (by simpa using h), Nat.max_eq_left (by omega)]
def k_eDepth : Nat := 14
def sg_eDepth : Sig := ⟨[(true, List.replicate 4 (.int .i64) ++ [.list 24])], [(false, [.int .i64])], false, false, false⟩
def tr_eDepth : Tree := (.loop [(.int .i64 0), (.int .i64 0)] [(.int .i64), (.int .i64)]
 (.ite (.cmp .lt (.var 6) (.len (.var 4)))
  (.ob (.cmp .ge (.var 6) (.int .i64 0))
  (.call k_eDepth [(.elem (.var 4) (.var 6) 0 (.int .i64)), (.elem (.var 4) (.var 6) 1 (.int .i64)), (.elem (.var 4) (.var 6) 2 (.int .i64)), (.elem (.var 4) (.var 6) 3 (.int .i64)), (.elem (.var 4) (.var 6) 4 (.list 24))] [(.int .i64)]
  (.again 0 [(.ite (.cmp .gt (.var 7) (.var 5)) (.var 7) (.var 5)), (.ar .add .i64 (.var 6) (.int .i64 1))])))
  (.ret [(.ar .add .i64 (.var 5) (.int .i64 1))])))
theorem wk_eDepth : walk E0.cx (sgsN [(14, sg_eDepth)]) 0 14 sg_eDepth = tr_eDepth := by kernel_rfl
theorem bo_eDepth : ∃ x, bodyOf E0.P 14 = some x := bo_of (by kernel_rfl)
def eDepth_s : Spec := fun ds Q => (argE ds).size ≤ 1000 ∧ Q [.int .i64 (argE ds).depth]
theorem eDepth_h : Holds E0 k_eDepth sg_eDepth eDepth_s := holds_rec mE fun n ih => con_fn wf0 mix0 g0 [⟨_, _, _, rfl, bo_eDepth, ih⟩] rfl wk_eDepth rfl (by
  intro Φ hΦ ds Q hs ⟨hm, hsz, h⟩
  have hl : ds.length = 5 := hs.length.symm
  have sp : Φ k_eDepth = (fun ds Q => mE ds < n ∧ eDepth_s ds Q) := by rw [hΦ]; rfl
  clear hΦ
  have hrow := eff_len (all2_get hs (i := 4) rfl)
  rw [argL_fold] at hrow
  have hsub := argE_subs ds
  have hlen := Eff.length_le_sizes ((argL ds 4).map effOf)
  rw [List.length_map] at hlen
  rw [mE] at hm
  rw [Eff.size_eq, hsub] at hm hsz
  rw [Eff.depth_eq, hsub] at h
  have hds := Eff.depths_le_sizes ((argL ds 4).map effOf)
  simp only [tr_eDepth, wp, den_int, den_bool, den_nili, den_ar, den_cmp, den_not, den_len, den_elem, den_isnil, den_errI, den_ifc, den_rep, den_push, den_app, den_emp, den_upd, row0_econs, row0_enil, den_and, den_beq, den_nil, toInt_int, toBool_bool, xs_rows, xs_list, dflt_int, dflt_bool, of_eq, of_ne, of_lt, of_le, of_gt, of_ge, of_add, of_sub, of_rem, List.map_cons, List.map_nil, Dat.bool.injEq, decide_eq_true_eq, decide_eq_false_iff_not, Bool.not_eq_true', Bool.not_eq_false', beq_iff_eq, bne_iff_ne, beq_eq_false_iff_ne, bne_eq_false_iff_eq, ne_eq, List.append_assoc, List.cons_append, List.nil_append, allS, sp, eDepth_s, @den_var0 E0.Δ ds, den_varA, den_varB, hl, Nat.reduceLT, Nat.reduceLeDiff, Nat.reduceSub, List.getD_cons_zero, List.getD_cons_succ, argL_fold ds, argI_fold ds, List.append_assoc, List.cons_append, List.nil_append, toInt_int, toBool_bool, xs_rows, xs_list, Int.toNat_natCast, Dat.bool.injEq]
  refine ⟨fun xs m => ∃ i : Nat, i ≤ (argL ds 4).length ∧ m = (argL ds 4).length - i ∧ xs = [.int .i64 (Eff.depths (((argL ds 4).take i).map effOf) : Nat), .int .i64 i], ⟨_, 0, by omega, rfl, by simp [Eff.depths]⟩, ?_⟩
  rintro s i' m ⟨i, hi, hmi, e⟩
  cases e
  refine ⟨fun hlt => ⟨by omega, ?_⟩, fun hge => ?_⟩
  · have hi2 : i < (argL ds 4).length := by omega
    have hr := hrow _ (getD_memL (d := []) hi2)
    have ht := take_succ_getD (d := ([] : List Dat)) hi2
    have hle : (effOf ((argL ds 4).getD i [])).size ≤ Eff.sizes ((argL ds 4).map effOf) := Eff.size_le_sizes (List.mem_map.2 ⟨_, getD_memL hi2, rfl⟩)
    simp only [Int.toNat_natCast, fold5 hr, mE]
    rw [argE_row0 hr]
    refine ⟨by omega, by omega, (argL ds 4).length - (i + 1), by omega, i + 1, by omega, rfl, ?_⟩
    rw [ht, List.map_append, Eff.depths_append]
    simp only [List.map_cons, List.map_nil, Eff.depths, List.getD_cons_zero, toInt_int, den_ite, den_cmp, of_gt, toBool_bool, @den_var0 E0.Δ ds, den_varA, den_varB, hl, Nat.reduceLT, Nat.reduceLeDiff, Nat.reduceSub, List.getD_cons_zero, List.getD_cons_succ, argL_fold ds, argI_fold ds, List.append_assoc, List.cons_append, List.nil_append, toInt_int, toBool_bool, xs_rows, xs_list, Int.toNat_natCast, Dat.bool.injEq]
    rw [wrap64 (by omega) (by omega), ite_max, Nat.max_zero]; rfl
  · have hkk : i = (argL ds 4).length := by omega
    rw [hkk, List.take_of_length_le (by omega)]
    rw [wrap64 (by omega) (by omega)]
    exact h)
noncomputable def con_eDepth : Con E0 := ⟨k_eDepth, sg_eDepth, eDepth_s, rfl, bo_eDepth, eDepth_h⟩
theorem hass_take {o : Int} {l : List (List Dat)} {i : Nat} (h : i < l.length) : Eff.hass o ((l.take (i + 1)).map effOf) = (Eff.hass o ((l.take i).map effOf) || (effOf (l.getD i [])).has o) := by
  rw [take_succ_getD (d := ([] : List Dat)) h, List.map_append, Eff.hass_append]
  simp [Eff.hass]
theorem hass_true {o : Int} {l : List (List Dat)} {i : Nat} (h : i < l.length) (h2 : (effOf (l.getD i [])).has o = true) : Eff.hass o (l.map effOf) = true := by
  rw [← List.take_append_drop (i + 1) l, List.map_append, Eff.hass_append, hass_take h, h2]; simp
def k_eHas : Nat := 15
def sg_eHas : Sig := ⟨[(true, List.replicate 4 (.int .i64) ++ [.list 24]), (false, [.int .i64])], [(false, [.bool])], false, false, false⟩
def tr_eHas : Tree := (.ite (.cmp .eq (.var 0) (.var 5))
 (.ret [(.bool true)])
 (.loop [(.int .i64 0), (.int .i64 0)] [(.int .i64), (.int .i64)]
  (.ite (.cmp .lt (.var 7) (.len (.var 4)))
   (.ob (.cmp .ge (.var 7) (.int .i64 0))
   (.call k_eHas [(.elem (.var 4) (.var 7) 0 (.int .i64)), (.elem (.var 4) (.var 7) 1 (.int .i64)), (.elem (.var 4) (.var 7) 2 (.int .i64)), (.elem (.var 4) (.var 7) 3 (.int .i64)), (.elem (.var 4) (.var 7) 4 (.list 24)), (.var 5)] [.bool]
   (.ite (.var 8)
    (.ret [(.cmp .ge (.var 7) (.int .i64 0))])
    (.again 0 [(.var 6), (.ar .add .i64 (.var 7) (.int .i64 1))]))))
   (.ret [(.bool false)]))))
theorem wk_eHas : walk E0.cx (sgsN [(15, sg_eHas)]) 0 15 sg_eHas = tr_eHas := by kernel_rfl
theorem bo_eHas : ∃ x, bodyOf E0.P 15 = some x := bo_of (by kernel_rfl)
def eHas_s : Spec := fun ds Q => (argE ds).size ≤ 1000 ∧ Q [.bool ((argE ds).has (argI ds 5))]
theorem eHas_h : Holds E0 k_eHas sg_eHas eHas_s := holds_rec mE fun n ih => con_fn wf0 mix0 g0 [⟨_, _, _, rfl, bo_eHas, ih⟩] rfl wk_eHas rfl (by
  intro Φ hΦ ds Q hs ⟨hm, hsz, h⟩
  have hl : ds.length = 6 := hs.length.symm
  have sp : Φ k_eHas = (fun ds Q => mE ds < n ∧ eHas_s ds Q) := by rw [hΦ]; rfl
  clear hΦ
  have hrow := eff_len (all2_get hs (i := 4) rfl)
  rw [argL_fold] at hrow
  have hsub := argE_subs ds
  have hop : (argE ds).op = argI ds 0 := argE_op (by omega)
  have hlen := Eff.length_le_sizes ((argL ds 4).map effOf)
  rw [List.length_map] at hlen
  rw [mE] at hm
  rw [Eff.size_eq, hsub] at hm hsz
  rw [Eff.has_eq, hsub, hop] at h
  simp only [tr_eHas, wp, den_int, den_bool, den_nili, den_ar, den_cmp, den_not, den_len, den_elem, den_isnil, den_errI, den_ifc, den_rep, den_push, den_app, den_emp, den_upd, row0_econs, row0_enil, den_and, den_beq, den_nil, toInt_int, toBool_bool, xs_rows, xs_list, dflt_int, dflt_bool, of_eq, of_ne, of_lt, of_le, of_gt, of_ge, of_add, of_sub, of_rem, List.map_cons, List.map_nil, Dat.bool.injEq, decide_eq_true_eq, decide_eq_false_iff_not, Bool.not_eq_true', Bool.not_eq_false', beq_iff_eq, bne_iff_ne, beq_eq_false_iff_ne, bne_eq_false_iff_eq, ne_eq, List.append_assoc, List.cons_append, List.nil_append, allS, sp, eHas_s, @den_var0 E0.Δ ds, den_varA, den_varB, hl, Nat.reduceLT, Nat.reduceLeDiff, Nat.reduceSub, List.getD_cons_zero, List.getD_cons_succ, argL_fold ds, argI_fold ds, List.append_assoc, List.cons_append, List.nil_append, toInt_int, toBool_bool, xs_rows, xs_list, Int.toNat_natCast, Dat.bool.injEq]
  refine ⟨fun he => ?_, fun hne => ⟨fun xs m => ∃ (i : Nat) (z : Int), i ≤ (argL ds 4).length ∧ m = (argL ds 4).length - i ∧ xs = [.int .i64 z, .int .i64 i] ∧ Eff.hass (argI ds 5) (((argL ds 4).take i).map effOf) = false, ⟨_, 0, 0, by omega, rfl, rfl, by simp [Eff.hass]⟩, ?_⟩⟩
  · rw [he, beq_self_eq_true] at h; exact h
  rintro s i' m ⟨i, z, hi, hmi, e, hno⟩
  cases e
  have hne' : (argI ds 0 == argI ds 5) = false := by simpa using hne
  rw [hne', Bool.false_or] at h
  refine ⟨fun hlt => ⟨by omega, ?_⟩, fun hge => ?_⟩
  · have hi2 : i < (argL ds 4).length := by omega
    have hr := hrow _ (getD_memL (d := []) hi2)
    have hle : (effOf ((argL ds 4).getD i [])).size ≤ Eff.sizes ((argL ds 4).map effOf) := Eff.size_le_sizes (List.mem_map.2 ⟨_, getD_memL hi2, rfl⟩)
    have hv : ds.getD 5 (.bool false) = .int .i64 (argI ds 5) := argV (all2_get hs (i := 5) rfl)
    simp only [Int.toNat_natCast, fold5x hr, mE, hv]
    rw [argE_row hr, argI_row hr (by omega)]
    refine ⟨by omega, by omega, fun ht => ?_, fun hf => ?_⟩
    · have ht' : (effOf ((argL ds 4).getD i [])).has (argI ds 5) = true := ht
      rw [hass_true hi2 ht'] at h
      simpa using h
    · have hf' : (effOf ((argL ds 4).getD i [])).has (argI ds 5) = false := hf
      refine ⟨(argL ds 4).length - (i + 1), by omega, i + 1, s, by omega, rfl, ?_, ?_⟩
      · rw [wrap64 (by omega) (by omega)]; rfl
      · rw [hass_take hi2, hno, hf']; rfl
  · have hkk : i = (argL ds 4).length := by omega
    rw [hkk, List.take_of_length_le (by omega)] at hno
    rw [hno] at h; exact h)
noncomputable def con_eHas : Con E0 := ⟨k_eHas, sg_eHas, eHas_s, rfl, bo_eHas, eHas_h⟩
def k_rHas : Nat := 16
def sg_rHas : Sig := ⟨[(true, List.replicate 4 (.int .i64) ++ [.list 24]), (false, [.int .i64])], [(false, [.bool])], false, false, false⟩
def tr_rHas : Tree := (.loop [(.cmp .eq (.var 0) (.var 5)), (.int .i64 0)] [.bool, (.int .i64)]
 (.ite (.cmp .lt (.var 7) (.len (.var 4)))
  (.ob (.cmp .ge (.var 7) (.int .i64 0))
  (.ite (.var 6)
   (.again 0 [(.bool true), (.ar .add .i64 (.var 7) (.int .i64 1))])
   (.call k_rHas [(.elem (.var 4) (.var 7) 0 (.int .i64)), (.elem (.var 4) (.var 7) 1 (.int .i64)), (.elem (.var 4) (.var 7) 2 (.int .i64)), (.elem (.var 4) (.var 7) 3 (.int .i64)), (.elem (.var 4) (.var 7) 4 (.list 24)), (.var 5)] [.bool]
   (.again 0 [(.var 8), (.ar .add .i64 (.var 7) (.int .i64 1))]))))
  (.ret [(.var 6)])))
theorem wk_rHas : walk E0.cx (sgsN [(16, sg_rHas)]) 0 16 sg_rHas = tr_rHas := by kernel_rfl
theorem bo_rHas : ∃ x, bodyOf E0.P 16 = some x := bo_of (by kernel_rfl)
def rHas_s : Spec := fun ds Q => (argE ds).size ≤ 1000 ∧ Q [.bool ((argE ds).has (argI ds 5))]
theorem rHas_h : Holds E0 k_rHas sg_rHas rHas_s := holds_rec mE fun n ih => con_fn wf0 mix0 g0 [⟨_, _, _, rfl, bo_rHas, ih⟩] rfl wk_rHas rfl (by
  intro Φ hΦ ds Q hs ⟨hm, hsz, h⟩
  have hl : ds.length = 6 := hs.length.symm
  have sp : Φ k_rHas = (fun ds Q => mE ds < n ∧ rHas_s ds Q) := by rw [hΦ]; rfl
  clear hΦ
  have hrow := eff_len (all2_get hs (i := 4) rfl)
  rw [argL_fold] at hrow
  have hsub := argE_subs ds
  have hop : (argE ds).op = argI ds 0 := argE_op (by omega)
  have hlen := Eff.length_le_sizes ((argL ds 4).map effOf)
  rw [List.length_map] at hlen
  rw [mE] at hm
  rw [Eff.size_eq, hsub] at hm hsz
  rw [Eff.has_eq, hsub, hop] at h
  simp only [tr_rHas, wp, den_int, den_bool, den_nili, den_ar, den_cmp, den_not, den_len, den_elem, den_isnil, den_errI, den_ifc, den_rep, den_push, den_app, den_emp, den_upd, row0_econs, row0_enil, den_and, den_beq, den_nil, toInt_int, toBool_bool, xs_rows, xs_list, dflt_int, dflt_bool, of_eq, of_ne, of_lt, of_le, of_gt, of_ge, of_add, of_sub, of_rem, List.map_cons, List.map_nil, Dat.bool.injEq, decide_eq_true_eq, decide_eq_false_iff_not, Bool.not_eq_true', Bool.not_eq_false', beq_iff_eq, bne_iff_ne, beq_eq_false_iff_ne, bne_eq_false_iff_eq, ne_eq, List.append_assoc, List.cons_append, List.nil_append, allS, sp, rHas_s, @den_var0 E0.Δ ds, den_varA, den_varB, hl, Nat.reduceLT, Nat.reduceLeDiff, Nat.reduceSub, List.getD_cons_zero, List.getD_cons_succ, argL_fold ds, argI_fold ds, List.append_assoc, List.cons_append, List.nil_append, toInt_int, toBool_bool, xs_rows, xs_list, Int.toNat_natCast, Dat.bool.injEq]
  refine ⟨fun xs m => ∃ (i : Nat), i ≤ (argL ds 4).length ∧ m = (argL ds 4).length - i ∧ xs = [.bool (argI ds 0 == argI ds 5 || Eff.hass (argI ds 5) (((argL ds 4).take i).map effOf)), .int .i64 i], ⟨_, 0, by omega, rfl, by simp [Eff.hass]⟩, ?_⟩
  rintro s i' m ⟨i, hi, hmi, e⟩
  cases e
  refine ⟨fun hlt => ⟨by omega, fun ht => ?_, fun hf => ?_⟩, fun hge => ?_⟩
  · have hi2 : i < (argL ds 4).length := by omega
    refine ⟨(argL ds 4).length - (i + 1), by omega, i + 1, by omega, rfl, ?_⟩
    rw [wrap64 (by omega) (by omega), hass_take hi2, ← Bool.or_assoc, ht]; rfl
  · have hi2 : i < (argL ds 4).length := by omega
    have hr := hrow _ (getD_memL (d := []) hi2)
    have hle : (effOf ((argL ds 4).getD i [])).size ≤ Eff.sizes ((argL ds 4).map effOf) := Eff.size_le_sizes (List.mem_map.2 ⟨_, getD_memL hi2, rfl⟩)
    have hv : ds.getD 5 (.bool false) = .int .i64 (argI ds 5) := argV (all2_get hs (i := 5) rfl)
    simp only [Int.toNat_natCast, fold5x hr, mE, hv]
    rw [argE_row hr, argI_row hr (by omega)]
    refine ⟨by omega, by omega, (argL ds 4).length - (i + 1), by omega, i + 1, by omega, rfl, ?_⟩
    rw [wrap64 (by omega) (by omega), hass_take hi2, ← Bool.or_assoc, hf]; rfl
  · have hkk : i = (argL ds 4).length := by omega
    rw [hkk, List.take_of_length_le (by omega)]
    exact h)
noncomputable def con_rHas : Con E0 := ⟨k_rHas, sg_rHas, rHas_s, rfl, bo_rHas, rHas_h⟩
def k_rSize : Nat := 9
def sg_rSize : Sig := ⟨[(true, List.replicate 4 (.int .i64) ++ [.list 24])], [(false, [.int .i64]), (false, [.int .i64])], false, false, false⟩
def tr_rSize : Tree := (.loop [(.int .i64 1), (.int .i64 0), (.int .i64 0)] [(.int .i64), (.int .i64), (.int .i64)]
 (.ite (.cmp .lt (.var 7) (.len (.var 4)))
  (.ob (.cmp .ge (.var 7) (.int .i64 0))
  (.call k_rSize [(.elem (.var 4) (.var 7) 0 (.int .i64)), (.elem (.var 4) (.var 7) 1 (.int .i64)), (.elem (.var 4) (.var 7) 2 (.int .i64)), (.elem (.var 4) (.var 7) 3 (.int .i64)), (.elem (.var 4) (.var 7) 4 (.list 24))] [(.int .i64), (.int .i64)]
  (.again 0 [(.ar .add .i64 (.var 5) (.var 8)), (.ite (.cmp .gt (.var 9) (.var 6)) (.var 9) (.var 6)), (.ar .add .i64 (.var 7) (.int .i64 1))])))
  (.ret [(.var 5), (.ar .add .i64 (.var 6) (.int .i64 1))])))
theorem wk_rSize : walk E0.cx (sgsN [(9, sg_rSize)]) 0 9 sg_rSize = tr_rSize := by kernel_rfl
theorem bo_rSize : ∃ x, bodyOf E0.P 9 = some x := bo_of (by kernel_rfl)
def rSize_s : Spec := fun ds Q => (argE ds).size ≤ 1000 ∧ Q [.int .i64 (argE ds).size, .int .i64 (argE ds).depth]
theorem rSize_h : Holds E0 k_rSize sg_rSize rSize_s := holds_rec mE fun n ih => con_fn wf0 mix0 g0 [⟨_, _, _, rfl, bo_rSize, ih⟩] rfl wk_rSize rfl (by
  intro Φ hΦ ds Q hs ⟨hm, hsz, h⟩
  have hl : ds.length = 5 := hs.length.symm
  have sp : Φ k_rSize = (fun ds Q => mE ds < n ∧ rSize_s ds Q) := by rw [hΦ]; rfl
  clear hΦ
  have hrow := eff_len (all2_get hs (i := 4) rfl)
  rw [argL_fold] at hrow
  have hsub := argE_subs ds
  have hlen := Eff.length_le_sizes ((argL ds 4).map effOf)
  rw [List.length_map] at hlen
  rw [mE] at hm
  rw [Eff.size_eq, hsub] at hm hsz h
  rw [Eff.depth_eq, hsub] at h
  have hds := Eff.depths_le_sizes ((argL ds 4).map effOf)
  simp only [tr_rSize, wp, den_int, den_bool, den_nili, den_ar, den_cmp, den_not, den_len, den_elem, den_isnil, den_errI, den_ifc, den_rep, den_push, den_app, den_emp, den_upd, row0_econs, row0_enil, den_and, den_beq, den_nil, toInt_int, toBool_bool, xs_rows, xs_list, dflt_int, dflt_bool, of_eq, of_ne, of_lt, of_le, of_gt, of_ge, of_add, of_sub, of_rem, List.map_cons, List.map_nil, Dat.bool.injEq, decide_eq_true_eq, decide_eq_false_iff_not, Bool.not_eq_true', Bool.not_eq_false', beq_iff_eq, bne_iff_ne, beq_eq_false_iff_ne, bne_eq_false_iff_eq, ne_eq, List.append_assoc, List.cons_append, List.nil_append, allS, sp, rSize_s, @den_var0 E0.Δ ds, den_varA, den_varB, hl, Nat.reduceLT, Nat.reduceLeDiff, Nat.reduceSub, List.getD_cons_zero, List.getD_cons_succ, argL_fold ds, argI_fold ds, List.append_assoc, List.cons_append, List.nil_append, toInt_int, toBool_bool, xs_rows, xs_list, Int.toNat_natCast, Dat.bool.injEq]
  refine ⟨fun xs m => ∃ i : Nat, i ≤ (argL ds 4).length ∧ m = (argL ds 4).length - i ∧ xs = [.int .i64 ((1 + Eff.sizes (((argL ds 4).take i).map effOf) : Nat) : Int), .int .i64 (Eff.depths (((argL ds 4).take i).map effOf) : Nat), .int .i64 i], ⟨_, 0, by omega, rfl, by simp [Eff.sizes, Eff.depths]⟩, ?_⟩
  rintro s d' i' m ⟨i, hi, hmi, e⟩
  cases e
  refine ⟨fun hlt => ⟨by omega, ?_⟩, fun hge => ?_⟩
  · have hi2 : i < (argL ds 4).length := by omega
    have hr := hrow _ (getD_memL (d := []) hi2)
    have ht := take_succ_getD (d := ([] : List Dat)) hi2
    have hle : (effOf ((argL ds 4).getD i [])).size ≤ Eff.sizes ((argL ds 4).map effOf) := Eff.size_le_sizes (List.mem_map.2 ⟨_, getD_memL hi2, rfl⟩)
    have hall : Eff.sizes (((argL ds 4).take (i + 1)).map effOf) ≤ Eff.sizes ((argL ds 4).map effOf) := Eff.sizes_take _ _
    rw [ht, List.map_append, Eff.sizes_append] at hall
    simp only [List.map_cons, List.map_nil, Eff.sizes] at hall
    simp only [Int.toNat_natCast, fold5 hr, mE]
    rw [argE_row0 hr]
    refine ⟨by omega, by omega, (argL ds 4).length - (i + 1), by omega, i + 1, by omega, rfl, ?_⟩
    rw [ht, List.map_append, Eff.sizes_append, Eff.depths_append]
    simp only [List.map_cons, List.map_nil, Eff.sizes, Eff.depths, List.getD_cons_zero, toInt_int, den_ite, den_cmp, of_gt, toBool_bool, @den_var0 E0.Δ ds, den_varA, den_varB, hl, Nat.reduceLT, Nat.reduceLeDiff, Nat.reduceSub, List.getD_cons_zero, List.getD_cons_succ, argL_fold ds, argI_fold ds, List.append_assoc, List.cons_append, List.nil_append, toInt_int, toBool_bool, xs_rows, xs_list, Int.toNat_natCast, Dat.bool.injEq]
    rw [wrap64 (by omega) (by omega), wrap64 (by omega) (by omega), ite_max, Nat.max_zero]
    congr 2 <;> congr 1 <;> omega
  · have hkk : i = (argL ds 4).length := by omega
    rw [hkk, List.take_of_length_le (by omega), wrap64 (by omega) (by omega)]
    exact h)
noncomputable def con_rSize : Con E0 := ⟨k_rSize, sg_rSize, rSize_s, rfl, bo_rSize, rSize_h⟩
end Go.Proofs.Ytkilkcgnfhlfiaa
