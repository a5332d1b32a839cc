/-
  How many effects there are, how deep, and which are within: program and document.
-/
import Derived.Test.YtkilkcgnfhlfiaaEffA
namespace Go.Proofs.Ytkilkcgnfhlfiaa
open Go.RowKit
set_option linter.unusedVariables false
set_option linter.unusedSimpArgs false

/-- the effect that stands first in a call's arguments -/
def argE (ds : List Dat) : Eff := effOf (ds.take 5)
def mE (ds : List Dat) : Nat := (argE ds).size
theorem argE_row {r e : List Dat} (h : r.length = 5) : argE (r ++ e) = effOf r := by
  rw [argE, List.take_append_of_le_length (by omega), List.take_of_length_le (by omega)]
theorem argE_row0 {r : List Dat} (h : r.length = 5) : argE r = effOf r := by
  rw [argE, List.take_of_length_le (by omega)]
theorem argE_subs (ds : List Dat) : (argE ds).subs = (argL ds 4).map effOf := by
  rw [argE, effOf_subs, subR, argL]
  congr 2
  rw [List.getD_eq_getElem?_getD, List.getElem?_take, if_pos (by omega), List.getD_eq_getElem?_getD]
theorem argE_op {ds : List Dat} (h : 0 < ds.length) : (argE ds).op = argI ds 0 := by
  cases ds with
  | nil => cases h
  | cons d l =>
    rw [argE, effOf_op, rowI, argI]; rfl
def k_eSize : Nat := 13
def sg_eSize : Sig := ⟨[(true, List.replicate 4 (.int .i64) ++ [.list 24])], [(false, [.int .i64])], false, false, false⟩
def tr_eSize : Tree := (.loop [(.int .i64 1), (.int .i64 0)] [(.int .i64), (.int .i64)]
 (.ite (.cmp .lt (.var 6) (.len (.var 4)))
  (.ob (.cmp .ge (.var 6) (.int .i64 0))
  (.call k_eSize [(.elem (.var 4) (.var 6) 0 (.int .i64)), (.elem (.var 4) (.var 6) 1 (.int .i64)), (.elem (.var 4) (.var 6) 2 (.int .i64)), (.elem (.var 4) (.var 6) 3 (.int .i64)), (.elem (.var 4) (.var 6) 4 (.list 24))] [(.int .i64)]
  (.again 0 [(.ar .add .i64 (.var 5) (.var 7)), (.ar .add .i64 (.var 6) (.int .i64 1))])))
  (.ret [(.var 5)])))
theorem wk_eSize : walk E0.cx (sgsN [(13, sg_eSize)]) 0 13 sg_eSize = tr_eSize := by kernel_rfl
theorem bo_eSize : ∃ x, bodyOf E0.P 13 = some x := bo_of (by kernel_rfl)
def eSize_s : Spec := fun ds Q => (argE ds).size ≤ 1000 ∧ Q [.int .i64 (argE ds).size]
theorem eSize_h : Holds E0 k_eSize sg_eSize eSize_s := holds_rec mE fun n ih => con_fn wf0 mix0 g0 [⟨_, _, _, rfl, bo_eSize, ih⟩] rfl wk_eSize rfl (by
  intro Φ hΦ ds Q hs ⟨hm, hsz, h⟩
  have hl : ds.length = 5 := hs.length.symm
  have sp : Φ k_eSize = (fun ds Q => mE ds < n ∧ eSize_s ds Q) := by rw [hΦ]; rfl
  clear hΦ
  have hrow := eff_len (all2_get hs (i := 4) rfl)
  rw [argL_fold] at hrow
  have hsub := argE_subs ds
  have hlen := Eff.length_le_sizes ((argL ds 4).map effOf)
  rw [List.length_map] at hlen
  rw [mE] at hm
  rw [Eff.size_eq, hsub] at hm hsz h
  simp only [tr_eSize, wp, den_int, den_bool, den_nili, den_ar, den_cmp, den_not, den_len, den_elem, den_isnil, den_errI, den_ifc, den_rep, den_push, den_app, den_emp, den_upd, row0_econs, row0_enil, den_and, den_beq, den_nil, toInt_int, toBool_bool, xs_rows, xs_list, dflt_int, dflt_bool, of_eq, of_ne, of_lt, of_le, of_gt, of_ge, of_add, of_sub, of_rem, List.map_cons, List.map_nil, Dat.bool.injEq, decide_eq_true_eq, decide_eq_false_iff_not, Bool.not_eq_true', Bool.not_eq_false', beq_iff_eq, bne_iff_ne, beq_eq_false_iff_ne, bne_eq_false_iff_eq, ne_eq, List.append_assoc, List.cons_append, List.nil_append, allS, sp, eSize_s, @den_var0 E0.Δ ds, den_varA, den_varB, hl, Nat.reduceLT, Nat.reduceLeDiff, Nat.reduceSub, List.getD_cons_zero, List.getD_cons_succ, argL_fold ds, argI_fold ds, List.append_assoc, List.cons_append, List.nil_append, toInt_int, toBool_bool, xs_rows, xs_list, Int.toNat_natCast, Dat.bool.injEq]
  refine ⟨fun xs m => ∃ i : Nat, i ≤ (argL ds 4).length ∧ m = (argL ds 4).length - i ∧ xs = [.int .i64 ((1 + Eff.sizes (((argL ds 4).take i).map effOf) : Nat) : Int), .int .i64 i], ⟨_, 0, by omega, rfl, by simp [Eff.sizes]⟩, ?_⟩
  rintro s i' m ⟨i, hi, hmi, e⟩
  cases e
  refine ⟨fun hlt => ⟨by omega, ?_⟩, fun hge => ?_⟩
  · have hi2 : i < (argL ds 4).length := by omega
    have hr := hrow _ (getD_memL (d := []) hi2)
    have ht := take_succ_getD (d := ([] : List Dat)) hi2
    have hle : (effOf ((argL ds 4).getD i [])).size ≤ Eff.sizes ((argL ds 4).map effOf) := Eff.size_le_sizes (List.mem_map.2 ⟨_, getD_memL hi2, rfl⟩)
    have hall : Eff.sizes (((argL ds 4).take (i + 1)).map effOf) ≤ Eff.sizes ((argL ds 4).map effOf) := Eff.sizes_take _ _
    rw [ht, List.map_append, Eff.sizes_append] at hall
    simp only [List.map_cons, List.map_nil, Eff.sizes] at hall
    simp only [Int.toNat_natCast, fold5 hr, mE]
    rw [argE_row0 hr]
    refine ⟨by omega, by omega, (argL ds 4).length - (i + 1), by omega, i + 1, by omega, rfl, ?_⟩
    rw [ht, List.map_append, Eff.sizes_append]
    simp only [List.map_cons, List.map_nil, Eff.sizes, List.getD_cons_zero, toInt_int]
    rw [wrap64 (by omega) (by omega), wrap64 (by omega) (by omega)]
    congr 2 <;> congr 1 <;> omega
  · have hkk : i = (argL ds 4).length := by omega
    rw [hkk, List.take_of_length_le (by omega)]
    exact h)
noncomputable def con_eSize : Con E0 := ⟨k_eSize, sg_eSize, eSize_s, rfl, bo_eSize, eSize_h⟩
theorem ite_max (a b : Nat) : (if decide ((b : Int) < (a : Int)) = true then Dat.int .i64 (a : Int) else .int .i64 (b : Int)) = .int .i64 ((max b a : Nat) : Int) := by
  by_cases h : b < a
  · rw [if_pos (by simpa using h), Nat.max_eq_right (by omega)]
  · rw [if_neg (by simpa using h), Nat.max_eq_left (by omega)]
def k_eDepth : Nat := 14
def sg_eDepth : Sig := ⟨[(true, List.replicate 4 (.int .i64) ++ [.list 24])], [(false, [.int .i64])], false, false, false⟩
def tr_eDepth : Tree := (.loop [(.int .i64 0), (.int .i64 0)] [(.int .i64), (.int .i64)]
 (.ite (.cmp .lt (.var 6) (.len (.var 4)))
  (.ob (.cmp .ge (.var 6) (.int .i64 0))
  (.call k_eDepth [(.elem (.var 4) (.var 6) 0 (.int .i64)), (.elem (.var 4) (.var 6) 1 (.int .i64)), (.elem (.var 4) (.var 6) 2 (.int .i64)), (.elem (.var 4) (.var 6) 3 (.int .i64)), (.elem (.var 4) (.var 6) 4 (.list 24))] [(.int .i64)]
  (.again 0 [(.ite (.cmp .gt (.var 7) (.var 5)) (.var 7) (.var 5)), (.ar .add .i64 (.var 6) (.int .i64 1))])))
  (.ret [(.ar .add .i64 (.var 5) (.int .i64 1))])))
theorem wk_eDepth : walk E0.cx (sgsN [(14, sg_eDepth)]) 0 14 sg_eDepth = tr_eDepth := by kernel_rfl
theorem bo_eDepth : ∃ x, bodyOf E0.P 14 = some x := bo_of (by kernel_rfl)
def eDepth_s : Spec := fun ds Q => (argE ds).size ≤ 1000 ∧ Q [.int .i64 (argE ds).depth]
theorem eDepth_h : Holds E0 k_eDepth sg_eDepth eDepth_s := holds_rec mE fun n ih => con_fn wf0 mix0 g0 [⟨_, _, _, rfl, bo_eDepth, ih⟩] rfl wk_eDepth rfl (by
  intro Φ hΦ ds Q hs ⟨hm, hsz, h⟩
  have hl : ds.length = 5 := hs.length.symm
  have sp : Φ k_eDepth = (fun ds Q => mE ds < n ∧ eDepth_s ds Q) := by rw [hΦ]; rfl
  clear hΦ
  have hrow := eff_len (all2_get hs (i := 4) rfl)
  rw [argL_fold] at hrow
  have hsub := argE_subs ds
  have hlen := Eff.length_le_sizes ((argL ds 4).map effOf)
  rw [List.length_map] at hlen
  rw [mE] at hm
  rw [Eff.size_eq, hsub] at hm hsz
  rw [Eff.depth_eq, hsub] at h
  have hds := Eff.depths_le_sizes ((argL ds 4).map effOf)
  simp only [tr_eDepth, wp, den_int, den_bool, den_nili, den_ar, den_cmp, den_not, den_len, den_elem, den_isnil, den_errI, den_ifc, den_rep, den_push, den_app, den_emp, den_upd, row0_econs, row0_enil, den_and, den_beq, den_nil, toInt_int, toBool_bool, xs_rows, xs_list, dflt_int, dflt_bool, of_eq, of_ne, of_lt, of_le, of_gt, of_ge, of_add, of_sub, of_rem, List.map_cons, List.map_nil, Dat.bool.injEq, decide_eq_true_eq, decide_eq_false_iff_not, Bool.not_eq_true', Bool.not_eq_false', beq_iff_eq, bne_iff_ne, beq_eq_false_iff_ne, bne_eq_false_iff_eq, ne_eq, List.append_assoc, List.cons_append, List.nil_append, allS, sp, eDepth_s, @den_var0 E0.Δ ds, den_varA, den_varB, hl, Nat.reduceLT, Nat.reduceLeDiff, Nat.reduceSub, List.getD_cons_zero, List.getD_cons_succ, argL_fold ds, argI_fold ds, List.append_assoc, List.cons_append, List.nil_append, toInt_int, toBool_bool, xs_rows, xs_list, Int.toNat_natCast, Dat.bool.injEq]
  refine ⟨fun xs m => ∃ i : Nat, i ≤ (argL ds 4).length ∧ m = (argL ds 4).length - i ∧ xs = [.int .i64 (Eff.depths (((argL ds 4).take i).map effOf) : Nat), .int .i64 i], ⟨_, 0, by omega, rfl, by simp [Eff.depths]⟩, ?_⟩
  rintro s i' m ⟨i, hi, hmi, e⟩
  cases e
  refine ⟨fun hlt => ⟨by omega, ?_⟩, fun hge => ?_⟩
  · have hi2 : i < (argL ds 4).length := by omega
    have hr := hrow _ (getD_memL (d := []) hi2)
    have ht := take_succ_getD (d := ([] : List Dat)) hi2
    have hle : (effOf ((argL ds 4).getD i [])).size ≤ Eff.sizes ((argL ds 4).map effOf) := Eff.size_le_sizes (List.mem_map.2 ⟨_, getD_memL hi2, rfl⟩)
    simp only [Int.toNat_natCast, fold5 hr, mE]
    rw [argE_row0 hr]
    refine ⟨by omega, by omega, (argL ds 4).length - (i + 1), by omega, i + 1, by omega, rfl, ?_⟩
    rw [ht, List.map_append, Eff.depths_append]
    simp only [List.map_cons, List.map_nil, Eff.depths, List.getD_cons_zero, toInt_int, den_ite, den_cmp, of_gt, toBool_bool, @den_var0 E0.Δ ds, den_varA, den_varB, hl, Nat.reduceLT, Nat.reduceLeDiff, Nat.reduceSub, List.getD_cons_zero, List.getD_cons_succ, argL_fold ds, argI_fold ds, List.append_assoc, List.cons_append, List.nil_append, toInt_int, toBool_bool, xs_rows, xs_list, Int.toNat_natCast, Dat.bool.injEq]
    rw [wrap64 (by omega) (by omega), ite_max, Nat.max_zero]; rfl
  · have hkk : i = (argL ds 4).length := by omega
    rw [hkk, List.take_of_length_le (by omega)]
    rw [wrap64 (by omega) (by omega)]
    exact h)
noncomputable def con_eDepth : Con E0 := ⟨k_eDepth, sg_eDepth, eDepth_s, rfl, bo_eDepth, eDepth_h⟩
theorem fold5x {r : List Dat} (h : r.length = 5) (a b c d e x : Dat) : [r.getD 0 a, r.getD 1 b, r.getD 2 c, r.getD 3 d, r.getD 4 e, x] = r ++ [x] := by
  match r, h with
  | [_, _, _, _, _], _ => rfl
theorem fold5xy {r : List Dat} (h : r.length = 5) (a b c d e x y : Dat) : [r.getD 0 a, r.getD 1 b, r.getD 2 c, r.getD 3 d, r.getD 4 e, x, y] = r ++ [x, y] := by
  match r, h with
  | [_, _, _, _, _], _ => rfl
theorem hass_take {o : Int} {l : List (List Dat)} {i : Nat} (h : i < l.length) : Eff.hass o ((l.take (i + 1)).map effOf) = (Eff.hass o ((l.take i).map effOf) || (effOf (l.getD i [])).has o) := by
  rw [take_succ_getD (d := ([] : List Dat)) h, List.map_append, Eff.hass_append]
  simp [Eff.hass]
theorem hass_true {o : Int} {l : List (List Dat)} {i : Nat} (h : i < l.length) (h2 : (effOf (l.getD i [])).has o = true) : Eff.hass o (l.map effOf) = true := by
  rw [← List.take_append_drop (i + 1) l, List.map_append, Eff.hass_append, hass_take h, h2]; simp
def k_eHas : Nat := 15
def sg_eHas : Sig := ⟨[(true, List.replicate 4 (.int .i64) ++ [.list 24]), (false, [.int .i64])], [(false, [.bool])], false, false, false⟩
def tr_eHas : Tree := (.ite (.cmp .eq (.var 0) (.var 5))
 (.ret [(.bool true)])
 (.loop [(.int .i64 0), (.int .i64 0)] [(.int .i64), (.int .i64)]
  (.ite (.cmp .lt (.var 7) (.len (.var 4)))
   (.ob (.cmp .ge (.var 7) (.int .i64 0))
   (.call k_eHas [(.elem (.var 4) (.var 7) 0 (.int .i64)), (.elem (.var 4) (.var 7) 1 (.int .i64)), (.elem (.var 4) (.var 7) 2 (.int .i64)), (.elem (.var 4) (.var 7) 3 (.int .i64)), (.elem (.var 4) (.var 7) 4 (.list 24)), (.var 5)] [.bool]
   (.ite (.var 8)
    (.ret [(.cmp .ge (.var 7) (.int .i64 0))])
    (.again 0 [(.var 6), (.ar .add .i64 (.var 7) (.int .i64 1))]))))
   (.ret [(.bool false)]))))
theorem wk_eHas : walk E0.cx (sgsN [(15, sg_eHas)]) 0 15 sg_eHas = tr_eHas := by kernel_rfl
theorem bo_eHas : ∃ x, bodyOf E0.P 15 = some x := bo_of (by kernel_rfl)
def eHas_s : Spec := fun ds Q => (argE ds).size ≤ 1000 ∧ Q [.bool ((argE ds).has (argI ds 5))]
theorem eHas_h : Holds E0 k_eHas sg_eHas eHas_s := holds_rec mE fun n ih => con_fn wf0 mix0 g0 [⟨_, _, _, rfl, bo_eHas, ih⟩] rfl wk_eHas rfl (by
  intro Φ hΦ ds Q hs ⟨hm, hsz, h⟩
  have hl : ds.length = 6 := hs.length.symm
  have sp : Φ k_eHas = (fun ds Q => mE ds < n ∧ eHas_s ds Q) := by rw [hΦ]; rfl
  clear hΦ
  have hrow := eff_len (all2_get hs (i := 4) rfl)
  rw [argL_fold] at hrow
  have hsub := argE_subs ds
  have hop : (argE ds).op = argI ds 0 := argE_op (by omega)
  have hlen := Eff.length_le_sizes ((argL ds 4).map effOf)
  rw [List.length_map] at hlen
  rw [mE] at hm
  rw [Eff.size_eq, hsub] at hm hsz
  rw [Eff.has_eq, hsub, hop] at h
  simp only [tr_eHas, wp, den_int, den_bool, den_nili, den_ar, den_cmp, den_not, den_len, den_elem, den_isnil, den_errI, den_ifc, den_rep, den_push, den_app, den_emp, den_upd, row0_econs, row0_enil, den_and, den_beq, den_nil, toInt_int, toBool_bool, xs_rows, xs_list, dflt_int, dflt_bool, of_eq, of_ne, of_lt, of_le, of_gt, of_ge, of_add, of_sub, of_rem, List.map_cons, List.map_nil, Dat.bool.injEq, decide_eq_true_eq, decide_eq_false_iff_not, Bool.not_eq_true', Bool.not_eq_false', beq_iff_eq, bne_iff_ne, beq_eq_false_iff_ne, bne_eq_false_iff_eq, ne_eq, List.append_assoc, List.cons_append, List.nil_append, allS, sp, eHas_s, @den_var0 E0.Δ ds, den_varA, den_varB, hl, Nat.reduceLT, Nat.reduceLeDiff, Nat.reduceSub, List.getD_cons_zero, List.getD_cons_succ, argL_fold ds, argI_fold ds, List.append_assoc, List.cons_append, List.nil_append, toInt_int, toBool_bool, xs_rows, xs_list, Int.toNat_natCast, Dat.bool.injEq]
  refine ⟨fun he => ?_, fun hne => ⟨fun xs m => ∃ (i : Nat) (z : Int), i ≤ (argL ds 4).length ∧ m = (argL ds 4).length - i ∧ xs = [.int .i64 z, .int .i64 i] ∧ Eff.hass (argI ds 5) (((argL ds 4).take i).map effOf) = false, ⟨_, 0, 0, by omega, rfl, rfl, by simp [Eff.hass]⟩, ?_⟩⟩
  · rw [he, beq_self_eq_true] at h; exact h
  rintro s i' m ⟨i, z, hi, hmi, e, hno⟩
  cases e
  have hne' : (argI ds 0 == argI ds 5) = false := by simpa using hne
  rw [hne', Bool.false_or] at h
  refine ⟨fun hlt => ⟨by omega, ?_⟩, fun hge => ?_⟩
  · have hi2 : i < (argL ds 4).length := by omega
    have hr := hrow _ (getD_memL (d := []) hi2)
    have hle : (effOf ((argL ds 4).getD i [])).size ≤ Eff.sizes ((argL ds 4).map effOf) := Eff.size_le_sizes (List.mem_map.2 ⟨_, getD_memL hi2, rfl⟩)
    have hv : ds.getD 5 (.bool false) = .int .i64 (argI ds 5) := argV (all2_get hs (i := 5) rfl)
    simp only [Int.toNat_natCast, fold5x hr, mE, hv]
    rw [argE_row hr, argI_row hr (by omega)]
    refine ⟨by omega, by omega, fun ht => ?_, fun hf => ?_⟩
    · have ht' : (effOf ((argL ds 4).getD i [])).has (argI ds 5) = true := ht
      rw [hass_true hi2 ht'] at h
      simpa using h
    · have hf' : (effOf ((argL ds 4).getD i [])).has (argI ds 5) = false := hf
      refine ⟨(argL ds 4).length - (i + 1), by omega, i + 1, s, by omega, rfl, ?_, ?_⟩
      · rw [wrap64 (by omega) (by omega)]; rfl
      · rw [hass_take hi2, hno, hf']; rfl
  · have hkk : i = (argL ds 4).length := by omega
    rw [hkk, List.take_of_length_le (by omega)] at hno
    rw [hno] at h; exact h)
noncomputable def con_eHas : Con E0 := ⟨k_eHas, sg_eHas, eHas_s, rfl, bo_eHas, eHas_h⟩
def k_rHas : Nat := 16
def sg_rHas : Sig := ⟨[(true, List.replicate 4 (.int .i64) ++ [.list 24]), (false, [.int .i64])], [(false, [.bool])], false, false, false⟩
def tr_rHas : Tree := (.loop [(.cmp .eq (.var 0) (.var 5)), (.int .i64 0)] [.bool, (.int .i64)]
 (.ite (.cmp .lt (.var 7) (.len (.var 4)))
  (.ob (.cmp .ge (.var 7) (.int .i64 0))
  (.ite (.var 6)
   (.again 0 [(.bool true), (.ar .add .i64 (.var 7) (.int .i64 1))])
   (.call k_rHas [(.elem (.var 4) (.var 7) 0 (.int .i64)), (.elem (.var 4) (.var 7) 1 (.int .i64)), (.elem (.var 4) (.var 7) 2 (.int .i64)), (.elem (.var 4) (.var 7) 3 (.int .i64)), (.elem (.var 4) (.var 7) 4 (.list 24)), (.var 5)] [.bool]
   (.again 0 [(.var 8), (.ar .add .i64 (.var 7) (.int .i64 1))]))))
  (.ret [(.var 6)])))
theorem wk_rHas : walk E0.cx (sgsN [(16, sg_rHas)]) 0 16 sg_rHas = tr_rHas := by kernel_rfl
theorem bo_rHas : ∃ x, bodyOf E0.P 16 = some x := bo_of (by kernel_rfl)
def rHas_s : Spec := fun ds Q => (argE ds).size ≤ 1000 ∧ Q [.bool ((argE ds).has (argI ds 5))]
theorem rHas_h : Holds E0 k_rHas sg_rHas rHas_s := holds_rec mE fun n ih => con_fn wf0 mix0 g0 [⟨_, _, _, rfl, bo_rHas, ih⟩] rfl wk_rHas rfl (by
  intro Φ hΦ ds Q hs ⟨hm, hsz, h⟩
  have hl : ds.length = 6 := hs.length.symm
  have sp : Φ k_rHas = (fun ds Q => mE ds < n ∧ rHas_s ds Q) := by rw [hΦ]; rfl
  clear hΦ
  have hrow := eff_len (all2_get hs (i := 4) rfl)
  rw [argL_fold] at hrow
  have hsub := argE_subs ds
  have hop : (argE ds).op = argI ds 0 := argE_op (by omega)
  have hlen := Eff.length_le_sizes ((argL ds 4).map effOf)
  rw [List.length_map] at hlen
  rw [mE] at hm
  rw [Eff.size_eq, hsub] at hm hsz
  rw [Eff.has_eq, hsub, hop] at h
  simp only [tr_rHas, wp, den_int, den_bool, den_nili, den_ar, den_cmp, den_not, den_len, den_elem, den_isnil, den_errI, den_ifc, den_rep, den_push, den_app, den_emp, den_upd, row0_econs, row0_enil, den_and, den_beq, den_nil, toInt_int, toBool_bool, xs_rows, xs_list, dflt_int, dflt_bool, of_eq, of_ne, of_lt, of_le, of_gt, of_ge, of_add, of_sub, of_rem, List.map_cons, List.map_nil, Dat.bool.injEq, decide_eq_true_eq, decide_eq_false_iff_not, Bool.not_eq_true', Bool.not_eq_false', beq_iff_eq, bne_iff_ne, beq_eq_false_iff_ne, bne_eq_false_iff_eq, ne_eq, List.append_assoc, List.cons_append, List.nil_append, allS, sp, rHas_s, @den_var0 E0.Δ ds, den_varA, den_varB, hl, Nat.reduceLT, Nat.reduceLeDiff, Nat.reduceSub, List.getD_cons_zero, List.getD_cons_succ, argL_fold ds, argI_fold ds, List.append_assoc, List.cons_append, List.nil_append, toInt_int, toBool_bool, xs_rows, xs_list, Int.toNat_natCast, Dat.bool.injEq]
  refine ⟨fun xs m => ∃ (i : Nat), i ≤ (argL ds 4).length ∧ m = (argL ds 4).length - i ∧ xs = [.bool (argI ds 0 == argI ds 5 || Eff.hass (argI ds 5) (((argL ds 4).take i).map effOf)), .int .i64 i], ⟨_, 0, by omega, rfl, by simp [Eff.hass]⟩, ?_⟩
  rintro s i' m ⟨i, hi, hmi, e⟩
  cases e
  refine ⟨fun hlt => ⟨by omega, fun ht => ?_, fun hf => ?_⟩, fun hge => ?_⟩
  · have hi2 : i < (argL ds 4).length := by omega
    refine ⟨(argL ds 4).length - (i + 1), by omega, i + 1, by omega, rfl, ?_⟩
    rw [wrap64 (by omega) (by omega), hass_take hi2, ← Bool.or_assoc, ht]; rfl
  · have hi2 : i < (argL ds 4).length := by omega
    have hr := hrow _ (getD_memL (d := []) hi2)
    have hle : (effOf ((argL ds 4).getD i [])).size ≤ Eff.sizes ((argL ds 4).map effOf) := Eff.size_le_sizes (List.mem_map.2 ⟨_, getD_memL hi2, rfl⟩)
    have hv : ds.getD 5 (.bool false) = .int .i64 (argI ds 5) := argV (all2_get hs (i := 5) rfl)
    simp only [Int.toNat_natCast, fold5x hr, mE, hv]
    rw [argE_row hr, argI_row hr (by omega)]
    refine ⟨by omega, by omega, (argL ds 4).length - (i + 1), by omega, i + 1, by omega, rfl, ?_⟩
    rw [wrap64 (by omega) (by omega), hass_take hi2, ← Bool.or_assoc, hf]; rfl
  · have hkk : i = (argL ds 4).length := by omega
    rw [hkk, List.take_of_length_le (by omega)]
    exact h)
noncomputable def con_rHas : Con E0 := ⟨k_rHas, sg_rHas, rHas_s, rfl, bo_rHas, rHas_h⟩
def k_rSize : Nat := 9
def sg_rSize : Sig := ⟨[(true, List.replicate 4 (.int .i64) ++ [.list 24])], [(false, [.int .i64]), (false, [.int .i64])], false, false, false⟩
def tr_rSize : Tree := (.loop [(.int .i64 1), (.int .i64 0), (.int .i64 0)] [(.int .i64), (.int .i64), (.int .i64)]
 (.ite (.cmp .lt (.var 7) (.len (.var 4)))
  (.ob (.cmp .ge (.var 7) (.int .i64 0))
  (.call k_rSize [(.elem (.var 4) (.var 7) 0 (.int .i64)), (.elem (.var 4) (.var 7) 1 (.int .i64)), (.elem (.var 4) (.var 7) 2 (.int .i64)), (.elem (.var 4) (.var 7) 3 (.int .i64)), (.elem (.var 4) (.var 7) 4 (.list 24))] [(.int .i64), (.int .i64)]
  (.again 0 [(.ar .add .i64 (.var 5) (.var 8)), (.ite (.cmp .gt (.var 9) (.var 6)) (.var 9) (.var 6)), (.ar .add .i64 (.var 7) (.int .i64 1))])))
  (.ret [(.var 5), (.ar .add .i64 (.var 6) (.int .i64 1))])))
theorem wk_rSize : walk E0.cx (sgsN [(9, sg_rSize)]) 0 9 sg_rSize = tr_rSize := by kernel_rfl
theorem bo_rSize : ∃ x, bodyOf E0.P 9 = some x := bo_of (by kernel_rfl)
def rSize_s : Spec := fun ds Q => (argE ds).size ≤ 1000 ∧ Q [.int .i64 (argE ds).size, .int .i64 (argE ds).depth]
theorem rSize_h : Holds E0 k_rSize sg_rSize rSize_s := holds_rec mE fun n ih => con_fn wf0 mix0 g0 [⟨_, _, _, rfl, bo_rSize, ih⟩] rfl wk_rSize rfl (by
  intro Φ hΦ ds Q hs ⟨hm, hsz, h⟩
  have hl : ds.length = 5 := hs.length.symm
  have sp : Φ k_rSize = (fun ds Q => mE ds < n ∧ rSize_s ds Q) := by rw [hΦ]; rfl
  clear hΦ
  have hrow := eff_len (all2_get hs (i := 4) rfl)
  rw [argL_fold] at hrow
  have hsub := argE_subs ds
  have hlen := Eff.length_le_sizes ((argL ds 4).map effOf)
  rw [List.length_map] at hlen
  rw [mE] at hm
  rw [Eff.size_eq, hsub] at hm hsz h
  rw [Eff.depth_eq, hsub] at h
  have hds := Eff.depths_le_sizes ((argL ds 4).map effOf)
  simp only [tr_rSize, wp, den_int, den_bool, den_nili, den_ar, den_cmp, den_not, den_len, den_elem, den_isnil, den_errI, den_ifc, den_rep, den_push, den_app, den_emp, den_upd, row0_econs, row0_enil, den_and, den_beq, den_nil, toInt_int, toBool_bool, xs_rows, xs_list, dflt_int, dflt_bool, of_eq, of_ne, of_lt, of_le, of_gt, of_ge, of_add, of_sub, of_rem, List.map_cons, List.map_nil, Dat.bool.injEq, decide_eq_true_eq, decide_eq_false_iff_not, Bool.not_eq_true', Bool.not_eq_false', beq_iff_eq, bne_iff_ne, beq_eq_false_iff_ne, bne_eq_false_iff_eq, ne_eq, List.append_assoc, List.cons_append, List.nil_append, allS, sp, rSize_s, @den_var0 E0.Δ ds, den_varA, den_varB, hl, Nat.reduceLT, Nat.reduceLeDiff, Nat.reduceSub, List.getD_cons_zero, List.getD_cons_succ, argL_fold ds, argI_fold ds, List.append_assoc, List.cons_append, List.nil_append, toInt_int, toBool_bool, xs_rows, xs_list, Int.toNat_natCast, Dat.bool.injEq]
  refine ⟨fun xs m => ∃ i : Nat, i ≤ (argL ds 4).length ∧ m = (argL ds 4).length - i ∧ xs = [.int .i64 ((1 + Eff.sizes (((argL ds 4).take i).map effOf) : Nat) : Int), .int .i64 (Eff.depths (((argL ds 4).take i).map effOf) : Nat), .int .i64 i], ⟨_, 0, by omega, rfl, by simp [Eff.sizes, Eff.depths]⟩, ?_⟩
  rintro s d' i' m ⟨i, hi, hmi, e⟩
  cases e
  refine ⟨fun hlt => ⟨by omega, ?_⟩, fun hge => ?_⟩
  · have hi2 : i < (argL ds 4).length := by omega
    have hr := hrow _ (getD_memL (d := []) hi2)
    have ht := take_succ_getD (d := ([] : List Dat)) hi2
    have hle : (effOf ((argL ds 4).getD i [])).size ≤ Eff.sizes ((argL ds 4).map effOf) := Eff.size_le_sizes (List.mem_map.2 ⟨_, getD_memL hi2, rfl⟩)
    have hall : Eff.sizes (((argL ds 4).take (i + 1)).map effOf) ≤ Eff.sizes ((argL ds 4).map effOf) := Eff.sizes_take _ _
    rw [ht, List.map_append, Eff.sizes_append] at hall
    simp only [List.map_cons, List.map_nil, Eff.sizes] at hall
    simp only [Int.toNat_natCast, fold5 hr, mE]
    rw [argE_row0 hr]
    refine ⟨by omega, by omega, (argL ds 4).length - (i + 1), by omega, i + 1, by omega, rfl, ?_⟩
    rw [ht, List.map_append, Eff.sizes_append, Eff.depths_append]
    simp only [List.map_cons, List.map_nil, Eff.sizes, Eff.depths, List.getD_cons_zero, toInt_int, den_ite, den_cmp, of_gt, toBool_bool, @den_var0 E0.Δ ds, den_varA, den_varB, hl, Nat.reduceLT, Nat.reduceLeDiff, Nat.reduceSub, List.getD_cons_zero, List.getD_cons_succ, argL_fold ds, argI_fold ds, List.append_assoc, List.cons_append, List.nil_append, toInt_int, toBool_bool, xs_rows, xs_list, Int.toNat_natCast, Dat.bool.injEq]
    rw [wrap64 (by omega) (by omega), wrap64 (by omega) (by omega), ite_max, Nat.max_zero]
    congr 2 <;> congr 1 <;> omega
  · have hkk : i = (argL ds 4).length := by omega
    rw [hkk, List.take_of_length_le (by omega), wrap64 (by omega) (by omega)]
    exact h)
noncomputable def con_rSize : Con E0 := ⟨k_rSize, sg_rSize, rSize_s, rfl, bo_rSize, rSize_h⟩
def k_room : Nat := 28
def sg_room : Sig := ⟨[(true, List.replicate 4 (.int .i64) ++ [.list 24]), (false, [.int .i64]), (false, [.int .i64])], [(false, [.int .i64]), (false, [.bool])], false, false, false⟩
def tr_room : Tree := (.ite (.cmp .gt (.var 5) (.int .i64 40))
 (.ret [(.ar .add .i64 (.var 6) (.int .i64 1)), (.bool false)])
 (.ite (.cmp .gt (.ar .add .i64 (.var 6) (.int .i64 1)) (.int .i64 300))
  (.ret [(.ar .add .i64 (.var 6) (.int .i64 1)), (.bool false)])
  (.loop [(.ar .add .i64 (.var 6) (.int .i64 1)), (.int .i64 0), (.bool false), (.int .i64 0)] [(.int .i64), (.int .i64), .bool, (.int .i64)]
   (.ite (.cmp .lt (.var 10) (.len (.var 4)))
    (.ob (.cmp .ge (.var 10) (.int .i64 0))
    (.call k_room [(.elem (.var 4) (.var 10) 0 (.int .i64)), (.elem (.var 4) (.var 10) 1 (.int .i64)), (.elem (.var 4) (.var 10) 2 (.int .i64)), (.elem (.var 4) (.var 10) 3 (.int .i64)), (.elem (.var 4) (.var 10) 4 (.list 24)), (.ar .add .i64 (.var 5) (.int .i64 1)), (.var 7)] [(.int .i64), .bool]
    (.ite (.not (.var 12))
     (.ret [(.var 11), (.bool false)])
     (.again 0 [(.var 11), (.var 8), (.var 9), (.ar .add .i64 (.var 10) (.int .i64 1))]))))
    (.ret [(.var 7), (.bool true)])))))
theorem wk_room : walk E0.cx (sgsN [(28, sg_room)]) 0 28 sg_room = tr_room := by kernel_rfl
theorem bo_room : ∃ x, bodyOf E0.P 28 = some x := bo_of (by kernel_rfl)
def room_s : Spec := fun ds Q => 0 ≤ argI ds 5 ∧ argI ds 5 ≤ 41 ∧ 0 ≤ argI ds 6 ∧ argI ds 6 ≤ 300 ∧ ∀ (k : Int) (b : Bool), 0 ≤ k → k ≤ 301 → (b = true → k = argI ds 6 + (argE ds).size ∧ k ≤ 300) → Q [.int .i64 k, .bool b]
theorem room_h : Holds E0 k_room sg_room room_s := holds_rec mE fun n ih => con_fn wf0 mix0 g0 [⟨_, _, _, rfl, bo_room, ih⟩] rfl wk_room rfl (by
  intro Φ hΦ ds Q hs ⟨hm, hd0, hd1, hm0, hm1, h⟩
  have hl : ds.length = 7 := hs.length.symm
  have sp : Φ k_room = (fun ds Q => mE ds < n ∧ room_s ds Q) := by rw [hΦ]; rfl
  clear hΦ
  have hrow := eff_len (all2_get hs (i := 4) rfl)
  rw [argL_fold] at hrow
  have hsub := argE_subs ds
  rw [mE] at hm
  rw [Eff.size_eq, hsub] at hm h
  simp only [tr_room, wp, den_int, den_bool, den_nili, den_ar, den_cmp, den_not, den_len, den_elem, den_isnil, den_errI, den_ifc, den_rep, den_push, den_app, den_emp, den_upd, row0_econs, row0_enil, den_and, den_beq, den_nil, toInt_int, toBool_bool, xs_rows, xs_list, dflt_int, dflt_bool, of_eq, of_ne, of_lt, of_le, of_gt, of_ge, of_add, of_sub, of_rem, List.map_cons, List.map_nil, Dat.bool.injEq, decide_eq_true_eq, decide_eq_false_iff_not, Bool.not_eq_true', Bool.not_eq_false', beq_iff_eq, bne_iff_ne, beq_eq_false_iff_ne, bne_eq_false_iff_eq, ne_eq, List.append_assoc, List.cons_append, List.nil_append, allS, sp, room_s, @den_var0 E0.Δ ds, den_varA, den_varB, hl, Nat.reduceLT, Nat.reduceLeDiff, Nat.reduceSub, List.getD_cons_zero, List.getD_cons_succ, argL_fold ds, argI_fold ds, List.append_assoc, List.cons_append, List.nil_append, toInt_int, toBool_bool, xs_rows, xs_list, Int.toNat_natCast, Dat.bool.injEq]
  rw [wrap64 (x := argI ds 6 + 1) (by omega) (by omega), wrap64 (x := argI ds 5 + 1) (by omega) (by omega)]
  refine ⟨fun _ => h _ _ (by omega) (by omega) (fun e => by cases e), fun h40 => ⟨fun _ => h _ _ (by omega) (by omega) (fun e => by cases e), fun h300 => ?_⟩⟩
  refine ⟨fun xs m => ∃ (i : Nat) (z : Int) (zb : Bool), i ≤ (argL ds 4).length ∧ m = (argL ds 4).length - i ∧ xs = [.int .i64 (argI ds 6 + (1 + Eff.sizes (((argL ds 4).take i).map effOf) : Nat)), .int .i64 z, .bool zb, .int .i64 i] ∧ argI ds 6 + (1 + Eff.sizes (((argL ds 4).take i).map effOf) : Nat) ≤ 300, ⟨_, 0, 0, false, by omega, rfl, by simp [Eff.sizes], by simp [Eff.sizes]; omega⟩, ?_⟩
  rintro s z' zb' i' m ⟨i, z, zb, hi, hmi, e, h3⟩
  cases e
  have hli := Eff.length_le_sizes (((argL ds 4).take i).map effOf)
  rw [List.length_map, List.length_take, Nat.min_eq_left hi] at hli
  refine ⟨fun hlt => ⟨by omega, ?_⟩, fun hge => ?_⟩
  · have hi2 : i < (argL ds 4).length := by omega
    have hr := hrow _ (getD_memL (d := []) hi2)
    have ht := take_succ_getD (d := ([] : List Dat)) hi2
    have hle : (effOf ((argL ds 4).getD i [])).size ≤ Eff.sizes ((argL ds 4).map effOf) := Eff.size_le_sizes (List.mem_map.2 ⟨_, getD_memL hi2, rfl⟩)
    simp only [Int.toNat_natCast, fold5xy hr, mE]
    rw [argE_row hr, argI_row hr (by omega), argI_row hr (by omega), argI_0, argI_1]
    simp only [toInt_int]
    refine ⟨by omega, by omega, by omega, by omega, by omega, fun k b hk0 hk1 hb => ⟨fun hf => h _ _ hk0 hk1 (fun e => by cases e), fun htr => ?_⟩⟩
    obtain ⟨e1, e2⟩ := hb htr
    have et : Eff.sizes (((argL ds 4).take (i + 1)).map effOf) = Eff.sizes (((argL ds 4).take i).map effOf) + (effOf ((argL ds 4).getD i [])).size := by
      rw [ht, List.map_append, Eff.sizes_append]; simp [Eff.sizes]
    refine ⟨(argL ds 4).length - (i + 1), by omega, i + 1, z', zb', by omega, rfl, ?_, by omega⟩
    rw [wrap64 (by omega) (by omega), et, e1]
    congr 2
    omega
  · have hkk : i = (argL ds 4).length := by omega
    rw [hkk, List.take_of_length_le (by omega)] at h3 ⊢
    refine h _ _ (by omega) (by omega) (fun _ => ⟨rfl, h3⟩))
noncomputable def con_room : Con E0 := ⟨k_room, sg_room, room_s, rfl, bo_room, room_h⟩
def k_Large : Nat := 8
def sg_Large : Sig := ⟨[(true, List.replicate 4 (.int .i64) ++ [.list 24])], [(false, [.bool])], false, false, false⟩
def tr_Large : Tree := (.call k_room [(.var 0), (.var 1), (.var 2), (.var 3), (.var 4), (.int .i64 0), (.int .i64 0)] [(.int .i64), .bool]
(.ite (.not (.var 6))
 (.ret [(.bool true)])
 (.ret [(.cmp .gt (.var 5) (.int .i64 300))])))
theorem wk_Large : walk E0.cx (sgsN [(28, sg_room)]) 0 8 sg_Large = tr_Large := by kernel_rfl
theorem bo_Large : ∃ x, bodyOf E0.P 8 = some x := bo_of (by kernel_rfl)
theorem sp_Large_room : specC [con_room] k_room = room_s := rfl
def Large_s : Spec := fun ds Q => ∀ b : Bool, (b = false → (argE ds).size ≤ 300) → Q [.bool b]
theorem Large_h : Holds E0 k_Large sg_Large Large_s := con_fn wf0 mix0 g0 [con_room] rfl wk_Large rfl (by
  intro Φ hΦ ds Q hs h
  have hl : ds.length = 5 := hs.length.symm
  have sp : Φ k_room = room_s := by rw [hΦ]; rfl
  clear hΦ
  simp only [tr_Large, wp, den_int, den_bool, den_nili, den_ar, den_cmp, den_not, den_len, den_elem, den_isnil, den_errI, den_ifc, den_rep, den_push, den_app, den_emp, den_upd, row0_econs, row0_enil, den_and, den_beq, den_nil, toInt_int, toBool_bool, xs_rows, xs_list, dflt_int, dflt_bool, of_eq, of_ne, of_lt, of_le, of_gt, of_ge, of_add, of_sub, of_rem, List.map_cons, List.map_nil, Dat.bool.injEq, decide_eq_true_eq, decide_eq_false_iff_not, Bool.not_eq_true', Bool.not_eq_false', beq_iff_eq, bne_iff_ne, beq_eq_false_iff_ne, bne_eq_false_iff_eq, ne_eq, List.append_assoc, List.cons_append, List.nil_append, allS, sp, room_s, @den_var0 E0.Δ ds, den_varA, den_varB, hl, Nat.reduceLT, Nat.reduceLeDiff, Nat.reduceSub, List.getD_cons_zero, List.getD_cons_succ, argL_fold ds, argI_fold ds, List.append_assoc, List.cons_append, List.nil_append, toInt_int, toBool_bool, xs_rows, xs_list, Int.toNat_natCast, Dat.bool.injEq, fold5xy hl]
  rw [argE_row hl, argI_row hl (by omega), argI_row hl (by omega), argI_0, argI_1]
  simp only [toInt_int]
  refine ⟨by decide, by decide, by decide, by decide, fun k b hk0 hk1 hb => ⟨fun hf => h _ (fun e => by cases e), fun ht => h _ (fun hf => ?_)⟩⟩
  rw [argE_row0 hl]
  have := (hb ht).1
  simp only [decide_eq_false_iff_not] at hf
  omega)
noncomputable def con_Large : Con E0 := ⟨k_Large, sg_Large, Large_s, rfl, bo_Large, Large_h⟩
end Go.Proofs.Ytkilkcgnfhlfiaa
