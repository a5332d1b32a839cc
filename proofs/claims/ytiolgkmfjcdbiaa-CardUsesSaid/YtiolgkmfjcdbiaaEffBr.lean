/-
  Which effects are larger than is looked at.
-/
import Derived.Test.YtiolgkmfjcdbiaaEffA
namespace Go.Proofs.Ytiolgkmfjcdbiaa
open Go.RowKit
set_option linter.unusedVariables false
set_option linter.unusedSimpArgs false

def k_room : Nat := 35
def sg_room : Sig := ⟨[(true, List.replicate 4 (.int .i64) ++ [.list 36]), (false, [.int .i64]), (false, [.int .i64])], [(false, [.int .i64]), (false, [.bool])], false, false, false⟩
def tr_room : Tree := (.ite (.cmp .gt (.var 5) (.int .i64 40))
 (.ret [(.ar .add .i64 (.var 6) (.int .i64 1)), (.bool false)])
 (.ite (.cmp .gt (.ar .add .i64 (.var 6) (.int .i64 1)) (.int .i64 300))
  (.ret [(.ar .add .i64 (.var 6) (.int .i64 1)), (.bool false)])
  (.loop [(.ar .add .i64 (.var 6) (.int .i64 1)), (.int .i64 0), (.bool false), (.int .i64 0)] [(.int .i64), (.int .i64), .bool, (.int .i64)]
   (.ite (.cmp .lt (.var 10) (.len (.var 4)))
    (.ob (.cmp .ge (.var 10) (.int .i64 0))
    (.call k_room [(.elem (.var 4) (.var 10) 0 (.int .i64)), (.elem (.var 4) (.var 10) 1 (.int .i64)), (.elem (.var 4) (.var 10) 2 (.int .i64)), (.elem (.var 4) (.var 10) 3 (.int .i64)), (.elem (.var 4) (.var 10) 4 (.list 36)), (.ar .add .i64 (.var 5) (.int .i64 1)), (.var 7)] [(.int .i64), .bool]
    (.ite (.not (.var 12))
     (.ret [(.var 11), (.bool false)])
     (.again 0 [(.var 11), (.var 8), (.var 9), (.ar .add .i64 (.var 10) (.int .i64 1))]))))
    (.ret [(.var 7), (.bool true)])))))
theorem wk_room : walk E0.cx (sgsN [(35, sg_room)]) 0 35 sg_room = tr_room := by kernel_rfl
theorem bo_room : ∃ x, bodyOf E0.P 35 = some x := bo_of (by kernel_rfl)
def room_s : Spec := fun ds Q => 0 ≤ argI ds 5 ∧ argI ds 5 ≤ 41 ∧ 0 ≤ argI ds 6 ∧ argI ds 6 ≤ 300 ∧ ∀ (k : Int) (b : Bool), 0 ≤ k → k ≤ 301 → (b = true → k = argI ds 6 + (argE ds).size ∧ k ≤ 300) → Q [.int .i64 k, .bool b]
theorem room_h : Holds E0 k_room sg_room room_s := holds_rec mE fun n ih => con_fn wf0 mix0 g0 [⟨_, _, _, rfl, bo_room, ih⟩] rfl wk_room rfl (by
  intro Φ hΦ ds Q hs ⟨hm, hd0, hd1, hm0, hm1, h⟩
  have hl : ds.length = 7 := hs.length.symm
  have sp : Φ k_room = (fun ds Q => mE ds < n ∧ room_s ds Q) := by rw [hΦ]; rfl
  clear hΦ
  have hrow := eff_len (all2_get hs (i := 4) rfl)
  rw [argL_fold] at hrow
  have hsub := argE_subs ds
  rw [mE] at hm
  rw [Eff.size_eq, hsub] at hm h
  simp only [tr_room, wp, den_int, den_bool, den_nili, den_ar, den_cmp, den_not, den_len, den_elem, den_isnil, den_errI, den_ifc, den_rep, den_push, den_app, den_emp, den_upd, row0_econs, row0_enil, den_and, den_beq, den_nil, toInt_int, toBool_bool, xs_rows, xs_list, dflt_int, dflt_bool, of_eq, of_ne, of_lt, of_le, of_gt, of_ge, of_add, of_sub, of_rem, List.map_cons, List.map_nil, Dat.bool.injEq, decide_eq_true_eq, decide_eq_false_iff_not, Bool.not_eq_true', Bool.not_eq_false', beq_iff_eq, bne_iff_ne, beq_eq_false_iff_ne, bne_eq_false_iff_eq, ne_eq, List.append_assoc, List.cons_append, List.nil_append, allS, sp, room_s, @den_var0 E0.Δ ds, den_varA, den_varB, hl, Nat.reduceLT, Nat.reduceLeDiff, Nat.reduceSub, List.getD_cons_zero, List.getD_cons_succ, argL_fold ds, argI_fold ds, List.append_assoc, List.cons_append, List.nil_append, toInt_int, toBool_bool, xs_rows, xs_list, Int.toNat_natCast, Dat.bool.injEq]
  rw [wrap64 (x := argI ds 6 + 1) (by omega) (by omega), wrap64 (x := argI ds 5 + 1) (by omega) (by omega)]
  refine ⟨fun _ => h _ _ (by omega) (by omega) (fun e => by cases e), fun h40 => ⟨fun _ => h _ _ (by omega) (by omega) (fun e => by cases e), fun h300 => ?_⟩⟩
  refine ⟨fun xs m => ∃ (i : Nat) (z : Int) (zb : Bool), i ≤ (argL ds 4).length ∧ m = (argL ds 4).length - i ∧ xs = [.int .i64 (argI ds 6 + (1 + Eff.sizes (((argL ds 4).take i).map effOf) : Nat)), .int .i64 z, .bool zb, .int .i64 i] ∧ argI ds 6 + (1 + Eff.sizes (((argL ds 4).take i).map effOf) : Nat) ≤ 300, ⟨_, 0, 0, false, by omega, rfl, by simp [Eff.sizes], by simp [Eff.sizes]; omega⟩, ?_⟩
  rintro s z' zb' i' m ⟨i, z, zb, hi, hmi, e, h3⟩
  cases e
  have hli := Eff.length_le_sizes (((argL ds 4).take i).map effOf)
  rw [List.length_map, List.length_take, Nat.min_eq_left hi] at hli
  refine ⟨fun hlt => ⟨by omega, ?_⟩, fun hge => ?_⟩
  · have hi2 : i < (argL ds 4).length := by omega
    have hr := hrow _ (getD_memL (d := []) hi2)
    have ht := take_succ_getD (d := ([] : List Dat)) hi2
    have hle : (effOf ((argL ds 4).getD i [])).size ≤ Eff.sizes ((argL ds 4).map effOf) := Eff.size_le_sizes (List.mem_map.2 ⟨_, getD_memL hi2, rfl⟩)
    simp only [Int.toNat_natCast, fold5xy hr, mE]
    rw [argE_row hr, argI_row hr (by omega), argI_row hr (by omega), argI_0, argI_1]
    simp only [toInt_int]
    refine ⟨by omega, by omega, by omega, by omega, by omega, fun k b hk0 hk1 hb => ⟨fun hf => h _ _ hk0 hk1 (fun e => by cases e), fun htr => ?_⟩⟩
    obtain ⟨e1, e2⟩ := hb htr
    have et : Eff.sizes (((argL ds 4).take (i + 1)).map effOf) = Eff.sizes (((argL ds 4).take i).map effOf) + (effOf ((argL ds 4).getD i [])).size := by
      rw [ht, List.map_append, Eff.sizes_append]; simp [Eff.sizes]
    refine ⟨(argL ds 4).length - (i + 1), by omega, i + 1, z', zb', by omega, rfl, ?_, by omega⟩
    rw [wrap64 (by omega) (by omega), et, e1]
    congr 2
    omega
  · have hkk : i = (argL ds 4).length := by omega
    rw [hkk, List.take_of_length_le (by omega)] at h3 ⊢
    refine h _ _ (by omega) (by omega) (fun _ => ⟨rfl, h3⟩))
noncomputable def con_room : Con E0 := ⟨k_room, sg_room, room_s, rfl, bo_room, room_h⟩
def k_Large : Nat := 22
def sg_Large : Sig := ⟨[(true, List.replicate 4 (.int .i64) ++ [.list 36])], [(false, [.bool])], false, false, false⟩
def tr_Large : Tree := (.call k_room [(.var 0), (.var 1), (.var 2), (.var 3), (.var 4), (.int .i64 0), (.int .i64 0)] [(.int .i64), .bool]
(.ite (.not (.var 6))
 (.ret [(.bool true)])
 (.ret [(.cmp .gt (.var 5) (.int .i64 300))])))
theorem wk_Large : walk E0.cx (sgsN [(35, sg_room)]) 0 22 sg_Large = tr_Large := by kernel_rfl
theorem bo_Large : ∃ x, bodyOf E0.P 22 = some x := bo_of (by kernel_rfl)
theorem sp_Large_room : specC [con_room] k_room = room_s := rfl
def Large_s : Spec := fun ds Q => ∀ b : Bool, (b = false → (argE ds).size ≤ 300) → Q [.bool b]
theorem Large_h : Holds E0 k_Large sg_Large Large_s := con_fn wf0 mix0 g0 [con_room] rfl wk_Large rfl (by
  intro Φ hΦ ds Q hs h
  have hl : ds.length = 5 := hs.length.symm
  have sp : Φ k_room = room_s := by rw [hΦ]; rfl
  clear hΦ
  simp only [tr_Large, wp, den_int, den_bool, den_nili, den_ar, den_cmp, den_not, den_len, den_elem, den_isnil, den_errI, den_ifc, den_rep, den_push, den_app, den_emp, den_upd, row0_econs, row0_enil, den_and, den_beq, den_nil, toInt_int, toBool_bool, xs_rows, xs_list, dflt_int, dflt_bool, of_eq, of_ne, of_lt, of_le, of_gt, of_ge, of_add, of_sub, of_rem, List.map_cons, List.map_nil, Dat.bool.injEq, decide_eq_true_eq, decide_eq_false_iff_not, Bool.not_eq_true', Bool.not_eq_false', beq_iff_eq, bne_iff_ne, beq_eq_false_iff_ne, bne_eq_false_iff_eq, ne_eq, List.append_assoc, List.cons_append, List.nil_append, allS, sp, room_s, @den_var0 E0.Δ ds, den_varA, den_varB, hl, Nat.reduceLT, Nat.reduceLeDiff, Nat.reduceSub, List.getD_cons_zero, List.getD_cons_succ, argL_fold ds, argI_fold ds, List.append_assoc, List.cons_append, List.nil_append, toInt_int, toBool_bool, xs_rows, xs_list, Int.toNat_natCast, Dat.bool.injEq, fold5xy hl]
  rw [argE_row hl, argI_row hl (by omega), argI_row hl (by omega), argI_0, argI_1]
  simp only [toInt_int]
  refine ⟨by decide, by decide, by decide, by decide, fun k b hk0 hk1 hb => ⟨fun hf => h _ (fun e => by cases e), fun ht => h _ (fun hf => ?_)⟩⟩
  rw [argE_row0 hl]
  have := (hb ht).1
  simp only [decide_eq_false_iff_not] at hf
  omega)
noncomputable def con_Large : Con E0 := ⟨k_Large, sg_Large, Large_s, rfl, bo_Large, Large_h⟩
end Go.Proofs.Ytiolgkmfjcdbiaa
