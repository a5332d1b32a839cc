import Derived.Test.YtnhahmgbgocdgaaDoorM12
import Derived.Test.YtnhahmgbgocdgaaDoorM11

set_option linter.unusedVariables false
set_option linter.unusedSimpArgs false

section
namespace Go.Proofs.YtnhahmgbgocdgaaDoor
open Go.RowKit
set_option linter.unusedVariables false
set_option linter.unusedSimpArgs false

theorem errP_0 {S : List Dat} (h : errP S 0) : (argL S 0).length ≤ 400 ∧ rangesP S ∧ zonesP S := by
  unfold errP at h
  split at h
  · exact absurd h (by decide)
  · rename_i h4
    rcases h with h | h | h | h
    · exact absurd h.2 (by decide)
    · exact absurd h.2.2 (by decide)
    · exact absurd h.2.2.2 (by decide)
    · exact ⟨by omega, h.1, h.2.1⟩
theorem alls_of (S : List Dat) : alls S 11 = (List.range 11).flatMap (lst S) := by
  simp only [alls_succ, show alls S 0 = [] from rfl, List.range_succ, List.range_zero, List.nil_append, List.flatMap_append, List.flatMap_cons, List.flatMap_nil, List.append_nil, List.append_assoc]
theorem lst_small {S : List Dat} (h : zonesP S) (h4 : (argL S 0).length ≤ 400) {z : Nat} (hz : z < 11) : (lst S z).length ≤ 400 ∧ ∀ x ∈ lst S z, 0 ≤ x ∧ x < 400 := by
  have hl : (alls S 11).length = (argL S 0).length := by unfold alls; rw [List.length_map]; exact h.2.2
  have hsub : (lst S z).Sublist (alls S 11) := by
    rw [alls_of]
    match z, hz with
    | 0, _ | 1, _ | 2, _ | 3, _ | 4, _ | 5, _ | 6, _ | 7, _ | 8, _ | 9, _ | 10, _ => exact List.sublist_flatten_of_mem (List.mem_map.2 ⟨_, by simp [List.range_succ], rfl⟩)
  refine ⟨by have := hsub.length_le; omega, fun x hx => ?_⟩
  have := h.1 ((z : Int), x) (mem_ids.2 ⟨z, hz, rfl, hx⟩)
  exact ⟨this.1, by have := this.2.1; simp only at this; omega⟩
theorem headN18 (o : List Dat) : headN [o.getD 0 (.int .i64 0), o.getD 1 (.int .i64 0), o.getD 2 (.int .i64 0), o.getD 3 (.int .i64 0), o.getD 4 (.int .i64 0), o.getD 5 (.int .i64 0), o.getD 6 (.int .i64 0), o.getD 7 (.int .i64 0), o.getD 8 (.int .i64 0), o.getD 9 (.int .i64 0), o.getD 10 (.int .i64 0), o.getD 11 (.int .i64 0), o.getD 12 (.int .i64 0), o.getD 13 (.int .i64 0), o.getD 14 (.int .i64 0), o.getD 15 (.int .i64 0), o.getD 16 (.int .i64 0), o.getD 17 (.int .i64 0)] = headN o := rfl
theorem objB18 (o : List Dat) (m : Int) : objB [o.getD 0 (.int .i64 0), o.getD 1 (.int .i64 0), o.getD 2 (.int .i64 0), o.getD 3 (.int .i64 0), o.getD 4 (.int .i64 0), o.getD 5 (.int .i64 0), o.getD 6 (.int .i64 0), o.getD 7 (.int .i64 0), o.getD 8 (.int .i64 0), o.getD 9 (.int .i64 0), o.getD 10 (.int .i64 0), o.getD 11 (.int .i64 0), o.getD 12 (.int .i64 0), o.getD 13 (.int .i64 0), o.getD 14 (.int .i64 0), o.getD 15 (.int .i64 0), o.getD 16 (.int .i64 0), o.getD 17 (.int .i64 0)] m = objB o m := rfl
theorem nums_1 (k : IntKind) (n : Int) : nums [[Dat.int k n]] = [n] := rfl
theorem nums_nil : nums [] = [] := rfl
theorem nums_c (a : Dat) (l : List (List Dat)) : nums ([a] :: l) = a.toInt :: nums l := rfl
theorem argL_list (v : Value) (sz : Nat) (xs : List (List Dat)) (l : List Dat) : argL (.list v sz xs :: l) 0 = xs := rfl
theorem objN_ok {o : List Dat} {m : Int} (h : objB o m = true) (hm : m ≤ 1000) : (0 ≤ headN o ∧ headN o ≤ 3000000) ∧ (∀ n ∈ restN o, okN n) ∧ okN (headN o) := by
  have a := fun f hf => inB_iff ((objB_iff o m).1 h f hf)
  have g0 : (0 : Int) ≤ rowI o 0 ∧ rowI o 0 ≤ 119 := a 0 (by omega)
  have g1 : (0 : Int) ≤ rowI o 1 ∧ rowI o 1 ≤ 1 := a 1 (by omega)
  have g2 : (0 : Int) ≤ rowI o 2 ∧ rowI o 2 ≤ 1 := a 2 (by omega)
  have g3 : (0 : Int) ≤ rowI o 3 ∧ rowI o 3 ≤ 10 := a 3 (by omega)
  have g4 : (0 : Int) ≤ rowI o 4 ∧ rowI o 4 ≤ 1 := a 4 (by omega)
  have g5 : (0 : Int) ≤ rowI o 5 ∧ rowI o 5 ≤ 1 := a 5 (by omega)
  have g6 : (0 : Int) ≤ rowI o 6 ∧ rowI o 6 ≤ 1073741824 := a 6 (by omega)
  have g7 : (0 : Int) ≤ rowI o 7 ∧ rowI o 7 ≤ 1073741824 := a 7 (by omega)
  have g8 : (-1073741824 : Int) ≤ rowI o 8 ∧ rowI o 8 ≤ 1073741824 := a 8 (by omega)
  have g9 : (-1073741824 : Int) ≤ rowI o 9 ∧ rowI o 9 ≤ 1073741824 := a 9 (by omega)
  have g10 : (0 : Int) ≤ rowI o 10 ∧ rowI o 10 ≤ 255 := a 10 (by omega)
  have g11 : (0 : Int) ≤ rowI o 11 ∧ rowI o 11 ≤ 1 := a 11 (by omega)
  have g12 : (0 : Int) ≤ rowI o 12 ∧ rowI o 12 ≤ m := a 12 (by omega)
  have g13 : (0 : Int) ≤ rowI o 13 ∧ rowI o 13 ≤ 2 := a 13 (by omega)
  have g14 : (0 : Int) ≤ rowI o 14 ∧ rowI o 14 ≤ 3 := a 14 (by omega)
  have g15 : (0 : Int) ≤ rowI o 15 ∧ rowI o 15 ≤ m := a 15 (by omega)
  have g16 : (-2 : Int) ≤ rowI o 16 ∧ rowI o 16 ≤ m := a 16 (by omega)
  have g17 : (0 : Int) ≤ rowI o 17 ∧ rowI o 17 ≤ 3 := a 17 (by omega)
  clear a
  unfold headN okN
  refine ⟨⟨by omega, by omega⟩, fun n hn => ?_, by omega, by omega⟩
  simp only [restN, List.mem_cons, List.not_mem_nil, or_false] at hn
  rcases hn with rfl | rfl | rfl | rfl | rfl | rfl | rfl | rfl | rfl <;> omega
theorem flat_len (l : List (List Dat)) : (l.flatMap objN).length = 10 * l.length := by
  induction l with
  | nil => rfl
  | cons a l ih =>
    rw [List.flatMap_cons, List.length_append, ih, List.length_cons]
    show 10 + _ = _
    omega
theorem lists_len {S : List Dat} (h : zonesP S) (h4 : (argL S 0).length ≤ 400) : ∀ z, z ≤ 11 → ((List.range z).flatMap (listN S)).length ≤ 401 * z
  | 0, _ => Nat.zero_le _
  | z + 1, hz => by
    have ih := lists_len h h4 z (by omega)
    have := (lst_small h h4 (show z < 11 by omega)).1
    rw [List.range_succ, List.flatMap_append, List.length_append, List.flatMap_cons, List.flatMap_nil, List.append_nil]
    show _ + (_ + 1) ≤ _
    omega
theorem num_ok {S : List Dat} (hR : rangesP S) : ∀ i, i < 25 → okN (argI S (12 + i)) := fun i hi => by
  have lo : ∀ f, f < 9 → -1073741824 ≤ loP f ∧ hiP f ≤ 1073741824 := by decide
  have lg : ∀ f, f < 7 → -1073741824 ≤ loG f ∧ hiG f ≤ 1073741824 := by decide
  unfold okN
  by_cases h18 : i < 18
  · have := inB_iff ((plP_iff S).1 hR.2.1 (i / 9) (by omega) (i % 9) (by omega))
    have e : pl S (9 * (i / 9) + i % 9) = argI S (12 + i) := by unfold pl; congr 1; omega
    rw [e] at this
    have := lo (i % 9) (by omega)
    omega
  · have := inB_iff ((gmP_iff S).1 hR.2.2 (i - 18) (by omega))
    have e : gm S (i - 18) = argI S (12 + i) := by unfold gm; congr 1; omega
    rw [e] at this
    have := lg (i - 18) (by omega)
    omega
def k_tBytes11 : Nat := 8
def sg_tBytes11 : Sig := ⟨[(true, [.list 50] ++ List.replicate 11 (.list 3) ++ List.replicate 25 (.int .i64))], [(false, [.list 5]), (false, [.err])], false, false, true, false, true⟩
def tr_tBytes11 : Tree := (.call k_Check [(.var 0), (.var 1), (.var 2), (.var 3), (.var 4), (.var 5), (.var 6), (.var 7), (.var 8), (.var 9), (.var 10), (.var 11), (.var 12), (.var 13), (.var 14), (.var 15), (.var 16), (.var 17), (.var 18), (.var 19), (.var 20), (.var 21), (.var 22), (.var 23), (.var 24), (.var 25), (.var 26), (.var 27), (.var 28), (.var 29), (.var 30), (.var 31), (.var 32), (.var 33), (.var 34), (.var 35), (.var 36)] [.err]
(.ite (.not (.isnil (.var 37)))
 (.share 5 .emp
 (.ret [(.var 38), (.var 37)]))
 (.lit 3 (.push .emp (.econs (.len (.var 0)) .enil))
 (.call k_cPut [(.nil 5), (.var 38)] [(.list 5)]
 (.loop [.emp, .nili, (.var 39), (.int .i64 0)] [(.rows 5), .err, (.list 5), (.int .i64)]
  (.ite (.cmp .lt (.var 43) (.len (.var 0)))
   (.ob (.cmp .ge (.var 43) (.int .i64 0))
   (.call k_tHead [(.elem (.var 0) (.var 43) 0 (.int .i64)), (.elem (.var 0) (.var 43) 1 (.int .i64)), (.elem (.var 0) (.var 43) 2 (.int .i64)), (.elem (.var 0) (.var 43) 3 (.int .i64)), (.elem (.var 0) (.var 43) 4 (.int .i64)), (.elem (.var 0) (.var 43) 5 (.int .i64)), (.elem (.var 0) (.var 43) 6 (.int .i64)), (.elem (.var 0) (.var 43) 7 (.int .i64)), (.elem (.var 0) (.var 43) 8 (.int .i64)), (.elem (.var 0) (.var 43) 9 (.int .i64)), (.elem (.var 0) (.var 43) 10 (.int .i64)), (.elem (.var 0) (.var 43) 11 (.int .i64)), (.elem (.var 0) (.var 43) 12 (.int .i64)), (.elem (.var 0) (.var 43) 13 (.int .i64)), (.elem (.var 0) (.var 43) 14 (.int .i64)), (.elem (.var 0) (.var 43) 15 (.int .i64)), (.elem (.var 0) (.var 43) 16 (.int .i64)), (.elem (.var 0) (.var 43) 17 (.int .i64))] [(.int .u32), .err]
   (.ite (.not (.isnil (.var 45)))
    (.share 5 .emp
    (.ret [(.var 46), (.var 45)]))
    (.call k_tRest [(.elem (.var 0) (.var 43) 0 (.int .i64)), (.elem (.var 0) (.var 43) 1 (.int .i64)), (.elem (.var 0) (.var 43) 2 (.int .i64)), (.elem (.var 0) (.var 43) 3 (.int .i64)), (.elem (.var 0) (.var 43) 4 (.int .i64)), (.elem (.var 0) (.var 43) 5 (.int .i64)), (.elem (.var 0) (.var 43) 6 (.int .i64)), (.elem (.var 0) (.var 43) 7 (.int .i64)), (.elem (.var 0) (.var 43) 8 (.int .i64)), (.elem (.var 0) (.var 43) 9 (.int .i64)), (.elem (.var 0) (.var 43) 10 (.int .i64)), (.elem (.var 0) (.var 43) 11 (.int .i64)), (.elem (.var 0) (.var 43) 12 (.int .i64)), (.elem (.var 0) (.var 43) 13 (.int .i64)), (.elem (.var 0) (.var 43) 14 (.int .i64)), (.elem (.var 0) (.var 43) 15 (.int .i64)), (.elem (.var 0) (.var 43) 16 (.int .i64)), (.elem (.var 0) (.var 43) 17 (.int .i64))] [(.int .i64), (.int .i64), (.int .i64), (.int .i64), (.int .i64), (.int .i64), (.int .i64), (.int .i64), (.int .i64)]
    (.lit 3 (.push .emp (.econs (.conv .i64 (.var 44)) .enil))
    (.call k_cPut [(.var 42), (.var 55)] [(.list 5)]
    (.share 3 (.push (.push (.push (.push (.push (.push (.push (.push (.push .emp (.econs (.var 46) .enil)) (.econs (.var 47) .enil)) (.econs (.var 48) .enil)) (.econs (.var 49) .enil)) (.econs (.var 50) .enil)) (.econs (.var 51) .enil)) (.econs (.var 52) .enil)) (.econs (.var 53) .enil)) (.econs (.var 54) .enil))
    (.call k_cPut [(.var 56), (.var 57)] [(.list 5)]
    (.again 0 [(.var 40), (.var 41), (.var 58), (.ar .add .i64 (.var 43) (.int .i64 1))])))))))))
   (.loop [(.var 42), (.int .i64 0)] [(.list 5), (.int .i64)]
    (.ite (.cmp .lt (.var 45) (.int .i64 11))
     (.ob (.cmp .ge (.var 45) (.int .i64 0))
     (.call k_wPutList [(.var 44), (.sel (.econs (.var 1) (.econs (.var 2) (.econs (.var 3) (.econs (.var 4) (.econs (.var 5) (.econs (.var 6) (.econs (.var 7) (.econs (.var 8) (.econs (.var 9) (.econs (.var 10) (.econs (.var 11) .enil))))))))))) (.var 45) (.list 3))] [(.list 5)]
     (.again 1 [(.var 46), (.ar .add .i64 (.var 45) (.int .i64 1))])))
     (.loop [(.var 44), (.int .i64 0)] [(.list 5), (.int .i64)]
      (.ite (.cmp .lt (.var 47) (.int .i64 2))
       (.ob (.cmp .ge (.var 47) (.int .i64 0))
       (.share 3 (.push (.push (.push (.push (.push (.push (.push (.push (.push .emp (.econs (.sel (.econs (.var 12) (.econs (.var 21) .enil)) (.var 47) (.int .i64)) .enil)) (.econs (.sel (.econs (.var 13) (.econs (.var 22) .enil)) (.var 47) (.int .i64)) .enil)) (.econs (.sel (.econs (.var 14) (.econs (.var 23) .enil)) (.var 47) (.int .i64)) .enil)) (.econs (.sel (.econs (.var 15) (.econs (.var 24) .enil)) (.var 47) (.int .i64)) .enil)) (.econs (.sel (.econs (.var 16) (.econs (.var 25) .enil)) (.var 47) (.int .i64)) .enil)) (.econs (.sel (.econs (.var 17) (.econs (.var 26) .enil)) (.var 47) (.int .i64)) .enil)) (.econs (.sel (.econs (.var 18) (.econs (.var 27) .enil)) (.var 47) (.int .i64)) .enil)) (.econs (.sel (.econs (.var 19) (.econs (.var 28) .enil)) (.var 47) (.int .i64)) .enil)) (.econs (.sel (.econs (.var 20) (.econs (.var 29) .enil)) (.var 47) (.int .i64)) .enil))
       (.call k_cPut [(.var 46), (.var 48)] [(.list 5)]
       (.again 2 [(.var 49), (.ar .add .i64 (.var 47) (.int .i64 1))]))))
       (.share 3 (.push (.push (.push (.push (.push (.push (.push .emp (.econs (.var 30) .enil)) (.econs (.var 31) .enil)) (.econs (.var 32) .enil)) (.econs (.var 33) .enil)) (.econs (.var 34) .enil)) (.econs (.var 35) .enil)) (.econs (.var 36) .enil))
       (.call k_cPut [(.var 46), (.var 48)] [(.list 5)]
       (.ret [(.var 49), .nili])))))))))))))
theorem wk_tBytes11 : walk E0.cx (sgsN [(15, sg_Check), (16, sg_cPut), (19, sg_wPutList), (17, sg_tHead), (18, sg_tRest)]) 0 8 sg_tBytes11 = tr_tBytes11 := by kernel_rfl
theorem bo_tBytes11 : ∃ x, bodyOf E0.P 8 = some x := bo_of (by kernel_rfl)
theorem sp_tBytes11_Check : specC [con_Check, con_cPut, con_wPutList, con_tHead, con_tRest] k_Check = Check_s := rfl
theorem sp_tBytes11_cPut : specC [con_Check, con_cPut, con_wPutList, con_tHead, con_tRest] k_cPut = cPut_s := rfl
theorem sp_tBytes11_wPutList : specC [con_Check, con_cPut, con_wPutList, con_tHead, con_tRest] k_wPutList = wPutList_s := rfl
theorem sp_tBytes11_tHead : specC [con_Check, con_cPut, con_wPutList, con_tHead, con_tRest] k_tHead = tHead_s := rfl
theorem sp_tBytes11_tRest : specC [con_Check, con_cPut, con_wPutList, con_tHead, con_tRest] k_tRest = tRest_s := rfl
def tBytes11_s : Spec := fun ds Q => Sm ds ∧ ∀ n, errP ds n → (n ≠ 0 → ∀ d : Dat, d.xs = [] → Q [d, errV n]) ∧ (n = 0 → ∀ d : Dat, d.xs = u8R (encs (numsOf ds)) → Q [d, errV 0])
theorem tBytes11_h : Holds E0 k_tBytes11 sg_tBytes11 tBytes11_s := con_fn wf0 mix0 g0 [con_Check, con_cPut, con_wPutList, con_tHead, con_tRest] rfl wk_tBytes11 rfl (by
  intro Φ hΦ ds Q hs ⟨hsm, h⟩
  have hl : ds.length = 37 := hs.length.symm
  have s1 : Φ k_Check = Check_s := by rw [hΦ]; rfl
  have s2 : Φ k_cPut = cPut_s := by rw [hΦ]; rfl
  have s3 : Φ k_wPutList = wPutList_s := by rw [hΦ]; rfl
  have s4 : Φ k_tHead = tHead_s := by rw [hΦ]; rfl
  have s5 : Φ k_tRest = tRest_s := by rw [hΦ]; rfl
  clear hΦ
  simp (config := {maxSteps := 2000000}) only [tr_tBytes11, wp, den_int, den_bool, den_nili, den_ar, den_cmp, den_not, den_len, den_elem, den_isnil, den_errI, den_ifc, den_rep, den_push, den_app, den_emp, den_upd, row0_econs, row0_enil, den_and, den_beq, den_nil, toInt_int, toBool_bool, xs_rows, xs_list, dflt_int, dflt_bool, of_eq, of_ne, of_lt, of_le, of_gt, of_ge, of_add, of_sub, of_rem, List.map_cons, List.map_nil, Dat.bool.injEq, decide_eq_true_eq, decide_eq_false_iff_not, Bool.not_eq_true', Bool.not_eq_false', beq_iff_eq, bne_iff_ne, beq_eq_false_iff_ne, bne_eq_false_iff_eq, ne_eq, List.append_assoc, List.cons_append, List.nil_append, allS, s1, s2, s3, s4, s5, Check_s, cPut_s, wPutList_s, tHead_s, tRest_s, @den_var0 E0.Δ ds, den_varA, den_varB, hl, Nat.reduceLT, Nat.reduceLeDiff, Nat.reduceSub, List.getD_cons_zero, List.getD_cons_succ, argL_fold ds, argI_fold ds, List.append_assoc, List.cons_append, List.nil_append, toInt_int, toBool_bool, xs_rows, xs_list, Int.toNat_natCast, Dat.bool.injEq, den_or, den_conv, dflt_int, toInt_getD, List.append_nil, List.getElem?_cons_zero, List.getElem?_cons_succ, argL_c0, argL_c1, nums_c, nums_nil, headN18, objB18, List.length_cons, List.length_nil, fold37 hl]
  refine ⟨hsm, fun n hn => ?_⟩
  have h := h n hn
  rw [errV_nil]
  refine ⟨fun hx => ?_, fun hx => ?_⟩
  · have e : n ≠ 0 := of_decide_eq_false hx
    exact fun A c => h.1 e _ rfl
  have e : n = 0 := of_decide_eq_true hx
  subst e
  have h := h.2 rfl
  obtain ⟨h4, hR, hZ⟩ := errP_0 hn
  intro A
  refine ⟨by decide, fun n hn => ?_, fun d hd => ?_⟩
  · rw [List.mem_singleton.1 hn]
    exact ⟨by omega, by omega⟩
  refine ⟨fun xs m => ∃ (d0 d1 d2 : Dat) (k : Nat), xs = [d0, d1, d2, .int .i64 k] ∧ k ≤ (argL ds 0).length ∧ m = (argL ds 0).length - k ∧ d2.xs = u8R (encs (((argL ds 0).length : Int) :: ((argL ds 0).take k).flatMap objN)), ⟨_, _, _, _, 0, rfl, by omega, rfl, by rw [hd, List.take_zero]; simp⟩, ?_⟩
  intro e0 he0 e1 he1 e2 he2 n1 m ⟨d0, d1, d2, k, e, hk, hm, hd2⟩
  obtain ⟨rfl, rfl, rfl, rfl⟩ : e0 = d0 ∧ e1 = d1 ∧ e2 = d2 ∧ n1 = (k : Int) := by simpa using e
  subst hm
  refine ⟨fun hlt => ?_, fun hge => ?_⟩
  · have hk2 : k < (argL ds 0).length := by omega
    rw [Int.toNat_natCast]
    have hmem := getD_memL (d := []) hk2
    have hob := hR.1 _ hmem
    have htk : (argL ds 0).take (k + 1) = (argL ds 0).take k ++ [(argL ds 0).getD k []] := take_succ_getD hk2
    obtain ⟨hb, hr, hh⟩ := objN_ok hob (by omega)
    have hl2 := encs_len (((argL ds 0).length : Int) :: ((argL ds 0).take k).flatMap objN)
    rw [List.length_cons, flat_len, List.length_take] at hl2
    have hl3 := encs_len [headN ((argL ds 0).getD k [])]
    generalize (argL ds 0).getD k [] = o at *
    rw [wrap64 (by omega) (by omega)]
    refine ⟨by omega, ⟨_, hob⟩, fun hx => absurd hx (by decide), fun _ A => ⟨by rw [hd2, u8R_len]; omega, fun n hn => by rw [List.mem_singleton.1 hn]; exact hh, fun d3 hd3 A c => ⟨by rw [hd3, hd2, List.length_append, u8R_len, u8R_len]; rw [List.length_singleton] at hl3; omega, hr, fun d4 hd4 => ⟨_, (by omega : (argL ds 0).length - (k + 1) < _), e0, e1, d4, k + 1, by rw [wrap64 (by omega) (by omega)]; rfl, by omega, rfl, ?_⟩⟩⟩⟩
    rw [hd4, hd3, hd2, htk, ← u8R_app, ← u8R_app, ← encs_app]
    show u8R (_ ++ encs (restN o)) = _
    rw [← encs_app, List.flatMap_append, List.flatMap_cons, List.flatMap_nil, List.append_nil]
    refine congrArg (fun l => u8R (encs l)) ?_
    rw [List.append_assoc]; rfl
  obtain rfl : k = (argL ds 0).length := by omega
  rw [List.take_length] at hd2
  have hl2 := encs_len (((argL ds 0).length : Int) :: (argL ds 0).flatMap objN)
  rw [List.length_cons, flat_len] at hl2
  refine ⟨fun xs m => ∃ (d : Dat) (z : Nat), xs = [d, .int .i64 z] ∧ z ≤ 11 ∧ m = 11 - z ∧ d.xs = u8R (encs (((argL ds 0).length : Int) :: ((argL ds 0).flatMap objN ++ (List.range z).flatMap (listN ds)))), ⟨_, _, 0, rfl, by omega, rfl, by rw [hd2, List.range_zero, List.flatMap_nil, List.append_nil]⟩, ?_⟩
  intro f0 hf0 n2 m2 ⟨d3, z, e3, hz, hm3, hd3⟩
  obtain ⟨rfl, rfl⟩ : f0 = d3 ∧ n2 = (z : Int) := by simpa using e3
  subst hm3
  have hl3 := encs_len (((argL ds 0).length : Int) :: ((argL ds 0).flatMap objN ++ (List.range z).flatMap (listN ds)))
  rw [List.length_cons, List.length_append, flat_len] at hl3
  have hl4 := lists_len hZ h4 z hz
  refine ⟨fun hlt => ⟨by omega, ?_⟩, fun hge => ?_⟩
  · have hz11 : z < 11 := by omega
    rw [den_listsG (z := z) (by omega) (by simp only [@den_var0 E0.Δ ds, den_varA, den_varB, hl, Nat.reduceLT, Nat.reduceLeDiff, Nat.reduceSub, List.getD_cons_zero, List.getD_cons_succ, argL_fold ds, argI_fold ds, List.append_assoc, List.cons_append, List.nil_append, toInt_int, toBool_bool, xs_rows, xs_list, Int.toNat_natCast, Dat.bool.injEq]) hz11, argL_fold]
    have hs := lst_small hZ h4 hz11
    have hln := lst_len ds z
    refine ⟨by rw [hd3, u8R_len]; omega, fun n hn => ?_, fun d4 hd4 => ⟨_, (by omega : 11 - (z + 1) < _), d4, z + 1, by rw [wrap64 (by omega) (by omega)]; rfl, by omega, rfl, ?_⟩⟩
    · have := hs.2 n hn
      exact ⟨by omega, by omega⟩
    · rw [hd4, hd3, ← u8R_app, ← encs_app, List.range_succ, List.flatMap_append, List.flatMap_cons, List.flatMap_nil, List.append_nil]
      refine congrArg (fun l => u8R (encs l)) ?_
      rw [List.cons_append, List.append_assoc]
      refine congrArg (fun l => _ :: (_ ++ (_ ++ l))) ?_
      show _ :: nums _ = _ :: _
      rw [hln]; rfl
  obtain rfl : z = 11 := by omega
  have hnum := num_ok hR
  refine ⟨fun xs m => ∃ (d : Dat) (p : Nat), xs = [d, .int .i64 p] ∧ p ≤ 2 ∧ m = 2 - p ∧ d.xs = u8R (encs (((argL ds 0).length : Int) :: ((argL ds 0).flatMap objN ++ (listsN ds ++ (List.range (9 * p)).map fun i => argI ds (12 + i))))), ⟨_, _, 0, rfl, by omega, rfl, by rw [hd3]; simp [listsN]⟩, ?_⟩
  intro g0 hg0 n3 m3 ⟨d4, p, e4, hp, hm4, hd4⟩
  obtain ⟨rfl, rfl⟩ : g0 = d4 ∧ n3 = (p : Int) := by simpa using e4
  subst hm4
  have hl5 := encs_len (((argL ds 0).length : Int) :: ((argL ds 0).flatMap objN ++ (listsN ds ++ (List.range (9 * p)).map fun i => argI ds (12 + i))))
  rw [List.length_cons, List.length_append, flat_len, List.length_append, List.length_map, List.length_range] at hl5
  have hl6 : (listsN ds).length ≤ 401 * 11 := hl4
  refine ⟨fun hlt => ⟨by omega, ?_⟩, fun hge => ?_⟩
  · have hp2 : p = 0 ∨ p = 1 := by omega
    clear hlt
    rcases hp2 with rfl | rfl
    · simp only [den_sel, row0_econs, row0_enil, den_elem, den_len, @den_var0 E0.Δ ds, den_varA, den_varB, hl, Nat.reduceLT, Nat.reduceLeDiff, Nat.reduceSub, List.getD_cons_zero, List.getD_cons_succ, argL_fold ds, argI_fold ds, List.append_assoc, List.cons_append, List.nil_append, toInt_int, toBool_bool, xs_rows, xs_list, Int.toNat_natCast, Dat.bool.injEq, Int.toNat_natCast, List.getD_cons_zero, List.getD_cons_succ, toInt_int]
      refine fun A2 c2 => ⟨by rw [hd4, u8R_len]; omega, fun n hn => ?_, fun d5 hd5 => ⟨_, (by omega : 2 - (0 + 1) < _), d5, 0 + 1, by rw [wrap64 (by omega) (by omega)]; rfl, by omega, rfl, ?_⟩⟩
      · simp only [List.mem_cons, List.not_mem_nil, or_false] at hn
        rcases hn with rfl | rfl | rfl | rfl | rfl | rfl | rfl | rfl | rfl
        · exact hnum 0 (by omega)
        · exact hnum 1 (by omega)
        · exact hnum 2 (by omega)
        · exact hnum 3 (by omega)
        · exact hnum 4 (by omega)
        · exact hnum 5 (by omega)
        · exact hnum 6 (by omega)
        · exact hnum 7 (by omega)
        · exact hnum 8 (by omega)
      · rw [hd5, hd4, ← u8R_app, ← encs_app, List.cons_append, List.append_assoc, List.append_assoc]
        rfl
    · simp only [den_sel, row0_econs, row0_enil, den_elem, den_len, @den_var0 E0.Δ ds, den_varA, den_varB, hl, Nat.reduceLT, Nat.reduceLeDiff, Nat.reduceSub, List.getD_cons_zero, List.getD_cons_succ, argL_fold ds, argI_fold ds, List.append_assoc, List.cons_append, List.nil_append, toInt_int, toBool_bool, xs_rows, xs_list, Int.toNat_natCast, Dat.bool.injEq, Int.toNat_natCast, List.getD_cons_zero, List.getD_cons_succ, toInt_int]
      refine fun A2 c2 => ⟨by rw [hd4, u8R_len]; omega, fun n hn => ?_, fun d5 hd5 => ⟨_, (by omega : 2 - (1 + 1) < _), d5, 1 + 1, by rw [wrap64 (by omega) (by omega)]; rfl, by omega, rfl, ?_⟩⟩
      · simp only [List.mem_cons, List.not_mem_nil, or_false] at hn
        rcases hn with rfl | rfl | rfl | rfl | rfl | rfl | rfl | rfl | rfl
        · exact hnum 9 (by omega)
        · exact hnum 10 (by omega)
        · exact hnum 11 (by omega)
        · exact hnum 12 (by omega)
        · exact hnum 13 (by omega)
        · exact hnum 14 (by omega)
        · exact hnum 15 (by omega)
        · exact hnum 16 (by omega)
        · exact hnum 17 (by omega)
      · rw [hd5, hd4, ← u8R_app, ← encs_app, List.cons_append, List.append_assoc, List.append_assoc]
        rfl
  · obtain rfl : p = 2 := by omega
    refine fun A2 c2 => ⟨by rw [hd4, u8R_len]; omega, fun n hn => ?_, fun d5 hd5 => h _ ?_⟩
    · simp only [List.mem_cons, List.not_mem_nil, or_false] at hn
      rcases hn with rfl | rfl | rfl | rfl | rfl | rfl | rfl
      · exact hnum 18 (by omega)
      · exact hnum 19 (by omega)
      · exact hnum 20 (by omega)
      · exact hnum 21 (by omega)
      · exact hnum 22 (by omega)
      · exact hnum 23 (by omega)
      · exact hnum 24 (by omega)
    · rw [hd5, hd4, ← u8R_app, ← encs_app, List.cons_append, List.append_assoc, List.append_assoc]
      rfl)
noncomputable def con_tBytes11 : Con E0 := ⟨k_tBytes11, sg_tBytes11, tBytes11_s, rfl, bo_tBytes11, tBytes11_h⟩
end Go.Proofs.YtnhahmgbgocdgaaDoor
end

section
namespace Go.Proofs.YtnhahmgbgocdgaaDoor
open Go.RowKit
set_option linter.unusedVariables false
set_option linter.unusedSimpArgs false

theorem getD_old {ρ e : List Dat} {i : Nat} (hi : i < ρ.length) (d : Dat) : (ρ ++ e).getD i d = ρ.getD i d := by
  rw [List.getD_eq_getElem?_getD, List.getD_eq_getElem?_getD, List.getElem?_append_left hi]
theorem getD_end {ρ e : List Dat} {i k : Nat} (hi : ρ.length = i) (d : Dat) : (ρ ++ e).getD (i + k) d = e.getD k d := by
  rw [List.getD_eq_getElem?_getD, List.getD_eq_getElem?_getD, List.getElem?_append_right (by omega), hi, Nat.add_sub_cancel_left]
theorem wp_callE {Φ : Nat → Spec} {Q : List Dat → Prop} {f : Nat} {ts : List Tm} {ss : List Srt} {k : Tree} {ρ args : List Dat} {X : List (Inv × Nat)} (e : ts.map (den E0.Δ ρ) = args) (h : Φ f args fun rs => wp E0.Δ Φ Q k (ρ ++ rs) X) : wp E0.Δ Φ Q (.call f ts ss k) ρ X := by
  show Φ f _ _
  rw [e]; exact h
theorem wp_callG {Φ : Nat → Spec} {Q : List Dat → Prop} {f : Nat} {ts : List Tm} {ss : List Srt} {k : Tree} {ρ e args : List Dat} {X : List (Inv × Nat)} (he : ts.map (den E0.Δ (ρ ++ e)) = args) (h : Φ f args fun rs => wp E0.Δ Φ Q k (ρ ++ (e ++ rs)) X) : wp E0.Δ Φ Q (.call f ts ss k) (ρ ++ e) X := by
  refine wp_callE he ?_
  simp only [List.append_assoc]
  exact h
theorem wp_no {Φ : Nat → Spec} {Q : List Dat → Prop} {c : Tm} {a b : Tree} {ρ : List Dat} {X : List (Inv × Nat)} (hc : den E0.Δ ρ c = .bool false) (h : wp E0.Δ Φ Q b ρ X) : wp E0.Δ Φ Q (.ite c a b) ρ X :=
  ⟨fun hx => absurd (Dat.bool.inj (hc.symm.trans hx)) (by decide), fun _ => h⟩
theorem wp_two {Φ : Nat → Spec} {Q : List Dat → Prop} {c : Tm} {a b : Tree} {ρ : List Dat} {X : List (Inv × Nat)} {v : Bool} (hc : den E0.Δ ρ c = .bool v) (h1 : v = true → wp E0.Δ Φ Q a ρ X) (h2 : v = false → wp E0.Δ Φ Q b ρ X) : wp E0.Δ Φ Q (.ite c a b) ρ X :=
  ⟨fun hx => h1 (Dat.bool.inj (hc.symm.trans hx)), fun hx => h2 (Dat.bool.inj (hc.symm.trans hx))⟩
theorem argsT {ds E : List Dat} {a n : Nat} (h : a + n ≤ ds.length) : ((List.range' a n).map Tm.var).map (den E0.Δ (ds ++ E)) = (ds.drop a).take n := by
  refine List.ext_getElem (by simp; omega) fun i h1 h2 => ?_
  rw [List.getElem_map, List.getElem_map, List.getElem_range', List.getElem_take, List.getElem_drop]
  have h3 : i < n := by simpa using h1
  rw [den_varA (by omega), List.getD_eq_getElem?_getD, List.getElem?_eq_getElem (by omega)]
  simp
theorem argL_end {ρ e : List Dat} {i k : Nat} (hi : ρ.length = i) : argL (ρ ++ e) (i + k) = argL e k := by unfold argL; rw [getD_end hi]
theorem argI_end {ρ e : List Dat} {i k : Nat} (hi : ρ.length = i) : argI (ρ ++ e) (i + k) = argI e k := by unfold argI; rw [getD_end hi]
theorem argL_old {ρ e : List Dat} {i : Nat} (hi : i < ρ.length) : argL (ρ ++ e) i = argL ρ i := by unfold argL; rw [getD_old hi]
theorem argI_old {ρ e : List Dat} {i : Nat} (hi : i < ρ.length) : argI (ρ ++ e) i = argI ρ i := by unfold argI; rw [getD_old hi]
theorem argL_dt {ds : List Dat} {a n i : Nat} (h : i < n) : argL ((ds.drop a).take n) i = argL ds (a + i) := by
  unfold argL
  rw [List.getD_eq_getElem?_getD, List.getElem?_take, if_pos h, List.getElem?_drop, List.getD_eq_getElem?_getD]
theorem argI_dt {ds : List Dat} {a n i : Nat} (h : i < n) : argI ((ds.drop a).take n) i = argI ds (a + i) := by
  unfold argI
  rw [List.getD_eq_getElem?_getD, List.getElem?_take, if_pos h, List.getElem?_drop, List.getD_eq_getElem?_getD]
theorem long_lens {S e : List Dat} {m : Int} (hS : S.length = 37) (h : ¬ LongP m (S ++ e)) : ∀ y, y < 12 → ((argL S y).length : Int) ≤ m + 10 := fun y hy => by
  unfold LongP at h
  rw [not_or] at h
  obtain ⟨h1, h2⟩ := h
  cases y with
  | zero =>
    rw [argL_old (by omega)] at h1
    omega
  | succ z =>
    apply Classical.byContradiction
    intro hx
    exact h2 ⟨z, by omega, by rw [argL_old (by omega)]; omega⟩
theorem errP_ex (S : List Dat) : ∃ n, errP S n := by
  by_cases h1 : 400 < (argL S 0).length
  · exact ⟨5, by unfold errP; rw [if_pos h1]⟩
  · by_cases h2 : rangesP S
    · by_cases h3 : zonesP S
      · by_cases h4 : ∀ o ∈ argL S 0, formedP o
        · exact ⟨0, by unfold errP; rw [if_neg h1]; exact .inr (.inr (.inr ⟨h2, h3, h4, rfl⟩))⟩
        · exact ⟨2, by unfold errP; rw [if_neg h1]; exact .inr (.inr (.inl ⟨h2, h3, h4, rfl⟩))⟩
      · exact ⟨12, by unfold errP; rw [if_neg h1]; exact .inr (.inl ⟨h2, h3, rfl⟩)⟩
    · exact ⟨1, by unfold errP; rw [if_neg h1]; exact .inl ⟨h2, rfl⟩⟩
theorem wp_yes {Φ : Nat → Spec} {Q : List Dat → Prop} {c : Tm} {a b : Tree} {ρ : List Dat} {X : List (Inv × Nat)} (hc : den E0.Δ ρ c = .bool true) (h : wp E0.Δ Φ Q a ρ X) : wp E0.Δ Φ Q (.ite c a b) ρ X :=
  ⟨fun _ => h, fun hx => absurd (Dat.bool.inj (hc.symm.trans hx)) (by decide)⟩
theorem tB_of {ds : List Dat} {Q : List Dat → Prop} (hs : Sm ds) {n : Int} (hn : errP ds n) (h : ∀ d : Dat, (n = 0 → d.xs = u8R (encs (numsOf ds))) → Q [d, errV n]) : tBytes11_s ds Q :=
  ⟨hs, fun m hm => by
    obtain rfl := errP_inj hm hn
    refine ⟨fun h0 d _ => h d fun e => absurd e h0, fun h0 d hd => ?_⟩
    have := h d fun _ => hd
    rw [h0] at this
    exact this⟩
theorem numsOf_ok {S : List Dat} (h : errP S 0) : ∀ n ∈ numsOf S, okN n := by
  obtain ⟨h4, hR, hZ⟩ := errP_0 h
  intro n hn
  unfold numsOf at hn
  rcases List.mem_cons.1 hn with rfl | hn
  · exact ⟨by omega, by omega⟩
  rcases List.mem_append.1 hn with hn | hn
  · obtain ⟨o, ho, hn⟩ := List.mem_flatMap.1 hn
    obtain ⟨_, hr, hh⟩ := objN_ok (hR.1 _ ho) (by omega)
    rcases List.mem_cons.1 hn with rfl | hn
    · exact hh
    · exact hr _ hn
  rcases List.mem_append.1 hn with hn | hn
  · obtain ⟨z, hz, hn⟩ := List.mem_flatMap.1 hn
    have hs := lst_small hZ h4 (List.mem_range.1 hz)
    rcases List.mem_cons.1 hn with rfl | hn
    · have := hs.1
      exact ⟨by omega, by omega⟩
    · have := hs.2 _ hn
      exact ⟨by omega, by omega⟩
  · obtain ⟨i, hi, rfl⟩ := List.mem_map.1 hn
    exact num_ok hR i (List.mem_range.1 hi)
theorem encs_byte {l : List Int} (h : ∀ n ∈ l, okN n) : ∀ c ∈ encs l, c < 256 := fun c hc => by
  obtain ⟨n, hn, hc⟩ := List.mem_flatMap.1 hc
  exact encI_byte (h n hn).1 (h n hn).2 c hc
theorem sameS_iff {ds : List Dat} : SameS ds ↔ (argL (ds.take 37) 0).length = (argL ((ds.drop 37).take 37) 0).length ∧ (∀ i, i < 25 → argI (ds.take 37) (12 + i) = argI ((ds.drop 37).take 37) (12 + i)) ∧ (∀ k, k < (argL (ds.take 37) 0).length → ∀ c, c < 18 → rowI ((argL (ds.take 37) 0).getD k []) c = rowI ((argL ((ds.drop 37).take 37) 0).getD k []) c) ∧ ∀ z, z < 11 → lst (ds.take 37) z = lst ((ds.drop 37).take 37) z := by
  have a0 : argL (ds.take 37) 0 = argL ds 0 := argL_dt (a := 0) (by omega)
  have b0 : argL ((ds.drop 37).take 37) 0 = argL ds 37 := argL_dt (by omega)
  rw [a0, b0]
  refine and_congr Iff.rfl (and_congr ?_ (and_congr Iff.rfl ?_))
  · refine forall_congr' fun i => imp_congr_right fun hi => ?_
    rw [show argI (ds.take 37) (12 + i) = argI ds (12 + i) from (argI_dt (a := 0) (by omega)).trans (by rw [Nat.zero_add]), argI_dt (by omega), show 37 + (12 + i) = 49 + i by omega]
  · refine forall_congr' fun z => imp_congr_right fun hz => ?_
    unfold lst
    rw [show argL (ds.take 37) (z + 1) = argL ds (z + 1) from (argL_dt (a := 0) (by omega)).trans (by rw [Nat.zero_add]), argL_dt (by omega), show 37 + (z + 1) = z + 38 by omega]
    exact Iff.rfl
theorem same_bytes {ds : List Dat} (h1 : errP (ds.take 37) 0) (h2 : errP ((ds.drop 37).take 37) 0) : encs (numsOf (ds.take 37)) = encs (numsOf ((ds.drop 37).take 37)) ↔ SameS ds := by
  rw [sameS_iff, ← nums_same (errP_0 h1).2.1 (errP_0 h2).2.1]
  exact ⟨fun h => encAll_inj (numsOf_ok h1) (numsOf_ok h2) h, fun h => by rw [h]⟩
def k_alive11 : Nat := 6
def sg_alive11 : Sig := ⟨[], [(false, [.bool])], false, false, true, false, false⟩
def tr_alive11 : Tree := (.call k_tBytes11 [(.nil 50), (.nil 3), (.nil 3), (.nil 3), (.nil 3), (.nil 3), (.nil 3), (.nil 3), (.nil 3), (.nil 3), (.nil 3), (.nil 3), (.int .i64 0), (.int .i64 0), (.int .i64 0), (.int .i64 0), (.int .i64 0), (.int .i64 0), (.int .i64 0), (.int .i64 0), (.int .i64 0), (.int .i64 0), (.int .i64 0), (.int .i64 0), (.int .i64 0), (.int .i64 0), (.int .i64 0), (.int .i64 0), (.int .i64 0), (.int .i64 0), (.int .i64 0), (.int .i64 0), (.int .i64 0), (.int .i64 0), (.int .i64 0), (.int .i64 0), (.int .i64 0)] [(.list 5), .err]
(.ite (.isnil (.var 1))
 (.ret [(.seq (.sof (.var 0)) (.sof (.rep (.int .i64 37) (.econs (.int .u8 0) .enil))))])
 (.ret [(.bool false)])))
theorem wk_alive11 : walk E0.cx (sgsN [(8, sg_tBytes11)]) 0 6 sg_alive11 = tr_alive11 := by kernel_rfl
theorem bo_alive11 : ∃ x, bodyOf E0.P 6 = some x := bo_of (by kernel_rfl)
theorem sp_alive11_tBytes11 : specC [con_tBytes11] k_tBytes11 = tBytes11_s := rfl
def alive11_s : Spec := fun ds Q => Q [.bool true]
theorem alive11_h : Holds E0 k_alive11 sg_alive11 alive11_s := con_fn wf0 mix0 g0 [con_tBytes11] rfl wk_alive11 rfl (by
  intro Φ hΦ ds Q hs h
  have s1 : Φ k_tBytes11 = tBytes11_s := by rw [hΦ]; rfl
  have h : Q [.bool true] := h
  clear hΦ
  have hl : ds.length = 0 := hs.length.symm
  obtain rfl : ds = [] := List.length_eq_zero_iff.1 hl
  unfold tr_alive11
  refine wp_callE (args := st0) rfl ?_
  rw [s1]
  refine tB_of sm0 err0 fun d hd => ?_
  have hd := hd rfl
  have en : encs (numsOf st0) = List.replicate 37 0 := by decide
  rw [en] at hd
  show wp E0.Δ Φ Q _ [d, errV 0] []
  refine wp_yes rfl ?_
  show Q [Dat.bool ((strD (Dat.val (.string (bytesOf d.xs)))).toList == (strD (Dat.val (.string (bytesOf (u8R (List.replicate 37 0)))))).toList)]
  rw [hd, beq_self_eq_true]
  exact h)
noncomputable def con_alive11 : Con E0 := ⟨k_alive11, sg_alive11, alive11_s, rfl, bo_alive11, alive11_h⟩
def k_lapart : Nat := 3
def sg_lapart : Sig := ⟨[(true, [.list 50] ++ List.replicate 11 (.list 3) ++ List.replicate 25 (.int .i64)), (true, [.list 50] ++ List.replicate 11 (.list 3) ++ List.replicate 25 (.int .i64))], [(false, [.bool])], false, false, true, false, false⟩
def tr_lapart : Tree := (.call k_alive11 [] [.bool]
(.ite (.not (.var 74))
 (.ret [(.bool false)])
 (.call k_Long [(.var 0), (.var 1), (.var 2), (.var 3), (.var 4), (.var 5), (.var 6), (.var 7), (.var 8), (.var 9), (.var 10), (.var 11), (.var 12), (.var 13), (.var 14), (.var 15), (.var 16), (.var 17), (.var 18), (.var 19), (.var 20), (.var 21), (.var 22), (.var 23), (.var 24), (.var 25), (.var 26), (.var 27), (.var 28), (.var 29), (.var 30), (.var 31), (.var 32), (.var 33), (.var 34), (.var 35), (.var 36), (.int .i64 60)] [.bool]
 (.ite (.var 75)
  (.ret [(.bool true)])
  (.call k_Long [(.var 37), (.var 38), (.var 39), (.var 40), (.var 41), (.var 42), (.var 43), (.var 44), (.var 45), (.var 46), (.var 47), (.var 48), (.var 49), (.var 50), (.var 51), (.var 52), (.var 53), (.var 54), (.var 55), (.var 56), (.var 57), (.var 58), (.var 59), (.var 60), (.var 61), (.var 62), (.var 63), (.var 64), (.var 65), (.var 66), (.var 67), (.var 68), (.var 69), (.var 70), (.var 71), (.var 72), (.var 73), (.int .i64 60)] [.bool]
  (.ite (.var 76)
   (.ret [(.bool true)])
   (.call k_tBytes11 [(.var 0), (.var 1), (.var 2), (.var 3), (.var 4), (.var 5), (.var 6), (.var 7), (.var 8), (.var 9), (.var 10), (.var 11), (.var 12), (.var 13), (.var 14), (.var 15), (.var 16), (.var 17), (.var 18), (.var 19), (.var 20), (.var 21), (.var 22), (.var 23), (.var 24), (.var 25), (.var 26), (.var 27), (.var 28), (.var 29), (.var 30), (.var 31), (.var 32), (.var 33), (.var 34), (.var 35), (.var 36)] [(.list 5), .err]
   (.call k_tBytes11 [(.var 37), (.var 38), (.var 39), (.var 40), (.var 41), (.var 42), (.var 43), (.var 44), (.var 45), (.var 46), (.var 47), (.var 48), (.var 49), (.var 50), (.var 51), (.var 52), (.var 53), (.var 54), (.var 55), (.var 56), (.var 57), (.var 58), (.var 59), (.var 60), (.var 61), (.var 62), (.var 63), (.var 64), (.var 65), (.var 66), (.var 67), (.var 68), (.var 69), (.var 70), (.var 71), (.var 72), (.var 73)] [(.list 5), .err]
   (.ite (.or (.not (.isnil (.var 78))) (.not (.isnil (.var 80))))
    (.call k_rCheck [(.var 0), (.var 1), (.var 2), (.var 3), (.var 4), (.var 5), (.var 6), (.var 7), (.var 8), (.var 9), (.var 10), (.var 11), (.var 12), (.var 13), (.var 14), (.var 15), (.var 16), (.var 17), (.var 18), (.var 19), (.var 20), (.var 21), (.var 22), (.var 23), (.var 24), (.var 25), (.var 26), (.var 27), (.var 28), (.var 29), (.var 30), (.var 31), (.var 32), (.var 33), (.var 34), (.var 35), (.var 36)] [(.int .i64)]
    (.ite (.beq (.isnil (.var 78)) (.cmp .eq (.var 81) (.int .i64 0)))
     (.call k_rCheck [(.var 37), (.var 38), (.var 39), (.var 40), (.var 41), (.var 42), (.var 43), (.var 44), (.var 45), (.var 46), (.var 47), (.var 48), (.var 49), (.var 50), (.var 51), (.var 52), (.var 53), (.var 54), (.var 55), (.var 56), (.var 57), (.var 58), (.var 59), (.var 60), (.var 61), (.var 62), (.var 63), (.var 64), (.var 65), (.var 66), (.var 67), (.var 68), (.var 69), (.var 70), (.var 71), (.var 72), (.var 73)] [(.int .i64)]
     (.ret [(.beq (.isnil (.var 80)) (.cmp .eq (.var 82) (.int .i64 0)))]))
     (.ret [(.bool false)])))
    (.call k_sameB [(.var 77), (.var 79)] [.bool]
    (.call k_nStates [(.var 0), (.var 1), (.var 2), (.var 3), (.var 4), (.var 5), (.var 6), (.var 7), (.var 8), (.var 9), (.var 10), (.var 11), (.var 12), (.var 13), (.var 14), (.var 15), (.var 16), (.var 17), (.var 18), (.var 19), (.var 20), (.var 21), (.var 22), (.var 23), (.var 24), (.var 25), (.var 26), (.var 27), (.var 28), (.var 29), (.var 30), (.var 31), (.var 32), (.var 33), (.var 34), (.var 35), (.var 36), (.var 37), (.var 38), (.var 39), (.var 40), (.var 41), (.var 42), (.var 43), (.var 44), (.var 45), (.var 46), (.var 47), (.var 48), (.var 49), (.var 50), (.var 51), (.var 52), (.var 53), (.var 54), (.var 55), (.var 56), (.var 57), (.var 58), (.var 59), (.var 60), (.var 61), (.var 62), (.var 63), (.var 64), (.var 65), (.var 66), (.var 67), (.var 68), (.var 69), (.var 70), (.var 71), (.var 72), (.var 73)] [.bool]
    (.ret [(.beq (.var 81) (.var 82))]))))))))))))
theorem wk_lapart : walk E0.cx (sgsN [(6, sg_alive11), (7, sg_Long), (8, sg_tBytes11), (9, sg_rCheck), (10, sg_sameB), (11, sg_nStates)]) 0 3 sg_lapart = tr_lapart := by kernel_rfl
theorem bo_lapart : ∃ x, bodyOf E0.P 3 = some x := bo_of (by kernel_rfl)
theorem sp_lapart_alive11 : specC [con_alive11, con_Long, con_tBytes11, con_rCheck, con_sameB, con_nStates] k_alive11 = alive11_s := rfl
theorem sp_lapart_Long : specC [con_alive11, con_Long, con_tBytes11, con_rCheck, con_sameB, con_nStates] k_Long = Long_s := rfl
theorem sp_lapart_tBytes11 : specC [con_alive11, con_Long, con_tBytes11, con_rCheck, con_sameB, con_nStates] k_tBytes11 = tBytes11_s := rfl
theorem sp_lapart_rCheck : specC [con_alive11, con_Long, con_tBytes11, con_rCheck, con_sameB, con_nStates] k_rCheck = rCheck_s := rfl
theorem sp_lapart_sameB : specC [con_alive11, con_Long, con_tBytes11, con_rCheck, con_sameB, con_nStates] k_sameB = sameB_s := rfl
theorem sp_lapart_nStates : specC [con_alive11, con_Long, con_tBytes11, con_rCheck, con_sameB, con_nStates] k_nStates = nStates_s := rfl
set_option maxRecDepth 10000 in
theorem lapart_h : Holds E0 k_lapart sg_lapart true_s := con_fn wf0 mix0 g0 [con_alive11, con_Long, con_tBytes11, con_rCheck, con_sameB, con_nStates] rfl wk_lapart rfl (by
  intro Φ hΦ ds Q hs h
  have hl : ds.length = 74 := hs.length.symm
  have s1 : Φ k_alive11 = alive11_s := by rw [hΦ]; rfl
  have s2 : Φ k_Long = Long_s := by rw [hΦ]; rfl
  have s3 : Φ k_tBytes11 = tBytes11_s := by rw [hΦ]; rfl
  have s4 : Φ k_rCheck = rCheck_s := by rw [hΦ]; rfl
  have s5 : Φ k_sameB = sameB_s := by rw [hΦ]; rfl
  have s6 : Φ k_nStates = nStates_s := by rw [hΦ]; rfl
  have h : Q [.bool true] := h
  clear hΦ hs
  have ht : (ds.take 37).length = 37 := by rw [List.length_take]; omega
  have hd : ((ds.drop 37).take 37).length = 37 := by rw [List.length_take, List.length_drop]; omega
  have g : ∀ (l : List Dat) (k : Nat) (d : Dat), (ds ++ l).getD (74 + k) d = l.getD k d := fun l k d => getD_end hl d
  have aS : ∀ e, ((List.range' 0 37).map Tm.var).map (den E0.Δ (ds ++ e)) = ds.take 37 := fun e => by rw [argsT (by omega)]; rfl
  have aT : ∀ e, ((List.range' 37 37).map Tm.var).map (den E0.Δ (ds ++ e)) = (ds.drop 37).take 37 := fun e => argsT (by omega)
  unfold tr_lapart
  refine wp_callE (args := []) rfl ?_
  rw [s1]
  show wp E0.Δ Φ Q _ (ds ++ [.bool true]) []
  refine wp_no ?_ ?_
  · show Dat.bool (!((ds ++ [Dat.bool true]).getD (74 + 0) (.bool false)).toBool) = _
    rw [g]; rfl
  refine wp_callG (args := ds.take 37 ++ [.int .i64 60]) ?_ ?_
  · show ((List.range' 0 37).map Tm.var ++ [Tm.int .i64 60]).map (den E0.Δ (ds ++ [.bool true])) = _
    rw [List.map_append, aS]; rfl
  rw [s2]
  have hA : argI (ds.take 37 ++ [Dat.int .i64 60]) 37 = 60 := (argI_end (k := 0) ht).trans rfl
  refine ⟨by rw [hA]; decide, by rw [hA]; decide, fun b hb => ?_⟩
  rw [hA] at hb
  show wp E0.Δ Φ Q _ (ds ++ [.bool true, .bool b]) []
  refine wp_two (v := b) ?_ (fun _ => h) fun hbf => ?_
  · show (ds ++ [Dat.bool true, .bool b]).getD (74 + 1) (.bool false) = _
    rw [g]; rfl
  have LA := long_lens ht (fun hL => by rw [hb.2 hL] at hbf; cases hbf)
  refine wp_callG (args := (ds.drop 37).take 37 ++ [.int .i64 60]) ?_ ?_
  · show ((List.range' 37 37).map Tm.var ++ [Tm.int .i64 60]).map (den E0.Δ (ds ++ [.bool true, .bool b])) = _
    rw [List.map_append, aT]; rfl
  rw [s2]
  have hB : argI ((ds.drop 37).take 37 ++ [Dat.int .i64 60]) 37 = 60 := (argI_end (k := 0) hd).trans rfl
  refine ⟨by rw [hB]; decide, by rw [hB]; decide, fun b2 hb2 => ?_⟩
  rw [hB] at hb2
  show wp E0.Δ Φ Q _ (ds ++ [.bool true, .bool b, .bool b2]) []
  refine wp_two (v := b2) ?_ (fun _ => h) fun hbf2 => ?_
  · show (ds ++ [Dat.bool true, .bool b, .bool b2]).getD (74 + 2) (.bool false) = _
    rw [g]; rfl
  have LB := long_lens hd (fun hL => by rw [hb2.2 hL] at hbf2; cases hbf2)
  clear hb hb2 hA hB
  have smS : Sm (ds.take 37) := fun y hy => by have := LA y hy; omega
  have smT : Sm ((ds.drop 37).take 37) := fun y hy => by have := LB y hy; omega
  have smA : Sm ds := fun y hy => by
    have := smS y hy
    rw [show argL (ds.take 37) y = argL ds y from (argL_dt (a := 0) (by omega)).trans (by rw [Nat.zero_add])] at this
    exact this
  have smD : Sm (ds.drop 37) := fun y hy => by
    have := smT y hy
    rw [argL_dt (by omega)] at this
    unfold argL at this ⊢
    rw [List.getD_eq_getElem?_getD, List.getElem?_drop, ← List.getD_eq_getElem?_getD]
    exact this
  obtain ⟨n, hn⟩ := errP_ex (ds.take 37)
  obtain ⟨m, hm⟩ := errP_ex ((ds.drop 37).take 37)
  refine wp_callG (args := ds.take 37) (aS _) ?_
  rw [s3]
  refine tB_of smS hn fun d1 h1 => ?_
  show wp E0.Δ Φ Q _ (ds ++ [.bool true, .bool b, .bool b2, d1, errV n]) []
  refine wp_callG (args := (ds.drop 37).take 37) (aT _) ?_
  rw [s3]
  refine tB_of smT hm fun d2 h2 => ?_
  show wp E0.Δ Φ Q _ (ds ++ [.bool true, .bool b, .bool b2, d1, errV n, d2, errV m]) []
  refine wp_two (v := !decide (n = 0) || !decide (m = 0)) ?_ (fun hv => ?_) fun hv => ?_
  · show Dat.bool ((!isNilI ((ds ++ [.bool true, .bool b, .bool b2, d1, errV n, d2, errV m]).getD (74 + 4) (.bool false))) || (!isNilI ((ds ++ [.bool true, .bool b, .bool b2, d1, errV n, d2, errV m]).getD (74 + 6) (.bool false)))) = _
    rw [g, g]
    show Dat.bool ((!isNilI (errV n)) || (!isNilI (errV m))) = _
    rw [errV_nil, errV_nil]
  · refine wp_callG (args := ds.take 37) (aS _) ?_
    rw [s4]
    refine ⟨smS, fun n' hn' => ?_⟩
    obtain rfl := errP_inj hn' hn
    show wp E0.Δ Φ Q _ (ds ++ [.bool true, .bool b, .bool b2, d1, errV n', d2, errV m, .int .i64 n']) []
    refine wp_yes ?_ ?_
    · show Dat.bool (isNilI ((ds ++ [.bool true, .bool b, .bool b2, d1, errV n', d2, errV m, .int .i64 n']).getD (74 + 4) (.bool false)) == decide (((ds ++ [.bool true, .bool b, .bool b2, d1, errV n', d2, errV m, .int .i64 n']).getD (74 + 7) (.bool false)).toInt = 0)) = _
      rw [g, g]
      show Dat.bool (isNilI (errV n') == decide (n' = 0)) = _
      rw [errV_nil, beq_self_eq_true]
    refine wp_callG (args := (ds.drop 37).take 37) (aT _) ?_
    rw [s4]
    refine ⟨smT, fun m' hm' => ?_⟩
    obtain rfl := errP_inj hm' hm
    show Q [Dat.bool (isNilI ((ds ++ [.bool true, .bool b, .bool b2, d1, errV n', d2, errV m', .int .i64 n', .int .i64 m']).getD (74 + 6) (.bool false)) == decide (((ds ++ [.bool true, .bool b, .bool b2, d1, errV n', d2, errV m', .int .i64 n', .int .i64 m']).getD (74 + 8) (.bool false)).toInt = 0))]
    rw [g, g]
    show Q [Dat.bool (isNilI (errV m') == decide (m' = 0))]
    rw [errV_nil, beq_self_eq_true]
    exact h
  have hv2 : n = 0 ∧ m = 0 := by
    rw [Bool.or_eq_false_iff] at hv
    exact ⟨by simpa using hv.1, by simpa using hv.2⟩
  obtain ⟨rfl, rfl⟩ := hv2
  clear hv
  have h1 := h1 rfl
  have h2 := h2 rfl
  refine wp_callG (args := [d1, d2]) ?_ ?_
  · show [(ds ++ [.bool true, .bool b, .bool b2, d1, errV 0, d2, errV 0]).getD (74 + 3) (.bool false), (ds ++ [.bool true, .bool b, .bool b2, d1, errV 0, d2, errV 0]).getD (74 + 5) (.bool false)] = _
    rw [g, g]; rfl
  rw [s5]
  refine ⟨_, _, h1, h2, encs_byte (numsOf_ok hn), encs_byte (numsOf_ok hm), ?_⟩
  have key := same_bytes hn hm
  generalize hb : decide (encs (numsOf (ds.take 37)) = encs (numsOf ((ds.drop 37).take 37))) = c
  have hc : c = true ↔ SameS ds := by rw [← hb, decide_eq_true_eq]; exact key
  show wp E0.Δ Φ Q _ (ds ++ [.bool true, .bool b, .bool b2, d1, errV 0, d2, errV 0, .bool c]) []
  refine wp_callG (args := ds) ?_ ?_
  · show ((List.range' 0 74).map Tm.var).map (den E0.Δ (ds ++ _)) = _
    rw [argsT (by omega)]
    exact List.take_of_length_le (by rw [List.length_drop]; omega)
  rw [s6]
  refine ⟨smA, smD, fun c2 hc2 => ?_⟩
  obtain rfl : c = c2 := by rw [Bool.eq_iff_iff, hc, hc2]
  show Q [Dat.bool (((ds ++ [.bool true, .bool b, .bool b2, d1, errV 0, d2, errV 0, .bool c, .bool c]).getD (74 + 7) (.bool false)).toBool == ((ds ++ [.bool true, .bool b, .bool b2, d1, errV 0, d2, errV 0, .bool c, .bool c]).getD (74 + 8) (.bool false)).toBool)]
  rw [g, g]
  show Q [Dat.bool (c == c)]
  rw [beq_self_eq_true]
  exact h)
end Go.Proofs.YtnhahmgbgocdgaaDoor
end

section
namespace Go.Proofs.YtnhahmgbgocdgaaDoor
open Go.RowKit
set_option linter.unusedVariables false
set_option linter.unusedSimpArgs false

def i64R (l : List Int) : List (List Dat) := l.map fun n => [.int .i64 n]
theorem i64R_app (a b : List Int) : i64R (a ++ b) = i64R a ++ i64R b := List.map_append
theorem i64R_len (a : List Int) : (i64R a).length = a.length := List.length_map _
def bytes (l : List Nat) : Prop := ∀ c ∈ l, c < 256
theorem bytes_drop {l : List Nat} (h : bytes l) (k : Nat) : bytes (l.drop k) := fun c hc => h c (List.mem_of_mem_drop hc)
/-- a number that was taken -/
theorem tk_0 {l : List Nat} (hb : bytes l) (h : (mth.tk 0 0 l).2.2 = 0) : 0 < (mth.tk 0 0 l).2.1 ∧ (mth.tk 0 0 l).2.1 ≤ l.length ∧ -9223372036854775808 ≤ (mth.tk 0 0 l).1 ∧ (mth.tk 0 0 l).1 ≤ 9223372036854775807 := by
  obtain ⟨v, k, e⟩ : ∃ v k, mth.tk 0 0 l = (v, k, 0) := ⟨_, _, by rw [← h]⟩
  have := mth.tk_canon l v k hb e
  rw [e]; exact this.2
theorem tk_n {l : List Nat} (h : (mth.tk 0 0 l).2.2 ≠ 0) : (mth.tk 0 0 l).1 = 0 ∧ (mth.tk 0 0 l).2.1 = 0 := by
  have := mth.tk_bad l _ _ _ 0 0 rfl h
  exact ⟨this.1, this.2.1⟩
theorem pre_step' {o : List Int} {m : Nat} {b : List Nat} (h : (mth.tk 0 0 b).2.2 = 0) : mth.pre o (mth.tkN (m + 1) b) = mth.pre (o ++ [(mth.tk 0 0 b).1]) (mth.tkN m (b.drop (mth.tk 0 0 b).2.1)) :=
  mth.pre_step (by rw [← h])
theorem pre_bad' {o : List Int} {m : Nat} {b : List Nat} (h : (mth.tk 0 0 b).2.2 ≠ 0) : mth.pre o (mth.tkN (m + 1) b) = ([], [], (mth.tk 0 0 b).2.2) := mth.pre_bad rfl h
def k_wTakeL : Nat := 43
def sg_wTakeL : Sig := ⟨[(false, [.list 5]), (false, [.int .i64])], [(false, [.list 3]), (false, [.list 5]), (false, [.err])], false, false, true, false, false⟩
def tr_wTakeL : Tree := (.call k_wTake [(.var 0)] [(.int .i64), (.list 5), .err]
(.ite (.not (.isnil (.var 4)))
 (.share 3 .emp
 (.share 5 .emp
 (.ret [(.var 5), (.var 6), (.var 4)])))
 (.ite (.cmp .lt (.var 2) (.int .i64 0))
  (.share 3 .emp
  (.share 5 .emp
  (.ret [(.var 5), (.var 6), (.ifc (.int .i64 1))])))
  (.ite (.cmp .gt (.var 2) (.var 1))
   (.share 3 .emp
   (.share 5 .emp
   (.ret [(.var 5), (.var 6), (.ifc (.int .i64 19))])))
   (.loop [.emp, .emp, .nili, (.var 3), .emp, (.int .i64 0)] [(.rows 3), (.rows 5), .err, (.list 5), (.rows 3), (.int .i64)]
    (.ite (.cmp .lt (.var 10) (.var 2))
     (.call k_wTake [(.var 8)] [(.int .i64), (.list 5), .err]
     (.ite (.not (.isnil (.var 13)))
      (.share 3 .emp
      (.share 5 .emp
      (.ret [(.var 14), (.var 15), (.var 13)])))
      (.ob (.cmp .le (.len (.push (.var 9) (.econs (.var 11) .enil))) (.int .i64 17592186044416))
      (.again 0 [(.var 5), (.var 6), (.var 7), (.var 12), (.push (.var 9) (.econs (.var 11) .enil)), (.ar .add .i64 (.var 10) (.int .i64 1))]))))
     (.share 3 (.var 9)
     (.ret [(.var 11), (.var 8), .nili]))))))))
theorem wk_wTakeL : walk E0.cx (sgsN [(41, sg_wTake)]) 0 43 sg_wTakeL = tr_wTakeL := by kernel_rfl
theorem bo_wTakeL : ∃ x, bodyOf E0.P 43 = some x := bo_of (by kernel_rfl)
theorem sp_wTakeL_wTake : specC [con_wTake] k_wTake = wTake_s := rfl
def wTakeL_s : Spec := fun ds Q => ∃ l : List Nat, argL ds 0 = u8R l ∧ bytes l ∧ l.length ≤ 90000000 ∧ ∀ d1 d2 : Dat, d1.xs = i64R (mth.tkL l (argI ds 1)).1 → d2.xs = u8R (mth.tkL l (argI ds 1)).2.1 → Q [d1, d2, errV (mth.tkL l (argI ds 1)).2.2]
theorem wTakeL_h : Holds E0 k_wTakeL sg_wTakeL wTakeL_s := con_fn wf0 mix0 g0 [con_wTake] rfl wk_wTakeL rfl (by
  intro Φ hΦ ds Q hs ⟨l, hx, hb, hn, h⟩
  have hl : ds.length = 2 := hs.length.symm
  have sp : Φ k_wTake = wTake_s := by rw [hΦ]; rfl
  clear hΦ
  simp only [tr_wTakeL, wp, den_int, den_bool, den_nili, den_ar, den_cmp, den_not, den_len, den_elem, den_isnil, den_errI, den_ifc, den_rep, den_push, den_app, den_emp, den_upd, row0_econs, row0_enil, den_and, den_beq, den_nil, toInt_int, toBool_bool, xs_rows, xs_list, dflt_int, dflt_bool, of_eq, of_ne, of_lt, of_le, of_gt, of_ge, of_add, of_sub, of_rem, List.map_cons, List.map_nil, Dat.bool.injEq, decide_eq_true_eq, decide_eq_false_iff_not, Bool.not_eq_true', Bool.not_eq_false', beq_iff_eq, bne_iff_ne, beq_eq_false_iff_ne, bne_eq_false_iff_eq, ne_eq, List.append_assoc, List.cons_append, List.nil_append, allS, sp, wTake_s, argL_c0, argI_c0, @den_var0 E0.Δ ds, den_varA, den_varB, hl, Nat.reduceLT, Nat.reduceLeDiff, Nat.reduceSub, List.getD_cons_zero, List.getD_cons_succ, argL_fold ds, argI_fold ds, List.append_assoc, List.cons_append, List.nil_append, toInt_int, toBool_bool, xs_rows, xs_list, Int.toNat_natCast, Dat.bool.injEq]
  refine ⟨l, hx, hb, hn, fun d hd => ?_⟩
  rw [errV_nil]
  refine ⟨fun h0 => ?_, fun h0 => ?_⟩
  · have h0 : (mth.tk 0 0 l).2.2 ≠ 0 := by simpa using h0
    have e : mth.tkL l (argI ds 1) = ([], [], (mth.tk 0 0 l).2.2) := by rw [mth.tkL, if_neg h0]
    rw [e] at h
    exact fun A c B c' => h _ _ rfl rfl
  have h0 : (mth.tk 0 0 l).2.2 = 0 := by simpa using h0
  rw [if_pos h0] at hd
  have hk := tk_0 hb h0
  have e : mth.tkL l (argI ds 1) = (if (mth.tk 0 0 l).1 < 0 then ([], [], 1) else if argI ds 1 < (mth.tk 0 0 l).1 then ([], [], 19) else mth.tkN (mth.tk 0 0 l).1.toNat (l.drop (mth.tk 0 0 l).2.1)) := by rw [mth.tkL, if_pos h0]
  rw [e] at h
  generalize (mth.tk 0 0 l).1 = N at *
  generalize hK : (mth.tk 0 0 l).2.1 = K at *
  clear e
  refine ⟨fun hneg A c B c' => ?_, fun hpos => ⟨fun hmany A c B c' => ?_, fun hmany => ?_⟩⟩
  · rw [if_pos hneg] at h
    exact h _ _ rfl rfl
  · rw [if_neg hpos, if_pos hmany] at h
    exact h _ _ rfl rfl
  rw [if_neg hpos, if_neg hmany] at h
  refine ⟨fun xs m => ∃ (d1 d2 d3 d : Dat) (r : List Nat) (acc : List Int), xs = [d1, d2, d3, d, .rows (i64R acc), .int .i64 acc.length] ∧ d.xs = u8R r ∧ bytes r ∧ acc.length + r.length ≤ l.length ∧ acc.length ≤ N.toNat ∧ mth.tkN N.toNat (l.drop K) = mth.pre acc (mth.tkN (N.toNat - acc.length) r) ∧ m = N.toNat - acc.length, ⟨_, _, _, _, _, l.drop K, [], rfl, hd, bytes_drop hb _, by simp, by simp, by simpa using mth.pre_start _ _, rfl⟩, ?_⟩
  rintro d1 hd1 d2 hd2 d3 hd3 d4 hd4 d5 hd5 n m ⟨_, _, _, _, r, acc, e, hr, hbr, hlen, hacc, hpre, hm⟩
  obtain ⟨rfl, rfl, rfl, rfl, rfl, rfl⟩ : d1 = _ ∧ d2 = _ ∧ d3 = _ ∧ d4 = _ ∧ d5 = _ ∧ n = _ := by simpa using e
  refine ⟨fun hlt => ⟨r, hr, hbr, by omega, fun d6 hd6 => ?_⟩, fun hge => ?_⟩
  · have hs : N.toNat - acc.length = (N.toNat - (acc.length + 1)) + 1 := by omega
    rw [hs] at hpre
    rw [errV_nil]
    refine ⟨fun h1 => ?_, fun h1 => ⟨?_, ?_⟩⟩
    · have h1 : (mth.tk 0 0 r).2.2 ≠ 0 := by simpa using h1
      rw [pre_bad' h1] at hpre
      rw [hpre] at h
      exact fun A c B c' => h _ _ rfl rfl
    · simp only [xs_rows, List.length_append, i64R_len, List.length_cons, List.length_nil]; omega
    · have h1 : (mth.tk 0 0 r).2.2 = 0 := by simpa using h1
      rw [if_pos h1] at hd6
      have hk1 := tk_0 hbr h1
      rw [pre_step' h1] at hpre
      refine ⟨_, (by omega : N.toNat - (acc.length + 1) < _), d1, d2, d3, d6, r.drop (mth.tk 0 0 r).2.1, acc ++ [(mth.tk 0 0 r).1], ?_, hd6, bytes_drop hbr _, ?_, ?_, ?_, ?_⟩
      · rw [wrap64 (by omega) (by omega), xs_rows, i64R_app, List.length_append]; rfl
      · simp only [List.length_append, List.length_drop, List.length_cons, List.length_nil]; omega
      · simp only [List.length_append, List.length_cons, List.length_nil]; omega
      · simp only [List.length_append, List.length_cons, List.length_nil]; exact hpre
      · simp only [List.length_append, List.length_cons, List.length_nil]
  · have h0 : N.toNat - acc.length = 0 := by omega
    rw [h0, mth.pre_end] at hpre
    rw [hpre] at h
    exact fun A c => h _ _ (by rw [xs_list, xs_rows]) hr)
noncomputable def con_wTakeL : Con E0 := ⟨k_wTakeL, sg_wTakeL, wTakeL_s, rfl, bo_wTakeL, wTakeL_h⟩
theorem cut_u8 {r : Nat} {d : Dat} (hd : Has E0.Δ (.list r) d) {l : List Nat} (hx : d.xs = u8R l) {k : Nat} (hk : k ≤ l.length) : (cutD k l.length d).xs = u8R (l.drop k) := by
  rw [xs_cutD hd hk (by rw [hx, u8R_len]; exact Nat.le_refl _), hx, List.take_of_length_le (by rw [u8R_len]; exact Nat.le_refl _)]
  exact List.map_drop.symm
def k_rTakeL : Nat := 31
def sg_rTakeL : Sig := ⟨[(false, [.list 5]), (false, [.int .i64])], [(false, [.list 3]), (false, [.int .i64]), (false, [.int .i64])], false, false, true, false, false⟩
def tr_rTakeL : Tree := (.call k_rTake2 [(.var 0)] [(.int .i64), (.int .i64), (.int .i64)]
(.ite (.cmp .ne (.var 4) (.int .i64 0))
 (.share 3 .emp
 (.ret [(.var 5), (.int .i64 0), (.var 4)]))
 (.ite (.cmp .lt (.var 2) (.int .i64 0))
  (.share 3 .emp
  (.ret [(.var 5), (.int .i64 0), (.int .i64 1)]))
  (.ite (.cmp .gt (.var 2) (.var 1))
   (.share 3 .emp
   (.ret [(.var 5), (.int .i64 0), (.int .i64 19)]))
   (.loop [.emp, (.int .i64 0), (.int .i64 0), (.var 3), .emp, (.int .i64 0)] [(.rows 3), (.int .i64), (.int .i64), (.int .i64), (.rows 3), (.int .i64)]
    (.ite (.cmp .lt (.var 10) (.var 2))
     (.ob (.cmp .ge (.var 8) (.int .i64 0))
     (.ob (.cmp .le (.var 8) (.len (.var 0)))
     (.call k_rTake2 [(.cut (.var 0) (.var 8) (.len (.var 0)))] [(.int .i64), (.int .i64), (.int .i64)]
     (.ite (.cmp .ne (.var 13) (.int .i64 0))
      (.share 3 .emp
      (.ret [(.var 14), (.int .i64 0), (.var 13)]))
      (.ob (.cmp .le (.len (.push (.var 9) (.econs (.var 11) .enil))) (.int .i64 17592186044416))
      (.again 0 [(.var 5), (.var 6), (.var 7), (.ar .add .i64 (.var 8) (.var 12)), (.push (.var 9) (.econs (.var 11) .enil)), (.ar .add .i64 (.var 10) (.int .i64 1))]))))))
     (.share 3 (.var 9)
     (.ret [(.var 11), (.var 8), (.int .i64 0)]))))))))
theorem wk_rTakeL : walk E0.cx (sgsN [(44, sg_rTake2)]) 0 31 sg_rTakeL = tr_rTakeL := by kernel_rfl
theorem bo_rTakeL : ∃ x, bodyOf E0.P 31 = some x := bo_of (by kernel_rfl)
theorem sp_rTakeL_rTake2 : specC [con_rTake2] k_rTake2 = rTake2_s := rfl
def rTakeL_s : Spec := fun ds Q => ∃ l : List Nat, argL ds 0 = u8R l ∧ bytes l ∧ l.length ≤ 90000000 ∧ ∀ (d1 : Dat) (k : Nat), d1.xs = i64R (mth.tkL l (argI ds 1)).1 → ((mth.tkL l (argI ds 1)).2.2 = 0 → k ≤ l.length ∧ (mth.tkL l (argI ds 1)).2.1 = l.drop k) → Q [d1, .int .i64 k, .int .i64 (mth.tkL l (argI ds 1)).2.2]
theorem rTakeL_h : Holds E0 k_rTakeL sg_rTakeL rTakeL_s := con_fn wf0 mix0 g0 [con_rTake2] rfl wk_rTakeL rfl (by
  intro Φ hΦ ds Q hs ⟨l, hx, hb, hn, h⟩
  have hl : ds.length = 2 := hs.length.symm
  have sp : Φ k_rTake2 = rTake2_s := by rw [hΦ]; rfl
  clear hΦ
  simp only [tr_rTakeL, wp, den_int, den_bool, den_nili, den_ar, den_cmp, den_not, den_len, den_elem, den_isnil, den_errI, den_ifc, den_rep, den_push, den_app, den_emp, den_upd, row0_econs, row0_enil, den_and, den_beq, den_nil, toInt_int, toBool_bool, xs_rows, xs_list, dflt_int, dflt_bool, of_eq, of_ne, of_lt, of_le, of_gt, of_ge, of_add, of_sub, of_rem, List.map_cons, List.map_nil, Dat.bool.injEq, decide_eq_true_eq, decide_eq_false_iff_not, Bool.not_eq_true', Bool.not_eq_false', beq_iff_eq, bne_iff_ne, beq_eq_false_iff_ne, bne_eq_false_iff_eq, ne_eq, List.append_assoc, List.cons_append, List.nil_append, allS, sp, rTake2_s, argL_c0, argI_c0, den_cutT, @den_var0 E0.Δ ds, den_varA, den_varB, hl, Nat.reduceLT, Nat.reduceLeDiff, Nat.reduceSub, List.getD_cons_zero, List.getD_cons_succ, argL_fold ds, argI_fold ds, List.append_assoc, List.cons_append, List.nil_append, toInt_int, toBool_bool, xs_rows, xs_list, Int.toNat_natCast, Dat.bool.injEq]
  refine ⟨l, hx, hb, hn, ?_⟩
  refine ⟨fun h0 => ?_, fun h0 => ?_⟩
  · have e : mth.tkL l (argI ds 1) = ([], [], (mth.tk 0 0 l).2.2) := by rw [mth.tkL, if_neg h0]
    rw [e] at h
    exact fun A c => h _ 0 rfl (fun hh => absurd hh h0)
  have hk := tk_0 hb h0
  have hH : Has E0.Δ (.list 5) (ds.getD 0 (.bool false)) := all2_get hs (i := 0) rfl
  have e : mth.tkL l (argI ds 1) = (if (mth.tk 0 0 l).1 < 0 then ([], [], 1) else if argI ds 1 < (mth.tk 0 0 l).1 then ([], [], 19) else mth.tkN (mth.tk 0 0 l).1.toNat (l.drop (mth.tk 0 0 l).2.1)) := by rw [mth.tkL, if_pos h0]
  rw [e] at h
  generalize (mth.tk 0 0 l).1 = N at *
  generalize hK : (mth.tk 0 0 l).2.1 = K at *
  clear e
  refine ⟨fun hneg A c => ?_, fun hpos => ⟨fun hmany A c => ?_, fun hmany => ?_⟩⟩
  · rw [if_pos hneg] at h
    exact h _ 0 rfl (fun hh => by cases hh)
  · rw [if_neg hpos, if_pos hmany] at h
    exact h _ 0 rfl (fun hh => by cases hh)
  rw [if_neg hpos, if_neg hmany] at h
  have hlen0 : (argL ds 0).length = l.length := by rw [hx, u8R_len]
  refine ⟨fun xs m => ∃ (d1 : Dat) (n1 n2 : Int) (j : Nat) (acc : List Int), xs = [d1, .int .i64 n1, .int .i64 n2, .int .i64 j, .rows (i64R acc), .int .i64 acc.length] ∧ acc.length + l.length ≤ l.length + j ∧ j ≤ l.length ∧ acc.length ≤ N.toNat ∧ mth.tkN N.toNat (l.drop K) = mth.pre acc (mth.tkN (N.toNat - acc.length) (l.drop j)) ∧ m = N.toNat - acc.length, ⟨_, _, _, _, K, [], rfl, by simp, hk.2.1, by simp, by simpa using mth.pre_start _ _, rfl⟩, ?_⟩
  rintro d1 hd1 n1 n2 n3 d5 hd5 n m ⟨_, _, _, j, acc, e, hlen, hj, hacc, hpre, hm⟩
  obtain ⟨rfl, rfl, rfl, rfl, rfl, rfl⟩ : d1 = _ ∧ n1 = _ ∧ n2 = _ ∧ n3 = _ ∧ d5 = _ ∧ n = _ := by simpa using e
  have hbr := bytes_drop hb j
  have hlr : (l.drop j).length = l.length - j := List.length_drop
  refine ⟨fun hlt => ⟨by omega, by omega, l.drop j, by rw [hlen0, Int.toNat_natCast, cut_u8 hH (by rw [argL_fold, hx]) hj], hbr, by omega, ?_⟩, fun hge => ?_⟩
  · have hs : N.toNat - acc.length = (N.toNat - (acc.length + 1)) + 1 := by omega
    rw [hs] at hpre
    refine ⟨fun h1 => ?_, fun h1 => ⟨?_, ?_⟩⟩
    · rw [pre_bad' h1] at hpre
      rw [hpre] at h
      exact fun A c => h _ 0 rfl (fun hh => absurd hh h1)
    · simp only [xs_rows, List.length_append, i64R_len, List.length_cons, List.length_nil]; omega
    · have hk1 := tk_0 hbr h1
      rw [pre_step' h1, List.drop_drop] at hpre
      refine ⟨_, (by omega : N.toNat - (acc.length + 1) < _), d1, n1, n2, j + (mth.tk 0 0 (l.drop j)).2.1, acc ++ [(mth.tk 0 0 (l.drop j)).1], ?_, ?_, ?_, ?_, ?_, ?_⟩
      · rw [wrap64 (by omega) (by omega), wrap64 (by omega) (by omega), xs_rows, i64R_app, List.length_append]; rfl
      · simp only [List.length_append, List.length_cons, List.length_nil]; omega
      · omega
      · simp only [List.length_append, List.length_cons, List.length_nil]; omega
      · simp only [List.length_append, List.length_cons, List.length_nil]; exact hpre
      · simp only [List.length_append, List.length_cons, List.length_nil]
  · have h0 : N.toNat - acc.length = 0 := by omega
    rw [h0, mth.pre_end] at hpre
    rw [hpre] at h
    exact fun A c => h _ j (by rw [xs_list, xs_rows]) (fun _ => ⟨hj, rfl⟩))
noncomputable def con_rTakeL : Con E0 := ⟨k_rTakeL, sg_rTakeL, rTakeL_s, rfl, bo_rTakeL, rTakeL_h⟩
def k_rNums : Nat := 29
def sg_rNums : Sig := ⟨[(false, [.list 5]), (false, [.int .i64])], [(false, [.list 3]), (false, [.int .i64]), (false, [.int .i64])], false, false, true, false, false⟩
def tr_rNums : Tree := (.loop [.emp, (.int .i64 0), (.int .i64 0), .emp, (.int .i64 0), (.int .i64 0)] [(.rows 3), (.int .i64), (.int .i64), (.rows 3), (.int .i64), (.int .i64)]
 (.ite (.cmp .lt (.var 7) (.var 1))
  (.ob (.cmp .ge (.var 6) (.int .i64 0))
  (.ob (.cmp .le (.var 6) (.len (.var 0)))
  (.call k_rTake2 [(.cut (.var 0) (.var 6) (.len (.var 0)))] [(.int .i64), (.int .i64), (.int .i64)]
  (.ite (.cmp .ne (.var 10) (.int .i64 0))
   (.share 3 .emp
   (.ret [(.var 11), (.int .i64 0), (.var 10)]))
   (.ob (.cmp .le (.len (.push (.var 5) (.econs (.var 8) .enil))) (.int .i64 17592186044416))
   (.again 0 [(.var 2), (.var 3), (.var 4), (.push (.var 5) (.econs (.var 8) .enil)), (.ar .add .i64 (.var 6) (.var 9)), (.ar .add .i64 (.var 7) (.int .i64 1))]))))))
  (.share 3 (.var 5)
  (.ret [(.var 8), (.var 6), (.int .i64 0)]))))
theorem wk_rNums : walk E0.cx (sgsN [(44, sg_rTake2)]) 0 29 sg_rNums = tr_rNums := by kernel_rfl
theorem bo_rNums : ∃ x, bodyOf E0.P 29 = some x := bo_of (by kernel_rfl)
theorem sp_rNums_rTake2 : specC [con_rTake2] k_rTake2 = rTake2_s := rfl
def rNums_s : Spec := fun ds Q => ∃ (l : List Nat) (many : Nat), argL ds 0 = u8R l ∧ bytes l ∧ l.length ≤ 90000000 ∧ argI ds 1 = many ∧ ∀ (d1 : Dat) (k : Nat), d1.xs = i64R (mth.tkN many l).1 → ((mth.tkN many l).2.2 = 0 → k ≤ l.length ∧ (mth.tkN many l).2.1 = l.drop k) → Q [d1, .int .i64 k, .int .i64 (mth.tkN many l).2.2]
theorem rNums_h : Holds E0 k_rNums sg_rNums rNums_s := con_fn wf0 mix0 g0 [con_rTake2] rfl wk_rNums rfl (by
  intro Φ hΦ ds Q hs ⟨l, N, hx, hb, hn, hN, h⟩
  have hl : ds.length = 2 := hs.length.symm
  have sp : Φ k_rTake2 = rTake2_s := by rw [hΦ]; rfl
  clear hΦ
  simp only [tr_rNums, wp, den_int, den_bool, den_nili, den_ar, den_cmp, den_not, den_len, den_elem, den_isnil, den_errI, den_ifc, den_rep, den_push, den_app, den_emp, den_upd, row0_econs, row0_enil, den_and, den_beq, den_nil, toInt_int, toBool_bool, xs_rows, xs_list, dflt_int, dflt_bool, of_eq, of_ne, of_lt, of_le, of_gt, of_ge, of_add, of_sub, of_rem, List.map_cons, List.map_nil, Dat.bool.injEq, decide_eq_true_eq, decide_eq_false_iff_not, Bool.not_eq_true', Bool.not_eq_false', beq_iff_eq, bne_iff_ne, beq_eq_false_iff_ne, bne_eq_false_iff_eq, ne_eq, List.append_assoc, List.cons_append, List.nil_append, allS, sp, rTake2_s, argL_c0, argI_c0, den_cutT, @den_var0 E0.Δ ds, den_varA, den_varB, hl, Nat.reduceLT, Nat.reduceLeDiff, Nat.reduceSub, List.getD_cons_zero, List.getD_cons_succ, argL_fold ds, argI_fold ds, List.append_assoc, List.cons_append, List.nil_append, toInt_int, toBool_bool, xs_rows, xs_list, Int.toNat_natCast, Dat.bool.injEq]
  have hH : Has E0.Δ (.list 5) (ds.getD 0 (.bool false)) := all2_get hs (i := 0) rfl
  have hlen0 : (argL ds 0).length = l.length := by rw [hx, u8R_len]
  rw [hN]
  refine ⟨fun xs m => ∃ (d1 : Dat) (n1 n2 : Int) (j : Nat) (acc : List Int), xs = [d1, .int .i64 n1, .int .i64 n2, .rows (i64R acc), .int .i64 j, .int .i64 acc.length] ∧ acc.length ≤ j ∧ j ≤ l.length ∧ acc.length ≤ N ∧ mth.tkN N l = mth.pre acc (mth.tkN (N - acc.length) (l.drop j)) ∧ m = N - acc.length, ⟨_, _, _, _, 0, [], rfl, by simp, by omega, by simp, by simpa using mth.pre_start _ _, rfl⟩, ?_⟩
  rintro d1 hd1 n1 n2 d5 hd5 n3 n m ⟨_, _, _, j, acc, e, hlen, hj, hacc, hpre, hm⟩
  obtain ⟨rfl, rfl, rfl, rfl, rfl, rfl⟩ : d1 = _ ∧ n1 = _ ∧ n2 = _ ∧ d5 = _ ∧ n3 = _ ∧ n = _ := by simpa using e
  have hbr := bytes_drop hb j
  have hlr : (l.drop j).length = l.length - j := List.length_drop
  refine ⟨fun hlt => ⟨by omega, by omega, l.drop j, by rw [hlen0, Int.toNat_natCast, cut_u8 hH (by rw [argL_fold, hx]) hj], hbr, by omega, ?_⟩, fun hge => ?_⟩
  · have hs : N - acc.length = (N - (acc.length + 1)) + 1 := by omega
    rw [hs] at hpre
    refine ⟨fun h1 => ?_, fun h1 => ⟨?_, ?_⟩⟩
    · rw [pre_bad' h1] at hpre
      rw [hpre] at h
      exact fun A c => h _ 0 rfl (fun hh => absurd hh h1)
    · simp only [xs_rows, List.length_append, i64R_len, List.length_cons, List.length_nil]; omega
    · have hk1 := tk_0 hbr h1
      rw [pre_step' h1, List.drop_drop] at hpre
      refine ⟨_, (by omega : N - (acc.length + 1) < _), d1, n1, n2, j + (mth.tk 0 0 (l.drop j)).2.1, acc ++ [(mth.tk 0 0 (l.drop j)).1], ?_, ?_, ?_, ?_, ?_, ?_⟩
      · rw [wrap64 (by omega) (by omega), wrap64 (by omega) (by omega), xs_rows, i64R_app, List.length_append]; rfl
      · simp only [List.length_append, List.length_cons, List.length_nil]; omega
      · omega
      · simp only [List.length_append, List.length_cons, List.length_nil]; omega
      · simp only [List.length_append, List.length_cons, List.length_nil]; exact hpre
      · simp only [List.length_append, List.length_cons, List.length_nil]
  · have h0 : N - acc.length = 0 := by omega
    rw [h0, mth.pre_end] at hpre
    rw [hpre] at h
    exact fun A c => h _ j (by rw [xs_list, xs_rows]) (fun _ => ⟨hj, rfl⟩))
noncomputable def con_rNums : Con E0 := ⟨k_rNums, sg_rNums, rNums_s, rfl, bo_rNums, rNums_h⟩
end Go.Proofs.YtnhahmgbgocdgaaDoor
end
