/-
  TargetNames: the law.
-/
import Derived.Test.YtonjilfbcofoaaaDoorTgA
namespace Go.Proofs.YtonjilfbcofoaaaDoor
open Go.RowKit
set_option linter.unusedVariables false
set_option linter.unusedSimpArgs false

theorem errP_none {S : List Dat} (hL : ∀ i, i < 12 → argL S i = []) (hI : ∀ i, i < 25 → argI S (12 + i) = 0) : errP S 0 := by
  have el : ∀ z, z < 11 → lst S z = [] := fun z hz => by unfold lst; rw [hL (z + 1) (by omega)]; rfl
  have ei : ∀ z, z ≤ 11 → ids S z = [] := by
    intro z
    induction z with
    | zero => intro _; rfl
    | succ z ih => intro hz; rw [ids, ih (by omega)]; unfold idz; rw [el z (by omega)]; rfl
  have e : ∀ j, j < 18 → pl S j = 0 := fun j hj => hI j (by omega)
  have eg : ∀ j, j < 7 → gm S j = 0 := fun j hj => by
    have := hI (18 + j) (by omega)
    rwa [show 12 + (18 + j) = 30 + j by omega] at this
  unfold errP
  rw [hL 0 (by omega)]
  refine (if_neg (by decide)).mpr (.inr (.inr (.inr ⟨⟨?_, ?_, ?_⟩, ⟨?_, ?_, ?_⟩, ?_, rfl⟩)))
  · intro o ho; rw [hL 0 (by omega)] at ho; cases ho
  · intro i hi
    rw [e _ (by omega), e _ (by omega), e _ (by omega)]
    refine ⟨by decide, by decide, by decide, fun k h1 h2 => ?_⟩
    rw [e _ (by omega)]; decide
  · unfold gmP
    rw [eg 0 (by decide), eg 1 (by decide), eg 2 (by decide), eg 3 (by decide), eg 4 (by decide), eg 5 (by decide), eg 6 (by decide)]
    decide
  · intro q hq; rw [ei 11 (by omega)] at hq; cases hq
  · rw [ei 11 (by omega)]; exact List.nodup_nil
  · rw [ei 11 (by omega), hL 0 (by omega)]; rfl
  · intro o ho; cases ho
noncomputable def stX : List Dat := .list (.slice none 0 0) (E0.Δ.row 50).length [] :: (List.replicate 11 (.list (.slice none 0 0) (E0.Δ.row 3).length []) ++ List.replicate 25 (.int .i64 0))
def k_alive18 : Nat := 7
def sg_alive18 : Sig := ⟨[], [(false, [.bool])], false, false, true⟩
def tr_alive18 : Tree := (.call k_tList0 [(.nil 50), (.nil 3), (.nil 3), (.nil 3), (.nil 3), (.nil 3), (.nil 3), (.nil 3), (.nil 3), (.nil 3), (.nil 3), (.nil 3), (.int .i64 0), (.int .i64 0), (.int .i64 0), (.int .i64 0), (.int .i64 0), (.int .i64 0), (.int .i64 0), (.int .i64 0), (.int .i64 0), (.int .i64 0), (.int .i64 0), (.int .i64 0), (.int .i64 0), (.int .i64 0), (.int .i64 0), (.int .i64 0), (.int .i64 0), (.int .i64 0), (.int .i64 0), (.int .i64 0), (.int .i64 0), (.int .i64 0), (.int .i64 0), (.int .i64 0), (.int .i64 0), (.int .i64 3), (.int .i64 0)] [(.rows 3)]
(.share 3 (.app .emp (.var 0))
(.share 3 (.push (.push .emp (.econs (.int .i64 (-2)) .enil)) (.econs (.int .i64 (-1)) .enil))
(.call k_Ints [(.var 1), (.var 2)] [.bool]
(.ite (.var 3)
 (.call k_tList0 [(.nil 50), (.nil 3), (.nil 3), (.nil 3), (.nil 3), (.nil 3), (.nil 3), (.nil 3), (.nil 3), (.nil 3), (.nil 3), (.nil 3), (.int .i64 0), (.int .i64 0), (.int .i64 0), (.int .i64 0), (.int .i64 0), (.int .i64 0), (.int .i64 0), (.int .i64 0), (.int .i64 0), (.int .i64 0), (.int .i64 0), (.int .i64 0), (.int .i64 0), (.int .i64 0), (.int .i64 0), (.int .i64 0), (.int .i64 0), (.int .i64 0), (.int .i64 0), (.int .i64 0), (.int .i64 0), (.int .i64 0), (.int .i64 0), (.int .i64 0), (.int .i64 0), (.int .i64 0), (.int .i64 0)] [(.rows 3)]
 (.share 3 (.app .emp (.var 4))
 (.share 3 (.push .emp (.econs (.int .i64 0) .enil))
 (.call k_Ints [(.var 5), (.var 6)] [.bool]
 (.ret [(.var 7)])))))
 (.ret [(.bool false)]))))))
theorem wk_alive18 : walk E0.cx (sgsN [(12, sg_tList0), (11, sg_Ints)]) 0 7 sg_alive18 = tr_alive18 := by kernel_rfl
theorem bo_alive18 : ∃ x, bodyOf E0.P 7 = some x := bo_of (by kernel_rfl)
theorem sp_alive18_tList0 : specC [con_tList0, con_Ints] k_tList0 = tList0_s := rfl
theorem sp_alive18_Ints : specC [con_tList0, con_Ints] k_Ints = Ints_s := rfl
def alive18_s : Spec := true_s
theorem alive18_h : Holds E0 k_alive18 sg_alive18 alive18_s := con_fn wf0 mix0 g0 [con_tList0, con_Ints] rfl wk_alive18 rfl (by
  intro Φ hΦ ds Q hs h
  have s1 : Φ k_tList0 = tList0_s := by rw [hΦ]; rfl
  have s2 : Φ k_Ints = Ints_s := by rw [hΦ]; rfl
  have h : Q [.bool true] := h
  clear hΦ
  have hl : ds.length = 0 := hs.length.symm
  obtain rfl : ds = [] := List.length_eq_zero_iff.1 hl
  unfold tr_alive18
  simp only [wp, s1, s2]
  have hL : ∀ L : List Dat, ∀ i, i < 12 → argL ((stX ++ L).take 37) i = [] := fun L i hi => by
    match i, hi with
    | 0, _ | 1, _ | 2, _ | 3, _ | 4, _ | 5, _ | 6, _ | 7, _ | 8, _ | 9, _ | 10, _ | 11, _ => rfl
    | i + 12, h => exact absurd h (by omega)
  have hI : ∀ L : List Dat, ∀ i, i < 25 → argI ((stX ++ L).take 37) (12 + i) = 0 := fun L i hi => by
    match i, hi with
    | 0, _ | 1, _ | 2, _ | 3, _ | 4, _ | 5, _ | 6, _ | 7, _ | 8, _ | 9, _ | 10, _ | 11, _ | 12, _ | 13, _ | 14, _ | 15, _ | 16, _ | 17, _ | 18, _ | 19, _ | 20, _ | 21, _ | 22, _ | 23, _ | 24, _ => rfl
    | i + 25, h => exact absurd h (by omega)
  have hsm : ∀ L : List Dat, Sm ((stX ++ L).take 37) := fun L i hi => by rw [hL L i hi]; exact Nat.zero_le _
  have h2 : ∀ b : Bool, b = true → Q [.bool b] := fun b hb => by rw [hb]; exact h
  refine ⟨hsm [.int .i64 3, .int .i64 0], errP_none (hL [.int .i64 3, .int .i64 0]) (hI [.int .i64 3, .int .i64 0]), rfl, true, rfl, ?_⟩
  intro A c A1 c1
  refine ⟨show 2 ≤ 1000000 by decide, fun _ => ?_, fun hx => absurd rfl (of_decide_eq_false (Dat.bool.inj hx))⟩
  refine ⟨hsm [.int .i64 0, .int .i64 0], errP_none (hL [.int .i64 0, .int .i64 0]) (hI [.int .i64 0, .int .i64 0]), rfl, false, rfl, ?_⟩
  intro A2 c2 A3 c3
  refine ⟨show 1 ≤ 1000000 by decide, ?_⟩
  exact h2 _ (decide_eq_true rfl))
noncomputable def con_alive18 : Con E0 := ⟨k_alive18, sg_alive18, alive18_s, rfl, bo_alive18, alive18_h⟩
def k_lnames : Nat := 5
def sg_lnames : Sig := ⟨[(false, [.int .i64])], [(false, [.bool])], false, false, true⟩
def tr_lnames : Tree := (.call k_alive18 [] [.bool]
(.ite (.not (.var 1))
 (.ret [(.bool false)])
 (.ite (.or (.not (.beq (.not (.cmp .le (.var 0) (.int .i64 0))) (.cmp .gt (.var 0) (.int .i64 0)))) (.ite (.not (.cmp .le (.var 0) (.int .i64 0))) (.or (.cmp .ne (.ite (.cmp .le (.var 0) (.int .i64 0)) (.int .i64 0) (.ar .sub .i64 (.var 0) (.int .i64 1))) (.ar .sub .i64 (.var 0) (.int .i64 1))) (.or (.not (.beq (.not (.and (.cmp .ne (.var 0) (.int .i64 (-1))) (.cmp .ne (.var 0) (.int .i64 (-2))))) (.cmp .eq (.var 0) (.int .i64 (-2))))) (.cmp .ne (.ite (.and (.cmp .ne (.var 0) (.int .i64 (-1))) (.cmp .ne (.var 0) (.int .i64 (-2)))) (.int .i64 0) (.ar .sub .i64 (.int .i64 (-1)) (.var 0))) (.int .i64 0)))) (.or (.cmp .ne (.ite (.cmp .le (.var 0) (.int .i64 0)) (.int .i64 0) (.ar .sub .i64 (.var 0) (.int .i64 1))) (.int .i64 0)) (.ite (.cmp .eq (.var 0) (.int .i64 (-1))) (.or (.not (.beq (.not (.and (.cmp .ne (.var 0) (.int .i64 (-1))) (.cmp .ne (.var 0) (.int .i64 (-2))))) (.bool true))) (.cmp .ne (.ite (.and (.cmp .ne (.var 0) (.int .i64 (-1))) (.cmp .ne (.var 0) (.int .i64 (-2)))) (.int .i64 0) (.ar .sub .i64 (.int .i64 (-1)) (.var 0))) (.ar .sub .i64 (.ar .sub .i64 (.int .i64 0) (.var 0)) (.int .i64 1)))) (.or (.not (.beq (.not (.and (.cmp .ne (.var 0) (.int .i64 (-1))) (.cmp .ne (.var 0) (.int .i64 (-2))))) (.cmp .eq (.var 0) (.int .i64 (-2))))) (.ite (.not (.and (.cmp .ne (.var 0) (.int .i64 (-1))) (.cmp .ne (.var 0) (.int .i64 (-2))))) (.cmp .ne (.ite (.and (.cmp .ne (.var 0) (.int .i64 (-1))) (.cmp .ne (.var 0) (.int .i64 (-2)))) (.int .i64 0) (.ar .sub .i64 (.int .i64 (-1)) (.var 0))) (.ar .sub .i64 (.ar .sub .i64 (.int .i64 0) (.var 0)) (.int .i64 1))) (.cmp .ne (.ite (.and (.cmp .ne (.var 0) (.int .i64 (-1))) (.cmp .ne (.var 0) (.int .i64 (-2)))) (.int .i64 0) (.ar .sub .i64 (.int .i64 (-1)) (.var 0))) (.int .i64 0))))))))
  (.ret [(.bool false)])
  (.ite (.ite (.cmp .ge (.var 0) (.int .i64 0)) (.and (.cmp .lt (.var 0) (.int .i64 4611686018427387904)) (.cmp .ne (.ite (.or (.cmp .lt (.var 0) (.int .i64 0)) (.cmp .eq (.var 0) (.int .i64 9223372036854775807))) (.int .i64 0) (.ar .add .i64 (.var 0) (.int .i64 1))) (.ar .add .i64 (.var 0) (.int .i64 1)))) (.cmp .ne (.ite (.or (.cmp .lt (.var 0) (.int .i64 0)) (.cmp .eq (.var 0) (.int .i64 9223372036854775807))) (.int .i64 0) (.ar .add .i64 (.var 0) (.int .i64 1))) (.int .i64 0)))
   (.ret [(.bool false)])
   (.ret [(.ite (.cmp .eq (.var 0) (.int .i64 0)) (.cmp .eq (.ite (.and (.cmp .ne (.var 0) (.int .i64 0)) (.cmp .ne (.var 0) (.int .i64 1))) (.int .i64 (-1)) (.ar .sub .i64 (.int .i64 1) (.var 0))) (.int .i64 1)) (.ite (.cmp .eq (.var 0) (.int .i64 1)) (.cmp .eq (.ite (.and (.cmp .ne (.var 0) (.int .i64 0)) (.cmp .ne (.var 0) (.int .i64 1))) (.int .i64 (-1)) (.ar .sub .i64 (.int .i64 1) (.var 0))) (.int .i64 0)) (.cmp .eq (.ite (.and (.cmp .ne (.var 0) (.int .i64 0)) (.cmp .ne (.var 0) (.int .i64 1))) (.int .i64 (-1)) (.ar .sub .i64 (.int .i64 1) (.var 0))) (.int .i64 (-1)))))])))))
theorem wk_lnames : walk E0.cx (sgsN [(7, sg_alive18)]) 0 5 sg_lnames = tr_lnames := by kernel_rfl
theorem bo_lnames : ∃ x, bodyOf E0.P 5 = some x := bo_of (by kernel_rfl)
theorem sp_lnames_alive18 : specC [con_alive18] k_alive18 = alive18_s := rfl
theorem lnames_h : Holds E0 k_lnames sg_lnames true_s := con_fn wf0 mix0 g0 [con_alive18] rfl wk_lnames rfl (by
  intro Φ hΦ ds Q hs h
  have hl : ds.length = 1 := hs.length.symm
  have s1 : Φ k_alive18 = alive18_s := by rw [hΦ]; rfl
  have h : Q [.bool true] := h
  clear hΦ
  simp only [tr_lnames, wp, den_int, den_bool, den_nili, den_ar, den_cmp, den_not, den_len, den_elem, den_isnil, den_errI, den_ifc, den_rep, den_push, den_app, den_emp, den_upd, row0_econs, row0_enil, den_and, den_beq, den_nil, toInt_int, toBool_bool, xs_rows, xs_list, dflt_int, dflt_bool, of_eq, of_ne, of_lt, of_le, of_gt, of_ge, of_add, of_sub, of_rem, List.map_cons, List.map_nil, Dat.bool.injEq, decide_eq_true_eq, decide_eq_false_iff_not, Bool.not_eq_true', Bool.not_eq_false', beq_iff_eq, bne_iff_ne, beq_eq_false_iff_ne, bne_eq_false_iff_eq, ne_eq, List.append_assoc, List.cons_append, List.nil_append, allS, s1, alive18_s, true_s, @den_var0 E0.Δ ds, den_varA, den_varB, hl, Nat.reduceLT, Nat.reduceLeDiff, Nat.reduceSub, List.getD_cons_zero, List.getD_cons_succ, argL_fold ds, argI_fold ds, List.append_assoc, List.cons_append, List.nil_append, toInt_int, toBool_bool, xs_rows, xs_list, Int.toNat_natCast, Dat.bool.injEq, den_or, den_ite]
  generalize argI ds 0 = t
  rcases (show t < -2 ∨ t = -2 ∨ t = -1 ∨ t = 0 ∨ t = 1 ∨ 1 < t by omega) with ht | rfl | rfl | rfl | rfl | ht
  · have h1 : ¬ 0 < t := by omega
    have h2 : t ≤ 0 := by omega
    have h3 : t ≠ -1 := by omega
    have h4 : t ≠ -2 := by omega
    have h5 : ¬ 0 ≤ t := by omega
    have h6 : t ≠ 0 := by omega
    have h7 : t ≠ 1 := by omega
    have h8 : t < 0 := by omega
    have b1 : (t != -1) = true := by simpa using h3
    have b2 : (t != -2) = true := by simpa using h4
    have b3 : (t == -2) = false := by simpa using h4
    have b4 : (t == -1) = false := by simpa using h3
    have b5 : (t != 0) = true := by simpa using h6
    have b6 : (t != 1) = true := by simpa using h7
    simp [h1, h2, h3, h4, h5, h6, h7, h8, b1, b2, b3, b4, b5, b6, toInt_int, toBool_bool]
    exact h
  · refine ⟨fun hx => Bool.noConfusion hx, fun _ => ⟨fun hx => absurd hx (by decide +kernel), fun _ => ⟨fun hx => absurd (congrArg Dat.toBool hx) (by decide +kernel), fun _ => ?_⟩⟩⟩
    exact h
  · refine ⟨fun hx => Bool.noConfusion hx, fun _ => ⟨fun hx => absurd hx (by decide +kernel), fun _ => ⟨fun hx => absurd (congrArg Dat.toBool hx) (by decide +kernel), fun _ => ?_⟩⟩⟩
    exact h
  · refine ⟨fun hx => Bool.noConfusion hx, fun _ => ⟨fun hx => absurd hx (by decide +kernel), fun _ => ⟨fun hx => absurd (congrArg Dat.toBool hx) (by decide +kernel), fun _ => ?_⟩⟩⟩
    exact h
  · refine ⟨fun hx => Bool.noConfusion hx, fun _ => ⟨fun hx => absurd hx (by decide +kernel), fun _ => ⟨fun hx => absurd (congrArg Dat.toBool hx) (by decide +kernel), fun _ => ?_⟩⟩⟩
    exact h
  · have h1 : 0 < t := by omega
    have h2 : ¬ t ≤ 0 := by omega
    have h3 : t ≠ -1 := by omega
    have h4 : t ≠ -2 := by omega
    have h5 : 0 ≤ t := by omega
    have h6 : t ≠ 0 := by omega
    have h7 : t ≠ 1 := by omega
    have h8 : ¬ t < 0 := by omega
    by_cases hM : t = 9223372036854775807
    · subst hM
      refine ⟨fun hx => Bool.noConfusion hx, fun _ => ⟨fun hx => absurd hx (by decide +kernel), fun _ => ⟨fun hx => absurd (congrArg Dat.toBool hx) (by decide +kernel), fun _ => ?_⟩⟩⟩
      exact h
    · have b1 : (t != -1) = true := by simpa using h3
      have b2 : (t != -2) = true := by simpa using h4
      have b3 : (t == -2) = false := by simpa using h4
      have b4 : (t == -1) = false := by simpa using h3
      have b5 : (t != 0) = true := by simpa using h6
      have b6 : (t != 1) = true := by simpa using h7
      simp [h1, h2, h3, h4, h5, h6, h7, h8, hM, b1, b2, b3, b4, b5, b6, toInt_int, toBool_bool]
      exact h)
end Go.Proofs.YtonjilfbcofoaaaDoor
