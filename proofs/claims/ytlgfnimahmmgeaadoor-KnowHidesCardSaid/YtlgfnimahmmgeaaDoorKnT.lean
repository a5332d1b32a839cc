/-
  The checker's view of a state; copies, and which states are the same.
-/
import Derived.Test.YtlgfnimahmmgeaaDoorKnS
namespace Go.Proofs.YtlgfnimahmmgeaaDoor
open Go.RowKit
set_option linter.unusedVariables false
set_option linter.unusedSimpArgs false

def rSees_s : Spec := fun ds Q => Sm (ds.take 37) ∧ (argI ds 37 = 0 ∨ argI ds 37 = 1) ∧ ∀ rs, rs.length = 37 → SeesR (argI ds 37) ds rs → Q rs
def k_rSees : Nat := 13
def sg_rSees : Sig := ⟨[(true, [.list 49] ++ List.replicate 11 (.list 3) ++ List.replicate 25 (.int .i64)), (false, [.int .i64])], [(true, [.list 49] ++ List.replicate 11 (.list 3) ++ List.replicate 25 (.int .i64))], false, false, true⟩
def tr_rSees : Tree := (.ob (.cmp .le (.len (.app .emp (.var 0))) (.int .i64 977343669134)) (.loop [(.int .i64 0), (.var 1), (.var 2), (.var 3), (.var 4), (.var 5), (.var 6), (.var 7), (.var 8), (.var 9), (.var 10), (.var 11)] [(.int .i64), (.list 3), (.list 3), (.list 3), (.list 3), (.list 3), (.list 3), (.list 3), (.list 3), (.list 3), (.list 3), (.list 3)] (.ite (.cmp .lt (.var 38) (.int .i64 11)) (.ob (.cmp .ge (.var 38) (.int .i64 0)) (.ob (.cmp .le (.len (.app .emp (.sel (.econs (.var 39) (.econs (.var 40) (.econs (.var 41) (.econs (.var 42) (.econs (.var 43) (.econs (.var 44) (.econs (.var 45) (.econs (.var 46) (.econs (.var 47) (.econs (.var 48) (.econs (.var 49) .enil))))))))))) (.var 38) (.list 3)))) (.int .i64 17592186044416)) (.ob (.cmp .ge (.var 38) (.int .i64 0)) (.share 3 (.app .emp (.sel (.econs (.var 39) (.econs (.var 40) (.econs (.var 41) (.econs (.var 42) (.econs (.var 43) (.econs (.var 44) (.econs (.var 45) (.econs (.var 46) (.econs (.var 47) (.econs (.var 48) (.econs (.var 49) .enil))))))))))) (.var 38) (.list 3))) (.again 0 [(.ar .add .i64 (.var 38) (.int .i64 1)), (.ite (.cmp .eq (.var 38) (.int .i64 0)) (.var 50) (.var 39)), (.ite (.cmp .eq (.var 38) (.int .i64 1)) (.var 50) (.var 40)), (.ite (.cmp .eq (.var 38) (.int .i64 2)) (.var 50) (.var 41)), (.ite (.cmp .eq (.var 38) (.int .i64 3)) (.var 50) (.var 42)), (.ite (.cmp .eq (.var 38) (.int .i64 4)) (.var 50) (.var 43)), (.ite (.cmp .eq (.var 38) (.int .i64 5)) (.var 50) (.var 44)), (.ite (.cmp .eq (.var 38) (.int .i64 6)) (.var 50) (.var 45)), (.ite (.cmp .eq (.var 38) (.int .i64 7)) (.var 50) (.var 46)), (.ite (.cmp .eq (.var 38) (.int .i64 8)) (.var 50) (.var 47)), (.ite (.cmp .eq (.var 38) (.int .i64 9)) (.var 50) (.var 48)), (.ite (.cmp .eq (.var 38) (.int .i64 10)) (.var 50) (.var 49))]))))) (.loop [(.int .i64 0), (.app .emp (.var 0))] [(.int .i64), (.rows 49)] (.ite (.cmp .lt (.var 50) (.len (.var 0))) (.ob (.cmp .ge (.var 50) (.int .i64 0)) (.ite (.ite (.cmp .eq (.var 37) (.int .i64 0)) (.cmp .eq (.ar .rem .u64 (.conv .u64 (.elem (.var 0) (.var 50) 17 (.int .i64))) (.int .u64 2)) (.int .u64 1)) (.and (.cmp .eq (.var 37) (.int .i64 1)) (.cmp .eq (.ar .rem .u64 (.ar .quo .u64 (.conv .u64 (.elem (.var 0) (.var 50) 17 (.int .i64))) (.int .u64 2)) (.int .u64 2)) (.int .u64 1)))) (.again 1 [(.ar .add .i64 (.var 50) (.int .i64 1)), (.var 51)]) (.ob (.cmp .ge (.var 50) (.int .i64 0)) (.ob (.cmp .lt (.var 50) (.len (.var 51))) (.again 1 [(.ar .add .i64 (.var 50) (.int .i64 1)), (.upd (.upd (.upd (.upd (.upd (.upd (.upd (.upd (.upd (.upd (.upd (.upd (.upd (.upd (.upd (.upd (.upd (.upd (.var 51) (.var 50) 0 (.int .i64 0)) (.var 50) 1 (.elem (.var 0) (.var 50) 1 (.int .i64))) (.var 50) 2 (.elem (.var 0) (.var 50) 2 (.int .i64))) (.var 50) 3 (.elem (.var 0) (.var 50) 3 (.int .i64))) (.var 50) 4 (.int .i64 0)) (.var 50) 5 (.int .i64 0)) (.var 50) 6 (.int .i64 0)) (.var 50) 7 (.int .i64 0)) (.var 50) 8 (.int .i64 0)) (.var 50) 9 (.int .i64 0)) (.var 50) 10 (.int .i64 0)) (.var 50) 11 (.int .i64 0)) (.var 50) 12 (.int .i64 0)) (.var 50) 13 (.int .i64 0)) (.var 50) 14 (.int .i64 0)) (.var 50) 15 (.int .i64 0)) (.var 50) 16 (.int .i64 0)) (.var 50) 17 (.int .i64 0))]))))) (.share 49 (.var 51) (.ret [(.var 52), (.var 39), (.var 40), (.var 41), (.var 42), (.var 43), (.var 44), (.var 45), (.var 46), (.var 47), (.var 48), (.var 49), (.var 12), (.var 13), (.var 14), (.var 15), (.var 16), (.var 17), (.var 18), (.var 19), (.var 20), (.var 21), (.var 22), (.var 23), (.var 24), (.var 25), (.var 26), (.var 27), (.var 28), (.var 29), (.var 30), (.var 31), (.var 32), (.var 33), (.var 34), (.var 35), (.var 36)])))))))
theorem wk_rSees : walk E0.cx (sgsN []) 0 13 sg_rSees = tr_rSees := by kernel_rfl
theorem bo_rSees : ∃ x, bodyOf E0.P 13 = some x := bo_of (by kernel_rfl)
theorem rSees_h : Holds E0 k_rSees sg_rSees rSees_s := con_fn wf0 mix0 g0 [] rfl wk_rSees rfl (by
  intro Φ hΦ ds Q hs ⟨hsm, hp, h2⟩
  have hl : ds.length = 38 := hs.length.symm
  clear hΦ
  have hrow := obj_len (all2_get hs (i := 0) rfl)
  rw [argL_fold] at hrow
  have hsub : ∀ i, i < 37 → argL (ds.take 37) i = argL ds i := fun i hi => argL_take hi
  have h1m : ((argL ds 0).length : Int) ≤ 1000000 := by have := hsm 0 (by omega); rw [hsub 0 (by omega)] at this; omega
  simp only [tr_rSees, wp, den_int, den_bool, den_nili, den_ar, den_cmp, den_not, den_len, den_elem, den_isnil, den_errI, den_ifc, den_rep, den_push, den_app, den_emp, row0_econs, row0_enil, den_and, den_beq, den_nil, toInt_int, toBool_bool, xs_rows, xs_list, dflt_int, dflt_bool, of_eq, of_ne, of_lt, of_le, of_gt, of_ge, of_add, of_sub, of_rem, List.map_cons, List.map_nil, Dat.bool.injEq, decide_eq_true_eq, decide_eq_false_iff_not, Bool.not_eq_true', Bool.not_eq_false', beq_iff_eq, bne_iff_ne, beq_eq_false_iff_ne, bne_eq_false_iff_eq, ne_eq, List.append_assoc, List.cons_append, List.nil_append, allS, @den_var0 E0.Δ ds, den_varA, den_varB, hl, Nat.reduceLT, Nat.reduceLeDiff, Nat.reduceSub, List.getD_cons_zero, List.getD_cons_succ, argL_fold ds, argI_fold ds, List.append_assoc, List.cons_append, List.nil_append, toInt_int, toBool_bool, xs_rows, xs_list, Int.toNat_natCast, Dat.bool.injEq]
  refine ⟨by omega, I1 ds, ⟨11, 0, by omega, rfl, rfl, rfl, fun y hy => absurd hy (by omega), fun y _ hy => match y, hy with
      | 0, _ => rfl
      | 1, _ => rfl
      | 2, _ => rfl
      | 3, _ => rfl
      | 4, _ => rfl
      | 5, _ => rfl
      | 6, _ => rfl
      | 7, _ => rfl
      | 8, _ => rfl
      | 9, _ => rfl
      | 10, _ => rfl⟩, ?_⟩
  intro z' d0 hd0 d1 hd1 d2 hd2 d3 hd3 d4 hd4 d5 hd5 d6 hd6 d7 hd7 d8 hd8 d9 hd9 d10 hd10 m hI
  have hI2 := hI
  obtain ⟨z, hz, hm, _, hz0, hA, hB⟩ := hI2
  have hz0 : Dat.int .i64 z' = .int .i64 z := hz0
  cases hz0
  refine ⟨fun hlt => ?_, fun hge => ?_⟩
  · have hz11 : z < 11 := by omega
    subst hm
    simp only [den_sel, row0_econs, row0_enil, den_elem, den_len, @den_var0 E0.Δ ds, den_varA, den_varB, hl, Nat.reduceLT, Nat.reduceLeDiff, Nat.reduceSub, List.getD_cons_zero, List.getD_cons_succ, argL_fold ds, argI_fold ds, List.append_assoc, List.cons_append, List.nil_append, toInt_int, toBool_bool, xs_rows, xs_list, Int.toNat_natCast, Dat.bool.injEq, wp, den_int, den_bool, den_nili, den_ar, den_cmp, den_not, den_len, den_elem, den_isnil, den_errI, den_ifc, den_rep, den_push, den_app, den_emp, row0_econs, row0_enil, den_and, den_beq, den_nil, toInt_int, toBool_bool, xs_rows, xs_list, dflt_int, dflt_bool, of_eq, of_ne, of_lt, of_le, of_gt, of_ge, of_add, of_sub, of_rem, List.map_cons, List.map_nil, Dat.bool.injEq, decide_eq_true_eq, decide_eq_false_iff_not, Bool.not_eq_true', Bool.not_eq_false', beq_iff_eq, bne_iff_ne, beq_eq_false_iff_ne, bne_eq_false_iff_eq, ne_eq, List.append_assoc, List.cons_append, List.nil_append, den_ite, ites11 hz11, I1_sel hI hz11, List.getElem?_cons_zero]
    have hlen := hsm (z + 1) (by omega)
    rw [hsub (z + 1) (by omega)] at hlen
    exact ⟨by omega, by omega, by omega, fun A c => ⟨11 - (z + 1), by omega, I1_step hI hz11 rfl⟩⟩
  obtain rfl : z = 11 := by omega
  refine ⟨I2 (argI ds 37) ds, ⟨_, 0, by omega, rfl, rfl⟩, ?_⟩
  rintro n2 d11 hd m1 ⟨i, hi, hm1, e⟩
  cases e
  refine ⟨fun hlt => ?_, fun hge => ?_⟩
  · have hi2 : i < (argL ds 0).length := by omega
    subst hm1
    simp only [@den_var0 E0.Δ ds, den_varA, den_varB, hl, Nat.reduceLT, Nat.reduceLeDiff, Nat.reduceSub, List.getD_cons_zero, List.getD_cons_succ, argL_fold ds, argI_fold ds, List.append_assoc, List.cons_append, List.nil_append, toInt_int, toBool_bool, xs_rows, xs_list, Int.toNat_natCast, Dat.bool.injEq, wp, den_int, den_bool, den_nili, den_ar, den_cmp, den_not, den_len, den_elem, den_isnil, den_errI, den_ifc, den_rep, den_push, den_app, den_emp, row0_econs, row0_enil, den_and, den_beq, den_nil, toInt_int, toBool_bool, xs_rows, xs_list, dflt_int, dflt_bool, of_eq, of_ne, of_lt, of_le, of_gt, of_ge, of_add, of_sub, of_rem, List.map_cons, List.map_nil, Dat.bool.injEq, decide_eq_true_eq, decide_eq_false_iff_not, Bool.not_eq_true', Bool.not_eq_false', beq_iff_eq, bne_iff_ne, beq_eq_false_iff_ne, bne_eq_false_iff_eq, ne_eq, List.append_assoc, List.cons_append, List.nil_append, den_conv, den_or, den_ite, map_get _ hi2, map_len, List.getElem?_cons_zero, List.getElem?_cons_succ]
    have hmem := getD_memL (d := []) hi2
    have h18 : (((argL ds 0).take i).map (seenF (argI ds 37)) ++ (argL ds 0).drop i).getD i [] = (argL ds 0).getD i [] := map_get _ hi2
    have key : (if argI ds 37 = 0 then Dat.bool ((IntKind.u64.wrap (((argL ds 0).getD i []).getD 17 (Dat.int IntKind.i64 0)).toInt).tmod 2 == 1) else Dat.bool (argI ds 37 == 1 && (Ar.quo.of IntKind.u64 (IntKind.u64.wrap (((argL ds 0).getD i []).getD 17 (Dat.int IntKind.i64 0)).toInt) 2).tmod 2 == 1)) = .bool (kn (argI ds 37) (rowI ((argL ds 0).getD i []) 17)) := by
      rcases hp with hp | hp
      · rw [if_pos hp, hp]; exact congrArg Dat.bool (rem_kn0 _)
      · rw [if_neg (by omega), hp]; exact congrArg Dat.bool (rem_kn1 _)
    simp only [key, Dat.bool.injEq]
    refine ⟨by omega, fun hk => ⟨(argL ds 0).length - (i + 1), by omega, i + 1, by omega, rfl, ?_⟩, fun hk => ⟨by omega, by omega, (argL ds 0).length - (i + 1), by omega, i + 1, by omega, rfl, ?_⟩⟩
    · rw [wrap64 (by omega) (by omega), map_keep _ hi2]
      · rfl
      · unfold seenF; rw [if_pos hk]
    · refine congr (congrArg List.cons ?_) (congrArg (fun x => [x]) ((upds_all (a := .var 51) (ix := .var 50) (i := i) (L := ((argL ds 0).take i).map (seenF (argI ds 37)) ++ (argL ds 0).drop i) (ts := [.int .i64 0, .elem (.var 0) (.var 50) 1 (.int .i64), .elem (.var 0) (.var 50) 2 (.int .i64), .elem (.var 0) (.var 50) 3 (.int .i64), .int .i64 0, .int .i64 0, .int .i64 0, .int .i64 0, .int .i64 0, .int .i64 0, .int .i64 0, .int .i64 0, .int .i64 0, .int .i64 0, .int .i64 0, .int .i64 0, .int .i64 0, .int .i64 0]) (by simp only [@den_var0 E0.Δ ds, den_varA, den_varB, hl, Nat.reduceLT, Nat.reduceLeDiff, Nat.reduceSub, List.getD_cons_zero, List.getD_cons_succ, argL_fold ds, argI_fold ds, List.append_assoc, List.cons_append, List.nil_append, toInt_int, toBool_bool, xs_rows, xs_list, Int.toNat_natCast, Dat.bool.injEq]) (by simp only [@den_var0 E0.Δ ds, den_varA, den_varB, hl, Nat.reduceLT, Nat.reduceLeDiff, Nat.reduceSub, List.getD_cons_zero, List.getD_cons_succ, argL_fold ds, argI_fold ds, List.append_assoc, List.cons_append, List.nil_append, toInt_int, toBool_bool, xs_rows, xs_list, Int.toNat_natCast, Dat.bool.injEq]) (by rw [map_len]; exact hi2) (by rw [h18]; exact hrow _ hmem)).trans ?_))
      · rw [wrap64 (by omega) (by omega)]; rfl
      · simp only [List.map_cons, List.map_nil, den_int, den_elem, @den_var0 E0.Δ ds, den_varA, den_varB, hl, Nat.reduceLT, Nat.reduceLeDiff, Nat.reduceSub, List.getD_cons_zero, List.getD_cons_succ, argL_fold ds, argI_fold ds, List.append_assoc, List.cons_append, List.nil_append, toInt_int, toBool_bool, xs_rows, xs_list, Int.toNat_natCast, Dat.bool.injEq]
        rw [← map_set _ hi2]
        congr 2
        unfold seenF
        rw [hk]; rfl
  · intro A c
    refine h2 [.list (.slice A _ c) _ _, d0, d1, d2, d3, d4, d5, d6, d7, d8, d9, d10, ds.getD 12 (.bool false), ds.getD 13 (.bool false), ds.getD 14 (.bool false), ds.getD 15 (.bool false), ds.getD 16 (.bool false), ds.getD 17 (.bool false), ds.getD 18 (.bool false), ds.getD 19 (.bool false), ds.getD 20 (.bool false), ds.getD 21 (.bool false), ds.getD 22 (.bool false), ds.getD 23 (.bool false), ds.getD 24 (.bool false), ds.getD 25 (.bool false), ds.getD 26 (.bool false), ds.getD 27 (.bool false), ds.getD 28 (.bool false), ds.getD 29 (.bool false), ds.getD 30 (.bool false), ds.getD 31 (.bool false), ds.getD 32 (.bool false), ds.getD 33 (.bool false), ds.getD 34 (.bool false), ds.getD 35 (.bool false), ds.getD 36 (.bool false)] rfl ⟨?_, fun y hy => match y, hy with
        | 0, _ => hA 0 (by omega)
        | 1, _ => hA 1 (by omega)
        | 2, _ => hA 2 (by omega)
        | 3, _ => hA 3 (by omega)
        | 4, _ => hA 4 (by omega)
        | 5, _ => hA 5 (by omega)
        | 6, _ => hA 6 (by omega)
        | 7, _ => hA 7 (by omega)
        | 8, _ => hA 8 (by omega)
        | 9, _ => hA 9 (by omega)
        | 10, _ => hA 10 (by omega), fun i hi => match i, hi with
        | 0, _ => argI_fold ds 12
        | 1, _ => argI_fold ds 13
        | 2, _ => argI_fold ds 14
        | 3, _ => argI_fold ds 15
        | 4, _ => argI_fold ds 16
        | 5, _ => argI_fold ds 17
        | 6, _ => argI_fold ds 18
        | 7, _ => argI_fold ds 19
        | 8, _ => argI_fold ds 20
        | 9, _ => argI_fold ds 21
        | 10, _ => argI_fold ds 22
        | 11, _ => argI_fold ds 23
        | 12, _ => argI_fold ds 24
        | 13, _ => argI_fold ds 25
        | 14, _ => argI_fold ds 26
        | 15, _ => argI_fold ds 27
        | 16, _ => argI_fold ds 28
        | 17, _ => argI_fold ds 29
        | 18, _ => argI_fold ds 30
        | 19, _ => argI_fold ds 31
        | 20, _ => argI_fold ds 32
        | 21, _ => argI_fold ds 33
        | 22, _ => argI_fold ds 34
        | 23, _ => argI_fold ds 35
        | 24, _ => argI_fold ds 36
        | i + 25, h => absurd h (by omega)⟩
    show ((argL ds 0).take i).map (seenF (argI ds 37)) ++ (argL ds 0).drop i = _
    rw [List.take_of_length_le (by omega), List.drop_of_length_le (by omega), List.append_nil])
noncomputable def con_rSees : Con E0 := ⟨k_rSees, sg_rSees, rSees_s, rfl, bo_rSees, rSees_h⟩
def CopyR (ds rs : List Dat) : Prop := (∀ y, y < 12 → argL rs y = argL ds y) ∧ ∀ i, i < 25 → argI rs (12 + i) = argI ds (12 + i)
def nCopy_s : Spec := fun ds Q => Sm ds ∧ ∀ rs, rs.length = 37 → CopyR ds rs → Q rs
def k_nCopy : Nat := 7
def sg_nCopy : Sig := ⟨[(true, [.list 49] ++ List.replicate 11 (.list 3) ++ List.replicate 25 (.int .i64))], [(true, [.list 49] ++ List.replicate 11 (.list 3) ++ List.replicate 25 (.int .i64))], false, false, false⟩
def tr_nCopy : Tree := (.ob (.cmp .le (.len (.app .emp (.var 0))) (.int .i64 977343669134))
(.loop [(.int .i64 0), (.var 1), (.var 2), (.var 3), (.var 4), (.var 5), (.var 6), (.var 7), (.var 8), (.var 9), (.var 10), (.var 11)] [(.int .i64), (.list 3), (.list 3), (.list 3), (.list 3), (.list 3), (.list 3), (.list 3), (.list 3), (.list 3), (.list 3), (.list 3)]
 (.ite (.cmp .lt (.var 37) (.int .i64 11))
  (.ob (.cmp .ge (.var 37) (.int .i64 0))
  (.ob (.cmp .le (.len (.app .emp (.sel (.econs (.var 38) (.econs (.var 39) (.econs (.var 40) (.econs (.var 41) (.econs (.var 42) (.econs (.var 43) (.econs (.var 44) (.econs (.var 45) (.econs (.var 46) (.econs (.var 47) (.econs (.var 48) .enil))))))))))) (.var 37) (.list 3)))) (.int .i64 17592186044416))
  (.ob (.cmp .ge (.var 37) (.int .i64 0))
  (.share 3 (.app .emp (.sel (.econs (.var 38) (.econs (.var 39) (.econs (.var 40) (.econs (.var 41) (.econs (.var 42) (.econs (.var 43) (.econs (.var 44) (.econs (.var 45) (.econs (.var 46) (.econs (.var 47) (.econs (.var 48) .enil))))))))))) (.var 37) (.list 3)))
  (.again 0 [(.ar .add .i64 (.var 37) (.int .i64 1)), (.ite (.cmp .eq (.var 37) (.int .i64 0)) (.var 49) (.var 38)), (.ite (.cmp .eq (.var 37) (.int .i64 1)) (.var 49) (.var 39)), (.ite (.cmp .eq (.var 37) (.int .i64 2)) (.var 49) (.var 40)), (.ite (.cmp .eq (.var 37) (.int .i64 3)) (.var 49) (.var 41)), (.ite (.cmp .eq (.var 37) (.int .i64 4)) (.var 49) (.var 42)), (.ite (.cmp .eq (.var 37) (.int .i64 5)) (.var 49) (.var 43)), (.ite (.cmp .eq (.var 37) (.int .i64 6)) (.var 49) (.var 44)), (.ite (.cmp .eq (.var 37) (.int .i64 7)) (.var 49) (.var 45)), (.ite (.cmp .eq (.var 37) (.int .i64 8)) (.var 49) (.var 46)), (.ite (.cmp .eq (.var 37) (.int .i64 9)) (.var 49) (.var 47)), (.ite (.cmp .eq (.var 37) (.int .i64 10)) (.var 49) (.var 48))])))))
  (.share 49 (.app .emp (.var 0))
  (.ret [(.var 49), (.var 38), (.var 39), (.var 40), (.var 41), (.var 42), (.var 43), (.var 44), (.var 45), (.var 46), (.var 47), (.var 48), (.var 12), (.var 13), (.var 14), (.var 15), (.var 16), (.var 17), (.var 18), (.var 19), (.var 20), (.var 21), (.var 22), (.var 23), (.var 24), (.var 25), (.var 26), (.var 27), (.var 28), (.var 29), (.var 30), (.var 31), (.var 32), (.var 33), (.var 34), (.var 35), (.var 36)])))))
theorem wk_nCopy : walk E0.cx (sgsN []) 0 7 sg_nCopy = tr_nCopy := by kernel_rfl
theorem bo_nCopy : ∃ x, bodyOf E0.P 7 = some x := bo_of (by kernel_rfl)
theorem nCopy_h : Holds E0 k_nCopy sg_nCopy nCopy_s := con_fn wf0 mix0 g0 [] rfl wk_nCopy rfl (by
  intro Φ hΦ ds Q hs ⟨hsm, h2⟩
  have hl : ds.length = 37 := hs.length.symm
  clear hΦ
  have hsub : ∀ i, i < 37 → argL ds i = argL ds i := fun i hi => rfl
  have h1m : ((argL ds 0).length : Int) ≤ 1000000 := by have := hsm 0 (by omega); omega
  simp only [tr_nCopy, wp, den_int, den_bool, den_nili, den_ar, den_cmp, den_not, den_len, den_elem, den_isnil, den_errI, den_ifc, den_rep, den_push, den_app, den_emp, row0_econs, row0_enil, den_and, den_beq, den_nil, toInt_int, toBool_bool, xs_rows, xs_list, dflt_int, dflt_bool, of_eq, of_ne, of_lt, of_le, of_gt, of_ge, of_add, of_sub, of_rem, List.map_cons, List.map_nil, Dat.bool.injEq, decide_eq_true_eq, decide_eq_false_iff_not, Bool.not_eq_true', Bool.not_eq_false', beq_iff_eq, bne_iff_ne, beq_eq_false_iff_ne, bne_eq_false_iff_eq, ne_eq, List.append_assoc, List.cons_append, List.nil_append, allS, @den_var0 E0.Δ ds, den_varA, den_varB, hl, Nat.reduceLT, Nat.reduceLeDiff, Nat.reduceSub, List.getD_cons_zero, List.getD_cons_succ, argL_fold ds, argI_fold ds, List.append_assoc, List.cons_append, List.nil_append, toInt_int, toBool_bool, xs_rows, xs_list, Int.toNat_natCast, Dat.bool.injEq]
  refine ⟨by omega, I1 ds, ⟨11, 0, by omega, rfl, rfl, rfl, fun y hy => absurd hy (by omega), fun y _ hy => match y, hy with
      | 0, _ => rfl
      | 1, _ => rfl
      | 2, _ => rfl
      | 3, _ => rfl
      | 4, _ => rfl
      | 5, _ => rfl
      | 6, _ => rfl
      | 7, _ => rfl
      | 8, _ => rfl
      | 9, _ => rfl
      | 10, _ => rfl⟩, ?_⟩
  intro z' d0 hd0 d1 hd1 d2 hd2 d3 hd3 d4 hd4 d5 hd5 d6 hd6 d7 hd7 d8 hd8 d9 hd9 d10 hd10 m hI
  have hI2 := hI
  obtain ⟨z, hz, hm, _, hz0, hA, hB⟩ := hI2
  have hz0 : Dat.int .i64 z' = .int .i64 z := hz0
  cases hz0
  refine ⟨fun hlt => ?_, fun hge => ?_⟩
  · have hz11 : z < 11 := by omega
    subst hm
    simp only [den_sel, row0_econs, row0_enil, den_elem, den_len, @den_var0 E0.Δ ds, den_varA, den_varB, hl, Nat.reduceLT, Nat.reduceLeDiff, Nat.reduceSub, List.getD_cons_zero, List.getD_cons_succ, argL_fold ds, argI_fold ds, List.append_assoc, List.cons_append, List.nil_append, toInt_int, toBool_bool, xs_rows, xs_list, Int.toNat_natCast, Dat.bool.injEq, wp, den_int, den_bool, den_nili, den_ar, den_cmp, den_not, den_len, den_elem, den_isnil, den_errI, den_ifc, den_rep, den_push, den_app, den_emp, row0_econs, row0_enil, den_and, den_beq, den_nil, toInt_int, toBool_bool, xs_rows, xs_list, dflt_int, dflt_bool, of_eq, of_ne, of_lt, of_le, of_gt, of_ge, of_add, of_sub, of_rem, List.map_cons, List.map_nil, Dat.bool.injEq, decide_eq_true_eq, decide_eq_false_iff_not, Bool.not_eq_true', Bool.not_eq_false', beq_iff_eq, bne_iff_ne, beq_eq_false_iff_ne, bne_eq_false_iff_eq, ne_eq, List.append_assoc, List.cons_append, List.nil_append, den_ite, ites11 hz11, I1_sel hI hz11, List.getElem?_cons_zero]
    have hlen := hsm (z + 1) (by omega)
    rw [hsub (z + 1) (by omega)] at hlen
    exact ⟨by omega, by omega, by omega, fun A c => ⟨11 - (z + 1), by omega, I1_step hI hz11 rfl⟩⟩
  obtain rfl : z = 11 := by omega
  intro A c
  refine h2 [.list (.slice A _ c) _ _, d0, d1, d2, d3, d4, d5, d6, d7, d8, d9, d10, ds.getD 12 (.bool false), ds.getD 13 (.bool false), ds.getD 14 (.bool false), ds.getD 15 (.bool false), ds.getD 16 (.bool false), ds.getD 17 (.bool false), ds.getD 18 (.bool false), ds.getD 19 (.bool false), ds.getD 20 (.bool false), ds.getD 21 (.bool false), ds.getD 22 (.bool false), ds.getD 23 (.bool false), ds.getD 24 (.bool false), ds.getD 25 (.bool false), ds.getD 26 (.bool false), ds.getD 27 (.bool false), ds.getD 28 (.bool false), ds.getD 29 (.bool false), ds.getD 30 (.bool false), ds.getD 31 (.bool false), ds.getD 32 (.bool false), ds.getD 33 (.bool false), ds.getD 34 (.bool false), ds.getD 35 (.bool false), ds.getD 36 (.bool false)] rfl ⟨fun y hy => match y, hy with
        | 0, _ => rfl
        | 1, _ => hA 0 (by omega)
        | 2, _ => hA 1 (by omega)
        | 3, _ => hA 2 (by omega)
        | 4, _ => hA 3 (by omega)
        | 5, _ => hA 4 (by omega)
        | 6, _ => hA 5 (by omega)
        | 7, _ => hA 6 (by omega)
        | 8, _ => hA 7 (by omega)
        | 9, _ => hA 8 (by omega)
        | 10, _ => hA 9 (by omega)
        | 11, _ => hA 10 (by omega)
        | y + 12, h => absurd h (by omega), fun i hi => match i, hi with
        | 0, _ => argI_fold ds 12
        | 1, _ => argI_fold ds 13
        | 2, _ => argI_fold ds 14
        | 3, _ => argI_fold ds 15
        | 4, _ => argI_fold ds 16
        | 5, _ => argI_fold ds 17
        | 6, _ => argI_fold ds 18
        | 7, _ => argI_fold ds 19
        | 8, _ => argI_fold ds 20
        | 9, _ => argI_fold ds 21
        | 10, _ => argI_fold ds 22
        | 11, _ => argI_fold ds 23
        | 12, _ => argI_fold ds 24
        | 13, _ => argI_fold ds 25
        | 14, _ => argI_fold ds 26
        | 15, _ => argI_fold ds 27
        | 16, _ => argI_fold ds 28
        | 17, _ => argI_fold ds 29
        | 18, _ => argI_fold ds 30
        | 19, _ => argI_fold ds 31
        | 20, _ => argI_fold ds 32
        | 21, _ => argI_fold ds 33
        | 22, _ => argI_fold ds 34
        | 23, _ => argI_fold ds 35
        | 24, _ => argI_fold ds 36
        | i + 25, h => absurd h (by omega)⟩)
noncomputable def con_nCopy : Con E0 := ⟨k_nCopy, sg_nCopy, nCopy_s, rfl, bo_nCopy, nCopy_h⟩
def SameS (ds : List Dat) : Prop := (argL ds 0).length = (argL ds 37).length ∧ (∀ i, i < 25 → argI ds (12 + i) = argI ds (49 + i)) ∧ (∀ k, k < (argL ds 0).length → ∀ c, c < 18 → rowI ((argL ds 0).getD k []) c = rowI ((argL ds 37).getD k []) c) ∧ ∀ z, z < 11 → nums (argL ds (z + 1)) = nums (argL ds (z + 38))
theorem odt {p : Prop} {i : Decidable p} (h : @decide p i = true) : p := @of_decide_eq_true p i h
theorem odf {p : Prop} {i : Decidable p} (h : @decide p i = false) : ¬ p := @of_decide_eq_false p i h
theorem eq18 (a b : Nat → Int) : (a 0 == b 0 && (a 1 == b 1 && (a 2 == b 2 && (a 3 == b 3 && (a 4 == b 4 && (a 5 == b 5 && (a 6 == b 6 && (a 7 == b 7 && (a 8 == b 8 && (a 9 == b 9 && (a 10 == b 10 && (a 11 == b 11 && (a 12 == b 12 && (a 13 == b 13 && (a 14 == b 14 && (a 15 == b 15 && (a 16 == b 16 && (a 17 == b 17)))))))))))))))))) = @decide (∀ c, c < 18 → a c = b c) (Classical.propDecidable _) := by
  rw [Bool.eq_iff_iff]
  simp only [Bool.and_eq_true, beq_iff_eq, decide_eq_true_eq]
  constructor
  · rintro ⟨h0, h1, h2, h3, h4, h5, h6, h7, h8, h9, h10, h11, h12, h13, h14, h15, h16, h17⟩ c hc
    match c, hc with
    | 0, _ => exact h0
    | 1, _ => exact h1
    | 2, _ => exact h2
    | 3, _ => exact h3
    | 4, _ => exact h4
    | 5, _ => exact h5
    | 6, _ => exact h6
    | 7, _ => exact h7
    | 8, _ => exact h8
    | 9, _ => exact h9
    | 10, _ => exact h10
    | 11, _ => exact h11
    | 12, _ => exact h12
    | 13, _ => exact h13
    | 14, _ => exact h14
    | 15, _ => exact h15
    | 16, _ => exact h16
    | 17, _ => exact h17
    | c + 18, h => exact absurd h (by omega)
  · intro h
    exact ⟨h 0 (by omega), h 1 (by omega), h 2 (by omega), h 3 (by omega), h 4 (by omega), h 5 (by omega), h 6 (by omega), h 7 (by omega), h 8 (by omega), h 9 (by omega), h 10 (by omega), h 11 (by omega), h 12 (by omega), h 13 (by omega), h 14 (by omega), h 15 (by omega), h 16 (by omega), h 17 (by omega)⟩
theorem eq7 (a b : Nat → Int) : (a 0 == b 0 && (a 1 == b 1 && (a 2 == b 2 && (a 3 == b 3 && (a 4 == b 4 && (a 5 == b 5 && (a 6 == b 6))))))) = @decide (∀ c, c < 7 → a c = b c) (Classical.propDecidable _) := by
  rw [Bool.eq_iff_iff]
  simp only [Bool.and_eq_true, beq_iff_eq, decide_eq_true_eq]
  constructor
  · rintro ⟨h0, h1, h2, h3, h4, h5, h6⟩ c hc
    match c, hc with
    | 0, _ => exact h0
    | 1, _ => exact h1
    | 2, _ => exact h2
    | 3, _ => exact h3
    | 4, _ => exact h4
    | 5, _ => exact h5
    | 6, _ => exact h6
    | c + 7, h => exact absurd h (by omega)
  · intro h
    exact ⟨h 0 (by omega), h 1 (by omega), h 2 (by omega), h 3 (by omega), h 4 (by omega), h 5 (by omega), h 6 (by omega)⟩
theorem den_listsH {Δ : Tab} {ds e : List Dat} (hl : 49 ≤ ds.length) {i : Tm} {z : Nat} (hi : (den Δ (ds ++ e) i).toInt = z) (hz : z < 11) {s : Srt} :
    den Δ (ds ++ e) (.sel (.econs (.var 38) (.econs (.var 39) (.econs (.var 40) (.econs (.var 41) (.econs (.var 42) (.econs (.var 43) (.econs (.var 44) (.econs (.var 45) (.econs (.var 46) (.econs (.var 47) (.econs (.var 48) .enil))))))))))) i s) = ds.getD (z + 38) (.bool false) := by
  simp only [den_sel, row0_econs, row0_enil, hi, Int.toNat_natCast]
  rw [den_varA (by omega), den_varA (by omega), den_varA (by omega), den_varA (by omega), den_varA (by omega), den_varA (by omega), den_varA (by omega), den_varA (by omega), den_varA (by omega), den_varA (by omega), den_varA (by omega)]
  match z, hz with
  | 0, _ | 1, _ | 2, _ | 3, _ | 4, _ | 5, _ | 6, _ | 7, _ | 8, _ | 9, _ | 10, _ => rfl
def nStates_s : Spec := fun ds Q => Sm ds ∧ Sm (ds.drop 37) ∧ ∀ b : Bool, (b = true ↔ SameS ds) → Q [.bool b]
def k_nStates : Nat := 9
def sg_nStates : Sig := ⟨[(true, [.list 49] ++ List.replicate 11 (.list 3) ++ List.replicate 25 (.int .i64)), (true, [.list 49] ++ List.replicate 11 (.list 3) ++ List.replicate 25 (.int .i64))], [(false, [.bool])], false, false, true⟩
def tr_nStates : Tree := (.ite (.or (.cmp .ne (.len (.var 0)) (.len (.var 37))) (.or (.not (.and (.cmp .eq (.var 12) (.var 49)) (.and (.cmp .eq (.var 13) (.var 50)) (.and (.cmp .eq (.var 14) (.var 51)) (.and (.cmp .eq (.var 15) (.var 52)) (.and (.cmp .eq (.var 16) (.var 53)) (.and (.cmp .eq (.var 17) (.var 54)) (.and (.cmp .eq (.var 18) (.var 55)) (.and (.cmp .eq (.var 19) (.var 56)) (.and (.cmp .eq (.var 20) (.var 57)) (.and (.cmp .eq (.var 21) (.var 58)) (.and (.cmp .eq (.var 22) (.var 59)) (.and (.cmp .eq (.var 23) (.var 60)) (.and (.cmp .eq (.var 24) (.var 61)) (.and (.cmp .eq (.var 25) (.var 62)) (.and (.cmp .eq (.var 26) (.var 63)) (.and (.cmp .eq (.var 27) (.var 64)) (.and (.cmp .eq (.var 28) (.var 65)) (.cmp .eq (.var 29) (.var 66)))))))))))))))))))) (.not (.and (.cmp .eq (.var 30) (.var 67)) (.and (.cmp .eq (.var 31) (.var 68)) (.and (.cmp .eq (.var 32) (.var 69)) (.and (.cmp .eq (.var 33) (.var 70)) (.and (.cmp .eq (.var 34) (.var 71)) (.and (.cmp .eq (.var 35) (.var 72)) (.cmp .eq (.var 36) (.var 73))))))))))) (.ret [(.bool false)]) (.loop [(.bool false), (.int .i64 0)] [.bool, (.int .i64)] (.ite (.cmp .lt (.var 75) (.len (.var 0))) (.ob (.cmp .ge (.var 75) (.int .i64 0)) (.ob (.cmp .ge (.var 75) (.int .i64 0)) (.ob (.cmp .lt (.var 75) (.len (.var 37))) (.ite (.not (.and (.cmp .eq (.elem (.var 0) (.var 75) 0 (.int .i64)) (.elem (.var 37) (.var 75) 0 (.int .i64))) (.and (.cmp .eq (.elem (.var 0) (.var 75) 1 (.int .i64)) (.elem (.var 37) (.var 75) 1 (.int .i64))) (.and (.cmp .eq (.elem (.var 0) (.var 75) 2 (.int .i64)) (.elem (.var 37) (.var 75) 2 (.int .i64))) (.and (.cmp .eq (.elem (.var 0) (.var 75) 3 (.int .i64)) (.elem (.var 37) (.var 75) 3 (.int .i64))) (.and (.cmp .eq (.elem (.var 0) (.var 75) 4 (.int .i64)) (.elem (.var 37) (.var 75) 4 (.int .i64))) (.and (.cmp .eq (.elem (.var 0) (.var 75) 5 (.int .i64)) (.elem (.var 37) (.var 75) 5 (.int .i64))) (.and (.cmp .eq (.elem (.var 0) (.var 75) 6 (.int .i64)) (.elem (.var 37) (.var 75) 6 (.int .i64))) (.and (.cmp .eq (.elem (.var 0) (.var 75) 7 (.int .i64)) (.elem (.var 37) (.var 75) 7 (.int .i64))) (.and (.cmp .eq (.elem (.var 0) (.var 75) 8 (.int .i64)) (.elem (.var 37) (.var 75) 8 (.int .i64))) (.and (.cmp .eq (.elem (.var 0) (.var 75) 9 (.int .i64)) (.elem (.var 37) (.var 75) 9 (.int .i64))) (.and (.cmp .eq (.elem (.var 0) (.var 75) 10 (.int .i64)) (.elem (.var 37) (.var 75) 10 (.int .i64))) (.and (.cmp .eq (.elem (.var 0) (.var 75) 11 (.int .i64)) (.elem (.var 37) (.var 75) 11 (.int .i64))) (.and (.cmp .eq (.elem (.var 0) (.var 75) 12 (.int .i64)) (.elem (.var 37) (.var 75) 12 (.int .i64))) (.and (.cmp .eq (.elem (.var 0) (.var 75) 13 (.int .i64)) (.elem (.var 37) (.var 75) 13 (.int .i64))) (.and (.cmp .eq (.elem (.var 0) (.var 75) 14 (.int .i64)) (.elem (.var 37) (.var 75) 14 (.int .i64))) (.and (.cmp .eq (.elem (.var 0) (.var 75) 15 (.int .i64)) (.elem (.var 37) (.var 75) 15 (.int .i64))) (.and (.cmp .eq (.elem (.var 0) (.var 75) 16 (.int .i64)) (.elem (.var 37) (.var 75) 16 (.int .i64))) (.cmp .eq (.elem (.var 0) (.var 75) 17 (.int .i64)) (.elem (.var 37) (.var 75) 17 (.int .i64))))))))))))))))))))) (.ret [(.bool false)]) (.again 0 [(.var 74), (.ar .add .i64 (.var 75) (.int .i64 1))]))))) (.loop [(.var 74), (.int .i64 0)] [.bool, (.int .i64)] (.ite (.cmp .lt (.var 77) (.int .i64 11)) (.ob (.cmp .ge (.var 77) (.int .i64 0)) (.ob (.cmp .ge (.var 77) (.int .i64 0)) (.call k_Ints [(.sel (.econs (.var 1) (.econs (.var 2) (.econs (.var 3) (.econs (.var 4) (.econs (.var 5) (.econs (.var 6) (.econs (.var 7) (.econs (.var 8) (.econs (.var 9) (.econs (.var 10) (.econs (.var 11) .enil))))))))))) (.var 77) (.list 3)), (.sel (.econs (.var 38) (.econs (.var 39) (.econs (.var 40) (.econs (.var 41) (.econs (.var 42) (.econs (.var 43) (.econs (.var 44) (.econs (.var 45) (.econs (.var 46) (.econs (.var 47) (.econs (.var 48) .enil))))))))))) (.var 77) (.list 3))] [.bool] (.ite (.not (.var 78)) (.ret [(.bool false)]) (.again 1 [(.var 76), (.ar .add .i64 (.var 77) (.int .i64 1))]))))) (.ret [(.bool true)]))))))
theorem wk_nStates : walk E0.cx (sgsN [(25, sg_Ints)]) 0 9 sg_nStates = tr_nStates := by kernel_rfl
theorem bo_nStates : ∃ x, bodyOf E0.P 9 = some x := bo_of (by kernel_rfl)
theorem sp_nStates_Ints : specC [con_Ints] k_Ints = Ints_s := rfl
theorem nStates_h : Holds E0 k_nStates sg_nStates nStates_s := con_fn wf0 mix0 g0 [con_Ints] rfl wk_nStates rfl (by
  intro Φ hΦ ds Q hs ⟨hsm, hsm2, h⟩
  have hl : ds.length = 74 := hs.length.symm
  have s1 : Φ k_Ints = Ints_s := by rw [hΦ]; rfl
  clear hΦ
  simp only [tr_nStates, wp, den_int, den_bool, den_nili, den_ar, den_cmp, den_not, den_len, den_elem, den_isnil, den_errI, den_ifc, den_rep, den_push, den_app, den_emp, den_upd, row0_econs, row0_enil, den_and, den_beq, den_nil, toInt_int, toBool_bool, xs_rows, xs_list, dflt_int, dflt_bool, of_eq, of_ne, of_lt, of_le, of_gt, of_ge, of_add, of_sub, of_rem, List.map_cons, List.map_nil, Dat.bool.injEq, decide_eq_true_eq, decide_eq_false_iff_not, Bool.not_eq_true', Bool.not_eq_false', beq_iff_eq, bne_iff_ne, beq_eq_false_iff_ne, bne_eq_false_iff_eq, ne_eq, List.append_assoc, List.cons_append, List.nil_append, allS, s1, Ints_s, @den_var0 E0.Δ ds, den_varA, den_varB, hl, Nat.reduceLT, Nat.reduceLeDiff, Nat.reduceSub, List.getD_cons_zero, List.getD_cons_succ, argL_fold ds, argI_fold ds, List.append_assoc, List.cons_append, List.nil_append, toInt_int, toBool_bool, xs_rows, xs_list, Int.toNat_natCast, Dat.bool.injEq, den_or]
  have e1 := eq18 (fun c => argI ds (12 + c)) (fun c => argI ds (49 + c))
  have e2 := eq7 (fun c => argI ds (30 + c)) (fun c => argI ds (67 + c))
  simp only [Nat.reduceAdd] at e1 e2
  rw [e1, e2]
  have ints : (∀ c, c < 18 → argI ds (12 + c) = argI ds (49 + c)) → (∀ c, c < 7 → argI ds (30 + c) = argI ds (67 + c)) → ∀ i, i < 25 → argI ds (12 + i) = argI ds (49 + i) := fun h1 h2 i hi => by
    by_cases hc : i < 18
    · exact h1 i hc
    · have := h2 (i - 18) (by omega)
      rwa [show 30 + (i - 18) = 12 + i by omega, show 67 + (i - 18) = 49 + i by omega] at this
  have no : ¬ SameS ds → Q [.bool false] := fun hn => h _ (by simp only [Bool.false_eq_true, false_iff]; exact hn)
  have hd2 : ∀ i, argL (ds.drop 37) i = argL ds (37 + i) := fun i => by unfold argL; rw [List.getD_eq_getElem?_getD, List.getElem?_drop, List.getD_eq_getElem?_getD]
  have hn0 := hsm 0 (by omega)
  refine ⟨fun h0 => no fun hS => ?_, fun h0 => ?_⟩
  · simp only [Bool.or_eq_true, Bool.not_eq_true', decide_eq_false_iff_not, bne_iff_ne] at h0
    rcases h0 with h0 | h0 | h0
    · exact h0 (by rw [hS.1])
    · exact h0 fun c hc => hS.2.1 c (by omega)
    · refine h0 fun c hc => ?_
      have := hS.2.1 (18 + c) (by omega)
      rwa [show 12 + (18 + c) = 30 + c by omega, show 49 + (18 + c) = 67 + c by omega] at this
  simp only [Bool.or_eq_false_iff, bne_eq_false_iff_eq, Bool.not_eq_false', decide_eq_true_eq] at h0
  obtain ⟨hlen, hP1, hP2⟩ := h0
  have hlen : (argL ds 0).length = (argL ds 37).length := by omega
  refine ⟨fun xs m => ∃ i : Nat, i ≤ (argL ds 0).length ∧ m = (argL ds 0).length - i ∧ xs = [.bool false, .int .i64 i] ∧ ∀ k, k < i → ∀ c, c < 18 → rowI ((argL ds 0).getD k []) c = rowI ((argL ds 37).getD k []) c, ⟨_, 0, by omega, rfl, rfl, fun k hk => absurd hk (by omega)⟩, ?_⟩
  rintro b n m ⟨i, hi, hm, e, hall⟩
  cases e
  refine ⟨fun hlt => ⟨by omega, by omega, by omega, ?_⟩, fun hge => ?_⟩
  · have e3 := eq18 (fun c => (((argL ds 0).getD i []).getD c (Dat.int .i64 0)).toInt) (fun c => (((argL ds 37).getD i []).getD c (Dat.int .i64 0)).toInt)
    rw [Int.toNat_natCast, e3]
    refine ⟨fun hne => no fun hS => odf hne (hS.2.2.1 i (by omega)), fun he0 => have he := odt he0; ⟨(argL ds 0).length - (i + 1), by omega, i + 1, by omega, rfl, by rw [wrap64 (by omega) (by omega)]; rfl, fun k hk => ?_⟩⟩
    by_cases hki : k = i
    · subst hki; exact he
    · exact hall k (by omega)
  · refine ⟨fun xs m => ∃ z : Nat, z ≤ 11 ∧ m = 11 - z ∧ xs = [.bool false, .int .i64 z] ∧ ∀ y, y < z → nums (argL ds (y + 1)) = nums (argL ds (y + 38)), ⟨_, 0, by omega, rfl, rfl, fun k hk => absurd hk (by omega)⟩, ?_⟩
    rintro b1 n1 m1 ⟨z, hz, hm1, e, hnum⟩
    cases e
    refine ⟨fun hlt => ?_, fun hge2 => h _ ?_⟩
    · have hz11 : z < 11 := by omega
      have g1 : ∀ s, den E0.Δ (ds ++ [.bool false, .int .i64 i, .bool false, .int .i64 z]) (.sel (.econs (.var 1) (.econs (.var 2) (.econs (.var 3) (.econs (.var 4) (.econs (.var 5) (.econs (.var 6) (.econs (.var 7) (.econs (.var 8) (.econs (.var 9) (.econs (.var 10) (.econs (.var 11) .enil))))))))))) (.var 77) s) = ds.getD (z + 1) (.bool false) := fun s => den_listsG (by omega) (by simp only [@den_var0 E0.Δ ds, den_varA, den_varB, hl, Nat.reduceLT, Nat.reduceLeDiff, Nat.reduceSub, List.getD_cons_zero, List.getD_cons_succ, argL_fold ds, argI_fold ds, List.append_assoc, List.cons_append, List.nil_append, toInt_int, toBool_bool, xs_rows, xs_list, Int.toNat_natCast, Dat.bool.injEq]) hz11
      have g2 : ∀ s, den E0.Δ (ds ++ [.bool false, .int .i64 i, .bool false, .int .i64 z]) (.sel (.econs (.var 38) (.econs (.var 39) (.econs (.var 40) (.econs (.var 41) (.econs (.var 42) (.econs (.var 43) (.econs (.var 44) (.econs (.var 45) (.econs (.var 46) (.econs (.var 47) (.econs (.var 48) .enil))))))))))) (.var 77) s) = ds.getD (z + 38) (.bool false) := fun s => den_listsH (by omega) (by simp only [@den_var0 E0.Δ ds, den_varA, den_varB, hl, Nat.reduceLT, Nat.reduceLeDiff, Nat.reduceSub, List.getD_cons_zero, List.getD_cons_succ, argL_fold ds, argI_fold ds, List.append_assoc, List.cons_append, List.nil_append, toInt_int, toBool_bool, xs_rows, xs_list, Int.toNat_natCast, Dat.bool.injEq]) hz11
      simp only [g1, g2, argL_c0, argL_c1, argL_fold ds]
      have hz1 := hsm (z + 1) (by omega)
      refine ⟨by omega, by omega, hz1, fun hne => no fun hS => hne (hS.2.2.2 z hz11), fun he => ⟨11 - (z + 1), by omega, z + 1, by omega, rfl, by rw [wrap64 (by omega) (by omega)]; rfl, fun y hy => ?_⟩⟩
      by_cases hyz : y = z
      · subst hyz; exact he
      · exact hnum y (by omega)
    · simp only [true_iff]
      exact ⟨hlen, ints hP1 hP2, fun k hk => hall k (by omega), fun y hy => hnum y (by omega)⟩)
noncomputable def con_nStates : Con E0 := ⟨k_nStates, sg_nStates, nStates_s, rfl, bo_nStates, nStates_h⟩
end Go.Proofs.YtlgfnimahmmgeaaDoor
