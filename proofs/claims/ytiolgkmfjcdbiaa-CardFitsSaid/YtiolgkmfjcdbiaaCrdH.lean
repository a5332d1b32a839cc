/-
  What a card aims at; CardUses: the law.
-/
import Derived.Test.YtiolgkmfjcdbiaaCrdG
import Derived.Test.YtiolgkmfjcdbiaaNums
namespace Go.Proofs.Ytiolgkmfjcdbiaa
open Go.RowKit
set_option linter.unusedVariables false
set_option linter.unusedSimpArgs false

theorem usesK_lt {l : List (List Dat)} {w : Int} {k i : Nat} (h : i ∈ usesK l w k) : i < k := by
  have := (List.mem_filter.1 h).1
  exact List.mem_range.1 this
theorem i64R_get {l : List Nat} {i : Nat} (h : i < l.length) : ((i64R l).getD i []).getD 0 (Dat.int .i64 0) = .int .i64 ((l.getD i 0 : Nat) : Int) := by
  have e : (i64R l).getD i [] = [.int .i64 ((l.getD i 0 : Nat) : Int)] := by
    have h1 : l.getD i 0 = l[i] := by rw [List.getD_eq_getElem?_getD, List.getElem?_eq_getElem h]; rfl
    have h2 : (i64R l)[i]? = some [.int .i64 ((l[i] : Nat) : Int)] := by rw [i64R, List.getElem?_map, List.getElem?_eq_getElem h]; rfl
    rw [h1, List.getD_eq_getElem?_getD, h2]; rfl
  rw [e]; rfl
/-- what a card's Spell aims at -/
def aimsI (l : List (List Dat)) : Int := match usesK l 0 l.length with
  | [] => 0
  | i :: _ => rowI (l.getD i []) 8
theorem aims_0 {l : List (List Dat)} (h : (usesK l 0 l.length).length = 0) : aimsI l = 0 := by
  unfold aimsI
  rw [List.length_eq_zero_iff.1 h]
theorem aims_1 {l : List (List Dat)} (h : 0 < (usesK l 0 l.length).length) : aimsI l = rowI (l.getD ((usesK l 0 l.length).getD 0 0) []) 8 ∧ (usesK l 0 l.length).getD 0 0 < l.length := by
  have hm : (usesK l 0 l.length).getD 0 0 ∈ usesK l 0 l.length := getD_memL h
  refine ⟨?_, usesK_lt hm⟩
  unfold aimsI
  generalize usesK l 0 l.length = u at h
  cases u with
  | nil => exact absurd h (Nat.lt_irrefl 0)
  | cons a u => rfl
theorem abl_aim {d : Dat} (h : Has E0.Δ (.list 38) d) : ∀ r ∈ d.xs, r.getD 8 (.int .i64 0) = .int .i64 (rowI r 8) := by
  cases h with
  | list _ A n c xs hl hh =>
    intro r hr
    have h14 : r.length = 14 := hl r hr
    have hg : r[8]? = some (r.getD 8 (.int .i64 0)) := by rw [List.getD_eq_getElem?_getD, List.getElem?_eq_getElem (by omega)]; rfl
    exact has_int (hh r hr 8 (.int .i64) _ rfl hg)
def aims_s : Spec := fun ds Q => (argL ds 12).length ≤ 1000 ∧ Q [.int .i64 (aimsI (argL ds 12))]
def cAims_s : Spec := aims_s
def rAims_s : Spec := aims_s
def k_cAims : Nat := 16
def sg_cAims : Sig := ⟨[(true, [.int .i64, .int .i64] ++ [.bool] ++ List.replicate 9 (.int .i64) ++ [.list 38])], [(false, [.int .i64])], false, false, false⟩
def tr_cAims : Tree := (.call k_cUses [(.var 0), (.var 1), (.var 2), (.var 3), (.var 4), (.var 5), (.var 6), (.var 7), (.var 8), (.var 9), (.var 10), (.var 11), (.var 12), (.int .i64 0)] [(.rows 3)]
(.loop [(.int .i64 0), (.int .i64 0)] [(.int .i64), (.int .i64)]
 (.ite (.cmp .lt (.var 15) (.len (.app .emp (.var 13))))
  (.ob (.cmp .ge (.var 15) (.int .i64 0))
  (.ob (.cmp .ge (.elem (.app .emp (.var 13)) (.var 15) 0 (.int .i64)) (.int .i64 0))
  (.ob (.cmp .lt (.elem (.app .emp (.var 13)) (.var 15) 0 (.int .i64)) (.len (.var 12)))
  (.ret [(.elem (.var 12) (.elem (.app .emp (.var 13)) (.var 15) 0 (.int .i64)) 8 (.int .i64))]))))
  (.ret [(.int .i64 0)]))))
theorem wk_cAims : walk E0.cx (sgsN [(13, sg_cUses)]) 0 16 sg_cAims = tr_cAims := by kernel_rfl
theorem bo_cAims : ∃ x, bodyOf E0.P 16 = some x := bo_of (by kernel_rfl)
theorem sp_cAims_cUses : specC [con_cUses] k_cUses = cUses_s := rfl
theorem cAims_h : Holds E0 k_cAims sg_cAims cAims_s := con_fn wf0 mix0 g0 [con_cUses] rfl wk_cAims rfl (by
  intro Φ hΦ ds Q hs ⟨hlen, h⟩
  have hl : ds.length = 13 := hs.length.symm
  have s1 : Φ k_cUses = cUses_s := by rw [hΦ]; rfl
  clear hΦ
  simp only [tr_cAims, wp, den_int, den_bool, den_nili, den_ar, den_cmp, den_not, den_len, den_elem, den_isnil, den_errI, den_ifc, den_rep, den_push, den_app, den_emp, den_upd, row0_econs, row0_enil, den_and, den_beq, den_nil, toInt_int, toBool_bool, xs_rows, xs_list, dflt_int, dflt_bool, of_eq, of_ne, of_lt, of_le, of_gt, of_ge, of_add, of_sub, of_rem, List.map_cons, List.map_nil, Dat.bool.injEq, decide_eq_true_eq, decide_eq_false_iff_not, Bool.not_eq_true', Bool.not_eq_false', beq_iff_eq, bne_iff_ne, beq_eq_false_iff_ne, bne_eq_false_iff_eq, ne_eq, List.append_assoc, List.cons_append, List.nil_append, allS, s1, cUses_s, uses_s, @den_var0 E0.Δ ds, den_varA, den_varB, hl, Nat.reduceLT, Nat.reduceLeDiff, Nat.reduceSub, List.getD_cons_zero, List.getD_cons_succ, argL_fold ds, argI_fold ds, List.append_assoc, List.cons_append, List.nil_append, toInt_int, toBool_bool, xs_rows, xs_list, Int.toNat_natCast, Dat.bool.injEq]
  have e12 : ∀ a, argL [ds.getD 0 (.bool false), ds.getD 1 (.bool false), ds.getD 2 (.bool false), ds.getD 3 (.bool false), ds.getD 4 (.bool false), ds.getD 5 (.bool false), ds.getD 6 (.bool false), ds.getD 7 (.bool false), ds.getD 8 (.bool false), ds.getD 9 (.bool false), ds.getD 10 (.bool false), ds.getD 11 (.bool false), ds.getD 12 (.bool false), a] 12 = argL ds 12 := fun _ => rfl
  have e13 : ∀ x, argI [ds.getD 0 (.bool false), ds.getD 1 (.bool false), ds.getD 2 (.bool false), ds.getD 3 (.bool false), ds.getD 4 (.bool false), ds.getD 5 (.bool false), ds.getD 6 (.bool false), ds.getD 7 (.bool false), ds.getD 8 (.bool false), ds.getD 9 (.bool false), ds.getD 10 (.bool false), ds.getD 11 (.bool false), ds.getD 12 (.bool false), .int .i64 x] 13 = x := fun _ => rfl
  simp only [e12, e13, i64R_len]
  have hrow := abl_aim (all2_get hs (i := 12) rfl)
  rw [argL_fold] at hrow
  have e0 : ∀ x, (Dat.int .i64 x).toInt = x := fun _ => rfl
  refine ⟨hlen, fun xs _ => xs.getD 1 (.bool false) = .int .i64 0, ⟨0, rfl⟩, ?_⟩
  intro n n1 m hI
  have hI : Dat.int .i64 n1 = Dat.int .i64 0 := hI
  cases hI
  refine ⟨fun hlt => ?_, fun hge => ?_⟩
  · have hp : 0 < (usesK (argL ds 12) 0 (argL ds 12).length).length := by omega
    obtain ⟨ha, hb⟩ := aims_1 hp
    rw [show (0 : Int).toNat = 0 from rfl, i64R_get hp, e0, Int.toNat_natCast]
    refine ⟨by omega, by omega, by omega, ?_⟩
    rw [hrow _ (getD_memL hb), ← ha]; exact h
  · rw [aims_0 (by omega)] at h; exact h)
noncomputable def con_cAims : Con E0 := ⟨k_cAims, sg_cAims, cAims_s, rfl, bo_cAims, cAims_h⟩
def k_rAims : Nat := 17
def sg_rAims : Sig := ⟨[(true, [.int .i64, .int .i64] ++ [.bool] ++ List.replicate 9 (.int .i64) ++ [.list 38])], [(false, [.int .i64])], false, false, false⟩
def tr_rAims : Tree := (.call k_rUses [(.var 0), (.var 1), (.var 2), (.var 3), (.var 4), (.var 5), (.var 6), (.var 7), (.var 8), (.var 9), (.var 10), (.var 11), (.var 12), (.int .i64 0)] [(.rows 3)]
(.ite (.cmp .gt (.len (.app .emp (.var 13))) (.int .i64 0))
 (.ob (.cmp .lt (.int .i64 0) (.len (.app .emp (.var 13))))
 (.ob (.cmp .ge (.elem (.app .emp (.var 13)) (.int .i64 0) 0 (.int .i64)) (.int .i64 0))
 (.ob (.cmp .lt (.elem (.app .emp (.var 13)) (.int .i64 0) 0 (.int .i64)) (.len (.var 12)))
 (.ret [(.elem (.var 12) (.elem (.app .emp (.var 13)) (.int .i64 0) 0 (.int .i64)) 8 (.int .i64))]))))
 (.ret [(.int .i64 0)])))
theorem wk_rAims : walk E0.cx (sgsN [(15, sg_rUses)]) 0 17 sg_rAims = tr_rAims := by kernel_rfl
theorem bo_rAims : ∃ x, bodyOf E0.P 17 = some x := bo_of (by kernel_rfl)
theorem sp_rAims_rUses : specC [con_rUses] k_rUses = rUses_s := rfl
theorem rAims_h : Holds E0 k_rAims sg_rAims rAims_s := con_fn wf0 mix0 g0 [con_rUses] rfl wk_rAims rfl (by
  intro Φ hΦ ds Q hs ⟨hlen, h⟩
  have hl : ds.length = 13 := hs.length.symm
  have s1 : Φ k_rUses = rUses_s := by rw [hΦ]; rfl
  clear hΦ
  simp only [tr_rAims, wp, den_int, den_bool, den_nili, den_ar, den_cmp, den_not, den_len, den_elem, den_isnil, den_errI, den_ifc, den_rep, den_push, den_app, den_emp, den_upd, row0_econs, row0_enil, den_and, den_beq, den_nil, toInt_int, toBool_bool, xs_rows, xs_list, dflt_int, dflt_bool, of_eq, of_ne, of_lt, of_le, of_gt, of_ge, of_add, of_sub, of_rem, List.map_cons, List.map_nil, Dat.bool.injEq, decide_eq_true_eq, decide_eq_false_iff_not, Bool.not_eq_true', Bool.not_eq_false', beq_iff_eq, bne_iff_ne, beq_eq_false_iff_ne, bne_eq_false_iff_eq, ne_eq, List.append_assoc, List.cons_append, List.nil_append, allS, s1, rUses_s, uses_s, @den_var0 E0.Δ ds, den_varA, den_varB, hl, Nat.reduceLT, Nat.reduceLeDiff, Nat.reduceSub, List.getD_cons_zero, List.getD_cons_succ, argL_fold ds, argI_fold ds, List.append_assoc, List.cons_append, List.nil_append, toInt_int, toBool_bool, xs_rows, xs_list, Int.toNat_natCast, Dat.bool.injEq]
  have e12 : ∀ a, argL [ds.getD 0 (.bool false), ds.getD 1 (.bool false), ds.getD 2 (.bool false), ds.getD 3 (.bool false), ds.getD 4 (.bool false), ds.getD 5 (.bool false), ds.getD 6 (.bool false), ds.getD 7 (.bool false), ds.getD 8 (.bool false), ds.getD 9 (.bool false), ds.getD 10 (.bool false), ds.getD 11 (.bool false), ds.getD 12 (.bool false), a] 12 = argL ds 12 := fun _ => rfl
  have e13 : ∀ x, argI [ds.getD 0 (.bool false), ds.getD 1 (.bool false), ds.getD 2 (.bool false), ds.getD 3 (.bool false), ds.getD 4 (.bool false), ds.getD 5 (.bool false), ds.getD 6 (.bool false), ds.getD 7 (.bool false), ds.getD 8 (.bool false), ds.getD 9 (.bool false), ds.getD 10 (.bool false), ds.getD 11 (.bool false), ds.getD 12 (.bool false), .int .i64 x] 13 = x := fun _ => rfl
  simp only [e12, e13, i64R_len]
  have hrow := abl_aim (all2_get hs (i := 12) rfl)
  rw [argL_fold] at hrow
  have e0 : ∀ x, (Dat.int .i64 x).toInt = x := fun _ => rfl
  refine ⟨hlen, fun hlt => ?_, fun hge => ?_⟩
  · have hp : 0 < (usesK (argL ds 12) 0 (argL ds 12).length).length := by omega
    obtain ⟨ha, hb⟩ := aims_1 hp
    rw [show (0 : Int).toNat = 0 from rfl, i64R_get hp, e0, Int.toNat_natCast]
    refine ⟨by omega, by omega, by omega, ?_⟩
    rw [hrow _ (getD_memL hb), ← ha]; exact h
  · rw [aims_0 (by omega)] at h; exact h)
noncomputable def con_rAims : Con E0 := ⟨k_rAims, sg_rAims, rAims_s, rfl, bo_rAims, rAims_h⟩
def k_luses7 : Nat := 5
def sg_luses7 : Sig := ⟨[(true, [.int .i64, .int .i64] ++ [.bool] ++ List.replicate 9 (.int .i64) ++ [.list 38]), (false, [.int .i64])], [(false, [.bool])], false, false, false⟩
def tr_luses7 : Tree := (.call k_alive7 [] [.bool]
(.ite (.not (.var 14))
 (.ret [(.bool false)])
 (.call k_clarge [(.var 0), (.var 1), (.var 2), (.var 3), (.var 4), (.var 5), (.var 6), (.var 7), (.var 8), (.var 9), (.var 10), (.var 11), (.var 12)] [.bool]
 (.ite (.var 15)
  (.ret [(.bool true)])
  (.call k_cUses [(.var 0), (.var 1), (.var 2), (.var 3), (.var 4), (.var 5), (.var 6), (.var 7), (.var 8), (.var 9), (.var 10), (.var 11), (.var 12), (.var 13)] [(.rows 3)]
  (.call k_rUses [(.var 0), (.var 1), (.var 2), (.var 3), (.var 4), (.var 5), (.var 6), (.var 7), (.var 8), (.var 9), (.var 10), (.var 11), (.var 12), (.var 13)] [(.rows 3)]
  (.share 3 (.app .emp (.var 16))
  (.share 3 (.app .emp (.var 17))
  (.call k_Ints [(.var 18), (.var 19)] [.bool]
  (.ite (.var 20)
   (.call k_cAims [(.var 0), (.var 1), (.var 2), (.var 3), (.var 4), (.var 5), (.var 6), (.var 7), (.var 8), (.var 9), (.var 10), (.var 11), (.var 12)] [(.int .i64)]
   (.call k_rAims [(.var 0), (.var 1), (.var 2), (.var 3), (.var 4), (.var 5), (.var 6), (.var 7), (.var 8), (.var 9), (.var 10), (.var 11), (.var 12)] [(.int .i64)]
   (.ret [(.cmp .eq (.var 21) (.var 22))])))
   (.ret [(.bool false)])))))))))))
theorem wk_luses7 : walk E0.cx (sgsN [(7, sg_alive7), (8, sg_clarge), (13, sg_cUses), (15, sg_rUses), (14, sg_Ints), (16, sg_cAims), (17, sg_rAims)]) 0 5 sg_luses7 = tr_luses7 := by kernel_rfl
theorem bo_luses7 : ∃ x, bodyOf E0.P 5 = some x := bo_of (by kernel_rfl)
theorem sp_luses7_alive7 : specC [con_alive7, con_clarge, con_cUses, con_rUses, con_Ints, con_cAims, con_rAims] k_alive7 = alive7_s := rfl
theorem sp_luses7_clarge : specC [con_alive7, con_clarge, con_cUses, con_rUses, con_Ints, con_cAims, con_rAims] k_clarge = clarge_s := rfl
theorem sp_luses7_cUses : specC [con_alive7, con_clarge, con_cUses, con_rUses, con_Ints, con_cAims, con_rAims] k_cUses = cUses_s := rfl
theorem sp_luses7_rUses : specC [con_alive7, con_clarge, con_cUses, con_rUses, con_Ints, con_cAims, con_rAims] k_rUses = rUses_s := rfl
theorem sp_luses7_Ints : specC [con_alive7, con_clarge, con_cUses, con_rUses, con_Ints, con_cAims, con_rAims] k_Ints = Ints_s := rfl
theorem sp_luses7_cAims : specC [con_alive7, con_clarge, con_cUses, con_rUses, con_Ints, con_cAims, con_rAims] k_cAims = cAims_s := rfl
theorem sp_luses7_rAims : specC [con_alive7, con_clarge, con_cUses, con_rUses, con_Ints, con_cAims, con_rAims] k_rAims = rAims_s := rfl
theorem luses7_h : Holds E0 k_luses7 sg_luses7 true_s := con_fn wf0 mix0 g0 [con_alive7, con_clarge, con_cUses, con_rUses, con_Ints, con_cAims, con_rAims] rfl wk_luses7 rfl (by
  intro Φ hΦ ds Q hs h
  have hl : ds.length = 14 := hs.length.symm
  have s1 : Φ k_alive7 = alive7_s := by rw [hΦ]; rfl
  have s2 : Φ k_clarge = clarge_s := by rw [hΦ]; rfl
  have s3 : Φ k_cUses = cUses_s := by rw [hΦ]; rfl
  have s4 : Φ k_rUses = rUses_s := by rw [hΦ]; rfl
  have s5 : Φ k_Ints = Ints_s := by rw [hΦ]; rfl
  have s6 : Φ k_cAims = cAims_s := by rw [hΦ]; rfl
  have s7 : Φ k_rAims = rAims_s := by rw [hΦ]; rfl
  clear hΦ
  simp only [tr_luses7, wp, den_int, den_bool, den_nili, den_ar, den_cmp, den_not, den_len, den_elem, den_isnil, den_errI, den_ifc, den_rep, den_push, den_app, den_emp, den_upd, row0_econs, row0_enil, den_and, den_beq, den_nil, toInt_int, toBool_bool, xs_rows, xs_list, dflt_int, dflt_bool, of_eq, of_ne, of_lt, of_le, of_gt, of_ge, of_add, of_sub, of_rem, List.map_cons, List.map_nil, Dat.bool.injEq, decide_eq_true_eq, decide_eq_false_iff_not, Bool.not_eq_true', Bool.not_eq_false', beq_iff_eq, bne_iff_ne, beq_eq_false_iff_ne, bne_eq_false_iff_eq, ne_eq, List.append_assoc, List.cons_append, List.nil_append, allS, s1, s2, s3, s4, s5, s6, s7, alive7_s, clarge_s, cUses_s, rUses_s, uses_s, Ints_s, cAims_s, rAims_s, aims_s, @den_var0 E0.Δ ds, den_varA, den_varB, hl, Nat.reduceLT, Nat.reduceLeDiff, Nat.reduceSub, List.getD_cons_zero, List.getD_cons_succ, argL_fold ds, argI_fold ds, List.append_assoc, List.cons_append, List.nil_append, toInt_int, toBool_bool, xs_rows, xs_list, Int.toNat_natCast, Dat.bool.injEq, fold14 hl]
  have e12 : argL [ds.getD 0 (.bool false), ds.getD 1 (.bool false), ds.getD 2 (.bool false), ds.getD 3 (.bool false), ds.getD 4 (.bool false), ds.getD 5 (.bool false), ds.getD 6 (.bool false), ds.getD 7 (.bool false), ds.getD 8 (.bool false), ds.getD 9 (.bool false), ds.getD 10 (.bool false), ds.getD 11 (.bool false), ds.getD 12 (.bool false)] 12 = argL ds 12 := rfl
  rw [e12]
  refine ⟨fun hx => Bool.noConfusion hx, fun _ b hb => ⟨fun _ => h, fun hf => ?_⟩⟩
  have h9 : (argL ds 12).length ≤ 9 := (hb hf).1
  have hu := usesK_len (argL ds 12) (argI ds 13) (argL ds 12).length
  refine ⟨by omega, by omega, fun A c A1 c1 => ⟨?_, fun _ => ⟨by omega, by omega, ?_⟩, fun hx => absurd rfl hx⟩⟩
  · show (i64R (usesK (argL ds 12) (argI ds 13) (argL ds 12).length)).length ≤ 1000000
    rw [i64R_len]; omega
  · rw [beq_self_eq_true]; exact h)
end Go.Proofs.Ytiolgkmfjcdbiaa
