import Derived.Test.YtcigbgpdikadpaaDoorM12

set_option linter.unusedVariables false
set_option linter.unusedSimpArgs false

section
namespace Go.Proofs.YtcigbgpdikadpaaDoor
open Go.RowKit
set_option linter.unusedVariables false
set_option linter.unusedSimpArgs false

theorem map6 {α β : Type} {f : α → β} {l : List α} {a b c d e g : β} (h : l.map f = [a, b, c, d, e, g]) : ∃ x0 x1 x2 x3 x4 x5, l = [x0, x1, x2, x3, x4, x5] ∧ f x0 = a ∧ f x1 = b ∧ f x2 = c ∧ f x3 = d ∧ f x4 = e ∧ f x5 = g := by
  obtain ⟨x0, l, rfl, h0, h⟩ := List.map_eq_cons_iff.1 h
  obtain ⟨x1, l, rfl, h1, h⟩ := List.map_eq_cons_iff.1 h
  obtain ⟨x2, l, rfl, h2, h⟩ := List.map_eq_cons_iff.1 h
  obtain ⟨x3, l, rfl, h3, h⟩ := List.map_eq_cons_iff.1 h
  obtain ⟨x4, l, rfl, h4, h⟩ := List.map_eq_cons_iff.1 h
  obtain ⟨x5, l, rfl, h5, h⟩ := List.map_eq_cons_iff.1 h
  rw [List.map_eq_nil_iff] at h
  subst h
  exact ⟨x0, x1, x2, x3, x4, x5, rfl, h0, h1, h2, h3, h4, h5⟩
theorem tcost_free (p : Int) : tcost_g [.int 5, .int 0, .int p] = some [.int 0, .int 0, .int 0, .int 0, .int 0, .int (IntKind.i64.wrap (0 + p))] := by kernel_rfl
theorem drop3_14 {ds : List Dat} (hl : ds.length = 17) (x : Dat) : [ds.getD 3 x, ds.getD 4 x, ds.getD 5 x, ds.getD 6 x, ds.getD 7 x, ds.getD 8 x, ds.getD 9 x, ds.getD 10 x, ds.getD 11 x, ds.getD 12 x, ds.getD 13 x, ds.getD 14 x, ds.getD 15 x, ds.getD 16 x] = ds.drop 3 := by
  refine List.ext_getElem (by simp [hl]) fun i h1 h2 => ?_
  rw [List.getElem_drop]
  have e : ∀ j (hj : j < ds.length), ds.getD j x = ds[j] := fun j hj => by rw [List.getD_eq_getElem?_getD, List.getElem?_eq_getElem hj]; rfl
  have h3 : i < 14 := h1
  match i, h3 with
  | 0, _ => exact e 3 (by omega)
  | 1, _ => exact e 4 (by omega)
  | 2, _ => exact e 5 (by omega)
  | 3, _ => exact e 6 (by omega)
  | 4, _ => exact e 7 (by omega)
  | 5, _ => exact e 8 (by omega)
  | 6, _ => exact e 9 (by omega)
  | 7, _ => exact e 10 (by omega)
  | 8, _ => exact e 11 (by omega)
  | 9, _ => exact e 12 (by omega)
  | 10, _ => exact e 13 (by omega)
  | 11, _ => exact e 14 (by omega)
  | 12, _ => exact e 15 (by omega)
  | 13, _ => exact e 16 (by omega)
  | i + 14, h => exact absurd h (by omega)
def k_tsingle : Nat := 45
def sg_tsingle : Sig := ⟨[(false, [.int .i64]), (false, [.int .i64]), (false, [.bool]), (true, List.replicate 7 (.int .i64) ++ [.bool] ++ List.replicate 5 (.int .i64) ++ [.list 37])], [(true, [.int .i64, .int .i64] ++ [.bool] ++ List.replicate 9 (.int .i64) ++ [.list 39])], false, false, true, false, true, [], [], none⟩
def tr_tsingle : Tree := (.both (.call k_tcost [(.int .i64 5), (.int .i64 0), (.var 1)] [(.int .i64), (.int .i64), (.int .i64), (.int .i64), (.int .i64), (.int .i64)]
(.lit 39 (.push .emp (.econs (.var 3) (.econs (.var 4) (.econs (.var 5) (.econs (.var 6) (.econs (.var 7) (.econs (.var 8) (.econs (.var 9) (.econs (.var 10) (.econs (.var 11) (.econs (.var 12) (.econs (.var 13) (.econs (.var 14) (.econs (.var 15) (.econs (.var 16) .enil)))))))))))))))
(.ret [(.var 0), (.int .i64 5), (.var 2), (.var 17), (.var 18), (.var 19), (.var 20), (.var 21), (.var 22), (.int .i64 0), (.int .i64 0), (.int .i64 0), (.var 23)]))) (.lit 39 (.push .emp (.econs (.var 3) (.econs (.var 4) (.econs (.var 5) (.econs (.var 6) (.econs (.var 7) (.econs (.var 8) (.econs (.var 9) (.econs (.var 10) (.econs (.var 11) (.econs (.var 12) (.econs (.var 13) (.econs (.var 14) (.econs (.var 15) (.econs (.var 16) .enil)))))))))))))))
(.call k_tcost [(.int .i64 5), (.int .i64 0), (.var 1)] [(.int .i64), (.int .i64), (.int .i64), (.int .i64), (.int .i64), (.int .i64)]
(.ret [(.var 0), (.int .i64 5), (.var 2), (.var 18), (.var 19), (.var 20), (.var 21), (.var 22), (.var 23), (.int .i64 0), (.int .i64 0), (.int .i64 0), (.var 17)]))))
theorem wk_tsingle : walk E0.cx (sgsN [(20, sg_tcost)]) 0 45 sg_tsingle = tr_tsingle := by kernel_rfl
theorem bo_tsingle : ∃ x, bodyOf E0.P 45 = some x := bo_of (by kernel_rfl)
theorem sp_tsingle_tcost : specC [con_tcost] k_tcost = tcost_s := rfl
/-- a card without a colour, with one ability, behind which there is no room -/
def tsingle_s : Spec := fun ds Q => ∃ p : Int, argI ds 1 = p ∧ 0 ≤ p ∧ p ≤ 100 ∧ ∀ rs, rs.map strip = [strip (ds.getD 0 (.bool false)), .int 5, strip (ds.getD 2 (.bool false)), .int 0, .int 0, .int 0, .int 0, .int 0, .int p, .int 0, .int 0, .int 0, .list 14 [(ds.drop 3).map strip]] →
  capD (rs.getD 12 (.bool false)) = 1 → Q rs
theorem tsingle_h : Holds E0 k_tsingle sg_tsingle tsingle_s := con_fn wf0 mix0 g0 [con_tcost] rfl wk_tsingle rfl (by
  intro Φ hΦ ds Q hs ⟨p, hp, h0, h1, h⟩
  have hl : ds.length = 17 := hs.length.symm
  have s1 : Φ k_tcost = tcost_s := by rw [hΦ]; rfl
  clear hΦ
  have h1i : ds.getD 1 (.bool false) = .int .i64 p := by
    have := argV (all2_get hs (i := 1) rfl)
    rw [this, hp]
  simp only [tr_tsingle, wp, den_int, den_bool, den_nili, den_ar, den_cmp, den_not, den_len, den_elem, den_isnil, den_errI, den_ifc, den_rep, den_push, den_app, den_emp, den_upd, row0_econs, row0_enil, den_and, den_beq, den_nil, toInt_int, toBool_bool, xs_rows, xs_list, dflt_int, dflt_bool, of_eq, of_ne, of_lt, of_le, of_gt, of_ge, of_add, of_sub, of_rem, List.map_cons, List.map_nil, Dat.bool.injEq, decide_eq_true_eq, decide_eq_false_iff_not, Bool.not_eq_true', Bool.not_eq_false', beq_iff_eq, bne_iff_ne, beq_eq_false_iff_ne, bne_eq_false_iff_eq, ne_eq, List.append_assoc, List.cons_append, List.nil_append, allS, s1, tcost_s, psp, @den_var0 E0.Δ ds, den_varA, den_varB, hl, Nat.reduceLT, Nat.reduceLeDiff, Nat.reduceSub, List.getD_cons_zero, List.getD_cons_succ, argL_fold ds, argI_fold ds, List.append_assoc, List.cons_append, List.nil_append, toInt_int, toBool_bool, xs_rows, xs_list, Int.toNat_natCast, Dat.bool.injEq, drop3_14 hl]
  have hg : tcost_g (List.map strip [Dat.int .i64 5, .int .i64 0, ds.getD 1 (.bool false)]) = some [.int 0, .int 0, .int 0, .int 0, .int 0, .int p] := by
    rw [h1i]
    simp only [List.map_cons, List.map_nil, strip_int, tcost_free, Int.zero_add]
    rw [wrap64 (by omega) (by omega)]
  refine ⟨⟨_, hg, fun rs' hrs A => ?_⟩, fun A => ⟨_, hg, fun rs' hrs => ?_⟩⟩
  · obtain ⟨x0, x1, x2, x3, x4, x5, rfl, e0, e1, e2, e3, e4, e5⟩ := map6 hrs
    simp only [@den_var0 E0.Δ ds, den_varA, den_varB, hl, Nat.reduceLT, Nat.reduceLeDiff, Nat.reduceSub, List.getD_cons_zero, List.getD_cons_succ, argL_fold ds, argI_fold ds, List.append_assoc, List.cons_append, List.nil_append, toInt_int, toBool_bool, xs_rows, xs_list, Int.toNat_natCast, Dat.bool.injEq, drop3_14 hl]
    exact h _ (by simp [e0, e1, e2, e3, e4, e5, strip_int, strip_list]; rfl) rfl
  · obtain ⟨x0, x1, x2, x3, x4, x5, rfl, e0, e1, e2, e3, e4, e5⟩ := map6 hrs
    simp only [@den_var0 E0.Δ ds, den_varA, den_varB, hl, Nat.reduceLT, Nat.reduceLeDiff, Nat.reduceSub, List.getD_cons_zero, List.getD_cons_succ, argL_fold ds, argI_fold ds, List.append_assoc, List.cons_append, List.nil_append, toInt_int, toBool_bool, xs_rows, xs_list, Int.toNat_natCast, Dat.bool.injEq, drop3_14 hl]
    exact h _ (by simp [e0, e1, e2, e3, e4, e5, strip_int, strip_list]; rfl) rfl)
noncomputable def con_tsingle : Con E0 := ⟨k_tsingle, sg_tsingle, tsingle_s, rfl, bo_tsingle, tsingle_h⟩
def k_tsing0 : Nat := 45
def sg_tsing0 : Sig := ⟨[(false, [.int .i64]), (false, [.int .i64]), (false, [.bool]), (true, List.replicate 7 (.int .i64) ++ [.bool] ++ List.replicate 5 (.int .i64) ++ [.list 37])], [(true, [.int .i64, .int .i64] ++ [.bool] ++ List.replicate 9 (.int .i64) ++ [.list 39])], false, false, true, false, true, [], [], none⟩
def tr_tsing0 : Tree := (.both (.call k_tcost [(.int .i64 5), (.int .i64 0), (.var 1)] [(.int .i64), (.int .i64), (.int .i64), (.int .i64), (.int .i64), (.int .i64)]
(.lit 39 (.push .emp (.econs (.var 3) (.econs (.var 4) (.econs (.var 5) (.econs (.var 6) (.econs (.var 7) (.econs (.var 8) (.econs (.var 9) (.econs (.var 10) (.econs (.var 11) (.econs (.var 12) (.econs (.var 13) (.econs (.var 14) (.econs (.var 15) (.econs (.var 16) .enil)))))))))))))))
(.ret [(.var 0), (.int .i64 5), (.var 2), (.var 17), (.var 18), (.var 19), (.var 20), (.var 21), (.var 22), (.int .i64 0), (.int .i64 0), (.int .i64 0), (.var 23)]))) (.lit 39 (.push .emp (.econs (.var 3) (.econs (.var 4) (.econs (.var 5) (.econs (.var 6) (.econs (.var 7) (.econs (.var 8) (.econs (.var 9) (.econs (.var 10) (.econs (.var 11) (.econs (.var 12) (.econs (.var 13) (.econs (.var 14) (.econs (.var 15) (.econs (.var 16) .enil)))))))))))))))
(.call k_tcost [(.int .i64 5), (.int .i64 0), (.var 1)] [(.int .i64), (.int .i64), (.int .i64), (.int .i64), (.int .i64), (.int .i64)]
(.ret [(.var 0), (.int .i64 5), (.var 2), (.var 18), (.var 19), (.var 20), (.var 21), (.var 22), (.var 23), (.int .i64 0), (.int .i64 0), (.int .i64 0), (.var 17)]))))
theorem wk_tsing0 : walk E0.cx (sgsN [(20, sg_tcost)]) 0 45 sg_tsing0 = tr_tsing0 := by kernel_rfl
theorem bo_tsing0 : ∃ x, bodyOf E0.P 45 = some x := bo_of (by kernel_rfl)
theorem sp_tsing0_tcost : specC [con_tcost] k_tcost = tcost_s := rfl
noncomputable def tsing0_g : List PD → Option (List PD) := fun ps => evL E0.Δ (pfun [(k_tcost, tcost_g)]) 0 [] tr_tsing0 ps
def tsing0_s : Spec := psp tsing0_g
theorem tsing0_h : Holds E0 k_tsing0 sg_tsing0 tsing0_s := con_ev wf0 mix0 g0 [con_tcost] rfl wk_tsing0 rfl (fits_cons (k := k_tcost) (g := tcost_g) sp_tsing0_tcost (fits_nil)) 0
noncomputable def con_tsing0 : Con E0 := ⟨k_tsing0, sg_tsing0, tsing0_s, rfl, bo_tsing0, tsing0_h⟩
def k_tearly : Nat := 39
def sg_tearly : Sig := ⟨[], [(false, [.rows 31])], true, false, true, false, false, [], [], none⟩
def tr_tearly : Tree := (.call k_tsing0 [(.int .i64 2), (.int .i64 1), (.bool false), (.int .i64 0), (.int .i64 0), (.int .i64 0), (.int .i64 0), (.int .i64 0), (.int .i64 0), (.int .i64 0), (.bool false), (.int .i64 0), (.int .i64 18), (.int .i64 0), (.int .i64 0), (.int .i64 0), (.nil 37)] [(.int .i64), (.int .i64), .bool, (.int .i64), (.int .i64), (.int .i64), (.int .i64), (.int .i64), (.int .i64), (.int .i64), (.int .i64), (.int .i64), (.list 39)]
(.call k_tsing0 [(.int .i64 2), (.int .i64 2), (.bool false), (.int .i64 0), (.int .i64 0), (.int .i64 0), (.int .i64 0), (.int .i64 0), (.int .i64 0), (.int .i64 0), (.bool false), (.int .i64 0), (.int .i64 19), (.int .i64 2), (.int .i64 0), (.int .i64 1), (.nil 37)] [(.int .i64), (.int .i64), .bool, (.int .i64), (.int .i64), (.int .i64), (.int .i64), (.int .i64), (.int .i64), (.int .i64), (.int .i64), (.int .i64), (.list 39)]
(.call k_tsing0 [(.int .i64 2), (.int .i64 1), (.bool false), (.int .i64 0), (.int .i64 0), (.int .i64 0), (.int .i64 0), (.int .i64 0), (.int .i64 0), (.int .i64 0), (.bool false), (.int .i64 0), (.int .i64 16), (.int .i64 3), (.int .i64 0), (.int .i64 1), (.nil 37)] [(.int .i64), (.int .i64), .bool, (.int .i64), (.int .i64), (.int .i64), (.int .i64), (.int .i64), (.int .i64), (.int .i64), (.int .i64), (.int .i64), (.list 39)]
(.call k_tsing0 [(.int .i64 2), (.int .i64 1), (.bool true), (.int .i64 0), (.int .i64 0), (.int .i64 0), (.int .i64 0), (.int .i64 0), (.int .i64 0), (.int .i64 0), (.bool false), (.int .i64 0), (.int .i64 17), (.int .i64 2), (.int .i64 0), (.int .i64 1), (.nil 37)] [(.int .i64), (.int .i64), .bool, (.int .i64), (.int .i64), (.int .i64), (.int .i64), (.int .i64), (.int .i64), (.int .i64), (.int .i64), (.int .i64), (.list 39)]
(.call k_tsing0 [(.int .i64 2), (.int .i64 2), (.bool false), (.int .i64 0), (.int .i64 0), (.int .i64 0), (.int .i64 0), (.int .i64 0), (.int .i64 0), (.int .i64 0), (.bool false), (.int .i64 0), (.int .i64 5), (.int .i64 3), (.int .i64 0), (.int .i64 4), (.nil 37)] [(.int .i64), (.int .i64), .bool, (.int .i64), (.int .i64), (.int .i64), (.int .i64), (.int .i64), (.int .i64), (.int .i64), (.int .i64), (.int .i64), (.list 39)]
(.call k_tsing0 [(.int .i64 2), (.int .i64 3), (.bool true), (.int .i64 0), (.int .i64 0), (.int .i64 0), (.int .i64 0), (.int .i64 0), (.int .i64 0), (.int .i64 0), (.bool false), (.int .i64 4), (.int .i64 9), (.int .i64 0), (.int .i64 0), (.int .i64 2), (.nil 37)] [(.int .i64), (.int .i64), .bool, (.int .i64), (.int .i64), (.int .i64), (.int .i64), (.int .i64), (.int .i64), (.int .i64), (.int .i64), (.int .i64), (.list 39)]
(.ret [(.push (.push (.push (.push (.push (.push .emp (.econs (.var 0) (.econs (.var 1) (.econs (.var 2) (.econs (.var 3) (.econs (.var 4) (.econs (.var 5) (.econs (.var 6) (.econs (.var 7) (.econs (.var 8) (.econs (.var 9) (.econs (.var 10) (.econs (.var 11) (.econs (.var 12) .enil)))))))))))))) (.econs (.var 13) (.econs (.var 14) (.econs (.var 15) (.econs (.var 16) (.econs (.var 17) (.econs (.var 18) (.econs (.var 19) (.econs (.var 20) (.econs (.var 21) (.econs (.var 22) (.econs (.var 23) (.econs (.var 24) (.econs (.var 25) .enil)))))))))))))) (.econs (.var 26) (.econs (.var 27) (.econs (.var 28) (.econs (.var 29) (.econs (.var 30) (.econs (.var 31) (.econs (.var 32) (.econs (.var 33) (.econs (.var 34) (.econs (.var 35) (.econs (.var 36) (.econs (.var 37) (.econs (.var 38) .enil)))))))))))))) (.econs (.var 39) (.econs (.var 40) (.econs (.var 41) (.econs (.var 42) (.econs (.var 43) (.econs (.var 44) (.econs (.var 45) (.econs (.var 46) (.econs (.var 47) (.econs (.var 48) (.econs (.var 49) (.econs (.var 50) (.econs (.var 51) .enil)))))))))))))) (.econs (.var 52) (.econs (.var 53) (.econs (.var 54) (.econs (.var 55) (.econs (.var 56) (.econs (.var 57) (.econs (.var 58) (.econs (.var 59) (.econs (.var 60) (.econs (.var 61) (.econs (.var 62) (.econs (.var 63) (.econs (.var 64) .enil)))))))))))))) (.econs (.var 65) (.econs (.var 66) (.econs (.var 67) (.econs (.var 68) (.econs (.var 69) (.econs (.var 70) (.econs (.var 71) (.econs (.var 72) (.econs (.var 73) (.econs (.var 74) (.econs (.var 75) (.econs (.var 76) (.econs (.var 77) .enil))))))))))))))])))))))
theorem wk_tearly : walk E0.cx (sgsN [(45, sg_tsing0)]) 0 39 sg_tearly = tr_tearly := by kernel_rfl
theorem bo_tearly : ∃ x, bodyOf E0.P 39 = some x := bo_of (by kernel_rfl)
theorem sp_tearly_tsing0 : specC [con_tsing0] k_tsing0 = tsing0_s := rfl
noncomputable def tearly_g : List PD → Option (List PD) := fun ps => evL E0.Δ (pfun [(k_tsing0, tsing0_g)]) 0 [] tr_tearly ps
def tearly_s : Spec := psp tearly_g
theorem tearly_h : Holds E0 k_tearly sg_tearly tearly_s := con_ev wf0 mix0 g0 [con_tsing0] rfl wk_tearly rfl (fits_cons (k := k_tsing0) (g := tsing0_g) sp_tearly_tsing0 (fits_nil)) 0
noncomputable def con_tearly : Con E0 := ⟨k_tearly, sg_tearly, tearly_s, rfl, bo_tearly, tearly_h⟩
theorem tearly_ok : tearly_g [] = some [.rows earlyP] := by kernel_rfl
theorem map13 {α β : Type} {f : α → β} {l : List α} {b0 b1 b2 b3 b4 b5 b6 b7 b8 b9 b10 b11 b12 : β} (h : l.map f = [b0, b1, b2, b3, b4, b5, b6, b7, b8, b9, b10, b11, b12]) : ∃ x0 x1 x2 x3 x4 x5 x6 x7 x8 x9 x10 x11 x12, l = [x0, x1, x2, x3, x4, x5, x6, x7, x8, x9, x10, x11, x12] ∧ f x0 = b0 ∧ f x1 = b1 ∧ f x2 = b2 ∧ f x3 = b3 ∧ f x4 = b4 ∧ f x5 = b5 ∧ f x6 = b6 ∧ f x7 = b7 ∧ f x8 = b8 ∧ f x9 = b9 ∧ f x10 = b10 ∧ f x11 = b11 ∧ f x12 = b12 := by
  obtain ⟨x0, l, rfl, h0, h⟩ := List.map_eq_cons_iff.1 h
  obtain ⟨x1, l, rfl, h1, h⟩ := List.map_eq_cons_iff.1 h
  obtain ⟨x2, l, rfl, h2, h⟩ := List.map_eq_cons_iff.1 h
  obtain ⟨x3, l, rfl, h3, h⟩ := List.map_eq_cons_iff.1 h
  obtain ⟨x4, l, rfl, h4, h⟩ := List.map_eq_cons_iff.1 h
  obtain ⟨x5, l, rfl, h5, h⟩ := List.map_eq_cons_iff.1 h
  obtain ⟨x6, l, rfl, h6, h⟩ := List.map_eq_cons_iff.1 h
  obtain ⟨x7, l, rfl, h7, h⟩ := List.map_eq_cons_iff.1 h
  obtain ⟨x8, l, rfl, h8, h⟩ := List.map_eq_cons_iff.1 h
  obtain ⟨x9, l, rfl, h9, h⟩ := List.map_eq_cons_iff.1 h
  obtain ⟨x10, l, rfl, h10, h⟩ := List.map_eq_cons_iff.1 h
  obtain ⟨x11, l, rfl, h11, h⟩ := List.map_eq_cons_iff.1 h
  obtain ⟨x12, l, rfl, h12, h⟩ := List.map_eq_cons_iff.1 h
  rw [List.map_eq_nil_iff] at h
  subst h
  exact ⟨x0, x1, x2, x3, x4, x5, x6, x7, x8, x9, x10, x11, x12, rfl, h0, h1, h2, h3, h4, h5, h6, h7, h8, h9, h10, h11, h12⟩
theorem tcost_1 : tcost_g [.int 5, .int 0, .int 1] = some [.int 0, .int 0, .int 0, .int 0, .int 0, .int 1] := by kernel_rfl
def k_tlate : Nat := 40
def sg_tlate : Sig := ⟨[], [(false, [.rows 31])], true, false, true, false, false, [], [], none⟩
def tr_tlate : Tree := (.share 37 (.push .emp (.econs (.int .i64 7) (.econs (.int .i64 0) (.econs (.int .i64 0) (.econs (.int .i64 2) (.econs (.nil 37) .enil))))))
(.call k_tsingle [(.int .i64 2), (.int .i64 2), (.bool false), (.int .i64 0), (.int .i64 0), (.int .i64 0), (.int .i64 0), (.int .i64 0), (.int .i64 0), (.int .i64 0), (.bool false), (.int .i64 0), (.int .i64 20), (.int .i64 0), (.int .i64 0), (.int .i64 0), (.var 0)] [(.int .i64), (.int .i64), .bool, (.int .i64), (.int .i64), (.int .i64), (.int .i64), (.int .i64), (.int .i64), (.int .i64), (.int .i64), (.int .i64), (.list 39)]
(.call k_tsingle [(.int .i64 3), (.int .i64 2), (.bool false), (.int .i64 1), (.int .i64 0), (.int .i64 0), (.int .i64 0), (.int .i64 0), (.int .i64 0), (.int .i64 0), (.bool false), (.int .i64 0), (.int .i64 15), (.int .i64 1), (.int .i64 5), (.int .i64 0), (.nil 37)] [(.int .i64), (.int .i64), .bool, (.int .i64), (.int .i64), (.int .i64), (.int .i64), (.int .i64), (.int .i64), (.int .i64), (.int .i64), (.int .i64), (.list 39)]
(.call k_tcost [(.int .i64 5), (.int .i64 0), (.int .i64 1)] [(.int .i64), (.int .i64), (.int .i64), (.int .i64), (.int .i64), (.int .i64)]
(.call k_tsingle [(.int .i64 1), (.int .i64 2), (.bool false), (.int .i64 1), (.var 27), (.var 28), (.var 29), (.var 30), (.var 31), (.var 32), (.bool false), (.int .i64 0), (.int .i64 13), (.int .i64 0), (.int .i64 0), (.int .i64 3), (.nil 37)] [(.int .i64), (.int .i64), .bool, (.int .i64), (.int .i64), (.int .i64), (.int .i64), (.int .i64), (.int .i64), (.int .i64), (.int .i64), (.int .i64), (.list 39)]
(.call k_tsingle [(.int .i64 2), (.int .i64 3), (.bool false), (.int .i64 0), (.int .i64 0), (.int .i64 0), (.int .i64 0), (.int .i64 0), (.int .i64 0), (.int .i64 0), (.bool false), (.int .i64 0), (.int .i64 14), (.int .i64 2), (.int .i64 112), (.int .i64 0), (.nil 37)] [(.int .i64), (.int .i64), .bool, (.int .i64), (.int .i64), (.int .i64), (.int .i64), (.int .i64), (.int .i64), (.int .i64), (.int .i64), (.int .i64), (.list 39)]
(.share 37 (.push .emp (.econs (.int .i64 6) (.econs (.int .i64 0) (.econs (.int .i64 0) (.econs (.int .i64 2) (.econs (.nil 37) .enil))))))
(.call k_tsingle [(.int .i64 2), (.int .i64 4), (.bool false), (.int .i64 0), (.int .i64 0), (.int .i64 0), (.int .i64 0), (.int .i64 0), (.int .i64 0), (.int .i64 0), (.bool false), (.int .i64 0), (.int .i64 20), (.int .i64 0), (.int .i64 0), (.int .i64 0), (.var 59)] [(.int .i64), (.int .i64), .bool, (.int .i64), (.int .i64), (.int .i64), (.int .i64), (.int .i64), (.int .i64), (.int .i64), (.int .i64), (.int .i64), (.list 39)]
(.call k_tsingle [(.int .i64 1), (.int .i64 3), (.bool true), (.int .i64 3), (.int .i64 0), (.int .i64 0), (.int .i64 0), (.int .i64 0), (.int .i64 0), (.int .i64 0), (.bool false), (.int .i64 0), (.int .i64 4), (.int .i64 1), (.int .i64 0), (.int .i64 0), (.nil 37)] [(.int .i64), (.int .i64), .bool, (.int .i64), (.int .i64), (.int .i64), (.int .i64), (.int .i64), (.int .i64), (.int .i64), (.int .i64), (.int .i64), (.list 39)]
(.ret [(.push (.push (.push (.push (.push (.push .emp (.econs (.var 1) (.econs (.var 2) (.econs (.var 3) (.econs (.var 4) (.econs (.var 5) (.econs (.var 6) (.econs (.var 7) (.econs (.var 8) (.econs (.var 9) (.econs (.var 10) (.econs (.var 11) (.econs (.var 12) (.econs (.var 13) .enil)))))))))))))) (.econs (.var 14) (.econs (.var 15) (.econs (.var 16) (.econs (.var 17) (.econs (.var 18) (.econs (.var 19) (.econs (.var 20) (.econs (.var 21) (.econs (.var 22) (.econs (.var 23) (.econs (.var 24) (.econs (.var 25) (.econs (.var 26) .enil)))))))))))))) (.econs (.var 33) (.econs (.var 34) (.econs (.var 35) (.econs (.var 36) (.econs (.var 37) (.econs (.var 38) (.econs (.var 39) (.econs (.var 40) (.econs (.var 41) (.econs (.var 42) (.econs (.var 43) (.econs (.var 44) (.econs (.var 45) .enil)))))))))))))) (.econs (.var 46) (.econs (.var 47) (.econs (.var 48) (.econs (.var 49) (.econs (.var 50) (.econs (.var 51) (.econs (.var 52) (.econs (.var 53) (.econs (.var 54) (.econs (.var 55) (.econs (.var 56) (.econs (.var 57) (.econs (.var 58) .enil)))))))))))))) (.econs (.var 60) (.econs (.var 61) (.econs (.var 62) (.econs (.var 63) (.econs (.var 64) (.econs (.var 65) (.econs (.var 66) (.econs (.var 67) (.econs (.var 68) (.econs (.var 69) (.econs (.var 70) (.econs (.var 71) (.econs (.var 72) .enil)))))))))))))) (.econs (.var 73) (.econs (.var 74) (.econs (.var 75) (.econs (.var 76) (.econs (.var 77) (.econs (.var 78) (.econs (.var 79) (.econs (.var 80) (.econs (.var 81) (.econs (.var 82) (.econs (.var 83) (.econs (.var 84) (.econs (.var 85) .enil))))))))))))))]))))))))))
theorem wk_tlate : walk E0.cx (sgsN [(45, sg_tsingle), (20, sg_tcost)]) 0 40 sg_tlate = tr_tlate := by kernel_rfl
theorem bo_tlate : ∃ x, bodyOf E0.P 40 = some x := bo_of (by kernel_rfl)
theorem sp_tlate_tsingle : specC [con_tsingle, con_tcost] k_tsingle = tsingle_s := rfl
theorem sp_tlate_tcost : specC [con_tsingle, con_tcost] k_tcost = tcost_s := rfl
def tlate_s : Spec := fun ds Q => ∀ xs : List (List Dat), (xs.map fun r => r.map strip) = lateP → capD ((xs.getD 2 []).getD 12 (.bool false)) = 1 → Q [.rows xs]
set_option maxHeartbeats 1000000 in
theorem tlate_h : Holds E0 k_tlate sg_tlate tlate_s := con_fn wf0 mix0 g0 [con_tsingle, con_tcost] rfl wk_tlate rfl (by
  intro Φ hΦ ds Q hs h
  have hl : ds.length = 0 := hs.length.symm
  obtain rfl : ds = [] := List.length_eq_zero_iff.1 hl
  have s1 : Φ k_tcost = tcost_s := by rw [hΦ]; rfl
  have s2 : Φ k_tsingle = tsingle_s := by rw [hΦ]; rfl
  clear hΦ
  unfold tr_tlate
  simp only [wp, s1, s2, tsingle_s, tcost_s, psp]
  intro A1 cc1
  refine ⟨2, rfl, by decide, by decide, fun rs h1 ka => ?_⟩
  replace h1 := h1.trans (show _ = lateP.getD 0 [] from rfl)
  obtain ⟨a0, a1, a2, a3, a4, a5, a6, a7, a8, a9, a10, a11, a12, rfl, ea0, ea1, ea2, ea3, ea4, ea5, ea6, ea7, ea8, ea9, ea10, ea11, ea12⟩ := map13 h1
  clear h1
  refine ⟨2, rfl, by decide, by decide, fun rs h1 kb => ?_⟩
  replace h1 := h1.trans (show _ = lateP.getD 1 [] from rfl)
  obtain ⟨b0, b1, b2, b3, b4, b5, b6, b7, b8, b9, b10, b11, b12, rfl, eb0, eb1, eb2, eb3, eb4, eb5, eb6, eb7, eb8, eb9, eb10, eb11, eb12⟩ := map13 h1
  clear h1
  refine ⟨_, tcost_1, fun rs h1 => ?_⟩
  obtain ⟨x0, x1, x2, x3, x4, x5, rfl, ex0, ex1, ex2, ex3, ex4, ex5⟩ := map6 h1
  clear h1
  refine ⟨2, rfl, by decide, by decide, fun rs h1 kc => ?_⟩
  replace h1 := h1.trans (show _ = lateP.getD 2 [] from by
    show [PD.int 1, .int 5, .bool false, .int 0, .int 0, .int 0, .int 0, .int 0, .int 2, .int 0, .int 0, .int 0, .list 14 [[.int 1, strip x0, strip x1, strip x2, strip x3, strip x4, strip x5, .bool false, .int 0, .int 13, .int 0, .int 0, .int 3, .list 5 []]]] = _
    rw [ex0, ex1, ex2, ex3, ex4, ex5]
    rfl)
  obtain ⟨c0, c1, c2, c3, c4, c5, c6, c7, c8, c9, c10, c11, c12, rfl, ec0, ec1, ec2, ec3, ec4, ec5, ec6, ec7, ec8, ec9, ec10, ec11, ec12⟩ := map13 h1
  clear h1
  refine ⟨3, rfl, by decide, by decide, fun rs h1 kd => ?_⟩
  replace h1 := h1.trans (show _ = lateP.getD 3 [] from rfl)
  obtain ⟨d0, d1, d2, d3, d4, d5, d6, d7, d8, d9, d10, d11, d12, rfl, ed0, ed1, ed2, ed3, ed4, ed5, ed6, ed7, ed8, ed9, ed10, ed11, ed12⟩ := map13 h1
  clear h1
  intro A2 cc2
  refine ⟨4, rfl, by decide, by decide, fun rs h1 kf => ?_⟩
  replace h1 := h1.trans (show _ = lateP.getD 4 [] from rfl)
  obtain ⟨f0, f1, f2, f3, f4, f5, f6, f7, f8, f9, f10, f11, f12, rfl, ef0, ef1, ef2, ef3, ef4, ef5, ef6, ef7, ef8, ef9, ef10, ef11, ef12⟩ := map13 h1
  clear h1
  refine ⟨3, rfl, by decide, by decide, fun rs h1 kg => ?_⟩
  replace h1 := h1.trans (show _ = lateP.getD 5 [] from rfl)
  obtain ⟨g0, g1, g2, g3, g4, g5, g6, g7, g8, g9, g10, g11, g12, rfl, eg0, eg1, eg2, eg3, eg4, eg5, eg6, eg7, eg8, eg9, eg10, eg11, eg12⟩ := map13 h1
  clear h1
  refine h [[a0, a1, a2, a3, a4, a5, a6, a7, a8, a9, a10, a11, a12], [b0, b1, b2, b3, b4, b5, b6, b7, b8, b9, b10, b11, b12], [c0, c1, c2, c3, c4, c5, c6, c7, c8, c9, c10, c11, c12], [d0, d1, d2, d3, d4, d5, d6, d7, d8, d9, d10, d11, d12], [f0, f1, f2, f3, f4, f5, f6, f7, f8, f9, f10, f11, f12], [g0, g1, g2, g3, g4, g5, g6, g7, g8, g9, g10, g11, g12]] ?_ kc
  simp only [List.map_cons, List.map_nil, ea0, ea1, ea2, ea3, ea4, ea5, ea6, ea7, ea8, ea9, ea10, ea11, ea12, eb0, eb1, eb2, eb3, eb4, eb5, eb6, eb7, eb8, eb9, eb10, eb11, eb12, ec0, ec1, ec2, ec3, ec4, ec5, ec6, ec7, ec8, ec9, ec10, ec11, ec12, ed0, ed1, ed2, ed3, ed4, ed5, ed6, ed7, ed8, ed9, ed10, ed11, ed12, ef0, ef1, ef2, ef3, ef4, ef5, ef6, ef7, ef8, ef9, ef10, ef11, ef12, eg0, eg1, eg2, eg3, eg4, eg5, eg6, eg7, eg8, eg9, eg10, eg11, eg12]
  rfl)
noncomputable def con_tlate : Con E0 := ⟨k_tlate, sg_tlate, tlate_s, rfl, bo_tlate, tlate_h⟩
end Go.Proofs.YtcigbgpdikadpaaDoor
end

section
namespace Go.Proofs.YtcigbgpdikadpaaDoor
open Go.RowKit
set_option linter.unusedVariables false
set_option linter.unusedSimpArgs false

def k_tspecial : Nat := 23
def sg_tspecial : Sig := ⟨[(false, [.int .i64])], [(true, [.int .i64, .int .i64] ++ [.bool] ++ List.replicate 9 (.int .i64) ++ [.list 39])], false, false, true, false, false, [], [], none⟩
def tr_tspecial_1 : Tree := (.ob (.cmp .eq (.cap (.elem (.app (.app .emp (.var 1)) (.app .emp (.var 2))) (.var 0) 12 (.list 39))) (.len (.elem (.app (.app .emp (.var 1)) (.app .emp (.var 2))) (.var 0) 12 (.list 39)))) (.ob (.cmp .ge (.len (.push .emp (.econs (.var 3) (.econs (.var 4) (.econs (.var 5) (.econs (.var 6) (.econs (.var 7) (.econs (.var 8) (.econs (.var 9) (.econs (.var 10) (.econs (.var 11) (.econs (.var 12) (.econs (.var 13) (.econs (.var 14) (.econs (.var 15) (.econs (.var 16) .enil)))))))))))))))) (.int .i64 1)) (.ob (.cmp .le (.len (.app (.app .emp (.elem (.app (.app .emp (.var 1)) (.app .emp (.var 2))) (.var 0) 12 (.list 39))) (.push .emp (.econs (.var 3) (.econs (.var 4) (.econs (.var 5) (.econs (.var 6) (.econs (.var 7) (.econs (.var 8) (.econs (.var 9) (.econs (.var 10) (.econs (.var 11) (.econs (.var 12) (.econs (.var 13) (.econs (.var 14) (.econs (.var 15) (.econs (.var 16) .enil))))))))))))))))) (.int .i64 1099511627776)) (.share 39 (.app (.app .emp (.elem (.app (.app .emp (.var 1)) (.app .emp (.var 2))) (.var 0) 12 (.list 39))) (.push .emp (.econs (.var 3) (.econs (.var 4) (.econs (.var 5) (.econs (.var 6) (.econs (.var 7) (.econs (.var 8) (.econs (.var 9) (.econs (.var 10) (.econs (.var 11) (.econs (.var 12) (.econs (.var 13) (.econs (.var 14) (.econs (.var 15) (.econs (.var 16) .enil)))))))))))))))) (.ret [(.elem (.app (.app .emp (.var 1)) (.app .emp (.var 2))) (.var 0) 0 (.int .i64)), (.elem (.app (.app .emp (.var 1)) (.app .emp (.var 2))) (.var 0) 1 (.int .i64)), (.elem (.app (.app .emp (.var 1)) (.app .emp (.var 2))) (.var 0) 2 .bool), (.elem (.app (.app .emp (.var 1)) (.app .emp (.var 2))) (.var 0) 3 (.int .i64)), (.elem (.app (.app .emp (.var 1)) (.app .emp (.var 2))) (.var 0) 4 (.int .i64)), (.elem (.app (.app .emp (.var 1)) (.app .emp (.var 2))) (.var 0) 5 (.int .i64)), (.elem (.app (.app .emp (.var 1)) (.app .emp (.var 2))) (.var 0) 6 (.int .i64)), (.elem (.app (.app .emp (.var 1)) (.app .emp (.var 2))) (.var 0) 7 (.int .i64)), (.elem (.app (.app .emp (.var 1)) (.app .emp (.var 2))) (.var 0) 8 (.int .i64)), (.int .i64 1), (.int .i64 1), (.elem (.app (.app .emp (.var 1)) (.app .emp (.var 2))) (.var 0) 11 (.int .i64)), (.var 17)])))))
def tr_tspecial : Tree := (.call k_tearly [] [(.rows 31)] (.call k_tlate [] [(.rows 31)] (.ob (.cmp .le (.len (.app (.app .emp (.var 1)) (.app .emp (.var 2)))) (.int .i64 1172812402961)) (.ob (.cmp .ge (.var 0) (.int .i64 0)) (.ob (.cmp .lt (.var 0) (.len (.app (.app .emp (.var 1)) (.app .emp (.var 2))))) (.ite (.cmp .eq (.var 0) (.int .i64 8)) (.both (.call k_tmana [(.int .i64 2), (.int .i64 5)] [(.int .i64), (.int .i64), (.int .i64), (.int .i64), (.int .i64), (.int .i64), (.int .i64), .bool, (.int .i64), (.int .i64), (.int .i64), (.int .i64), (.int .i64), (.list 37)] tr_tspecial_1) (.call k_tmana [(.int .i64 2), (.int .i64 5)] [(.int .i64), (.int .i64), (.int .i64), (.int .i64), (.int .i64), (.int .i64), (.int .i64), .bool, (.int .i64), (.int .i64), (.int .i64), (.int .i64), (.int .i64), (.list 37)] (.both tr_tspecial_1 tr_tspecial_1))) (.ret [(.elem (.app (.app .emp (.var 1)) (.app .emp (.var 2))) (.var 0) 0 (.int .i64)), (.elem (.app (.app .emp (.var 1)) (.app .emp (.var 2))) (.var 0) 1 (.int .i64)), (.elem (.app (.app .emp (.var 1)) (.app .emp (.var 2))) (.var 0) 2 .bool), (.elem (.app (.app .emp (.var 1)) (.app .emp (.var 2))) (.var 0) 3 (.int .i64)), (.elem (.app (.app .emp (.var 1)) (.app .emp (.var 2))) (.var 0) 4 (.int .i64)), (.elem (.app (.app .emp (.var 1)) (.app .emp (.var 2))) (.var 0) 5 (.int .i64)), (.elem (.app (.app .emp (.var 1)) (.app .emp (.var 2))) (.var 0) 6 (.int .i64)), (.elem (.app (.app .emp (.var 1)) (.app .emp (.var 2))) (.var 0) 7 (.int .i64)), (.elem (.app (.app .emp (.var 1)) (.app .emp (.var 2))) (.var 0) 8 (.int .i64)), (.ite (.cmp .eq (.var 0) (.int .i64 11)) (.int .i64 2) (.elem (.app (.app .emp (.var 1)) (.app .emp (.var 2))) (.var 0) 9 (.int .i64))), (.ite (.cmp .eq (.var 0) (.int .i64 11)) (.int .i64 3) (.elem (.app (.app .emp (.var 1)) (.app .emp (.var 2))) (.var 0) 10 (.int .i64))), (.ite (.cmp .eq (.var 0) (.int .i64 11)) (.int .i64 5) (.elem (.app (.app .emp (.var 1)) (.app .emp (.var 2))) (.var 0) 11 (.int .i64))), (.elem (.app (.app .emp (.var 1)) (.app .emp (.var 2))) (.var 0) 12 (.list 39))])))))))
theorem wk_tspecial : walk E0.cx (sgsN [(39, sg_tearly), (40, sg_tlate), (25, sg_tmana)]) 0 23 sg_tspecial = tr_tspecial := by kernel_rfl
theorem bo_tspecial : ∃ x, bodyOf E0.P 23 = some x := bo_of (by kernel_rfl)
theorem sp_tspecial_tearly : specC [con_tearly, con_tlate, con_tmana] k_tearly = tearly_s := rfl
theorem sp_tspecial_tlate : specC [con_tearly, con_tlate, con_tmana] k_tlate = tlate_s := rfl
theorem sp_tspecial_tmana : specC [con_tearly, con_tlate, con_tmana] k_tmana = tmana_s := rfl
noncomputable def tspec8 : List PD → Option (List PD) := fun ps => evL E0.Δ (pfun [(k_tearly, tearly_g), (k_tlate, fun _ => some [.rows lateP]), (k_tmana, tmana_g)]) 0 [] tr_tspecial ps
theorem tspec_fits : (pfun [(k_tearly, tearly_g), (k_tlate, fun _ => some [.rows lateP]), (k_tmana, tmana_g)]).fits (specC [con_tearly, con_tlate, con_tmana]) := by
  refine fits_cons (k := k_tearly) (g := tearly_g) sp_tspecial_tearly ?_
  intro f args rs h ds W hd hW
  simp only [pfun] at h
  split at h
  · rename_i e
    subst e
    have h1 : specC [con_tearly, con_tlate, con_tmana] k_tlate = tlate_s := sp_tspecial_tlate
    rw [h1]
    intro xs hx hc
    refine hW _ ?_
    rw [← Option.some.inj h, List.map_cons, List.map_nil, strip_rows, hx]
  · split at h
    · rename_i e
      subst e
      have h1 : specC [con_tearly, con_tlate, con_tmana] k_tmana = tmana_s := sp_tspecial_tmana
      rw [h1]
      exact ⟨rs, by rw [hd]; exact h, hW⟩
    · cases h
noncomputable def tspchk (n : Nat) : Bool := match tspec8 [.int n] with
  | some l => sameR l (cardP (100 + n))
  | none => false
theorem tspchk_0 : (List.range 8).all tspchk = true := by kernel_rfl
theorem tspchk_9 : (List.range' 9 3).all tspchk = true := by kernel_rfl
def tspecial0_s : Spec := fun ds Q => ∃ n : Nat, n < 12 ∧ ds = [.int .i64 n] ∧ ∀ rs, rs.map strip = cardP (100 + n) → Q rs
theorem ev_wp {cs : PFun} {Φ : Nat → Spec} (hcs : cs.fits Φ) {rs : List PD} {Post : List Dat → Prop} {tr : Tree} {ds : List Dat} {fuel : Nat} (h : evL E0.Δ cs fuel [] tr (ds.map strip) = some rs) (hP : ∀ rs', rs'.map strip = rs → Post rs') : wp E0.Δ Φ Post tr ds [] := by
  rw [evL_eq] at h
  exact evB_ok hcs hP rfl ⟨rfl, fun l x h => by cases h⟩ h
theorem tspchk_ok {n : Nat} (hn : n < 12) (h8 : n ≠ 8) : tspec8 [.int n] = some (cardP (100 + n)) := by
  have h : tspchk n = true := by
    by_cases h9 : n < 8
    · exact List.all_eq_true.1 tspchk_0 n (List.mem_range.2 h9)
    · obtain rfl | rfl | rfl : n = 9 ∨ n = 10 ∨ n = 11 := by omega
      all_goals exact List.all_eq_true.1 tspchk_9 _ (by decide)
  unfold tspchk at h
  split at h
  · rename_i l hl
    rw [hl, sameR_ok h]
  · cases h
def obK : Tree → Tree
  | .ob _ k => k
  | t => t
def obC : Tree → Tm
  | .ob c _ => c
  | _ => .emp
theorem ob_split : tr_tspecial_1 = .ob (.cmp .eq (.cap (.elem (.app (.app .emp (.var 1)) (.app .emp (.var 2))) (.var 0) 12 (.list 39))) (.len (.elem (.app (.app .emp (.var 1)) (.app .emp (.var 2))) (.var 0) 12 (.list 39)))) (obK tr_tspecial_1) := by kernel_rfl
def env8 : List PD := [.int 8, .rows earlyP, .rows lateP]
def manaP : List PD := ab 6 [0, 0, 0, 0, 0, 0] true 0 (ef 15 2 5 0 [])
theorem mana_25 : tmana_g [.int 2, .int 5] = some manaP := by kernel_rfl
theorem ev_8 : evB E0.Δ (pfun []) (agL E0.Δ (pfun []) 0) (obK tr_tspecial_1) [] (env8 ++ manaP) = some (cardP 108) := by kernel_rfl
theorem sp_8 {Φ : Nat → Spec} {Q : List Dat → Prop} (h : ∀ rs, rs.map strip = cardP 108 → Q rs) {xs ys : List (List Dat)} (hx : earlyP = xs.map fun r => r.map strip) (hy : (ys.map fun r => r.map strip) = lateP) (hc : capD ((ys.getD 2 []).getD 12 (.bool false)) = 1) {ms : List Dat} (hm : ms.map strip = manaP) : wp E0.Δ Φ Q tr_tspecial_1 ([Dat.int .i64 8, Dat.rows xs, Dat.rows ys] ++ ms) [] := by
  have he : ([Dat.int .i64 8, Dat.rows xs, Dat.rows ys] ++ ms).map strip = env8 ++ manaP := by
    rw [List.map_append, hm, List.map_cons, List.map_cons, List.map_cons, List.map_nil, strip_int, strip_rows, strip_rows, ← hx, hy]; rfl
  rw [ob_split]
  refine ⟨?_, evB_ok fits_nil h he ⟨rfl, fun l x h => by cases h⟩ ev_8⟩
  have hxl : xs.length = 6 := by
    have := congrArg List.length hx
    rw [List.length_map] at this
    exact this.symm
  have e1 : den E0.Δ ([Dat.int .i64 8, Dat.rows xs, Dat.rows ys] ++ ms) (.elem (.app (.app .emp (.var 1)) (.app .emp (.var 2))) (.var 0) 12 (.list 39)) = (((xs ++ ys).getD 8 []).getD 12 (dflt E0.Δ (.list 39))) := rfl
  have e2 : (xs ++ ys).getD 8 [] = ys.getD 2 [] := by
    rw [List.getD_eq_getElem?_getD, List.getD_eq_getElem?_getD, List.getElem?_append_right (by omega), hxl]
  have e3 : (ys.getD 2 []).map strip = lateP.getD 2 [] := by
    rw [← hy, List.getD_eq_getElem?_getD, List.getD_eq_getElem?_getD, List.getElem?_map]
    cases ys[2]? <;> rfl
  have e4 : (ys.getD 2 []).length = 13 := by
    have := congrArg List.length e3
    rw [List.length_map] at this
    exact this
  have e5 : ∀ d : Dat, (ys.getD 2 []).getD 12 d = (ys.getD 2 []).getD 12 (.bool false) := fun d => by
    generalize ys.getD 2 [] = l at e4
    rw [List.getD_eq_getElem?_getD, List.getD_eq_getElem?_getD, List.getElem?_eq_getElem (by omega)]; rfl
  have e6 : strip ((ys.getD 2 []).getD 12 (.bool false)) = .list 14 [ab 1 [0, 0, 0, 0, 0, 1] false 0 (ef 13 0 0 3 [])] := getD_strip e3 rfl _
  obtain ⟨v, zs, hz, hzl⟩ := strip_isList e6
  have e7 : zs.length = 1 := by
    have := congrArg List.length hzl
    rw [List.length_map] at this
    exact this.symm
  have e8 : (((xs ++ ys).getD 8 []).getD 12 (dflt E0.Δ (.list 39))).xs.length = 1 := by rw [e2, e5, hz]; exact e7
  have e9 : capD (((xs ++ ys).getD 8 []).getD 12 (dflt E0.Δ (.list 39))) = 1 := by rw [e2, e5]; exact hc
  show Dat.bool ((capD (((xs ++ ys).getD 8 []).getD 12 (dflt E0.Δ (.list 39)))) == (((((xs ++ ys).getD 8 []).getD 12 (dflt E0.Δ (.list 39))).xs.length : Nat) : Int)) = _
  rw [e8, e9]; rfl
theorem tspecial0_h : Holds E0 k_tspecial sg_tspecial tspecial0_s := con_fn wf0 mix0 g0 [con_tearly, con_tlate, con_tmana] rfl wk_tspecial rfl (by
  intro Φ hΦ ds Q hs ⟨n, hn, e, h⟩
  subst e
  by_cases h8 : n = 8
  · subst h8
    have s1 : Φ k_tearly = tearly_s := by rw [hΦ]; rfl
    have s2 : Φ k_tlate = tlate_s := by rw [hΦ]; rfl
    have s3 : Φ k_tmana = tmana_s := by rw [hΦ]; rfl
    clear hΦ
    unfold tr_tspecial
    simp only [wp, s1, s2, s3, tearly_s, tlate_s, tmana_s, psp]
    refine ⟨_, tearly_ok, fun rs h1 => ?_⟩
    obtain ⟨x, rs, rfl, h2, h1⟩ := List.map_eq_cons_iff.1 h1
    rw [List.map_eq_nil_iff] at h1
    subst h1
    obtain ⟨xs, rfl, hx⟩ := strip_isRows h2
    clear h2
    intro ys hy hc
    have he : ([Dat.int .i64 ((8 : Nat) : Int)] ++ [Dat.rows xs] ++ [Dat.rows ys]).map strip = env8 := by
      show [strip (Dat.int .i64 8), strip (Dat.rows xs), strip (Dat.rows ys)] = _
      rw [strip_int, strip_rows, strip_rows, ← hx, hy]; rfl
    have key : ∀ ms : List Dat, ms.map strip = manaP → wp E0.Δ Φ Q tr_tspecial_1 ([Dat.int .i64 ((8 : Nat) : Int)] ++ [Dat.rows xs] ++ [Dat.rows ys] ++ ms) [] := fun ms hm => sp_8 h hx hy hc hm
    refine ⟨strip_isBool (sev_ok he (by kernel_rfl)), strip_isBool (sev_ok he (by kernel_rfl)), strip_isBool (sev_ok he (by kernel_rfl)), fun _ => ⟨⟨_, mana_25, key⟩, ⟨_, mana_25, fun ms hm => ⟨key ms hm, key ms hm⟩⟩⟩, fun hf => ?_⟩
    have := strip_isBool (sev_ok he (show sev E0.Δ env8 (.cmp .eq (.var 0) (.int .i64 8)) = some (.bool true) from by kernel_rfl))
    rw [this] at hf
    cases hf
  · rw [hΦ]
    exact ev_wp tspec_fits (tspchk_ok hn h8) h)
def tspecial_g : List PD → Option (List PD)
  | [.int n] => if 0 ≤ n ∧ n < 12 then some (cardP (100 + n)) else none
  | _ => none
def tspecial_s : Spec := psp tspecial_g
theorem tspecial_h : Holds E0 k_tspecial sg_tspecial tspecial_s := holds_mono tspecial0_h fun ds Q hs ⟨rs, h1, h2⟩ => by
  cases hs with
  | cons a b =>
  cases b
  cases a with
  | int k n =>
  simp only [List.map_cons, List.map_nil, strip_int, tspecial_g] at h1
  split at h1
  case isFalse => cases h1
  rename_i hn
  obtain ⟨m, rfl⟩ := Int.eq_ofNat_of_zero_le hn.1
  exact ⟨m, by omega, rfl, fun rs' hr => h2 rs' (by rw [hr, Option.some.inj h1])⟩
noncomputable def con_tspecial : Con E0 := ⟨k_tspecial, sg_tspecial, tspecial_s, rfl, bo_tspecial, tspecial_h⟩
end Go.Proofs.YtcigbgpdikadpaaDoor
end

section
namespace Go.Proofs.YtcigbgpdikadpaaDoor
open Go.RowKit
set_option linter.unusedVariables false
set_option linter.unusedSimpArgs false

def k_tsource : Nat := 18
def sg_tsource : Sig := ⟨[(false, [.int .i64])], [(true, [.int .i64, .int .i64] ++ [.bool] ++ List.replicate 9 (.int .i64) ++ [.list 39])], false, false, true, false, false, [], [], none⟩
def tr_tsource : Tree := (.ite (.cmp .lt (.var 0) (.int .i64 5)) (.share 39 (.push .emp (.econs (.int .i64 6) (.econs (.int .i64 0) (.econs (.int .i64 0) (.econs (.int .i64 0) (.econs (.int .i64 0) (.econs (.int .i64 0) (.econs (.int .i64 0) (.econs (.bool true) (.econs (.int .i64 0) (.econs (.int .i64 15) (.econs (.int .i64 1) (.econs (.var 0) (.econs (.int .i64 0) (.econs (.nil 37) .enil))))))))))))))) (.ret [(.int .i64 0), (.var 0), (.bool false), (.int .i64 0), (.int .i64 0), (.int .i64 0), (.int .i64 0), (.int .i64 0), (.int .i64 0), (.int .i64 0), (.int .i64 0), (.int .i64 0), (.var 1)])) (.share 39 (.push (.push .emp (.econs (.int .i64 2) (.econs (.int .i64 0) (.econs (.int .i64 0) (.econs (.int .i64 0) (.econs (.int .i64 0) (.econs (.int .i64 0) (.econs (.int .i64 0) (.econs (.bool false) (.econs (.int .i64 0) (.econs (.int .i64 3) (.econs (.ar .add .i64 (.int .i64 1) (.ar .sub .i64 (.var 0) (.int .i64 5))) (.econs (.int .i64 0) (.econs (.int .i64 0) (.econs (.nil 37) .enil))))))))))))))) (.econs (.int .i64 6) (.econs (.int .i64 0) (.econs (.int .i64 0) (.econs (.int .i64 0) (.econs (.int .i64 0) (.econs (.int .i64 0) (.econs (.int .i64 0) (.econs (.bool true) (.econs (.int .i64 0) (.econs (.int .i64 15) (.econs (.ar .add .i64 (.int .i64 1) (.ar .quo .i64 (.ar .sub .i64 (.var 0) (.int .i64 5)) (.int .i64 2))) (.econs (.int .i64 5) (.econs (.int .i64 0) (.econs (.nil 37) .enil))))))))))))))) (.ret [(.int .i64 0), (.int .i64 5), (.bool false), (.int .i64 0), (.int .i64 0), (.int .i64 0), (.int .i64 0), (.int .i64 0), (.int .i64 0), (.int .i64 0), (.int .i64 0), (.int .i64 0), (.var 1)])))
theorem wk_tsource : walk E0.cx (sgsN []) 0 18 sg_tsource = tr_tsource := by kernel_rfl
theorem bo_tsource : ∃ x, bodyOf E0.P 18 = some x := bo_of (by kernel_rfl)
noncomputable def tsource_g : List PD → Option (List PD) := fun ps => evL E0.Δ (pfun []) 0 [] tr_tsource ps
def tsource_s : Spec := psp tsource_g
theorem tsource_h : Holds E0 k_tsource sg_tsource tsource_s := con_ev wf0 mix0 g0 [] rfl wk_tsource rfl (fits_nil) 0
noncomputable def con_tsource : Con E0 := ⟨k_tsource, sg_tsource, tsource_s, rfl, bo_tsource, tsource_h⟩
def k_tbeast : Nat := 19
def sg_tbeast : Sig := ⟨[(false, [.int .i64])], [(true, [.int .i64, .int .i64] ++ [.bool] ++ List.replicate 9 (.int .i64) ++ [.list 39])], false, false, true, false, false, [], [], none⟩
def tr_tbeast_1 : Tree := (.ret [(.int .i64 1), (.ar .rem .i64 (.var 0) (.int .i64 5)), (.bool false), (.var 1), (.var 2), (.var 3), (.var 4), (.var 5), (.var 6), (.ar .add .i64 (.ar .quo .i64 (.ar .quo .i64 (.var 0) (.int .i64 5)) (.int .i64 2)) (.int .i64 1)), (.ar .add .i64 (.ar .quo .i64 (.ar .add .i64 (.ar .quo .i64 (.var 0) (.int .i64 5)) (.int .i64 1)) (.int .i64 2)) (.int .i64 1)), (.ar .shl .i64 (.int .i64 1) (.conv .u64 (.ar .quo .i64 (.var 0) (.int .i64 5)))), (.var 7)])
def tr_tbeast : Tree := (.call k_tcost [(.ar .rem .i64 (.var 0) (.int .i64 5)), (.ar .add .i64 (.int .i64 1) (.ar .quo .i64 (.ar .quo .i64 (.var 0) (.int .i64 5)) (.int .i64 4))), (.ar .quo .i64 (.var 0) (.int .i64 5))] [(.int .i64), (.int .i64), (.int .i64), (.int .i64), (.int .i64), (.int .i64)] (.ob (.cmp .ge (.conv .u64 (.ar .quo .i64 (.var 0) (.int .i64 5))) (.int .u64 0)) (.ite (.cmp .eq (.ar .rem .i64 (.var 0) (.int .i64 5)) (.int .i64 0)) (.share 39 (.push .emp (.econs (.int .i64 2) (.econs (.int .i64 0) (.econs (.int .i64 0) (.econs (.int .i64 0) (.econs (.int .i64 0) (.econs (.int .i64 0) (.econs (.int .i64 0) (.econs (.bool false) (.econs (.int .i64 0) (.econs (.int .i64 2) (.econs (.ar .add .i64 (.ar .quo .i64 (.var 0) (.int .i64 5)) (.int .i64 1)) (.econs (.int .i64 0) (.econs (.int .i64 0) (.econs (.nil 37) .enil))))))))))))))) tr_tbeast_1) (.ite (.cmp .eq (.ar .rem .i64 (.var 0) (.int .i64 5)) (.int .i64 1)) (.ite (.cmp .eq (.ar .rem .i64 (.ar .quo .i64 (.var 0) (.int .i64 5)) (.int .i64 2)) (.int .i64 1)) (.share 39 (.push .emp (.econs (.int .i64 2) (.econs (.int .i64 0) (.econs (.int .i64 0) (.econs (.int .i64 0) (.econs (.int .i64 0) (.econs (.int .i64 0) (.econs (.int .i64 0) (.econs (.bool false) (.econs (.int .i64 0) (.econs (.int .i64 4) (.econs (.int .i64 1) (.econs (.int .i64 0) (.econs (.int .i64 0) (.econs (.nil 37) .enil))))))))))))))) tr_tbeast_1) (.ret [(.int .i64 1), (.ar .rem .i64 (.var 0) (.int .i64 5)), (.bool false), (.var 1), (.var 2), (.var 3), (.var 4), (.var 5), (.var 6), (.ar .add .i64 (.ar .quo .i64 (.ar .quo .i64 (.var 0) (.int .i64 5)) (.int .i64 2)) (.int .i64 1)), (.ar .add .i64 (.ar .quo .i64 (.ar .add .i64 (.ar .quo .i64 (.var 0) (.int .i64 5)) (.int .i64 1)) (.int .i64 2)) (.int .i64 1)), (.ar .shl .i64 (.int .i64 1) (.conv .u64 (.ar .quo .i64 (.var 0) (.int .i64 5)))), (.nil 39)])) (.ite (.cmp .eq (.ar .rem .i64 (.var 0) (.int .i64 5)) (.int .i64 2)) (.share 39 (.push .emp (.econs (.int .i64 3) (.econs (.int .i64 0) (.econs (.int .i64 0) (.econs (.int .i64 0) (.econs (.int .i64 0) (.econs (.int .i64 0) (.econs (.int .i64 0) (.econs (.bool false) (.econs (.int .i64 0) (.econs (.int .i64 3) (.econs (.ar .add .i64 (.ar .quo .i64 (.ar .quo .i64 (.var 0) (.int .i64 5)) (.int .i64 2)) (.int .i64 1)) (.econs (.int .i64 0) (.econs (.int .i64 1) (.econs (.nil 37) .enil))))))))))))))) tr_tbeast_1) (.ite (.cmp .eq (.ar .rem .i64 (.var 0) (.int .i64 5)) (.int .i64 3)) (.call k_tcost [(.ar .rem .i64 (.var 0) (.int .i64 5)), (.int .i64 1), (.int .i64 0)] [(.int .i64), (.int .i64), (.int .i64), (.int .i64), (.int .i64), (.int .i64)] (.share 39 (.push .emp (.econs (.int .i64 1) (.econs (.var 7) (.econs (.var 8) (.econs (.var 9) (.econs (.var 10) (.econs (.var 11) (.econs (.var 12) (.econs (.bool true) (.econs (.int .i64 3) (.econs (.int .i64 1) (.econs (.int .i64 1) (.econs (.int .i64 0) (.econs (.int .i64 2) (.econs (.nil 37) .enil))))))))))))))) (.ret [(.int .i64 1), (.ar .rem .i64 (.var 0) (.int .i64 5)), (.bool false), (.var 1), (.var 2), (.var 3), (.var 4), (.var 5), (.var 6), (.ar .add .i64 (.ar .add .i64 (.ar .quo .i64 (.ar .quo .i64 (.var 0) (.int .i64 5)) (.int .i64 2)) (.int .i64 1)) (.int .i64 1)), (.ar .add .i64 (.ar .quo .i64 (.ar .add .i64 (.ar .quo .i64 (.var 0) (.int .i64 5)) (.int .i64 1)) (.int .i64 2)) (.int .i64 1)), (.ar .shl .i64 (.int .i64 1) (.conv .u64 (.ar .quo .i64 (.var 0) (.int .i64 5)))), (.var 13)]))) (.call k_tcost [(.ar .rem .i64 (.var 0) (.int .i64 5)), (.int .i64 1), (.int .i64 0)] [(.int .i64), (.int .i64), (.int .i64), (.int .i64), (.int .i64), (.int .i64)] (.share 39 (.push .emp (.econs (.int .i64 1) (.econs (.var 7) (.econs (.var 8) (.econs (.var 9) (.econs (.var 10) (.econs (.var 11) (.econs (.var 12) (.econs (.bool false) (.econs (.int .i64 0) (.econs (.int .i64 10) (.econs (.int .i64 1) (.econs (.int .i64 1) (.econs (.int .i64 3) (.econs (.nil 37) .enil))))))))))))))) (.ret [(.int .i64 1), (.ar .rem .i64 (.var 0) (.int .i64 5)), (.bool false), (.var 1), (.var 2), (.var 3), (.var 4), (.var 5), (.var 6), (.ar .add .i64 (.ar .quo .i64 (.ar .quo .i64 (.var 0) (.int .i64 5)) (.int .i64 2)) (.int .i64 1)), (.ar .add .i64 (.ar .add .i64 (.ar .quo .i64 (.ar .add .i64 (.ar .quo .i64 (.var 0) (.int .i64 5)) (.int .i64 1)) (.int .i64 2)) (.int .i64 1)) (.int .i64 1)), (.ar .shl .i64 (.int .i64 1) (.conv .u64 (.ar .quo .i64 (.var 0) (.int .i64 5)))), (.var 13)])))))))))
theorem wk_tbeast : walk E0.cx (sgsN [(20, sg_tcost)]) 0 19 sg_tbeast = tr_tbeast := by kernel_rfl
theorem bo_tbeast : ∃ x, bodyOf E0.P 19 = some x := bo_of (by kernel_rfl)
theorem sp_tbeast_tcost : specC [con_tcost] k_tcost = tcost_s := rfl
noncomputable def tbeast_g : List PD → Option (List PD) := fun ps => evL E0.Δ (pfun [(k_tcost, tcost_g)]) 0 [] tr_tbeast ps
def tbeast_s : Spec := psp tbeast_g
theorem tbeast_h : Holds E0 k_tbeast sg_tbeast tbeast_s := con_ev wf0 mix0 g0 [con_tcost] rfl wk_tbeast rfl (fits_cons (k := k_tcost) (g := tcost_g) sp_tbeast_tcost (fits_nil)) 0
noncomputable def con_tbeast : Con E0 := ⟨k_tbeast, sg_tbeast, tbeast_s, rfl, bo_tbeast, tbeast_h⟩
end Go.Proofs.YtcigbgpdikadpaaDoor
end

section
namespace Go.Proofs.YtcigbgpdikadpaaDoor
open Go.RowKit
set_option linter.unusedVariables false
set_option linter.unusedSimpArgs false

def k_tws : Nat := 29
def sg_tws : Sig := ⟨[], [(true, (List.replicate 6 (List.replicate 7 (.int .i64) ++ [.bool] ++ List.replicate 5 (.int .i64) ++ [.list 37])).flatten)], false, false, true, false, false, [], [], none⟩
noncomputable def tr_tws : Tree := walk E0.cx (sgsN []) 0 29 sg_tws
theorem wk_tws : walk E0.cx (sgsN []) 0 29 sg_tws = tr_tws := rfl
theorem bo_tws : ∃ x, bodyOf E0.P 29 = some x := bo_of (by kernel_rfl)
noncomputable def tws_g : List PD → Option (List PD) := fun ps => evL E0.Δ (pfun []) 0 [] tr_tws ps
def tws_s : Spec := psp tws_g
theorem tws_h : Holds E0 k_tws sg_tws tws_s := con_ev wf0 mix0 g0 [] rfl wk_tws rfl (fits_nil) 0
noncomputable def con_tws : Con E0 := ⟨k_tws, sg_tws, tws_s, rfl, bo_tws, tws_h⟩
theorem tws_ok : tws_g [] = some whiteS := by kernel_rfl
def k_tus : Nat := 30
def sg_tus : Sig := ⟨[], [(true, (List.replicate 6 (List.replicate 7 (.int .i64) ++ [.bool] ++ List.replicate 5 (.int .i64) ++ [.list 37])).flatten)], false, false, true, false, false, [], [], none⟩
noncomputable def tr_tus : Tree := walk E0.cx (sgsN []) 0 30 sg_tus
theorem wk_tus : walk E0.cx (sgsN []) 0 30 sg_tus = tr_tus := rfl
theorem bo_tus : ∃ x, bodyOf E0.P 30 = some x := bo_of (by kernel_rfl)
noncomputable def tus_g : List PD → Option (List PD) := fun ps => evL E0.Δ (pfun []) 0 [] tr_tus ps
def tus_s : Spec := psp tus_g
theorem tus_h : Holds E0 k_tus sg_tus tus_s := con_ev wf0 mix0 g0 [] rfl wk_tus rfl (fits_nil) 0
noncomputable def con_tus : Con E0 := ⟨k_tus, sg_tus, tus_s, rfl, bo_tus, tus_h⟩
theorem tus_ok : tus_g [] = some blueS := by kernel_rfl
def k_tbs : Nat := 31
def sg_tbs : Sig := ⟨[], [(true, (List.replicate 6 (List.replicate 7 (.int .i64) ++ [.bool] ++ List.replicate 5 (.int .i64) ++ [.list 37])).flatten)], false, false, true, false, false, [], [], none⟩
noncomputable def tr_tbs : Tree := walk E0.cx (sgsN []) 0 31 sg_tbs
theorem wk_tbs : walk E0.cx (sgsN []) 0 31 sg_tbs = tr_tbs := rfl
theorem bo_tbs : ∃ x, bodyOf E0.P 31 = some x := bo_of (by kernel_rfl)
noncomputable def tbs_g : List PD → Option (List PD) := fun ps => evL E0.Δ (pfun []) 0 [] tr_tbs ps
def tbs_s : Spec := psp tbs_g
theorem tbs_h : Holds E0 k_tbs sg_tbs tbs_s := con_ev wf0 mix0 g0 [] rfl wk_tbs rfl (fits_nil) 0
noncomputable def con_tbs : Con E0 := ⟨k_tbs, sg_tbs, tbs_s, rfl, bo_tbs, tbs_h⟩
theorem tbs_ok : tbs_g [] = some blackS := by kernel_rfl
end Go.Proofs.YtcigbgpdikadpaaDoor
end

section
namespace Go.Proofs.YtcigbgpdikadpaaDoor
open Go.RowKit
set_option linter.unusedVariables false
set_option linter.unusedSimpArgs false

def k_trs : Nat := 32
def sg_trs : Sig := ⟨[], [(true, (List.replicate 6 (List.replicate 7 (.int .i64) ++ [.bool] ++ List.replicate 5 (.int .i64) ++ [.list 37])).flatten)], false, false, true, false, false, [], [], none⟩
noncomputable def tr_trs : Tree := walk E0.cx (sgsN []) 0 32 sg_trs
theorem wk_trs : walk E0.cx (sgsN []) 0 32 sg_trs = tr_trs := rfl
theorem bo_trs : ∃ x, bodyOf E0.P 32 = some x := bo_of (by kernel_rfl)
noncomputable def trs_g : List PD → Option (List PD) := fun ps => evL E0.Δ (pfun []) 0 [] tr_trs ps
def trs_s : Spec := psp trs_g
theorem trs_h : Holds E0 k_trs sg_trs trs_s := con_ev wf0 mix0 g0 [] rfl wk_trs rfl (fits_nil) 0
noncomputable def con_trs : Con E0 := ⟨k_trs, sg_trs, trs_s, rfl, bo_trs, trs_h⟩
theorem trs_ok : trs_g [] = some redS := by kernel_rfl
def k_tgs : Nat := 33
def sg_tgs : Sig := ⟨[], [(true, (List.replicate 6 (List.replicate 7 (.int .i64) ++ [.bool] ++ List.replicate 5 (.int .i64) ++ [.list 37])).flatten)], false, false, true, false, false, [], [], none⟩
noncomputable def tr_tgs : Tree := walk E0.cx (sgsN []) 0 33 sg_tgs
theorem wk_tgs : walk E0.cx (sgsN []) 0 33 sg_tgs = tr_tgs := rfl
theorem bo_tgs : ∃ x, bodyOf E0.P 33 = some x := bo_of (by kernel_rfl)
noncomputable def tgs_g : List PD → Option (List PD) := fun ps => evL E0.Δ (pfun []) 0 [] tr_tgs ps
def tgs_s : Spec := psp tgs_g
theorem tgs_h : Holds E0 k_tgs sg_tgs tgs_s := con_ev wf0 mix0 g0 [] rfl wk_tgs rfl (fits_nil) 0
noncomputable def con_tgs : Con E0 := ⟨k_tgs, sg_tgs, tgs_s, rfl, bo_tgs, tgs_h⟩
theorem tgs_ok : tgs_g [] = some greenS := by kernel_rfl
end Go.Proofs.YtcigbgpdikadpaaDoor
end

section
namespace Go.Proofs.YtcigbgpdikadpaaDoor
open Go.RowKit
set_option linter.unusedVariables false
set_option linter.unusedSimpArgs false

def k_twr : Nat := 34
def sg_twr : Sig := ⟨[], [(true, (List.replicate 4 (List.replicate 7 (.int .i64) ++ [.bool] ++ List.replicate 5 (.int .i64) ++ [.list 37])).flatten)], false, false, true, false, false, [], [], none⟩
noncomputable def tr_twr : Tree := walk E0.cx (sgsN [(20, sg_tcost), (43, sg_tevery), (27, sg_tdo), (26, sg_twhen), (28, sg_tactive)]) 0 34 sg_twr
theorem wk_twr : walk E0.cx (sgsN [(20, sg_tcost), (43, sg_tevery), (27, sg_tdo), (26, sg_twhen), (28, sg_tactive)]) 0 34 sg_twr = tr_twr := rfl
theorem bo_twr : ∃ x, bodyOf E0.P 34 = some x := bo_of (by kernel_rfl)
theorem sp_twr_tcost : specC [con_tcost, con_tevery, con_tdo, con_twhen, con_tactive] k_tcost = tcost_s := rfl
theorem sp_twr_tevery : specC [con_tcost, con_tevery, con_tdo, con_twhen, con_tactive] k_tevery = tevery_s := rfl
theorem sp_twr_tdo : specC [con_tcost, con_tevery, con_tdo, con_twhen, con_tactive] k_tdo = tdo_s := rfl
theorem sp_twr_twhen : specC [con_tcost, con_tevery, con_tdo, con_twhen, con_tactive] k_twhen = twhen_s := rfl
theorem sp_twr_tactive : specC [con_tcost, con_tevery, con_tdo, con_twhen, con_tactive] k_tactive = tactive_s := rfl
noncomputable def twr_g : List PD → Option (List PD) := fun ps => evL E0.Δ (pfun [(k_tcost, tcost_g), (k_tevery, tevery_g), (k_tdo, tdo_g), (k_twhen, twhen_g), (k_tactive, tactive_g)]) 0 [] tr_twr ps
def twr_s : Spec := psp twr_g
theorem twr_h : Holds E0 k_twr sg_twr twr_s := con_ev wf0 mix0 g0 [con_tcost, con_tevery, con_tdo, con_twhen, con_tactive] rfl wk_twr rfl (fits_cons (k := k_tcost) (g := tcost_g) sp_twr_tcost (fits_cons (k := k_tevery) (g := tevery_g) sp_twr_tevery (fits_cons (k := k_tdo) (g := tdo_g) sp_twr_tdo (fits_cons (k := k_twhen) (g := twhen_g) sp_twr_twhen (fits_cons (k := k_tactive) (g := tactive_g) sp_twr_tactive (fits_nil)))))) 0
noncomputable def con_twr : Con E0 := ⟨k_twr, sg_twr, twr_s, rfl, bo_twr, twr_h⟩
theorem twr_ok : twr_g [] = some whiteR := by kernel_rfl
def k_tur : Nat := 35
def sg_tur : Sig := ⟨[], [(true, (List.replicate 4 (List.replicate 7 (.int .i64) ++ [.bool] ++ List.replicate 5 (.int .i64) ++ [.list 37])).flatten)], false, false, true, false, false, [], [], none⟩
noncomputable def tr_tur : Tree := walk E0.cx (sgsN [(20, sg_tcost), (43, sg_tevery), (27, sg_tdo), (26, sg_twhen), (28, sg_tactive)]) 0 35 sg_tur
theorem wk_tur : walk E0.cx (sgsN [(20, sg_tcost), (43, sg_tevery), (27, sg_tdo), (26, sg_twhen), (28, sg_tactive)]) 0 35 sg_tur = tr_tur := rfl
theorem bo_tur : ∃ x, bodyOf E0.P 35 = some x := bo_of (by kernel_rfl)
theorem sp_tur_tcost : specC [con_tcost, con_tevery, con_tdo, con_twhen, con_tactive] k_tcost = tcost_s := rfl
theorem sp_tur_tevery : specC [con_tcost, con_tevery, con_tdo, con_twhen, con_tactive] k_tevery = tevery_s := rfl
theorem sp_tur_tdo : specC [con_tcost, con_tevery, con_tdo, con_twhen, con_tactive] k_tdo = tdo_s := rfl
theorem sp_tur_twhen : specC [con_tcost, con_tevery, con_tdo, con_twhen, con_tactive] k_twhen = twhen_s := rfl
theorem sp_tur_tactive : specC [con_tcost, con_tevery, con_tdo, con_twhen, con_tactive] k_tactive = tactive_s := rfl
noncomputable def tur_g : List PD → Option (List PD) := fun ps => evL E0.Δ (pfun [(k_tcost, tcost_g), (k_tevery, tevery_g), (k_tdo, tdo_g), (k_twhen, twhen_g), (k_tactive, tactive_g)]) 0 [] tr_tur ps
def tur_s : Spec := psp tur_g
theorem tur_h : Holds E0 k_tur sg_tur tur_s := con_ev wf0 mix0 g0 [con_tcost, con_tevery, con_tdo, con_twhen, con_tactive] rfl wk_tur rfl (fits_cons (k := k_tcost) (g := tcost_g) sp_tur_tcost (fits_cons (k := k_tevery) (g := tevery_g) sp_tur_tevery (fits_cons (k := k_tdo) (g := tdo_g) sp_tur_tdo (fits_cons (k := k_twhen) (g := twhen_g) sp_tur_twhen (fits_cons (k := k_tactive) (g := tactive_g) sp_tur_tactive (fits_nil)))))) 0
noncomputable def con_tur : Con E0 := ⟨k_tur, sg_tur, tur_s, rfl, bo_tur, tur_h⟩
theorem tur_ok : tur_g [] = some blueR := by kernel_rfl
def k_tbr : Nat := 36
def sg_tbr : Sig := ⟨[], [(true, (List.replicate 4 (List.replicate 7 (.int .i64) ++ [.bool] ++ List.replicate 5 (.int .i64) ++ [.list 37])).flatten)], false, false, true, false, false, [], [], none⟩
noncomputable def tr_tbr : Tree := walk E0.cx (sgsN [(20, sg_tcost), (43, sg_tevery), (27, sg_tdo), (26, sg_twhen), (28, sg_tactive)]) 0 36 sg_tbr
theorem wk_tbr : walk E0.cx (sgsN [(20, sg_tcost), (43, sg_tevery), (27, sg_tdo), (26, sg_twhen), (28, sg_tactive)]) 0 36 sg_tbr = tr_tbr := rfl
theorem bo_tbr : ∃ x, bodyOf E0.P 36 = some x := bo_of (by kernel_rfl)
theorem sp_tbr_tcost : specC [con_tcost, con_tevery, con_tdo, con_twhen, con_tactive] k_tcost = tcost_s := rfl
theorem sp_tbr_tevery : specC [con_tcost, con_tevery, con_tdo, con_twhen, con_tactive] k_tevery = tevery_s := rfl
theorem sp_tbr_tdo : specC [con_tcost, con_tevery, con_tdo, con_twhen, con_tactive] k_tdo = tdo_s := rfl
theorem sp_tbr_twhen : specC [con_tcost, con_tevery, con_tdo, con_twhen, con_tactive] k_twhen = twhen_s := rfl
theorem sp_tbr_tactive : specC [con_tcost, con_tevery, con_tdo, con_twhen, con_tactive] k_tactive = tactive_s := rfl
noncomputable def tbr_g : List PD → Option (List PD) := fun ps => evL E0.Δ (pfun [(k_tcost, tcost_g), (k_tevery, tevery_g), (k_tdo, tdo_g), (k_twhen, twhen_g), (k_tactive, tactive_g)]) 0 [] tr_tbr ps
def tbr_s : Spec := psp tbr_g
theorem tbr_h : Holds E0 k_tbr sg_tbr tbr_s := con_ev wf0 mix0 g0 [con_tcost, con_tevery, con_tdo, con_twhen, con_tactive] rfl wk_tbr rfl (fits_cons (k := k_tcost) (g := tcost_g) sp_tbr_tcost (fits_cons (k := k_tevery) (g := tevery_g) sp_tbr_tevery (fits_cons (k := k_tdo) (g := tdo_g) sp_tbr_tdo (fits_cons (k := k_twhen) (g := twhen_g) sp_tbr_twhen (fits_cons (k := k_tactive) (g := tactive_g) sp_tbr_tactive (fits_nil)))))) 0
noncomputable def con_tbr : Con E0 := ⟨k_tbr, sg_tbr, tbr_s, rfl, bo_tbr, tbr_h⟩
theorem tbr_ok : tbr_g [] = some blackR := by kernel_rfl
end Go.Proofs.YtcigbgpdikadpaaDoor
end

section
namespace Go.Proofs.YtcigbgpdikadpaaDoor
open Go.RowKit
set_option linter.unusedVariables false
set_option linter.unusedSimpArgs false

def k_trr : Nat := 37
def sg_trr : Sig := ⟨[], [(true, (List.replicate 4 (List.replicate 7 (.int .i64) ++ [.bool] ++ List.replicate 5 (.int .i64) ++ [.list 37])).flatten)], false, false, true, false, false, [], [], none⟩
noncomputable def tr_trr : Tree := walk E0.cx (sgsN [(20, sg_tcost), (43, sg_tevery), (27, sg_tdo), (26, sg_twhen), (28, sg_tactive)]) 0 37 sg_trr
theorem wk_trr : walk E0.cx (sgsN [(20, sg_tcost), (43, sg_tevery), (27, sg_tdo), (26, sg_twhen), (28, sg_tactive)]) 0 37 sg_trr = tr_trr := rfl
theorem bo_trr : ∃ x, bodyOf E0.P 37 = some x := bo_of (by kernel_rfl)
theorem sp_trr_tcost : specC [con_tcost, con_tevery, con_tdo, con_twhen, con_tactive] k_tcost = tcost_s := rfl
theorem sp_trr_tevery : specC [con_tcost, con_tevery, con_tdo, con_twhen, con_tactive] k_tevery = tevery_s := rfl
theorem sp_trr_tdo : specC [con_tcost, con_tevery, con_tdo, con_twhen, con_tactive] k_tdo = tdo_s := rfl
theorem sp_trr_twhen : specC [con_tcost, con_tevery, con_tdo, con_twhen, con_tactive] k_twhen = twhen_s := rfl
theorem sp_trr_tactive : specC [con_tcost, con_tevery, con_tdo, con_twhen, con_tactive] k_tactive = tactive_s := rfl
noncomputable def trr_g : List PD → Option (List PD) := fun ps => evL E0.Δ (pfun [(k_tcost, tcost_g), (k_tevery, tevery_g), (k_tdo, tdo_g), (k_twhen, twhen_g), (k_tactive, tactive_g)]) 0 [] tr_trr ps
def trr_s : Spec := psp trr_g
theorem trr_h : Holds E0 k_trr sg_trr trr_s := con_ev wf0 mix0 g0 [con_tcost, con_tevery, con_tdo, con_twhen, con_tactive] rfl wk_trr rfl (fits_cons (k := k_tcost) (g := tcost_g) sp_trr_tcost (fits_cons (k := k_tevery) (g := tevery_g) sp_trr_tevery (fits_cons (k := k_tdo) (g := tdo_g) sp_trr_tdo (fits_cons (k := k_twhen) (g := twhen_g) sp_trr_twhen (fits_cons (k := k_tactive) (g := tactive_g) sp_trr_tactive (fits_nil)))))) 0
noncomputable def con_trr : Con E0 := ⟨k_trr, sg_trr, trr_s, rfl, bo_trr, trr_h⟩
theorem trr_ok : trr_g [] = some redR := by kernel_rfl
def k_tgr : Nat := 38
def sg_tgr : Sig := ⟨[], [(true, (List.replicate 4 (List.replicate 7 (.int .i64) ++ [.bool] ++ List.replicate 5 (.int .i64) ++ [.list 37])).flatten)], false, false, true, false, false, [], [], none⟩
noncomputable def tr_tgr : Tree := walk E0.cx (sgsN [(20, sg_tcost), (43, sg_tevery), (27, sg_tdo), (26, sg_twhen), (28, sg_tactive)]) 0 38 sg_tgr
theorem wk_tgr : walk E0.cx (sgsN [(20, sg_tcost), (43, sg_tevery), (27, sg_tdo), (26, sg_twhen), (28, sg_tactive)]) 0 38 sg_tgr = tr_tgr := rfl
theorem bo_tgr : ∃ x, bodyOf E0.P 38 = some x := bo_of (by kernel_rfl)
theorem sp_tgr_tcost : specC [con_tcost, con_tevery, con_tdo, con_twhen, con_tactive] k_tcost = tcost_s := rfl
theorem sp_tgr_tevery : specC [con_tcost, con_tevery, con_tdo, con_twhen, con_tactive] k_tevery = tevery_s := rfl
theorem sp_tgr_tdo : specC [con_tcost, con_tevery, con_tdo, con_twhen, con_tactive] k_tdo = tdo_s := rfl
theorem sp_tgr_twhen : specC [con_tcost, con_tevery, con_tdo, con_twhen, con_tactive] k_twhen = twhen_s := rfl
theorem sp_tgr_tactive : specC [con_tcost, con_tevery, con_tdo, con_twhen, con_tactive] k_tactive = tactive_s := rfl
noncomputable def tgr_g : List PD → Option (List PD) := fun ps => evL E0.Δ (pfun [(k_tcost, tcost_g), (k_tevery, tevery_g), (k_tdo, tdo_g), (k_twhen, twhen_g), (k_tactive, tactive_g)]) 0 [] tr_tgr ps
def tgr_s : Spec := psp tgr_g
theorem tgr_h : Holds E0 k_tgr sg_tgr tgr_s := con_ev wf0 mix0 g0 [con_tcost, con_tevery, con_tdo, con_twhen, con_tactive] rfl wk_tgr rfl (fits_cons (k := k_tcost) (g := tcost_g) sp_tgr_tcost (fits_cons (k := k_tevery) (g := tevery_g) sp_tgr_tevery (fits_cons (k := k_tdo) (g := tdo_g) sp_tgr_tdo (fits_cons (k := k_twhen) (g := twhen_g) sp_tgr_twhen (fits_cons (k := k_tactive) (g := tactive_g) sp_tgr_tactive (fits_nil)))))) 0
noncomputable def con_tgr : Con E0 := ⟨k_tgr, sg_tgr, tgr_s, rfl, bo_tgr, tgr_h⟩
theorem tgr_ok : tgr_g [] = some greenR := by kernel_rfl
end Go.Proofs.YtcigbgpdikadpaaDoor
end
