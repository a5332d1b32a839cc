import Derived.Test.YtfpgbdefopbfbaaDoorM10
import Derived.Test.YtfpgbdefopbfbaaDoorM7

set_option linter.unusedVariables false
set_option linter.unusedSimpArgs false

section
namespace Go.Proofs.YtfpgbdefopbfbaaDoor
open Go.RowKit
set_option linter.unusedVariables false
set_option linter.unusedSimpArgs false

theorem rep_snoc (c : UInt8) : ∀ n, Lib.repeatL [c] (n + 1) = Lib.repeatL [c] n ++ [c]
  | 0 => rfl
  | n + 1 => by
    show [c] ++ Lib.repeatL [c] (n + 1) = ([c] ++ Lib.repeatL [c] n) ++ [c]
    rw [rep_snoc c n, List.append_assoc]
theorem loop_toList (b : ByteArray) : ∀ (n i : Nat) (r : List UInt8), b.size - i = n → ByteArray.toList.loop b i r = r.reverse ++ b.data.toList.drop i
  | 0, i, r, h => by
    unfold ByteArray.toList.loop
    have hs : b.data.toList.length = b.size := Array.length_toList
    rw [if_neg (by omega), List.drop_of_length_le (by omega), List.append_nil]
  | n + 1, i, r, h => by
    unfold ByteArray.toList.loop
    have hs : b.data.toList.length = b.size := Array.length_toList
    have hi : i < b.data.toList.length := by omega
    rw [if_pos (by omega), loop_toList b n (i + 1) _ (by omega), List.drop_eq_getElem_cons hi]
    have : b.get! i = b.data.toList[i] := by
      have : i < b.data.size := by simpa using hi
      simp only [ByteArray.get!]
      rw [Array.getElem_toList, getElem!_pos b.data i this]
    rw [this]
    simp
theorem toList_data (b : ByteArray) : b.toList = b.data.toList := (loop_toList b _ 0 [] rfl).trans (by simp)
theorem toList_V (l : List UInt8) : (strD (strV l)).toList = l := by
  rw [strD_V, toList_data]
theorem textN_bad {ds : List Dat} (h : goodC ds = false) : textN ds = 2 ∧ textL ds = [] := by
  have e : textN ds = 2 := by unfold textN; rw [if_pos h]
  exact ⟨e, by unfold textL; rw [e, if_neg (by decide)]⟩
theorem textN_long {ds : List Dat} (h : goodC ds = true) (hl : longC ds = true) : textN ds = 3 ∧ textL ds = [] := by
  have e : textN ds = 3 := by unfold textN; rw [if_neg (by rw [h]; decide), if_pos hl]
  exact ⟨e, by unfold textL; rw [e, if_neg (by decide)]⟩
theorem textN_ok {ds : List Dat} (h : goodC ds = true) (hl : ¬ longC ds = true) : textN ds = 0 ∧ textL ds = textA ds := by
  have e : textN ds = 0 := by unfold textN; rw [if_neg (by rw [h]; decide), if_neg hl]
  exact ⟨e, by unfold textL; rw [e, if_pos rfl]⟩
def LoopS (T : Nat) (pre : List UInt8) (c : UInt8) : List Dat → Nat → Prop := fun xs m => ∃ (k : Nat) (rest : List Dat), k ≤ T ∧ m = T - k ∧ xs = strV (pre ++ Lib.repeatL [c] k) :: .int .i64 k :: rest
theorem LoopS_start (T : Nat) (pre : List UInt8) (c : UInt8) (rest : List Dat) : ∃ m, LoopS T pre c (strV pre :: .int .i64 0 :: rest) m :=
  ⟨T, 0, rest, by omega, rfl, by show _ = strV (pre ++ []) :: _; rw [List.append_nil]; rfl⟩
theorem LoopS_step {T : Nat} {pre : List UInt8} {c : UInt8} {k m : Nat} {rest : List Dat} (hk : k < T) (hT : T ≤ 1000) (hp : pre.length ≤ 10000) (hm : m = T - k) :
    ((strD (Dat.val (Value.string (strD (strV (pre ++ Lib.repeatL [c] k)) ++ strD (strV [c]))))).size : Int) ≤ 9223372036854775807 ∧
    ∃ m', m' < m ∧ LoopS T pre c (Dat.val (Value.string (strD (strV (pre ++ Lib.repeatL [c] k)) ++ strD (strV [c]))) :: .int .i64 (IntKind.i64.wrap ((k : Int) + 1)) :: rest) m' := by
  rw [sapp_V, size_V]
  refine ⟨?_, T - (k + 1), by omega, k + 1, rest, by omega, rfl, ?_⟩
  · rw [List.length_append, List.length_append, rep_len, List.length_cons, List.length_nil]; omega
  · rw [wrap64 (by omega) (by omega), rep_snoc, List.append_assoc]; rfl
def k_rText04 : Nat := 9
def sg_rText04 : Sig := ⟨[(true, List.replicate 6 (.int .i64))], [(false, [.str]), (false, [.int .i64])], false, true, true, false, false⟩
def tr_rText04_1 : Tree := (.ite (.cmp .lt (.var 28) (.var 4)) (.ob (.cmp .le (.slen (.sapp (.var 27) (.str [71]))) (.int .i64 9223372036854775807)) (.again 4 [(.sapp (.var 27) (.str [71])), (.ar .add .i64 (.var 28) (.int .i64 1)), (.var 28), (.int .i64 4), (.var 4), (.cmp .lt (.var 28) (.var 4))])) (.ite (.or (.cmp .gt (.var 5) (.int .i64 0)) (.seq (.var 27) (.str []))) (.call k_figs [(.var 5)] [.str] (.ob (.cmp .le (.slen (.sapp (.var 33) (.var 27))) (.int .i64 9223372036854775807)) (.ret [(.sapp (.var 33) (.var 27)), (.int .i64 0)]))) (.ret [(.var 27), (.int .i64 0)])))
def tr_rText04_2 : Tree := (.ite (.cmp .lt (.var 22) (.var 3)) (.ob (.cmp .le (.slen (.sapp (.var 21) (.str [82]))) (.int .i64 9223372036854775807)) (.again 3 [(.sapp (.var 21) (.str [82])), (.ar .add .i64 (.var 22) (.int .i64 1)), (.var 22), (.int .i64 3), (.var 3), (.cmp .lt (.var 22) (.var 3))])) (.ite (.cmp .gt (.var 4) (.int .i64 20)) (.ret [(.str []), (.int .i64 3)]) (.loop [(.var 21), (.int .i64 0), (.var 22), (.int .i64 3), (.var 3), (.cmp .lt (.var 22) (.var 3))] [.str, (.int .i64), (.int .i64), (.int .i64), (.int .i64), .bool] tr_rText04_1)))
def tr_rText04_3 : Tree := (.ite (.cmp .lt (.var 16) (.var 2)) (.ob (.cmp .le (.slen (.sapp (.var 15) (.str [66]))) (.int .i64 9223372036854775807)) (.again 2 [(.sapp (.var 15) (.str [66])), (.ar .add .i64 (.var 16) (.int .i64 1)), (.var 16), (.int .i64 2), (.var 2), (.cmp .lt (.var 16) (.var 2))])) (.ite (.cmp .gt (.var 3) (.int .i64 20)) (.ret [(.str []), (.int .i64 3)]) (.loop [(.var 15), (.int .i64 0), (.var 16), (.int .i64 2), (.var 2), (.cmp .lt (.var 16) (.var 2))] [.str, (.int .i64), (.int .i64), (.int .i64), (.int .i64), .bool] tr_rText04_2)))
def tr_rText04_4 : Tree := (.ite (.cmp .lt (.var 10) (.var 1)) (.ob (.cmp .le (.slen (.sapp (.var 9) (.str [85]))) (.int .i64 9223372036854775807)) (.again 1 [(.sapp (.var 9) (.str [85])), (.ar .add .i64 (.var 10) (.int .i64 1)), (.var 10), (.int .i64 1), (.var 1), (.cmp .lt (.var 10) (.var 1))])) (.ite (.cmp .gt (.var 2) (.int .i64 20)) (.ret [(.str []), (.int .i64 3)]) (.loop [(.var 9), (.int .i64 0), (.var 10), (.int .i64 1), (.var 1), (.cmp .lt (.var 10) (.var 1))] [.str, (.int .i64), (.int .i64), (.int .i64), (.int .i64), .bool] tr_rText04_3)))
def tr_rText04_5 : Tree := (.ite (.cmp .lt (.var 8) (.var 0)) (.ob (.cmp .le (.slen (.sapp (.var 7) (.str [87]))) (.int .i64 9223372036854775807)) (.again 0 [(.sapp (.var 7) (.str [87])), (.ar .add .i64 (.var 8) (.int .i64 1))])) (.ite (.cmp .gt (.var 1) (.int .i64 20)) (.ret [(.str []), (.int .i64 3)]) (.loop [(.var 7), (.int .i64 0), (.var 8), (.int .i64 0), (.var 0), (.cmp .lt (.var 8) (.var 0))] [.str, (.int .i64), (.int .i64), (.int .i64), (.int .i64), .bool] tr_rText04_4)))
def tr_rText04 : Tree := (.call k_rGood04 [(.var 0), (.var 1), (.var 2), (.var 3), (.var 4), (.var 5)] [.bool] (.ite (.not (.var 6)) (.ret [(.str []), (.int .i64 2)]) (.ite (.cmp .gt (.var 0) (.int .i64 20)) (.ret [(.str []), (.int .i64 3)]) (.loop [(.str []), (.int .i64 0)] [.str, (.int .i64)] tr_rText04_5))))
theorem wk_rText04 : walk E0.cx (sgsN [(14, sg_rGood04), (24, sg_figs)]) 0 9 sg_rText04 = tr_rText04 := by kernel_rfl
theorem bo_rText04 : ∃ x, bodyOf E0.P 9 = some x := bo_of (by kernel_rfl)
theorem sp_rText04_rGood04 : specC [con_rGood04, con_figs] k_rGood04 = rGood04_s := rfl
theorem sp_rText04_figs : specC [con_rGood04, con_figs] k_figs = figs_s := rfl
def rText04_s : Spec := fun ds Q => Q [strV (textL ds), .int .i64 (textN ds)]
theorem rText04_h : Holds E0 k_rText04 sg_rText04 rText04_s := con_fn wf0 mix0 g0 [con_rGood04, con_figs] rfl wk_rText04 rfl (by
  intro Φ hΦ ds Q hs h
  have hl : ds.length = 6 := hs.length.symm
  have h : Q [strV (textL ds), .int .i64 (textN ds)] := h
  have s1 : Φ k_rGood04 = rGood04_s := by rw [hΦ]; rfl
  have s2 : Φ k_figs = figs_s := by rw [hΦ]; rfl
  clear hΦ
  simp only [tr_rText04, tr_rText04_1, tr_rText04_2, tr_rText04_3, tr_rText04_4, tr_rText04_5, wp, den_int, den_bool, den_nili, den_ar, den_cmp, den_not, den_len, den_elem, den_isnil, den_errI, den_ifc, den_rep, den_push, den_app, den_emp, den_upd, row0_econs, row0_enil, den_and, den_beq, den_nil, toInt_int, toBool_bool, xs_rows, xs_list, dflt_int, dflt_bool, of_eq, of_ne, of_lt, of_le, of_gt, of_ge, of_add, of_sub, of_rem, List.map_cons, List.map_nil, Dat.bool.injEq, decide_eq_true_eq, decide_eq_false_iff_not, Bool.not_eq_true', Bool.not_eq_false', beq_iff_eq, bne_iff_ne, beq_eq_false_iff_ne, bne_eq_false_iff_eq, ne_eq, List.append_assoc, List.cons_append, List.nil_append, allS, s1, s2, rGood04_s, figs_s, @den_var0 E0.Δ ds, den_varA, den_varB, hl, Nat.reduceLT, Nat.reduceLeDiff, Nat.reduceSub, List.getD_cons_zero, List.getD_cons_succ, argL_fold ds, argI_fold ds, List.append_assoc, List.cons_append, List.nil_append, toInt_int, toBool_bool, xs_rows, xs_list, Int.toNat_natCast, Dat.bool.injEq, den_or, den_sapp, den_strl, den_slenV, den_seqV, sapp_V, size_V, List.map_cons, List.map_nil]
  have eg : goodC [ds.getD 0 (Dat.bool false), ds.getD 1 (Dat.bool false), ds.getD 2 (Dat.bool false), ds.getD 3 (Dat.bool false), ds.getD 4 (Dat.bool false), ds.getD 5 (Dat.bool false)] = goodC ds := by
    match ds, hl with
    | [_, _, _, _, _, _], _ => rfl
  rw [eg]
  refine ⟨fun hg => ?_, fun hg => ?_⟩
  · rw [(textN_bad hg).1, (textN_bad hg).2] at h; exact h
  have gd := goodC_t.1 hg
  have g0 := gd 0 (by omega)
  have g1 := gd 1 (by omega)
  have g2 := gd 2 (by omega)
  have g3 := gd 3 (by omega)
  have g4 := gd 4 (by omega)
  have g5 := gd 5 (by omega)
  have hlong : longC ds = true → Q [strV [], .int .i64 3] := fun hx => by rw [(textN_long hg hx).1, (textN_long hg hx).2] at h; exact h
  have hok : ¬ longC ds = true → Q [strV (textA ds), .int .i64 0] := fun hx => by rw [(textN_ok hg hx).1, (textN_ok hg hx).2] at h; exact h
  clear h gd
  refine ⟨fun hx => hlong (longC_t.2 (Or.inl hx)), fun x0 => ?_⟩
  refine ⟨LoopS (argI ds 0).toNat (([] : List UInt8)) 87, LoopS_start _ _ _ _, ?_⟩
  rintro d0 hd0 n0 m0 ⟨k0, _, hk0, hm0, e0⟩
  cases e0
  refine ⟨fun hlt => LoopS_step (by omega) (by omega) (by simp only [List.length_append, List.length_nil, rep_len]; omega) hm0, fun hge0 => ?_⟩
  obtain rfl : k0 = (argI ds 0).toNat := by omega
  refine ⟨fun hx => hlong (longC_t.2 (Or.inr (Or.inl hx))), fun x1 => ?_⟩
  refine ⟨LoopS (argI ds 1).toNat (([] : List UInt8) ++ Lib.repeatL [87] (argI ds 0).toNat) 85, LoopS_start _ _ _ _, ?_⟩
  rintro d1 hd1 n1 _ _ _ _ m1 ⟨k1, _, hk1, hm1, e1⟩
  cases e1
  refine ⟨fun hlt => LoopS_step (by omega) (by omega) (by simp only [List.length_append, List.length_nil, rep_len]; omega) hm1, fun hge1 => ?_⟩
  obtain rfl : k1 = (argI ds 1).toNat := by omega
  refine ⟨fun hx => hlong (longC_t.2 (Or.inr (Or.inr (Or.inl hx)))), fun x2 => ?_⟩
  refine ⟨LoopS (argI ds 2).toNat (([] : List UInt8) ++ Lib.repeatL [87] (argI ds 0).toNat ++ Lib.repeatL [85] (argI ds 1).toNat) 66, LoopS_start _ _ _ _, ?_⟩
  rintro d2 hd2 n2 _ _ _ _ m2 ⟨k2, _, hk2, hm2, e2⟩
  cases e2
  refine ⟨fun hlt => LoopS_step (by omega) (by omega) (by simp only [List.length_append, List.length_nil, rep_len]; omega) hm2, fun hge2 => ?_⟩
  obtain rfl : k2 = (argI ds 2).toNat := by omega
  refine ⟨fun hx => hlong (longC_t.2 (Or.inr (Or.inr (Or.inr (Or.inl hx))))), fun x3 => ?_⟩
  refine ⟨LoopS (argI ds 3).toNat (([] : List UInt8) ++ Lib.repeatL [87] (argI ds 0).toNat ++ Lib.repeatL [85] (argI ds 1).toNat ++ Lib.repeatL [66] (argI ds 2).toNat) 82, LoopS_start _ _ _ _, ?_⟩
  rintro d3 hd3 n3 _ _ _ _ m3 ⟨k3, _, hk3, hm3, e3⟩
  cases e3
  refine ⟨fun hlt => LoopS_step (by omega) (by omega) (by simp only [List.length_append, List.length_nil, rep_len]; omega) hm3, fun hge3 => ?_⟩
  obtain rfl : k3 = (argI ds 3).toNat := by omega
  refine ⟨fun hx => hlong (longC_t.2 (Or.inr (Or.inr (Or.inr (Or.inr hx))))), fun x4 => ?_⟩
  refine ⟨LoopS (argI ds 4).toNat (([] : List UInt8) ++ Lib.repeatL [87] (argI ds 0).toNat ++ Lib.repeatL [85] (argI ds 1).toNat ++ Lib.repeatL [66] (argI ds 2).toNat ++ Lib.repeatL [82] (argI ds 3).toNat) 71, LoopS_start _ _ _ _, ?_⟩
  rintro d4 hd4 n4 _ _ _ _ m4 ⟨k4, _, hk4, hm4, e4⟩
  cases e4
  refine ⟨fun hlt => LoopS_step (by omega) (by omega) (by simp only [List.length_append, List.length_nil, rep_len]; omega) hm4, fun hge4 => ?_⟩
  obtain rfl : k4 = (argI ds 4).toNat := by omega
  have hnl : ¬ longC ds = true := fun hx => by
    rcases longC_t.1 hx with hx | hx | hx | hx | hx
    · exact x0 hx
    · exact x1 hx
    · exact x2 hx
    · exact x3 hx
    · exact x4 hx
  have hQ := hok hnl
  clear hok hlong hnl hs
  have a5 : argI [ds.getD 5 (Dat.bool false)] 0 = argI ds 5 := by
    match ds, hl with
    | [_, _, _, _, _, _], _ => rfl
  have hP : [] ++ Lib.repeatL [87] (argI ds 0).toNat ++ Lib.repeatL [85] (argI ds 1).toNat ++ Lib.repeatL [66] (argI ds 2).toNat ++ Lib.repeatL [82] (argI ds 3).toNat ++ Lib.repeatL [71] (argI ds 4).toNat = (segL (argI ds 0).toNat (argI ds 1).toNat (argI ds 2).toNat (argI ds 3).toNat (argI ds 4).toNat).flatten := by simp [segL]
  have hlP : (segL (argI ds 0).toNat (argI ds 1).toNat (argI ds 2).toNat (argI ds 3).toNat (argI ds 4).toNat).flatten.length = (argI ds 0).toNat + (argI ds 1).toNat + (argI ds 2).toNat + (argI ds 3).toNat + (argI ds 4).toNat := by simp [segL, rep_len]; omega
  unfold textA textB at hQ
  simp only [hP, toList_V, a5, sapp_V, size_V]
  generalize (segL (argI ds 0).toNat (argI ds 1).toNat (argI ds 2).toNat (argI ds 3).toNat (argI ds 4).toNat).flatten = P at *
  refine ⟨fun hx => ?_, fun hx => ?_⟩
  · have hor : 0 < (argI ds 5).toNat ∨ (argI ds 0).toNat + (argI ds 1).toNat + (argI ds 2).toNat + (argI ds 3).toNat + (argI ds 4).toNat = 0 := by
      rcases Bool.or_eq_true_iff.1 hx with hx | hx
      · exact Or.inl (by have := of_decide_eq_true hx; omega)
      · have : P = [] := by simpa using hx
        exact Or.inr (by rw [← hlP, this]; rfl)
    rw [if_pos hor] at hQ
    have hd := dec_len (argI ds 5).toNat
    exact ⟨(argI ds 5).toNat, by omega, by omega, by rw [List.length_append]; omega, hQ⟩
  · obtain ⟨h1, h2⟩ := Bool.or_eq_false_iff.1 hx
    have h1 := of_decide_eq_false h1
    have h2 : P ≠ [] := by simpa using h2
    have h3 : P.length ≠ 0 := fun hx => h2 (List.length_eq_zero_iff.1 hx)
    rw [if_neg (by omega), List.nil_append] at hQ
    exact hQ)
noncomputable def con_rText04 : Con E0 := ⟨k_rText04, sg_rText04, rText04_s, rfl, bo_rText04, rText04_h⟩
end Go.Proofs.YtfpgbdefopbfbaaDoor
end

section
namespace Go.Proofs.YtfpgbdefopbfbaaDoor
open Go.RowKit
set_option linter.unusedVariables false
set_option linter.unusedSimpArgs false

theorem text_2ww : textN (costD 2 0 0 0 0 2) = 0 ∧ textL (costD 2 0 0 0 0 2) = [50, 87, 87] := by
  have hg : goodC (costD 2 0 0 0 0 2) = true := by decide
  have hl : ¬ longC (costD 2 0 0 0 0 2) = true := by decide
  refine ⟨(textN_ok hg hl).1, ?_⟩
  rw [(textN_ok hg hl).2]
  show textB 2 0 0 0 0 2 = _
  unfold textB
  rw [if_pos (by decide), Lib.decDigits_one (by decide)]
  decide
def k_alive04 : Nat := 7
def sg_alive04 : Sig := ⟨[], [(false, [.bool])], false, false, true, false, false⟩
def tr_alive04 : Tree := (.call k_mText [(.int .i64 2), (.int .i64 0), (.int .i64 0), (.int .i64 0), (.int .i64 0), (.int .i64 2)] [.str, .err]
(.ret [(.and (.isnil (.var 1)) (.seq (.var 0) (.str [50, 87, 87])))]))
theorem wk_alive04 : walk E0.cx (sgsN [(8, sg_mText)]) 0 7 sg_alive04 = tr_alive04 := by kernel_rfl
theorem bo_alive04 : ∃ x, bodyOf E0.P 7 = some x := bo_of (by kernel_rfl)
theorem sp_alive04_mText : specC [con_mText] k_mText = mText_s := rfl
def alive04_s : Spec := fun ds Q => Q [.bool true]
theorem alive04_h : Holds E0 k_alive04 sg_alive04 alive04_s := con_fn wf0 mix0 g0 [con_mText] rfl wk_alive04 rfl (by
  intro Φ hΦ ds Q hs h
  have h : Q [.bool true] := h
  have hl : ds.length = 0 := hs.length.symm
  obtain rfl : ds = [] := List.length_eq_zero_iff.1 hl
  have s1 : Φ k_mText = mText_s := by rw [hΦ]; rfl
  clear hΦ
  simp only [tr_alive04, wp, List.map_cons, List.map_nil, s1]
  show Q [Dat.bool (isNilI (errV (textN (costD 2 0 0 0 0 2))) && ((strD (strV (textL (costD 2 0 0 0 0 2)))).toList == (strD (strV [50, 87, 87])).toList))]
  rw [text_2ww.1, text_2ww.2, beq_self_eq_true]
  exact h)
noncomputable def con_alive04 : Con E0 := ⟨k_alive04, sg_alive04, alive04_s, rfl, bo_alive04, alive04_h⟩
theorem num_of (n : Int) {ρ : List Dat} {t : Tm} (h : den E0.Δ ρ t = errV n) : den E0.Δ ρ (.ite (.isnil t) (.int .i64 0) (.ite (.cmp .ne (.errI t) (.int .i64 0)) (.errI t) (.int .i64 (-1)))) = .int .i64 n := by
  simp only [den_ite, den, h, errV_nil]
  by_cases h0 : n = 0
  · subst h0; rfl
  · rw [decide_eq_false h0]
    simp [errV, h0, errN]
    have hc : (Dat.bool (Cmp.ne.of (Dat.int .i64 n).toInt (Dat.int .i64 0).toInt)).toBool = true := by
      show (n != 0) = true
      simpa using h0
    rw [if_neg (show ¬ ((Dat.bool false).toBool = true) by decide), if_pos hc]
def law_s : Spec := fun ds Q => InL ds ∧ Q [.bool true]
def k_ltexts : Nat := 3
def sg_ltexts : Sig := ⟨[(true, List.replicate 6 (.int .i64))], [(false, [.bool])], false, false, true, false, false⟩
def tr_ltexts : Tree := (.call k_alive04 [] [.bool]
(.ite (.not (.var 6))
 (.ret [(.bool false)])
 (.call k_mText [(.var 0), (.var 1), (.var 2), (.var 3), (.var 4), (.var 5)] [.str, .err]
 (.call k_rText04 [(.var 0), (.var 1), (.var 2), (.var 3), (.var 4), (.var 5)] [.str, (.int .i64)]
 (.ret [(.and (.seq (.var 7) (.var 9)) (.cmp .eq (.ite (.isnil (.var 8)) (.int .i64 0) (.ite (.cmp .ne (.errI (.var 8)) (.int .i64 0)) (.errI (.var 8)) (.int .i64 (-1)))) (.var 10)))])))))
theorem wk_ltexts : walk E0.cx (sgsN [(7, sg_alive04), (8, sg_mText), (9, sg_rText04), (10, sg_Num)]) 0 3 sg_ltexts = tr_ltexts := by kernel_rfl
theorem bo_ltexts : ∃ x, bodyOf E0.P 3 = some x := bo_of (by kernel_rfl)
theorem sp_ltexts_alive04 : specC [con_alive04, con_mText, con_rText04, con_Num] k_alive04 = alive04_s := rfl
theorem sp_ltexts_mText : specC [con_alive04, con_mText, con_rText04, con_Num] k_mText = mText_s := rfl
theorem sp_ltexts_rText04 : specC [con_alive04, con_mText, con_rText04, con_Num] k_rText04 = rText04_s := rfl
theorem sp_ltexts_Num : specC [con_alive04, con_mText, con_rText04, con_Num] k_Num = Num_s := rfl
def ltexts_s : Spec := law_s
theorem ltexts_h : Holds E0 k_ltexts sg_ltexts ltexts_s := con_fn wf0 mix0 g0 [con_alive04, con_mText, con_rText04, con_Num] rfl wk_ltexts rfl (by
  intro Φ hΦ ds Q hs ⟨hin, h⟩
  have hl : ds.length = 6 := hs.length.symm
  have s1 : Φ k_alive04 = alive04_s := by rw [hΦ]; rfl
  have s2 : Φ k_mText = mText_s := by rw [hΦ]; rfl
  have s3 : Φ k_rText04 = rText04_s := by rw [hΦ]; rfl
  have s4 : Φ k_Num = Num_s := by rw [hΦ]; rfl
  clear hΦ
  simp only [tr_ltexts, wp, den_int, den_bool, den_nili, den_ar, den_cmp, den_not, den_len, den_elem, den_isnil, den_errI, den_ifc, den_rep, den_push, den_app, den_emp, den_upd, row0_econs, row0_enil, den_and, den_beq, den_nil, toInt_int, toBool_bool, xs_rows, xs_list, dflt_int, dflt_bool, of_eq, of_ne, of_lt, of_le, of_gt, of_ge, of_add, of_sub, of_rem, List.map_cons, List.map_nil, Dat.bool.injEq, decide_eq_true_eq, decide_eq_false_iff_not, Bool.not_eq_true', Bool.not_eq_false', beq_iff_eq, bne_iff_ne, beq_eq_false_iff_ne, bne_eq_false_iff_eq, ne_eq, List.append_assoc, List.cons_append, List.nil_append, allS, s1, s2, s3, s4, alive04_s, mText_s, rText04_s, Num_s, @den_var0 E0.Δ ds, den_varA, den_varB, hl, Nat.reduceLT, Nat.reduceLeDiff, Nat.reduceSub, List.getD_cons_zero, List.getD_cons_succ, argL_fold ds, argI_fold ds, List.append_assoc, List.cons_append, List.nil_append, toInt_int, toBool_bool, xs_rows, xs_list, Int.toNat_natCast, Dat.bool.injEq, den_seqV]
  refine ⟨fun hx => Bool.noConfusion hx, fun _ => ?_⟩
  clear hs hin
  match ds, hl with
  | [x0, x1, x2, x3, x4, x5], _ =>
    rw [num_of (textN [x0, x1, x2, x3, x4, x5]) rfl, beq_self_eq_true]
    show Q [Dat.bool (true && (textN [x0, x1, x2, x3, x4, x5] == textN [x0, x1, x2, x3, x4, x5]))]
    rw [beq_self_eq_true]
    exact h)
noncomputable def con_ltexts : Con E0 := ⟨k_ltexts, sg_ltexts, ltexts_s, rfl, bo_ltexts, ltexts_h⟩
end Go.Proofs.YtfpgbdefopbfbaaDoor
end

section
namespace Go.Proofs.YtfpgbdefopbfbaaDoor
open Go.RowKit
set_option linter.unusedVariables false
set_option linter.unusedSimpArgs false

/-- an error's number; the pool, with more -/
def addN (ds : List Dat) : Int := if goodC ds = false then 2 else if argI ds 6 < 0 ∨ 5 < argI ds 6 then 6 else if argI ds 7 < 0 ∨ 1000 < argI ds (argI ds 6).toNat + argI ds 7 then 1 else 0
def addC (ds : List Dat) (i : Nat) : Int := if addN ds = 0 then (if (argI ds 6).toNat = i then argI ds i + argI ds 7 else argI ds i) else 0
def addL (ds : List Dat) : List Dat := [.int .i64 (addC ds 0), .int .i64 (addC ds 1), .int .i64 (addC ds 2), .int .i64 (addC ds 3), .int .i64 (addC ds 4), .int .i64 (addC ds 5)]
theorem addL_bad {ds : List Dat} (h : addN ds ≠ 0) : addL ds = [.int .i64 0, .int .i64 0, .int .i64 0, .int .i64 0, .int .i64 0, .int .i64 0] := by
  unfold addL addC; simp only [if_neg h]
theorem ints_of {Δ : Tab} : ∀ {n : Nat} {ds : List Dat}, All2 (Has Δ) (List.replicate n (.int .i64)) ds → ∃ l : List Int, l.length = n ∧ ds = l.map (Dat.int .i64)
  | 0, _, .nil => ⟨[], rfl, rfl⟩
  | n + 1, _, .cons h t => by
    obtain ⟨l, hl, e⟩ := ints_of t
    cases h with
    | int k a => exact ⟨a :: l, by simp [hl], by rw [e]; rfl⟩
theorem tryC {c : Int} (h : (decide (c < 0) || decide (5 < c)) = false) : ∃ k : Nat, k < 6 ∧ c = k := by
  rw [Bool.or_eq_false_iff, decide_eq_false_iff_not, decide_eq_false_iff_not] at h
  exact ⟨c.toNat, by omega, by omega⟩
theorem addN_2 {ds : List Dat} (h : goodC ds = false) : addN ds = 2 := if_pos h
theorem addN_6 {ds : List Dat} (h : goodC ds = true) (hc : argI ds 6 < 0 ∨ 5 < argI ds 6) : addN ds = 6 := by unfold addN; rw [if_neg (by rw [h]; decide), if_pos hc]
theorem addN_1 {ds : List Dat} (h : goodC ds = true) (hc : ¬ (argI ds 6 < 0 ∨ 5 < argI ds 6)) (hn : argI ds 7 < 0 ∨ 1000 < argI ds (argI ds 6).toNat + argI ds 7) : addN ds = 1 := by unfold addN; rw [if_neg (by rw [h]; decide), if_neg hc, if_pos hn]
theorem addN_0 {ds : List Dat} (h : goodC ds = true) (hc : ¬ (argI ds 6 < 0 ∨ 5 < argI ds 6)) (hn : ¬ (argI ds 7 < 0 ∨ 1000 < argI ds (argI ds 6).toNat + argI ds 7)) : addN ds = 0 := by unfold addN; rw [if_neg (by rw [h]; decide), if_neg hc, if_neg hn]
/-- the two functions' ends -/
theorem add_end {a0 a1 a2 a3 a4 a5 c n : Int} {R : List Dat → Prop} (hg : goodC (([a0, a1, a2, a3, a4, a5, c, n]).map (Dat.int .i64)) = true) (hc : (decide (c < 0) || decide (5 < c)) = false)
    (h1 : ¬ (n < 0 ∨ 1000 < ([a0, a1, a2, a3, a4, a5].getD c.toNat 0) + n)) (h : R (addL (([a0, a1, a2, a3, a4, a5, c, n]).map (Dat.int .i64)))) :
    R [.int .i64 (if c = 0 then IntKind.i64.wrap ([a0, a1, a2, a3, a4, a5].getD c.toNat 0 + n) else a0), .int .i64 (if c = 1 then IntKind.i64.wrap ([a0, a1, a2, a3, a4, a5].getD c.toNat 0 + n) else a1), .int .i64 (if c = 2 then IntKind.i64.wrap ([a0, a1, a2, a3, a4, a5].getD c.toNat 0 + n) else a2), .int .i64 (if c = 3 then IntKind.i64.wrap ([a0, a1, a2, a3, a4, a5].getD c.toNat 0 + n) else a3), .int .i64 (if c = 4 then IntKind.i64.wrap ([a0, a1, a2, a3, a4, a5].getD c.toNat 0 + n) else a4), .int .i64 (if c = 5 then IntKind.i64.wrap ([a0, a1, a2, a3, a4, a5].getD c.toNat 0 + n) else a5)] := by
  have hb := goodC_t.1 hg
  have b0 := hb 0 (by omega)
  have b1 := hb 1 (by omega)
  have b2 := hb 2 (by omega)
  have b3 := hb 3 (by omega)
  have b4 := hb 4 (by omega)
  have b5 := hb 5 (by omega)
  change 0 ≤ a0 ∧ a0 ≤ 1000 at b0
  change 0 ≤ a1 ∧ a1 ≤ 1000 at b1
  change 0 ≤ a2 ∧ a2 ≤ 1000 at b2
  change 0 ≤ a3 ∧ a3 ≤ 1000 at b3
  change 0 ≤ a4 ∧ a4 ≤ 1000 at b4
  change 0 ≤ a5 ∧ a5 ≤ 1000 at b5
  clear hb
  obtain ⟨k, hk, rfl⟩ := tryC hc
  match k, hk with
  | 0, _ =>
    change ¬ (n < 0 ∨ 1000 < a0 + n) at h1
    have h0 : addN (([a0, a1, a2, a3, a4, a5, ((0 : Nat) : Int), n]).map (Dat.int .i64)) = 0 := addN_0 hg (by show ¬ ((((0 : Nat) : Int)) < 0 ∨ 5 < (((0 : Nat) : Int))); omega) (by show ¬ (n < 0 ∨ 1000 < a0 + n); exact h1)
    show R [.int .i64 (IntKind.i64.wrap (a0 + n)), .int .i64 a1, .int .i64 a2, .int .i64 a3, .int .i64 a4, .int .i64 a5]
    rw [wrap64 (by omega) (by omega)]
    unfold addL addC at h; simp only [if_pos h0] at h; exact h
  | 1, _ =>
    change ¬ (n < 0 ∨ 1000 < a1 + n) at h1
    have h0 : addN (([a0, a1, a2, a3, a4, a5, ((1 : Nat) : Int), n]).map (Dat.int .i64)) = 0 := addN_0 hg (by show ¬ ((((1 : Nat) : Int)) < 0 ∨ 5 < (((1 : Nat) : Int))); omega) (by show ¬ (n < 0 ∨ 1000 < a1 + n); exact h1)
    show R [.int .i64 a0, .int .i64 (IntKind.i64.wrap (a1 + n)), .int .i64 a2, .int .i64 a3, .int .i64 a4, .int .i64 a5]
    rw [wrap64 (by omega) (by omega)]
    unfold addL addC at h; simp only [if_pos h0] at h; exact h
  | 2, _ =>
    change ¬ (n < 0 ∨ 1000 < a2 + n) at h1
    have h0 : addN (([a0, a1, a2, a3, a4, a5, ((2 : Nat) : Int), n]).map (Dat.int .i64)) = 0 := addN_0 hg (by show ¬ ((((2 : Nat) : Int)) < 0 ∨ 5 < (((2 : Nat) : Int))); omega) (by show ¬ (n < 0 ∨ 1000 < a2 + n); exact h1)
    show R [.int .i64 a0, .int .i64 a1, .int .i64 (IntKind.i64.wrap (a2 + n)), .int .i64 a3, .int .i64 a4, .int .i64 a5]
    rw [wrap64 (by omega) (by omega)]
    unfold addL addC at h; simp only [if_pos h0] at h; exact h
  | 3, _ =>
    change ¬ (n < 0 ∨ 1000 < a3 + n) at h1
    have h0 : addN (([a0, a1, a2, a3, a4, a5, ((3 : Nat) : Int), n]).map (Dat.int .i64)) = 0 := addN_0 hg (by show ¬ ((((3 : Nat) : Int)) < 0 ∨ 5 < (((3 : Nat) : Int))); omega) (by show ¬ (n < 0 ∨ 1000 < a3 + n); exact h1)
    show R [.int .i64 a0, .int .i64 a1, .int .i64 a2, .int .i64 (IntKind.i64.wrap (a3 + n)), .int .i64 a4, .int .i64 a5]
    rw [wrap64 (by omega) (by omega)]
    unfold addL addC at h; simp only [if_pos h0] at h; exact h
  | 4, _ =>
    change ¬ (n < 0 ∨ 1000 < a4 + n) at h1
    have h0 : addN (([a0, a1, a2, a3, a4, a5, ((4 : Nat) : Int), n]).map (Dat.int .i64)) = 0 := addN_0 hg (by show ¬ ((((4 : Nat) : Int)) < 0 ∨ 5 < (((4 : Nat) : Int))); omega) (by show ¬ (n < 0 ∨ 1000 < a4 + n); exact h1)
    show R [.int .i64 a0, .int .i64 a1, .int .i64 a2, .int .i64 a3, .int .i64 (IntKind.i64.wrap (a4 + n)), .int .i64 a5]
    rw [wrap64 (by omega) (by omega)]
    unfold addL addC at h; simp only [if_pos h0] at h; exact h
  | 5, _ =>
    change ¬ (n < 0 ∨ 1000 < a5 + n) at h1
    have h0 : addN (([a0, a1, a2, a3, a4, a5, ((5 : Nat) : Int), n]).map (Dat.int .i64)) = 0 := addN_0 hg (by show ¬ ((((5 : Nat) : Int)) < 0 ∨ 5 < (((5 : Nat) : Int))); omega) (by show ¬ (n < 0 ∨ 1000 < a5 + n); exact h1)
    show R [.int .i64 a0, .int .i64 a1, .int .i64 a2, .int .i64 a3, .int .i64 a4, .int .i64 (IntKind.i64.wrap (a5 + n))]
    rw [wrap64 (by omega) (by omega)]
    unfold addL addC at h; simp only [if_pos h0] at h; exact h
theorem get_bnd {a0 a1 a2 a3 a4 a5 c n : Int} (hg : goodC (([a0, a1, a2, a3, a4, a5, c, n]).map (Dat.int .i64)) = true) (hc : (decide (c < 0) || decide (5 < c)) = false) :
    0 ≤ [a0, a1, a2, a3, a4, a5].getD c.toNat 0 ∧ [a0, a1, a2, a3, a4, a5].getD c.toNat 0 ≤ 1000 ∧ argI (([a0, a1, a2, a3, a4, a5, c, n]).map (Dat.int .i64)) c.toNat = [a0, a1, a2, a3, a4, a5].getD c.toNat 0 ∧ ¬ (c < 0 ∨ 5 < c) := by
  have hb := goodC_t.1 hg
  obtain ⟨k, hk, rfl⟩ := tryC hc
  have := hb k hk
  rw [Int.toNat_natCast]
  have e : argI (([a0, a1, a2, a3, a4, a5, (k : Int), n]).map (Dat.int .i64)) k = [a0, a1, a2, a3, a4, a5].getD k 0 := by
    match k, hk with
    | 0, _ | 1, _ | 2, _ | 3, _ | 4, _ | 5, _ => rfl
  rw [e] at this
  exact ⟨this.1, this.2, e, by omega⟩
theorem getD_int : ∀ (l : List Int) (i : Nat), ((l.map (Dat.int .i64)).getD i (Dat.int .i64 0)).toInt = l.getD i 0
  | [], _ => rfl
  | _ :: _, 0 => rfl
  | _ :: l, i + 1 => by simpa using getD_int l i
def k_mAdd : Nat := 11
def sg_mAdd : Sig := ⟨[(true, List.replicate 6 (.int .i64)), (false, [.int .i64]), (false, [.int .i64])], [(true, List.replicate 6 (.int .i64)), (false, [.err])], false, false, true, false, false⟩
def tr_mAdd : Tree := (.call k_mGood [(.var 0), (.var 1), (.var 2), (.var 3), (.var 4), (.var 5)] [.bool]
(.ite (.not (.var 8))
 (.ret [(.int .i64 0), (.int .i64 0), (.int .i64 0), (.int .i64 0), (.int .i64 0), (.int .i64 0), (.ifc (.int .i64 2))])
 (.ite (.or (.cmp .lt (.var 6) (.int .i64 0)) (.cmp .gt (.var 6) (.int .i64 5)))
  (.ret [(.int .i64 0), (.int .i64 0), (.int .i64 0), (.int .i64 0), (.int .i64 0), (.int .i64 0), (.ifc (.int .i64 6))])
  (.ite (.or (.cmp .lt (.var 7) (.int .i64 0)) (.cmp .gt (.var 7) (.ar .sub .i64 (.int .i64 1000) (.sel (.econs (.var 0) (.econs (.var 1) (.econs (.var 2) (.econs (.var 3) (.econs (.var 4) (.econs (.var 5) .enil)))))) (.var 6) (.int .i64)))))
   (.ret [(.int .i64 0), (.int .i64 0), (.int .i64 0), (.int .i64 0), (.int .i64 0), (.int .i64 0), (.ifc (.int .i64 1))])
   (.ret [(.ite (.cmp .eq (.var 6) (.int .i64 0)) (.ar .add .i64 (.sel (.econs (.var 0) (.econs (.var 1) (.econs (.var 2) (.econs (.var 3) (.econs (.var 4) (.econs (.var 5) .enil)))))) (.var 6) (.int .i64)) (.var 7)) (.var 0)), (.ite (.cmp .eq (.var 6) (.int .i64 1)) (.ar .add .i64 (.sel (.econs (.var 0) (.econs (.var 1) (.econs (.var 2) (.econs (.var 3) (.econs (.var 4) (.econs (.var 5) .enil)))))) (.var 6) (.int .i64)) (.var 7)) (.var 1)), (.ite (.cmp .eq (.var 6) (.int .i64 2)) (.ar .add .i64 (.sel (.econs (.var 0) (.econs (.var 1) (.econs (.var 2) (.econs (.var 3) (.econs (.var 4) (.econs (.var 5) .enil)))))) (.var 6) (.int .i64)) (.var 7)) (.var 2)), (.ite (.cmp .eq (.var 6) (.int .i64 3)) (.ar .add .i64 (.sel (.econs (.var 0) (.econs (.var 1) (.econs (.var 2) (.econs (.var 3) (.econs (.var 4) (.econs (.var 5) .enil)))))) (.var 6) (.int .i64)) (.var 7)) (.var 3)), (.ite (.cmp .eq (.var 6) (.int .i64 4)) (.ar .add .i64 (.sel (.econs (.var 0) (.econs (.var 1) (.econs (.var 2) (.econs (.var 3) (.econs (.var 4) (.econs (.var 5) .enil)))))) (.var 6) (.int .i64)) (.var 7)) (.var 4)), (.ite (.cmp .eq (.var 6) (.int .i64 5)) (.ar .add .i64 (.sel (.econs (.var 0) (.econs (.var 1) (.econs (.var 2) (.econs (.var 3) (.econs (.var 4) (.econs (.var 5) .enil)))))) (.var 6) (.int .i64)) (.var 7)) (.var 5)), .nili])))))
theorem wk_mAdd : walk E0.cx (sgsN [(13, sg_mGood)]) 0 11 sg_mAdd = tr_mAdd := by kernel_rfl
theorem bo_mAdd : ∃ x, bodyOf E0.P 11 = some x := bo_of (by kernel_rfl)
theorem sp_mAdd_mGood : specC [con_mGood] k_mGood = mGood_s := rfl
def mAdd_s : Spec := fun ds Q => Q (addL ds ++ [errV (addN ds)])
theorem ite_int (p : Prop) [Decidable p] (a b : Int) : (if p then Dat.int .i64 a else Dat.int .i64 b) = Dat.int .i64 (if p then a else b) := by split <;> rfl
theorem mAdd_h : Holds E0 k_mAdd sg_mAdd mAdd_s := con_fn wf0 mix0 g0 [con_mGood] rfl wk_mAdd rfl (by
  intro Φ hΦ ds Q hs h
  have s1 : Φ k_mGood = mGood_s := by rw [hΦ]; rfl
  have h : Q (addL ds ++ [errV (addN ds)]) := h
  have hl : ds.length = 8 := hs.length.symm
  clear hΦ
  simp only [tr_mAdd, wp, den_int, den_bool, den_nili, den_ar, den_cmp, den_not, den_len, den_elem, den_isnil, den_errI, den_ifc, den_rep, den_push, den_app, den_emp, den_upd, row0_econs, row0_enil, den_and, den_beq, den_nil, toInt_int, toBool_bool, xs_rows, xs_list, dflt_int, dflt_bool, of_eq, of_ne, of_lt, of_le, of_gt, of_ge, of_add, of_sub, of_rem, List.map_cons, List.map_nil, Dat.bool.injEq, decide_eq_true_eq, decide_eq_false_iff_not, Bool.not_eq_true', Bool.not_eq_false', beq_iff_eq, bne_iff_ne, beq_eq_false_iff_ne, bne_eq_false_iff_eq, ne_eq, List.append_assoc, List.cons_append, List.nil_append, allS, s1, mGood_s, @den_var0 E0.Δ ds, den_varA, den_varB, hl, Nat.reduceLT, Nat.reduceLeDiff, Nat.reduceSub, List.getD_cons_zero, List.getD_cons_succ, argL_fold ds, argI_fold ds, List.append_assoc, List.cons_append, List.nil_append, toInt_int, toBool_bool, xs_rows, xs_list, Int.toNat_natCast, Dat.bool.injEq, den_or, den_sel, row0_econs, row0_enil, den_elem, den_len, @den_var0 E0.Δ ds, den_varA, den_varB, hl, Nat.reduceLT, Nat.reduceLeDiff, Nat.reduceSub, List.getD_cons_zero, List.getD_cons_succ, argL_fold ds, argI_fold ds, List.append_assoc, List.cons_append, List.nil_append, toInt_int, toBool_bool, xs_rows, xs_list, Int.toNat_natCast, Dat.bool.injEq, den_ite, ite_dati]
  obtain ⟨l, hl', rfl⟩ := ints_of (n := 8) hs
  match l, hl' with
  | [a0, a1, a2, a3, a4, a5, c, n], _ =>
  have eg : goodC (([a0, a1, a2, a3, a4, a5]).map (Dat.int .i64)) = goodC (([a0, a1, a2, a3, a4, a5, c, n]).map (Dat.int .i64)) := rfl
  simp only [List.map_cons, List.map_nil, List.getD_cons_zero, List.getD_cons_succ] at eg ⊢
  rw [eg]
  have ec : argI [Dat.int IntKind.i64 a0, Dat.int IntKind.i64 a1, Dat.int IntKind.i64 a2, Dat.int IntKind.i64 a3, Dat.int IntKind.i64 a4, Dat.int IntKind.i64 a5, Dat.int IntKind.i64 c, Dat.int IntKind.i64 n] 6 = c := rfl
  have en : argI [Dat.int IntKind.i64 a0, Dat.int IntKind.i64 a1, Dat.int IntKind.i64 a2, Dat.int IntKind.i64 a3, Dat.int IntKind.i64 a4, Dat.int IntKind.i64 a5, Dat.int IntKind.i64 c, Dat.int IntKind.i64 n] 7 = n := rfl
  have ep : ∀ k, ([Dat.int IntKind.i64 a0, Dat.int IntKind.i64 a1, Dat.int IntKind.i64 a2, Dat.int IntKind.i64 a3, Dat.int IntKind.i64 a4, Dat.int IntKind.i64 a5].getD k (Dat.int .i64 0)).toInt = [a0, a1, a2, a3, a4, a5].getD k 0 := getD_int [a0, a1, a2, a3, a4, a5]
  rw [ec, en, ep]
  simp only [ite_int]
  refine ⟨fun hg => ?_, fun hg => ⟨fun hc => ?_, fun hc => ⟨fun hn => ?_, fun hn => ?_⟩⟩⟩
  · have h0 := addN_2 hg
    rw [show ([a0, a1, a2, a3, a4, a5, c, n].map (Dat.int .i64)) = _ from rfl, addL_bad (by rw [List.map_cons]; erw [h0]; decide)] at h
    erw [h0] at h
    exact h
  · have h0 := addN_6 hg (by rw [ec]; rw [Bool.or_eq_true, decide_eq_true_eq, decide_eq_true_eq] at hc; exact hc)
    rw [addL_bad (by erw [h0]; decide)] at h
    erw [h0] at h
    exact h
  · obtain ⟨g1, g2, g3, g4⟩ := get_bnd hg hc
    have h0 := addN_1 hg g4 (by
      rw [Bool.or_eq_true, decide_eq_true_eq, decide_eq_true_eq, wrap64 (by omega) (by omega)] at hn
      show n < 0 ∨ 1000 < argI _ c.toNat + n
      rw [show argI [Dat.int IntKind.i64 a0, Dat.int IntKind.i64 a1, Dat.int IntKind.i64 a2, Dat.int IntKind.i64 a3, Dat.int IntKind.i64 a4, Dat.int IntKind.i64 a5, Dat.int IntKind.i64 c, Dat.int IntKind.i64 n] c.toNat = _ from g3]; omega)
    rw [addL_bad (by erw [h0]; decide)] at h
    erw [h0] at h
    exact h
  · obtain ⟨g1, g2, g3, g4⟩ := get_bnd hg hc
    have hn' : ¬ (n < 0 ∨ 1000 < [a0, a1, a2, a3, a4, a5].getD c.toNat 0 + n) := by
      rw [Bool.or_eq_false_iff, decide_eq_false_iff_not, decide_eq_false_iff_not, wrap64 (by omega) (by omega)] at hn
      omega
    have h0 := addN_0 hg g4 (by
      show ¬ (n < 0 ∨ 1000 < argI _ c.toNat + n)
      rw [show argI [Dat.int IntKind.i64 a0, Dat.int IntKind.i64 a1, Dat.int IntKind.i64 a2, Dat.int IntKind.i64 a3, Dat.int IntKind.i64 a4, Dat.int IntKind.i64 a5, Dat.int IntKind.i64 c, Dat.int IntKind.i64 n] c.toNat = _ from g3]; exact hn')
    erw [h0] at h
    exact add_end (R := fun l => Q (l ++ [errV 0])) hg hc hn' h)
noncomputable def con_mAdd : Con E0 := ⟨k_mAdd, sg_mAdd, mAdd_s, rfl, bo_mAdd, mAdd_h⟩
def k_rAdd04 : Nat := 12
def sg_rAdd04 : Sig := ⟨[(true, List.replicate 6 (.int .i64)), (false, [.int .i64]), (false, [.int .i64])], [(true, List.replicate 6 (.int .i64)), (false, [.int .i64])], false, false, true, false, false⟩
def tr_rAdd04 : Tree := (.call k_rGood04 [(.var 0), (.var 1), (.var 2), (.var 3), (.var 4), (.var 5)] [.bool]
(.ite (.not (.var 8))
 (.ret [(.int .i64 0), (.int .i64 0), (.int .i64 0), (.int .i64 0), (.int .i64 0), (.int .i64 0), (.int .i64 2)])
 (.ite (.or (.cmp .lt (.var 6) (.int .i64 0)) (.cmp .gt (.var 6) (.int .i64 5)))
  (.ret [(.int .i64 0), (.int .i64 0), (.int .i64 0), (.int .i64 0), (.int .i64 0), (.int .i64 0), (.int .i64 6)])
  (.ite (.or (.cmp .lt (.var 7) (.int .i64 0)) (.or (.cmp .gt (.var 7) (.int .i64 1000)) (.cmp .gt (.ar .add .i64 (.sel (.econs (.var 0) (.econs (.var 1) (.econs (.var 2) (.econs (.var 3) (.econs (.var 4) (.econs (.var 5) .enil)))))) (.var 6) (.int .i64)) (.var 7)) (.int .i64 1000))))
   (.ret [(.int .i64 0), (.int .i64 0), (.int .i64 0), (.int .i64 0), (.int .i64 0), (.int .i64 0), (.int .i64 1)])
   (.ret [(.ite (.cmp .eq (.var 6) (.int .i64 0)) (.ar .add .i64 (.sel (.econs (.var 0) (.econs (.var 1) (.econs (.var 2) (.econs (.var 3) (.econs (.var 4) (.econs (.var 5) .enil)))))) (.var 6) (.int .i64)) (.var 7)) (.var 0)), (.ite (.cmp .eq (.var 6) (.int .i64 1)) (.ar .add .i64 (.sel (.econs (.var 0) (.econs (.var 1) (.econs (.var 2) (.econs (.var 3) (.econs (.var 4) (.econs (.var 5) .enil)))))) (.var 6) (.int .i64)) (.var 7)) (.var 1)), (.ite (.cmp .eq (.var 6) (.int .i64 2)) (.ar .add .i64 (.sel (.econs (.var 0) (.econs (.var 1) (.econs (.var 2) (.econs (.var 3) (.econs (.var 4) (.econs (.var 5) .enil)))))) (.var 6) (.int .i64)) (.var 7)) (.var 2)), (.ite (.cmp .eq (.var 6) (.int .i64 3)) (.ar .add .i64 (.sel (.econs (.var 0) (.econs (.var 1) (.econs (.var 2) (.econs (.var 3) (.econs (.var 4) (.econs (.var 5) .enil)))))) (.var 6) (.int .i64)) (.var 7)) (.var 3)), (.ite (.cmp .eq (.var 6) (.int .i64 4)) (.ar .add .i64 (.sel (.econs (.var 0) (.econs (.var 1) (.econs (.var 2) (.econs (.var 3) (.econs (.var 4) (.econs (.var 5) .enil)))))) (.var 6) (.int .i64)) (.var 7)) (.var 4)), (.ite (.cmp .eq (.var 6) (.int .i64 5)) (.ar .add .i64 (.sel (.econs (.var 0) (.econs (.var 1) (.econs (.var 2) (.econs (.var 3) (.econs (.var 4) (.econs (.var 5) .enil)))))) (.var 6) (.int .i64)) (.var 7)) (.var 5)), (.int .i64 0)])))))
theorem wk_rAdd04 : walk E0.cx (sgsN [(14, sg_rGood04)]) 0 12 sg_rAdd04 = tr_rAdd04 := by kernel_rfl
theorem bo_rAdd04 : ∃ x, bodyOf E0.P 12 = some x := bo_of (by kernel_rfl)
theorem sp_rAdd04_rGood04 : specC [con_rGood04] k_rGood04 = rGood04_s := rfl
def rAdd04_s : Spec := fun ds Q => Q (addL ds ++ [.int .i64 (addN ds)])
theorem rAdd04_h : Holds E0 k_rAdd04 sg_rAdd04 rAdd04_s := con_fn wf0 mix0 g0 [con_rGood04] rfl wk_rAdd04 rfl (by
  intro Φ hΦ ds Q hs h
  have s1 : Φ k_rGood04 = rGood04_s := by rw [hΦ]; rfl
  have h : Q (addL ds ++ [.int .i64 (addN ds)]) := h
  have hl : ds.length = 8 := hs.length.symm
  clear hΦ
  simp only [tr_rAdd04, wp, den_int, den_bool, den_nili, den_ar, den_cmp, den_not, den_len, den_elem, den_isnil, den_errI, den_ifc, den_rep, den_push, den_app, den_emp, den_upd, row0_econs, row0_enil, den_and, den_beq, den_nil, toInt_int, toBool_bool, xs_rows, xs_list, dflt_int, dflt_bool, of_eq, of_ne, of_lt, of_le, of_gt, of_ge, of_add, of_sub, of_rem, List.map_cons, List.map_nil, Dat.bool.injEq, decide_eq_true_eq, decide_eq_false_iff_not, Bool.not_eq_true', Bool.not_eq_false', beq_iff_eq, bne_iff_ne, beq_eq_false_iff_ne, bne_eq_false_iff_eq, ne_eq, List.append_assoc, List.cons_append, List.nil_append, allS, s1, rGood04_s, @den_var0 E0.Δ ds, den_varA, den_varB, hl, Nat.reduceLT, Nat.reduceLeDiff, Nat.reduceSub, List.getD_cons_zero, List.getD_cons_succ, argL_fold ds, argI_fold ds, List.append_assoc, List.cons_append, List.nil_append, toInt_int, toBool_bool, xs_rows, xs_list, Int.toNat_natCast, Dat.bool.injEq, den_or, den_sel, row0_econs, row0_enil, den_elem, den_len, @den_var0 E0.Δ ds, den_varA, den_varB, hl, Nat.reduceLT, Nat.reduceLeDiff, Nat.reduceSub, List.getD_cons_zero, List.getD_cons_succ, argL_fold ds, argI_fold ds, List.append_assoc, List.cons_append, List.nil_append, toInt_int, toBool_bool, xs_rows, xs_list, Int.toNat_natCast, Dat.bool.injEq, den_ite, ite_dati]
  obtain ⟨l, hl', rfl⟩ := ints_of (n := 8) hs
  match l, hl' with
  | [a0, a1, a2, a3, a4, a5, c, n], _ =>
  have eg : goodC (([a0, a1, a2, a3, a4, a5]).map (Dat.int .i64)) = goodC (([a0, a1, a2, a3, a4, a5, c, n]).map (Dat.int .i64)) := rfl
  simp only [List.map_cons, List.map_nil, List.getD_cons_zero, List.getD_cons_succ] at eg ⊢
  rw [eg]
  have ec : argI [Dat.int IntKind.i64 a0, Dat.int IntKind.i64 a1, Dat.int IntKind.i64 a2, Dat.int IntKind.i64 a3, Dat.int IntKind.i64 a4, Dat.int IntKind.i64 a5, Dat.int IntKind.i64 c, Dat.int IntKind.i64 n] 6 = c := rfl
  have en : argI [Dat.int IntKind.i64 a0, Dat.int IntKind.i64 a1, Dat.int IntKind.i64 a2, Dat.int IntKind.i64 a3, Dat.int IntKind.i64 a4, Dat.int IntKind.i64 a5, Dat.int IntKind.i64 c, Dat.int IntKind.i64 n] 7 = n := rfl
  have ep : ∀ k, ([Dat.int IntKind.i64 a0, Dat.int IntKind.i64 a1, Dat.int IntKind.i64 a2, Dat.int IntKind.i64 a3, Dat.int IntKind.i64 a4, Dat.int IntKind.i64 a5].getD k (Dat.int .i64 0)).toInt = [a0, a1, a2, a3, a4, a5].getD k 0 := getD_int [a0, a1, a2, a3, a4, a5]
  rw [ec, en, ep]
  simp only [ite_int]
  refine ⟨fun hg => ?_, fun hg => ⟨fun hc => ?_, fun hc => ⟨fun hn => ?_, fun hn => ?_⟩⟩⟩
  · have h0 := addN_2 hg
    rw [addL_bad (by erw [h0]; decide)] at h
    erw [h0] at h
    exact h
  · have h0 := addN_6 hg (by rw [ec]; rw [Bool.or_eq_true, decide_eq_true_eq, decide_eq_true_eq] at hc; exact hc)
    rw [addL_bad (by erw [h0]; decide)] at h
    erw [h0] at h
    exact h
  · obtain ⟨g1, g2, g3, g4⟩ := get_bnd hg hc
    have h0 := addN_1 hg g4 (by
      rw [Bool.or_eq_true, Bool.or_eq_true, decide_eq_true_eq, decide_eq_true_eq, decide_eq_true_eq] at hn
      show n < 0 ∨ 1000 < argI _ c.toNat + n
      rw [show argI [Dat.int IntKind.i64 a0, Dat.int IntKind.i64 a1, Dat.int IntKind.i64 a2, Dat.int IntKind.i64 a3, Dat.int IntKind.i64 a4, Dat.int IntKind.i64 a5, Dat.int IntKind.i64 c, Dat.int IntKind.i64 n] c.toNat = _ from g3]
      rcases hn with hn | hn | hn
      · omega
      · omega
      · by_cases hx : n < 0 ∨ 1000 < n
        · omega
        · rw [wrap64 (by omega) (by omega)] at hn; omega)
    rw [addL_bad (by erw [h0]; decide)] at h
    erw [h0] at h
    exact h
  · obtain ⟨g1, g2, g3, g4⟩ := get_bnd hg hc
    have hn' : ¬ (n < 0 ∨ 1000 < [a0, a1, a2, a3, a4, a5].getD c.toNat 0 + n) := by
      rw [Bool.or_eq_false_iff, Bool.or_eq_false_iff, decide_eq_false_iff_not, decide_eq_false_iff_not, decide_eq_false_iff_not] at hn
      obtain ⟨n1, n2, n3⟩ := hn
      rw [wrap64 (by omega) (by omega)] at n3
      omega
    have h0 := addN_0 hg g4 (by
      show ¬ (n < 0 ∨ 1000 < argI _ c.toNat + n)
      rw [show argI [Dat.int IntKind.i64 a0, Dat.int IntKind.i64 a1, Dat.int IntKind.i64 a2, Dat.int IntKind.i64 a3, Dat.int IntKind.i64 a4, Dat.int IntKind.i64 a5, Dat.int IntKind.i64 c, Dat.int IntKind.i64 n] c.toNat = _ from g3]; exact hn')
    erw [h0] at h
    exact add_end (R := fun l => Q (l ++ [.int .i64 0])) hg hc hn' h)
noncomputable def con_rAdd04 : Con E0 := ⟨k_rAdd04, sg_rAdd04, rAdd04_s, rfl, bo_rAdd04, rAdd04_h⟩
def k_mLetter : Nat := 16
def sg_mLetter : Sig := ⟨[(false, [.int .i64])], [(false, [.int .u8])], false, false, true, false, false⟩
def tr_mLetter : Tree := (.ite (.or (.cmp .lt (.var 0) (.int .i64 0)) (.cmp .ge (.var 0) (.int .i64 5)))
 (.ret [(.int .u8 0)])
 (.ob (.cmp .lt (.var 0) (.slen (.str [87, 85, 66, 82, 71])))
 (.ret [(.sidx (.str [87, 85, 66, 82, 71]) (.var 0))])))
theorem wk_mLetter : walk E0.cx (sgsN []) 0 16 sg_mLetter = tr_mLetter := by kernel_rfl
theorem bo_mLetter : ∃ x, bodyOf E0.P 16 = some x := bo_of (by kernel_rfl)
def letN (k : Int) : Int := if k < 0 ∨ 5 ≤ k then 0 else ([87, 85, 66, 82, 71] : List Int).getD k.toNat 0
def mLetter_s : Spec := fun ds Q => Q [.int .u8 (letN (argI ds 0))]
theorem mLetter_h : Holds E0 k_mLetter sg_mLetter mLetter_s := con_fn wf0 mix0 g0 [] rfl wk_mLetter rfl (by
  intro Φ hΦ ds Q hs h
  have hl : ds.length = 1 := hs.length.symm
  have h : Q [.int .u8 (letN (argI ds 0))] := h
  clear hΦ
  simp only [tr_mLetter, wp, den_int, den_bool, den_nili, den_ar, den_cmp, den_not, den_len, den_elem, den_isnil, den_errI, den_ifc, den_rep, den_push, den_app, den_emp, den_upd, row0_econs, row0_enil, den_and, den_beq, den_nil, toInt_int, toBool_bool, xs_rows, xs_list, dflt_int, dflt_bool, of_eq, of_ne, of_lt, of_le, of_gt, of_ge, of_add, of_sub, of_rem, List.map_cons, List.map_nil, Dat.bool.injEq, decide_eq_true_eq, decide_eq_false_iff_not, Bool.not_eq_true', Bool.not_eq_false', beq_iff_eq, bne_iff_ne, beq_eq_false_iff_ne, bne_eq_false_iff_eq, ne_eq, List.append_assoc, List.cons_append, List.nil_append, allS, @den_var0 E0.Δ ds, den_varA, den_varB, hl, Nat.reduceLT, Nat.reduceLeDiff, Nat.reduceSub, List.getD_cons_zero, List.getD_cons_succ, argL_fold ds, argI_fold ds, List.append_assoc, List.cons_append, List.nil_append, toInt_int, toBool_bool, xs_rows, xs_list, Int.toNat_natCast, Dat.bool.injEq, den_or, den_strl, den_slenV]
  refine ⟨fun hb => ?_, fun hb => ?_⟩
  · have e : letN (argI ds 0) = 0 := by unfold letN; rw [Bool.or_eq_true, decide_eq_true_eq, decide_eq_true_eq] at hb; rw [if_pos hb]
    rw [e] at h; exact h
  · rw [Bool.or_eq_false_iff, decide_eq_false_iff_not, decide_eq_false_iff_not] at hb
    have hv : (den E0.Δ ds (.var 0)).toInt = argI ds 0 := by
      match ds, hl with
      | [x], _ => rfl
    obtain ⟨k, hk, hk2⟩ : ∃ k : Nat, k < 5 ∧ argI ds 0 = k := ⟨(argI ds 0).toNat, by omega, by omega⟩
    have key : ∀ n : Int, argI ds 0 = n → (den E0.Δ ds ((Tm.str [87, 85, 66, 82, 71]).sidx (Tm.var 0))) = .int .u8 ((strD (strV [87, 85, 66, 82, 71])).data.getD n.toNat 0).toNat := fun n hn => by
      subst hn; rw [← hv]; rfl
    rw [key _ hk2]
    rw [hk2] at h ⊢
    match k, hk with
    | 0, _ | 1, _ | 2, _ | 3, _ | 4, _ => exact ⟨by decide, h⟩)
noncomputable def con_mLetter : Con E0 := ⟨k_mLetter, sg_mLetter, mLetter_s, rfl, bo_mLetter, mLetter_h⟩
theorem den_varc {Δ : Tab} (ρ : List Dat) (i : Nat) : den Δ ρ (.var i) = ρ.getD i (.bool false) := rfl
theorem let_den {Δ : Tab} (ρ : List Dat) : (den Δ ρ (.ite (.and (.cmp .ge (.var 6) (.int .i64 0)) (.cmp .lt (.var 6) (.int .i64 5))) (.sidx (.str [87, 85, 66, 82, 71]) (.var 6)) (.int .u8 0))).toInt = letN (ρ.getD 6 (.bool false)).toInt := by
  have e : den Δ ρ (.ite (.and (.cmp .ge (.var 6) (.int .i64 0)) (.cmp .lt (.var 6) (.int .i64 5))) (.sidx (.str [87, 85, 66, 82, 71]) (.var 6)) (.int .u8 0)) = if (decide ((ρ.getD 6 (.bool false)).toInt ≥ 0) && decide ((ρ.getD 6 (.bool false)).toInt < 5)) = true then .int .u8 ((strD (strV [87, 85, 66, 82, 71])).data.getD (ρ.getD 6 (.bool false)).toInt.toNat 0).toNat else .int .u8 0 := rfl
  rw [e]
  generalize (ρ.getD 6 (.bool false)).toInt = c
  unfold letN
  by_cases h : c < 0 ∨ 5 ≤ c
  · rw [if_pos h, if_neg (by rw [Bool.and_eq_true, decide_eq_true_eq, decide_eq_true_eq]; omega)]; rfl
  · rw [if_neg h, if_pos (by rw [Bool.and_eq_true, decide_eq_true_eq, decide_eq_true_eq]; omega)]
    obtain ⟨k, hk, rfl⟩ : ∃ k : Nat, k < 5 ∧ c = k := ⟨c.toNat, by omega, by omega⟩
    match k, hk with
    | 0, _ | 1, _ | 2, _ | 3, _ | 4, _ => rfl
def k_ladds : Nat := 4
def sg_ladds : Sig := ⟨[(true, List.replicate 6 (.int .i64)), (false, [.int .i64]), (false, [.int .i64])], [(false, [.bool])], false, true, true, false, false⟩
def tr_ladds : Tree := (.call k_alive04 [] [.bool]
(.ite (.not (.var 8))
 (.ret [(.bool false)])
 (.call k_mAdd [(.var 0), (.var 1), (.var 2), (.var 3), (.var 4), (.var 5), (.var 6), (.var 7)] [(.int .i64), (.int .i64), (.int .i64), (.int .i64), (.int .i64), (.int .i64), .err]
 (.call k_rAdd04 [(.var 0), (.var 1), (.var 2), (.var 3), (.var 4), (.var 5), (.var 6), (.var 7)] [(.int .i64), (.int .i64), (.int .i64), (.int .i64), (.int .i64), (.int .i64), (.int .i64)]
 (.ob (.or (.not (.and (.cmp .ge (.var 6) (.int .i64 0)) (.cmp .lt (.var 6) (.int .i64 5)))) (.cmp .ge (.var 6) (.int .i64 0)))
 (.ob (.or (.not (.and (.cmp .ge (.var 6) (.int .i64 0)) (.cmp .lt (.var 6) (.int .i64 5)))) (.cmp .lt (.var 6) (.slen (.str [87, 85, 66, 82, 71]))))
 (.call k_mGood [(.var 0), (.var 1), (.var 2), (.var 3), (.var 4), (.var 5)] [.bool]
 (.call k_rGood04 [(.var 0), (.var 1), (.var 2), (.var 3), (.var 4), (.var 5)] [.bool]
 (.ite (.beq (.var 23) (.var 24))
  (.call k_mTotal [(.var 0), (.var 1), (.var 2), (.var 3), (.var 4), (.var 5)] [(.int .i64)]
  (.ite (.cmp .eq (.var 25) (.ar .add .i64 (.ar .add .i64 (.ar .add .i64 (.ar .add .i64 (.ar .add .i64 (.ar .add .i64 (.int .i64 0) (.var 0)) (.var 1)) (.var 2)) (.var 3)) (.var 4)) (.var 5)))
   (.ite (.and (.cmp .eq (.var 9) (.var 16)) (.and (.cmp .eq (.var 10) (.var 17)) (.and (.cmp .eq (.var 11) (.var 18)) (.and (.cmp .eq (.var 12) (.var 19)) (.and (.cmp .eq (.var 13) (.var 20)) (.cmp .eq (.var 14) (.var 21)))))))
    (.call k_Num [(.var 15)] [(.int .i64)]
    (.ite (.cmp .eq (.var 26) (.var 22))
     (.call k_mLetter [(.var 6)] [(.int .u8)]
     (.ret [(.cmp .eq (.var 27) (.ite (.and (.cmp .ge (.var 6) (.int .i64 0)) (.cmp .lt (.var 6) (.int .i64 5))) (.sidx (.str [87, 85, 66, 82, 71]) (.var 6)) (.int .u8 0)))]))
     (.ret [(.bool false)])))
    (.ret [(.bool false)]))
   (.ret [(.bool false)])))
  (.ret [(.bool false)]))))))))))
theorem wk_ladds : walk E0.cx (sgsN [(7, sg_alive04), (11, sg_mAdd), (12, sg_rAdd04), (13, sg_mGood), (14, sg_rGood04), (15, sg_mTotal), (16, sg_mLetter), (10, sg_Num)]) 0 4 sg_ladds = tr_ladds := by kernel_rfl
theorem bo_ladds : ∃ x, bodyOf E0.P 4 = some x := bo_of (by kernel_rfl)
theorem sp_ladds_alive04 : specC [con_alive04, con_mAdd, con_rAdd04, con_mGood, con_rGood04, con_mTotal, con_mLetter, con_Num] k_alive04 = alive04_s := rfl
theorem sp_ladds_mAdd : specC [con_alive04, con_mAdd, con_rAdd04, con_mGood, con_rGood04, con_mTotal, con_mLetter, con_Num] k_mAdd = mAdd_s := rfl
theorem sp_ladds_rAdd04 : specC [con_alive04, con_mAdd, con_rAdd04, con_mGood, con_rGood04, con_mTotal, con_mLetter, con_Num] k_rAdd04 = rAdd04_s := rfl
theorem sp_ladds_mGood : specC [con_alive04, con_mAdd, con_rAdd04, con_mGood, con_rGood04, con_mTotal, con_mLetter, con_Num] k_mGood = mGood_s := rfl
theorem sp_ladds_rGood04 : specC [con_alive04, con_mAdd, con_rAdd04, con_mGood, con_rGood04, con_mTotal, con_mLetter, con_Num] k_rGood04 = rGood04_s := rfl
theorem sp_ladds_mTotal : specC [con_alive04, con_mAdd, con_rAdd04, con_mGood, con_rGood04, con_mTotal, con_mLetter, con_Num] k_mTotal = mTotal_s := rfl
theorem sp_ladds_mLetter : specC [con_alive04, con_mAdd, con_rAdd04, con_mGood, con_rGood04, con_mTotal, con_mLetter, con_Num] k_mLetter = mLetter_s := rfl
theorem sp_ladds_Num : specC [con_alive04, con_mAdd, con_rAdd04, con_mGood, con_rGood04, con_mTotal, con_mLetter, con_Num] k_Num = Num_s := rfl
def ladds_s : Spec := law_s
theorem ladds_h : Holds E0 k_ladds sg_ladds ladds_s := con_fn wf0 mix0 g0 [con_alive04, con_mAdd, con_rAdd04, con_mGood, con_rGood04, con_mTotal, con_mLetter, con_Num] rfl wk_ladds rfl (by
  intro Φ hΦ ds Q hs ⟨hin, h⟩
  have hl : ds.length = 8 := hs.length.symm
  have s1 : Φ k_alive04 = alive04_s := by rw [hΦ]; rfl
  have s2 : Φ k_mAdd = mAdd_s := by rw [hΦ]; rfl
  have s3 : Φ k_rAdd04 = rAdd04_s := by rw [hΦ]; rfl
  have s4 : Φ k_Num = Num_s := by rw [hΦ]; rfl
  have s5 : Φ k_mGood = mGood_s := by rw [hΦ]; rfl
  have s6 : Φ k_rGood04 = rGood04_s := by rw [hΦ]; rfl
  have s7 : Φ k_mTotal = mTotal_s := by rw [hΦ]; rfl
  have s8 : Φ k_mLetter = mLetter_s := by rw [hΦ]; rfl
  clear hΦ
  have s2' : Φ k_mAdd = fun ds Q => Q [.int .i64 (addC ds 0), .int .i64 (addC ds 1), .int .i64 (addC ds 2), .int .i64 (addC ds 3), .int .i64 (addC ds 4), .int .i64 (addC ds 5), errV (addN ds)] := s2
  have s3' : Φ k_rAdd04 = fun ds Q => Q [.int .i64 (addC ds 0), .int .i64 (addC ds 1), .int .i64 (addC ds 2), .int .i64 (addC ds 3), .int .i64 (addC ds 4), .int .i64 (addC ds 5), .int .i64 (addN ds)] := s3
  simp only [tr_ladds, wp, den_int, den_bool, den_nili, den_ar, den_cmp, den_not, den_len, den_elem, den_isnil, den_errI, den_ifc, den_rep, den_push, den_app, den_emp, den_upd, row0_econs, row0_enil, den_and, den_beq, den_nil, toInt_int, toBool_bool, xs_rows, xs_list, dflt_int, dflt_bool, of_eq, of_ne, of_lt, of_le, of_gt, of_ge, of_add, of_sub, of_rem, List.map_cons, List.map_nil, Dat.bool.injEq, decide_eq_true_eq, decide_eq_false_iff_not, Bool.not_eq_true', Bool.not_eq_false', beq_iff_eq, bne_iff_ne, beq_eq_false_iff_ne, bne_eq_false_iff_eq, ne_eq, List.append_assoc, List.cons_append, List.nil_append, allS, s1, s2', s3', s4, s5, s6, s7, s8, alive04_s, mGood_s, rGood04_s, mTotal_s, mLetter_s, Num_s, @den_var0 E0.Δ ds, den_varA, den_varB, hl, Nat.reduceLT, Nat.reduceLeDiff, Nat.reduceSub, List.getD_cons_zero, List.getD_cons_succ, argL_fold ds, argI_fold ds, List.append_assoc, List.cons_append, List.nil_append, toInt_int, toBool_bool, xs_rows, xs_list, Int.toNat_natCast, Dat.bool.injEq, List.getD_cons_zero, List.getD_cons_succ, List.cons_append, List.nil_append, den_or, den_and]
  have eds : [ds.getD 0 (Dat.bool false), ds.getD 1 (Dat.bool false), ds.getD 2 (Dat.bool false), ds.getD 3 (Dat.bool false), ds.getD 4 (Dat.bool false), ds.getD 5 (Dat.bool false), ds.getD 6 (Dat.bool false), ds.getD 7 (Dat.bool false)] = ds := by
    match ds, hl with
    | [_, _, _, _, _, _, _, _], _ => rfl
  simp only [eds, beq_self_eq_true, Bool.and_self, den_slenV, den_strl, List.map_cons, List.map_nil]
  have et : ∀ r : List Dat, ((ds ++ r).getD 6 (.bool false)).toInt = argI ds 6 := fun r => by
    match ds, hl with
    | [_, _, _, _, _, _, _, _], _ => rfl
  have e6 : argI [ds.getD 6 (Dat.bool false)] 0 = argI ds 6 := by
    match ds, hl with
    | [_, _, _, _, _, _, _, _], _ => rfl
  have ek : totC [ds.getD 0 (Dat.bool false), ds.getD 1 (Dat.bool false), ds.getD 2 (Dat.bool false), ds.getD 3 (Dat.bool false), ds.getD 4 (Dat.bool false), ds.getD 5 (Dat.bool false)] = totC ds := by
    match ds, hl with
    | [_, _, _, _, _, _, _, _], _ => rfl
  rw [ek, e6]
  refine ⟨fun h => Bool.noConfusion h, fun _ => ⟨?_, ?_, fun _ => ⟨fun _ => ⟨fun _ => ⟨addN ds, rfl, fun _ => ?_, fun hx => absurd rfl hx⟩, fun hx => Bool.noConfusion hx⟩, fun hx => absurd rfl hx⟩, fun hx => absurd trivial hx⟩⟩
  · cases h1 : decide (0 ≤ argI ds 6) <;> simp
  · by_cases h1 : argI ds 6 < 5
    · have h2 : argI ds 6 < (Dat.int IntKind.i64 ((strD (strV [UInt8.ofNat 87, UInt8.ofNat 85, UInt8.ofNat 66, UInt8.ofNat 82, UInt8.ofNat 71])).size : Int)).toInt := h1
      rw [decide_eq_true h2, Bool.or_true]
    · rw [decide_eq_false h1, Bool.and_false]; rfl
  · rw [let_den, et, beq_self_eq_true]
    exact h)
noncomputable def con_ladds : Con E0 := ⟨k_ladds, sg_ladds, ladds_s, rfl, bo_ladds, ladds_h⟩
end Go.Proofs.YtfpgbdefopbfbaaDoor
end
