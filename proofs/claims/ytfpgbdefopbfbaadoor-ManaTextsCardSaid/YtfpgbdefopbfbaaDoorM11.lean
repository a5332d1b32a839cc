import Derived.Test.YtfpgbdefopbfbaaDoorM10
import Derived.Test.YtfpgbdefopbfbaaDoorM7

set_option linter.unusedVariables false
set_option linter.unusedSimpArgs false

section
namespace Go.Proofs.YtfpgbdefopbfbaaDoor
open Go.RowKit
set_option linter.unusedVariables false
set_option linter.unusedSimpArgs false

theorem rep_snoc (c : UInt8) : ∀ n, Lib.repeatL [c] (n + 1) = Lib.repeatL [c] n ++ [c]
  | 0 => rfl
  | n + 1 => by
    show [c] ++ Lib.repeatL [c] (n + 1) = ([c] ++ Lib.repeatL [c] n) ++ [c]
    rw [rep_snoc c n, List.append_assoc]
theorem loop_toList (b : ByteArray) : ∀ (n i : Nat) (r : List UInt8), b.size - i = n → ByteArray.toList.loop b i r = r.reverse ++ b.data.toList.drop i
  | 0, i, r, h => by
    unfold ByteArray.toList.loop
    have hs : b.data.toList.length = b.size := Array.length_toList
    rw [if_neg (by omega), List.drop_of_length_le (by omega), List.append_nil]
  | n + 1, i, r, h => by
    unfold ByteArray.toList.loop
    have hs : b.data.toList.length = b.size := Array.length_toList
    have hi : i < b.data.toList.length := by omega
    rw [if_pos (by omega), loop_toList b n (i + 1) _ (by omega), List.drop_eq_getElem_cons hi]
    have : b.get! i = b.data.toList[i] := by
      have : i < b.data.size := by simpa using hi
      simp only [ByteArray.get!]
      rw [Array.getElem_toList, getElem!_pos b.data i this]
    rw [this]
    simp
theorem toList_data (b : ByteArray) : b.toList = b.data.toList := (loop_toList b _ 0 [] rfl).trans (by simp)
theorem toList_V (l : List UInt8) : (strD (strV l)).toList = l := by
  rw [strD_V, toList_data]
theorem textN_bad {ds : List Dat} (h : goodC ds = false) : textN ds = 2 ∧ textL ds = [] := by
  have e : textN ds = 2 := by unfold textN; rw [if_pos h]
  exact ⟨e, by unfold textL; rw [e, if_neg (by decide)]⟩
theorem textN_long {ds : List Dat} (h : goodC ds = true) (hl : longC ds = true) : textN ds = 3 ∧ textL ds = [] := by
  have e : textN ds = 3 := by unfold textN; rw [if_neg (by rw [h]; decide), if_pos hl]
  exact ⟨e, by unfold textL; rw [e, if_neg (by decide)]⟩
theorem textN_ok {ds : List Dat} (h : goodC ds = true) (hl : ¬ longC ds = true) : textN ds = 0 ∧ textL ds = textA ds := by
  have e : textN ds = 0 := by unfold textN; rw [if_neg (by rw [h]; decide), if_neg hl]
  exact ⟨e, by unfold textL; rw [e, if_pos rfl]⟩
def LoopS (T : Nat) (pre : List UInt8) (c : UInt8) : List Dat → Nat → Prop := fun xs m => ∃ (k : Nat) (rest : List Dat), k ≤ T ∧ m = T - k ∧ xs = strV (pre ++ Lib.repeatL [c] k) :: .int .i64 k :: rest
theorem LoopS_start (T : Nat) (pre : List UInt8) (c : UInt8) (rest : List Dat) : ∃ m, LoopS T pre c (strV pre :: .int .i64 0 :: rest) m :=
  ⟨T, 0, rest, by omega, rfl, by show _ = strV (pre ++ []) :: _; rw [List.append_nil]; rfl⟩
theorem LoopS_step {T : Nat} {pre : List UInt8} {c : UInt8} {k m : Nat} {rest : List Dat} (hk : k < T) (hT : T ≤ 1000) (hp : pre.length ≤ 10000) (hm : m = T - k) :
    ((strD (Dat.val (Value.string (strD (strV (pre ++ Lib.repeatL [c] k)) ++ strD (strV [c]))))).size : Int) ≤ 9223372036854775807 ∧
    ∃ m', m' < m ∧ LoopS T pre c (Dat.val (Value.string (strD (strV (pre ++ Lib.repeatL [c] k)) ++ strD (strV [c]))) :: .int .i64 (IntKind.i64.wrap ((k : Int) + 1)) :: rest) m' := by
  rw [sapp_V, size_V]
  refine ⟨?_, T - (k + 1), by omega, k + 1, rest, by omega, rfl, ?_⟩
  · rw [List.length_append, List.length_append, rep_len, List.length_cons, List.length_nil]; omega
  · rw [wrap64 (by omega) (by omega), rep_snoc, List.append_assoc]; rfl
def k_rText04 : Nat := 9
def sg_rText04 : Sig := ⟨[(true, List.replicate 6 (.int .i64))], [(false, [.str]), (false, [.int .i64])], false, true, true, false, false⟩
def tr_rText04_1 : Tree := (.ite (.cmp .lt (.var 28) (.var 4)) (.ob (.cmp .le (.slen (.sapp (.var 27) (.str [71]))) (.int .i64 9223372036854775807)) (.again 4 [(.sapp (.var 27) (.str [71])), (.ar .add .i64 (.var 28) (.int .i64 1)), (.var 28), (.int .i64 4), (.var 4), (.cmp .lt (.var 28) (.var 4))])) (.ite (.or (.cmp .gt (.var 5) (.int .i64 0)) (.seq (.var 27) (.str []))) (.call k_figs [(.var 5)] [.str] (.ob (.cmp .le (.slen (.sapp (.var 33) (.var 27))) (.int .i64 9223372036854775807)) (.ret [(.sapp (.var 33) (.var 27)), (.int .i64 0)]))) (.ret [(.var 27), (.int .i64 0)])))
def tr_rText04_2 : Tree := (.ite (.cmp .lt (.var 22) (.var 3)) (.ob (.cmp .le (.slen (.sapp (.var 21) (.str [82]))) (.int .i64 9223372036854775807)) (.again 3 [(.sapp (.var 21) (.str [82])), (.ar .add .i64 (.var 22) (.int .i64 1)), (.var 22), (.int .i64 3), (.var 3), (.cmp .lt (.var 22) (.var 3))])) (.ite (.cmp .gt (.var 4) (.int .i64 20)) (.ret [(.str []), (.int .i64 3)]) (.loop [(.var 21), (.int .i64 0), (.var 22), (.int .i64 3), (.var 3), (.cmp .lt (.var 22) (.var 3))] [.str, (.int .i64), (.int .i64), (.int .i64), (.int .i64), .bool] tr_rText04_1)))
def tr_rText04_3 : Tree := (.ite (.cmp .lt (.var 16) (.var 2)) (.ob (.cmp .le (.slen (.sapp (.var 15) (.str [66]))) (.int .i64 9223372036854775807)) (.again 2 [(.sapp (.var 15) (.str [66])), (.ar .add .i64 (.var 16) (.int .i64 1)), (.var 16), (.int .i64 2), (.var 2), (.cmp .lt (.var 16) (.var 2))])) (.ite (.cmp .gt (.var 3) (.int .i64 20)) (.ret [(.str []), (.int .i64 3)]) (.loop [(.var 15), (.int .i64 0), (.var 16), (.int .i64 2), (.var 2), (.cmp .lt (.var 16) (.var 2))] [.str, (.int .i64), (.int .i64), (.int .i64), (.int .i64), .bool] tr_rText04_2)))
def tr_rText04_4 : Tree := (.ite (.cmp .lt (.var 10) (.var 1)) (.ob (.cmp .le (.slen (.sapp (.var 9) (.str [85]))) (.int .i64 9223372036854775807)) (.again 1 [(.sapp (.var 9) (.str [85])), (.ar .add .i64 (.var 10) (.int .i64 1)), (.var 10), (.int .i64 1), (.var 1), (.cmp .lt (.var 10) (.var 1))])) (.ite (.cmp .gt (.var 2) (.int .i64 20)) (.ret [(.str []), (.int .i64 3)]) (.loop [(.var 9), (.int .i64 0), (.var 10), (.int .i64 1), (.var 1), (.cmp .lt (.var 10) (.var 1))] [.str, (.int .i64), (.int .i64), (.int .i64), (.int .i64), .bool] tr_rText04_3)))
def tr_rText04_5 : Tree := (.ite (.cmp .lt (.var 8) (.var 0)) (.ob (.cmp .le (.slen (.sapp (.var 7) (.str [87]))) (.int .i64 9223372036854775807)) (.again 0 [(.sapp (.var 7) (.str [87])), (.ar .add .i64 (.var 8) (.int .i64 1))])) (.ite (.cmp .gt (.var 1) (.int .i64 20)) (.ret [(.str []), (.int .i64 3)]) (.loop [(.var 7), (.int .i64 0), (.var 8), (.int .i64 0), (.var 0), (.cmp .lt (.var 8) (.var 0))] [.str, (.int .i64), (.int .i64), (.int .i64), (.int .i64), .bool] tr_rText04_4)))
def tr_rText04 : Tree := (.call k_rGood04 [(.var 0), (.var 1), (.var 2), (.var 3), (.var 4), (.var 5)] [.bool] (.ite (.not (.var 6)) (.ret [(.str []), (.int .i64 2)]) (.ite (.cmp .gt (.var 0) (.int .i64 20)) (.ret [(.str []), (.int .i64 3)]) (.loop [(.str []), (.int .i64 0)] [.str, (.int .i64)] tr_rText04_5))))
theorem wk_rText04 : walk E0.cx (sgsN [(14, sg_rGood04), (24, sg_figs)]) 0 9 sg_rText04 = tr_rText04 := by kernel_rfl
theorem bo_rText04 : ∃ x, bodyOf E0.P 9 = some x := bo_of (by kernel_rfl)
theorem sp_rText04_rGood04 : specC [con_rGood04, con_figs] k_rGood04 = rGood04_s := rfl
theorem sp_rText04_figs : specC [con_rGood04, con_figs] k_figs = figs_s := rfl
def rText04_s : Spec := fun ds Q => Q [strV (textL ds), .int .i64 (textN ds)]
theorem rText04_h : Holds E0 k_rText04 sg_rText04 rText04_s := con_fn wf0 mix0 g0 [con_rGood04, con_figs] rfl wk_rText04 rfl (by
  intro Φ hΦ ds Q hs h
  have hl : ds.length = 6 := hs.length.symm
  have h : Q [strV (textL ds), .int .i64 (textN ds)] := h
  have s1 : Φ k_rGood04 = rGood04_s := by rw [hΦ]; rfl
  have s2 : Φ k_figs = figs_s := by rw [hΦ]; rfl
  clear hΦ
  simp only [tr_rText04, tr_rText04_1, tr_rText04_2, tr_rText04_3, tr_rText04_4, tr_rText04_5, wp, den_int, den_bool, den_nili, den_ar, den_cmp, den_not, den_len, den_elem, den_isnil, den_errI, den_ifc, den_rep, den_push, den_app, den_emp, den_upd, row0_econs, row0_enil, den_and, den_beq, den_nil, toInt_int, toBool_bool, xs_rows, xs_list, dflt_int, dflt_bool, of_eq, of_ne, of_lt, of_le, of_gt, of_ge, of_add, of_sub, of_rem, List.map_cons, List.map_nil, Dat.bool.injEq, decide_eq_true_eq, decide_eq_false_iff_not, Bool.not_eq_true', Bool.not_eq_false', beq_iff_eq, bne_iff_ne, beq_eq_false_iff_ne, bne_eq_false_iff_eq, ne_eq, List.append_assoc, List.cons_append, List.nil_append, allS, s1, s2, rGood04_s, figs_s, @den_var0 E0.Δ ds, den_varA, den_varB, hl, Nat.reduceLT, Nat.reduceLeDiff, Nat.reduceSub, List.getD_cons_zero, List.getD_cons_succ, argL_fold ds, argI_fold ds, List.append_assoc, List.cons_append, List.nil_append, toInt_int, toBool_bool, xs_rows, xs_list, Int.toNat_natCast, Dat.bool.injEq, den_or, den_sapp, den_strl, den_slenV, den_seqV, sapp_V, size_V, List.map_cons, List.map_nil]
  have eg : goodC [ds.getD 0 (Dat.bool false), ds.getD 1 (Dat.bool false), ds.getD 2 (Dat.bool false), ds.getD 3 (Dat.bool false), ds.getD 4 (Dat.bool false), ds.getD 5 (Dat.bool false)] = goodC ds := by
    match ds, hl with
    | [_, _, _, _, _, _], _ => rfl
  rw [eg]
  refine ⟨fun hg => ?_, fun hg => ?_⟩
  · rw [(textN_bad hg).1, (textN_bad hg).2] at h; exact h
  have gd := goodC_t.1 hg
  have g0 := gd 0 (by omega)
  have g1 := gd 1 (by omega)
  have g2 := gd 2 (by omega)
  have g3 := gd 3 (by omega)
  have g4 := gd 4 (by omega)
  have g5 := gd 5 (by omega)
  have hlong : longC ds = true → Q [strV [], .int .i64 3] := fun hx => by rw [(textN_long hg hx).1, (textN_long hg hx).2] at h; exact h
  have hok : ¬ longC ds = true → Q [strV (textA ds), .int .i64 0] := fun hx => by rw [(textN_ok hg hx).1, (textN_ok hg hx).2] at h; exact h
  clear h gd
  refine ⟨fun hx => hlong (longC_t.2 (Or.inl hx)), fun x0 => ?_⟩
  refine ⟨LoopS (argI ds 0).toNat (([] : List UInt8)) 87, LoopS_start _ _ _ _, ?_⟩
  rintro d0 hd0 n0 m0 ⟨k0, _, hk0, hm0, e0⟩
  cases e0
  refine ⟨fun hlt => LoopS_step (by omega) (by omega) (by simp only [List.length_append, List.length_nil, rep_len]; omega) hm0, fun hge0 => ?_⟩
  obtain rfl : k0 = (argI ds 0).toNat := by omega
  refine ⟨fun hx => hlong (longC_t.2 (Or.inr (Or.inl hx))), fun x1 => ?_⟩
  refine ⟨LoopS (argI ds 1).toNat (([] : List UInt8) ++ Lib.repeatL [87] (argI ds 0).toNat) 85, LoopS_start _ _ _ _, ?_⟩
  rintro d1 hd1 n1 _ _ _ _ m1 ⟨k1, _, hk1, hm1, e1⟩
  cases e1
  refine ⟨fun hlt => LoopS_step (by omega) (by omega) (by simp only [List.length_append, List.length_nil, rep_len]; omega) hm1, fun hge1 => ?_⟩
  obtain rfl : k1 = (argI ds 1).toNat := by omega
  refine ⟨fun hx => hlong (longC_t.2 (Or.inr (Or.inr (Or.inl hx)))), fun x2 => ?_⟩
  refine ⟨LoopS (argI ds 2).toNat (([] : List UInt8) ++ Lib.repeatL [87] (argI ds 0).toNat ++ Lib.repeatL [85] (argI ds 1).toNat) 66, LoopS_start _ _ _ _, ?_⟩
  rintro d2 hd2 n2 _ _ _ _ m2 ⟨k2, _, hk2, hm2, e2⟩
  cases e2
  refine ⟨fun hlt => LoopS_step (by omega) (by omega) (by simp only [List.length_append, List.length_nil, rep_len]; omega) hm2, fun hge2 => ?_⟩
  obtain rfl : k2 = (argI ds 2).toNat := by omega
  refine ⟨fun hx => hlong (longC_t.2 (Or.inr (Or.inr (Or.inr (Or.inl hx))))), fun x3 => ?_⟩
  refine ⟨LoopS (argI ds 3).toNat (([] : List UInt8) ++ Lib.repeatL [87] (argI ds 0).toNat ++ Lib.repeatL [85] (argI ds 1).toNat ++ Lib.repeatL [66] (argI ds 2).toNat) 82, LoopS_start _ _ _ _, ?_⟩
  rintro d3 hd3 n3 _ _ _ _ m3 ⟨k3, _, hk3, hm3, e3⟩
  cases e3
  refine ⟨fun hlt => LoopS_step (by omega) (by omega) (by simp only [List.length_append, List.length_nil, rep_len]; omega) hm3, fun hge3 => ?_⟩
  obtain rfl : k3 = (argI ds 3).toNat := by omega
  refine ⟨fun hx => hlong (longC_t.2 (Or.inr (Or.inr (Or.inr (Or.inr hx))))), fun x4 => ?_⟩
  refine ⟨LoopS (argI ds 4).toNat (([] : List UInt8) ++ Lib.repeatL [87] (argI ds 0).toNat ++ Lib.repeatL [85] (argI ds 1).toNat ++ Lib.repeatL [66] (argI ds 2).toNat ++ Lib.repeatL [82] (argI ds 3).toNat) 71, LoopS_start _ _ _ _, ?_⟩
  rintro d4 hd4 n4 _ _ _ _ m4 ⟨k4, _, hk4, hm4, e4⟩
  cases e4
  refine ⟨fun hlt => LoopS_step (by omega) (by omega) (by simp only [List.length_append, List.length_nil, rep_len]; omega) hm4, fun hge4 => ?_⟩
  obtain rfl : k4 = (argI ds 4).toNat := by omega
  have hnl : ¬ longC ds = true := fun hx => by
    rcases longC_t.1 hx with hx | hx | hx | hx | hx
    · exact x0 hx
    · exact x1 hx
    · exact x2 hx
    · exact x3 hx
    · exact x4 hx
  have hQ := hok hnl
  clear hok hlong hnl hs
  have a5 : argI [ds.getD 5 (Dat.bool false)] 0 = argI ds 5 := by
    match ds, hl with
    | [_, _, _, _, _, _], _ => rfl
  have hP : [] ++ Lib.repeatL [87] (argI ds 0).toNat ++ Lib.repeatL [85] (argI ds 1).toNat ++ Lib.repeatL [66] (argI ds 2).toNat ++ Lib.repeatL [82] (argI ds 3).toNat ++ Lib.repeatL [71] (argI ds 4).toNat = (segL (argI ds 0).toNat (argI ds 1).toNat (argI ds 2).toNat (argI ds 3).toNat (argI ds 4).toNat).flatten := by simp [segL]
  have hlP : (segL (argI ds 0).toNat (argI ds 1).toNat (argI ds 2).toNat (argI ds 3).toNat (argI ds 4).toNat).flatten.length = (argI ds 0).toNat + (argI ds 1).toNat + (argI ds 2).toNat + (argI ds 3).toNat + (argI ds 4).toNat := by simp [segL, rep_len]; omega
  unfold textA textB at hQ
  simp only [hP, toList_V, a5, sapp_V, size_V]
  generalize (segL (argI ds 0).toNat (argI ds 1).toNat (argI ds 2).toNat (argI ds 3).toNat (argI ds 4).toNat).flatten = P at *
  refine ⟨fun hx => ?_, fun hx => ?_⟩
  · have hor : 0 < (argI ds 5).toNat ∨ (argI ds 0).toNat + (argI ds 1).toNat + (argI ds 2).toNat + (argI ds 3).toNat + (argI ds 4).toNat = 0 := by
      rcases Bool.or_eq_true_iff.1 hx with hx | hx
      · exact Or.inl (by have := of_decide_eq_true hx; omega)
      · have : P = [] := by simpa using hx
        exact Or.inr (by rw [← hlP, this]; rfl)
    rw [if_pos hor] at hQ
    have hd := dec_len (argI ds 5).toNat
    exact ⟨(argI ds 5).toNat, by omega, by omega, by rw [List.length_append]; omega, hQ⟩
  · obtain ⟨h1, h2⟩ := Bool.or_eq_false_iff.1 hx
    have h1 := of_decide_eq_false h1
    have h2 : P ≠ [] := by simpa using h2
    have h3 : P.length ≠ 0 := fun hx => h2 (List.length_eq_zero_iff.1 hx)
    rw [if_neg (by omega), List.nil_append] at hQ
    exact hQ)
noncomputable def con_rText04 : Con E0 := ⟨k_rText04, sg_rText04, rText04_s, rfl, bo_rText04, rText04_h⟩
end Go.Proofs.YtfpgbdefopbfbaaDoor
end

section
namespace Go.Proofs.YtfpgbdefopbfbaaDoor
open Go.RowKit
set_option linter.unusedVariables false
set_option linter.unusedSimpArgs false

theorem text_2ww : textN (costD 2 0 0 0 0 2) = 0 ∧ textL (costD 2 0 0 0 0 2) = [50, 87, 87] := by
  have hg : goodC (costD 2 0 0 0 0 2) = true := by decide
  have hl : ¬ longC (costD 2 0 0 0 0 2) = true := by decide
  refine ⟨(textN_ok hg hl).1, ?_⟩
  rw [(textN_ok hg hl).2]
  show textB 2 0 0 0 0 2 = _
  unfold textB
  rw [if_pos (by decide), Lib.decDigits_one (by decide)]
  decide
def k_alive04 : Nat := 7
def sg_alive04 : Sig := ⟨[], [(false, [.bool])], false, false, true, false, false⟩
def tr_alive04 : Tree := (.call k_mText [(.int .i64 2), (.int .i64 0), (.int .i64 0), (.int .i64 0), (.int .i64 0), (.int .i64 2)] [.str, .err]
(.ret [(.and (.isnil (.var 1)) (.seq (.var 0) (.str [50, 87, 87])))]))
theorem wk_alive04 : walk E0.cx (sgsN [(8, sg_mText)]) 0 7 sg_alive04 = tr_alive04 := by kernel_rfl
theorem bo_alive04 : ∃ x, bodyOf E0.P 7 = some x := bo_of (by kernel_rfl)
theorem sp_alive04_mText : specC [con_mText] k_mText = mText_s := rfl
def alive04_s : Spec := fun ds Q => Q [.bool true]
theorem alive04_h : Holds E0 k_alive04 sg_alive04 alive04_s := con_fn wf0 mix0 g0 [con_mText] rfl wk_alive04 rfl (by
  intro Φ hΦ ds Q hs h
  have h : Q [.bool true] := h
  have hl : ds.length = 0 := hs.length.symm
  obtain rfl : ds = [] := List.length_eq_zero_iff.1 hl
  have s1 : Φ k_mText = mText_s := by rw [hΦ]; rfl
  clear hΦ
  simp only [tr_alive04, wp, List.map_cons, List.map_nil, s1]
  show Q [Dat.bool (isNilI (errV (textN (costD 2 0 0 0 0 2))) && ((strD (strV (textL (costD 2 0 0 0 0 2)))).toList == (strD (strV [50, 87, 87])).toList))]
  rw [text_2ww.1, text_2ww.2, beq_self_eq_true]
  exact h)
noncomputable def con_alive04 : Con E0 := ⟨k_alive04, sg_alive04, alive04_s, rfl, bo_alive04, alive04_h⟩
theorem num_of (n : Int) {ρ : List Dat} {t : Tm} (h : den E0.Δ ρ t = errV n) : den E0.Δ ρ (.ite (.isnil t) (.int .i64 0) (.ite (.cmp .ne (.errI t) (.int .i64 0)) (.errI t) (.int .i64 (-1)))) = .int .i64 n := by
  simp only [den_ite, den, h, errV_nil]
  by_cases h0 : n = 0
  · subst h0; rfl
  · rw [decide_eq_false h0]
    simp [errV, h0, errN]
    have hc : (Dat.bool (Cmp.ne.of (Dat.int .i64 n).toInt (Dat.int .i64 0).toInt)).toBool = true := by
      show (n != 0) = true
      simpa using h0
    rw [if_neg (show ¬ ((Dat.bool false).toBool = true) by decide), if_pos hc]
def law_s : Spec := fun ds Q => InL ds ∧ Q [.bool true]
def k_ltexts : Nat := 3
def sg_ltexts : Sig := ⟨[(true, List.replicate 6 (.int .i64))], [(false, [.bool])], false, false, true, false, false⟩
def tr_ltexts : Tree := (.call k_alive04 [] [.bool]
(.ite (.not (.var 6))
 (.ret [(.bool false)])
 (.call k_mText [(.var 0), (.var 1), (.var 2), (.var 3), (.var 4), (.var 5)] [.str, .err]
 (.call k_rText04 [(.var 0), (.var 1), (.var 2), (.var 3), (.var 4), (.var 5)] [.str, (.int .i64)]
 (.ret [(.and (.seq (.var 7) (.var 9)) (.cmp .eq (.ite (.isnil (.var 8)) (.int .i64 0) (.ite (.cmp .ne (.errI (.var 8)) (.int .i64 0)) (.errI (.var 8)) (.int .i64 (-1)))) (.var 10)))])))))
theorem wk_ltexts : walk E0.cx (sgsN [(7, sg_alive04), (8, sg_mText), (9, sg_rText04), (10, sg_Num)]) 0 3 sg_ltexts = tr_ltexts := by kernel_rfl
theorem bo_ltexts : ∃ x, bodyOf E0.P 3 = some x := bo_of (by kernel_rfl)
theorem sp_ltexts_alive04 : specC [con_alive04, con_mText, con_rText04, con_Num] k_alive04 = alive04_s := rfl
theorem sp_ltexts_mText : specC [con_alive04, con_mText, con_rText04, con_Num] k_mText = mText_s := rfl
theorem sp_ltexts_rText04 : specC [con_alive04, con_mText, con_rText04, con_Num] k_rText04 = rText04_s := rfl
theorem sp_ltexts_Num : specC [con_alive04, con_mText, con_rText04, con_Num] k_Num = Num_s := rfl
def ltexts_s : Spec := law_s
theorem ltexts_h : Holds E0 k_ltexts sg_ltexts ltexts_s := con_fn wf0 mix0 g0 [con_alive04, con_mText, con_rText04, con_Num] rfl wk_ltexts rfl (by
  intro Φ hΦ ds Q hs ⟨hin, h⟩
  have hl : ds.length = 6 := hs.length.symm
  have s1 : Φ k_alive04 = alive04_s := by rw [hΦ]; rfl
  have s2 : Φ k_mText = mText_s := by rw [hΦ]; rfl
  have s3 : Φ k_rText04 = rText04_s := by rw [hΦ]; rfl
  have s4 : Φ k_Num = Num_s := by rw [hΦ]; rfl
  clear hΦ
  simp only [tr_ltexts, wp, den_int, den_bool, den_nili, den_ar, den_cmp, den_not, den_len, den_elem, den_isnil, den_errI, den_ifc, den_rep, den_push, den_app, den_emp, den_upd, row0_econs, row0_enil, den_and, den_beq, den_nil, toInt_int, toBool_bool, xs_rows, xs_list, dflt_int, dflt_bool, of_eq, of_ne, of_lt, of_le, of_gt, of_ge, of_add, of_sub, of_rem, List.map_cons, List.map_nil, Dat.bool.injEq, decide_eq_true_eq, decide_eq_false_iff_not, Bool.not_eq_true', Bool.not_eq_false', beq_iff_eq, bne_iff_ne, beq_eq_false_iff_ne, bne_eq_false_iff_eq, ne_eq, List.append_assoc, List.cons_append, List.nil_append, allS, s1, s2, s3, s4, alive04_s, mText_s, rText04_s, Num_s, @den_var0 E0.Δ ds, den_varA, den_varB, hl, Nat.reduceLT, Nat.reduceLeDiff, Nat.reduceSub, List.getD_cons_zero, List.getD_cons_succ, argL_fold ds, argI_fold ds, List.append_assoc, List.cons_append, List.nil_append, toInt_int, toBool_bool, xs_rows, xs_list, Int.toNat_natCast, Dat.bool.injEq, den_seqV]
  refine ⟨fun hx => Bool.noConfusion hx, fun _ => ?_⟩
  clear hs hin
  match ds, hl with
  | [x0, x1, x2, x3, x4, x5], _ =>
    rw [num_of (textN [x0, x1, x2, x3, x4, x5]) rfl, beq_self_eq_true]
    show Q [Dat.bool (true && (textN [x0, x1, x2, x3, x4, x5] == textN [x0, x1, x2, x3, x4, x5]))]
    rw [beq_self_eq_true]
    exact h)
noncomputable def con_ltexts : Con E0 := ⟨k_ltexts, sg_ltexts, ltexts_s, rfl, bo_ltexts, ltexts_h⟩
end Go.Proofs.YtfpgbdefopbfbaaDoor
end
