import Derived.Test.YtnhahmgbgocdgaaDoorM15
import Derived.Test.YtnhahmgbgocdgaaDoorM14

set_option linter.unusedVariables false
set_option linter.unusedSimpArgs false

section
namespace Go.Proofs.YtnhahmgbgocdgaaDoor
open Go.RowKit
set_option linter.unusedVariables false
set_option linter.unusedSimpArgs false
set_option maxRecDepth 100000
set_option maxHeartbeats 1000000

def ILst (l : List Nat) (os : Dat) : Inv := fun xs m => ∃ (z : Nat) (d : Dat) (e : Int) (ls : List Dat), xs = .int .i64 z :: d :: errV e :: ls ∧ ls.length = 11 ∧ z ≤ 11 ∧ m = 11 - z ∧ LstI l z d e os ls
theorem setL (z : Nat) (v l1 l2 l3 l4 l5 l6 l7 l8 l9 l10 l11 : Dat) (hz : z < 11) : [if (z : Int) = 0 then v else l1, if (z : Int) = 1 then v else l2, if (z : Int) = 2 then v else l3, if (z : Int) = 3 then v else l4, if (z : Int) = 4 then v else l5, if (z : Int) = 5 then v else l6, if (z : Int) = 6 then v else l7, if (z : Int) = 7 then v else l8, if (z : Int) = 8 then v else l9, if (z : Int) = 9 then v else l10, if (z : Int) = 10 then v else l11] = [l1, l2, l3, l4, l5, l6, l7, l8, l9, l10, l11].set z v := by
  match z, hz with
  | 0, _ | 1, _ | 2, _ | 3, _ | 4, _ | 5, _ | 6, _ | 7, _ | 8, _ | 9, _ | 10, _ => rfl
theorem L23 {l : List Nat} (hn : l.length ≤ 90000000) {Φ : Nat → Spec} {Q : List Dat → Prop} (s1 : Φ k_Check = Check_s) (s2 : Φ k_wTake = wTake_s) (s3 : Φ k_wTakeL = wTakeL_s) (h : ∀ rs e, rs.length = 37 → Parsed l rs e → Q (rs ++ [errV e])) {x0 : Inv × Nat} {ds : List Dat} (hl : ds.length = 8) {z : Nat} {d os l1 l2 l3 l4 l5 l6 l7 l8 l9 l10 l11 : Dat} {e : Int} (hz : z ≤ 11) (h7 : ds.getD 7 (.bool false) = os)
    (hO : LstI l z d e os [l1, l2, l3, l4, l5, l6, l7, l8, l9, l10, l11]) :
    wp E0.Δ Φ Q tr_tParse_23 (ds ++ [.int .i64 z, d, errV e, l1, l2, l3, l4, l5, l6, l7, l8, l9, l10, l11]) [x0, (ILst l os, 11 - z)] := by
  unfold tr_tParse_23
  have hl2 : (ds ++ [.int .i64 z, d, errV e, l1, l2, l3, l4, l5, l6, l7, l8, l9, l10, l11]).length = 22 := by rw [List.length_append, hl]; rfl
  have hX : [x0, (ILst l os, 11 - z)][1]? = some (ILst l os, 11 - z) := rfl
  have h7' : ∀ q, (ds ++ q).getD 7 (.bool false) = os := fun q => by
    rw [List.getD_eq_getElem?_getD, List.getElem?_append_left (by omega), ← List.getD_eq_getElem?_getD, h7]
  simp only [wp, den_int, den_bool, den_nili, den_ar, den_cmp, den_not, den_len, den_elem, den_isnil, den_errI, den_ifc, den_rep, den_push, den_app, den_emp, den_upd, row0_econs, row0_enil, den_and, den_beq, den_nil, toInt_int, toBool_bool, xs_rows, xs_list, dflt_int, dflt_bool, of_eq, of_ne, of_lt, of_le, of_gt, of_ge, of_add, of_sub, of_rem, List.map_cons, List.map_nil, Dat.bool.injEq, decide_eq_true_eq, decide_eq_false_iff_not, Bool.not_eq_true', Bool.not_eq_false', beq_iff_eq, bne_iff_ne, beq_eq_false_iff_ne, bne_eq_false_iff_eq, ne_eq, List.append_assoc, List.cons_append, List.nil_append, allS, s3, wTakeL_s, hX, @den_var0 E0.Δ ds, den_varA, den_varB, hl, Nat.reduceLT, Nat.reduceLeDiff, Nat.reduceSub, List.getD_cons_zero, List.getD_cons_succ, argL_fold ds, argI_fold ds, List.append_assoc, List.cons_append, List.nil_append, toInt_int, toBool_bool, xs_rows, xs_list, Int.toNat_natCast, Dat.bool.injEq, den_ite, den_or, h7]
  rw [errV_nil]
  refine ⟨fun hz2 => ⟨fun h1 => ⟨by omega, fun A c => ⟨_, (by omega : 11 - (z + 1) < _), z + 1, d, e, _, by rw [wrap64 (by omega) (by omega), setL z _ l1 l2 l3 l4 l5 l6 l7 l8 l9 l10 l11 (by omega)]; rfl, by simp, by omega, rfl, hO.skip (of_decide_eq_false h1)⟩⟩, fun h1 => ?_⟩, fun hz2 => ?_⟩
  · obtain rfl : e = 0 := of_decide_eq_true h1
    obtain ⟨r, r1, r2, r3, r4⟩ := hO.take (by omega) rfl
    exact ⟨r, r1, r2, by omega, fun d1 d2 hd1 hd2 => ⟨by omega, _, (by omega : 11 - (z + 1) < _), z + 1, d2, _, _, by rw [wrap64 (by omega) (by omega), setL z _ l1 l2 l3 l4 l5 l6 l7 l8 l9 l10 l11 (by omega)]; rfl, by simp, by omega, rfl, r4 d1 d2 hd1 hd2⟩⟩
  obtain rfl : z = 11 := by omega
  refine ⟨IPlay l, ⟨2, 0, d, e, os, [l1, l2, l3, l4, l5, l6, l7, l8, l9, l10, l11], [0, 0, 0, 0, 0, 0, 0, 0, 0, 0, 0, 0, 0, 0, 0, 0, 0, 0, 0, 0, 0, 0, 0, 0, 0], rfl, rfl, rfl, by omega, rfl, hO.fin _⟩, ?_⟩
  rintro n d2 hd2 e2 he2 os2 ho2 m1 hm1 m2 hm2 m3 hm3 m4 hm4 m5 hm5 m6 hm6 m7 hm7 m8 hm8 m9 hm9 m10 hm10 m11 hm11 k0 k1 k2 k3 k4 k5 k6 k7 k8 k9 k10 k11 k12 k13 k14 k15 k16 k17 k18 k19 k20 k21 k22 k23 k24 m ⟨i, d3, e3, os3, ls3, cs3, heq, hl3, hc3, hi, hm, hN⟩
  obtain ⟨rfl, rfl, rfl, rfl, rfl, rfl⟩ := inv40 (ls2 := [m1, m2, m3, m4, m5, m6, m7, m8, m9, m10, m11]) (cs2 := [k0, k1, k2, k3, k4, k5, k6, k7, k8, k9, k10, k11, k12, k13, k14, k15, k16, k17, k18, k19, k20, k21, k22, k23, k24]) rfl hl3 heq
  subst hm
  have := L22 (Q := Q) hn s1 s2 h hl2 (x0 := x0) (x1 := (ILst l os, 11 - 11)) hi hN
  rw [List.append_assoc] at this
  exact this
theorem he1 (b v : Int) (hv : 0 ≤ v) : (if (isNilI (errV b) && !decide (v ≤ 4294967295)) = true then Dat.val (Value.iface 64 (Value.int .i64 1)) else errV b) = errV (if b ≠ 0 then b else if v < 0 ∨ 4294967295 < v then 1 else 0) := by
  rw [errV_nil]
  by_cases h0 : b = 0 <;> by_cases h1 : v ≤ 4294967295 <;> simp [h0, h1, errV] <;> omega
theorem he2 (b v : Int) (hv : ¬ 0 ≤ v) : (if isNilI (errV b) = true then Dat.val (Value.iface 64 (Value.int .i64 1)) else errV b) = errV (if b ≠ 0 then b else if v < 0 ∨ 4294967295 < v then 1 else 0) := by
  rw [errV_nil]
  by_cases h0 : b = 0
  · subst h0
    rw [if_pos (decide_eq_true rfl), if_neg (by simp), if_pos (.inl (by omega))]; rfl
  · rw [decide_eq_false h0, if_pos h0]; rfl
theorem inv12 {n i : Int} {d2 e2 d3 e3 : Dat} {cs2 cs3 : List Int} (h : Dat.int .i64 n :: d2 :: e2 :: intsD cs2 = Dat.int .i64 i :: d3 :: e3 :: intsD cs3) : n = i ∧ d2 = d3 ∧ e2 = e3 ∧ cs3 = cs2 := by
  simp only [List.cons.injEq, Dat.int.injEq, true_and] at h
  obtain ⟨h1, h2, h3, h4⟩ := h
  exact ⟨h1, h2, h3, (intsD_inj h4).symm⟩
theorem L24 {l : List Nat} (hn : l.length ≤ 90000000) {Φ : Nat → Spec} {Q : List Dat → Prop} (s1 : Φ k_Check = Check_s) (s2 : Φ k_wTake = wTake_s) (s3 : Φ k_wTakeL = wTakeL_s) (s4 : Φ k_tObj = tObj_s) (h : ∀ rs e, rs.length = 37 → Parsed l rs e → Q (rs ++ [errV e])) {ds : List Dat} (hl : ds.length = 4) {N : Int} {k : Nat} {d : Dat} {e : Int} {rows : List (List Dat)} (hN : argI ds 1 = N) (hk : k ≤ 400) (hr : rows.length = k)
    (hO : ObjI l N k d e (.rows rows)) :
    wp E0.Δ Φ Q tr_tParse_24 (ds ++ [.int .i64 k, d, errV e, .rows rows]) [(IObj l N, 400 - k)] := by
  unfold tr_tParse_24
  simp only [wp, den_int, den_bool, den_nili, den_ar, den_cmp, den_not, den_len, den_elem, den_isnil, den_errI, den_ifc, den_rep, den_push, den_app, den_emp, den_upd, row0_econs, row0_enil, den_and, den_beq, den_nil, toInt_int, toBool_bool, xs_rows, xs_list, dflt_int, dflt_bool, of_eq, of_ne, of_lt, of_le, of_gt, of_ge, of_add, of_sub, of_rem, List.map_cons, List.map_nil, Dat.bool.injEq, decide_eq_true_eq, decide_eq_false_iff_not, Bool.not_eq_true', Bool.not_eq_false', beq_iff_eq, bne_iff_ne, beq_eq_false_iff_ne, bne_eq_false_iff_eq, ne_eq, List.append_assoc, List.cons_append, List.nil_append, allS, s2, wTake_s, @den_var0 E0.Δ ds, den_varA, den_varB, hl, Nat.reduceLT, Nat.reduceLeDiff, Nat.reduceSub, List.getD_cons_zero, List.getD_cons_succ, argL_fold ds, argI_fold ds, List.append_assoc, List.cons_append, List.nil_append, toInt_int, toBool_bool, xs_rows, xs_list, Int.toNat_natCast, Dat.bool.injEq, den_ite, den_or, hN]
  rw [errV_nil]
  refine ⟨fun hc => ?_, fun hc => ?_⟩
  · rw [Bool.and_eq_true] at hc
    have hkN : (k : Int) < N := of_decide_eq_true hc.1
    obtain rfl : e = 0 := of_decide_eq_true hc.2
    have hN4 : N ≤ 400 := by
      obtain ⟨_, _, _, _, g⟩ := Rst.good hO rfl
      exact g.2.1
    obtain ⟨r, r1, r2, r3, r4⟩ := hO.head hkN (List.replicate 9 0)
    have go : ∀ d' : Dat, d'.xs = (if (mth.tk 0 0 r).2.2 = 0 then u8R (r.drop (mth.tk 0 0 r).2.1) else []) →
        ∃ I : Inv, (∃ m, I (.int .i64 0 :: d' :: errV (if (mth.tk 0 0 r).2.2 ≠ 0 then (mth.tk 0 0 r).2.2 else if (mth.tk 0 0 r).1 < 0 ∨ 4294967295 < (mth.tk 0 0 r).1 then 1 else 0) :: intsD (List.replicate 9 0)) m) ∧
          ∀ (n : Int) (d2 e2 : Dat) (k1 k2 k3 k4 k5 k6 k7 k8 k9 : Int) (m : Nat), I [.int .i64 n, d2, e2, .int .i64 k1, .int .i64 k2, .int .i64 k3, .int .i64 k4, .int .i64 k5, .int .i64 k6, .int .i64 k7, .int .i64 k8, .int .i64 k9] m →
            wp E0.Δ Φ Q tr_tParse_16 (ds ++ [.int .i64 k, d, errV 0, .rows rows, .int .i64 (mth.tk 0 0 r).1, d', errV (mth.tk 0 0 r).2.2, .int .i64 n, d2, e2, .int .i64 k1, .int .i64 k2, .int .i64 k3, .int .i64 k4, .int .i64 k5, .int .i64 k6, .int .i64 k7, .int .i64 k8, .int .i64 k9]) [(IObj l N, 400 - k), (I, m)] ∧
            wp E0.Δ Φ Q tr_tParse_17 (ds ++ [.int .i64 k, d, errV 0, .rows rows, .int .i64 (mth.tk 0 0 r).1, d', errV (mth.tk 0 0 r).2.2, .int .i64 n, d2, e2, .int .i64 k1, .int .i64 k2, .int .i64 k3, .int .i64 k4, .int .i64 k5, .int .i64 k6, .int .i64 k7, .int .i64 k8, .int .i64 k9]) [(IObj l N, 400 - k), (I, m)] := fun d' hd' => by
      refine ⟨IOne l N k (.rows rows) (mth.tk 0 0 r).1, ⟨9, 0, d', _, List.replicate 9 0, rfl, rfl, by omega, rfl, r4 d' hd'⟩, ?_⟩
      rintro n d2 e2 k1 k2 k3 k4 k5 k6 k7 k8 k9 m ⟨i, d3, e3, cs3, heq, hc3, hi, hm, hone⟩
      obtain ⟨rfl, rfl, rfl, rfl⟩ := inv12 (cs2 := [k1, k2, k3, k4, k5, k6, k7, k8, k9]) heq
      subst hm
      have hl2 : (ds ++ [.int .i64 k, d, errV 0, .rows rows, .int .i64 (mth.tk 0 0 r).1, d', errV (mth.tk 0 0 r).2.2]).length = 11 := by rw [List.length_append, hl]; rfl
      have at_ : ∀ j x, [Dat.int .i64 k, d, errV 0, .rows rows, .int .i64 (mth.tk 0 0 r).1, d', errV (mth.tk 0 0 r).2.2][j]? = some x → ∀ y, (ds ++ [.int .i64 k, d, errV 0, .rows rows, .int .i64 (mth.tk 0 0 r).1, d', errV (mth.tk 0 0 r).2.2]).getD (4 + j) y = x := fun j x hx y => by
        rw [List.getD_eq_getElem?_getD, List.getElem?_append_right (by omega), hl, Nat.add_sub_cancel_left, hx]; rfl
      have a4 := congrArg Dat.toInt (at_ 0 _ rfl (.int .i64 0))
      have a7 := congrArg Dat.xs (at_ 3 _ rfl (.bool false))
      have a8 := congrArg Dat.toInt (at_ 4 _ rfl (.int .i64 0))
      have := L16 (Q := Q) hn s2 s4 hl2 (X := [(IObj l N, 400 - k), (IOne l N k (.rows rows) (mth.tk 0 0 r).1, 9 - i)]) rfl rfl (by omega) a4 a7 a8 hr hi hone
      rw [List.append_assoc] at this
      exact this
    refine ⟨⟨r, r1, r2, by omega, fun d' hd' => ⟨fun h0 => ?_, fun h0 => ?_⟩⟩, ⟨r, r1, r2, by omega, fun d' hd' => ⟨fun h0 => ?_, fun h0 => ?_⟩⟩⟩
    · rw [he1 _ _ h0]
      obtain ⟨I, g1, g2⟩ := go d' hd'
      exact ⟨I, g1, fun n d2 _ e2 _ k1 k2 k3 k4 k5 k6 k7 k8 k9 m hI => (g2 n d2 e2 k1 k2 k3 k4 k5 k6 k7 k8 k9 m hI).1⟩
    · rw [he2 _ _ h0]
      obtain ⟨I, g1, g2⟩ := go d' hd'
      exact ⟨I, g1, fun n d2 _ e2 _ k1 k2 k3 k4 k5 k6 k7 k8 k9 m hI => (g2 n d2 e2 k1 k2 k3 k4 k5 k6 k7 k8 k9 m hI).1⟩
    · rw [he1 _ _ h0]
      obtain ⟨I, g1, g2⟩ := go d' hd'
      exact ⟨I, g1, fun n d2 _ e2 _ k1 k2 k3 k4 k5 k6 k7 k8 k9 m hI => (g2 n d2 e2 k1 k2 k3 k4 k5 k6 k7 k8 k9 m hI).2⟩
    · rw [he2 _ _ h0]
      obtain ⟨I, g1, g2⟩ := go d' hd'
      exact ⟨I, g1, fun n d2 _ e2 _ k1 k2 k3 k4 k5 k6 k7 k8 k9 m hI => (g2 n d2 e2 k1 k2 k3 k4 k5 k6 k7 k8 k9 m hI).2⟩
  · have hfin := hO.fin (fun he => by
      subst he
      rw [decide_eq_true rfl, Bool.and_true] at hc
      have := of_decide_eq_false hc
      omega) (List.replicate 11 (.list (.slice none 0 0) (E0.Δ.row 3).length []))
    have hl2 : (ds ++ [.int .i64 k, d, errV e, .rows rows]).length = 8 := by rw [List.length_append, hl]; rfl
    have h7 : (ds ++ [.int .i64 k, d, errV e, .rows rows]).getD 7 (.bool false) = .rows rows := by
      rw [List.getD_eq_getElem?_getD, List.getElem?_append_right (by omega), hl]; rfl
    refine ⟨ILst l (.rows rows), ⟨11, 0, d, e, _, rfl, rfl, by omega, rfl, hfin⟩, ?_⟩
    rintro n d2 hd2 e2 he2 m1 hm1 m2 hm2 m3 hm3 m4 hm4 m5 hm5 m6 hm6 m7 hm7 m8 hm8 m9 hm9 m10 hm10 m11 hm11 m ⟨z, d3, e3, ls3, heq, hl3, hz, hm, hL⟩
    simp only [List.cons.injEq, Dat.int.injEq, true_and] at heq
    obtain ⟨rfl, rfl, rfl, heq⟩ := heq
    have heq : ls3 = [m1, m2, m3, m4, m5, m6, m7, m8, m9, m10, m11] := heq.symm
    subst heq hm
    have := L23 (Q := Q) hn s1 s2 s3 h hl2 (x0 := (IObj l N, 400 - k)) hz h7 hL
    rw [List.append_assoc] at this
    exact this
def tParse_s : Spec := fun ds Q => ∃ l : List Nat, argL ds 0 = u8R l ∧ bytes l ∧ l.length ≤ 90000000 ∧ ∀ rs e, rs.length = 37 → Parsed l rs e → Q (rs ++ [errV e])
theorem wp_ite_f {Δ : Tab} {Φ : Nat → Spec} {Q : List Dat → Prop} {c : Tm} {a b : Tree} {ρ : List Dat} {X : List (Inv × Nat)} (hc : den Δ ρ c = .bool false) (h : wp Δ Φ Q b ρ X) : wp Δ Φ Q (.ite c a b) ρ X :=
  ⟨fun h1 => (by rw [hc] at h1; cases h1), fun _ => h⟩
theorem he0 (b v : Int) : (if (isNilI (if (isNilI (errV b) && !decide (0 ≤ v)) = true then Dat.val (Value.iface 64 (Value.int .i64 1)) else errV b) && !decide (v ≤ 400)) = true then Dat.val (Value.iface 64 (Value.int .i64 5)) else if (isNilI (errV b) && !decide (0 ≤ v)) = true then Dat.val (Value.iface 64 (Value.int .i64 1)) else errV b) = errV (if b ≠ 0 then b else if v < 0 then 1 else if 400 < v then 5 else 0) := by
  have e1 : (if (isNilI (errV b) && !decide (0 ≤ v)) = true then Dat.val (Value.iface 64 (Value.int .i64 1)) else errV b) = errV (if b ≠ 0 then b else if v < 0 then 1 else 0) := by
    rw [errV_nil]
    by_cases h0 : b = 0 <;> by_cases h1 : 0 ≤ v <;> simp [h0, h1, errV] <;> omega
  rw [e1, errV_nil]
  by_cases h0 : b = 0
  · subst h0
    by_cases h1 : v < 0
    · simp [h1, errV]
    · by_cases h2 : 400 < v
      · simp [h1, h2, errV]
      · simp [h1, h2, show v ≤ 400 by omega, errV]
  · simp [h0]
theorem tParse_h : Holds E0 k_tParse sg_tParse tParse_s := con_fn wf0 mix0 g0 [con_Check, con_wTake, con_wTakeL, con_tObj] rfl wk_tParse rfl (by
  intro Φ hΦ ds Q hs ⟨l, hx, hb, hn, h⟩
  have hl : ds.length = 1 := hs.length.symm
  have s1 : Φ k_Check = Check_s := by rw [hΦ]; rfl
  have s2 : Φ k_wTake = wTake_s := by rw [hΦ]; rfl
  have s3 : Φ k_wTakeL = wTakeL_s := by rw [hΦ]; rfl
  have s4 : Φ k_tObj = tObj_s := by rw [hΦ]; rfl
  clear hΦ
  unfold tr_tParse
  refine wp_ite_f rfl ?_
  simp only [wp, den_int, den_bool, den_nili, den_ar, den_cmp, den_not, den_len, den_elem, den_isnil, den_errI, den_ifc, den_rep, den_push, den_app, den_emp, den_upd, row0_econs, row0_enil, den_and, den_beq, den_nil, toInt_int, toBool_bool, xs_rows, xs_list, dflt_int, dflt_bool, of_eq, of_ne, of_lt, of_le, of_gt, of_ge, of_add, of_sub, of_rem, List.map_cons, List.map_nil, Dat.bool.injEq, decide_eq_true_eq, decide_eq_false_iff_not, Bool.not_eq_true', Bool.not_eq_false', beq_iff_eq, bne_iff_ne, beq_eq_false_iff_ne, bne_eq_false_iff_eq, ne_eq, List.append_assoc, List.cons_append, List.nil_append, allS, s2, wTake_s, @den_var0 E0.Δ ds, den_varA, den_varB, hl, Nat.reduceLT, Nat.reduceLeDiff, Nat.reduceSub, List.getD_cons_zero, List.getD_cons_succ, argL_fold ds, argI_fold ds, List.append_assoc, List.cons_append, List.nil_append, toInt_int, toBool_bool, xs_rows, xs_list, Int.toNat_natCast, Dat.bool.injEq, den_ite, den_or, argL_c0]
  refine ⟨l, hx, hb, hn, fun d hd => ?_⟩
  rw [he0]
  refine ⟨IObj l (mth.tk 0 0 l).1, ⟨400, 0, d, _, [], rfl, by omega, rfl, rfl, ObjI.start hb rfl hd⟩, ?_⟩
  rintro n d2 hd2 e2 he2 o2 ho2 m ⟨k, d3, e3, rows, heq, hk, hr, hm, hO⟩
  simp only [List.cons.injEq, Dat.int.injEq, true_and, and_true] at heq
  obtain ⟨rfl, rfl, rfl, rfl⟩ := heq
  subst hm
  have hl2 : (ds ++ [.int .i64 (mth.tk 0 0 l).1, d, errV (mth.tk 0 0 l).2.2]).length = 4 := by rw [List.length_append, hl]; rfl
  have h1 : argI (ds ++ [.int .i64 (mth.tk 0 0 l).1, d, errV (mth.tk 0 0 l).2.2]) 1 = (mth.tk 0 0 l).1 := by
    unfold argI
    rw [List.getD_eq_getElem?_getD, List.getElem?_append_right (by omega), hl]; rfl
  have := L24 (Q := Q) hn s1 s2 s3 s4 h hl2 h1 hk hr hO
  rw [List.append_assoc] at this
  exact this)
noncomputable def con_tParse : Con E0 := ⟨k_tParse, sg_tParse, tParse_s, rfl, bo_tParse, tParse_h⟩
end Go.Proofs.YtnhahmgbgocdgaaDoor
end

section
namespace Go.Proofs.YtnhahmgbgocdgaaDoor
open Go.RowKit
set_option linter.unusedVariables false
set_option linter.unusedSimpArgs false

def k_rParse : Nat := 13
def sg_rParse : Sig := ⟨[(false, [.list 5])], [(true, [.list 50] ++ List.replicate 11 (.list 3) ++ List.replicate 25 (.int .i64)), (false, [.int .i64])], false, true, true, false, true⟩
def tr_rParse_1 : Tree := (.ret [(.nil 50), (.nil 3), (.nil 3), (.nil 3), (.nil 3), (.nil 3), (.nil 3), (.nil 3), (.nil 3), (.nil 3), (.nil 3), (.nil 3), (.int .i64 0), (.int .i64 0), (.int .i64 0), (.int .i64 0), (.int .i64 0), (.int .i64 0), (.int .i64 0), (.int .i64 0), (.int .i64 0), (.int .i64 0), (.int .i64 0), (.int .i64 0), (.int .i64 0), (.int .i64 0), (.int .i64 0), (.int .i64 0), (.int .i64 0), (.int .i64 0), (.int .i64 0), (.int .i64 0), (.int .i64 0), (.int .i64 0), (.int .i64 0), (.int .i64 0), (.int .i64 0), (.int .i64 1)])
def tr_rParse_2 : Tree := (.ret [(.nil 50), (.nil 3), (.nil 3), (.nil 3), (.nil 3), (.nil 3), (.nil 3), (.nil 3), (.nil 3), (.nil 3), (.nil 3), (.nil 3), (.int .i64 0), (.int .i64 0), (.int .i64 0), (.int .i64 0), (.int .i64 0), (.int .i64 0), (.int .i64 0), (.int .i64 0), (.int .i64 0), (.int .i64 0), (.int .i64 0), (.int .i64 0), (.int .i64 0), (.int .i64 0), (.int .i64 0), (.int .i64 0), (.int .i64 0), (.int .i64 0), (.int .i64 0), (.int .i64 0), (.int .i64 0), (.int .i64 0), (.int .i64 0), (.int .i64 0), (.int .i64 0), (.var 47)])
def tr_rParse_3 : Tree := (.ret [(.nil 50), (.nil 3), (.nil 3), (.nil 3), (.nil 3), (.nil 3), (.nil 3), (.nil 3), (.nil 3), (.nil 3), (.nil 3), (.nil 3), (.int .i64 0), (.int .i64 0), (.int .i64 0), (.int .i64 0), (.int .i64 0), (.int .i64 0), (.int .i64 0), (.int .i64 0), (.int .i64 0), (.int .i64 0), (.int .i64 0), (.int .i64 0), (.int .i64 0), (.int .i64 0), (.int .i64 0), (.int .i64 0), (.int .i64 0), (.int .i64 0), (.int .i64 0), (.int .i64 0), (.int .i64 0), (.int .i64 0), (.int .i64 0), (.int .i64 0), (.int .i64 0), (.var 50)])
def tr_rParse_4 : Tree := (.call k_rObj3 [(.conv .u32 (.elem (.var 45) (.int .i64 0) 0 (.int .i64))), (.elem (.var 48) (.int .i64 0) 0 (.int .i64)), (.elem (.var 48) (.int .i64 1) 0 (.int .i64)), (.elem (.var 48) (.int .i64 2) 0 (.int .i64)), (.elem (.var 48) (.int .i64 3) 0 (.int .i64)), (.elem (.var 48) (.int .i64 4) 0 (.int .i64)), (.elem (.var 48) (.int .i64 5) 0 (.int .i64)), (.elem (.var 48) (.int .i64 6) 0 (.int .i64)), (.elem (.var 48) (.int .i64 7) 0 (.int .i64)), (.elem (.var 48) (.int .i64 8) 0 (.int .i64))] [(.int .i64), (.int .i64), (.int .i64), (.int .i64), (.int .i64), (.int .i64), (.int .i64), (.int .i64), (.int .i64), (.int .i64), (.int .i64), (.int .i64), (.int .i64), (.int .i64), (.int .i64), (.int .i64), (.int .i64), (.int .i64), (.int .i64)] (.ite (.cmp .ne (.var 69) (.int .i64 0)) (.ret [(.nil 50), (.nil 3), (.nil 3), (.nil 3), (.nil 3), (.nil 3), (.nil 3), (.nil 3), (.nil 3), (.nil 3), (.nil 3), (.nil 3), (.int .i64 0), (.int .i64 0), (.int .i64 0), (.int .i64 0), (.int .i64 0), (.int .i64 0), (.int .i64 0), (.int .i64 0), (.int .i64 0), (.int .i64 0), (.int .i64 0), (.int .i64 0), (.int .i64 0), (.int .i64 0), (.int .i64 0), (.int .i64 0), (.int .i64 0), (.int .i64 0), (.int .i64 0), (.int .i64 0), (.int .i64 0), (.int .i64 0), (.int .i64 0), (.int .i64 0), (.int .i64 0), (.var 69)]) (.lit 50 (.push .emp (.econs (.var 51) (.econs (.var 52) (.econs (.var 53) (.econs (.var 54) (.econs (.var 55) (.econs (.var 56) (.econs (.var 57) (.econs (.var 58) (.econs (.var 59) (.econs (.var 60) (.econs (.var 61) (.econs (.var 62) (.econs (.var 63) (.econs (.var 64) (.econs (.var 65) (.econs (.var 66) (.econs (.var 67) (.econs (.var 68) .enil))))))))))))))))))) (.ob (.cmp .le (.len (.app (.var 44) (.var 70))) (.int .i64 977343669134)) (.again 0 [(.var 4), (.ar .add .i64 (.ar .add .i64 (.var 5) (.var 46)) (.var 49)), (.ar .sub .i64 (.var 6) (.int .i64 1)), (.var 7), (.var 8), (.var 9), (.var 10), (.var 11), (.var 12), (.var 13), (.var 14), (.var 15), (.var 16), (.var 17), (.var 18), (.var 19), (.var 20), (.var 21), (.var 22), (.var 23), (.var 24), (.var 25), (.var 26), (.var 27), (.var 28), (.var 29), (.var 30), (.var 31), (.var 32), (.var 33), (.var 34), (.var 35), (.var 36), (.var 37), (.var 38), (.var 39), (.var 40), (.var 41), (.var 42), (.var 43), (.app (.var 44) (.var 70))])))))
def tr_rParse_5 : Tree := (.ob (.cmp .lt (.int .i64 0) (.len (.var 45))) (.both tr_rParse_4 tr_rParse_4))
def tr_rParse_6 : Tree := (.ite (.cmp .gt (.var 6) (.int .i64 0)) (.ob (.cmp .ge (.var 5) (.int .i64 0)) (.ob (.cmp .le (.var 5) (.len (.var 0))) (.call k_rNums [(.cut (.var 0) (.var 5) (.len (.var 0))), (.int .i64 1)] [(.list 3), (.int .i64), (.int .i64)] (.ite (.cmp .ne (.var 47) (.int .i64 0)) tr_rParse_2 (.ob (.cmp .lt (.int .i64 0) (.len (.var 45))) (.ob (.or (.cmp .lt (.elem (.var 45) (.int .i64 0) 0 (.int .i64)) (.int .i64 0)) (.cmp .lt (.int .i64 0) (.len (.var 45)))) (.ite (.or (.cmp .lt (.elem (.var 45) (.int .i64 0) 0 (.int .i64)) (.int .i64 0)) (.cmp .gt (.elem (.var 45) (.int .i64 0) 0 (.int .i64)) (.int .i64 4294967295))) tr_rParse_1 (.ob (.cmp .ge (.ar .add .i64 (.var 5) (.var 46)) (.int .i64 0)) (.ob (.cmp .le (.ar .add .i64 (.var 5) (.var 46)) (.len (.var 0))) (.call k_rNums [(.cut (.var 0) (.ar .add .i64 (.var 5) (.var 46)) (.len (.var 0))), (.int .i64 9)] [(.list 3), (.int .i64), (.int .i64)] (.ite (.cmp .ne (.var 50) (.int .i64 0)) tr_rParse_3 (.ob (.cmp .lt (.int .i64 0) (.len (.var 48))) (.ob (.cmp .lt (.int .i64 1) (.len (.var 48))) (.ob (.cmp .lt (.int .i64 2) (.len (.var 48))) (.ob (.cmp .lt (.int .i64 3) (.len (.var 48))) (.ob (.cmp .lt (.int .i64 4) (.len (.var 48))) (.ob (.cmp .lt (.int .i64 5) (.len (.var 48))) (.ob (.cmp .lt (.int .i64 6) (.len (.var 48))) (.ob (.cmp .lt (.int .i64 7) (.len (.var 48))) (.ob (.cmp .lt (.int .i64 8) (.len (.var 48))) (.both tr_rParse_5 tr_rParse_5))))))))))))))))))))) (.ob (.cmp .ge (.var 5) (.int .i64 0)) (.ob (.cmp .le (.var 5) (.len (.var 0))) (.call k_rTakeL [(.cut (.var 0) (.var 5) (.len (.var 0))), (.int .i64 400)] [(.list 3), (.int .i64), (.int .i64)] (.ite (.cmp .ne (.var 47) (.int .i64 0)) tr_rParse_2 (.ob (.cmp .ge (.ar .add .i64 (.var 5) (.var 46)) (.int .i64 0)) (.ob (.cmp .le (.ar .add .i64 (.var 5) (.var 46)) (.len (.var 0))) (.call k_rTakeL [(.cut (.var 0) (.ar .add .i64 (.var 5) (.var 46)) (.len (.var 0))), (.int .i64 400)] [(.list 3), (.int .i64), (.int .i64)] (.ite (.cmp .ne (.var 50) (.int .i64 0)) tr_rParse_3 (.ob (.cmp .ge (.ar .add .i64 (.ar .add .i64 (.var 5) (.var 46)) (.var 49)) (.int .i64 0)) (.ob (.cmp .le (.ar .add .i64 (.ar .add .i64 (.var 5) (.var 46)) (.var 49)) (.len (.var 0))) (.call k_rTakeL [(.cut (.var 0) (.ar .add .i64 (.ar .add .i64 (.var 5) (.var 46)) (.var 49)) (.len (.var 0))), (.int .i64 400)] [(.list 3), (.int .i64), (.int .i64)] (.ite (.cmp .ne (.var 53) (.int .i64 0)) (.ret [(.nil 50), (.nil 3), (.nil 3), (.nil 3), (.nil 3), (.nil 3), (.nil 3), (.nil 3), (.nil 3), (.nil 3), (.nil 3), (.nil 3), (.int .i64 0), (.int .i64 0), (.int .i64 0), (.int .i64 0), (.int .i64 0), (.int .i64 0), (.int .i64 0), (.int .i64 0), (.int .i64 0), (.int .i64 0), (.int .i64 0), (.int .i64 0), (.int .i64 0), (.int .i64 0), (.int .i64 0), (.int .i64 0), (.int .i64 0), (.int .i64 0), (.int .i64 0), (.int .i64 0), (.int .i64 0), (.int .i64 0), (.int .i64 0), (.int .i64 0), (.int .i64 0), (.var 53)]) (.ob (.cmp .ge (.ar .add .i64 (.ar .add .i64 (.ar .add .i64 (.var 5) (.var 46)) (.var 49)) (.var 52)) (.int .i64 0)) (.ob (.cmp .le (.ar .add .i64 (.ar .add .i64 (.ar .add .i64 (.var 5) (.var 46)) (.var 49)) (.var 52)) (.len (.var 0))) (.call k_rTakeL [(.cut (.var 0) (.ar .add .i64 (.ar .add .i64 (.ar .add .i64 (.var 5) (.var 46)) (.var 49)) (.var 52)) (.len (.var 0))), (.int .i64 400)] [(.list 3), (.int .i64), (.int .i64)] (.ite (.cmp .ne (.var 56) (.int .i64 0)) (.ret [(.nil 50), (.nil 3), (.nil 3), (.nil 3), (.nil 3), (.nil 3), (.nil 3), (.nil 3), (.nil 3), (.nil 3), (.nil 3), (.nil 3), (.int .i64 0), (.int .i64 0), (.int .i64 0), (.int .i64 0), (.int .i64 0), (.int .i64 0), (.int .i64 0), (.int .i64 0), (.int .i64 0), (.int .i64 0), (.int .i64 0), (.int .i64 0), (.int .i64 0), (.int .i64 0), (.int .i64 0), (.int .i64 0), (.int .i64 0), (.int .i64 0), (.int .i64 0), (.int .i64 0), (.int .i64 0), (.int .i64 0), (.int .i64 0), (.int .i64 0), (.int .i64 0), (.var 56)]) (.ob (.cmp .ge (.ar .add .i64 (.ar .add .i64 (.ar .add .i64 (.ar .add .i64 (.var 5) (.var 46)) (.var 49)) (.var 52)) (.var 55)) (.int .i64 0)) (.ob (.cmp .le (.ar .add .i64 (.ar .add .i64 (.ar .add .i64 (.ar .add .i64 (.var 5) (.var 46)) (.var 49)) (.var 52)) (.var 55)) (.len (.var 0))) (.call k_rTakeL [(.cut (.var 0) (.ar .add .i64 (.ar .add .i64 (.ar .add .i64 (.ar .add .i64 (.var 5) (.var 46)) (.var 49)) (.var 52)) (.var 55)) (.len (.var 0))), (.int .i64 400)] [(.list 3), (.int .i64), (.int .i64)] (.ite (.cmp .ne (.var 59) (.int .i64 0)) (.ret [(.nil 50), (.nil 3), (.nil 3), (.nil 3), (.nil 3), (.nil 3), (.nil 3), (.nil 3), (.nil 3), (.nil 3), (.nil 3), (.nil 3), (.int .i64 0), (.int .i64 0), (.int .i64 0), (.int .i64 0), (.int .i64 0), (.int .i64 0), (.int .i64 0), (.int .i64 0), (.int .i64 0), (.int .i64 0), (.int .i64 0), (.int .i64 0), (.int .i64 0), (.int .i64 0), (.int .i64 0), (.int .i64 0), (.int .i64 0), (.int .i64 0), (.int .i64 0), (.int .i64 0), (.int .i64 0), (.int .i64 0), (.int .i64 0), (.int .i64 0), (.int .i64 0), (.var 59)]) (.ob (.cmp .ge (.ar .add .i64 (.ar .add .i64 (.ar .add .i64 (.ar .add .i64 (.ar .add .i64 (.var 5) (.var 46)) (.var 49)) (.var 52)) (.var 55)) (.var 58)) (.int .i64 0)) (.ob (.cmp .le (.ar .add .i64 (.ar .add .i64 (.ar .add .i64 (.ar .add .i64 (.ar .add .i64 (.var 5) (.var 46)) (.var 49)) (.var 52)) (.var 55)) (.var 58)) (.len (.var 0))) (.call k_rTakeL [(.cut (.var 0) (.ar .add .i64 (.ar .add .i64 (.ar .add .i64 (.ar .add .i64 (.ar .add .i64 (.var 5) (.var 46)) (.var 49)) (.var 52)) (.var 55)) (.var 58)) (.len (.var 0))), (.int .i64 400)] [(.list 3), (.int .i64), (.int .i64)] (.ite (.cmp .ne (.var 62) (.int .i64 0)) (.ret [(.nil 50), (.nil 3), (.nil 3), (.nil 3), (.nil 3), (.nil 3), (.nil 3), (.nil 3), (.nil 3), (.nil 3), (.nil 3), (.nil 3), (.int .i64 0), (.int .i64 0), (.int .i64 0), (.int .i64 0), (.int .i64 0), (.int .i64 0), (.int .i64 0), (.int .i64 0), (.int .i64 0), (.int .i64 0), (.int .i64 0), (.int .i64 0), (.int .i64 0), (.int .i64 0), (.int .i64 0), (.int .i64 0), (.int .i64 0), (.int .i64 0), (.int .i64 0), (.int .i64 0), (.int .i64 0), (.int .i64 0), (.int .i64 0), (.int .i64 0), (.int .i64 0), (.var 62)]) (.ob (.cmp .ge (.ar .add .i64 (.ar .add .i64 (.ar .add .i64 (.ar .add .i64 (.ar .add .i64 (.ar .add .i64 (.var 5) (.var 46)) (.var 49)) (.var 52)) (.var 55)) (.var 58)) (.var 61)) (.int .i64 0)) (.ob (.cmp .le (.ar .add .i64 (.ar .add .i64 (.ar .add .i64 (.ar .add .i64 (.ar .add .i64 (.ar .add .i64 (.var 5) (.var 46)) (.var 49)) (.var 52)) (.var 55)) (.var 58)) (.var 61)) (.len (.var 0))) (.call k_rTakeL [(.cut (.var 0) (.ar .add .i64 (.ar .add .i64 (.ar .add .i64 (.ar .add .i64 (.ar .add .i64 (.ar .add .i64 (.var 5) (.var 46)) (.var 49)) (.var 52)) (.var 55)) (.var 58)) (.var 61)) (.len (.var 0))), (.int .i64 400)] [(.list 3), (.int .i64), (.int .i64)] (.ite (.cmp .ne (.var 65) (.int .i64 0)) (.ret [(.nil 50), (.nil 3), (.nil 3), (.nil 3), (.nil 3), (.nil 3), (.nil 3), (.nil 3), (.nil 3), (.nil 3), (.nil 3), (.nil 3), (.int .i64 0), (.int .i64 0), (.int .i64 0), (.int .i64 0), (.int .i64 0), (.int .i64 0), (.int .i64 0), (.int .i64 0), (.int .i64 0), (.int .i64 0), (.int .i64 0), (.int .i64 0), (.int .i64 0), (.int .i64 0), (.int .i64 0), (.int .i64 0), (.int .i64 0), (.int .i64 0), (.int .i64 0), (.int .i64 0), (.int .i64 0), (.int .i64 0), (.int .i64 0), (.int .i64 0), (.int .i64 0), (.var 65)]) (.ob (.cmp .ge (.ar .add .i64 (.ar .add .i64 (.ar .add .i64 (.ar .add .i64 (.ar .add .i64 (.ar .add .i64 (.ar .add .i64 (.var 5) (.var 46)) (.var 49)) (.var 52)) (.var 55)) (.var 58)) (.var 61)) (.var 64)) (.int .i64 0)) (.ob (.cmp .le (.ar .add .i64 (.ar .add .i64 (.ar .add .i64 (.ar .add .i64 (.ar .add .i64 (.ar .add .i64 (.ar .add .i64 (.var 5) (.var 46)) (.var 49)) (.var 52)) (.var 55)) (.var 58)) (.var 61)) (.var 64)) (.len (.var 0))) (.call k_rTakeL [(.cut (.var 0) (.ar .add .i64 (.ar .add .i64 (.ar .add .i64 (.ar .add .i64 (.ar .add .i64 (.ar .add .i64 (.ar .add .i64 (.var 5) (.var 46)) (.var 49)) (.var 52)) (.var 55)) (.var 58)) (.var 61)) (.var 64)) (.len (.var 0))), (.int .i64 400)] [(.list 3), (.int .i64), (.int .i64)] (.ite (.cmp .ne (.var 68) (.int .i64 0)) (.ret [(.nil 50), (.nil 3), (.nil 3), (.nil 3), (.nil 3), (.nil 3), (.nil 3), (.nil 3), (.nil 3), (.nil 3), (.nil 3), (.nil 3), (.int .i64 0), (.int .i64 0), (.int .i64 0), (.int .i64 0), (.int .i64 0), (.int .i64 0), (.int .i64 0), (.int .i64 0), (.int .i64 0), (.int .i64 0), (.int .i64 0), (.int .i64 0), (.int .i64 0), (.int .i64 0), (.int .i64 0), (.int .i64 0), (.int .i64 0), (.int .i64 0), (.int .i64 0), (.int .i64 0), (.int .i64 0), (.int .i64 0), (.int .i64 0), (.int .i64 0), (.int .i64 0), (.var 68)]) (.ob (.cmp .ge (.ar .add .i64 (.ar .add .i64 (.ar .add .i64 (.ar .add .i64 (.ar .add .i64 (.ar .add .i64 (.ar .add .i64 (.ar .add .i64 (.var 5) (.var 46)) (.var 49)) (.var 52)) (.var 55)) (.var 58)) (.var 61)) (.var 64)) (.var 67)) (.int .i64 0)) (.ob (.cmp .le (.ar .add .i64 (.ar .add .i64 (.ar .add .i64 (.ar .add .i64 (.ar .add .i64 (.ar .add .i64 (.ar .add .i64 (.ar .add .i64 (.var 5) (.var 46)) (.var 49)) (.var 52)) (.var 55)) (.var 58)) (.var 61)) (.var 64)) (.var 67)) (.len (.var 0))) (.call k_rTakeL [(.cut (.var 0) (.ar .add .i64 (.ar .add .i64 (.ar .add .i64 (.ar .add .i64 (.ar .add .i64 (.ar .add .i64 (.ar .add .i64 (.ar .add .i64 (.var 5) (.var 46)) (.var 49)) (.var 52)) (.var 55)) (.var 58)) (.var 61)) (.var 64)) (.var 67)) (.len (.var 0))), (.int .i64 400)] [(.list 3), (.int .i64), (.int .i64)] (.ite (.cmp .ne (.var 71) (.int .i64 0)) (.ret [(.nil 50), (.nil 3), (.nil 3), (.nil 3), (.nil 3), (.nil 3), (.nil 3), (.nil 3), (.nil 3), (.nil 3), (.nil 3), (.nil 3), (.int .i64 0), (.int .i64 0), (.int .i64 0), (.int .i64 0), (.int .i64 0), (.int .i64 0), (.int .i64 0), (.int .i64 0), (.int .i64 0), (.int .i64 0), (.int .i64 0), (.int .i64 0), (.int .i64 0), (.int .i64 0), (.int .i64 0), (.int .i64 0), (.int .i64 0), (.int .i64 0), (.int .i64 0), (.int .i64 0), (.int .i64 0), (.int .i64 0), (.int .i64 0), (.int .i64 0), (.int .i64 0), (.var 71)]) (.ob (.cmp .ge (.ar .add .i64 (.ar .add .i64 (.ar .add .i64 (.ar .add .i64 (.ar .add .i64 (.ar .add .i64 (.ar .add .i64 (.ar .add .i64 (.ar .add .i64 (.var 5) (.var 46)) (.var 49)) (.var 52)) (.var 55)) (.var 58)) (.var 61)) (.var 64)) (.var 67)) (.var 70)) (.int .i64 0)) (.ob (.cmp .le (.ar .add .i64 (.ar .add .i64 (.ar .add .i64 (.ar .add .i64 (.ar .add .i64 (.ar .add .i64 (.ar .add .i64 (.ar .add .i64 (.ar .add .i64 (.var 5) (.var 46)) (.var 49)) (.var 52)) (.var 55)) (.var 58)) (.var 61)) (.var 64)) (.var 67)) (.var 70)) (.len (.var 0))) (.call k_rTakeL [(.cut (.var 0) (.ar .add .i64 (.ar .add .i64 (.ar .add .i64 (.ar .add .i64 (.ar .add .i64 (.ar .add .i64 (.ar .add .i64 (.ar .add .i64 (.ar .add .i64 (.var 5) (.var 46)) (.var 49)) (.var 52)) (.var 55)) (.var 58)) (.var 61)) (.var 64)) (.var 67)) (.var 70)) (.len (.var 0))), (.int .i64 400)] [(.list 3), (.int .i64), (.int .i64)] (.ite (.cmp .ne (.var 74) (.int .i64 0)) (.ret [(.nil 50), (.nil 3), (.nil 3), (.nil 3), (.nil 3), (.nil 3), (.nil 3), (.nil 3), (.nil 3), (.nil 3), (.nil 3), (.nil 3), (.int .i64 0), (.int .i64 0), (.int .i64 0), (.int .i64 0), (.int .i64 0), (.int .i64 0), (.int .i64 0), (.int .i64 0), (.int .i64 0), (.int .i64 0), (.int .i64 0), (.int .i64 0), (.int .i64 0), (.int .i64 0), (.int .i64 0), (.int .i64 0), (.int .i64 0), (.int .i64 0), (.int .i64 0), (.int .i64 0), (.int .i64 0), (.int .i64 0), (.int .i64 0), (.int .i64 0), (.int .i64 0), (.var 74)]) (.ob (.cmp .ge (.ar .add .i64 (.ar .add .i64 (.ar .add .i64 (.ar .add .i64 (.ar .add .i64 (.ar .add .i64 (.ar .add .i64 (.ar .add .i64 (.ar .add .i64 (.ar .add .i64 (.var 5) (.var 46)) (.var 49)) (.var 52)) (.var 55)) (.var 58)) (.var 61)) (.var 64)) (.var 67)) (.var 70)) (.var 73)) (.int .i64 0)) (.ob (.cmp .le (.ar .add .i64 (.ar .add .i64 (.ar .add .i64 (.ar .add .i64 (.ar .add .i64 (.ar .add .i64 (.ar .add .i64 (.ar .add .i64 (.ar .add .i64 (.ar .add .i64 (.var 5) (.var 46)) (.var 49)) (.var 52)) (.var 55)) (.var 58)) (.var 61)) (.var 64)) (.var 67)) (.var 70)) (.var 73)) (.len (.var 0))) (.call k_rTakeL [(.cut (.var 0) (.ar .add .i64 (.ar .add .i64 (.ar .add .i64 (.ar .add .i64 (.ar .add .i64 (.ar .add .i64 (.ar .add .i64 (.ar .add .i64 (.ar .add .i64 (.ar .add .i64 (.var 5) (.var 46)) (.var 49)) (.var 52)) (.var 55)) (.var 58)) (.var 61)) (.var 64)) (.var 67)) (.var 70)) (.var 73)) (.len (.var 0))), (.int .i64 400)] [(.list 3), (.int .i64), (.int .i64)] (.ite (.cmp .ne (.var 77) (.int .i64 0)) (.ret [(.nil 50), (.nil 3), (.nil 3), (.nil 3), (.nil 3), (.nil 3), (.nil 3), (.nil 3), (.nil 3), (.nil 3), (.nil 3), (.nil 3), (.int .i64 0), (.int .i64 0), (.int .i64 0), (.int .i64 0), (.int .i64 0), (.int .i64 0), (.int .i64 0), (.int .i64 0), (.int .i64 0), (.int .i64 0), (.int .i64 0), (.int .i64 0), (.int .i64 0), (.int .i64 0), (.int .i64 0), (.int .i64 0), (.int .i64 0), (.int .i64 0), (.int .i64 0), (.int .i64 0), (.int .i64 0), (.int .i64 0), (.int .i64 0), (.int .i64 0), (.int .i64 0), (.var 77)]) (.ob (.cmp .ge (.ar .add .i64 (.ar .add .i64 (.ar .add .i64 (.ar .add .i64 (.ar .add .i64 (.ar .add .i64 (.ar .add .i64 (.ar .add .i64 (.ar .add .i64 (.ar .add .i64 (.ar .add .i64 (.var 5) (.var 46)) (.var 49)) (.var 52)) (.var 55)) (.var 58)) (.var 61)) (.var 64)) (.var 67)) (.var 70)) (.var 73)) (.var 76)) (.int .i64 0)) (.ob (.cmp .le (.ar .add .i64 (.ar .add .i64 (.ar .add .i64 (.ar .add .i64 (.ar .add .i64 (.ar .add .i64 (.ar .add .i64 (.ar .add .i64 (.ar .add .i64 (.ar .add .i64 (.ar .add .i64 (.var 5) (.var 46)) (.var 49)) (.var 52)) (.var 55)) (.var 58)) (.var 61)) (.var 64)) (.var 67)) (.var 70)) (.var 73)) (.var 76)) (.len (.var 0))) (.call k_rNums [(.cut (.var 0) (.ar .add .i64 (.ar .add .i64 (.ar .add .i64 (.ar .add .i64 (.ar .add .i64 (.ar .add .i64 (.ar .add .i64 (.ar .add .i64 (.ar .add .i64 (.ar .add .i64 (.ar .add .i64 (.var 5) (.var 46)) (.var 49)) (.var 52)) (.var 55)) (.var 58)) (.var 61)) (.var 64)) (.var 67)) (.var 70)) (.var 73)) (.var 76)) (.len (.var 0))), (.int .i64 25)] [(.list 3), (.int .i64), (.int .i64)] (.ite (.cmp .ne (.var 80) (.int .i64 0)) (.ret [(.nil 50), (.nil 3), (.nil 3), (.nil 3), (.nil 3), (.nil 3), (.nil 3), (.nil 3), (.nil 3), (.nil 3), (.nil 3), (.nil 3), (.int .i64 0), (.int .i64 0), (.int .i64 0), (.int .i64 0), (.int .i64 0), (.int .i64 0), (.int .i64 0), (.int .i64 0), (.int .i64 0), (.int .i64 0), (.int .i64 0), (.int .i64 0), (.int .i64 0), (.int .i64 0), (.int .i64 0), (.int .i64 0), (.int .i64 0), (.int .i64 0), (.int .i64 0), (.int .i64 0), (.int .i64 0), (.int .i64 0), (.int .i64 0), (.int .i64 0), (.int .i64 0), (.var 80)]) (.ob (.cmp .lt (.int .i64 0) (.len (.var 78))) (.ob (.cmp .lt (.int .i64 9) (.len (.var 78))) (.ob (.cmp .lt (.int .i64 1) (.len (.var 78))) (.ob (.cmp .lt (.int .i64 10) (.len (.var 78))) (.ob (.cmp .lt (.int .i64 2) (.len (.var 78))) (.ob (.cmp .lt (.int .i64 11) (.len (.var 78))) (.ob (.cmp .lt (.int .i64 3) (.len (.var 78))) (.ob (.cmp .lt (.int .i64 12) (.len (.var 78))) (.ob (.cmp .lt (.int .i64 4) (.len (.var 78))) (.ob (.cmp .lt (.int .i64 13) (.len (.var 78))) (.ob (.cmp .lt (.int .i64 5) (.len (.var 78))) (.ob (.cmp .lt (.int .i64 14) (.len (.var 78))) (.ob (.cmp .lt (.int .i64 6) (.len (.var 78))) (.ob (.cmp .lt (.int .i64 15) (.len (.var 78))) (.ob (.cmp .lt (.int .i64 7) (.len (.var 78))) (.ob (.cmp .lt (.int .i64 16) (.len (.var 78))) (.ob (.cmp .lt (.int .i64 8) (.len (.var 78))) (.ob (.cmp .lt (.int .i64 17) (.len (.var 78))) (.ob (.cmp .lt (.int .i64 18) (.len (.var 78))) (.ob (.cmp .lt (.int .i64 19) (.len (.var 78))) (.ob (.cmp .lt (.int .i64 20) (.len (.var 78))) (.ob (.cmp .lt (.int .i64 21) (.len (.var 78))) (.ob (.cmp .lt (.int .i64 22) (.len (.var 78))) (.ob (.cmp .lt (.int .i64 23) (.len (.var 78))) (.ob (.cmp .lt (.int .i64 24) (.len (.var 78))) (.ite (.cmp .lt (.ar .add .i64 (.ar .add .i64 (.ar .add .i64 (.ar .add .i64 (.ar .add .i64 (.ar .add .i64 (.ar .add .i64 (.ar .add .i64 (.ar .add .i64 (.ar .add .i64 (.ar .add .i64 (.ar .add .i64 (.var 5) (.var 46)) (.var 49)) (.var 52)) (.var 55)) (.var 58)) (.var 61)) (.var 64)) (.var 67)) (.var 70)) (.var 73)) (.var 76)) (.var 79)) (.len (.var 0))) (.ret [(.nil 50), (.nil 3), (.nil 3), (.nil 3), (.nil 3), (.nil 3), (.nil 3), (.nil 3), (.nil 3), (.nil 3), (.nil 3), (.nil 3), (.int .i64 0), (.int .i64 0), (.int .i64 0), (.int .i64 0), (.int .i64 0), (.int .i64 0), (.int .i64 0), (.int .i64 0), (.int .i64 0), (.int .i64 0), (.int .i64 0), (.int .i64 0), (.int .i64 0), (.int .i64 0), (.int .i64 0), (.int .i64 0), (.int .i64 0), (.int .i64 0), (.int .i64 0), (.int .i64 0), (.int .i64 0), (.int .i64 0), (.int .i64 0), (.int .i64 0), (.int .i64 0), (.int .i64 3)]) (.share 50 (.var 44) (.call k_rCheck [(.var 81), (.var 45), (.var 48), (.var 51), (.var 54), (.var 57), (.var 60), (.var 63), (.var 66), (.var 69), (.var 72), (.var 75), (.elem (.var 78) (.int .i64 0) 0 (.int .i64)), (.elem (.var 78) (.int .i64 1) 0 (.int .i64)), (.elem (.var 78) (.int .i64 2) 0 (.int .i64)), (.elem (.var 78) (.int .i64 3) 0 (.int .i64)), (.elem (.var 78) (.int .i64 4) 0 (.int .i64)), (.elem (.var 78) (.int .i64 5) 0 (.int .i64)), (.elem (.var 78) (.int .i64 6) 0 (.int .i64)), (.elem (.var 78) (.int .i64 7) 0 (.int .i64)), (.elem (.var 78) (.int .i64 8) 0 (.int .i64)), (.elem (.var 78) (.int .i64 9) 0 (.int .i64)), (.elem (.var 78) (.int .i64 10) 0 (.int .i64)), (.elem (.var 78) (.int .i64 11) 0 (.int .i64)), (.elem (.var 78) (.int .i64 12) 0 (.int .i64)), (.elem (.var 78) (.int .i64 13) 0 (.int .i64)), (.elem (.var 78) (.int .i64 14) 0 (.int .i64)), (.elem (.var 78) (.int .i64 15) 0 (.int .i64)), (.elem (.var 78) (.int .i64 16) 0 (.int .i64)), (.elem (.var 78) (.int .i64 17) 0 (.int .i64)), (.elem (.var 78) (.int .i64 18) 0 (.int .i64)), (.elem (.var 78) (.int .i64 19) 0 (.int .i64)), (.elem (.var 78) (.int .i64 20) 0 (.int .i64)), (.elem (.var 78) (.int .i64 21) 0 (.int .i64)), (.elem (.var 78) (.int .i64 22) 0 (.int .i64)), (.elem (.var 78) (.int .i64 23) 0 (.int .i64)), (.elem (.var 78) (.int .i64 24) 0 (.int .i64))] [(.int .i64)] (.ite (.cmp .ne (.var 82) (.int .i64 0)) (.ret [(.nil 50), (.nil 3), (.nil 3), (.nil 3), (.nil 3), (.nil 3), (.nil 3), (.nil 3), (.nil 3), (.nil 3), (.nil 3), (.nil 3), (.int .i64 0), (.int .i64 0), (.int .i64 0), (.int .i64 0), (.int .i64 0), (.int .i64 0), (.int .i64 0), (.int .i64 0), (.int .i64 0), (.int .i64 0), (.int .i64 0), (.int .i64 0), (.int .i64 0), (.int .i64 0), (.int .i64 0), (.int .i64 0), (.int .i64 0), (.int .i64 0), (.int .i64 0), (.int .i64 0), (.int .i64 0), (.int .i64 0), (.int .i64 0), (.int .i64 0), (.int .i64 0), (.var 82)]) (.ret [(.var 81), (.var 45), (.var 48), (.var 51), (.var 54), (.var 57), (.var 60), (.var 63), (.var 66), (.var 69), (.var 72), (.var 75), (.elem (.var 78) (.int .i64 0) 0 (.int .i64)), (.elem (.var 78) (.int .i64 1) 0 (.int .i64)), (.elem (.var 78) (.int .i64 2) 0 (.int .i64)), (.elem (.var 78) (.int .i64 3) 0 (.int .i64)), (.elem (.var 78) (.int .i64 4) 0 (.int .i64)), (.elem (.var 78) (.int .i64 5) 0 (.int .i64)), (.elem (.var 78) (.int .i64 6) 0 (.int .i64)), (.elem (.var 78) (.int .i64 7) 0 (.int .i64)), (.elem (.var 78) (.int .i64 8) 0 (.int .i64)), (.elem (.var 78) (.int .i64 9) 0 (.int .i64)), (.elem (.var 78) (.int .i64 10) 0 (.int .i64)), (.elem (.var 78) (.int .i64 11) 0 (.int .i64)), (.elem (.var 78) (.int .i64 12) 0 (.int .i64)), (.elem (.var 78) (.int .i64 13) 0 (.int .i64)), (.elem (.var 78) (.int .i64 14) 0 (.int .i64)), (.elem (.var 78) (.int .i64 15) 0 (.int .i64)), (.elem (.var 78) (.int .i64 16) 0 (.int .i64)), (.elem (.var 78) (.int .i64 17) 0 (.int .i64)), (.elem (.var 78) (.int .i64 18) 0 (.int .i64)), (.elem (.var 78) (.int .i64 19) 0 (.int .i64)), (.elem (.var 78) (.int .i64 20) 0 (.int .i64)), (.elem (.var 78) (.int .i64 21) 0 (.int .i64)), (.elem (.var 78) (.int .i64 22) 0 (.int .i64)), (.elem (.var 78) (.int .i64 23) 0 (.int .i64)), (.elem (.var 78) (.int .i64 24) 0 (.int .i64)), (.int .i64 0)])))))))))))))))))))))))))))))))))))))))))))))))))))))))))))))))))))))))))))))))
def tr_rParse : Tree := (.call k_rNums [(.var 0), (.int .i64 1)] [(.list 3), (.int .i64), (.int .i64)] (.ite (.cmp .ne (.var 3) (.int .i64 0)) (.ret [(.nil 50), (.nil 3), (.nil 3), (.nil 3), (.nil 3), (.nil 3), (.nil 3), (.nil 3), (.nil 3), (.nil 3), (.nil 3), (.nil 3), (.int .i64 0), (.int .i64 0), (.int .i64 0), (.int .i64 0), (.int .i64 0), (.int .i64 0), (.int .i64 0), (.int .i64 0), (.int .i64 0), (.int .i64 0), (.int .i64 0), (.int .i64 0), (.int .i64 0), (.int .i64 0), (.int .i64 0), (.int .i64 0), (.int .i64 0), (.int .i64 0), (.int .i64 0), (.int .i64 0), (.int .i64 0), (.int .i64 0), (.int .i64 0), (.int .i64 0), (.int .i64 0), (.var 3)]) (.ob (.cmp .lt (.int .i64 0) (.len (.var 1))) (.ite (.cmp .lt (.elem (.var 1) (.int .i64 0) 0 (.int .i64)) (.int .i64 0)) tr_rParse_1 (.ob (.cmp .lt (.int .i64 0) (.len (.var 1))) (.ite (.cmp .gt (.elem (.var 1) (.int .i64 0) 0 (.int .i64)) (.int .i64 400)) (.ret [(.nil 50), (.nil 3), (.nil 3), (.nil 3), (.nil 3), (.nil 3), (.nil 3), (.nil 3), (.nil 3), (.nil 3), (.nil 3), (.nil 3), (.int .i64 0), (.int .i64 0), (.int .i64 0), (.int .i64 0), (.int .i64 0), (.int .i64 0), (.int .i64 0), (.int .i64 0), (.int .i64 0), (.int .i64 0), (.int .i64 0), (.int .i64 0), (.int .i64 0), (.int .i64 0), (.int .i64 0), (.int .i64 0), (.int .i64 0), (.int .i64 0), (.int .i64 0), (.int .i64 0), (.int .i64 0), (.int .i64 0), (.int .i64 0), (.int .i64 0), (.int .i64 0), (.int .i64 5)]) (.ob (.cmp .lt (.int .i64 0) (.len (.var 1))) (.loop [(.int .i64 0), (.var 2), (.elem (.var 1) (.int .i64 0) 0 (.int .i64)), .emp, (.nil 3), (.nil 3), (.nil 3), (.nil 3), (.nil 3), (.nil 3), (.nil 3), (.nil 3), (.nil 3), (.nil 3), (.nil 3), (.int .i64 0), (.int .i64 0), (.int .i64 0), (.int .i64 0), (.int .i64 0), (.int .i64 0), (.int .i64 0), (.int .i64 0), (.int .i64 0), (.int .i64 0), (.int .i64 0), (.int .i64 0), (.int .i64 0), (.int .i64 0), (.int .i64 0), (.int .i64 0), (.int .i64 0), (.int .i64 0), (.int .i64 0), (.int .i64 0), (.int .i64 0), (.int .i64 0), (.int .i64 0), (.int .i64 0), (.int .i64 0), .emp] [(.int .i64), (.int .i64), (.int .i64), (.rows 50), (.list 3), (.list 3), (.list 3), (.list 3), (.list 3), (.list 3), (.list 3), (.list 3), (.list 3), (.list 3), (.list 3), (.int .i64), (.int .i64), (.int .i64), (.int .i64), (.int .i64), (.int .i64), (.int .i64), (.int .i64), (.int .i64), (.int .i64), (.int .i64), (.int .i64), (.int .i64), (.int .i64), (.int .i64), (.int .i64), (.int .i64), (.int .i64), (.int .i64), (.int .i64), (.int .i64), (.int .i64), (.int .i64), (.int .i64), (.int .i64), (.rows 50)] tr_rParse_6))))))))
theorem wk_rParse : walk E0.cx (sgsN [(9, sg_rCheck), (29, sg_rNums), (31, sg_rTakeL), (30, sg_rObj3)]) 0 13 sg_rParse = tr_rParse := by kernel_rfl
theorem bo_rParse : ∃ x, bodyOf E0.P 13 = some x := bo_of (by kernel_rfl)
theorem sp_rParse_rCheck : specC [con_rCheck, con_rNums, con_rTakeL, con_rObj3] k_rCheck = rCheck_s := rfl
theorem sp_rParse_rNums : specC [con_rCheck, con_rNums, con_rTakeL, con_rObj3] k_rNums = rNums_s := rfl
theorem sp_rParse_rTakeL : specC [con_rCheck, con_rNums, con_rTakeL, con_rObj3] k_rTakeL = rTakeL_s := rfl
theorem sp_rParse_rObj3 : specC [con_rCheck, con_rNums, con_rTakeL, con_rObj3] k_rObj3 = rObj3_s := rfl
end Go.Proofs.YtnhahmgbgocdgaaDoor
end

section
namespace Go.Proofs.YtnhahmgbgocdgaaDoor
open Go.RowKit
set_option linter.unusedVariables false
set_option linter.unusedSimpArgs false
set_option maxRecDepth 100000
set_option maxHeartbeats 2000000

theorem tkN1 (b : List Nat) : mth.tkN 1 b = if (mth.tk 0 0 b).2.2 = 0 then ([(mth.tk 0 0 b).1], b.drop (mth.tk 0 0 b).2.1, 0) else ([], [], (mth.tk 0 0 b).2.2) := by
  by_cases h : (mth.tk 0 0 b).2.2 = 0
  · rw [if_pos h, mth.pre_start, pre_step' h, mth.pre_end]; rfl
  · rw [if_neg h, mth.pre_start, pre_bad' h]
theorem tkN_len {m : Nat} {b : List Nat} (hb : bytes b) (h : (mth.tkN m b).2.2 = 0) : (mth.tkN m b).1.length = m :=
  (mth.tkN_canon m b (mth.tkN m b).1 (mth.tkN m b).2.1 hb (by rw [← h])).2.1
theorem LstG.bad {l r : List Nat} {z : Nat} {os : Dat} {ls : List Dat} (h : LstG l z os ls r) (hz : z < 11) (h0 : (mth.tkL r 400).2.2 ≠ 0) : (pState l).2 = (mth.tkL r 400).2.2 := by
  obtain ⟨O, acc, h1, h2, h3⟩ := h
  change (pList r).2.2 ≠ 0 at h0
  show (pState l).2 = (pList r).2.2
  rw [h1, show 11 - z = (11 - (z + 1)) + 1 by omega, preA_bad h0, pLists, if_pos h0]
theorem LstG.next {l r r' : List Nat} {z : Nat} {os d : Dat} {ls : List Dat} (h : LstG l z os ls r) (hb : bytes r) (hz : z < 11) (hl : ls.length = 11) (h0 : (mth.tkL r 400).2.2 = 0) (hd : d.xs = i64R (mth.tkL r 400).1) (hr : (mth.tkL r 400).2.1 = r') : LstG l (z + 1) os (ls.set z d) r' := by
  obtain ⟨O, acc, h1, h2, h3⟩ := h
  change (pList r).2.2 = 0 at h0
  change d.xs = i64R (pList r).1 at hd
  change (pList r).2.1 = r' at hr
  refine ⟨O, acc ++ [(pList r).1], by rw [h1, show 11 - z = (11 - (z + 1)) + 1 by omega, preA_step h0, hr], by rw [List.length_append, h2]; rfl, h3.more h2 (by omega) hd (tkL_small hb h0)⟩
def rParse_s : Spec := fun ds Q => ∃ l : List Nat, argL ds 0 = u8R l ∧ bytes l ∧ l.length ≤ 90000000 ∧ ∀ rs e, rs.length = 37 → Parsed l rs e → Q (rs ++ [.int .i64 e])
def IR (l : List Nat) (N : Int) : Inv := fun xs m => ∃ (a : Int) (j i : Nat) (o : Dat) (ls : List Dat) (cs : List Int) (rows : List (List Dat)), xs = .int .i64 a :: .int .i64 j :: .int .i64 i :: o :: (ls ++ intsD cs ++ [.rows rows]) ∧ ls.length = 11 ∧ cs.length = 25 ∧ m = i ∧ rows.length + i = N.toNat ∧ j ≤ l.length ∧ ObjG l N rows.length (.rows rows) (l.drop j)
theorem quad {H : Int} {r : List Int} {d1 d2 : Dat} (h1 : d1.xs = i64R [H]) (h2 : d2.xs = i64R r) : ((d1.xs.getD (Int.toNat 0) []).getD 0 (Dat.int .i64 0)).toInt = H ∧ ∀ t : Nat, t < r.length → ((d2.xs.getD t []).getD 0 (Dat.int .i64 0)).toInt = r.getD t 0 := by
  rw [h1, h2]
  refine ⟨rfl, fun t ht => ?_⟩
  simp only [i64R, List.getD_eq_getElem?_getD, List.getElem?_map, List.getElem?_eq_getElem ht, Option.map_some, Option.getD_some]
  rfl
theorem R4 {l : List Nat} (hn : l.length ≤ 90000000) {Φ : Nat → Spec} {Q : List Dat → Prop} (s4 : Φ k_rObj3 = rObj3_s) {ds : List Dat} (hl : ds.length = 4) {N H : Int} {j i k k2 : Nat} {rows : List (List Dat)} {a b1 b2 c0 c1 c2 c3 c4 c5 c6 c7 c8 c9 c10 c11 c12 c13 c14 c15 c16 c17 c18 c19 c20 c21 c22 c23 c24 : Int} {o d1 d2 l1 l2 l3 l4 l5 l6 l7 l8 l9 l10 l11 : Dat} {r : List Int} (hi : rows.length + (i + 1) = N.toNat) (hN : N ≤ 400) (hj : j + k + k2 ≤ l.length) (h1 : d1.xs = i64R [H]) (hH : 0 ≤ H ∧ H ≤ 4294967295) (h2 : d2.xs = i64R r) (hr : r.length = 9)
    (hbad : 2097152 ≤ H → Q (zeroD ++ [.int .i64 2])) (hO : H < 2097152 → ObjG l N (rows.length + 1) (.rows (rows ++ [intsD (objOf H r)])) (l.drop (j + k + k2))) :
    wp E0.Δ Φ Q tr_rParse_4 (ds ++ [.int .i64 a, .int .i64 j, .int .i64 (i + 1 : Nat), o, l1, l2, l3, l4, l5, l6, l7, l8, l9, l10, l11, .int .i64 c0, .int .i64 c1, .int .i64 c2, .int .i64 c3, .int .i64 c4, .int .i64 c5, .int .i64 c6, .int .i64 c7, .int .i64 c8, .int .i64 c9, .int .i64 c10, .int .i64 c11, .int .i64 c12, .int .i64 c13, .int .i64 c14, .int .i64 c15, .int .i64 c16, .int .i64 c17, .int .i64 c18, .int .i64 c19, .int .i64 c20, .int .i64 c21, .int .i64 c22, .int .i64 c23, .int .i64 c24, .rows rows, d1, .int .i64 k, .int .i64 b1, d2, .int .i64 k2, .int .i64 b2]) [(IR l N, i + 1)] := by
  unfold tr_rParse_4
  obtain ⟨q1, q2⟩ := quad h1 h2
  have hH1 : IntKind.u32.wrap H = (H.toNat : Int) := by rw [IntKind.wrap_u32]; omega
  have hH2 : (H.toNat : Int) = H := by omega
  obtain ⟨x0, x1, x2, x3, x4, x5, x6, x7, x8, rfl⟩ := len9 hr
  have p := fun t (ht : t < 9) => q2 t ht
  change Φ k_rObj3 _ _
  rw [s4]
  have zz : List.replicate 18 (Dat.int .i64 0) = [.int .i64 0, .int .i64 0, .int .i64 0, .int .i64 0, .int .i64 0, .int .i64 0, .int .i64 0, .int .i64 0, .int .i64 0, .int .i64 0, .int .i64 0, .int .i64 0, .int .i64 0, .int .i64 0, .int .i64 0, .int .i64 0, .int .i64 0, .int .i64 0] := rfl
  refine ⟨H.toNat, [x0, x1, x2, x3, x4, x5, x6, x7, x8], by omega, rfl, ?_, fun hb => ?_, fun hb => ?_⟩
  · simp only [List.map_cons, List.map_nil, den_conv, wp, den_int, den_bool, den_nili, den_ar, den_cmp, den_not, den_len, den_elem, den_isnil, den_errI, den_ifc, den_rep, den_push, den_app, den_emp, den_upd, row0_econs, row0_enil, den_and, den_beq, den_nil, toInt_int, toBool_bool, xs_rows, xs_list, dflt_int, dflt_bool, of_eq, of_ne, of_lt, of_le, of_gt, of_ge, of_add, of_sub, of_rem, List.map_cons, List.map_nil, Dat.bool.injEq, decide_eq_true_eq, decide_eq_false_iff_not, Bool.not_eq_true', Bool.not_eq_false', beq_iff_eq, bne_iff_ne, beq_eq_false_iff_ne, bne_eq_false_iff_eq, ne_eq, List.append_assoc, List.cons_append, List.nil_append, @den_var0 E0.Δ ds, den_varA, den_varB, hl, Nat.reduceLT, Nat.reduceLeDiff, Nat.reduceSub, List.getD_cons_zero, List.getD_cons_succ, argL_fold ds, argI_fold ds, List.append_assoc, List.cons_append, List.nil_append, toInt_int, toBool_bool, xs_rows, xs_list, Int.toNat_natCast, Dat.bool.injEq, h1, h2]
    show [Dat.int .u32 (IntKind.u32.wrap H), Dat.int .i64 x0, Dat.int .i64 x1, Dat.int .i64 x2, Dat.int .i64 x3, Dat.int .i64 x4, Dat.int .i64 x5, Dat.int .i64 x6, Dat.int .i64 x7, Dat.int .i64 x8] = _
    rw [hH1]; rfl
  · have := hbad (by omega)
    rw [zz]
    simp only [wp, den_int, den_bool, den_nili, den_ar, den_cmp, den_not, den_len, den_elem, den_isnil, den_errI, den_ifc, den_rep, den_push, den_app, den_emp, den_upd, row0_econs, row0_enil, den_and, den_beq, den_nil, toInt_int, toBool_bool, xs_rows, xs_list, dflt_int, dflt_bool, of_eq, of_ne, of_lt, of_le, of_gt, of_ge, of_add, of_sub, of_rem, List.map_cons, List.map_nil, Dat.bool.injEq, decide_eq_true_eq, decide_eq_false_iff_not, Bool.not_eq_true', Bool.not_eq_false', beq_iff_eq, bne_iff_ne, beq_eq_false_iff_ne, bne_eq_false_iff_eq, ne_eq, List.append_assoc, List.cons_append, List.nil_append, allS, @den_var0 E0.Δ ds, den_varA, den_varB, hl, Nat.reduceLT, Nat.reduceLeDiff, Nat.reduceSub, List.getD_cons_zero, List.getD_cons_succ, argL_fold ds, argI_fold ds, List.append_assoc, List.cons_append, List.nil_append, toInt_int, toBool_bool, xs_rows, xs_list, Int.toNat_natCast, Dat.bool.injEq]
    exact ⟨fun _ => this, fun hh => absurd hh (by decide)⟩
  · have hO := hO (by omega)
    rw [hH2]
    generalize hg : objOf H [x0, x1, x2, x3, x4, x5, x6, x7, x8] = og at *
    have hog : og.length = 18 := by rw [← hg]; rfl
    clear hg
    match og, hog with
    | [o0, o1, o2, o3, o4, o5, o6, o7, o8, o9, o10, o11, o12, o13, o14, o15, o16, o17], _ =>
    simp only [wp, den_int, den_bool, den_nili, den_ar, den_cmp, den_not, den_len, den_elem, den_isnil, den_errI, den_ifc, den_rep, den_push, den_app, den_emp, den_upd, row0_econs, row0_enil, den_and, den_beq, den_nil, toInt_int, toBool_bool, xs_rows, xs_list, dflt_int, dflt_bool, of_eq, of_ne, of_lt, of_le, of_gt, of_ge, of_add, of_sub, of_rem, List.map_cons, List.map_nil, Dat.bool.injEq, decide_eq_true_eq, decide_eq_false_iff_not, Bool.not_eq_true', Bool.not_eq_false', beq_iff_eq, bne_iff_ne, beq_eq_false_iff_ne, bne_eq_false_iff_eq, ne_eq, List.append_assoc, List.cons_append, List.nil_append, allS, intsD, List.map_cons, List.map_nil, @den_var0 E0.Δ ds, den_varA, den_varB, hl, Nat.reduceLT, Nat.reduceLeDiff, Nat.reduceSub, List.getD_cons_zero, List.getD_cons_succ, argL_fold ds, argI_fold ds, List.append_assoc, List.cons_append, List.nil_append, toInt_int, toBool_bool, xs_rows, xs_list, Int.toNat_natCast, Dat.bool.injEq]
    have e2 : (rows ++ [intsD [o0, o1, o2, o3, o4, o5, o6, o7, o8, o9, o10, o11, o12, o13, o14, o15, o16, o17]]).length = rows.length + 1 := by rw [List.length_append]; rfl
    have w1 : IntKind.i64.wrap ((j : Int) + (k : Int)) = ((j + k : Nat) : Int) := wrap64 (by omega) (by omega)
    have w2 : IntKind.i64.wrap (((j + k : Nat) : Int) + (k2 : Int)) = ((j + k + k2 : Nat) : Int) := wrap64 (by omega) (by omega)
    have w3 : IntKind.i64.wrap (((i + 1 : Nat) : Int) - 1) = (i : Int) := by rw [show ((i + 1 : Nat) : Int) - 1 = (i : Int) by omega]; exact wrap64 (by omega) (by omega)
    refine ⟨fun hh => absurd trivial hh, fun _ A => ⟨?_, i, by omega, a, j + k + k2, i, o, [l1, l2, l3, l4, l5, l6, l7, l8, l9, l10, l11], [c0, c1, c2, c3, c4, c5, c6, c7, c8, c9, c10, c11, c12, c13, c14, c15, c16, c17, c18, c19, c20, c21, c22, c23, c24], rows ++ [intsD [o0, o1, o2, o3, o4, o5, o6, o7, o8, o9, o10, o11, o12, o13, o14, o15, o16, o17]], by rw [w1, w2, w3]; rfl, rfl, rfl, rfl, by rw [e2]; omega, hj, by rw [e2]; exact hO⟩⟩
    show ((rows ++ [intsD [o0, o1, o2, o3, o4, o5, o6, o7, o8, o9, o10, o11, o12, o13, o14, o15, o16, o17]]).length : Int) ≤ _
    rw [e2]; omega
theorem ObjG.one {l : List Nat} {N : Int} {k : Nat} {os : Dat} {r r1 : List Nat} (h : ObjG l N k os r) (hk : (k : Int) < N) (t0 : (mth.tk 0 0 r).2.2 = 0) (hr : 0 ≤ (mth.tk 0 0 r).1 ∧ (mth.tk 0 0 r).1 ≤ 4294967295) (e1 : r.drop (mth.tk 0 0 r).2.1 = r1) :
    ((mth.tkN 9 r1).2.2 ≠ 0 → (pState l).2 = (mth.tkN 9 r1).2.2) ∧ ((mth.tkN 9 r1).2.2 = 0 → (2097152 ≤ (mth.tk 0 0 r).1 → (pState l).2 = 2) ∧ ((mth.tk 0 0 r).1 < 2097152 → ∀ ot : Dat, ot.xs = os.xs ++ [intsD (objOf (mth.tk 0 0 r).1 (mth.tkN 9 r1).1)] → ObjG l N (k + 1) ot (mth.tkN 9 r1).2.1)) := by
  have hp : pObj r = if (mth.tkN 9 r1).2.2 ≠ 0 then ([], [], (mth.tkN 9 r1).2.2) else if 2097152 ≤ (mth.tk 0 0 r).1 then ([], [], 2) else (objOf (mth.tk 0 0 r).1 (mth.tkN 9 r1).1, (mth.tkN 9 r1).2.1, 0) := by
    rw [pObj, if_neg (by simpa using t0), if_neg (by omega), e1]
  refine ⟨fun h9 => ?_, fun h9 => ⟨fun hH => ?_, fun hH ot hot => ?_⟩⟩
  · rw [if_pos h9] at hp
    rw [h.badO hk (by rw [hp]; exact h9), hp]
  · rw [if_neg (by simpa using h9), if_pos hH] at hp
    rw [h.badO hk (by rw [hp]; decide), hp]
  · rw [if_neg (by simpa using h9), if_neg (by omega)] at hp
    obtain ⟨acc, a1, a2, a3⟩ := h.step hk
    rw [preA_step (by rw [hp]), hp] at a1
    exact ⟨h.1, h.2.1, by omega, acc ++ [objOf (mth.tk 0 0 r).1 (mth.tkN 9 r1).1], a1, by rw [List.length_append, a2]; rfl, by rw [hot, a3, List.map_append]; rfl⟩
theorem len25 {r : List Int} (h : r.length = 25) : ∃ e0 e1 e2 e3 e4 e5 e6 e7 e8 e9 e10 e11 e12 e13 e14 e15 e16 e17 e18 e19 e20 e21 e22 e23 e24, r = [e0, e1, e2, e3, e4, e5, e6, e7, e8, e9, e10, e11, e12, e13, e14, e15, e16, e17, e18, e19, e20, e21, e22, e23, e24] := by
  match r, h with
  | [e0, e1, e2, e3, e4, e5, e6, e7, e8, e9, e10, e11, e12, e13, e14, e15, e16, e17, e18, e19, e20, e21, e22, e23, e24], _ => exact ⟨e0, e1, e2, e3, e4, e5, e6, e7, e8, e9, e10, e11, e12, e13, e14, e15, e16, e17, e18, e19, e20, e21, e22, e23, e24, rfl⟩
theorem R6 {l : List Nat} (hb : bytes l) (hn : l.length ≤ 90000000) {Φ : Nat → Spec} {Q : List Dat → Prop} (s1 : Φ k_rCheck = rCheck_s) (s2 : Φ k_rNums = rNums_s) (s3 : Φ k_rTakeL = rTakeL_s) (s4 : Φ k_rObj3 = rObj3_s) (h : ∀ rs e, rs.length = 37 → Parsed l rs e → Q (rs ++ [.int .i64 e])) {ds : List Dat} (hl : ds.length = 4) (hx : argL ds 0 = u8R l) (hH : Has E0.Δ (.list 5) (ds.getD 0 (.bool false))) {N : Int} {j i : Nat} {rows : List (List Dat)} {a c0 c1 c2 c3 c4 c5 c6 c7 c8 c9 c10 c11 c12 c13 c14 c15 c16 c17 c18 c19 c20 c21 c22 c23 c24 : Int} {o l1 l2 l3 l4 l5 l6 l7 l8 l9 l10 l11 : Dat} (hj : j ≤ l.length) (hi : rows.length + i = N.toNat) (hO : ObjG l N rows.length (.rows rows) (l.drop j)) :
    wp E0.Δ Φ Q tr_rParse_6 (ds ++ [.int .i64 a, .int .i64 j, .int .i64 i, o, l1, l2, l3, l4, l5, l6, l7, l8, l9, l10, l11, .int .i64 c0, .int .i64 c1, .int .i64 c2, .int .i64 c3, .int .i64 c4, .int .i64 c5, .int .i64 c6, .int .i64 c7, .int .i64 c8, .int .i64 c9, .int .i64 c10, .int .i64 c11, .int .i64 c12, .int .i64 c13, .int .i64 c14, .int .i64 c15, .int .i64 c16, .int .i64 c17, .int .i64 c18, .int .i64 c19, .int .i64 c20, .int .i64 c21, .int .i64 c22, .int .i64 c23, .int .i64 c24, .rows rows]) [(IR l N, i)] := by
  have hlen0 : (argL ds 0).length = l.length := by rw [hx, u8R_len]
  have cut : ∀ t : Nat, t ≤ l.length → (cutD t (argL ds 0).length (ds.getD 0 (.bool false))).xs = u8R (l.drop t) := fun t ht => by
    rw [hlen0]; exact cut_u8 hH (by rw [argL_fold, hx]) ht
  have bad : ∀ e, e ≠ 0 → (pState l).2 = e → Q (zeroD ++ [.int .i64 e]) := fun e h2 h3 => h _ _ rfl (.inl ⟨by rw [h3]; exact h2, h3.symm, zero_zero⟩)
  have hN4 : 0 ≤ N ∧ N ≤ 400 := ⟨hO.1, hO.2.1⟩
  unfold tr_rParse_6
  simp (config := {maxSteps := 20000000}) only [tr_rParse_1, tr_rParse_2, tr_rParse_3, tr_rParse_5, wp, den_int, den_bool, den_nili, den_ar, den_cmp, den_not, den_len, den_elem, den_isnil, den_errI, den_ifc, den_rep, den_push, den_app, den_emp, den_upd, row0_econs, row0_enil, den_and, den_beq, den_nil, toInt_int, toBool_bool, xs_rows, xs_list, dflt_int, dflt_bool, of_eq, of_ne, of_lt, of_le, of_gt, of_ge, of_add, of_sub, of_rem, List.map_cons, List.map_nil, Dat.bool.injEq, decide_eq_true_eq, decide_eq_false_iff_not, Bool.not_eq_true', Bool.not_eq_false', beq_iff_eq, bne_iff_ne, beq_eq_false_iff_ne, bne_eq_false_iff_eq, ne_eq, List.append_assoc, List.cons_append, List.nil_append, allS, s1, s2, s3, rNums_s, rTakeL_s, rCheck_s, den_cutT, den_ite, den_or, argL_c0, argI_c1, argI_c0, @den_var0 E0.Δ ds, den_varA, den_varB, hl, Nat.reduceLT, Nat.reduceLeDiff, Nat.reduceSub, List.getD_cons_zero, List.getD_cons_succ, argL_fold ds, argI_fold ds, List.append_assoc, List.cons_append, List.nil_append, toInt_int, toBool_bool, xs_rows, xs_list, Int.toNat_natCast, Dat.bool.injEq]
  refine ⟨fun h0 => ?_, fun h0 => ?_⟩
  · obtain ⟨i, rfl⟩ : ∃ i', i = i' + 1 := ⟨i - 1, by omega⟩
    have hkN : (rows.length : Int) < N := by omega
    have hd := bytes_drop hb j
    have hld : (l.drop j).length = l.length - j := List.length_drop
    refine ⟨by omega, by omega, l.drop j, 1, by rw [cut j hj], hd, by omega, rfl, fun d1 k h1 h2 => ?_⟩
    rw [tkN1] at h1 h2 ⊢
    by_cases t0 : (mth.tk 0 0 (l.drop j)).2.2 = 0
    case neg =>
      simp only [if_neg t0]
      have hp : (pObj (l.drop j)).2.2 = (mth.tk 0 0 (l.drop j)).2.2 := by rw [pObj, if_pos t0]
      exact ⟨fun _ => bad _ t0 (by rw [hO.badO hkN (by rw [hp]; exact t0), hp]), fun hh => absurd hh t0⟩
    simp only [if_pos t0] at h1 h2 ⊢
    obtain ⟨hk, hdr⟩ := h2 trivial
    rw [hld] at hk
    refine ⟨fun hh => absurd trivial hh, fun _ => ?_⟩
    have hl1 : d1.xs.length = 1 := by rw [h1]; rfl
    have hw : IntKind.i64.wrap ((j : Int) + (k : Int)) = ((j + k : Nat) : Int) := wrap64 (by omega) (by omega)
    rw [hl1, hw, h1]
    rw [show (((i64R [(mth.tk 0 0 (l.drop j)).1]).getD (Int.toNat 0) []).getD 0 (Dat.int .i64 0)).toInt = (mth.tk 0 0 (l.drop j)).1 from rfl]
    refine ⟨by decide, by simp, fun hr => ?_, fun hr => ?_⟩
    · have hr : (mth.tk 0 0 (l.drop j)).1 < 0 ∨ 4294967295 < (mth.tk 0 0 (l.drop j)).1 := by simpa using hr
      have hp : (pObj (l.drop j)).2.2 = 1 := by rw [pObj, if_neg (by simpa using t0), if_pos hr]
      exact bad 1 (by decide) (by rw [hO.badO hkN (by rw [hp]; decide), hp])
    have hr : 0 ≤ (mth.tk 0 0 (l.drop j)).1 ∧ (mth.tk 0 0 (l.drop j)).1 ≤ 4294967295 := by
      have : ¬ (mth.tk 0 0 (l.drop j)).1 < 0 ∧ ¬ 4294967295 < (mth.tk 0 0 (l.drop j)).1 := by simpa using hr
      omega
    rw [List.drop_drop (i := k)] at hdr
    obtain ⟨o1, o2⟩ := hO.one hkN t0 hr hdr
    have hd2 := bytes_drop hb (j + k)
    have hld2 : (l.drop (j + k)).length = l.length - (j + k) := List.length_drop
    refine ⟨by omega, by omega, l.drop (j + k), 9, by rw [Int.toNat_natCast, cut _ (by omega)], hd2, by omega, rfl, fun d2 k2 g1 g2 => ⟨fun h9 => bad _ h9 (o1 h9), fun h9 => ?_⟩⟩
    obtain ⟨hk2, hdr2⟩ := g2 h9
    rw [hld2] at hk2
    have hl9 := tkN_len hd2 h9
    have hl92 : d2.xs.length = 9 := by rw [g1, i64R_len, hl9]
    obtain ⟨o3, o4⟩ := o2 h9
    rw [hdr2, List.drop_drop] at o4
    have r4 := R4 hn (Q := Q) s4 hl (i := i) (o := o) (a := a) (b1 := 0) (b2 := 0) (N := N) (l1 := l1) (l2 := l2) (l3 := l3) (l4 := l4) (l5 := l5) (l6 := l6) (l7 := l7) (l8 := l8) (l9 := l9) (l10 := l10) (l11 := l11) (c0 := c0) (c1 := c1) (c2 := c2) (c3 := c3) (c4 := c4) (c5 := c5) (c6 := c6) (c7 := c7) (c8 := c8) (c9 := c9) (c10 := c10) (c11 := c11) (c12 := c12) (c13 := c13) (c14 := c14) (c15 := c15) (c16 := c16) (c17 := c17) (c18 := c18) (c19 := c19) (c20 := c20) (c21 := c21) (c22 := c22) (c23 := c23) (c24 := c24) hi hN4.2 (show j + k + k2 ≤ l.length by omega) h1 hr g1 hl9 (fun hH => bad 2 (by decide) (o3 hH)) (fun hH => o4 hH _ rfl)
    rw [hl92, h9]
    refine ⟨by decide, by decide, by decide, by decide, by decide, by decide, by decide, by decide, by decide, ⟨by decide, r4, r4⟩, ⟨by decide, r4, r4⟩⟩
  · have hi0 : i = 0 := by omega
    subst hi0
    have G0 : LstG l 0 (.rows rows) (List.replicate 11 o) (l.drop j) := by
      obtain ⟨g1, g2, g3, acc, g4, g5, g6⟩ := hO
      exact ⟨acc, [], by rw [g4, show N.toNat - rows.length = 0 by omega, preA_end, pObjs, if_neg (by simp), show 11 - 0 = 11 from rfl, ← preA_nil], rfl, g6, by omega, fun t ht => absurd ht (by omega)⟩
    have hb0 := bytes_drop hb (j)
    refine ⟨by omega, by omega, l.drop (j), by rw [cut _ (by omega)], hb0, by rw [List.length_drop]; omega, fun d0 k0 a0 b0 => ⟨fun h0 => bad _ h0 (G0.bad (by decide) h0), fun h0 => ?_⟩⟩
    obtain ⟨hk0, hr0⟩ := b0 h0
    rw [List.length_drop] at hk0
    rw [List.drop_drop] at hr0
    have G1 := G0.next hb0 (by decide) (by simp) h0 a0 hr0
    clear a0 b0 hr0 h0
    have hw0 : IntKind.i64.wrap (((j : Nat) : Int) + (k0 : Int)) = ((j + k0 : Nat) : Int) := wrap64 (by omega) (by omega)
    rw [hw0]
    clear hw0
    have hb1 := bytes_drop hb (j + k0)
    refine ⟨by omega, by omega, l.drop (j + k0), by rw [Int.toNat_natCast, cut _ (by omega)], hb1, by rw [List.length_drop]; omega, fun d1 k1 a1 b1 => ⟨fun h0 => bad _ h0 (G1.bad (by decide) h0), fun h0 => ?_⟩⟩
    obtain ⟨hk1, hr1⟩ := b1 h0
    rw [List.length_drop] at hk1
    rw [List.drop_drop] at hr1
    have G2 := G1.next hb1 (by decide) (by simp) h0 a1 hr1
    clear a1 b1 hr1 h0
    have hw1 : IntKind.i64.wrap (((j + k0 : Nat) : Int) + (k1 : Int)) = ((j + k0 + k1 : Nat) : Int) := wrap64 (by omega) (by omega)
    rw [hw1]
    clear hw1
    have hb2 := bytes_drop hb (j + k0 + k1)
    refine ⟨by omega, by omega, l.drop (j + k0 + k1), by rw [Int.toNat_natCast, cut _ (by omega)], hb2, by rw [List.length_drop]; omega, fun d2 k2 a2 b2 => ⟨fun h0 => bad _ h0 (G2.bad (by decide) h0), fun h0 => ?_⟩⟩
    obtain ⟨hk2, hr2⟩ := b2 h0
    rw [List.length_drop] at hk2
    rw [List.drop_drop] at hr2
    have G3 := G2.next hb2 (by decide) (by simp) h0 a2 hr2
    clear a2 b2 hr2 h0
    have hw2 : IntKind.i64.wrap (((j + k0 + k1 : Nat) : Int) + (k2 : Int)) = ((j + k0 + k1 + k2 : Nat) : Int) := wrap64 (by omega) (by omega)
    rw [hw2]
    clear hw2
    have hb3 := bytes_drop hb (j + k0 + k1 + k2)
    refine ⟨by omega, by omega, l.drop (j + k0 + k1 + k2), by rw [Int.toNat_natCast, cut _ (by omega)], hb3, by rw [List.length_drop]; omega, fun d3 k3 a3 b3 => ⟨fun h0 => bad _ h0 (G3.bad (by decide) h0), fun h0 => ?_⟩⟩
    obtain ⟨hk3, hr3⟩ := b3 h0
    rw [List.length_drop] at hk3
    rw [List.drop_drop] at hr3
    have G4 := G3.next hb3 (by decide) (by simp) h0 a3 hr3
    clear a3 b3 hr3 h0
    have hw3 : IntKind.i64.wrap (((j + k0 + k1 + k2 : Nat) : Int) + (k3 : Int)) = ((j + k0 + k1 + k2 + k3 : Nat) : Int) := wrap64 (by omega) (by omega)
    rw [hw3]
    clear hw3
    have hb4 := bytes_drop hb (j + k0 + k1 + k2 + k3)
    refine ⟨by omega, by omega, l.drop (j + k0 + k1 + k2 + k3), by rw [Int.toNat_natCast, cut _ (by omega)], hb4, by rw [List.length_drop]; omega, fun d4 k4 a4 b4 => ⟨fun h0 => bad _ h0 (G4.bad (by decide) h0), fun h0 => ?_⟩⟩
    obtain ⟨hk4, hr4⟩ := b4 h0
    rw [List.length_drop] at hk4
    rw [List.drop_drop] at hr4
    have G5 := G4.next hb4 (by decide) (by simp) h0 a4 hr4
    clear a4 b4 hr4 h0
    have hw4 : IntKind.i64.wrap (((j + k0 + k1 + k2 + k3 : Nat) : Int) + (k4 : Int)) = ((j + k0 + k1 + k2 + k3 + k4 : Nat) : Int) := wrap64 (by omega) (by omega)
    rw [hw4]
    clear hw4
    have hb5 := bytes_drop hb (j + k0 + k1 + k2 + k3 + k4)
    refine ⟨by omega, by omega, l.drop (j + k0 + k1 + k2 + k3 + k4), by rw [Int.toNat_natCast, cut _ (by omega)], hb5, by rw [List.length_drop]; omega, fun d5 k5 a5 b5 => ⟨fun h0 => bad _ h0 (G5.bad (by decide) h0), fun h0 => ?_⟩⟩
    obtain ⟨hk5, hr5⟩ := b5 h0
    rw [List.length_drop] at hk5
    rw [List.drop_drop] at hr5
    have G6 := G5.next hb5 (by decide) (by simp) h0 a5 hr5
    clear a5 b5 hr5 h0
    have hw5 : IntKind.i64.wrap (((j + k0 + k1 + k2 + k3 + k4 : Nat) : Int) + (k5 : Int)) = ((j + k0 + k1 + k2 + k3 + k4 + k5 : Nat) : Int) := wrap64 (by omega) (by omega)
    rw [hw5]
    clear hw5
    have hb6 := bytes_drop hb (j + k0 + k1 + k2 + k3 + k4 + k5)
    refine ⟨by omega, by omega, l.drop (j + k0 + k1 + k2 + k3 + k4 + k5), by rw [Int.toNat_natCast, cut _ (by omega)], hb6, by rw [List.length_drop]; omega, fun d6 k6 a6 b6 => ⟨fun h0 => bad _ h0 (G6.bad (by decide) h0), fun h0 => ?_⟩⟩
    obtain ⟨hk6, hr6⟩ := b6 h0
    rw [List.length_drop] at hk6
    rw [List.drop_drop] at hr6
    have G7 := G6.next hb6 (by decide) (by simp) h0 a6 hr6
    clear a6 b6 hr6 h0
    have hw6 : IntKind.i64.wrap (((j + k0 + k1 + k2 + k3 + k4 + k5 : Nat) : Int) + (k6 : Int)) = ((j + k0 + k1 + k2 + k3 + k4 + k5 + k6 : Nat) : Int) := wrap64 (by omega) (by omega)
    rw [hw6]
    clear hw6
    have hb7 := bytes_drop hb (j + k0 + k1 + k2 + k3 + k4 + k5 + k6)
    refine ⟨by omega, by omega, l.drop (j + k0 + k1 + k2 + k3 + k4 + k5 + k6), by rw [Int.toNat_natCast, cut _ (by omega)], hb7, by rw [List.length_drop]; omega, fun d7 k7 a7 b7 => ⟨fun h0 => bad _ h0 (G7.bad (by decide) h0), fun h0 => ?_⟩⟩
    obtain ⟨hk7, hr7⟩ := b7 h0
    rw [List.length_drop] at hk7
    rw [List.drop_drop] at hr7
    have G8 := G7.next hb7 (by decide) (by simp) h0 a7 hr7
    clear a7 b7 hr7 h0
    have hw7 : IntKind.i64.wrap (((j + k0 + k1 + k2 + k3 + k4 + k5 + k6 : Nat) : Int) + (k7 : Int)) = ((j + k0 + k1 + k2 + k3 + k4 + k5 + k6 + k7 : Nat) : Int) := wrap64 (by omega) (by omega)
    rw [hw7]
    clear hw7
    have hb8 := bytes_drop hb (j + k0 + k1 + k2 + k3 + k4 + k5 + k6 + k7)
    refine ⟨by omega, by omega, l.drop (j + k0 + k1 + k2 + k3 + k4 + k5 + k6 + k7), by rw [Int.toNat_natCast, cut _ (by omega)], hb8, by rw [List.length_drop]; omega, fun d8 k8 a8 b8 => ⟨fun h0 => bad _ h0 (G8.bad (by decide) h0), fun h0 => ?_⟩⟩
    obtain ⟨hk8, hr8⟩ := b8 h0
    rw [List.length_drop] at hk8
    rw [List.drop_drop] at hr8
    have G9 := G8.next hb8 (by decide) (by simp) h0 a8 hr8
    clear a8 b8 hr8 h0
    have hw8 : IntKind.i64.wrap (((j + k0 + k1 + k2 + k3 + k4 + k5 + k6 + k7 : Nat) : Int) + (k8 : Int)) = ((j + k0 + k1 + k2 + k3 + k4 + k5 + k6 + k7 + k8 : Nat) : Int) := wrap64 (by omega) (by omega)
    rw [hw8]
    clear hw8
    have hb9 := bytes_drop hb (j + k0 + k1 + k2 + k3 + k4 + k5 + k6 + k7 + k8)
    refine ⟨by omega, by omega, l.drop (j + k0 + k1 + k2 + k3 + k4 + k5 + k6 + k7 + k8), by rw [Int.toNat_natCast, cut _ (by omega)], hb9, by rw [List.length_drop]; omega, fun d9 k9 a9 b9 => ⟨fun h0 => bad _ h0 (G9.bad (by decide) h0), fun h0 => ?_⟩⟩
    obtain ⟨hk9, hr9⟩ := b9 h0
    rw [List.length_drop] at hk9
    rw [List.drop_drop] at hr9
    have G10 := G9.next hb9 (by decide) (by simp) h0 a9 hr9
    clear a9 b9 hr9 h0
    have hw9 : IntKind.i64.wrap (((j + k0 + k1 + k2 + k3 + k4 + k5 + k6 + k7 + k8 : Nat) : Int) + (k9 : Int)) = ((j + k0 + k1 + k2 + k3 + k4 + k5 + k6 + k7 + k8 + k9 : Nat) : Int) := wrap64 (by omega) (by omega)
    rw [hw9]
    clear hw9
    have hb10 := bytes_drop hb (j + k0 + k1 + k2 + k3 + k4 + k5 + k6 + k7 + k8 + k9)
    refine ⟨by omega, by omega, l.drop (j + k0 + k1 + k2 + k3 + k4 + k5 + k6 + k7 + k8 + k9), by rw [Int.toNat_natCast, cut _ (by omega)], hb10, by rw [List.length_drop]; omega, fun d10 k10 a10 b10 => ⟨fun h0 => bad _ h0 (G10.bad (by decide) h0), fun h0 => ?_⟩⟩
    obtain ⟨hk10, hr10⟩ := b10 h0
    rw [List.length_drop] at hk10
    rw [List.drop_drop] at hr10
    have G11 := G10.next hb10 (by decide) (by simp) h0 a10 hr10
    clear a10 b10 hr10 h0
    have hw10 : IntKind.i64.wrap (((j + k0 + k1 + k2 + k3 + k4 + k5 + k6 + k7 + k8 + k9 : Nat) : Int) + (k10 : Int)) = ((j + k0 + k1 + k2 + k3 + k4 + k5 + k6 + k7 + k8 + k9 + k10 : Nat) : Int) := wrap64 (by omega) (by omega)
    rw [hw10]
    clear hw10
    have G : LstG l 11 (.rows rows) [d0, d1, d2, d3, d4, d5, d6, d7, d8, d9, d10] (l.drop (j + k0 + k1 + k2 + k3 + k4 + k5 + k6 + k7 + k8 + k9 + k10)) := G11
    clear G0 G1 G2 G3 G4 G5 G6 G7 G8 G9 G10 G11
    obtain ⟨O, acc, g1, g2, g3⟩ := G
    rw [show 11 - 11 = 0 from rfl, preA_end, pLists, if_neg (by simp)] at g1
    have hbz := bytes_drop hb (j + k0 + k1 + k2 + k3 + k4 + k5 + k6 + k7 + k8 + k9 + k10)
    refine ⟨by omega, by omega, l.drop (j + k0 + k1 + k2 + k3 + k4 + k5 + k6 + k7 + k8 + k9 + k10), 25, by rw [Int.toNat_natCast, cut _ (by omega)], hbz, by rw [List.length_drop]; omega, rfl, fun dn kn an bn => ⟨fun h0 => bad _ h0 (by rw [g1, pNums, if_pos h0]), fun h0 => ?_⟩⟩
    obtain ⟨hkn, hrn⟩ := bn h0
    rw [List.length_drop] at hkn
    rw [List.drop_drop] at hrn
    have hln := tkN_len hbz h0
    rw [pNums, if_neg (by simpa using h0), hrn] at g1
    have hwn : IntKind.i64.wrap (((j + k0 + k1 + k2 + k3 + k4 + k5 + k6 + k7 + k8 + k9 + k10 : Nat) : Int) + (kn : Int)) = ((j + k0 + k1 + k2 + k3 + k4 + k5 + k6 + k7 + k8 + k9 + k10 + kn : Nat) : Int) := wrap64 (by omega) (by omega)
    rw [hwn]
    generalize hcs : (mth.tkN 25 (l.drop (j + k0 + k1 + k2 + k3 + k4 + k5 + k6 + k7 + k8 + k9 + k10))).1 = cs at *
    have hdn : dn.xs.length = 25 := by rw [an, i64R_len, hln]
    rw [hdn]
    obtain ⟨e0, e1, e2, e3, e4, e5, e6, e7, e8, e9, e10, e11, e12, e13, e14, e15, e16, e17, e18, e19, e20, e21, e22, e23, e24, rfl⟩ : ∃ e0 e1 e2 e3 e4 e5 e6 e7 e8 e9 e10 e11 e12 e13 e14 e15 e16 e17 e18 e19 e20 e21 e22 e23 e24, cs = [e0, e1, e2, e3, e4, e5, e6, e7, e8, e9, e10, e11, e12, e13, e14, e15, e16, e17, e18, e19, e20, e21, e22, e23, e24] := len25 hln
    rw [an]
    generalize j + k0 + k1 + k2 + k3 + k4 + k5 + k6 + k7 + k8 + k9 + k10 + kn = P at *
    refine ⟨by decide, by decide, by decide, by decide, by decide, by decide, by decide, by decide, by decide, by decide, by decide, by decide, by decide, by decide, by decide, by decide, by decide, by decide, by decide, by decide, by decide, by decide, by decide, by decide, by decide, fun hP1 => ?_, fun hP1 A c => ?_⟩
    · have hne : l.drop P ≠ [] := fun hh => by
        have := congrArg List.length hh
        rw [List.length_drop, List.length_nil] at this
        omega
      rw [if_pos hne] at g1
      exact bad 3 (by decide) (by rw [g1])
    rw [if_neg (fun hh => hh (List.drop_eq_nil_of_le (by omega)))] at g1
    have hS := st_of (cs := [e0, e1, e2, e3, e4, e5, e6, e7, e8, e9, e10, e11, e12, e13, e14, e15, e16, e17, e18, e19, e20, e21, e22, e23, e24]) g3 rfl rfl (Value.slice A rows.length c) (E0.Δ.row 50).length
    refine ⟨sm_of (cs := [e0, e1, e2, e3, e4, e5, e6, e7, e8, e9, e10, e11, e12, e13, e14, e15, e16, e17, e18, e19, e20, e21, e22, e23, e24]) g3 rfl (Value.slice A rows.length c) (E0.Δ.row 50).length, fun n hn => ⟨fun h3 => ?_, fun h3 => ?_⟩⟩
    · exact h _ _ rfl (.inr ⟨by rw [g1], _, by rw [g1]; exact hS, hn, .inl ⟨h3, zero_zero⟩⟩)
    · subst h3
      exact h _ 0 rfl (.inr ⟨by rw [g1], _, by rw [g1]; exact hS, hn, .inr ⟨rfl, by rw [g1]; exact hS⟩⟩)
end Go.Proofs.YtnhahmgbgocdgaaDoor
end

section
namespace Go.Proofs.YtnhahmgbgocdgaaDoor
open Go.RowKit
set_option linter.unusedVariables false
set_option linter.unusedSimpArgs false
set_option maxRecDepth 100000
set_option maxHeartbeats 2000000

theorem inv41 {a n i b j k : Int} {o p : Dat} {ls2 ls3 : List Dat} {cs2 cs3 : List Int} {r2 : Dat} {r3 : List (List Dat)} (hl2 : ls2.length = 11) (hl3 : ls3.length = 11) (hc2 : cs2.length = 25) (hc3 : cs3.length = 25) (h : Dat.int .i64 a :: Dat.int .i64 n :: Dat.int .i64 i :: o :: (ls2 ++ intsD cs2 ++ [r2]) = Dat.int .i64 b :: Dat.int .i64 j :: Dat.int .i64 k :: p :: (ls3 ++ intsD cs3 ++ [.rows r3])) : a = b ∧ n = j ∧ i = k ∧ o = p ∧ ls3 = ls2 ∧ cs3 = cs2 ∧ r2 = .rows r3 := by
  simp only [List.cons.injEq, Dat.int.injEq, true_and] at h
  obtain ⟨h1, h2, h3, h4, h5⟩ := h
  rw [List.append_assoc, List.append_assoc] at h5
  obtain ⟨h6, h7⟩ := List.append_inj h5 (by omega)
  obtain ⟨h8, h9⟩ := List.append_inj h7 (by simp only [intsD, List.length_map]; omega)
  exact ⟨h1, h2, h3, h4, h6.symm, (intsD_inj h8).symm, (List.cons.inj h9).1⟩
theorem rParse_h : Holds E0 k_rParse sg_rParse rParse_s := con_fn wf0 mix0 g0 [con_rCheck, con_rNums, con_rTakeL, con_rObj3] rfl wk_rParse rfl (by
  intro Φ hΦ ds Q hs ⟨l, hx, hb, hn, h⟩
  have hl : ds.length = 1 := hs.length.symm
  have s1 : Φ k_rCheck = rCheck_s := by rw [hΦ]; rfl
  have s2 : Φ k_rNums = rNums_s := by rw [hΦ]; rfl
  have s3 : Φ k_rTakeL = rTakeL_s := by rw [hΦ]; rfl
  have s4 : Φ k_rObj3 = rObj3_s := by rw [hΦ]; rfl
  clear hΦ
  have hH : Has E0.Δ (.list 5) (ds.getD 0 (.bool false)) := all2_get hs (i := 0) rfl
  have bad : ∀ e, e ≠ 0 → (pState l).2 = e → Q (zeroD ++ [.int .i64 e]) := fun e h2 h3 => h _ _ rfl (.inl ⟨by rw [h3]; exact h2, h3.symm, zero_zero⟩)
  unfold tr_rParse
  simp only [tr_rParse_1, wp, den_int, den_bool, den_nili, den_ar, den_cmp, den_not, den_len, den_elem, den_isnil, den_errI, den_ifc, den_rep, den_push, den_app, den_emp, den_upd, row0_econs, row0_enil, den_and, den_beq, den_nil, toInt_int, toBool_bool, xs_rows, xs_list, dflt_int, dflt_bool, of_eq, of_ne, of_lt, of_le, of_gt, of_ge, of_add, of_sub, of_rem, List.map_cons, List.map_nil, Dat.bool.injEq, decide_eq_true_eq, decide_eq_false_iff_not, Bool.not_eq_true', Bool.not_eq_false', beq_iff_eq, bne_iff_ne, beq_eq_false_iff_ne, bne_eq_false_iff_eq, ne_eq, List.append_assoc, List.cons_append, List.nil_append, allS, s2, rNums_s, argL_c0, argI_c0, argI_c1, @den_var0 E0.Δ ds, den_varA, den_varB, hl, Nat.reduceLT, Nat.reduceLeDiff, Nat.reduceSub, List.getD_cons_zero, List.getD_cons_succ, argL_fold ds, argI_fold ds, List.append_assoc, List.cons_append, List.nil_append, toInt_int, toBool_bool, xs_rows, xs_list, Int.toNat_natCast, Dat.bool.injEq, den_ite, den_or]
  refine ⟨l, 1, hx, hb, hn, rfl, fun d1 k h1 h2 => ?_⟩
  rw [tkN1] at h1 h2 ⊢
  by_cases t0 : (mth.tk 0 0 l).2.2 = 0
  case neg =>
    simp only [if_neg t0]
    exact ⟨fun _ => bad _ t0 (by rw [pState, if_pos t0]), fun hh => absurd hh t0⟩
  simp only [if_pos t0] at h1 h2 ⊢
  obtain ⟨hk, hdr⟩ := h2 trivial
  refine ⟨fun hh => absurd trivial hh, fun _ => ?_⟩
  have hl1 : d1.xs.length = 1 := by rw [h1]; rfl
  rw [hl1, h1]
  have ex : ((i64R [(mth.tk 0 0 l).1]).getD (Int.toNat 0) []).getD 0 (Dat.int .i64 0) = .int .i64 (mth.tk 0 0 l).1 := rfl
  rw [ex, toInt_int]
  have hp : pState l = (if (mth.tk 0 0 l).1 < 0 then (([], [], []), 1) else if 400 < (mth.tk 0 0 l).1 then (([], [], []), 5) else pObjs (pMany pObj (mth.tk 0 0 l).1.toNat (l.drop (mth.tk 0 0 l).2.1))) := by rw [pState, if_neg (by simpa using t0)]
  rw [hdr] at hp
  refine ⟨by decide, fun hneg => bad 1 (by decide) (by rw [hp, if_pos hneg]), fun hneg => ⟨by decide, fun h4 => bad 5 (by decide) (by rw [hp, if_neg hneg, if_pos h4]), fun h4 => ⟨by decide, ?_⟩⟩⟩
  rw [if_neg hneg, if_neg h4] at hp
  have e0 : (mth.tk 0 0 l).1 = (((mth.tk 0 0 l).1.toNat : Nat) : Int) := by omega
  refine ⟨IR l (mth.tk 0 0 l).1, ⟨(mth.tk 0 0 l).1.toNat, 0, k, (mth.tk 0 0 l).1.toNat, .rows [], [.list (.slice none 0 0) (E0.Δ.row 3).length [], .list (.slice none 0 0) (E0.Δ.row 3).length [], .list (.slice none 0 0) (E0.Δ.row 3).length [], .list (.slice none 0 0) (E0.Δ.row 3).length [], .list (.slice none 0 0) (E0.Δ.row 3).length [], .list (.slice none 0 0) (E0.Δ.row 3).length [], .list (.slice none 0 0) (E0.Δ.row 3).length [], .list (.slice none 0 0) (E0.Δ.row 3).length [], .list (.slice none 0 0) (E0.Δ.row 3).length [], .list (.slice none 0 0) (E0.Δ.row 3).length [], .list (.slice none 0 0) (E0.Δ.row 3).length []], [0, 0, 0, 0, 0, 0, 0, 0, 0, 0, 0, 0, 0, 0, 0, 0, 0, 0, 0, 0, 0, 0, 0, 0, 0], [], by rw [← e0]; rfl, rfl, rfl, rfl, by simp, hk, by omega, by omega, by simp; omega, [], by rw [hp, List.length_nil, Nat.sub_zero, ← preA_nil], rfl, rfl⟩, ?_⟩
  rintro a jn iN o ho l1 hl1 l2 hl2 l3 hl3 l4 hl4 l5 hl5 l6 hl6 l7 hl7 l8 hl8 l9 hl9 l10 hl10 l11 hl11 c0 c1 c2 c3 c4 c5 c6 c7 c8 c9 c10 c11 c12 c13 c14 c15 c16 c17 c18 c19 c20 c21 c22 c23 c24 rws hrw m ⟨a', j, i, o', ls3, cs3, rows3, heq, hl3, hc3, hm, hi, hj, hO⟩
  obtain ⟨rfl, rfl, rfl, rfl, rfl, rfl, rfl⟩ := inv41 (ls2 := [l1, l2, l3, l4, l5, l6, l7, l8, l9, l10, l11]) (cs2 := [c0, c1, c2, c3, c4, c5, c6, c7, c8, c9, c10, c11, c12, c13, c14, c15, c16, c17, c18, c19, c20, c21, c22, c23, c24]) rfl hl3 rfl hc3 heq
  subst hm
  have hl2 : (ds ++ [d1, .int .i64 k, .int .i64 0]).length = 4 := by rw [List.length_append, hl]; rfl
  have hg : (ds ++ [d1, .int .i64 k, .int .i64 0]).getD 0 (.bool false) = ds.getD 0 (.bool false) := by
    rw [List.getD_eq_getElem?_getD, List.getElem?_append_left (by omega), ← List.getD_eq_getElem?_getD]
  have := R6 (Q := Q) hb hn s1 s2 s3 s4 h hl2 (by rw [← hx]; exact congrArg Dat.xs hg) (by rw [hg]; exact hH) (a := a) (o := o) (l1 := l1) (l2 := l2) (l3 := l3) (l4 := l4) (l5 := l5) (l6 := l6) (l7 := l7) (l8 := l8) (l9 := l9) (l10 := l10) (l11 := l11) (c0 := c0) (c1 := c1) (c2 := c2) (c3 := c3) (c4 := c4) (c5 := c5) (c6 := c6) (c7 := c7) (c8 := c8) (c9 := c9) (c10 := c10) (c11 := c11) (c12 := c12) (c13 := c13) (c14 := c14) (c15 := c15) (c16 := c16) (c17 := c17) (c18 := c18) (c19 := c19) (c20 := c20) (c21 := c21) (c22 := c22) (c23 := c23) (c24 := c24) hj hi hO
  rw [List.append_assoc] at this
  exact this)
noncomputable def con_rParse : Con E0 := ⟨k_rParse, sg_rParse, rParse_s, rfl, bo_rParse, rParse_h⟩
end Go.Proofs.YtnhahmgbgocdgaaDoor
end
