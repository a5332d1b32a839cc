/-
  A card's error: checker, what its walk shows.
-/
import Derived.Test.YtiolgkmfjcdbiaaCrdE
namespace Go.Proofs.Ytiolgkmfjcdbiaa
open Go.RowKit
set_option linter.unusedVariables false
set_option linter.unusedSimpArgs false

theorem rc7_loop {Φ : Nat → Spec} (s1 : Φ k_rcost7 = rcost7_s) (s2 : Φ k_rCheck6 = rCheck6_s) {ds : List Dat} {Q : List Dat → Prop} (hs : All2 (Has E0.Δ) (Sig.sorts sg_rCheck7.params) ds) (hl : ds.length = 13) (hlen : (argL ds 12).length ≤ 1000) (hsz : ∀ r ∈ argL ds 12, (argE (r.drop 9)).size ≤ 1000) (h : Q [.int .i64 (firstErr (argL ds 12))]) (b x y : Dat) (X0 : Inv × Nat) : wp E0.Δ Φ Q tr_rCheck7_1 (ds ++ [b, x, y]) [X0] := by
  have hrow := abl_len (all2_get hs (i := 12) rfl)
  rw [argL_fold] at hrow
  simp only [tr_rCheck7_1, wp, den_int, den_bool, den_nili, den_ar, den_cmp, den_not, den_len, den_elem, den_isnil, den_errI, den_ifc, den_rep, den_push, den_app, den_emp, den_upd, row0_econs, row0_enil, den_and, den_beq, den_nil, toInt_int, toBool_bool, xs_rows, xs_list, dflt_int, dflt_bool, of_eq, of_ne, of_lt, of_le, of_gt, of_ge, of_add, of_sub, of_rem, List.map_cons, List.map_nil, Dat.bool.injEq, decide_eq_true_eq, decide_eq_false_iff_not, Bool.not_eq_true', Bool.not_eq_false', beq_iff_eq, bne_iff_ne, beq_eq_false_iff_ne, bne_eq_false_iff_eq, ne_eq, List.append_assoc, List.cons_append, List.nil_append, allS, s1, s2, rcost7_s, cost_s, rCheck6_s, @den_var0 E0.Δ ds, den_varA, den_varB, hl, Nat.reduceLT, Nat.reduceLeDiff, Nat.reduceSub, List.getD_cons_zero, List.getD_cons_succ, argL_fold ds, argI_fold ds, List.append_assoc, List.cons_append, List.nil_append, toInt_int, toBool_bool, xs_rows, xs_list, Int.toNat_natCast, Dat.bool.injEq, den_or, den_ite, toInt_ite, toBool_ite, argI_c0, argI_c1]
  refine ⟨fun xs m => ∃ (i : Nat) (z : Int), i ≤ (argL ds 12).length ∧ m = (argL ds 12).length - i ∧ xs = [.int .i64 z, .int .i64 i] ∧ firstErr (argL ds 12) = firstErr ((argL ds 12).drop i), ⟨_, 0, 0, by omega, rfl, rfl, rfl⟩, ?_⟩
  rintro z' i' m ⟨i, z, hi, hmi, e, hf⟩
  cases e
  refine ⟨fun hlt => ⟨by omega, ?_⟩, fun hge => ?_⟩
  case refine_2 =>
    rw [List.drop_of_length_le (by omega)] at hf
    rw [hf] at h; exact h
  have hi2 : i < (argL ds 12).length := by omega
  have hr := hrow _ (getD_memL (d := []) hi2)
  have hz := hsz _ (getD_memL (d := []) hi2)
  rw [drop_getD (d := []) hi2, firstErr] at hf
  generalize hrr : (argL ds 12).getD i [] = r at hf hr hz
  obtain ⟨c0, c1, c2, c3, c4, c5, c6, c7, c8, c9, c10, c11, c12, c13, rfl⟩ : ∃ a b c d e f g h i j k l m n, r = [a, b, c, d, e, f, g, h, i, j, k, l, m, n] := by
    match r, hr with
    | [a, b, c, d, e, f, g, h, i, j, k, l, m, n], _ => exact ⟨a, b, c, d, e, f, g, h, i, j, k, l, m, n, rfl⟩
  simp only [Int.toNat_natCast, hrr, List.getD_cons_zero, List.getD_cons_succ]
  generalize hx : argE [c9, c10, c11, c12, c13, c8] = e
  have hxe : argE ([c0, c1, c2, c3, c4, c5, c6, c7, c8, c9, c10, c11, c12, c13].drop 9) = e := hx ▸ rfl
  have hop : e.op = c9.toInt := by rw [← hx, argE_opI]; rfl
  have hwho : e.who = c12.toInt := by rw [← hx, argE_who]; rfl
  have hsub : e.subs = c13.xs.map effOf := by rw [← hx, argE_subs]; rfl
  rw [hxe] at hz
  have hw : argB [c1, c2, c3, c4, c5, c6, Dat.bool (c0.toInt != 1)] 6 = decide (c0.toInt ≠ 1) := by
    show (c0.toInt != 1) = _
    rw [Bool.eq_iff_iff]; simp
  rw [hw]
  have habl : ablA [c0, c1, c2, c3, c4, c5, c6, c7, c8, c9, c10, c11, c12, c13] = ablErr c0.toInt c1.toInt c2.toInt c3.toInt c4.toInt c5.toInt c6.toInt c7.toBool c8.toInt e := by rw [ablA, hxe]; rfl
  rw [habl] at hf
  have fe : ∀ n : Int, n ≠ 0 → ablErr c0.toInt c1.toInt c2.toInt c3.toInt c4.toInt c5.toInt c6.toInt c7.toBool c8.toInt e = n → Q [.int .i64 n] := fun n hn e => by
    rw [e, if_pos hn] at hf; rw [hf] at h; exact h
  have f0 : ablErr c0.toInt c1.toInt c2.toInt c3.toInt c4.toInt c5.toInt c6.toInt c7.toBool c8.toInt e = 0 → firstErr (argL ds 12) = firstErr ((argL ds 12).drop (i + 1)) := fun e => by
    rw [e, if_neg (by decide)] at hf; exact hf
  have nx : firstErr (argL ds 12) = firstErr ((argL ds 12).drop (i + 1)) → ∃ m', m' < m ∧ ∃ (i_1 : Nat) (z : Int), i_1 ≤ (argL ds 12).length ∧ m' = (argL ds 12).length - i_1 ∧ [Dat.int IntKind.i64 z', Dat.int IntKind.i64 (IntKind.i64.wrap (↑i + 1))] = [Dat.int IntKind.i64 z, Dat.int IntKind.i64 ↑i_1] ∧ firstErr (argL ds 12) = firstErr (List.drop i_1 (argL ds 12)) := fun hn => by
    refine ⟨(argL ds 12).length - (i + 1), by omega, i + 1, z', by omega, rfl, ?_, hn⟩
    rw [wrap64 (by omega) (by omega)]; rfl
  unfold ablErr at fe f0
  generalize htap : c7.toBool = tap at fe f0 ⊢
  refine ⟨fun h1 => ?_, fun h1 => ?_⟩
  · simp only [Bool.or_eq_true, decide_eq_true_eq] at h1
    exact fe 6 (by decide) (if_pos (by omega))
  have c1' : ¬ (c0.toInt < 0 ∨ 7 ≤ c0.toInt) := by simp only [Bool.or_eq_false_iff, decide_eq_false_iff_not] at h1; omega
  simp only [if_neg c1'] at fe f0
  rw [decide_eq_true_eq, decide_eq_false_iff_not]
  refine ⟨fun h2 => fe 10 (by decide) (if_pos h2), fun h2 => ?_⟩
  simp only [if_neg (not_not_intro h2)] at fe f0
  have e3 : (if c0.toInt = 6 then Dat.bool !tap else Dat.bool (c0.toInt != 1 && tap)) = Dat.bool (decide ((c0.toInt = 6 ∧ tap = false) ∨ (c0.toInt ≠ 6 ∧ c0.toInt ≠ 1 ∧ tap = true))) := by
    rw [ite_datb]
    congr 1
    by_cases a : c0.toInt = 1
    · simp [a]
    · by_cases b : c0.toInt = 6
      · cases tap <;> simp [b]
      · cases tap <;> simp [a, b]
  rw [e3]
  simp only [Dat.bool.injEq, decide_eq_true_eq, decide_eq_false_iff_not]
  refine ⟨fun h3 => fe 2 (by decide) (if_pos h3), fun c3' => ?_⟩
  simp only [if_neg c3'] at fe f0
  have e4 : (decide (c8.toInt < 0) || (decide (5 < c8.toInt) || c8.toInt != 0 && (c0.toInt != 0 && c0.toInt != 1))) = decide (c8.toInt < 0 ∨ 6 ≤ c8.toInt ∨ (c8.toInt ≠ 0 ∧ c0.toInt ≠ 0 ∧ c0.toInt ≠ 1)) := by
    rw [Bool.eq_iff_iff, decide_eq_true_eq]
    simp only [Bool.or_eq_true, Bool.and_eq_true, decide_eq_true_eq, bne_iff_ne]
    omega
  rw [e4]
  simp only [decide_eq_true_eq, decide_eq_false_iff_not]
  refine ⟨fun h4 => fe 11 (by decide) (if_pos h4), fun c4' => ?_⟩
  simp only [if_neg c4'] at fe f0
  rw [if_neg (show ¬ (c8.toInt < 0 ∨ 5 < c8.toInt) by omega)]
  refine ⟨hz, fun h5 => fe _ h5 (if_pos h5), fun h5 => ?_⟩
  simp only [if_neg (not_not_intro h5)] at fe f0
  have e6 : (c0.toInt == 6 && (c9.toInt != 15 || c12.toInt != 0)) = decide (c0.toInt = 6 ∧ (e.op ≠ 15 ∨ e.who ≠ 0)) := by
    rw [Bool.eq_iff_iff, decide_eq_true_eq, hop, hwho]
    simp only [Bool.or_eq_true, Bool.and_eq_true, beq_iff_eq, bne_iff_ne]
  rw [e6]
  simp only [decide_eq_true_eq, decide_eq_false_iff_not]
  refine ⟨fun h6 => fe 2 (by decide) (if_pos h6), fun c6' => ?_⟩
  simp only [if_neg c6'] at fe f0
  refine ⟨fun h7 => ?_, fun h7 => nx (f0 (if_neg fun hs => h7 hs.1))⟩
  have hlen1 : e.op = 20 → 0 < c13.xs.length := fun h8 => by
    have hc := Eff.chk_eq e c8.toInt 1
    rw [h5] at hc
    by_cases hz : headE e.op e.n e.m e.who c8.toInt 1 e.subs.length (headOp e.subs) = 0
    case neg => rw [if_pos hz] at hc; exact absurd hc.symm hz
    unfold headE at hz
    split at hz
    · cases hz
    split at hz
    · cases hz
    split at hz
    · cases hz
    split at hz
    · cases hz
    split at hz
    · cases hz
    rename_i hf
    have := ((Decidable.of_not_not hf).1 h8).1
    rw [hsub, List.length_map] at this
    omega
  have hho : e.op = 20 → headOp e.subs = ((c13.xs.getD (Int.toNat 0) []).getD 0 (Dat.int IntKind.i64 0)).toInt := fun h8 => by
    rw [hsub]; exact headOp_map (hlen1 h8)
  by_cases h8 : c9.toInt = 20
  · simp only [if_pos h8, ← hho (hop.trans h8)]
    have hl1 := hlen1 (hop.trans h8)
    refine ⟨by simp only [Bool.or_eq_true, decide_eq_true_eq]; exact Or.inr (by omega), fun h9 => fe 2 (by decide) (if_pos ⟨h7, fun hs => ?_⟩), fun h9 => nx (f0 (if_neg fun hs => hs.2 ⟨hop.trans h8, ?_⟩))⟩
    · simp only [Bool.and_eq_true, bne_iff_ne] at h9
      have := hs.2
      omega
    · simp only [Bool.and_eq_false_iff, bne_eq_false_iff_eq] at h9
      omega
  · simp only [if_neg h8]
    exact ⟨by simp [h8], fun _ => fe 2 (by decide) (if_pos ⟨h7, fun hs => h8 (hop ▸ hs.1)⟩), fun h9 => absurd h9 (by decide)⟩
theorem rCheck7_h : Holds E0 k_rCheck7 sg_rCheck7 rCheck7_s := con_fn wf0 mix0 g0 [con_rcost7, con_rCheck6] rfl wk_rCheck7 rfl (by
  intro Φ hΦ ds Q hs ⟨hlen, hsz, h⟩
  have hl : ds.length = 13 := hs.length.symm
  have s1 : Φ k_rcost7 = rcost7_s := by rw [hΦ]; rfl
  have s2 : Φ k_rCheck6 = rCheck6_s := by rw [hΦ]; rfl
  clear hΦ
  simp only [tr_rCheck7, wp, den_int, den_bool, den_nili, den_ar, den_cmp, den_not, den_len, den_elem, den_isnil, den_errI, den_ifc, den_rep, den_push, den_app, den_emp, den_upd, row0_econs, row0_enil, den_and, den_beq, den_nil, toInt_int, toBool_bool, xs_rows, xs_list, dflt_int, dflt_bool, of_eq, of_ne, of_lt, of_le, of_gt, of_ge, of_add, of_sub, of_rem, List.map_cons, List.map_nil, Dat.bool.injEq, decide_eq_true_eq, decide_eq_false_iff_not, Bool.not_eq_true', Bool.not_eq_false', beq_iff_eq, bne_iff_ne, beq_eq_false_iff_ne, bne_eq_false_iff_eq, ne_eq, List.append_assoc, List.cons_append, List.nil_append, allS, s1, s2, rcost7_s, cost_s, rCheck6_s, @den_var0 E0.Δ ds, den_varA, den_varB, hl, Nat.reduceLT, Nat.reduceLeDiff, Nat.reduceSub, List.getD_cons_zero, List.getD_cons_succ, argL_fold ds, argI_fold ds, List.append_assoc, List.cons_append, List.nil_append, toInt_int, toBool_bool, xs_rows, xs_list, Int.toNat_natCast, Dat.bool.injEq, den_or, den_ite, toInt_ite, toBool_ite, argI_c0, argI_c1]
  have hw : argB [ds.getD 3 (.bool false), ds.getD 4 (.bool false), ds.getD 5 (.bool false), ds.getD 6 (.bool false), ds.getD 7 (.bool false), ds.getD 8 (.bool false), .bool (argI ds 0 == 0)] 6 = decide (argI ds 0 = 0) := by
    show (argI ds 0 == 0) = _
    rw [Bool.eq_iff_iff]; simp
  rw [hw]
  have fe : ∀ n : Int, crdErr ds = n → Q [.int .i64 n] := fun n e => by rw [← e]; exact h
  unfold crdErr at fe
  simp only [Bool.or_eq_true, Bool.or_eq_false_iff, decide_eq_true_eq, decide_eq_false_iff_not, bne_iff_ne, bne_eq_false_iff_eq]
  refine ⟨fun h1 => fe 6 (if_pos (by omega)), fun h1 => ?_⟩
  simp only [if_neg (show ¬ (argI ds 0 < 0 ∨ 4 ≤ argI ds 0 ∨ argI ds 1 < 0 ∨ 5 < argI ds 1) by omega)] at fe
  refine ⟨fun h5 => fe 10 (if_pos h5), fun h5 => ?_⟩
  simp only [if_neg (not_not_intro h5)] at fe
  have loop : ∀ (K : Inv → Nat → Int → Int → Prop), (∀ I m, K I m (spells (argL ds 12) : Nat) (argL ds 12).length) → ∃ I : Inv, (∃ m, I [Dat.int IntKind.i64 0, Dat.int IntKind.i64 0] m) ∧ ∀ (n n_1 : Int) (m : Nat), I [Dat.int IntKind.i64 n, Dat.int IntKind.i64 n_1] m → (n_1 < ↑(argL ds 12).length → 0 ≤ n_1 ∧ ∃ m', m' < m ∧ I [if (((argL ds 12).getD n_1.toNat []).getD 0 (Dat.int IntKind.i64 0)).toInt = 0 then Dat.int IntKind.i64 (IntKind.i64.wrap (n + 1)) else Dat.int IntKind.i64 n, Dat.int IntKind.i64 (IntKind.i64.wrap (n_1 + 1))] m') ∧ (¬n_1 < ↑(argL ds 12).length → K I m n n_1) := fun K hK => by
    refine ⟨fun xs m => ∃ i : Nat, i ≤ (argL ds 12).length ∧ m = (argL ds 12).length - i ∧ xs = [.int .i64 (usesK (argL ds 12) 0 i).length, .int .i64 i], ⟨_, 0, by omega, rfl, rfl⟩, ?_⟩
    rintro n i' m ⟨i, hi, hmi, e⟩
    cases e
    refine ⟨fun hlt => ⟨by omega, (argL ds 12).length - (i + 1), by omega, i + 1, by omega, rfl, ?_⟩, fun hge => ?_⟩
    · have hu := usesK_len (argL ds 12) 0 i
      rw [wrap64 (x := (i : Int) + 1) (by omega) (by omega), Int.toNat_natCast]
      by_cases h0 : (((argL ds 12).getD i []).getD 0 (Dat.int IntKind.i64 0)).toInt = 0
      · have h0' : rowI ((argL ds 12).getD i []) 0 = 0 := h0
        rw [if_pos h0, usesK_yes h0', wrap64 (by omega) (by omega), List.length_append]; rfl
      · have h0' : rowI ((argL ds 12).getD i []) 0 ≠ 0 := h0
        rw [if_neg h0, usesK_no h0']; rfl
    · rw [show i = (argL ds 12).length by omega]; exact hK _ _
  refine ⟨fun hk => ⟨fun h6 => fe 1 (if_pos fun hs => ?_), fun h6 => ?_⟩, fun hk => ⟨fun h6 => fe 1 (if_pos fun hs => ?_), fun h6 => ?_⟩⟩
  · unfold strongP at hs; rw [if_pos hk] at hs; omega
  · simp only [if_neg (show ¬ ¬ strongP (argI ds 0) (argI ds 9) (argI ds 10) (argI ds 11) from not_not_intro (by unfold strongP; rw [if_pos hk]; omega))] at fe
    refine loop _ fun I m => ⟨fun hb => fe 2 (if_pos fun hf => ?_), fun hg => rc7_loop s1 s2 hs hl hlen hsz (fe _ (if_neg (not_not_intro ?_))) _ _ _ _⟩
    · unfold formedP at hf; rw [if_neg (by omega)] at hf; omega
    · unfold formedP; rw [if_neg (by omega)]; exact ⟨by omega, by omega, fun _ => hk⟩
  · unfold strongP at hs; rw [if_neg hk] at hs; omega
  · simp only [if_neg (show ¬ ¬ strongP (argI ds 0) (argI ds 9) (argI ds 10) (argI ds 11) from not_not_intro (by unfold strongP; rw [if_neg hk]; omega))] at fe
    refine loop _ fun I m => ?_
    have e2 : (if (ds.getD 2 (Dat.bool false)).toBool = true then Dat.bool (argI ds 0 != 2 || (((spells (argL ds 12) : Nat) : Int) != 1 || ((argL ds 12).length : Int) != 1)) else if argI ds 0 = 2 then Dat.bool (((spells (argL ds 12) : Nat) : Int) != 1 || ((argL ds 12).length : Int) != 1) else Dat.bool (decide (0 < ((spells (argL ds 12) : Nat) : Int)) || decide (4 < ((argL ds 12).length : Int)))) = Dat.bool (decide ¬ formedP (argI ds 0) (argL ds 12).length (spells (argL ds 12)) (argB ds 2)) := by
      rw [ite_datb, ite_datb]
      congr 1
      rw [show argB ds 2 = (ds.getD 2 (Dat.bool false)).toBool from rfl]
      rw [Bool.eq_iff_iff, decide_eq_true_eq]
      unfold formedP
      cases (ds.getD 2 (Dat.bool false)).toBool
      · simp only [Bool.false_eq_true, if_false, false_imp_iff, and_true]
        split
        · simp only [Bool.or_eq_true, bne_iff_ne]; omega
        · simp only [Bool.or_eq_true, decide_eq_true_eq]; omega
      · simp only [if_true, true_imp_iff, Bool.or_eq_true, bne_iff_ne]
        split <;> omega
    rw [e2]
    simp only [Dat.bool.injEq, decide_eq_true_eq, decide_eq_false_iff_not]
    exact ⟨fun hb => fe 2 (if_pos hb), fun hg => rc7_loop s1 s2 hs hl hlen hsz (fe _ (if_neg hg)) _ _ _ _⟩)
noncomputable def con_rCheck7 : Con E0 := ⟨k_rCheck7, sg_rCheck7, rCheck7_s, rfl, bo_rCheck7, rCheck7_h⟩
end Go.Proofs.Ytiolgkmfjcdbiaa
