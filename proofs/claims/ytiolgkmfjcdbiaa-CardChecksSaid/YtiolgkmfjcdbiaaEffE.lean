/-
  Which effects are right: the document's answer.
-/
import Derived.Test.YtiolgkmfjcdbiaaEffD
namespace Go.Proofs.Ytiolgkmfjcdbiaa
open Go.RowKit
set_option linter.unusedVariables false
set_option linter.unusedSimpArgs false

def k_rranges : Nat := 49
def sg_rranges : Sig := ⟨[(true, List.replicate 4 (.int .i64) ++ [.list 36])], [(false, [.bool])], false, false, true⟩
def tr_rranges : Tree := (.ite (.or (.cmp .lt (.var 3) (.int .i64 0)) (.cmp .gt (.var 3) (.int .i64 4)))
 (.ret [(.bool false)])
 (.ite (.or (.cmp .eq (.var 0) (.int .i64 10)) (.cmp .eq (.var 0) (.int .i64 24)))
  (.ret [(.and (.cmp .ge (.var 1) (.int .i64 (-99))) (.and (.cmp .le (.var 1) (.int .i64 99)) (.and (.cmp .ge (.var 2) (.int .i64 (-99))) (.cmp .le (.var 2) (.int .i64 99)))))])
  (.ret [(.and (.cmp .ge (.var 1) (.int .i64 0)) (.and (.cmp .le (.var 1) (.ite (.cmp .eq (.var 0) (.int .i64 20)) (.int .i64 3) (.ite (.cmp .eq (.var 0) (.int .i64 22)) (.int .i64 2) (.ite (.or (.cmp .eq (.var 0) (.int .i64 23)) (.cmp .eq (.var 0) (.int .i64 25))) (.int .i64 255) (.int .i64 99))))) (.and (.cmp .ge (.var 2) (.ite (.cmp .eq (.var 0) (.int .i64 20)) (.int .i64 0) (.ite (.cmp .eq (.var 0) (.int .i64 22)) (.int .i64 0) (.ite (.or (.cmp .eq (.var 0) (.int .i64 23)) (.cmp .eq (.var 0) (.int .i64 25))) (.int .i64 0) (.ite (.cmp .eq (.var 0) (.int .i64 15)) (.int .i64 0) (.ite (.cmp .eq (.var 0) (.int .i64 14)) (.int .i64 112) (.int .i64 0))))))) (.cmp .le (.var 2) (.ite (.cmp .eq (.var 0) (.int .i64 20)) (.int .i64 99) (.ite (.cmp .eq (.var 0) (.int .i64 22)) (.int .i64 99) (.ite (.or (.cmp .eq (.var 0) (.int .i64 23)) (.cmp .eq (.var 0) (.int .i64 25))) (.int .i64 99) (.ite (.cmp .eq (.var 0) (.int .i64 15)) (.int .i64 5) (.ite (.cmp .eq (.var 0) (.int .i64 14)) (.int .i64 119) (.int .i64 99))))))))))])))
theorem wk_rranges : walk E0.cx (sgsN []) 0 49 sg_rranges = tr_rranges := by kernel_rfl
theorem bo_rranges : ∃ x, bodyOf E0.P 49 = some x := bo_of (by kernel_rfl)
def rranges_s : Spec := fun ds Q => ∀ b : Bool, (b = true ↔ rngP (argI ds 0) (argI ds 1) (argI ds 2) (argI ds 3)) → Q [.bool b]
theorem rranges_h : Holds E0 k_rranges sg_rranges rranges_s := con_by wf0 mix0 g0 [] rfl wk_rranges rfl (by
  intro ds Q hs h
  have hl : ds.length = 5 := hs.length.symm
  simp only [tr_rranges, wp, den_int, den_bool, den_nili, den_ar, den_cmp, den_not, den_len, den_elem, den_isnil, den_errI, den_ifc, den_rep, den_push, den_app, den_emp, den_upd, row0_econs, row0_enil, den_and, den_beq, den_nil, toInt_int, toBool_bool, xs_rows, xs_list, dflt_int, dflt_bool, of_eq, of_ne, of_lt, of_le, of_gt, of_ge, of_add, of_sub, of_rem, List.map_cons, List.map_nil, Dat.bool.injEq, decide_eq_true_eq, decide_eq_false_iff_not, Bool.not_eq_true', Bool.not_eq_false', beq_iff_eq, bne_iff_ne, beq_eq_false_iff_ne, bne_eq_false_iff_eq, ne_eq, List.append_assoc, List.cons_append, List.nil_append, den_or, den_ite, toInt_ite, @den_var0 E0.Δ ds, den_varA, den_varB, hl, Nat.reduceLT, Nat.reduceLeDiff, Nat.reduceSub, List.getD_cons_zero, List.getD_cons_succ, argL_fold ds, argI_fold ds, List.append_assoc, List.cons_append, List.nil_append, toInt_int, toBool_bool, xs_rows, xs_list, Int.toNat_natCast, Dat.bool.injEq, Bool.or_eq_true, Bool.and_eq_true, Bool.or_eq_false_iff, decide_eq_true_eq, beq_iff_eq]
  simp only [rranges_s, rngP] at h
  refine ⟨fun h1 => h _ ?_, fun h1 => ⟨fun h2 => h _ ?_, fun h2 => h _ ?_⟩⟩
  · simp only [Bool.false_eq_true, false_iff]; rintro ⟨p1, p2, _⟩; omega
  · rw [if_pos h2]
    simp only [Bool.and_eq_true, decide_eq_true_eq]
    exact ⟨fun hx => ⟨by omega, by omega, hx⟩, fun hx => hx.2.2⟩
  · have h2' : ¬ (argI ds 0 = 10 ∨ argI ds 0 = 24) := by rintro (e | e) <;> simp [e] at h2
    rw [if_neg h2']
    simp only [Bool.and_eq_true, decide_eq_true_eq, nMax, mMin, mMax]
    constructor
    · rintro ⟨p1, p2, p3, p4⟩
      refine ⟨by omega, by omega, p1, p2, ?_, ?_⟩
      · revert p3; repeat' split
        all_goals omega
      · revert p4; repeat' split
        all_goals omega
    · rintro ⟨_, _, p1, p2, p3, p4⟩
      refine ⟨p1, p2, ?_, ?_⟩
      · revert p3; repeat' split
        all_goals omega
      · revert p4; repeat' split
        all_goals omega)
noncomputable def con_rranges : Con E0 := ⟨k_rranges, sg_rranges, rranges_s, rfl, bo_rranges, rranges_h⟩
def k_rfits : Nat := 50
def sg_rfits : Sig := ⟨[(true, List.replicate 4 (.int .i64) ++ [.list 36]), (false, [.int .i64])], [(false, [.bool])], false, false, true⟩
def tr_rfits : Tree := (.ite (.or (.cmp .eq (.var 0) (.int .i64 0)) (.and (.cmp .ge (.var 0) (.int .i64 20)) (.cmp .le (.var 0) (.int .i64 22))))
 (.ret [(.cmp .eq (.var 3) (.int .i64 0))])
 (.ite (.cmp .eq (.var 0) (.int .i64 1))
  (.ret [(.or (.cmp .eq (.var 3) (.int .i64 0)) (.or (.cmp .eq (.var 3) (.int .i64 1)) (.or (.cmp .eq (.var 3) (.int .i64 4)) (.and (.cmp .eq (.var 3) (.int .i64 2)) (.and (.cmp .ge (.var 5) (.int .i64 1)) (.cmp .le (.var 5) (.int .i64 3)))))))])
  (.ite (.cmp .eq (.var 0) (.int .i64 9))
   (.ret [(.and (.cmp .eq (.var 3) (.int .i64 2)) (.cmp .eq (.var 5) (.int .i64 4)))])
   (.ite (.and (.cmp .ge (.var 0) (.int .i64 6)) (.or (.cmp .le (.var 0) (.int .i64 8)) (.and (.cmp .ge (.var 0) (.int .i64 10)) (.or (.cmp .le (.var 0) (.int .i64 13)) (.and (.cmp .ge (.var 0) (.int .i64 23)) (.cmp .le (.var 0) (.int .i64 25)))))))
    (.ret [(.or (.cmp .eq (.var 3) (.int .i64 3)) (.and (.cmp .eq (.var 3) (.int .i64 2)) (.or (.cmp .eq (.var 5) (.int .i64 1)) (.cmp .eq (.var 5) (.int .i64 5)))))])
    (.ret [(.or (.cmp .eq (.var 3) (.int .i64 0)) (.or (.cmp .eq (.var 3) (.int .i64 1)) (.or (.cmp .eq (.var 3) (.int .i64 4)) (.and (.cmp .eq (.var 3) (.int .i64 2)) (.cmp .eq (.var 5) (.int .i64 2))))))])))))
theorem wk_rfits : walk E0.cx (sgsN []) 0 50 sg_rfits = tr_rfits := by kernel_rfl
theorem bo_rfits : ∃ x, bodyOf E0.P 50 = some x := bo_of (by kernel_rfl)
def rfits_s : Spec := fun ds Q => ∀ b : Bool, (b = true ↔ fitP (argI ds 0) (argI ds 3) (argI ds 5)) → Q [.bool b]
theorem rfits_h : Holds E0 k_rfits sg_rfits rfits_s := con_by wf0 mix0 g0 [] rfl wk_rfits rfl (by
  intro ds Q hs h
  have hl : ds.length = 6 := hs.length.symm
  simp only [tr_rfits, wp, den_int, den_bool, den_nili, den_ar, den_cmp, den_not, den_len, den_elem, den_isnil, den_errI, den_ifc, den_rep, den_push, den_app, den_emp, den_upd, row0_econs, row0_enil, den_and, den_beq, den_nil, toInt_int, toBool_bool, xs_rows, xs_list, dflt_int, dflt_bool, of_eq, of_ne, of_lt, of_le, of_gt, of_ge, of_add, of_sub, of_rem, List.map_cons, List.map_nil, Dat.bool.injEq, decide_eq_true_eq, decide_eq_false_iff_not, Bool.not_eq_true', Bool.not_eq_false', beq_iff_eq, bne_iff_ne, beq_eq_false_iff_ne, bne_eq_false_iff_eq, ne_eq, List.append_assoc, List.cons_append, List.nil_append, den_or, den_ite, @den_var0 E0.Δ ds, den_varA, den_varB, hl, Nat.reduceLT, Nat.reduceLeDiff, Nat.reduceSub, List.getD_cons_zero, List.getD_cons_succ, argL_fold ds, argI_fold ds, List.append_assoc, List.cons_append, List.nil_append, toInt_int, toBool_bool, xs_rows, xs_list, Int.toNat_natCast, Dat.bool.injEq, Bool.or_eq_true, Bool.and_eq_true, Bool.or_eq_false_iff, Bool.and_eq_false_iff, decide_eq_true_eq, decide_eq_false_iff_not, beq_iff_eq, beq_eq_false_iff_ne]
  simp only [rfits_s, fitP] at h
  refine ⟨fun h1 => h _ ?_, fun h1 => ⟨fun h2 => h _ ?_, fun h2 => ⟨fun h3 => h _ ?_, fun h3 => ⟨fun h4 => h _ ?_, fun h4 => h _ ?_⟩⟩⟩⟩
  · rw [if_pos h1]; simp only [beq_iff_eq]
  · rw [if_neg (by omega), if_pos h2]; simp only [Bool.or_eq_true, Bool.and_eq_true, decide_eq_true_eq, beq_iff_eq]
  · rw [if_neg (by omega), if_neg h2, if_pos h3]; simp only [Bool.or_eq_true, Bool.and_eq_true, decide_eq_true_eq, beq_iff_eq]
  · rw [if_neg (by omega), if_neg h2, if_neg h3, if_pos (by unfold objP; omega)]; simp only [Bool.or_eq_true, Bool.and_eq_true, decide_eq_true_eq, beq_iff_eq]
  · rw [if_neg (by omega), if_neg h2, if_neg h3, if_neg (by unfold objP; omega)]; simp only [Bool.or_eq_true, Bool.and_eq_true, decide_eq_true_eq, beq_iff_eq])
noncomputable def con_rfits : Con E0 := ⟨k_rfits, sg_rfits, rfits_s, rfl, bo_rfits, rfits_h⟩
def k_rcheck : Nat := 40
def sg_rcheck : Sig := ⟨[(true, List.replicate 4 (.int .i64) ++ [.list 36]), (false, [.int .i64]), (false, [.int .i64])], [(false, [.int .i64])], false, false, true⟩
def tr_rcheck : Tree := (.ite (.or (.cmp .lt (.var 0) (.int .i64 0)) (.cmp .gt (.var 0) (.int .i64 25)))
 (.ret [(.int .i64 6)])
 (.ite (.cmp .gt (.var 6) (.int .i64 8))
  (.ret [(.int .i64 3)])
  (.call k_rranges [(.var 0), (.var 1), (.var 2), (.var 3), (.var 4)] [.bool]
  (.ite (.not (.var 7))
   (.ret [(.int .i64 1)])
   (.call k_rfits [(.var 0), (.var 1), (.var 2), (.var 3), (.var 4), (.var 5)] [.bool]
   (.ite (.not (.var 8))
    (.ret [(.int .i64 11)])
    (.ob (.or (.not (.cmp .eq (.var 0) (.int .i64 20))) (.or (.cmp .ne (.len (.var 4)) (.int .i64 1)) (.cmp .lt (.int .i64 0) (.len (.var 4)))))
    (.ob (.or (.not (.cmp .eq (.var 0) (.int .i64 20))) (.or (.cmp .ne (.len (.var 4)) (.int .i64 1)) (.or (.not (.cmp .ne (.elem (.var 4) (.int .i64 0) 0 (.int .i64)) (.int .i64 1))) (.cmp .lt (.int .i64 0) (.len (.var 4))))))
    (.ite (.ite (.cmp .eq (.var 0) (.int .i64 20)) (.or (.cmp .ne (.len (.var 4)) (.int .i64 1)) (.and (.cmp .ne (.elem (.var 4) (.int .i64 0) 0 (.int .i64)) (.int .i64 1)) (.not (.and (.cmp .ge (.elem (.var 4) (.int .i64 0) 0 (.int .i64)) (.int .i64 6)) (.or (.cmp .le (.elem (.var 4) (.int .i64 0) 0 (.int .i64)) (.int .i64 8)) (.and (.cmp .ge (.elem (.var 4) (.int .i64 0) 0 (.int .i64)) (.int .i64 10)) (.or (.cmp .le (.elem (.var 4) (.int .i64 0) 0 (.int .i64)) (.int .i64 13)) (.and (.cmp .ge (.elem (.var 4) (.int .i64 0) 0 (.int .i64)) (.int .i64 23)) (.cmp .le (.elem (.var 4) (.int .i64 0) 0 (.int .i64)) (.int .i64 25)))))))))) (.ite (.cmp .eq (.var 0) (.int .i64 21)) (.or (.cmp .lt (.len (.var 4)) (.int .i64 1)) (.cmp .gt (.len (.var 4)) (.int .i64 8))) (.ite (.cmp .eq (.var 0) (.int .i64 22)) (.or (.cmp .lt (.len (.var 4)) (.int .i64 1)) (.cmp .gt (.len (.var 4)) (.int .i64 2))) (.ite (.cmp .lt (.var 0) (.int .i64 20)) (.cmp .gt (.len (.var 4)) (.int .i64 0)) (.and (.cmp .gt (.var 0) (.int .i64 22)) (.cmp .gt (.len (.var 4)) (.int .i64 0)))))))
     (.ret [(.int .i64 2)])
     (.ite (.cmp .eq (.var 0) (.int .i64 20))
      (.ob (.cmp .lt (.int .i64 0) (.len (.var 4)))
      (.call k_rcheck [(.elem (.var 4) (.int .i64 0) 0 (.int .i64)), (.elem (.var 4) (.int .i64 0) 1 (.int .i64)), (.elem (.var 4) (.int .i64 0) 2 (.int .i64)), (.elem (.var 4) (.int .i64 0) 3 (.int .i64)), (.elem (.var 4) (.int .i64 0) 4 (.list 36)), (.int .i64 1), (.ar .add .i64 (.var 6) (.int .i64 1))] [(.int .i64)]
      (.ite (.cmp .ne (.var 9) (.int .i64 0))
       (.ret [(.var 9)])
       (.ob (.cmp .lt (.int .i64 0) (.len (.var 4)))
       (.ite (.cmp .ne (.elem (.var 4) (.int .i64 0) 3 (.int .i64)) (.int .i64 2))
        (.ret [(.int .i64 11)])
        (.ret [(.int .i64 0)]))))))
      (.loop [(.int .i64 0), (.int .i64 0)] [(.int .i64), (.int .i64)]
       (.ite (.cmp .lt (.var 10) (.len (.var 4)))
        (.ob (.cmp .ge (.var 10) (.int .i64 0))
        (.call k_rcheck [(.elem (.var 4) (.var 10) 0 (.int .i64)), (.elem (.var 4) (.var 10) 1 (.int .i64)), (.elem (.var 4) (.var 10) 2 (.int .i64)), (.elem (.var 4) (.var 10) 3 (.int .i64)), (.elem (.var 4) (.var 10) 4 (.list 36)), (.var 5), (.ar .add .i64 (.var 6) (.int .i64 1))] [(.int .i64)]
        (.ite (.cmp .ne (.var 11) (.int .i64 0))
         (.ret [(.var 11)])
         (.again 0 [(.var 9), (.ar .add .i64 (.var 10) (.int .i64 1))]))))
        (.ret [(.int .i64 0)])))))))))))))
theorem wk_rcheck : walk E0.cx (sgsN [(49, sg_rranges), (50, sg_rfits), (40, sg_rcheck)]) 0 40 sg_rcheck = tr_rcheck := by kernel_rfl
theorem bo_rcheck : ∃ x, bodyOf E0.P 40 = some x := bo_of (by kernel_rfl)
def rcheck_s : Spec := fun ds Q => 0 ≤ argI ds 5 ∧ argI ds 5 ≤ 5 ∧ 1 ≤ argI ds 6 ∧ argI ds 6 ≤ 9 ∧ (argE ds).size ≤ 1000 ∧ Q [.int .i64 ((argE ds).chk (argI ds 5) (argI ds 6))]
theorem rcheck_h : Holds E0 k_rcheck sg_rcheck rcheck_s := holds_rec mE fun n ih => con_fn wf0 mix0 g0 [con_rranges, con_rfits, ⟨_, _, _, rfl, bo_rcheck, ih⟩] rfl wk_rcheck rfl (by
  intro Φ hΦ ds Q hs ⟨hm, t0, t5, d1, d9, hsm, h⟩
  have hl : ds.length = 7 := hs.length.symm
  have sp : Φ k_rcheck = (fun ds Q => mE ds < n ∧ rcheck_s ds Q) := by rw [hΦ]; rfl
  have sp1 : Φ k_rranges = rranges_s := by rw [hΦ]; rfl
  have sp2 : Φ k_rfits = rfits_s := by rw [hΦ]; rfl
  clear hΦ
  have hrow := eff_len (all2_get hs (i := 4) rfl)
  rw [argL_fold] at hrow
  have hsub := argE_subs ds
  simp only [tr_rcheck, wp, den_int, den_bool, den_nili, den_ar, den_cmp, den_not, den_len, den_elem, den_isnil, den_errI, den_ifc, den_rep, den_push, den_app, den_emp, den_upd, row0_econs, row0_enil, den_and, den_beq, den_nil, toInt_int, toBool_bool, xs_rows, xs_list, dflt_int, dflt_bool, of_eq, of_ne, of_lt, of_le, of_gt, of_ge, of_add, of_sub, of_rem, List.map_cons, List.map_nil, Dat.bool.injEq, decide_eq_true_eq, decide_eq_false_iff_not, Bool.not_eq_true', Bool.not_eq_false', beq_iff_eq, bne_iff_ne, beq_eq_false_iff_ne, bne_eq_false_iff_eq, ne_eq, List.append_assoc, List.cons_append, List.nil_append, allS, sp, sp1, sp2, rranges_s, rfits_s, den_or, den_ite, toBool_ite, argI_c0, argI_c1, Int.toNat_zero, toInt_getD, ite_datb, @den_var0 E0.Δ ds, den_varA, den_varB, hl, Nat.reduceLT, Nat.reduceLeDiff, Nat.reduceSub, List.getD_cons_zero, List.getD_cons_succ, argL_fold ds, argI_fold ds, List.append_assoc, List.cons_append, List.nil_append, toInt_int, toBool_bool, xs_rows, xs_list, Int.toNat_natCast, Dat.bool.injEq]
  have hsz : (argE ds).size = 1 + Eff.sizes ((argL ds 4).map effOf) := by rw [Eff.size_eq, hsub]
  rw [mE, hsz] at hm
  rw [hsz] at hsm
  rw [Eff.chk_eq, argE_opI, argE_n, argE_m, argE_who, hsub, List.length_map] at h
  have hso : 0 < (argL ds 4).length → headOp ((argL ds 4).map effOf) = rowI ((argL ds 4).getD 0 []) 0 := headOp_map
  have hv5 : ds.getD 5 (.bool false) = .int .i64 (argI ds 5) := argV (all2_get hs (i := 5) rfl)
  have hlen := Eff.length_le_sizes ((argL ds 4).map effOf)
  rw [List.length_map] at hlen
  refine ⟨fun h1 => ?_, fun h1 => ⟨fun h2 => ?_, fun h2 b hb => ⟨fun h3 => ?_, fun h3 b' hb' => ⟨fun h4 => ?_, fun h4 => ?_⟩⟩⟩⟩
  · simp only [Bool.or_eq_true, decide_eq_true_eq] at h1
    have e : headE (argI ds 0) (argI ds 1) (argI ds 2) (argI ds 3) (argI ds 5) (argI ds 6) (argL ds 4).length (headOp ((argL ds 4).map effOf)) = 6 := by rw [headE, if_pos (by omega)]
    rw [e] at h; exact h
  · have e : headE (argI ds 0) (argI ds 1) (argI ds 2) (argI ds 3) (argI ds 5) (argI ds 6) (argL ds 4).length (headOp ((argL ds 4).map effOf)) = 3 := by
      simp only [Bool.or_eq_false_iff, decide_eq_false_iff_not] at h1
      rw [headE, if_neg (by omega), if_pos (by omega)]
    rw [e] at h; exact h
  · have e : headE (argI ds 0) (argI ds 1) (argI ds 2) (argI ds 3) (argI ds 5) (argI ds 6) (argL ds 4).length (headOp ((argL ds 4).map effOf)) = 1 := by
      simp only [Bool.or_eq_false_iff, decide_eq_false_iff_not] at h1
      rw [headE, if_neg (by omega), if_neg (by omega), if_pos (fun hx => by rw [hb.2 hx] at h3; cases h3)]
    rw [e] at h; exact h
  · have e : headE (argI ds 0) (argI ds 1) (argI ds 2) (argI ds 3) (argI ds 5) (argI ds 6) (argL ds 4).length (headOp ((argL ds 4).map effOf)) = 11 := by
      simp only [Bool.or_eq_false_iff, decide_eq_false_iff_not] at h1
      rw [headE, if_neg (by omega), if_neg (by omega), if_neg (fun hx => hx (hb.1 h3)), if_pos (fun hx => by rw [hb'.2 hx] at h4; cases h4)]
    rw [e] at h; exact h
  simp only [Bool.or_eq_false_iff, decide_eq_false_iff_not] at h1
  have hgood : headE (argI ds 0) (argI ds 1) (argI ds 2) (argI ds 3) (argI ds 5) (argI ds 6) (argL ds 4).length (headOp ((argL ds 4).map effOf)) = if ¬ formP (argI ds 0) (argL ds 4).length (headOp ((argL ds 4).map effOf)) then 2 else 0 := by
    rw [headE, if_neg (by omega), if_neg (by omega), if_neg (fun hx => hx (hb.1 h3)), if_neg (fun hx => hx (hb'.1 h4))]
  rw [hgood] at h
  have hrec : ∀ (i : Nat) (t : Int) (Q' : List Dat → Prop), i < (argL ds 4).length → 0 ≤ t → t ≤ 5 → Q' [.int .i64 ((effOf ((argL ds 4).getD i [])).chk t (argI ds 6 + 1))] → mE ((argL ds 4).getD i [] ++ [.int .i64 t, .int .i64 (IntKind.i64.wrap (argI ds 6 + 1))]) < n ∧ rcheck_s ((argL ds 4).getD i [] ++ [.int .i64 t, .int .i64 (IntKind.i64.wrap (argI ds 6 + 1))]) Q' := fun i t Q' hi ht0 ht5 hQ => by
    have hr := hrow _ (getD_memL (d := []) hi)
    have hle : (effOf ((argL ds 4).getD i [])).size ≤ Eff.sizes ((argL ds 4).map effOf) := Eff.size_le_sizes (List.mem_map.2 ⟨_, getD_memL hi, rfl⟩)
    rw [wrap64 (by omega) (by omega)]
    simp only [mE, rcheck_s, argE_row hr, argI_row hr (show 5 ≤ 5 by omega), argI_row hr (show 5 ≤ 6 by omega), Nat.sub_self, argI_c0, argI_c1, Nat.reduceSub, toInt_int]
    exact ⟨by omega, ht0, ht5, by omega, by omega, by omega, hQ⟩
  have g1 : (!argI ds 0 == 20 || (((argL ds 4).length : Int) != 1 || decide (0 < ((argL ds 4).length : Int)))) = true := by
    by_cases e : ((argL ds 4).length : Int) = 1 <;> simp [e]
  have g2 : (!argI ds 0 == 20 || (((argL ds 4).length : Int) != 1 || (!rowI ((argL ds 4).getD 0 []) 0 != 1 || decide (0 < ((argL ds 4).length : Int))))) = true := by
    by_cases e : ((argL ds 4).length : Int) = 1 <;> simp [e]
  refine ⟨g1, g2, fun h5 => ?_, fun h5 => ?_⟩
  · have hM : ¬ formP (argI ds 0) (argL ds 4).length (headOp ((argL ds 4).map effOf)) := fun ⟨f1, f2, f3, f4⟩ => by
      by_cases a : argI ds 0 = 20
      · rw [if_pos a] at h5
        obtain ⟨e1, e2⟩ := f1 a
        rw [hso (by omega)] at e2
        simp only [Bool.or_eq_true, Bool.and_eq_true, bne_iff_ne, ne_eq, Bool.not_eq_true', Bool.and_eq_false_iff, Bool.or_eq_false_iff, decide_eq_false_iff_not] at h5
        unfold objP at e2
        omega
      rw [if_neg a] at h5
      by_cases b : argI ds 0 = 21
      · rw [if_pos b] at h5
        have := f2 b
        simp only [Bool.or_eq_true, decide_eq_true_eq] at h5
        omega
      rw [if_neg b] at h5
      by_cases c : argI ds 0 = 22
      · rw [if_pos c] at h5
        have := f3 c
        simp only [Bool.or_eq_true, decide_eq_true_eq] at h5
        omega
      rw [if_neg c] at h5
      have := f4 (by omega)
      by_cases e : argI ds 0 < 20
      · rw [if_pos e] at h5
        simp only [decide_eq_true_eq] at h5
        omega
      · rw [if_neg e] at h5
        simp only [Bool.and_eq_true, decide_eq_true_eq] at h5
        omega
    rw [if_pos hM] at h; exact h
  have hM : ¬ ¬ formP (argI ds 0) (argL ds 4).length (headOp ((argL ds 4).map effOf)) := fun hx => hx (by
    refine ⟨fun a => ?_, fun b => ?_, fun c => ?_, fun d => ?_⟩
    · rw [if_pos a] at h5
      simp only [Bool.or_eq_false_iff, Bool.and_eq_false_iff, bne_eq_false_iff_eq, Bool.not_eq_false', Bool.and_eq_true, Bool.or_eq_true, decide_eq_true_eq] at h5
      rw [hso (by omega)]
      unfold objP
      omega
    · rw [if_neg (by omega), if_pos b] at h5
      simp only [Bool.or_eq_false_iff, decide_eq_false_iff_not] at h5
      omega
    · rw [if_neg (by omega), if_neg (by omega), if_pos c] at h5
      simp only [Bool.or_eq_false_iff, decide_eq_false_iff_not] at h5
      omega
    · rw [if_neg (by omega), if_neg (by omega), if_neg (by omega)] at h5
      by_cases e : argI ds 0 < 20
      · rw [if_pos e] at h5
        simp only [decide_eq_false_iff_not] at h5
        omega
      · rw [if_neg e] at h5
        simp only [Bool.and_eq_false_iff, decide_eq_false_iff_not] at h5
        omega)
  rw [if_neg hM, if_neg (fun hx => hx rfl)] at h
  refine ⟨fun h20 => ?_, fun h20 => ?_⟩
  · rw [if_pos h20] at h
    have hk : (argL ds 4).length = 1 := by
      rcases Decidable.em (formP (argI ds 0) (argL ds 4).length (headOp ((argL ds 4).map effOf))) with hf | hf
      · exact (hf.1 h20).1
      · exact absurd hf hM
    have hlt : 0 < (argL ds 4).length := by omega
    have hr := hrow _ (getD_memL (d := []) hlt)
    have hone : (argL ds 4).map effOf = [effOf ((argL ds 4).getD 0 [])] := by
      match hq : argL ds 4, hk with
      | [x], _ => rfl
    rw [hone] at h
    simp only [Eff.chkA, effOf_who] at h
    refine ⟨by omega, ?_⟩
    simp only [fold5xy hr]
    refine hrec 0 1 _ hlt (by omega) (by omega) ?_
    simp only [List.getD_cons_zero, toInt_int]
    refine ⟨fun hne => ?_, fun he => ⟨by omega, fun hw => ?_, fun hw => ?_⟩⟩
    · rw [if_pos hne] at h; exact h
    · rw [if_neg (fun hx => hx he), if_pos hw] at h; exact h
    · rw [if_neg (fun hx => hx he), if_neg (fun hx => hx hw)] at h; exact h
  · rw [if_neg h20] at h
    refine ⟨fun xs m => ∃ (z : Int) (i : Nat), xs = [.int .i64 z, .int .i64 i] ∧ i ≤ (argL ds 4).length ∧ m = (argL ds 4).length - i ∧ Eff.chks (argI ds 5) (argI ds 6 + 1) (((argL ds 4).drop i).map effOf) = Eff.chks (argI ds 5) (argI ds 6 + 1) ((argL ds 4).map effOf), ⟨_, _, 0, rfl, by omega, rfl, rfl⟩, ?_⟩
    rintro z i' m ⟨_, i, e, hi, hmi, hd⟩
    cases e
    refine ⟨fun hlt => ?_, fun hge => ?_⟩
    · have hi2 : i < (argL ds 4).length := by omega
      have hr := hrow _ (getD_memL (d := []) hi2)
      rw [drop_getD (d := []) hi2, List.map_cons, Eff.chks] at hd
      refine ⟨by omega, ?_⟩
      simp only [Int.toNat_natCast, fold5xy hr, hv5]
      refine hrec i _ _ hi2 t0 t5 ?_
      simp only [List.getD_cons_zero, toInt_int]
      refine ⟨fun hne => ?_, fun he => ?_⟩
      · rw [if_pos hne] at hd
        rw [hd]; exact h
      · rw [if_neg (fun hx => hx he)] at hd
        refine ⟨(argL ds 4).length - (i + 1), by omega, z, i + 1, ?_, by omega, rfl, hd⟩
        rw [wrap64 (by omega) (by omega)]; rfl
    · have hkk : i = (argL ds 4).length := by omega
      rw [List.drop_of_length_le (by omega)] at hd
      rw [← hd] at h; exact h)
noncomputable def con_rcheck : Con E0 := ⟨k_rcheck, sg_rcheck, rcheck_s, rfl, bo_rcheck, rcheck_h⟩
def k_eCheck : Nat := 12
def sg_eCheck : Sig := ⟨[(true, List.replicate 4 (.int .i64) ++ [.list 36]), (false, [.int .i64])], [(false, [.err])], false, false, false⟩
def tr_eCheck : Tree := (.ite (.cmp .lt (.var 5) (.int .i64 0))
 (.ret [(.ifc (.int .i64 6))])
 (.ite (.cmp .ge (.var 5) (.int .i64 6))
  (.ret [(.ifc (.int .i64 6))])
  (.call k_echeck [(.var 0), (.var 1), (.var 2), (.var 3), (.var 4), (.var 5), (.int .i64 1)] [.err]
  (.ret [(.var 6)]))))
theorem wk_eCheck : walk E0.cx (sgsN [(29, sg_echeck)]) 0 12 sg_eCheck = tr_eCheck := by kernel_rfl
theorem bo_eCheck : ∃ x, bodyOf E0.P 12 = some x := bo_of (by kernel_rfl)
theorem sp_eCheck_echeck : specC [con_echeck] k_echeck = echeck_s := rfl
def eCheck_s : Spec := fun ds Q => Q [errV (if argI ds 5 < 0 ∨ 5 < argI ds 5 then 6 else (argE ds).chk (argI ds 5) 1)]
theorem eCheck_h : Holds E0 k_eCheck sg_eCheck eCheck_s := con_fn wf0 mix0 g0 [con_echeck] rfl wk_eCheck rfl (by
  intro Φ hΦ ds Q hs h
  have hl : ds.length = 6 := hs.length.symm
  have sp : Φ k_echeck = echeck_s := by rw [hΦ]; rfl
  clear hΦ
  have hv5 : ds.getD 5 (.bool false) = .int .i64 (argI ds 5) := argV (all2_get hs (i := 5) rfl)
  unfold eCheck_s at h
  simp only [tr_eCheck, wp, den_int, den_bool, den_nili, den_ar, den_cmp, den_not, den_len, den_elem, den_isnil, den_errI, den_ifc, den_rep, den_push, den_app, den_emp, den_upd, row0_econs, row0_enil, den_and, den_beq, den_nil, toInt_int, toBool_bool, xs_rows, xs_list, dflt_int, dflt_bool, of_eq, of_ne, of_lt, of_le, of_gt, of_ge, of_add, of_sub, of_rem, List.map_cons, List.map_nil, Dat.bool.injEq, decide_eq_true_eq, decide_eq_false_iff_not, Bool.not_eq_true', Bool.not_eq_false', beq_iff_eq, bne_iff_ne, beq_eq_false_iff_ne, bne_eq_false_iff_eq, ne_eq, List.append_assoc, List.cons_append, List.nil_append, allS, sp, echeck_s, @den_var0 E0.Δ ds, den_varA, den_varB, hl, Nat.reduceLT, Nat.reduceLeDiff, Nat.reduceSub, List.getD_cons_zero, List.getD_cons_succ, argL_fold ds, argI_fold ds, List.append_assoc, List.cons_append, List.nil_append, toInt_int, toBool_bool, xs_rows, xs_list, Int.toNat_natCast, Dat.bool.injEq, argI_c0, argI_c1]
  refine ⟨fun h1 => ?_, fun h1 => ⟨fun h2 => ?_, fun h2 => ?_⟩⟩
  · rw [if_pos (by omega)] at h; exact h
  · rw [if_pos (by omega)] at h; exact h
  · rw [if_neg (by omega)] at h
    refine ⟨by omega, by omega, by omega, by omega, ?_⟩
    have e : argE [ds.getD 0 (.bool false), ds.getD 1 (.bool false), ds.getD 2 (.bool false), ds.getD 3 (.bool false), ds.getD 4 (.bool false), ds.getD 5 (.bool false), .int .i64 1] = argE ds := by
      match ds, hl with
      | [_, _, _, _, _, _], _ => rfl
    rw [e]; exact h)
noncomputable def con_eCheck : Con E0 := ⟨k_eCheck, sg_eCheck, eCheck_s, rfl, bo_eCheck, eCheck_h⟩
def k_rCheck6 : Nat := 28
def sg_rCheck6 : Sig := ⟨[(true, List.replicate 4 (.int .i64) ++ [.list 36]), (false, [.int .i64])], [(false, [.int .i64])], false, false, false⟩
def tr_rCheck6 : Tree := (.ite (.cmp .lt (.var 5) (.int .i64 0))
 (.ret [(.int .i64 6)])
 (.ite (.cmp .gt (.var 5) (.int .i64 5))
  (.ret [(.int .i64 6)])
  (.call k_rcheck [(.var 0), (.var 1), (.var 2), (.var 3), (.var 4), (.var 5), (.int .i64 1)] [(.int .i64)]
  (.ret [(.var 6)]))))
theorem wk_rCheck6 : walk E0.cx (sgsN [(40, sg_rcheck)]) 0 28 sg_rCheck6 = tr_rCheck6 := by kernel_rfl
theorem bo_rCheck6 : ∃ x, bodyOf E0.P 28 = some x := bo_of (by kernel_rfl)
theorem sp_rCheck6_rcheck : specC [con_rcheck] k_rcheck = rcheck_s := rfl
def rCheck6_s : Spec := fun ds Q => (argE ds).size ≤ 1000 ∧ Q [.int .i64 (if argI ds 5 < 0 ∨ 5 < argI ds 5 then 6 else (argE ds).chk (argI ds 5) 1)]
theorem rCheck6_h : Holds E0 k_rCheck6 sg_rCheck6 rCheck6_s := con_fn wf0 mix0 g0 [con_rcheck] rfl wk_rCheck6 rfl (by
  intro Φ hΦ ds Q hs ⟨hsm, h⟩
  have hl : ds.length = 6 := hs.length.symm
  have sp : Φ k_rcheck = rcheck_s := by rw [hΦ]; rfl
  clear hΦ
  simp only [tr_rCheck6, wp, den_int, den_bool, den_nili, den_ar, den_cmp, den_not, den_len, den_elem, den_isnil, den_errI, den_ifc, den_rep, den_push, den_app, den_emp, den_upd, row0_econs, row0_enil, den_and, den_beq, den_nil, toInt_int, toBool_bool, xs_rows, xs_list, dflt_int, dflt_bool, of_eq, of_ne, of_lt, of_le, of_gt, of_ge, of_add, of_sub, of_rem, List.map_cons, List.map_nil, Dat.bool.injEq, decide_eq_true_eq, decide_eq_false_iff_not, Bool.not_eq_true', Bool.not_eq_false', beq_iff_eq, bne_iff_ne, beq_eq_false_iff_ne, bne_eq_false_iff_eq, ne_eq, List.append_assoc, List.cons_append, List.nil_append, allS, sp, rcheck_s, @den_var0 E0.Δ ds, den_varA, den_varB, hl, Nat.reduceLT, Nat.reduceLeDiff, Nat.reduceSub, List.getD_cons_zero, List.getD_cons_succ, argL_fold ds, argI_fold ds, List.append_assoc, List.cons_append, List.nil_append, toInt_int, toBool_bool, xs_rows, xs_list, Int.toNat_natCast, Dat.bool.injEq, argI_c0, argI_c1]
  refine ⟨fun h1 => ?_, fun h1 => ⟨fun h2 => ?_, fun h2 => ?_⟩⟩
  · rw [if_pos (by omega)] at h; exact h
  · rw [if_pos (by omega)] at h; exact h
  · rw [if_neg (by omega)] at h
    have e : argE [ds.getD 0 (.bool false), ds.getD 1 (.bool false), ds.getD 2 (.bool false), ds.getD 3 (.bool false), ds.getD 4 (.bool false), ds.getD 5 (.bool false), .int .i64 1] = argE ds := by
      match ds, hl with
      | [_, _, _, _, _, _], _ => rfl
    rw [e]
    exact ⟨by omega, by omega, by omega, by omega, hsm, h⟩)
noncomputable def con_rCheck6 : Con E0 := ⟨k_rCheck6, sg_rCheck6, rCheck6_s, rfl, bo_rCheck6, rCheck6_h⟩
end Go.Proofs.Ytiolgkmfjcdbiaa
