/-
  The document's answer for states: the whole check.
-/
import Derived.Test.YtonjilfbcofoaaaDoorRefC
namespace Go.Proofs.YtonjilfbcofoaaaDoor
open Go.RowKit
set_option linter.unusedVariables false
set_option linter.unusedSimpArgs false

/-- the number of a state's error -/
def errP (ds : List Dat) (n : Int) : Prop :=
  if 400 < (argL ds 0).length then n = 5
  else (¬ rangesP ds ∧ n = 1) ∨ (rangesP ds ∧ ¬ zonesP ds ∧ n = 12) ∨ (rangesP ds ∧ zonesP ds ∧ ¬ (∀ o ∈ argL ds 0, formedP o) ∧ n = 2) ∨ (rangesP ds ∧ zonesP ds ∧ (∀ o ∈ argL ds 0, formedP o) ∧ n = 0)
theorem errP_inj {ds : List Dat} {n m : Int} (h1 : errP ds n) (h2 : errP ds m) : n = m := by
  unfold errP at h1 h2
  split at h1
  · rw [if_pos (by assumption)] at h2; omega
  · rw [if_neg (by assumption)] at h2
    rcases h1 with h | h | h | h <;> rcases h2 with h' | h' | h' | h' <;> simp_all
theorem fold_getD {α : Type} (d : α) : ∀ (ds : List α), (List.range' 0 ds.length).map (fun i => ds.getD i d) = ds := fun ds => by
  apply List.ext_getElem
  · simp
  · intro i h1 h2
    simp [List.getD_eq_getElem?_getD, h2]
theorem fold37 {α : Type} {ds : List α} {d : α} (hl : ds.length = 37) : [ds.getD 0 d, ds.getD 1 d, ds.getD 2 d, ds.getD 3 d, ds.getD 4 d, ds.getD 5 d, ds.getD 6 d, ds.getD 7 d, ds.getD 8 d, ds.getD 9 d, ds.getD 10 d, ds.getD 11 d, ds.getD 12 d, ds.getD 13 d, ds.getD 14 d, ds.getD 15 d, ds.getD 16 d, ds.getD 17 d, ds.getD 18 d, ds.getD 19 d, ds.getD 20 d, ds.getD 21 d, ds.getD 22 d, ds.getD 23 d, ds.getD 24 d, ds.getD 25 d, ds.getD 26 d, ds.getD 27 d, ds.getD 28 d, ds.getD 29 d, ds.getD 30 d, ds.getD 31 d, ds.getD 32 d, ds.getD 33 d, ds.getD 34 d, ds.getD 35 d, ds.getD 36 d] = ds := by
  have := fold_getD d ds
  rw [hl] at this
  exact this
theorem fold18 {α : Type} {ds : List α} {d : α} (hl : ds.length = 18) : [ds.getD 0 d, ds.getD 1 d, ds.getD 2 d, ds.getD 3 d, ds.getD 4 d, ds.getD 5 d, ds.getD 6 d, ds.getD 7 d, ds.getD 8 d, ds.getD 9 d, ds.getD 10 d, ds.getD 11 d, ds.getD 12 d, ds.getD 13 d, ds.getD 14 d, ds.getD 15 d, ds.getD 16 d, ds.getD 17 d] = ds := by
  have := fold_getD d ds
  rw [hl] at this
  exact this
theorem formed_row (o : List Dat) : formedP [o.getD 0 (.int .i64 0), o.getD 1 (.int .i64 0), o.getD 2 (.int .i64 0), o.getD 3 (.int .i64 0), o.getD 4 (.int .i64 0), o.getD 5 (.int .i64 0), o.getD 6 (.int .i64 0), o.getD 7 (.int .i64 0), o.getD 8 (.int .i64 0), o.getD 9 (.int .i64 0), o.getD 10 (.int .i64 0), o.getD 11 (.int .i64 0), o.getD 12 (.int .i64 0), o.getD 13 (.int .i64 0), o.getD 14 (.int .i64 0), o.getD 15 (.int .i64 0), o.getD 16 (.int .i64 0), o.getD 17 (.int .i64 0)] = formedP o := rfl
def k_rCheck : Nat := 9
def sg_rCheck : Sig := ⟨[(true, [.list 50] ++ List.replicate 11 (.list 3) ++ List.replicate 25 (.int .i64))], [(false, [.int .i64])], false, false, false⟩
def tr_rCheck : Tree := (.ite (.cmp .gt (.len (.var 0)) (.int .i64 400))
 (.ret [(.int .i64 5)])
 (.call k_rranges [(.var 0), (.var 1), (.var 2), (.var 3), (.var 4), (.var 5), (.var 6), (.var 7), (.var 8), (.var 9), (.var 10), (.var 11), (.var 12), (.var 13), (.var 14), (.var 15), (.var 16), (.var 17), (.var 18), (.var 19), (.var 20), (.var 21), (.var 22), (.var 23), (.var 24), (.var 25), (.var 26), (.var 27), (.var 28), (.var 29), (.var 30), (.var 31), (.var 32), (.var 33), (.var 34), (.var 35), (.var 36)] [.bool]
 (.ite (.not (.var 37))
  (.ret [(.int .i64 1)])
  (.call k_rzones [(.var 0), (.var 1), (.var 2), (.var 3), (.var 4), (.var 5), (.var 6), (.var 7), (.var 8), (.var 9), (.var 10), (.var 11), (.var 12), (.var 13), (.var 14), (.var 15), (.var 16), (.var 17), (.var 18), (.var 19), (.var 20), (.var 21), (.var 22), (.var 23), (.var 24), (.var 25), (.var 26), (.var 27), (.var 28), (.var 29), (.var 30), (.var 31), (.var 32), (.var 33), (.var 34), (.var 35), (.var 36)] [.bool]
  (.ite (.not (.var 38))
   (.ret [(.int .i64 12)])
   (.loop [(.int .i64 0), (.int .i64 0)] [(.int .i64), (.int .i64)]
    (.ite (.cmp .lt (.var 40) (.len (.var 0)))
     (.ob (.cmp .ge (.var 40) (.int .i64 0))
     (.call k_rformed [(.elem (.var 0) (.var 40) 0 (.int .i64)), (.elem (.var 0) (.var 40) 1 (.int .i64)), (.elem (.var 0) (.var 40) 2 (.int .i64)), (.elem (.var 0) (.var 40) 3 (.int .i64)), (.elem (.var 0) (.var 40) 4 (.int .i64)), (.elem (.var 0) (.var 40) 5 (.int .i64)), (.elem (.var 0) (.var 40) 6 (.int .i64)), (.elem (.var 0) (.var 40) 7 (.int .i64)), (.elem (.var 0) (.var 40) 8 (.int .i64)), (.elem (.var 0) (.var 40) 9 (.int .i64)), (.elem (.var 0) (.var 40) 10 (.int .i64)), (.elem (.var 0) (.var 40) 11 (.int .i64)), (.elem (.var 0) (.var 40) 12 (.int .i64)), (.elem (.var 0) (.var 40) 13 (.int .i64)), (.elem (.var 0) (.var 40) 14 (.int .i64)), (.elem (.var 0) (.var 40) 15 (.int .i64)), (.elem (.var 0) (.var 40) 16 (.int .i64)), (.elem (.var 0) (.var 40) 17 (.int .i64))] [.bool]
     (.ite (.not (.var 41))
      (.ret [(.int .i64 2)])
      (.again 0 [(.var 39), (.ar .add .i64 (.var 40) (.int .i64 1))]))))
     (.ret [(.int .i64 0)]))))))))
theorem wk_rCheck : walk E0.cx (sgsN [(20, sg_rranges), (21, sg_rzones), (22, sg_rformed)]) 0 9 sg_rCheck = tr_rCheck := by kernel_rfl
theorem bo_rCheck : ∃ x, bodyOf E0.P 9 = some x := bo_of (by kernel_rfl)
theorem sp_rCheck_rranges : specC [con_rranges, con_rzones, con_rformed] k_rranges = rranges_s := rfl
theorem sp_rCheck_rzones : specC [con_rranges, con_rzones, con_rformed] k_rzones = rzones_s := rfl
theorem sp_rCheck_rformed : specC [con_rranges, con_rzones, con_rformed] k_rformed = rformed_s := rfl
def rCheck_s : Spec := fun ds Q => Sm ds ∧ ∀ n : Int, errP ds n → Q [.int .i64 n]
theorem rCheck_h : Holds E0 k_rCheck sg_rCheck rCheck_s := con_by wf0 mix0 g0 [con_rranges, con_rzones, con_rformed] rfl wk_rCheck rfl (by
  intro ds Q hs ⟨hsm, h⟩
  have hl : ds.length = 37 := hs.length.symm
  have hn := hsm 0 (by omega)
  simp only [tr_rCheck, wp, den_int, den_bool, den_nili, den_ar, den_cmp, den_not, den_len, den_elem, den_isnil, den_errI, den_ifc, den_rep, den_push, den_app, den_emp, den_upd, row0_econs, row0_enil, den_and, den_beq, den_nil, toInt_int, toBool_bool, xs_rows, xs_list, dflt_int, dflt_bool, of_eq, of_ne, of_lt, of_le, of_gt, of_ge, of_add, of_sub, of_rem, List.map_cons, List.map_nil, Dat.bool.injEq, decide_eq_true_eq, decide_eq_false_iff_not, Bool.not_eq_true', Bool.not_eq_false', beq_iff_eq, bne_iff_ne, beq_eq_false_iff_ne, bne_eq_false_iff_eq, ne_eq, List.append_assoc, List.cons_append, List.nil_append, allS, sp_rCheck_rranges, sp_rCheck_rzones, sp_rCheck_rformed, rranges_s, rzones_s, rformed_s, iff_s, iff_o, @den_var0 E0.Δ ds, den_varA, den_varB, hl, Nat.reduceLT, Nat.reduceLeDiff, Nat.reduceSub, List.getD_cons_zero, List.getD_cons_succ, argL_fold ds, argI_fold ds, List.append_assoc, List.cons_append, List.nil_append, toInt_int, toBool_bool, xs_rows, xs_list, Int.toNat_natCast, Dat.bool.injEq, fold37 hl, formed_row]
  refine ⟨fun hf => h _ (by unfold errP; rw [if_pos (by omega)]), fun hf => ⟨hsm, fun b hb => ⟨fun e => h _ ?_, fun e => ⟨hsm, fun b' hb' => ⟨fun e' => h _ ?_, fun e' => ?_⟩⟩⟩⟩⟩
  · subst e
    unfold errP; rw [if_neg (by omega)]
    exact .inl ⟨fun hP => Bool.noConfusion (hb.2 hP), rfl⟩
  · subst e e'
    unfold errP; rw [if_neg (by omega)]
    exact .inr (.inl ⟨hb.1 rfl, fun hP => Bool.noConfusion (hb'.2 hP), rfl⟩)
  · subst e e'
    have hR := hb.1 rfl
    have hZ := hb'.1 rfl
    clear hb hb'
    refine ⟨fun xs m => ∃ (n : Int) (i : Nat), xs = [.int .i64 n, .int .i64 i] ∧ i ≤ (argL ds 0).length ∧ (∀ o ∈ (argL ds 0).take i, formedP o) ∧ m = (argL ds 0).length - i, ⟨_, 0, 0, rfl, by omega, by simp, rfl⟩, ?_⟩
    intro n i' m ⟨_, i, e, hi, hall, hm⟩
    cases e
    refine ⟨fun hlt => ⟨by omega, ?_⟩, fun hge => ?_⟩
    · have hi2 : i < (argL ds 0).length := by omega
      simp only [Int.toNat_natCast, getD_lt hi2]
      intro b hb
      refine ⟨fun e => h _ ?_, fun e => ?_⟩
      · subst e
        unfold errP; rw [if_neg (by omega)]
        exact .inr (.inr (.inl ⟨hR, hZ, fun hP => Bool.noConfusion (hb.2 (hP _ (List.getElem_mem hi2))), rfl⟩))
      · subst e
        refine ⟨(argL ds 0).length - (i + 1), by omega, n, i + 1, ?_, by omega, all_take hall hi2 (hb.1 rfl), rfl⟩
        rw [wrap64 (by omega) (by omega)]; rfl
    · refine h _ ?_
      unfold errP; rw [if_neg (by omega)]
      refine .inr (.inr (.inr ⟨hR, hZ, ?_, rfl⟩))
      rw [List.take_of_length_le (by omega)] at hall; exact hall)
noncomputable def con_rCheck : Con E0 := ⟨k_rCheck, sg_rCheck, rCheck_s, rfl, bo_rCheck, rCheck_h⟩
end Go.Proofs.YtonjilfbcofoaaaDoor
