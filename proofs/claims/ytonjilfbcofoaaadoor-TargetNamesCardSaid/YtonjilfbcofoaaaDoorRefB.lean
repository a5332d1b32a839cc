/-
  The document's answer for states: which numbers are within their bounds.
-/
import Derived.Test.YtonjilfbcofoaaaDoorRefA
namespace Go.Proofs.YtonjilfbcofoaaaDoor
open Go.RowKit
set_option linter.unusedVariables false
set_option linter.unusedSimpArgs false

/-- no list of a state is long -/
def Sm (ds : List Dat) : Prop := ∀ i, i < 12 → (argL ds i).length ≤ 1000000
def pl (ds : List Dat) (i : Nat) : Int := argI ds (12 + i)
def gm (ds : List Dat) (i : Nat) : Int := argI ds (30 + i)
def plP (ds : List Dat) : Prop := ∀ i, i < 2 → inB (pl ds (9 * i)) (-1073741824) 1073741824 = true ∧ inB (pl ds (9 * i + 7)) 0 1 = true ∧ inB (pl ds (9 * i + 8)) 0 1 = true ∧ ∀ k, 1 ≤ k → k < 7 → inB (pl ds (9 * i + k)) 0 1000 = true
def gmP (ds : List Dat) : Prop := inB (gm ds 0) 0 1073741824 = true ∧ inB (gm ds 1) 0 1 = true ∧ inB (gm ds 2) 0 7 = true ∧ inB (gm ds 3) 0 1 = true ∧ inB (gm ds 4) 0 1 = true ∧ inB (gm ds 5) 0 4096 = true ∧ inB (gm ds 6) 0 3 = true
def rangesP (ds : List Dat) : Prop := (∀ o ∈ argL ds 0, objB o (argL ds 0).length = true) ∧ plP ds ∧ gmP ds
def iff_s (P : List Dat → Prop) : Spec := fun ds Q => Sm ds ∧ ∀ b : Bool, (b = true ↔ P ds) → Q [.bool b]
def k_rranges : Nat := 20
def sg_rranges : Sig := ⟨[(true, [.list 50] ++ List.replicate 11 (.list 3) ++ List.replicate 25 (.int .i64))], [(false, [.bool])], false, false, false⟩
def tr_rranges : Tree := (.loop [(.bool false), (.int .i64 0)] [.bool, (.int .i64)]
 (.ite (.cmp .lt (.var 38) (.len (.var 0)))
  (.ob (.cmp .ge (.var 38) (.int .i64 0))
  (.call k_robj [(.elem (.var 0) (.var 38) 0 (.int .i64)), (.elem (.var 0) (.var 38) 1 (.int .i64)), (.elem (.var 0) (.var 38) 2 (.int .i64)), (.elem (.var 0) (.var 38) 3 (.int .i64)), (.elem (.var 0) (.var 38) 4 (.int .i64)), (.elem (.var 0) (.var 38) 5 (.int .i64)), (.elem (.var 0) (.var 38) 6 (.int .i64)), (.elem (.var 0) (.var 38) 7 (.int .i64)), (.elem (.var 0) (.var 38) 8 (.int .i64)), (.elem (.var 0) (.var 38) 9 (.int .i64)), (.elem (.var 0) (.var 38) 10 (.int .i64)), (.elem (.var 0) (.var 38) 11 (.int .i64)), (.elem (.var 0) (.var 38) 12 (.int .i64)), (.elem (.var 0) (.var 38) 13 (.int .i64)), (.elem (.var 0) (.var 38) 14 (.int .i64)), (.elem (.var 0) (.var 38) 15 (.int .i64)), (.elem (.var 0) (.var 38) 16 (.int .i64)), (.elem (.var 0) (.var 38) 17 (.int .i64)), (.len (.var 0))] [.bool]
  (.ite (.not (.var 39))
   (.ret [(.bool false)])
   (.again 0 [(.var 37), (.ar .add .i64 (.var 38) (.int .i64 1))]))))
  (.loop [(.var 37), (.int .i64 0)] [.bool, (.int .i64)]
   (.ite (.cmp .lt (.var 40) (.int .i64 2))
    (.ob (.cmp .ge (.var 40) (.int .i64 0))
    (.call k_rin [(.sel (.econs (.var 12) (.econs (.var 21) .enil)) (.var 40) (.int .i64)), (.int .i64 (-1073741824)), (.int .i64 1073741824)] [.bool]
    (.ite (.not (.var 41))
     (.ret [(.bool false)])
     (.call k_rin [(.sel (.econs (.var 19) (.econs (.var 28) .enil)) (.var 40) (.int .i64)), (.int .i64 0), (.int .i64 1)] [.bool]
     (.ite (.not (.var 42))
      (.ret [(.bool false)])
      (.call k_rin [(.sel (.econs (.var 20) (.econs (.var 29) .enil)) (.var 40) (.int .i64)), (.int .i64 0), (.int .i64 1)] [.bool]
      (.ite (.not (.var 43))
       (.ret [(.bool false)])
       (.loop [(.var 39), (.int .i64 1)] [.bool, (.int .i64)]
        (.ite (.cmp .le (.var 45) (.int .i64 6))
         (.ob (.cmp .ge (.var 45) (.int .i64 0))
         (.call k_rin [(.sel (.econs (.sel (.econs (.var 12) (.econs (.var 21) .enil)) (.var 40) (.int .i64)) (.econs (.sel (.econs (.var 13) (.econs (.var 22) .enil)) (.var 40) (.int .i64)) (.econs (.sel (.econs (.var 14) (.econs (.var 23) .enil)) (.var 40) (.int .i64)) (.econs (.sel (.econs (.var 15) (.econs (.var 24) .enil)) (.var 40) (.int .i64)) (.econs (.sel (.econs (.var 16) (.econs (.var 25) .enil)) (.var 40) (.int .i64)) (.econs (.sel (.econs (.var 17) (.econs (.var 26) .enil)) (.var 40) (.int .i64)) (.econs (.sel (.econs (.var 18) (.econs (.var 27) .enil)) (.var 40) (.int .i64)) (.econs (.sel (.econs (.var 19) (.econs (.var 28) .enil)) (.var 40) (.int .i64)) (.econs (.sel (.econs (.var 20) (.econs (.var 29) .enil)) (.var 40) (.int .i64)) .enil))))))))) (.var 45) (.int .i64)), (.int .i64 0), (.int .i64 1000)] [.bool]
         (.ite (.not (.var 46))
          (.ret [(.bool false)])
          (.again 2 [(.var 44), (.ar .add .i64 (.var 45) (.int .i64 1))]))))
         (.again 1 [(.var 44), (.ar .add .i64 (.var 40) (.int .i64 1))]))))))))))
    (.call k_rin [(.var 30), (.int .i64 0), (.int .i64 1073741824)] [.bool]
    (.ite (.var 41)
     (.call k_rin [(.var 31), (.int .i64 0), (.int .i64 1)] [.bool]
     (.ite (.var 42)
      (.call k_rin [(.var 32), (.int .i64 0), (.int .i64 7)] [.bool]
      (.ite (.var 43)
       (.call k_rin [(.var 33), (.int .i64 0), (.int .i64 1)] [.bool]
       (.ite (.var 44)
        (.call k_rin [(.var 34), (.int .i64 0), (.int .i64 1)] [.bool]
        (.ite (.var 45)
         (.call k_rin [(.var 35), (.int .i64 0), (.int .i64 4096)] [.bool]
         (.ite (.var 46)
          (.call k_rin [(.var 36), (.int .i64 0), (.int .i64 3)] [.bool]
          (.ret [(.var 47)]))
          (.ret [(.bool false)])))
         (.ret [(.bool false)])))
        (.ret [(.bool false)])))
       (.ret [(.bool false)])))
      (.ret [(.bool false)])))
     (.ret [(.bool false)])))))))
theorem wk_rranges : walk E0.cx (sgsN [(26, sg_robj), (27, sg_rin)]) 0 20 sg_rranges = tr_rranges := by kernel_rfl
theorem bo_rranges : ∃ x, bodyOf E0.P 20 = some x := bo_of (by kernel_rfl)
theorem sp_rranges_robj : specC [con_robj, con_rin] k_robj = robj_s := rfl
theorem sp_rranges_rin : specC [con_robj, con_rin] k_rin = rin_s := rfl
theorem obj_row (o : List Dat) (m : Int) : objB [o.getD 0 (.int .i64 0), o.getD 1 (.int .i64 0), o.getD 2 (.int .i64 0), o.getD 3 (.int .i64 0), o.getD 4 (.int .i64 0), o.getD 5 (.int .i64 0), o.getD 6 (.int .i64 0), o.getD 7 (.int .i64 0), o.getD 8 (.int .i64 0), o.getD 9 (.int .i64 0), o.getD 10 (.int .i64 0), o.getD 11 (.int .i64 0), o.getD 12 (.int .i64 0), o.getD 13 (.int .i64 0), o.getD 14 (.int .i64 0), o.getD 15 (.int .i64 0), o.getD 16 (.int .i64 0), o.getD 17 (.int .i64 0)] m = objB o m := rfl
theorem all_take {α : Type} {l : List α} {p : α → Prop} {i : Nat} (h : ∀ x ∈ l.take i, p x) (hi : i < l.length) (hp : p l[i]) : ∀ x ∈ l.take (i + 1), p x := fun x hx => by
  rw [List.take_succ_eq_append_getElem hi] at hx
  rcases List.mem_append.1 hx with hx | hx
  · exact h x hx
  · rw [List.mem_singleton.1 hx]; exact hp
theorem getD_lt {α : Type} {l : List α} {i : Nat} (h : i < l.length) (d : α) : l.getD i d = l[i] := by simp [List.getD_eq_getElem?_getD, h]
theorem sel2 {ds : List Dat} {a b c i : Nat} {e e' : Dat} (h : i < 2) (hc : b = a + c) : [ds.getD a e, ds.getD b e].getD i e' = ds.getD (a + c * i) e := by
  subst hc
  match i, h with
  | 0, _ => simp
  | 1, _ => simp
theorem sel9 {ds : List Dat} {a k : Nat} {e e' : Dat} (h : k < 9) : [ds.getD a e, ds.getD (a + 1) e, ds.getD (a + 2) e, ds.getD (a + 3) e, ds.getD (a + 4) e, ds.getD (a + 5) e, ds.getD (a + 6) e, ds.getD (a + 7) e, ds.getD (a + 8) e].getD k e' = ds.getD (a + k) e := by
  match k, h with
  | 0, _ | 1, _ | 2, _ | 3, _ | 4, _ | 5, _ | 6, _ | 7, _ | 8, _ => rfl
def rranges_s : Spec := iff_s rangesP
theorem rranges_h : Holds E0 k_rranges sg_rranges rranges_s := con_by wf0 mix0 g0 [con_robj, con_rin] rfl wk_rranges rfl (by
  intro ds Q hs ⟨hsm, h⟩
  have hl : ds.length = 37 := hs.length.symm
  have hn := hsm 0 (by omega)
  simp only [tr_rranges, wp, den_int, den_bool, den_nili, den_ar, den_cmp, den_not, den_len, den_elem, den_isnil, den_errI, den_ifc, den_rep, den_push, den_app, den_emp, den_upd, row0_econs, row0_enil, den_and, den_beq, den_nil, toInt_int, toBool_bool, xs_rows, xs_list, dflt_int, dflt_bool, of_eq, of_ne, of_lt, of_le, of_gt, of_ge, of_add, of_sub, of_rem, List.map_cons, List.map_nil, Dat.bool.injEq, decide_eq_true_eq, decide_eq_false_iff_not, Bool.not_eq_true', Bool.not_eq_false', beq_iff_eq, bne_iff_ne, beq_eq_false_iff_ne, bne_eq_false_iff_eq, ne_eq, List.append_assoc, List.cons_append, List.nil_append]
  refine ⟨fun xs m => ∃ (b : Bool) (i : Nat), xs = [.bool b, .int .i64 i] ∧ i ≤ (argL ds 0).length ∧ (∀ o ∈ (argL ds 0).take i, objB o (argL ds 0).length = true) ∧ m = (argL ds 0).length - i, ⟨_, false, 0, rfl, by omega, by simp, rfl⟩, ?_⟩
  simp only [allS]
  intro b i' m ⟨_, i, e, hi, hall, hm⟩
  cases e
  simp only [@den_var0 E0.Δ ds, den_varA, den_varB, hl, Nat.reduceLT, Nat.reduceLeDiff, Nat.reduceSub, List.getD_cons_zero, List.getD_cons_succ, argL_fold ds, argI_fold ds, List.append_assoc, List.cons_append, List.nil_append, toInt_int, toBool_bool, xs_rows, xs_list, Int.toNat_natCast, Dat.bool.injEq]
  refine ⟨fun hlt => ⟨by omega, ?_⟩, fun hge => ?_⟩
  · have hi2 : i < (argL ds 0).length := by omega
    simp only [sp_rranges_robj, robj_s, List.take_succ_cons, List.take_zero, argI, List.getD_cons_zero, List.getD_cons_succ, toInt_int, obj_row, getD_lt hi2, @den_var0 E0.Δ ds, den_varA, den_varB, hl, Nat.reduceLT, Nat.reduceLeDiff, Nat.reduceSub, List.getD_cons_zero, List.getD_cons_succ, argL_fold ds, argI_fold ds, List.append_assoc, List.cons_append, List.nil_append, toInt_int, toBool_bool, xs_rows, xs_list, Int.toNat_natCast, Dat.bool.injEq, List.append_assoc, List.cons_append, List.nil_append]
    refine ⟨fun hb => h _ ?_, fun hb => ?_⟩
    · simp only [Bool.false_eq_true, false_iff]
      intro hP
      have := hP.1 _ (List.getElem_mem hi2)
      rw [this] at hb; cases hb
    · refine ⟨(argL ds 0).length - (i + 1), by omega, b, i + 1, ?_, by omega, all_take hall hi2 hb, rfl⟩
      rw [wrap64 (by omega) (by omega)]; rfl
  · have hobj : ∀ o ∈ argL ds 0, objB o (argL ds 0).length = true := by rw [List.take_of_length_le (by omega)] at hall; exact hall
    clear hall hm hge hi
    refine ⟨fun xs m => ∃ (b : Bool) (i : Nat), xs = [.bool b, .int .i64 i] ∧ i ≤ 2 ∧ (∀ j, j < i → inB (pl ds (9 * j)) (-1073741824) 1073741824 = true ∧ inB (pl ds (9 * j + 7)) 0 1 = true ∧ inB (pl ds (9 * j + 8)) 0 1 = true ∧ ∀ k, 1 ≤ k → k < 7 → inB (pl ds (9 * j + k)) 0 1000 = true) ∧ m = 2 - i, ⟨_, b, 0, rfl, by omega, by intro j hj; omega, rfl⟩, ?_⟩
    intro b1 i1' m1 ⟨_, i1, e, hi1, hall, hm⟩
    cases e
    refine ⟨fun hlt => ⟨by omega, ?_⟩, fun hge => ?_⟩
    · have hi2 : i1 < 2 := by omega
      simp only [sp_rranges_rin, rin_s, argI, List.getD_cons_zero, List.getD_cons_succ, den_sel, row0_econs, row0_enil, sel2 hi2 (c := 9) rfl, @den_var0 E0.Δ ds, den_varA, den_varB, hl, Nat.reduceLT, Nat.reduceLeDiff, Nat.reduceSub, List.getD_cons_zero, List.getD_cons_succ, argL_fold ds, argI_fold ds, List.append_assoc, List.cons_append, List.nil_append, toInt_int, toBool_bool, xs_rows, xs_list, Int.toNat_natCast, Dat.bool.injEq]
      have pf : ∀ a c, a = 12 + c → (ds.getD (a + 9 * i1) (.int .i64 0)).toInt = pl ds (9 * i1 + c) := fun a c e => by
        subst e
        show _ = (ds.getD (12 + (9 * i1 + c)) (.int .i64 0)).toInt
        rw [show 12 + c + 9 * i1 = 12 + (9 * i1 + c) by omega]
      rw [pf 12 0 rfl, pf 19 7 rfl, pf 20 8 rfl, Nat.add_zero]
      have no : ∀ {k : Nat} {l u : Int}, inB (pl ds (9 * i1 + k)) l u = false → (plP ds → inB (pl ds (9 * i1 + k)) l u = true) → Q [.bool false] := fun h1 h2 => h _ (by
        simp only [Bool.false_eq_true, false_iff]
        intro hP
        have := h2 hP.2.1
        rw [h1] at this; cases this)
      refine ⟨fun h1 => no (k := 0) h1 fun hP => (hP i1 hi2).1, fun h1 => ⟨fun h2 => no h2 fun hP => (hP i1 hi2).2.1, fun h2 => ⟨fun h3 => no h3 fun hP => (hP i1 hi2).2.2.1, fun h3 => ?_⟩⟩⟩
      refine ⟨fun xs m => ∃ (b : Bool) (k : Nat), xs = [.bool b, .int .i64 k] ∧ 1 ≤ k ∧ k ≤ 7 ∧ (∀ j, 1 ≤ j → j < k → inB (pl ds (9 * i1 + j)) 0 1000 = true) ∧ m = 7 - k, ⟨_, b1, 1, rfl, by omega, by omega, by intro j hj; omega, rfl⟩, ?_⟩
      intro b2 k' m2 ⟨_, k, e, hk1, hk7, hall2, hm2⟩
      cases e
      refine ⟨fun hlt => ⟨by omega, ?_⟩, fun hge => ?_⟩
      · have hk9 : k < 9 := by omega
        have e9 : ∀ x, ([ds.getD (12 + 9 * i1) (.bool false), ds.getD (13 + 9 * i1) (.bool false), ds.getD (14 + 9 * i1) (.bool false), ds.getD (15 + 9 * i1) (.bool false), ds.getD (16 + 9 * i1) (.bool false), ds.getD (17 + 9 * i1) (.bool false), ds.getD (18 + 9 * i1) (.bool false), ds.getD (19 + 9 * i1) (.bool false), ds.getD (20 + 9 * i1) (.bool false)].getD k x).toInt = pl ds (9 * i1 + k) := fun x => by
          match k, hk9 with
          | 0, _ | 1, _ | 2, _ | 3, _ | 4, _ | 5, _ | 6, _ | 7, _ | 8, _ =>
            simp only [List.getD_cons_zero, List.getD_cons_succ, argI_fold, pl]
            first | rfl | (congr 1; omega)
        rw [Int.toNat_natCast, e9]
        refine ⟨fun h4 => no h4 fun hP => (hP i1 hi2).2.2.2 k hk1 (by omega), fun h4 => ⟨7 - (k + 1), by omega, b2, k + 1, ?_, by omega, by omega, fun j hj1 hj2 => ?_, rfl⟩⟩
        · rw [wrap64 (by omega) (by omega)]; rfl
        · by_cases hjk : j = k
          · subst hjk; exact h4
          · exact hall2 j hj1 (by omega)
      · refine ⟨2 - (i1 + 1), by omega, b2, i1 + 1, ?_, by omega, fun j hj => ?_, rfl⟩
        · rw [wrap64 (by omega) (by omega)]; rfl
        · by_cases hji : j = i1
          · subst hji; exact ⟨h1, h2, h3, fun q hq1 hq2 => hall2 q hq1 (by omega)⟩
          · exact hall j (by omega)
    · have hpl : plP ds := fun i hi => hall i (by omega)
      simp only [sp_rranges_rin, rin_s, argI, List.getD_cons_zero, List.getD_cons_succ, @den_var0 E0.Δ ds, den_varA, den_varB, hl, Nat.reduceLT, Nat.reduceLeDiff, Nat.reduceSub, List.getD_cons_zero, List.getD_cons_succ, argL_fold ds, argI_fold ds, List.append_assoc, List.cons_append, List.nil_append, toInt_int, toBool_bool, xs_rows, xs_list, Int.toNat_natCast, Dat.bool.injEq]
      have no : ∀ {k : Nat} {l u : Int}, inB (ds.getD (30 + k) (.int .i64 0)).toInt l u = false → (gmP ds → inB (gm ds k) l u = true) → Q [.bool false] := fun {k l u} h1 h2 => h _ (by
        simp only [Bool.false_eq_true, false_iff]
        intro hP
        have := h2 hP.2.2
        rw [show gm ds k = (ds.getD (30 + k) (.int .i64 0)).toInt from rfl, h1] at this; cases this)
      refine ⟨fun h0 => ⟨fun h1 => ⟨fun h2 => ⟨fun h3 => ⟨fun h4 => ⟨fun h5 => h _ ⟨fun h6 => ⟨hobj, hpl, h0, h1, h2, h3, h4, h5, h6⟩, fun hP => hP.2.2.2.2.2.2.2.2⟩, fun h5 => no (k := 5) h5 fun g => g.2.2.2.2.2.1⟩, fun h4 => no (k := 4) h4 fun g => g.2.2.2.2.1⟩, fun h3 => no (k := 3) h3 fun g => g.2.2.2.1⟩, fun h2 => no (k := 2) h2 fun g => g.2.2.1⟩, fun h1 => no (k := 1) h1 fun g => g.2.1⟩, fun h0 => no (k := 0) h0 fun g => g.1⟩)
noncomputable def con_rranges : Con E0 := ⟨k_rranges, sg_rranges, rranges_s, rfl, bo_rranges, rranges_h⟩
end Go.Proofs.YtonjilfbcofoaaaDoor
