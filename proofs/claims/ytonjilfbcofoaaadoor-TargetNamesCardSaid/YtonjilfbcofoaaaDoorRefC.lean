/-
  The document's answer for states: how objects are formed, where they stand, and which states are right.
-/
import Derived.Test.YtonjilfbcofoaaaDoorRefB
import Derived.Test.YtonjilfbcofoaaaDoorMathZ
namespace Go.Proofs.YtonjilfbcofoaaaDoor
open Go.RowKit
set_option linter.unusedVariables false
set_option linter.unusedSimpArgs false

def formedP (o : List Dat) : Prop :=
  (rowI o 3 ≠ 8 → rowI o 4 = 0 ∧ rowI o 5 = 0 ∧ rowI o 6 = 0 ∧ rowI o 7 = 0 ∧ rowI o 8 = 0 ∧ rowI o 9 = 0 ∧ rowI o 10 = 0 ∧ rowI o 11 = 0 ∧ rowI o 12 = 0) ∧ (rowI o 3 < 8 → rowI o 2 = rowI o 1) ∧ (rowI o 3 = 9 ∨ rowI o 16 = 0)
def iff_o (P : List Dat → Prop) : Spec := fun ds Q => ∀ b : Bool, (b = true ↔ P ds) → Q [.bool b]
def k_rformed : Nat := 22
def sg_rformed : Sig := ⟨[(true, List.replicate 18 (.int .i64))], [(false, [.bool])], false, false, false⟩
def tr_rformed : Tree := (.ite (.cmp .ne (.var 3) (.int .i64 8))
 (.ite (.cmp .ne (.var 4) (.int .i64 0))
  (.ret [(.bool false)])
  (.ite (.cmp .ne (.var 5) (.int .i64 0))
   (.ret [(.bool false)])
   (.ite (.cmp .ne (.var 6) (.int .i64 0))
    (.ret [(.bool false)])
    (.ite (.cmp .ne (.var 7) (.int .i64 0))
     (.ret [(.bool false)])
     (.ite (.cmp .ne (.var 8) (.int .i64 0))
      (.ret [(.bool false)])
      (.ite (.cmp .ne (.var 9) (.int .i64 0))
       (.ret [(.bool false)])
       (.ite (.cmp .ne (.var 10) (.int .i64 0))
        (.ret [(.bool false)])
        (.ite (.cmp .ne (.var 11) (.int .i64 0))
         (.ret [(.bool false)])
         (.ite (.cmp .ne (.var 12) (.int .i64 0))
          (.ret [(.bool false)])
          (.ite (.cmp .lt (.var 3) (.int .i64 8))
           (.ite (.cmp .ne (.var 2) (.var 1))
            (.ret [(.bool false)])
            (.ret [(.cmp .eq (.var 16) (.int .i64 0))]))
           (.ite (.cmp .eq (.var 3) (.int .i64 9))
            (.ret [(.bool true)])
            (.ret [(.cmp .eq (.var 16) (.int .i64 0))]))))))))))))
 (.ret [(.cmp .eq (.var 16) (.int .i64 0))]))
theorem wk_rformed : walk E0.cx (sgsN []) 0 22 sg_rformed = tr_rformed := by kernel_rfl
theorem bo_rformed : ∃ x, bodyOf E0.P 22 = some x := bo_of (by kernel_rfl)
def rformed_s : Spec := iff_o formedP
theorem argI_rowI (ds : List Dat) (i : Nat) : argI ds i = rowI ds i := rfl
theorem rformed_h : Holds E0 k_rformed sg_rformed rformed_s := con_by wf0 mix0 g0 [] rfl wk_rformed rfl (by
  intro ds Q hs h
  have hl : ds.length = 18 := hs.length.symm
  simp only [tr_rformed, wp, den_int, den_bool, den_nili, den_ar, den_cmp, den_not, den_len, den_elem, den_isnil, den_errI, den_ifc, den_rep, den_push, den_app, den_emp, den_upd, row0_econs, row0_enil, den_and, den_beq, den_nil, toInt_int, toBool_bool, xs_rows, xs_list, dflt_int, dflt_bool, of_eq, of_ne, of_lt, of_le, of_gt, of_ge, of_add, of_sub, of_rem, List.map_cons, List.map_nil, Dat.bool.injEq, decide_eq_true_eq, decide_eq_false_iff_not, Bool.not_eq_true', Bool.not_eq_false', beq_iff_eq, bne_iff_ne, beq_eq_false_iff_ne, bne_eq_false_iff_eq, ne_eq, List.append_assoc, List.cons_append, List.nil_append, @den_var0 E0.Δ ds, den_varA, den_varB, hl, Nat.reduceLT, Nat.reduceLeDiff, Nat.reduceSub, List.getD_cons_zero, List.getD_cons_succ, argL_fold ds, argI_fold ds, List.append_assoc, List.cons_append, List.nil_append, toInt_int, toBool_bool, xs_rows, xs_list, Int.toNat_natCast, Dat.bool.injEq, argI_rowI]
  clear hs hl
  repeat' (refine And.intro (fun _ => ?_) (fun _ => ?_))
  all_goals (apply h; simp only [formedP, decide_eq_true_eq, beq_iff_eq]; simp [*] <;> omega))
noncomputable def con_rformed : Con E0 := ⟨k_rformed, sg_rformed, rformed_s, rfl, bo_rformed, rformed_h⟩

/-- which ids stand where: the lists, one behind the other -/
def lst (ds : List Dat) (z : Nat) : List Int := (argL ds (z + 1)).map fun r => rowI r 0
def idz (ds : List Dat) (z : Nat) : List (Int × Int) := (lst ds z).map fun x => ((z : Int), x)
def ids (ds : List Dat) : Nat → List (Int × Int)
  | 0 => []
  | z + 1 => ids ds z ++ idz ds z
def obj (ds : List Dat) (k : Int) : List Dat := (argL ds 0).getD k.toNat []
def standsP (o : List Dat) (z : Int) : Prop := (z < 8 → rowI o 1 = z.tmod 2 ∧ rowI o 13 = 0) ∧ (z = 8 → rowI o 13 ≠ 2)
def placed (ds : List Dat) (p : Int × Int) : Prop := 0 ≤ p.2 ∧ p.2 < (argL ds 0).length ∧ rowI (obj ds p.2) 3 = p.1 ∧ standsP (obj ds p.2) p.1
def zonesP (ds : List Dat) : Prop := (∀ p ∈ ids ds 11, placed ds p) ∧ ((ids ds 11).map (·.2)).Nodup ∧ (ids ds 11).length = (argL ds 0).length
def k_rzones : Nat := 21
def sg_rzones : Sig := ⟨[(true, [.list 50] ++ List.replicate 11 (.list 3) ++ List.replicate 25 (.int .i64))], [(false, [.bool])], false, false, false⟩
def tr_rzones : Tree := (.loop [(.bool false), (.int .i64 0)] [.bool, (.int .i64)]
 (.ite (.cmp .lt (.var 38) (.int .i64 11))
  (.ob (.cmp .ge (.var 38) (.int .i64 0))
  (.loop [(.var 37), (.int .i64 0)] [.bool, (.int .i64)]
   (.ite (.cmp .lt (.var 40) (.len (.sel (.econs (.var 1) (.econs (.var 2) (.econs (.var 3) (.econs (.var 4) (.econs (.var 5) (.econs (.var 6) (.econs (.var 7) (.econs (.var 8) (.econs (.var 9) (.econs (.var 10) (.econs (.var 11) .enil))))))))))) (.var 38) (.list 3))))
    (.ob (.cmp .ge (.var 40) (.int .i64 0))
    (.ite (.cmp .lt (.elem (.sel (.econs (.var 1) (.econs (.var 2) (.econs (.var 3) (.econs (.var 4) (.econs (.var 5) (.econs (.var 6) (.econs (.var 7) (.econs (.var 8) (.econs (.var 9) (.econs (.var 10) (.econs (.var 11) .enil))))))))))) (.var 38) (.list 3)) (.var 40) 0 (.int .i64)) (.int .i64 0))
     (.ret [(.bool false)])
     (.ite (.cmp .ge (.elem (.sel (.econs (.var 1) (.econs (.var 2) (.econs (.var 3) (.econs (.var 4) (.econs (.var 5) (.econs (.var 6) (.econs (.var 7) (.econs (.var 8) (.econs (.var 9) (.econs (.var 10) (.econs (.var 11) .enil))))))))))) (.var 38) (.list 3)) (.var 40) 0 (.int .i64)) (.len (.var 0)))
      (.ret [(.bool false)])
      (.again 1 [(.var 39), (.ar .add .i64 (.var 40) (.int .i64 1))]))))
    (.again 0 [(.var 39), (.ar .add .i64 (.var 38) (.int .i64 1))]))))
  (.loop [(.var 37), (.int .i64 0)] [.bool, (.int .i64)]
   (.ite (.cmp .lt (.var 40) (.len (.var 0)))
    (.ob (.cmp .ge (.var 40) (.int .i64 0))
    (.loop [(.var 39), (.int .i64 0), (.int .i64 0)] [.bool, (.int .i64), (.int .i64)]
     (.ite (.cmp .lt (.var 43) (.int .i64 11))
      (.ob (.cmp .ge (.var 43) (.int .i64 0))
      (.loop [(.var 41), (.var 42), (.int .i64 0)] [.bool, (.int .i64), (.int .i64)]
       (.ite (.cmp .lt (.var 46) (.len (.sel (.econs (.var 1) (.econs (.var 2) (.econs (.var 3) (.econs (.var 4) (.econs (.var 5) (.econs (.var 6) (.econs (.var 7) (.econs (.var 8) (.econs (.var 9) (.econs (.var 10) (.econs (.var 11) .enil))))))))))) (.var 43) (.list 3))))
        (.ob (.cmp .ge (.var 46) (.int .i64 0))
        (.ite (.cmp .eq (.elem (.sel (.econs (.var 1) (.econs (.var 2) (.econs (.var 3) (.econs (.var 4) (.econs (.var 5) (.econs (.var 6) (.econs (.var 7) (.econs (.var 8) (.econs (.var 9) (.econs (.var 10) (.econs (.var 11) .enil))))))))))) (.var 43) (.list 3)) (.var 46) 0 (.int .i64)) (.var 40))
         (.ite (.cmp .ne (.var 43) (.elem (.var 0) (.var 40) 3 (.int .i64)))
          (.ret [(.bool false)])
          (.again 3 [(.var 44), (.ar .add .i64 (.var 45) (.int .i64 1)), (.ar .add .i64 (.var 46) (.int .i64 1))]))
         (.again 3 [(.var 44), (.var 45), (.ar .add .i64 (.var 46) (.int .i64 1))])))
        (.again 2 [(.var 44), (.var 45), (.ar .add .i64 (.var 43) (.int .i64 1))]))))
      (.ite (.cmp .ne (.var 42) (.int .i64 1))
       (.ret [(.bool false)])
       (.ite (.cmp .lt (.elem (.var 0) (.var 40) 3 (.int .i64)) (.int .i64 8))
        (.ite (.cmp .ne (.elem (.var 0) (.var 40) 1 (.int .i64)) (.ar .rem .i64 (.elem (.var 0) (.var 40) 3 (.int .i64)) (.int .i64 2)))
         (.ret [(.bool false)])
         (.ite (.cmp .ne (.elem (.var 0) (.var 40) 13 (.int .i64)) (.int .i64 0))
          (.ret [(.bool false)])
          (.again 1 [(.var 41), (.ar .add .i64 (.var 40) (.int .i64 1))])))
        (.ite (.cmp .eq (.elem (.var 0) (.var 40) 3 (.int .i64)) (.int .i64 8))
         (.ite (.cmp .eq (.elem (.var 0) (.var 40) 13 (.int .i64)) (.int .i64 2))
          (.ret [(.bool false)])
          (.again 1 [(.var 41), (.ar .add .i64 (.var 40) (.int .i64 1))]))
         (.again 1 [(.var 41), (.ar .add .i64 (.var 40) (.int .i64 1))])))))))
    (.ret [(.bool true)])))))
theorem wk_rzones : walk E0.cx (sgsN []) 0 21 sg_rzones = tr_rzones := by kernel_rfl
theorem bo_rzones : ∃ x, bodyOf E0.P 21 = some x := bo_of (by kernel_rfl)
def rzones_s : Spec := iff_s zonesP
theorem den_lists {Δ : Tab} {ds e : List Dat} (hl : ds.length = 37) {i : Tm} {z : Nat} (hi : (den Δ (ds ++ e) i).toInt = z) (hz : z < 11) {s : Srt} :
    den Δ (ds ++ e) (.sel (.econs (.var 1) (.econs (.var 2) (.econs (.var 3) (.econs (.var 4) (.econs (.var 5) (.econs (.var 6) (.econs (.var 7) (.econs (.var 8) (.econs (.var 9) (.econs (.var 10) (.econs (.var 11) .enil))))))))))) i s) = ds.getD (z + 1) (.bool false) := by
  simp only [den_sel, row0_econs, row0_enil, hi, Int.toNat_natCast, den_varA, hl, Nat.reduceLT]
  match z, hz with
  | 0, _ | 1, _ | 2, _ | 3, _ | 4, _ | 5, _ | 6, _ | 7, _ | 8, _ | 9, _ | 10, _ => rfl
def alls (ds : List Dat) (z : Nat) : List Int := (ids ds z).map (·.2)
theorem alls_succ (ds : List Dat) (z : Nat) : alls ds (z + 1) = alls ds z ++ lst ds z := by
  simp only [alls, ids, List.map_append, idz, List.map_map]
  congr 1
  exact List.map_id _
theorem mem_ids {ds : List Dat} {p : Int × Int} : ∀ {n : Nat}, p ∈ ids ds n ↔ ∃ z, z < n ∧ p.1 = (z : Int) ∧ p.2 ∈ lst ds z
  | 0 => by simp [ids]
  | n + 1 => by
    simp only [ids, List.mem_append, mem_ids (n := n), idz, List.mem_map]
    constructor
    · rintro (⟨z, h1, h2, h3⟩ | ⟨x, hx, rfl⟩)
      · exact ⟨z, by omega, h2, h3⟩
      · exact ⟨n, by omega, rfl, hx⟩
    · rintro ⟨z, h1, h2, h3⟩
      by_cases hz : z = n
      · subst hz
        exact .inr ⟨p.2, h3, Prod.ext h2.symm rfl⟩
      · exact .inl ⟨z, by omega, h2, h3⟩
theorem lst_len (ds : List Dat) (z : Nat) : (lst ds z).length = (argL ds (z + 1)).length := by simp [lst]
theorem alls_len {ds : List Dat} (hsm : Sm ds) : ∀ z, z ≤ 11 → (alls ds z).length ≤ z * 1000000
  | 0, _ => by simp [alls, ids]
  | z + 1, h => by
    rw [alls_succ, List.length_append, lst_len]
    have := alls_len hsm z (by omega)
    have := hsm (z + 1) (by omega)
    omega
theorem lst_el {ds : List Dat} {z i : Nat} (h : i < (argL ds (z + 1)).length) : (((argL ds (z + 1)).getD i []).getD 0 (.int .i64 0)).toInt = (lst ds z)[i]'(by rw [lst_len]; exact h) := by
  simp only [lst, List.getElem_map, rowI, getD_lt h]
theorem take_el {l : List Int} {i : Nat} (h : i < l.length) : l.take (i + 1) = l.take i ++ [l[i]] := List.take_succ_eq_append_getElem h
/-- what is asked of each object -/
def onceP (ds : List Dat) (k : Nat) : Prop := (alls ds 11).count (k : Int) = 1 ∧ (∀ z, z < 11 → (k : Int) ∈ lst ds z → (z : Int) = rowI (obj ds k) 3) ∧ standsP (obj ds k) (rowI (obj ds k) 3)
theorem zones_iff (ds : List Dat) : zonesP ds ↔ (∀ z, z < 11 → ∀ x ∈ lst ds z, 0 ≤ x ∧ x < ((argL ds 0).length : Int)) ∧ ∀ k, k < (argL ds 0).length → onceP ds k := by
  have hrange : (∀ z, z < 11 → ∀ x ∈ lst ds z, 0 ≤ x ∧ x < ((argL ds 0).length : Int)) → ∀ x ∈ alls ds 11, 0 ≤ x ∧ x < ((argL ds 0).length : Int) := fun h x hx => by
    obtain ⟨p, hp, rfl⟩ := List.mem_map.1 hx
    obtain ⟨z, hz, _, hm⟩ := mem_ids.1 hp
    exact h z hz p.2 hm
  constructor
  · rintro ⟨h1, h2, h3⟩
    have hr : ∀ z, z < 11 → ∀ x ∈ lst ds z, 0 ≤ x ∧ x < ((argL ds 0).length : Int) := fun z hz x hx => by
      have := h1 (z, x) (mem_ids.2 ⟨z, hz, rfl, hx⟩)
      exact ⟨this.1, this.2.1⟩
    have hc := (once_iff (hrange hr)).1 ⟨h2, by rw [alls, List.length_map]; exact h3⟩
    refine ⟨hr, fun k hk => ⟨hc k hk, fun z hz hm => (h1 (z, k) (mem_ids.2 ⟨z, hz, rfl, hm⟩)).2.2.1.symm, ?_⟩⟩
    have hm : (k : Int) ∈ alls ds 11 := List.count_pos_iff.1 (by rw [hc k hk]; omega)
    obtain ⟨p, hp, hpk⟩ := List.mem_map.1 hm
    obtain ⟨_, _, q3, q4⟩ := h1 p hp
    rw [hpk] at q3 q4
    rw [q3]; exact q4
  · rintro ⟨hr, ho⟩
    obtain ⟨h2, h3⟩ := (once_iff (hrange hr)).2 fun k hk => (ho k hk).1
    refine ⟨fun p hp => ?_, h2, by rw [alls, List.length_map] at h3; exact h3⟩
    obtain ⟨z, hz, e1, hm⟩ := mem_ids.1 hp
    obtain ⟨q1, q2⟩ := hr z hz p.2 hm
    obtain ⟨k, hk⟩ := Int.eq_ofNat_of_zero_le q1
    have hkn : k < (argL ds 0).length := by omega
    have h5 := ho k hkn
    rw [hk] at hm
    have h6 := h5.2.1 z hz hm
    refine ⟨q1, q2, ?_, ?_⟩
    · rw [hk, e1, h6]
    · rw [hk, e1, h6]; exact h5.2.2
theorem rzones_h : Holds E0 k_rzones sg_rzones rzones_s := con_by wf0 mix0 g0 [] rfl wk_rzones rfl (by
  intro ds Q hs ⟨hsm, h⟩
  have hl : ds.length = 37 := hs.length.symm
  have hn := hsm 0 (by omega)
  have fail : ¬ zonesP ds → Q [.bool false] := fun hn => h _ (by simp only [Bool.false_eq_true, false_iff]; exact hn)
  simp only [tr_rzones, wp, den_int, den_bool, den_nili, den_ar, den_cmp, den_not, den_len, den_elem, den_isnil, den_errI, den_ifc, den_rep, den_push, den_app, den_emp, den_upd, row0_econs, row0_enil, den_and, den_beq, den_nil, toInt_int, toBool_bool, xs_rows, xs_list, dflt_int, dflt_bool, of_eq, of_ne, of_lt, of_le, of_gt, of_ge, of_add, of_sub, of_rem, List.map_cons, List.map_nil, Dat.bool.injEq, decide_eq_true_eq, decide_eq_false_iff_not, Bool.not_eq_true', Bool.not_eq_false', beq_iff_eq, bne_iff_ne, beq_eq_false_iff_ne, bne_eq_false_iff_eq, ne_eq, List.append_assoc, List.cons_append, List.nil_append, allS, @den_var0 E0.Δ ds, den_varA, den_varB, hl, Nat.reduceLT, Nat.reduceLeDiff, Nat.reduceSub, List.getD_cons_zero, List.getD_cons_succ, argL_fold ds, argI_fold ds, List.append_assoc, List.cons_append, List.nil_append, toInt_int, toBool_bool, xs_rows, xs_list, Int.toNat_natCast, Dat.bool.injEq]
  refine ⟨fun xs m => ∃ (b : Bool) (z : Nat), xs = [.bool b, .int .i64 z] ∧ z ≤ 11 ∧ (∀ y, y < z → ∀ x ∈ lst ds y, 0 ≤ x ∧ x < ((argL ds 0).length : Int)) ∧ m = 11 - z, ⟨_, false, 0, rfl, by omega, by intro y hy; omega, rfl⟩, ?_⟩
  intro b z' m ⟨_, z, e, hz, hall, hm⟩
  cases e
  refine ⟨fun hlt => ⟨by omega, ?_⟩, fun hge => ?_⟩
  · have hz11 : z < 11 := by omega
    refine ⟨fun xs m => ∃ (b : Bool) (i : Nat), xs = [.bool b, .int .i64 i] ∧ i ≤ (argL ds (z + 1)).length ∧ (∀ x ∈ (lst ds z).take i, 0 ≤ x ∧ x < ((argL ds 0).length : Int)) ∧ m = (argL ds (z + 1)).length - i, ⟨_, b, 0, rfl, by omega, by simp, rfl⟩, ?_⟩
    intro b1 i' m1 ⟨_, i, e, hi, hall1, hm1⟩
    cases e
    have hb := hsm (z + 1) (by omega)
    have hd : ∀ s, den E0.Δ (ds ++ [.bool b, .int .i64 z, .bool b1, .int .i64 i]) (.sel (.econs (.var 1) (.econs (.var 2) (.econs (.var 3) (.econs (.var 4) (.econs (.var 5) (.econs (.var 6) (.econs (.var 7) (.econs (.var 8) (.econs (.var 9) (.econs (.var 10) (.econs (.var 11) .enil))))))))))) (.var 38) s) = ds.getD (z + 1) (.bool false) := fun s => den_lists hl (by simp only [@den_var0 E0.Δ ds, den_varA, den_varB, hl, Nat.reduceLT, Nat.reduceLeDiff, Nat.reduceSub, List.getD_cons_zero, List.getD_cons_succ, argL_fold ds, argI_fold ds, List.append_assoc, List.cons_append, List.nil_append, toInt_int, toBool_bool, xs_rows, xs_list, Int.toNat_natCast, Dat.bool.injEq]) hz11
    simp only [hd, @den_var0 E0.Δ ds, den_varA, den_varB, hl, Nat.reduceLT, Nat.reduceLeDiff, Nat.reduceSub, List.getD_cons_zero, List.getD_cons_succ, argL_fold ds, argI_fold ds, List.append_assoc, List.cons_append, List.nil_append, toInt_int, toBool_bool, xs_rows, xs_list, Int.toNat_natCast, Dat.bool.injEq]
    refine ⟨fun hlt1 => ⟨by omega, ?_⟩, fun hge1 => ?_⟩
    · have hi1 : i < (argL ds (z + 1)).length := by omega
      rw [lst_el hi1]
      have hmem : (lst ds z)[i]'(by rw [lst_len]; exact hi1) ∈ lst ds z := List.getElem_mem _
      refine ⟨fun h0 => fail fun hP => ?_, fun h0 => ⟨fun h1 => fail fun hP => ?_, fun h1 => ⟨(argL ds (z + 1)).length - (i + 1), by omega, b1, i + 1, ?_, by omega, ?_, rfl⟩⟩⟩
      · have := ((zones_iff ds).1 hP).1 z hz11 _ hmem; omega
      · have := ((zones_iff ds).1 hP).1 z hz11 _ hmem; omega
      · rw [wrap64 (by omega) (by omega)]; rfl
      · intro x hx
        rw [take_el (by rw [lst_len]; exact hi1)] at hx
        rcases List.mem_append.1 hx with hx | hx
        · exact hall1 x hx
        · rw [List.mem_singleton.1 hx]; omega
    · refine ⟨11 - (z + 1), by omega, b1, z + 1, ?_, by omega, fun y hy x hx => ?_, rfl⟩
      · rw [wrap64 (by omega) (by omega)]; rfl
      · by_cases hyz : y = z
        · subst hyz
          refine hall1 x ?_
          rw [List.take_of_length_le (by rw [lst_len]; omega)]; exact hx
        · exact hall y (by omega) x hx
  · have hr : ∀ y, y < 11 → ∀ x ∈ lst ds y, 0 ≤ x ∧ x < ((argL ds 0).length : Int) := fun y hy => hall y (by omega)
    clear hall hm hge hz
    refine ⟨fun xs m => ∃ (b : Bool) (k : Nat), xs = [.bool b, .int .i64 k] ∧ k ≤ (argL ds 0).length ∧ (∀ j, j < k → onceP ds j) ∧ m = (argL ds 0).length - k, ⟨_, b, 0, rfl, by omega, by intro y hy; omega, rfl⟩, ?_⟩
    intro b1 k' m1 ⟨_, k, e, hk, honce, hm1⟩
    cases e
    refine ⟨fun hlt => ⟨by omega, ?_⟩, fun hge => h _ ?_⟩
    · have hk1 : k < (argL ds 0).length := by omega
      have hob : (argL ds 0).getD k [] = obj ds k := rfl
      have ho3 : ∀ c, (((argL ds 0).getD k []).getD c (.int .i64 0)).toInt = rowI (obj ds k) c := fun c => rfl
      refine ⟨fun xs m => ∃ (b : Bool) (t z : Nat), xs = [.bool b, .int .i64 t, .int .i64 z] ∧ z ≤ 11 ∧ t = (alls ds z).count (k : Int) ∧ (∀ y, y < z → (k : Int) ∈ lst ds y → (y : Int) = rowI (obj ds k) 3) ∧ m = 11 - z, ⟨_, b1, 0, 0, rfl, by omega, by simp [alls, ids], by intro y hy; omega, rfl⟩, ?_⟩
      intro b2 t' z' m2 ⟨_, t, z2, e, hz, ht, hplace, hm2⟩
      cases e
      refine ⟨fun hlt => ⟨by omega, ?_⟩, fun hge => ?_⟩
      · have hz11 : z2 < 11 := by omega
        have hb := hsm (z2 + 1) (by omega)
        have hal := alls_len hsm z2 (by omega)
        refine ⟨fun xs m => ∃ (b : Bool) (t i : Nat), xs = [.bool b, .int .i64 t, .int .i64 i] ∧ i ≤ (argL ds (z2 + 1)).length ∧ t = (alls ds z2 ++ (lst ds z2).take i).count (k : Int) ∧ ((k : Int) ∈ (lst ds z2).take i → (z2 : Int) = rowI (obj ds k) 3) ∧ m = (argL ds (z2 + 1)).length - i, ⟨_, b2, t, 0, rfl, by omega, by simp [ht], by simp, rfl⟩, ?_⟩
        intro b3 t3' i' m3 ⟨_, t3, i, e, hi, ht3, hpl3, hm3⟩
        cases e
        have hd : ∀ s, den E0.Δ (ds ++ [.bool b, .int .i64 z, .bool b1, .int .i64 k, .bool b2, .int .i64 t, .int .i64 z2, .bool b3, .int .i64 t3, .int .i64 i]) (.sel (.econs (.var 1) (.econs (.var 2) (.econs (.var 3) (.econs (.var 4) (.econs (.var 5) (.econs (.var 6) (.econs (.var 7) (.econs (.var 8) (.econs (.var 9) (.econs (.var 10) (.econs (.var 11) .enil))))))))))) (.var 43) s) = ds.getD (z2 + 1) (.bool false) := fun s => den_lists hl (by simp only [@den_var0 E0.Δ ds, den_varA, den_varB, hl, Nat.reduceLT, Nat.reduceLeDiff, Nat.reduceSub, List.getD_cons_zero, List.getD_cons_succ, argL_fold ds, argI_fold ds, List.append_assoc, List.cons_append, List.nil_append, toInt_int, toBool_bool, xs_rows, xs_list, Int.toNat_natCast, Dat.bool.injEq]) hz11
        simp only [hd, @den_var0 E0.Δ ds, den_varA, den_varB, hl, Nat.reduceLT, Nat.reduceLeDiff, Nat.reduceSub, List.getD_cons_zero, List.getD_cons_succ, argL_fold ds, argI_fold ds, List.append_assoc, List.cons_append, List.nil_append, toInt_int, toBool_bool, xs_rows, xs_list, Int.toNat_natCast, Dat.bool.injEq]
        have htl : t3 ≤ z2 * 1000000 + i := by
          rw [ht3]
          refine Nat.le_trans List.count_le_length ?_
          rw [List.length_append, List.length_take]; omega
        refine ⟨fun hlt1 => ⟨by omega, ?_⟩, fun hge1 => ?_⟩
        · have hi1 : i < (argL ds (z2 + 1)).length := by omega
          have hi2 : i < (lst ds z2).length := by rw [lst_len]; exact hi1
          rw [lst_el hi1]
          have hmem : (lst ds z2)[i] ∈ lst ds z2 := List.getElem_mem _
          refine ⟨fun h0 => ⟨fun h1 => fail fun hP => ?_, fun h1 => ⟨(argL ds (z2 + 1)).length - (i + 1), by omega, b3, t3 + 1, i + 1, ?_, by omega, ?_, fun _ => by rw [ho3] at h1; exact h1, rfl⟩⟩, fun h0 => ⟨(argL ds (z2 + 1)).length - (i + 1), by omega, b3, t3, i + 1, ?_, by omega, ?_, fun hx => ?_, rfl⟩⟩
          · rw [ho3] at h1
            have := (((zones_iff ds).1 hP).2 k hk1).2.1 z2 hz11 (by rw [← h0]; exact hmem)
            exact h1 this
          · rw [wrap64 (by omega) (by omega), wrap64 (by omega) (by omega)]; rfl
          · rw [take_el hi2, h0, ← List.append_assoc, List.count_append, ← ht3]; simp
          · rw [wrap64 (by omega) (by omega)]; rfl
          · rw [take_el hi2, ← List.append_assoc, List.count_append, ← ht3, List.count_singleton]
            simp [h0]
          · rw [take_el hi2] at hx
            rcases List.mem_append.1 hx with hx | hx
            · exact hpl3 hx
            · exact (h0 (List.mem_singleton.1 hx).symm).elim
        · have hfull : (lst ds z2).take i = lst ds z2 := List.take_of_length_le (by rw [lst_len]; omega)
          rw [hfull] at ht3 hpl3
          refine ⟨11 - (z2 + 1), by omega, b3, t3, z2 + 1, ?_, by omega, by rw [alls_succ]; exact ht3, fun y hy hx => ?_, rfl⟩
          · rw [wrap64 (by omega) (by omega)]; rfl
          · by_cases hyz : y = z2
            · subst hyz; exact hpl3 hx
            · exact hplace y (by omega) hx
      · have hz11 : z2 = 11 := by omega
        subst hz11
        simp only [Int.toNat_natCast, ho3]
        have bad : ¬ onceP ds k → Q [.bool false] := fun hn => fail fun hP => hn (((zones_iff ds).1 hP).2 k hk1)
        have next : standsP (obj ds k) (rowI (obj ds k) 3) → t = 1 → ∃ m', m' < m1 ∧ ∃ (b : Bool) (k_1 : Nat), [Dat.bool b2, Dat.int .i64 (IntKind.i64.wrap (k + 1))] = [.bool b, .int .i64 k_1] ∧ k_1 ≤ (argL ds 0).length ∧ (∀ j, j < k_1 → onceP ds j) ∧ m' = (argL ds 0).length - k_1 := fun hst h1 => by
          refine ⟨(argL ds 0).length - (k + 1), by omega, b2, k + 1, ?_, by omega, fun j hj => ?_, rfl⟩
          · rw [wrap64 (by omega) (by omega)]; rfl
          · by_cases hjk : j = k
            · subst hjk; exact ⟨by rw [← ht]; exact h1, fun y hy => hplace y hy, hst⟩
            · exact honce j (by omega)
        refine ⟨fun h1 => bad fun ho => h1 (by rw [ht, ho.1]; rfl), fun h1 => ?_⟩
        have h1 : t = 1 := by omega
        refine ⟨fun h8 => ⟨fun hc => bad fun ho => hc (ho.2.2.1 h8).1, fun hc => ⟨fun hd => bad fun ho => hd (ho.2.2.1 h8).2, fun hd => next ⟨fun _ => ⟨hc, hd⟩, fun hx => absurd hx (by omega)⟩ h1⟩⟩, fun h8 => ⟨fun he => ⟨fun hd => bad fun ho => (ho.2.2.2 he) hd, fun hd => next ⟨fun hx => absurd hx h8, fun _ => hd⟩ h1⟩, fun he => next ⟨fun hx => absurd hx h8, fun hx => absurd hx he⟩ h1⟩⟩
    · simp only [true_iff]
      have hkk : k = (argL ds 0).length := by omega
      subst hkk
      exact (zones_iff ds).2 ⟨hr, honce⟩)
noncomputable def con_rzones : Con E0 := ⟨k_rzones, sg_rzones, rzones_s, rfl, bo_rzones, rzones_h⟩
end Go.Proofs.YtonjilfbcofoaaaDoor
