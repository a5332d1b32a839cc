import Derived.Test.YtnhahmgbgocdgaaDoorM10

set_option linter.unusedVariables false
set_option linter.unusedSimpArgs false

section
namespace Go.Proofs.YtnhahmgbgocdgaaDoor
open Go.RowKit
set_option linter.unusedVariables false
set_option linter.unusedSimpArgs false

theorem alls_sub (ds : List Dat) {a : Nat} : ∀ {b : Nat}, a ≤ b → (alls ds a).Sublist (alls ds b)
  | 0, h => by obtain rfl : a = 0 := by omega
               exact List.Sublist.refl _
  | b + 1, h => by
    by_cases hb : a = b + 1
    · subst hb; exact List.Sublist.refl _
    · rw [alls_succ]
      exact (alls_sub ds (b := b) (by omega)).trans (List.sublist_append_left _ _)
/-- what has been seen -/
def Marks (n : Nat) (seen : List (List Dat)) (al : List Int) : Prop := seen.length = n ∧ ∀ k, k < n → seen.getD k [] = [.bool (decide ((k : Int) ∈ al))]
theorem Marks.start (n : Nat) : Marks n (List.replicate n [.bool false]) [] := ⟨by simp, fun k hk => by simp [List.getD_eq_getElem?_getD, hk]⟩
theorem Marks.set {n : Nat} {seen : List (List Dat)} {al : List Int} (h : Marks n seen al) {x : Nat} (hx : x < n) : Marks n (seen.set x ((seen.getD x []).set 0 (.bool true))) (al ++ [(x : Int)]) := by
  refine ⟨by simp [h.1], fun k hk => ?_⟩
  have h1 := h.1
  by_cases hkx : k = x
  · subst hkx
    rw [h.2 k hk]
    simp [List.getD_eq_getElem?_getD, List.getElem?_set, h1, hk]
  · have h2 := h.2 k hk
    have e : decide ((k : Int) ∈ al ++ [(x : Int)]) = decide ((k : Int) ∈ al) := by
      have : (k : Int) ≠ (x : Int) := by omega
      simp [this]
    rw [e, ← h2]
    simp [List.getD_eq_getElem?_getD, List.getElem?_set, Ne.symm hkx]
def k_zones : Nat := 33
def sg_zones : Sig := ⟨[(true, [.list 50] ++ List.replicate 11 (.list 3) ++ List.replicate 25 (.int .i64))], [(false, [.bool])], false, false, false, false, false⟩
def tr_zones : Tree := (.ob (.cmp .ge (.len (.var 0)) (.int .i64 0))
(.ob (.cmp .le (.len (.var 0)) (.int .i64 140737488355328))
(.loop [(.bool false), (.int .i64 0), (.int .i64 0), (.rep (.len (.var 0)) (.econs (.bool false) .enil))] [.bool, (.int .i64), (.int .i64), (.rows 4)]
 (.ite (.cmp .lt (.var 39) (.int .i64 11))
  (.ob (.cmp .ge (.var 39) (.int .i64 0))
  (.loop [(.var 37), (.var 38), (.int .i64 0), (.var 40)] [.bool, (.int .i64), (.int .i64), (.rows 4)]
   (.ite (.cmp .lt (.var 43) (.len (.sel (.econs (.var 1) (.econs (.var 2) (.econs (.var 3) (.econs (.var 4) (.econs (.var 5) (.econs (.var 6) (.econs (.var 7) (.econs (.var 8) (.econs (.var 9) (.econs (.var 10) (.econs (.var 11) .enil))))))))))) (.var 39) (.list 3))))
    (.ob (.cmp .ge (.var 43) (.int .i64 0))
    (.ite (.cmp .lt (.elem (.sel (.econs (.var 1) (.econs (.var 2) (.econs (.var 3) (.econs (.var 4) (.econs (.var 5) (.econs (.var 6) (.econs (.var 7) (.econs (.var 8) (.econs (.var 9) (.econs (.var 10) (.econs (.var 11) .enil))))))))))) (.var 39) (.list 3)) (.var 43) 0 (.int .i64)) (.int .i64 0))
     (.ret [(.bool false)])
     (.ite (.cmp .ge (.elem (.sel (.econs (.var 1) (.econs (.var 2) (.econs (.var 3) (.econs (.var 4) (.econs (.var 5) (.econs (.var 6) (.econs (.var 7) (.econs (.var 8) (.econs (.var 9) (.econs (.var 10) (.econs (.var 11) .enil))))))))))) (.var 39) (.list 3)) (.var 43) 0 (.int .i64)) (.len (.var 44)))
      (.ret [(.bool false)])
      (.ite (.elem (.var 44) (.elem (.sel (.econs (.var 1) (.econs (.var 2) (.econs (.var 3) (.econs (.var 4) (.econs (.var 5) (.econs (.var 6) (.econs (.var 7) (.econs (.var 8) (.econs (.var 9) (.econs (.var 10) (.econs (.var 11) .enil))))))))))) (.var 39) (.list 3)) (.var 43) 0 (.int .i64)) 0 .bool)
       (.ret [(.bool false)])
       (.ob (.cmp .lt (.elem (.sel (.econs (.var 1) (.econs (.var 2) (.econs (.var 3) (.econs (.var 4) (.econs (.var 5) (.econs (.var 6) (.econs (.var 7) (.econs (.var 8) (.econs (.var 9) (.econs (.var 10) (.econs (.var 11) .enil))))))))))) (.var 39) (.list 3)) (.var 43) 0 (.int .i64)) (.len (.var 0)))
       (.ite (.cmp .ne (.elem (.var 0) (.elem (.sel (.econs (.var 1) (.econs (.var 2) (.econs (.var 3) (.econs (.var 4) (.econs (.var 5) (.econs (.var 6) (.econs (.var 7) (.econs (.var 8) (.econs (.var 9) (.econs (.var 10) (.econs (.var 11) .enil))))))))))) (.var 39) (.list 3)) (.var 43) 0 (.int .i64)) 3 (.int .i64)) (.var 39))
        (.ret [(.bool false)])
        (.call k_stands [(.elem (.var 0) (.elem (.sel (.econs (.var 1) (.econs (.var 2) (.econs (.var 3) (.econs (.var 4) (.econs (.var 5) (.econs (.var 6) (.econs (.var 7) (.econs (.var 8) (.econs (.var 9) (.econs (.var 10) (.econs (.var 11) .enil))))))))))) (.var 39) (.list 3)) (.var 43) 0 (.int .i64)) 0 (.int .i64)), (.elem (.var 0) (.elem (.sel (.econs (.var 1) (.econs (.var 2) (.econs (.var 3) (.econs (.var 4) (.econs (.var 5) (.econs (.var 6) (.econs (.var 7) (.econs (.var 8) (.econs (.var 9) (.econs (.var 10) (.econs (.var 11) .enil))))))))))) (.var 39) (.list 3)) (.var 43) 0 (.int .i64)) 1 (.int .i64)), (.elem (.var 0) (.elem (.sel (.econs (.var 1) (.econs (.var 2) (.econs (.var 3) (.econs (.var 4) (.econs (.var 5) (.econs (.var 6) (.econs (.var 7) (.econs (.var 8) (.econs (.var 9) (.econs (.var 10) (.econs (.var 11) .enil))))))))))) (.var 39) (.list 3)) (.var 43) 0 (.int .i64)) 2 (.int .i64)), (.elem (.var 0) (.elem (.sel (.econs (.var 1) (.econs (.var 2) (.econs (.var 3) (.econs (.var 4) (.econs (.var 5) (.econs (.var 6) (.econs (.var 7) (.econs (.var 8) (.econs (.var 9) (.econs (.var 10) (.econs (.var 11) .enil))))))))))) (.var 39) (.list 3)) (.var 43) 0 (.int .i64)) 3 (.int .i64)), (.elem (.var 0) (.elem (.sel (.econs (.var 1) (.econs (.var 2) (.econs (.var 3) (.econs (.var 4) (.econs (.var 5) (.econs (.var 6) (.econs (.var 7) (.econs (.var 8) (.econs (.var 9) (.econs (.var 10) (.econs (.var 11) .enil))))))))))) (.var 39) (.list 3)) (.var 43) 0 (.int .i64)) 4 (.int .i64)), (.elem (.var 0) (.elem (.sel (.econs (.var 1) (.econs (.var 2) (.econs (.var 3) (.econs (.var 4) (.econs (.var 5) (.econs (.var 6) (.econs (.var 7) (.econs (.var 8) (.econs (.var 9) (.econs (.var 10) (.econs (.var 11) .enil))))))))))) (.var 39) (.list 3)) (.var 43) 0 (.int .i64)) 5 (.int .i64)), (.elem (.var 0) (.elem (.sel (.econs (.var 1) (.econs (.var 2) (.econs (.var 3) (.econs (.var 4) (.econs (.var 5) (.econs (.var 6) (.econs (.var 7) (.econs (.var 8) (.econs (.var 9) (.econs (.var 10) (.econs (.var 11) .enil))))))))))) (.var 39) (.list 3)) (.var 43) 0 (.int .i64)) 6 (.int .i64)), (.elem (.var 0) (.elem (.sel (.econs (.var 1) (.econs (.var 2) (.econs (.var 3) (.econs (.var 4) (.econs (.var 5) (.econs (.var 6) (.econs (.var 7) (.econs (.var 8) (.econs (.var 9) (.econs (.var 10) (.econs (.var 11) .enil))))))))))) (.var 39) (.list 3)) (.var 43) 0 (.int .i64)) 7 (.int .i64)), (.elem (.var 0) (.elem (.sel (.econs (.var 1) (.econs (.var 2) (.econs (.var 3) (.econs (.var 4) (.econs (.var 5) (.econs (.var 6) (.econs (.var 7) (.econs (.var 8) (.econs (.var 9) (.econs (.var 10) (.econs (.var 11) .enil))))))))))) (.var 39) (.list 3)) (.var 43) 0 (.int .i64)) 8 (.int .i64)), (.elem (.var 0) (.elem (.sel (.econs (.var 1) (.econs (.var 2) (.econs (.var 3) (.econs (.var 4) (.econs (.var 5) (.econs (.var 6) (.econs (.var 7) (.econs (.var 8) (.econs (.var 9) (.econs (.var 10) (.econs (.var 11) .enil))))))))))) (.var 39) (.list 3)) (.var 43) 0 (.int .i64)) 9 (.int .i64)), (.elem (.var 0) (.elem (.sel (.econs (.var 1) (.econs (.var 2) (.econs (.var 3) (.econs (.var 4) (.econs (.var 5) (.econs (.var 6) (.econs (.var 7) (.econs (.var 8) (.econs (.var 9) (.econs (.var 10) (.econs (.var 11) .enil))))))))))) (.var 39) (.list 3)) (.var 43) 0 (.int .i64)) 10 (.int .i64)), (.elem (.var 0) (.elem (.sel (.econs (.var 1) (.econs (.var 2) (.econs (.var 3) (.econs (.var 4) (.econs (.var 5) (.econs (.var 6) (.econs (.var 7) (.econs (.var 8) (.econs (.var 9) (.econs (.var 10) (.econs (.var 11) .enil))))))))))) (.var 39) (.list 3)) (.var 43) 0 (.int .i64)) 11 (.int .i64)), (.elem (.var 0) (.elem (.sel (.econs (.var 1) (.econs (.var 2) (.econs (.var 3) (.econs (.var 4) (.econs (.var 5) (.econs (.var 6) (.econs (.var 7) (.econs (.var 8) (.econs (.var 9) (.econs (.var 10) (.econs (.var 11) .enil))))))))))) (.var 39) (.list 3)) (.var 43) 0 (.int .i64)) 12 (.int .i64)), (.elem (.var 0) (.elem (.sel (.econs (.var 1) (.econs (.var 2) (.econs (.var 3) (.econs (.var 4) (.econs (.var 5) (.econs (.var 6) (.econs (.var 7) (.econs (.var 8) (.econs (.var 9) (.econs (.var 10) (.econs (.var 11) .enil))))))))))) (.var 39) (.list 3)) (.var 43) 0 (.int .i64)) 13 (.int .i64)), (.elem (.var 0) (.elem (.sel (.econs (.var 1) (.econs (.var 2) (.econs (.var 3) (.econs (.var 4) (.econs (.var 5) (.econs (.var 6) (.econs (.var 7) (.econs (.var 8) (.econs (.var 9) (.econs (.var 10) (.econs (.var 11) .enil))))))))))) (.var 39) (.list 3)) (.var 43) 0 (.int .i64)) 14 (.int .i64)), (.elem (.var 0) (.elem (.sel (.econs (.var 1) (.econs (.var 2) (.econs (.var 3) (.econs (.var 4) (.econs (.var 5) (.econs (.var 6) (.econs (.var 7) (.econs (.var 8) (.econs (.var 9) (.econs (.var 10) (.econs (.var 11) .enil))))))))))) (.var 39) (.list 3)) (.var 43) 0 (.int .i64)) 15 (.int .i64)), (.elem (.var 0) (.elem (.sel (.econs (.var 1) (.econs (.var 2) (.econs (.var 3) (.econs (.var 4) (.econs (.var 5) (.econs (.var 6) (.econs (.var 7) (.econs (.var 8) (.econs (.var 9) (.econs (.var 10) (.econs (.var 11) .enil))))))))))) (.var 39) (.list 3)) (.var 43) 0 (.int .i64)) 16 (.int .i64)), (.elem (.var 0) (.elem (.sel (.econs (.var 1) (.econs (.var 2) (.econs (.var 3) (.econs (.var 4) (.econs (.var 5) (.econs (.var 6) (.econs (.var 7) (.econs (.var 8) (.econs (.var 9) (.econs (.var 10) (.econs (.var 11) .enil))))))))))) (.var 39) (.list 3)) (.var 43) 0 (.int .i64)) 17 (.int .i64)), (.var 39)] [.bool]
        (.ite (.not (.var 45))
         (.ret [(.bool false)])
         (.again 1 [(.var 41), (.ar .add .i64 (.var 42) (.int .i64 1)), (.ar .add .i64 (.var 43) (.int .i64 1)), (.upd (.var 44) (.elem (.sel (.econs (.var 1) (.econs (.var 2) (.econs (.var 3) (.econs (.var 4) (.econs (.var 5) (.econs (.var 6) (.econs (.var 7) (.econs (.var 8) (.econs (.var 9) (.econs (.var 10) (.econs (.var 11) .enil))))))))))) (.var 39) (.list 3)) (.var 43) 0 (.int .i64)) 0 (.bool true))])))))))))
    (.again 0 [(.var 41), (.var 42), (.ar .add .i64 (.var 39) (.int .i64 1)), (.var 44)]))))
  (.ret [(.cmp .eq (.var 38) (.len (.var 40)))])))))
theorem wk_zones : walk E0.cx (sgsN [(50, sg_stands)]) 0 33 sg_zones = tr_zones := by kernel_rfl
theorem bo_zones : ∃ x, bodyOf E0.P 33 = some x := bo_of (by kernel_rfl)
theorem sp_zones_stands : specC [con_stands] k_stands = stands_s := rfl
def zones_s : Spec := iff_s zonesP
theorem zones_h : Holds E0 k_zones sg_zones zones_s := con_by wf0 mix0 g0 [con_stands] rfl wk_zones rfl (by
  intro ds Q hs ⟨hsm, h⟩
  have hl : ds.length = 37 := hs.length.symm
  have hn := hsm 0 (by omega)
  have fail : ¬ zonesP ds → Q [.bool false] := fun hn => h _ (by simp only [Bool.false_eq_true, false_iff]; exact hn)
  simp only [tr_zones, wp, den_int, den_bool, den_nili, den_ar, den_cmp, den_not, den_len, den_elem, den_isnil, den_errI, den_ifc, den_rep, den_push, den_app, den_emp, den_upd, row0_econs, row0_enil, den_and, den_beq, den_nil, toInt_int, toBool_bool, xs_rows, xs_list, dflt_int, dflt_bool, of_eq, of_ne, of_lt, of_le, of_gt, of_ge, of_add, of_sub, of_rem, List.map_cons, List.map_nil, Dat.bool.injEq, decide_eq_true_eq, decide_eq_false_iff_not, Bool.not_eq_true', Bool.not_eq_false', beq_iff_eq, bne_iff_ne, beq_eq_false_iff_ne, bne_eq_false_iff_eq, ne_eq, List.append_assoc, List.cons_append, List.nil_append, allS, sp_zones_stands, stands_s, @den_var0 E0.Δ ds, den_varA, den_varB, hl, Nat.reduceLT, Nat.reduceLeDiff, Nat.reduceSub, List.getD_cons_zero, List.getD_cons_succ, argL_fold ds, argI_fold ds, List.append_assoc, List.cons_append, List.nil_append, toInt_int, toBool_bool, xs_rows, xs_list, Int.toNat_natCast, Dat.bool.injEq]
  refine ⟨by omega, by omega, fun xs m => ∃ (b : Bool) (z : Nat) (seen : List (List Dat)), xs = [.bool b, .int .i64 (alls ds z).length, .int .i64 z, .rows seen] ∧ z ≤ 11 ∧ (∀ p ∈ ids ds z, placed ds p) ∧ (alls ds z).Nodup ∧ Marks (argL ds 0).length seen (alls ds z) ∧ m = 11 - z, ⟨_, false, 0, _, rfl, by omega, by simp [ids], by simp [alls, ids], Marks.start _, rfl⟩, ?_⟩
  intro b n' z' d hd0 m ⟨_, z, seen, e, hz, hall, hnd, hmk, hm⟩
  cases e
  have hrange : ∀ y, y ≤ 11 → (∀ p ∈ ids ds y, placed ds p) → ∀ x ∈ alls ds y, 0 ≤ x ∧ x < ((argL ds 0).length : Int) := fun y hy h x hx => by
    obtain ⟨p, hp, rfl⟩ := List.mem_map.1 hx
    exact ⟨(h p hp).1, (h p hp).2.1⟩
  refine ⟨fun hlt => ⟨by omega, ?_⟩, fun hge => h _ ?_⟩
  · have hz11 : z < 11 := by omega
    have hb := hsm (z + 1) (by omega)
    have hal := alls_len hsm z (by omega)
    refine ⟨fun xs m => ∃ (b : Bool) (i : Nat) (seen : List (List Dat)), xs = [.bool b, .int .i64 (alls ds z ++ (lst ds z).take i).length, .int .i64 i, .rows seen] ∧ i ≤ (argL ds (z + 1)).length ∧ (∀ x ∈ (lst ds z).take i, placed ds (z, x)) ∧ (alls ds z ++ (lst ds z).take i).Nodup ∧ Marks (argL ds 0).length seen (alls ds z ++ (lst ds z).take i) ∧ m = (argL ds (z + 1)).length - i, ⟨_, b, 0, seen, by simp, by omega, by simp, by simpa using hnd, by simpa using hmk, rfl⟩, ?_⟩
    intro b1 n1' i' d1 hd1 m1 ⟨_, i, seen1, e, hi, hall1, hnd1, hmk1, hm1⟩
    cases e
    have hd : ∀ e s, den E0.Δ (ds ++ (.bool b :: .int .i64 (alls ds z).length :: .int .i64 z :: .rows seen :: .bool b1 :: .int .i64 (alls ds z ++ (lst ds z).take i).length :: .int .i64 i :: .rows seen1 :: e)) (.sel (.econs (.var 1) (.econs (.var 2) (.econs (.var 3) (.econs (.var 4) (.econs (.var 5) (.econs (.var 6) (.econs (.var 7) (.econs (.var 8) (.econs (.var 9) (.econs (.var 10) (.econs (.var 11) .enil))))))))))) (.var 39) s) = ds.getD (z + 1) (.bool false) := fun e s => den_lists hl (by simp only [@den_var0 E0.Δ ds, den_varA, den_varB, hl, Nat.reduceLT, Nat.reduceLeDiff, Nat.reduceSub, List.getD_cons_zero, List.getD_cons_succ, argL_fold ds, argI_fold ds, List.append_assoc, List.cons_append, List.nil_append, toInt_int, toBool_bool, xs_rows, xs_list, Int.toNat_natCast, Dat.bool.injEq]) hz11
    simp only [hd, @den_var0 E0.Δ ds, den_varA, den_varB, hl, Nat.reduceLT, Nat.reduceLeDiff, Nat.reduceSub, List.getD_cons_zero, List.getD_cons_succ, argL_fold ds, argI_fold ds, List.append_assoc, List.cons_append, List.nil_append, toInt_int, toBool_bool, xs_rows, xs_list, Int.toNat_natCast, Dat.bool.injEq]
    refine ⟨fun hlt1 => ⟨by omega, ?_⟩, fun hge1 => ?_⟩
    · have hi1 : i < (argL ds (z + 1)).length := by omega
      have hi2 : i < (lst ds z).length := by rw [lst_len]; exact hi1
      rw [lst_el hi1]
      have hmem : (lst ds z)[i] ∈ lst ds z := List.getElem_mem _
      have hid : ((z : Int), (lst ds z)[i]) ∈ ids ds 11 := mem_ids.2 ⟨z, hz11, rfl, hmem⟩
      have htk := take_el hi2
      generalize hx : (lst ds z)[i] = x at *
      refine ⟨fun h0 => fail fun hP => ?_, fun h0 => ⟨fun h1 => fail fun hP => ?_, fun h1 => ?_⟩⟩
      · have := (hP.1 _ hid).1; simp only at this; omega
      · have := (hP.1 _ hid).2.1; rw [hmk1.1] at h1; simp only at this; omega
      · obtain ⟨k, rfl⟩ := Int.eq_ofNat_of_zero_le (show 0 ≤ x by omega)
        have hk : k < (argL ds 0).length := by rw [hmk1.1] at h1; omega
        simp only [Int.toNat_natCast, hmk1.2 k hk, List.getD_cons_zero, Dat.bool.injEq, decide_eq_true_eq, decide_eq_false_iff_not]
        refine ⟨fun h2 => fail fun hP => ?_, fun h2 => ⟨by omega, fun h3 => fail fun hP => h3 (hP.1 _ hid).2.2.1, fun h3 => ⟨show (0 : Int) ≤ (z : Int) by omega, show (z : Int) < 11 by omega, fun c hc => ⟨fun e => fail fun hP => ?_, fun e => ⟨(argL ds (z + 1)).length - (i + 1), by omega, b1, i + 1, seen1.set k ((seen1.getD k []).set 0 (.bool true)), ?_, by omega, ?_, ?_, ?_, rfl⟩⟩⟩⟩⟩
        · have h5 := List.Nodup.sublist ((alls_succ ds z ▸ alls_sub ds (show z + 1 ≤ 11 by omega)) : (alls ds z ++ lst ds z).Sublist (alls ds 11)) hP.2.1
          have h6 : (alls ds z ++ (lst ds z).take (i + 1)).Nodup := List.Nodup.sublist ((List.take_sublist _ _).append_left _) h5
          rw [htk, ← List.append_assoc] at h6
          exact (List.nodup_append.1 h6).2.2 _ h2 _ (List.mem_singleton.2 rfl) rfl
        · subst e
          exact Bool.noConfusion (hc.2 (hP.1 _ hid).2.2.2)
        · have hl2 : (alls ds z ++ (lst ds z).take i).length ≤ z * 1000000 + i := by rw [List.length_append, List.length_take]; omega
          rw [wrap64 (by omega) (by omega), wrap64 (by omega) (by omega), htk, ← List.append_assoc]
          have e1 : ((alls ds z ++ (lst ds z).take i) ++ [(k : Int)]).length = (alls ds z ++ (lst ds z).take i).length + 1 := by rw [List.length_append (bs := [(k : Int)])]; rfl
          rw [e1]
          simp only [hmk1.2 k hk]
          rfl
        · intro x hx
          rw [htk] at hx
          rcases List.mem_append.1 hx with hx | hx
          · exact hall1 x hx
          · rw [List.mem_singleton.1 hx]
            exact ⟨by simp only; omega, by simp only; omega, h3, hc.1 e⟩
        · rw [htk, ← List.append_assoc, List.nodup_append]
          exact ⟨hnd1, by simp, fun a ha b hb e => by
            rw [List.mem_singleton.1 hb] at e
            exact h2 (e ▸ ha)⟩
        · rw [htk, ← List.append_assoc]
          exact hmk1.set hk
    · have hfull : (lst ds z).take i = lst ds z := List.take_of_length_le (by rw [lst_len]; omega)
      rw [hfull] at hall1 hnd1 hmk1
      refine ⟨11 - (z + 1), by omega, b1, z + 1, seen1, ?_, by omega, fun p hp => ?_, by rw [alls_succ]; exact hnd1, by rw [alls_succ]; exact hmk1, rfl⟩
      · rw [wrap64 (by omega) (by omega), hfull, alls_succ]; rfl
      · rw [ids] at hp
        rcases List.mem_append.1 hp with hp | hp
        · exact hall p hp
        · obtain ⟨x, hx, rfl⟩ := List.mem_map.1 hp
          exact hall1 x hx
  · have hz11 : z = 11 := by omega
    subst hz11
    rw [beq_iff_eq, xs_rows, hmk.1]
    have hlen : (ids ds 11).length = (alls ds 11).length := by rw [alls, List.length_map]
    exact ⟨fun e => ⟨hall, hnd, by rw [hlen]; omega⟩, fun hP => by rw [← hlen, hP.2.2]⟩)
noncomputable def con_zones : Con E0 := ⟨k_zones, sg_zones, zones_s, rfl, bo_zones, zones_h⟩
end Go.Proofs.YtnhahmgbgocdgaaDoor
end

section
namespace Go.Proofs.YtnhahmgbgocdgaaDoor
open Go.RowKit
set_option linter.unusedVariables false
set_option linter.unusedSimpArgs false

/-- the number of a state's error -/
def errP (ds : List Dat) (n : Int) : Prop :=
  if 400 < (argL ds 0).length then n = 5
  else (¬ rangesP ds ∧ n = 1) ∨ (rangesP ds ∧ ¬ zonesP ds ∧ n = 12) ∨ (rangesP ds ∧ zonesP ds ∧ ¬ (∀ o ∈ argL ds 0, formedP o) ∧ n = 2) ∨ (rangesP ds ∧ zonesP ds ∧ (∀ o ∈ argL ds 0, formedP o) ∧ n = 0)
theorem errP_inj {ds : List Dat} {n m : Int} (h1 : errP ds n) (h2 : errP ds m) : n = m := by
  unfold errP at h1 h2
  split at h1
  · rw [if_pos (by assumption)] at h2; omega
  · rw [if_neg (by assumption)] at h2
    rcases h1 with h | h | h | h <;> rcases h2 with h' | h' | h' | h' <;> simp_all
theorem fold_getD {α : Type} (d : α) : ∀ (ds : List α), (List.range' 0 ds.length).map (fun i => ds.getD i d) = ds := fun ds => by
  apply List.ext_getElem
  · simp
  · intro i h1 h2
    simp [List.getD_eq_getElem?_getD, h2]
theorem fold37 {α : Type} {ds : List α} {d : α} (hl : ds.length = 37) : [ds.getD 0 d, ds.getD 1 d, ds.getD 2 d, ds.getD 3 d, ds.getD 4 d, ds.getD 5 d, ds.getD 6 d, ds.getD 7 d, ds.getD 8 d, ds.getD 9 d, ds.getD 10 d, ds.getD 11 d, ds.getD 12 d, ds.getD 13 d, ds.getD 14 d, ds.getD 15 d, ds.getD 16 d, ds.getD 17 d, ds.getD 18 d, ds.getD 19 d, ds.getD 20 d, ds.getD 21 d, ds.getD 22 d, ds.getD 23 d, ds.getD 24 d, ds.getD 25 d, ds.getD 26 d, ds.getD 27 d, ds.getD 28 d, ds.getD 29 d, ds.getD 30 d, ds.getD 31 d, ds.getD 32 d, ds.getD 33 d, ds.getD 34 d, ds.getD 35 d, ds.getD 36 d] = ds := by
  have := fold_getD d ds
  rw [hl] at this
  exact this
theorem fold18 {α : Type} {ds : List α} {d : α} (hl : ds.length = 18) : [ds.getD 0 d, ds.getD 1 d, ds.getD 2 d, ds.getD 3 d, ds.getD 4 d, ds.getD 5 d, ds.getD 6 d, ds.getD 7 d, ds.getD 8 d, ds.getD 9 d, ds.getD 10 d, ds.getD 11 d, ds.getD 12 d, ds.getD 13 d, ds.getD 14 d, ds.getD 15 d, ds.getD 16 d, ds.getD 17 d] = ds := by
  have := fold_getD d ds
  rw [hl] at this
  exact this
theorem formed_row (o : List Dat) : formedP [o.getD 0 (.int .i64 0), o.getD 1 (.int .i64 0), o.getD 2 (.int .i64 0), o.getD 3 (.int .i64 0), o.getD 4 (.int .i64 0), o.getD 5 (.int .i64 0), o.getD 6 (.int .i64 0), o.getD 7 (.int .i64 0), o.getD 8 (.int .i64 0), o.getD 9 (.int .i64 0), o.getD 10 (.int .i64 0), o.getD 11 (.int .i64 0), o.getD 12 (.int .i64 0), o.getD 13 (.int .i64 0), o.getD 14 (.int .i64 0), o.getD 15 (.int .i64 0), o.getD 16 (.int .i64 0), o.getD 17 (.int .i64 0)] = formedP o := rfl
def k_rCheck : Nat := 9
def sg_rCheck : Sig := ⟨[(true, [.list 50] ++ List.replicate 11 (.list 3) ++ List.replicate 25 (.int .i64))], [(false, [.int .i64])], false, false, false, false, false⟩
def tr_rCheck : Tree := (.ite (.cmp .gt (.len (.var 0)) (.int .i64 400))
 (.ret [(.int .i64 5)])
 (.call k_rranges [(.var 0), (.var 1), (.var 2), (.var 3), (.var 4), (.var 5), (.var 6), (.var 7), (.var 8), (.var 9), (.var 10), (.var 11), (.var 12), (.var 13), (.var 14), (.var 15), (.var 16), (.var 17), (.var 18), (.var 19), (.var 20), (.var 21), (.var 22), (.var 23), (.var 24), (.var 25), (.var 26), (.var 27), (.var 28), (.var 29), (.var 30), (.var 31), (.var 32), (.var 33), (.var 34), (.var 35), (.var 36)] [.bool]
 (.ite (.not (.var 37))
  (.ret [(.int .i64 1)])
  (.call k_rzones [(.var 0), (.var 1), (.var 2), (.var 3), (.var 4), (.var 5), (.var 6), (.var 7), (.var 8), (.var 9), (.var 10), (.var 11), (.var 12), (.var 13), (.var 14), (.var 15), (.var 16), (.var 17), (.var 18), (.var 19), (.var 20), (.var 21), (.var 22), (.var 23), (.var 24), (.var 25), (.var 26), (.var 27), (.var 28), (.var 29), (.var 30), (.var 31), (.var 32), (.var 33), (.var 34), (.var 35), (.var 36)] [.bool]
  (.ite (.not (.var 38))
   (.ret [(.int .i64 12)])
   (.loop [(.int .i64 0), (.int .i64 0)] [(.int .i64), (.int .i64)]
    (.ite (.cmp .lt (.var 40) (.len (.var 0)))
     (.ob (.cmp .ge (.var 40) (.int .i64 0))
     (.call k_rformed [(.elem (.var 0) (.var 40) 0 (.int .i64)), (.elem (.var 0) (.var 40) 1 (.int .i64)), (.elem (.var 0) (.var 40) 2 (.int .i64)), (.elem (.var 0) (.var 40) 3 (.int .i64)), (.elem (.var 0) (.var 40) 4 (.int .i64)), (.elem (.var 0) (.var 40) 5 (.int .i64)), (.elem (.var 0) (.var 40) 6 (.int .i64)), (.elem (.var 0) (.var 40) 7 (.int .i64)), (.elem (.var 0) (.var 40) 8 (.int .i64)), (.elem (.var 0) (.var 40) 9 (.int .i64)), (.elem (.var 0) (.var 40) 10 (.int .i64)), (.elem (.var 0) (.var 40) 11 (.int .i64)), (.elem (.var 0) (.var 40) 12 (.int .i64)), (.elem (.var 0) (.var 40) 13 (.int .i64)), (.elem (.var 0) (.var 40) 14 (.int .i64)), (.elem (.var 0) (.var 40) 15 (.int .i64)), (.elem (.var 0) (.var 40) 16 (.int .i64)), (.elem (.var 0) (.var 40) 17 (.int .i64))] [.bool]
     (.ite (.not (.var 41))
      (.ret [(.int .i64 2)])
      (.again 0 [(.var 39), (.ar .add .i64 (.var 40) (.int .i64 1))]))))
     (.ret [(.int .i64 0)]))))))))
theorem wk_rCheck : walk E0.cx (sgsN [(20, sg_rranges), (21, sg_rzones), (22, sg_rformed)]) 0 9 sg_rCheck = tr_rCheck := by kernel_rfl
theorem bo_rCheck : ∃ x, bodyOf E0.P 9 = some x := bo_of (by kernel_rfl)
theorem sp_rCheck_rranges : specC [con_rranges, con_rzones, con_rformed] k_rranges = rranges_s := rfl
theorem sp_rCheck_rzones : specC [con_rranges, con_rzones, con_rformed] k_rzones = rzones_s := rfl
theorem sp_rCheck_rformed : specC [con_rranges, con_rzones, con_rformed] k_rformed = rformed_s := rfl
def rCheck_s : Spec := fun ds Q => Sm ds ∧ ∀ n : Int, errP ds n → Q [.int .i64 n]
theorem rCheck_h : Holds E0 k_rCheck sg_rCheck rCheck_s := con_by wf0 mix0 g0 [con_rranges, con_rzones, con_rformed] rfl wk_rCheck rfl (by
  intro ds Q hs ⟨hsm, h⟩
  have hl : ds.length = 37 := hs.length.symm
  have hn := hsm 0 (by omega)
  simp only [tr_rCheck, wp, den_int, den_bool, den_nili, den_ar, den_cmp, den_not, den_len, den_elem, den_isnil, den_errI, den_ifc, den_rep, den_push, den_app, den_emp, den_upd, row0_econs, row0_enil, den_and, den_beq, den_nil, toInt_int, toBool_bool, xs_rows, xs_list, dflt_int, dflt_bool, of_eq, of_ne, of_lt, of_le, of_gt, of_ge, of_add, of_sub, of_rem, List.map_cons, List.map_nil, Dat.bool.injEq, decide_eq_true_eq, decide_eq_false_iff_not, Bool.not_eq_true', Bool.not_eq_false', beq_iff_eq, bne_iff_ne, beq_eq_false_iff_ne, bne_eq_false_iff_eq, ne_eq, List.append_assoc, List.cons_append, List.nil_append, allS, sp_rCheck_rranges, sp_rCheck_rzones, sp_rCheck_rformed, rranges_s, rzones_s, rformed_s, iff_s, iff_o, @den_var0 E0.Δ ds, den_varA, den_varB, hl, Nat.reduceLT, Nat.reduceLeDiff, Nat.reduceSub, List.getD_cons_zero, List.getD_cons_succ, argL_fold ds, argI_fold ds, List.append_assoc, List.cons_append, List.nil_append, toInt_int, toBool_bool, xs_rows, xs_list, Int.toNat_natCast, Dat.bool.injEq, fold37 hl, formed_row]
  refine ⟨fun hf => h _ (by unfold errP; rw [if_pos (by omega)]), fun hf => ⟨hsm, fun b hb => ⟨fun e => h _ ?_, fun e => ⟨hsm, fun b' hb' => ⟨fun e' => h _ ?_, fun e' => ?_⟩⟩⟩⟩⟩
  · subst e
    unfold errP; rw [if_neg (by omega)]
    exact .inl ⟨fun hP => Bool.noConfusion (hb.2 hP), rfl⟩
  · subst e e'
    unfold errP; rw [if_neg (by omega)]
    exact .inr (.inl ⟨hb.1 rfl, fun hP => Bool.noConfusion (hb'.2 hP), rfl⟩)
  · subst e e'
    have hR := hb.1 rfl
    have hZ := hb'.1 rfl
    clear hb hb'
    refine ⟨fun xs m => ∃ (n : Int) (i : Nat), xs = [.int .i64 n, .int .i64 i] ∧ i ≤ (argL ds 0).length ∧ (∀ o ∈ (argL ds 0).take i, formedP o) ∧ m = (argL ds 0).length - i, ⟨_, 0, 0, rfl, by omega, by simp, rfl⟩, ?_⟩
    intro n i' m ⟨_, i, e, hi, hall, hm⟩
    cases e
    refine ⟨fun hlt => ⟨by omega, ?_⟩, fun hge => ?_⟩
    · have hi2 : i < (argL ds 0).length := by omega
      simp only [Int.toNat_natCast, getD_lt hi2]
      intro b hb
      refine ⟨fun e => h _ ?_, fun e => ?_⟩
      · subst e
        unfold errP; rw [if_neg (by omega)]
        exact .inr (.inr (.inl ⟨hR, hZ, fun hP => Bool.noConfusion (hb.2 (hP _ (List.getElem_mem hi2))), rfl⟩))
      · subst e
        refine ⟨(argL ds 0).length - (i + 1), by omega, n, i + 1, ?_, by omega, all_take hall hi2 (hb.1 rfl), rfl⟩
        rw [wrap64 (by omega) (by omega)]; rfl
    · refine h _ ?_
      unfold errP; rw [if_neg (by omega)]
      refine .inr (.inr (.inr ⟨hR, hZ, ?_, rfl⟩))
      rw [List.take_of_length_le (by omega)] at hall; exact hall)
noncomputable def con_rCheck : Con E0 := ⟨k_rCheck, sg_rCheck, rCheck_s, rfl, bo_rCheck, rCheck_h⟩
end Go.Proofs.YtnhahmgbgocdgaaDoor
end

section
namespace Go.Proofs.YtnhahmgbgocdgaaDoor
open Go.RowKit
set_option linter.unusedVariables false
set_option linter.unusedSimpArgs false

theorem sel9i {i : Nat} (hi : i < 9) (x : Dat) : ([Dat.int .i64 4, .int .i64 5, .int .i64 6, .int .i64 7, .int .i64 8, .int .i64 9, .int .i64 10, .int .i64 11, .int .i64 12].getD i x).toInt = ((4 + i : Nat) : Int) := by
  match i, hi with
  | 0, _ | 1, _ | 2, _ | 3, _ | 4, _ | 5, _ | 6, _ | 7, _ | 8, _ => rfl
theorem selV18 (o : List Dat) {f : Nat} (hf : f < 18) (x : Dat) : ([o.getD 0 (.bool false), o.getD 1 (.bool false), o.getD 2 (.bool false), o.getD 3 (.bool false), o.getD 4 (.bool false), o.getD 5 (.bool false), o.getD 6 (.bool false), o.getD 7 (.bool false), o.getD 8 (.bool false), o.getD 9 (.bool false), o.getD 10 (.bool false), o.getD 11 (.bool false), o.getD 12 (.bool false), o.getD 13 (.bool false), o.getD 14 (.bool false), o.getD 15 (.bool false), o.getD 16 (.bool false), o.getD 17 (.bool false)].getD f x).toInt = rowI o f := by
  match f, hf with
  | 0, _ | 1, _ | 2, _ | 3, _ | 4, _ | 5, _ | 6, _ | 7, _ | 8, _ | 9, _ | 10, _ | 11, _ | 12, _ | 13, _ | 14, _ | 15, _ | 16, _ | 17, _ => simp only [List.getD_cons_zero, List.getD_cons_succ, argI_fold]; rfl
  | n + 18, h => exact absurd h (by omega)
theorem formedP_iff (o : List Dat) : formedP o ↔ (rowI o 3 ≠ 8 → ∀ i, i < 9 → rowI o (4 + i) = 0) ∧ (rowI o 3 < 8 → rowI o 2 = rowI o 1) ∧ (rowI o 3 = 9 ∨ rowI o 16 = 0) := by
  refine and_congr (imp_congr_right fun _ => ?_) Iff.rfl
  constructor
  · rintro ⟨h4, h5, h6, h7, h8, h9, h10, h11, h12⟩ i hi
    match i, hi with
    | 0, _ => exact h4
    | 1, _ => exact h5
    | 2, _ => exact h6
    | 3, _ => exact h7
    | 4, _ => exact h8
    | 5, _ => exact h9
    | 6, _ => exact h10
    | 7, _ => exact h11
    | 8, _ => exact h12
  · intro h
    exact ⟨h 0 (by omega), h 1 (by omega), h 2 (by omega), h 3 (by omega), h 4 (by omega), h 5 (by omega), h 6 (by omega), h 7 (by omega), h 8 (by omega)⟩
def k_formed : Nat := 36
def sg_formed : Sig := ⟨[(true, List.replicate 18 (.int .i64))], [(false, [.bool])], false, false, false, false, false⟩
def tr_formed : Tree := (.ite (.cmp .ne (.var 3) (.int .i64 8))
 (.loop [(.int .i64 0), (.int .i64 0)] [(.int .i64), (.int .i64)]
  (.ite (.cmp .lt (.var 19) (.int .i64 9))
   (.ob (.cmp .ge (.var 19) (.int .i64 0))
   (.ob (.cmp .ge (.sel (.econs (.int .i64 4) (.econs (.int .i64 5) (.econs (.int .i64 6) (.econs (.int .i64 7) (.econs (.int .i64 8) (.econs (.int .i64 9) (.econs (.int .i64 10) (.econs (.int .i64 11) (.econs (.int .i64 12) .enil))))))))) (.var 19) (.int .i64)) (.int .i64 0))
   (.ob (.cmp .lt (.sel (.econs (.int .i64 4) (.econs (.int .i64 5) (.econs (.int .i64 6) (.econs (.int .i64 7) (.econs (.int .i64 8) (.econs (.int .i64 9) (.econs (.int .i64 10) (.econs (.int .i64 11) (.econs (.int .i64 12) .enil))))))))) (.var 19) (.int .i64)) (.int .i64 18))
   (.ite (.cmp .ne (.sel (.econs (.var 0) (.econs (.var 1) (.econs (.var 2) (.econs (.var 3) (.econs (.var 4) (.econs (.var 5) (.econs (.var 6) (.econs (.var 7) (.econs (.var 8) (.econs (.var 9) (.econs (.var 10) (.econs (.var 11) (.econs (.var 12) (.econs (.var 13) (.econs (.var 14) (.econs (.var 15) (.econs (.var 16) (.econs (.var 17) .enil)))))))))))))))))) (.sel (.econs (.int .i64 4) (.econs (.int .i64 5) (.econs (.int .i64 6) (.econs (.int .i64 7) (.econs (.int .i64 8) (.econs (.int .i64 9) (.econs (.int .i64 10) (.econs (.int .i64 11) (.econs (.int .i64 12) .enil))))))))) (.var 19) (.int .i64)) (.int .i64)) (.int .i64 0))
    (.ite (.cmp .ge (.var 19) (.int .i64 0))
     (.ret [(.bool false)])
     (.ite (.cmp .lt (.var 3) (.int .i64 8))
      (.ite (.cmp .ne (.var 2) (.var 1))
       (.ret [(.bool false)])
       (.ret [(.cmp .eq (.var 16) (.int .i64 0))]))
      (.ite (.cmp .eq (.var 3) (.int .i64 9))
       (.ret [(.bool true)])
       (.ret [(.cmp .eq (.var 16) (.int .i64 0))]))))
    (.again 0 [(.var 18), (.ar .add .i64 (.var 19) (.int .i64 1))])))))
   (.ite (.cmp .lt (.var 3) (.int .i64 8))
    (.ite (.cmp .ne (.var 2) (.var 1))
     (.ret [(.bool false)])
     (.ret [(.cmp .eq (.var 16) (.int .i64 0))]))
    (.ite (.cmp .eq (.var 3) (.int .i64 9))
     (.ret [(.bool true)])
     (.ret [(.cmp .eq (.var 16) (.int .i64 0))])))))
 (.ret [(.cmp .eq (.var 16) (.int .i64 0))]))
theorem wk_formed : walk E0.cx (sgsN []) 0 36 sg_formed = tr_formed := by kernel_rfl
theorem bo_formed : ∃ x, bodyOf E0.P 36 = some x := bo_of (by kernel_rfl)
def formed_s : Spec := iff_o formedP
theorem formed_h : Holds E0 k_formed sg_formed formed_s := con_by wf0 mix0 g0 [] rfl wk_formed rfl (by
  intro ds Q hs h
  have hl : ds.length = 18 := hs.length.symm
  simp only [tr_formed, wp, den_int, den_bool, den_nili, den_ar, den_cmp, den_not, den_len, den_elem, den_isnil, den_errI, den_ifc, den_rep, den_push, den_app, den_emp, den_upd, row0_econs, row0_enil, den_and, den_beq, den_nil, toInt_int, toBool_bool, xs_rows, xs_list, dflt_int, dflt_bool, of_eq, of_ne, of_lt, of_le, of_gt, of_ge, of_add, of_sub, of_rem, List.map_cons, List.map_nil, Dat.bool.injEq, decide_eq_true_eq, decide_eq_false_iff_not, Bool.not_eq_true', Bool.not_eq_false', beq_iff_eq, bne_iff_ne, beq_eq_false_iff_ne, bne_eq_false_iff_eq, ne_eq, List.append_assoc, List.cons_append, List.nil_append, allS, @den_var0 E0.Δ ds, den_varA, den_varB, hl, Nat.reduceLT, Nat.reduceLeDiff, Nat.reduceSub, List.getD_cons_zero, List.getD_cons_succ, argL_fold ds, argI_fold ds, List.append_assoc, List.cons_append, List.nil_append, toInt_int, toBool_bool, xs_rows, xs_list, Int.toNat_natCast, Dat.bool.injEq, argI_rowI]
  have rest : (rowI ds 3 ≠ 8 → ∀ i, i < 9 → rowI ds (4 + i) = 0) → (rowI ds 3 < 8 → (¬rowI ds 2 = rowI ds 1 → Q [.bool false]) ∧ (rowI ds 2 = rowI ds 1 → (rowI ds 3 = 9 → Q [.bool true]) ∧ (¬rowI ds 3 = 9 → Q [.bool (rowI ds 16 == 0)]))) ∧ (¬rowI ds 3 < 8 → (rowI ds 3 = 9 → Q [.bool true]) ∧ (¬rowI ds 3 = 9 → Q [.bool (rowI ds 16 == 0)])) := fun hr =>
    ⟨fun h1 => ⟨fun h2 => h _ (by rw [formedP_iff]; simp only [Bool.false_eq_true, false_iff]; exact fun hP => h2 (hP.2.1 h1)), fun h2 => ⟨fun h3 => h _ (by rw [formedP_iff]; simp only [true_iff]; exact ⟨hr, fun _ => h2, .inl h3⟩), fun h3 => h _ (by rw [formedP_iff, beq_iff_eq]; exact ⟨fun h4 => ⟨hr, fun _ => h2, .inr h4⟩, fun hP => hP.2.2.resolve_left h3⟩)⟩⟩,
      fun h1 => ⟨fun h3 => h _ (by rw [formedP_iff]; simp only [true_iff]; exact ⟨hr, fun h4 => absurd h4 h1, .inl h3⟩), fun h3 => h _ (by rw [formedP_iff, beq_iff_eq]; exact ⟨fun h4 => ⟨hr, fun h4 => absurd h4 h1, .inr h4⟩, fun hP => hP.2.2.resolve_left h3⟩)⟩⟩
  refine ⟨fun h8 => ?_, fun h8 => ((rest fun hx => absurd hx (by omega)).2 (by omega)).2 (by omega)⟩
  refine ⟨fun xs m => ∃ (n : Int) (i : Nat), xs = [.int .i64 n, .int .i64 i] ∧ i ≤ 9 ∧ (∀ k, k < i → rowI ds (4 + k) = 0) ∧ m = 9 - i, ⟨_, 0, 0, rfl, by omega, by intro k hk; omega, rfl⟩, ?_⟩
  intro n i' m ⟨_, i, e, hi, hall, hm⟩
  cases e
  refine ⟨fun hlt => ⟨by omega, ?_⟩, fun hge => have r := rest (fun _ k hk => hall k (by omega)); ⟨fun a => ⟨(r.1 a).1, fun b => ((r.1 a).2 b).2 (by omega)⟩, r.2⟩⟩
  have hi9 : i < 9 := by omega
  simp only [den_sel, row0_econs, row0_enil, den_elem, den_len, @den_var0 E0.Δ ds, den_varA, den_varB, hl, Nat.reduceLT, Nat.reduceLeDiff, Nat.reduceSub, List.getD_cons_zero, List.getD_cons_succ, argL_fold ds, argI_fold ds, List.append_assoc, List.cons_append, List.nil_append, toInt_int, toBool_bool, xs_rows, xs_list, Int.toNat_natCast, Dat.bool.injEq, den_int, sel9i hi9, selV18 ds (show 4 + i < 18 by omega)]
  refine ⟨by omega, by omega, fun hne => ⟨fun _ => h _ ?_, fun hx => absurd (show (0 : Int) ≤ (i : Int) by omega) hx⟩, fun he => ⟨9 - (i + 1), by omega, n, i + 1, ?_, by omega, fun k hk => ?_, rfl⟩⟩
  · rw [formedP_iff]; simp only [Bool.false_eq_true, false_iff]
    exact fun hP => hne (hP.1 h8 i hi9)
  · rw [wrap64 (by omega) (by omega)]; rfl
  · by_cases hki : k = i
    · subst hki; exact he
    · exact hall k (by omega))
noncomputable def con_formed : Con E0 := ⟨k_formed, sg_formed, formed_s, rfl, bo_formed, formed_h⟩

def k_Check : Nat := 15
def sg_Check : Sig := ⟨[(true, [.list 50] ++ List.replicate 11 (.list 3) ++ List.replicate 25 (.int .i64))], [(false, [.err])], false, false, false, false, false⟩
def tr_Check : Tree := (.ite (.cmp .gt (.len (.var 0)) (.int .i64 400))
 (.ret [(.ifc (.int .i64 5))])
 (.call k_ranges [(.var 0), (.var 1), (.var 2), (.var 3), (.var 4), (.var 5), (.var 6), (.var 7), (.var 8), (.var 9), (.var 10), (.var 11), (.var 12), (.var 13), (.var 14), (.var 15), (.var 16), (.var 17), (.var 18), (.var 19), (.var 20), (.var 21), (.var 22), (.var 23), (.var 24), (.var 25), (.var 26), (.var 27), (.var 28), (.var 29), (.var 30), (.var 31), (.var 32), (.var 33), (.var 34), (.var 35), (.var 36)] [.bool]
 (.ite (.not (.var 37))
  (.ret [(.ifc (.int .i64 1))])
  (.call k_zones [(.var 0), (.var 1), (.var 2), (.var 3), (.var 4), (.var 5), (.var 6), (.var 7), (.var 8), (.var 9), (.var 10), (.var 11), (.var 12), (.var 13), (.var 14), (.var 15), (.var 16), (.var 17), (.var 18), (.var 19), (.var 20), (.var 21), (.var 22), (.var 23), (.var 24), (.var 25), (.var 26), (.var 27), (.var 28), (.var 29), (.var 30), (.var 31), (.var 32), (.var 33), (.var 34), (.var 35), (.var 36)] [.bool]
  (.ite (.not (.var 38))
   (.ret [(.ifc (.int .i64 12))])
   (.loop [(.int .i64 0), (.int .i64 0)] [(.int .i64), (.int .i64)]
    (.ite (.cmp .lt (.var 40) (.len (.var 0)))
     (.ob (.cmp .ge (.var 40) (.int .i64 0))
     (.call k_formed [(.elem (.var 0) (.var 40) 0 (.int .i64)), (.elem (.var 0) (.var 40) 1 (.int .i64)), (.elem (.var 0) (.var 40) 2 (.int .i64)), (.elem (.var 0) (.var 40) 3 (.int .i64)), (.elem (.var 0) (.var 40) 4 (.int .i64)), (.elem (.var 0) (.var 40) 5 (.int .i64)), (.elem (.var 0) (.var 40) 6 (.int .i64)), (.elem (.var 0) (.var 40) 7 (.int .i64)), (.elem (.var 0) (.var 40) 8 (.int .i64)), (.elem (.var 0) (.var 40) 9 (.int .i64)), (.elem (.var 0) (.var 40) 10 (.int .i64)), (.elem (.var 0) (.var 40) 11 (.int .i64)), (.elem (.var 0) (.var 40) 12 (.int .i64)), (.elem (.var 0) (.var 40) 13 (.int .i64)), (.elem (.var 0) (.var 40) 14 (.int .i64)), (.elem (.var 0) (.var 40) 15 (.int .i64)), (.elem (.var 0) (.var 40) 16 (.int .i64)), (.elem (.var 0) (.var 40) 17 (.int .i64))] [.bool]
     (.ite (.not (.var 41))
      (.ite (.cmp .ge (.var 40) (.int .i64 0))
       (.ret [(.ifc (.int .i64 2))])
       (.ret [.nili]))
      (.again 0 [(.var 39), (.ar .add .i64 (.var 40) (.int .i64 1))]))))
     (.ret [.nili]))))))))
theorem wk_Check : walk E0.cx (sgsN [(32, sg_ranges), (33, sg_zones), (36, sg_formed)]) 0 15 sg_Check = tr_Check := by kernel_rfl
theorem bo_Check : ∃ x, bodyOf E0.P 15 = some x := bo_of (by kernel_rfl)
theorem sp_Check_ranges : specC [con_ranges, con_zones, con_formed] k_ranges = ranges_s := rfl
theorem sp_Check_zones : specC [con_ranges, con_zones, con_formed] k_zones = zones_s := rfl
theorem sp_Check_formed : specC [con_ranges, con_zones, con_formed] k_formed = formed_s := rfl
def Check_s : Spec := fun ds Q => Sm ds ∧ ∀ n : Int, errP ds n → Q [errV n]
theorem Check_h : Holds E0 k_Check sg_Check Check_s := con_by wf0 mix0 g0 [con_ranges, con_zones, con_formed] rfl wk_Check rfl (by
  intro ds Q hs ⟨hsm, h⟩
  have hl : ds.length = 37 := hs.length.symm
  have hn := hsm 0 (by omega)
  have h5 := h 5
  have h1 := h 1
  have h12 := h 12
  have h2 := h 2
  have h0 := h 0
  simp only [errV, if_pos, Int.reduceEq, if_false] at h5 h1 h12 h2 h0
  simp only [tr_Check, wp, den_int, den_bool, den_nili, den_ar, den_cmp, den_not, den_len, den_elem, den_isnil, den_errI, den_ifc, den_rep, den_push, den_app, den_emp, den_upd, row0_econs, row0_enil, den_and, den_beq, den_nil, toInt_int, toBool_bool, xs_rows, xs_list, dflt_int, dflt_bool, of_eq, of_ne, of_lt, of_le, of_gt, of_ge, of_add, of_sub, of_rem, List.map_cons, List.map_nil, Dat.bool.injEq, decide_eq_true_eq, decide_eq_false_iff_not, Bool.not_eq_true', Bool.not_eq_false', beq_iff_eq, bne_iff_ne, beq_eq_false_iff_ne, bne_eq_false_iff_eq, ne_eq, List.append_assoc, List.cons_append, List.nil_append, allS, sp_Check_ranges, sp_Check_zones, sp_Check_formed, ranges_s, zones_s, formed_s, iff_s, iff_o, @den_var0 E0.Δ ds, den_varA, den_varB, hl, Nat.reduceLT, Nat.reduceLeDiff, Nat.reduceSub, List.getD_cons_zero, List.getD_cons_succ, argL_fold ds, argI_fold ds, List.append_assoc, List.cons_append, List.nil_append, toInt_int, toBool_bool, xs_rows, xs_list, Int.toNat_natCast, Dat.bool.injEq, fold37 hl, formed_row]
  refine ⟨fun hf => h5 (by unfold errP; rw [if_pos (by omega)]), fun hf => ⟨hsm, fun b hb => ⟨fun e => h1 ?_, fun e => ⟨hsm, fun b' hb' => ⟨fun e' => h12 ?_, fun e' => ?_⟩⟩⟩⟩⟩
  · subst e
    unfold errP; rw [if_neg (by omega)]
    exact .inl ⟨fun hP => Bool.noConfusion (hb.2 hP), rfl⟩
  · subst e e'
    unfold errP; rw [if_neg (by omega)]
    exact .inr (.inl ⟨hb.1 rfl, fun hP => Bool.noConfusion (hb'.2 hP), rfl⟩)
  · subst e e'
    have hR := hb.1 rfl
    have hZ := hb'.1 rfl
    clear hb hb'
    refine ⟨fun xs m => ∃ (n : Int) (i : Nat), xs = [.int .i64 n, .int .i64 i] ∧ i ≤ (argL ds 0).length ∧ (∀ o ∈ (argL ds 0).take i, formedP o) ∧ m = (argL ds 0).length - i, ⟨_, 0, 0, rfl, by omega, by simp, rfl⟩, ?_⟩
    intro n i' m ⟨_, i, e, hi, hall, hm⟩
    cases e
    refine ⟨fun hlt => ⟨by omega, ?_⟩, fun hge => ?_⟩
    · have hi2 : i < (argL ds 0).length := by omega
      simp only [Int.toNat_natCast, getD_lt hi2]
      intro b hb
      refine ⟨fun e => ⟨fun _ => h2 ?_, fun hx => absurd (show (0 : Int) ≤ (i : Int) by omega) hx⟩, fun e => ?_⟩
      · subst e
        unfold errP; rw [if_neg (by omega)]
        exact .inr (.inr (.inl ⟨hR, hZ, fun hP => Bool.noConfusion (hb.2 (hP _ (List.getElem_mem hi2))), rfl⟩))
      · subst e
        refine ⟨(argL ds 0).length - (i + 1), by omega, n, i + 1, ?_, by omega, all_take hall hi2 (hb.1 rfl), rfl⟩
        rw [wrap64 (by omega) (by omega)]; rfl
    · refine h0 ?_
      unfold errP; rw [if_neg (by omega)]
      refine .inr (.inr (.inr ⟨hR, hZ, ?_, rfl⟩))
      rw [List.take_of_length_le (by omega)] at hall; exact hall)
noncomputable def con_Check : Con E0 := ⟨k_Check, sg_Check, Check_s, rfl, bo_Check, Check_h⟩

end Go.Proofs.YtnhahmgbgocdgaaDoor
end

section
namespace Go.Proofs.YtnhahmgbgocdgaaDoor
open Go.RowKit
set_option linter.unusedVariables false
set_option linter.unusedSimpArgs false

def LongP (m : Int) (ds : List Dat) : Prop := m < (argL ds 0).length ∨ ∃ z, z < 11 ∧ m + 10 < (argL ds (z + 1)).length
theorem sm_of_long {m : Int} {ds : List Dat} (h : ¬ LongP m ds) (hm : m ≤ 1000) : Sm ds := fun i hi => by
  simp only [LongP, not_or, not_exists, not_and] at h
  match i with
  | 0 => have := h.1; omega
  | i + 1 => have := h.2 i (by omega); omega
theorem den_listsG {Δ : Tab} {ds e : List Dat} (hl : 12 ≤ ds.length) {i : Tm} {z : Nat} (hi : (den Δ (ds ++ e) i).toInt = z) (hz : z < 11) {s : Srt} :
    den Δ (ds ++ e) (.sel (.econs (.var 1) (.econs (.var 2) (.econs (.var 3) (.econs (.var 4) (.econs (.var 5) (.econs (.var 6) (.econs (.var 7) (.econs (.var 8) (.econs (.var 9) (.econs (.var 10) (.econs (.var 11) .enil))))))))))) i s) = ds.getD (z + 1) (.bool false) := by
  simp only [den_sel, row0_econs, row0_enil, hi, Int.toNat_natCast]
  rw [den_varA (by omega), den_varA (by omega), den_varA (by omega), den_varA (by omega), den_varA (by omega), den_varA (by omega), den_varA (by omega), den_varA (by omega), den_varA (by omega), den_varA (by omega), den_varA (by omega)]
  match z, hz with
  | 0, _ | 1, _ | 2, _ | 3, _ | 4, _ | 5, _ | 6, _ | 7, _ | 8, _ | 9, _ | 10, _ => rfl
def k_Long : Nat := 7
def sg_Long : Sig := ⟨[(true, [.list 50] ++ List.replicate 11 (.list 3) ++ List.replicate 25 (.int .i64)), (false, [.int .i64])], [(false, [.bool])], false, false, false, false, false⟩
def tr_Long : Tree := (.ite (.cmp .gt (.len (.var 0)) (.var 37))
 (.ret [(.bool true)])
 (.loop [(.bool false), (.int .i64 0)] [.bool, (.int .i64)]
  (.ite (.cmp .lt (.var 39) (.int .i64 11))
   (.ob (.cmp .ge (.var 39) (.int .i64 0))
   (.ite (.cmp .gt (.len (.sel (.econs (.var 1) (.econs (.var 2) (.econs (.var 3) (.econs (.var 4) (.econs (.var 5) (.econs (.var 6) (.econs (.var 7) (.econs (.var 8) (.econs (.var 9) (.econs (.var 10) (.econs (.var 11) .enil))))))))))) (.var 39) (.list 3))) (.ar .add .i64 (.var 37) (.int .i64 10)))
    (.ret [(.bool true)])
    (.again 0 [(.var 38), (.ar .add .i64 (.var 39) (.int .i64 1))])))
   (.ret [(.bool false)]))))
theorem wk_Long : walk E0.cx (sgsN []) 0 7 sg_Long = tr_Long := by kernel_rfl
theorem bo_Long : ∃ x, bodyOf E0.P 7 = some x := bo_of (by kernel_rfl)
def Long_s : Spec := fun ds Q => 0 ≤ argI ds 37 ∧ argI ds 37 ≤ 1000 ∧ ∀ b : Bool, (b = true ↔ LongP (argI ds 37) ds) → Q [.bool b]
theorem Long_h : Holds E0 k_Long sg_Long Long_s := con_by wf0 mix0 g0 [] rfl wk_Long rfl (by
  intro ds Q hs ⟨h0, h1, h⟩
  have hl : ds.length = 38 := hs.length.symm
  simp only [tr_Long, wp, den_int, den_bool, den_nili, den_ar, den_cmp, den_not, den_len, den_elem, den_isnil, den_errI, den_ifc, den_rep, den_push, den_app, den_emp, den_upd, row0_econs, row0_enil, den_and, den_beq, den_nil, toInt_int, toBool_bool, xs_rows, xs_list, dflt_int, dflt_bool, of_eq, of_ne, of_lt, of_le, of_gt, of_ge, of_add, of_sub, of_rem, List.map_cons, List.map_nil, Dat.bool.injEq, decide_eq_true_eq, decide_eq_false_iff_not, Bool.not_eq_true', Bool.not_eq_false', beq_iff_eq, bne_iff_ne, beq_eq_false_iff_ne, bne_eq_false_iff_eq, ne_eq, List.append_assoc, List.cons_append, List.nil_append, allS, @den_var0 E0.Δ ds, den_varA, den_varB, hl, Nat.reduceLT, Nat.reduceLeDiff, Nat.reduceSub, List.getD_cons_zero, List.getD_cons_succ, argL_fold ds, argI_fold ds, List.append_assoc, List.cons_append, List.nil_append, toInt_int, toBool_bool, xs_rows, xs_list, Int.toNat_natCast, Dat.bool.injEq]
  rw [wrap64 (by omega) (by omega)]
  refine ⟨fun h2 => h _ (by simp only [true_iff]; exact .inl h2), fun h2 => ?_⟩
  refine ⟨fun xs m => ∃ (b : Bool) (z : Nat), xs = [.bool b, .int .i64 z] ∧ z ≤ 11 ∧ (∀ y, y < z → ¬ argI ds 37 + 10 < (argL ds (y + 1)).length) ∧ m = 11 - z, ⟨_, false, 0, rfl, by omega, by intro y hy; omega, rfl⟩, ?_⟩
  intro b z' m ⟨_, z, e, hz, hall, hm⟩
  cases e
  refine ⟨fun hlt => ⟨by omega, ?_⟩, fun hge => h _ ?_⟩
  · have hz11 : z < 11 := by omega
    have hd : ∀ s, den E0.Δ (ds ++ [.bool b, .int .i64 z]) (.sel (.econs (.var 1) (.econs (.var 2) (.econs (.var 3) (.econs (.var 4) (.econs (.var 5) (.econs (.var 6) (.econs (.var 7) (.econs (.var 8) (.econs (.var 9) (.econs (.var 10) (.econs (.var 11) .enil))))))))))) (.var 39) s) = ds.getD (z + 1) (.bool false) := fun s => den_listsG (by omega) (by simp only [@den_var0 E0.Δ ds, den_varA, den_varB, hl, Nat.reduceLT, Nat.reduceLeDiff, Nat.reduceSub, List.getD_cons_zero, List.getD_cons_succ, argL_fold ds, argI_fold ds, List.append_assoc, List.cons_append, List.nil_append, toInt_int, toBool_bool, xs_rows, xs_list, Int.toNat_natCast, Dat.bool.injEq]) hz11
    simp only [hd, @den_var0 E0.Δ ds, den_varA, den_varB, hl, Nat.reduceLT, Nat.reduceLeDiff, Nat.reduceSub, List.getD_cons_zero, List.getD_cons_succ, argL_fold ds, argI_fold ds, List.append_assoc, List.cons_append, List.nil_append, toInt_int, toBool_bool, xs_rows, xs_list, Int.toNat_natCast, Dat.bool.injEq]
    refine ⟨fun h3 => h _ ?_, fun h3 => ⟨11 - (z + 1), by omega, b, z + 1, ?_, by omega, fun y hy => ?_, rfl⟩⟩
    · simp only [true_iff]; exact .inr ⟨z, hz11, h3⟩
    · rw [wrap64 (by omega) (by omega)]; rfl
    · by_cases hyz : y = z
      · subst hyz; exact h3
      · exact hall y (by omega)
  · simp only [Bool.false_eq_true, false_iff, LongP, not_or, not_exists, not_and]
    exact ⟨h2, fun y hy => hall y (by omega)⟩)
noncomputable def con_Long : Con E0 := ⟨k_Long, sg_Long, Long_s, rfl, bo_Long, Long_h⟩

theorem All2.getS {α β : Type} {R : α → β → Prop} : ∀ {l : List α} {m : List β}, All2 R l m → ∀ {i : Nat} {s : α}, l[i]? = some s → ∃ d, m[i]? = some d ∧ R s d
  | _, _, .cons h t, 0, s, e => by cases e; exact ⟨_, rfl, h⟩
  | _, _, .cons h t, i + 1, s, e => t.getS (i := i) (by simpa using e)
theorem int_el {Δ : Tab} {ss : List Srt} {ds : List Dat} (hs : All2 (Has Δ) ss ds) {i r c j : Nat} {k : IntKind} (hi : ss[i]? = some (.list r)) (hc : (Δ.row r)[c]? = some (.int k)) (hj : j < (argL ds i).length) (d : Dat) :
    ((argL ds i).getD j []).getD c d = .int k (rowI ((argL ds i).getD j []) c) := by
  obtain ⟨x, hx, hh⟩ := hs.getS hi
  have e : argL ds i = x.xs := by rw [argL, List.getD_eq_getElem?_getD, hx]; rfl
  rw [e] at hj ⊢
  cases hh with
  | list r A n cc xs hl h =>
    rw [xs_list] at hj ⊢
    rw [getD_lt hj]
    have hm : xs[j] ∈ xs := List.getElem_mem hj
    obtain ⟨hlt, hce⟩ := List.getElem?_eq_some_iff.1 hc
    have hcl : c < xs[j].length := by rw [hl _ hm]; exact hlt
    have := h _ hm c _ xs[j][c] hc (by simp [hcl])
    have e1 : ∀ d, xs[j].getD c d = xs[j][c] := fun d => by simp [List.getD_eq_getElem?_getD, hcl]
    rw [rowI, e1, e1]
    exact has_int this
end Go.Proofs.YtnhahmgbgocdgaaDoor
end

section
namespace Go.Proofs.YtnhahmgbgocdgaaDoor
open Go.RowKit
set_option linter.unusedVariables false
set_option linter.unusedSimpArgs false

/-- the numbers of rows of one cell -/
def nums (l : List (List Dat)) : List Int := l.map fun r => rowI r 0
theorem nums_len (l : List (List Dat)) : (nums l).length = l.length := List.length_map _
theorem nums_get {l : List (List Dat)} {i : Nat} (h : i < l.length) : (nums l)[i]? = some (rowI (l.getD i []) 0) := by
  rw [nums, List.getElem?_map, List.getD_eq_getElem?_getD, List.getElem?_eq_getElem h]; rfl
/-- the same numbers -/
def Ints_s : Spec := fun ds Q => (argL ds 0).length ≤ 1000000 ∧ Q [.bool (decide (nums (argL ds 0) = nums (argL ds 1)))]
def k_Ints : Nat := 23
def sg_Ints : Sig := ⟨[(false, [.list 3]), (false, [.list 3])], [(false, [.bool])], false, false, false, false, false⟩
def tr_Ints : Tree := (.ite (.cmp .ne (.len (.var 0)) (.len (.var 1)))
 (.ret [(.bool false)])
 (.loop [(.bool false), (.int .i64 0)] [.bool, (.int .i64)]
  (.ite (.cmp .lt (.var 3) (.len (.var 0)))
   (.ob (.cmp .ge (.var 3) (.int .i64 0))
   (.ob (.cmp .ge (.var 3) (.int .i64 0))
   (.ob (.cmp .lt (.var 3) (.len (.var 1)))
   (.ite (.cmp .ne (.elem (.var 0) (.var 3) 0 (.int .i64)) (.elem (.var 1) (.var 3) 0 (.int .i64)))
    (.ret [(.bool false)])
    (.again 0 [(.var 2), (.ar .add .i64 (.var 3) (.int .i64 1))])))))
   (.ret [(.bool true)]))))
theorem wk_Ints : walk E0.cx (sgsN []) 0 23 sg_Ints = tr_Ints := by kernel_rfl
theorem bo_Ints : ∃ x, bodyOf E0.P 23 = some x := bo_of (by kernel_rfl)
theorem Ints_h : Holds E0 k_Ints sg_Ints Ints_s := con_fn wf0 mix0 g0 [] rfl wk_Ints rfl (by
  intro Φ hΦ ds Q hs ⟨hlen, h⟩
  have hl : ds.length = 2 := hs.length.symm
  clear hΦ
  simp only [tr_Ints, wp, den_int, den_bool, den_nili, den_ar, den_cmp, den_not, den_len, den_elem, den_isnil, den_errI, den_ifc, den_rep, den_push, den_app, den_emp, den_upd, row0_econs, row0_enil, den_and, den_beq, den_nil, toInt_int, toBool_bool, xs_rows, xs_list, dflt_int, dflt_bool, of_eq, of_ne, of_lt, of_le, of_gt, of_ge, of_add, of_sub, of_rem, List.map_cons, List.map_nil, Dat.bool.injEq, decide_eq_true_eq, decide_eq_false_iff_not, Bool.not_eq_true', Bool.not_eq_false', beq_iff_eq, bne_iff_ne, beq_eq_false_iff_ne, bne_eq_false_iff_eq, ne_eq, List.append_assoc, List.cons_append, List.nil_append, allS, @den_var0 E0.Δ ds, den_varA, den_varB, hl, Nat.reduceLT, Nat.reduceLeDiff, Nat.reduceSub, List.getD_cons_zero, List.getD_cons_succ, argL_fold ds, argI_fold ds, List.append_assoc, List.cons_append, List.nil_append, toInt_int, toBool_bool, xs_rows, xs_list, Int.toNat_natCast, Dat.bool.injEq]
  have fin : ∀ b : Bool, (b = true ↔ nums (argL ds 0) = nums (argL ds 1)) → Q [.bool b] := fun b hb => by
    rw [show b = decide (nums (argL ds 0) = nums (argL ds 1)) by rw [Bool.eq_iff_iff, hb, decide_eq_true_eq]]
    exact h
  refine ⟨fun hne => fin _ ⟨fun hx => Bool.noConfusion hx, fun he => ?_⟩, fun hne => ?_⟩
  · have := congrArg List.length he
    rw [nums_len, nums_len] at this
    omega
  have hll : (argL ds 0).length = (argL ds 1).length := by omega
  refine ⟨fun xs m => ∃ (i : Nat) (b : Bool), i ≤ (argL ds 0).length ∧ m = (argL ds 0).length - i ∧ xs = [.bool b, .int .i64 i] ∧ ∀ k < i, (nums (argL ds 0))[k]? = (nums (argL ds 1))[k]?, ⟨_, 0, _, by omega, rfl, rfl, by omega⟩, ?_⟩
  rintro b i' m ⟨i, _, hi, hmi, e, hall⟩
  cases e
  refine ⟨fun hlt => ⟨by omega, by omega, by omega, fun h9 => fin _ ⟨fun hx => Bool.noConfusion hx, fun he => ?_⟩, fun h9 => ?_⟩, fun hge => fin _ ⟨fun _ => ?_, fun _ => rfl⟩⟩
  · have hi2 : i < (argL ds 0).length := by omega
    have h1 := nums_get hi2
    have h2 := nums_get (l := argL ds 1) (i := i) (by omega)
    rw [he, h2] at h1
    exact absurd (Option.some.inj h1).symm h9
  · have hi2 : i < (argL ds 0).length := by omega
    refine ⟨(argL ds 0).length - (i + 1), by omega, i + 1, b, by omega, by omega, ?_, fun k hk => ?_⟩
    · rw [wrap64 (by omega) (by omega)]; rfl
    · rcases Nat.lt_succ_iff_lt_or_eq.1 hk with hk | rfl
      · exact hall k hk
      · rw [nums_get hi2, nums_get (l := argL ds 1) (by omega)]
        exact congrArg some h9
  · refine List.ext_getElem? fun k => ?_
    by_cases hk : k < i
    · exact hall k hk
    · rw [List.getElem?_eq_none (by rw [nums_len]; omega), List.getElem?_eq_none (by rw [nums_len]; omega)])
noncomputable def con_Ints : Con E0 := ⟨k_Ints, sg_Ints, Ints_s, rfl, bo_Ints, Ints_h⟩
end Go.Proofs.YtnhahmgbgocdgaaDoor
end

section
namespace Go.Proofs.YtnhahmgbgocdgaaDoor
open Go.RowKit
set_option linter.unusedVariables false
set_option linter.unusedSimpArgs false

def I1 (ds : List Dat) : Inv := fun xs m => ∃ z : Nat, z ≤ 11 ∧ m = 11 - z ∧ xs.length = 12 ∧ xs.getD 0 (.bool false) = .int .i64 z ∧ (∀ y, y < z → (xs.getD (y + 1) (.bool false)).xs = argL ds (y + 1)) ∧ ∀ y, z ≤ y → y < 11 → xs.getD (y + 1) (.bool false) = ds.getD (y + 1) (.bool false)
theorem ites11 {z : Nat} (hz : z < 11) (n d0 d1 d2 d3 d4 d5 d6 d7 d8 d9 d10 : Dat) : [if (z : Int) = 0 then n else d0, if (z : Int) = 1 then n else d1, if (z : Int) = 2 then n else d2, if (z : Int) = 3 then n else d3, if (z : Int) = 4 then n else d4, if (z : Int) = 5 then n else d5, if (z : Int) = 6 then n else d6, if (z : Int) = 7 then n else d7, if (z : Int) = 8 then n else d8, if (z : Int) = 9 then n else d9, if (z : Int) = 10 then n else d10] = [d0, d1, d2, d3, d4, d5, d6, d7, d8, d9, d10].set z n := by
  match z, hz with
  | 0, _ | 1, _ | 2, _ | 3, _ | 4, _ | 5, _ | 6, _ | 7, _ | 8, _ | 9, _ | 10, _ => rfl
theorem getD_any {α : Type} {l : List α} {i : Nat} (h : i < l.length) (a b : α) : l.getD i a = l.getD i b := by
  rw [List.getD_eq_getElem?_getD, List.getD_eq_getElem?_getD, List.getElem?_eq_getElem h]; rfl
theorem I1_step {ds l : List Dat} {z m : Nat} {n : Dat} (h : I1 ds (.int .i64 z :: l) m) (hz : z < 11) (hn : n.xs = argL ds (z + 1)) : I1 ds (.int .i64 (IntKind.i64.wrap ((z : Int) + 1)) :: l.set z n) (11 - (z + 1)) := by
  obtain ⟨z', h1, rfl, h2, h3, h4, h5⟩ := h
  have e : z' = z := by
    have h3 : Dat.int .i64 z = .int .i64 z' := h3
    cases h3; rfl
  subst e
  have hl : l.length = 11 := by simpa using h2
  refine ⟨z' + 1, by omega, rfl, by simpa using h2, by rw [wrap64 (by omega) (by omega)]; rfl, fun y hy => ?_, fun y hy1 hy2 => ?_⟩
  · by_cases hyz : y = z'
    · subst hyz
      rw [List.getD_cons_succ, List.getD_eq_getElem?_getD, List.getElem?_set_self (by omega)]; exact hn
    · have := h4 y (by omega)
      rw [List.getD_cons_succ] at this ⊢
      rw [List.getD_eq_getElem?_getD, List.getElem?_set_ne (by omega), ← List.getD_eq_getElem?_getD]; exact this
  · have := h5 y (by omega) hy2
    rw [List.getD_cons_succ] at this ⊢
    rw [List.getD_eq_getElem?_getD, List.getElem?_set_ne (by omega), ← List.getD_eq_getElem?_getD]; exact this
theorem I1_sel {ds l : List Dat} {z m : Nat} (h : I1 ds (.int .i64 z :: l) m) (hz : z < 11) (x : Dat) : l.getD z x = ds.getD (z + 1) (.bool false) := by
  obtain ⟨z', h1, rfl, h2, h3, h4, h5⟩ := h
  have e : z' = z := by
    have h3 : Dat.int .i64 z = .int .i64 z' := h3
    cases h3; rfl
  subst e
  have := h5 z' (Nat.le_refl _) hz
  rw [List.getD_cons_succ] at this
  rw [← this]; exact getD_any (by have : l.length = 11 := by simpa using h2
                                  omega) _ _
def CopyR (ds rs : List Dat) : Prop := (∀ y, y < 12 → argL rs y = argL ds y) ∧ ∀ i, i < 25 → argI rs (12 + i) = argI ds (12 + i)
def nCopy_s : Spec := fun ds Q => Sm ds ∧ ∀ rs, rs.length = 37 → CopyR ds rs → Q rs
-- lacks mulligan/mulligannum.Copy : nCopy
def SameS (ds : List Dat) : Prop := (argL ds 0).length = (argL ds 37).length ∧ (∀ i, i < 25 → argI ds (12 + i) = argI ds (49 + i)) ∧ (∀ k, k < (argL ds 0).length → ∀ c, c < 18 → rowI ((argL ds 0).getD k []) c = rowI ((argL ds 37).getD k []) c) ∧ ∀ z, z < 11 → nums (argL ds (z + 1)) = nums (argL ds (z + 38))
theorem odt {p : Prop} {i : Decidable p} (h : @decide p i = true) : p := @of_decide_eq_true p i h
theorem odf {p : Prop} {i : Decidable p} (h : @decide p i = false) : ¬ p := @of_decide_eq_false p i h
theorem eq18 (a b : Nat → Int) : (a 0 == b 0 && (a 1 == b 1 && (a 2 == b 2 && (a 3 == b 3 && (a 4 == b 4 && (a 5 == b 5 && (a 6 == b 6 && (a 7 == b 7 && (a 8 == b 8 && (a 9 == b 9 && (a 10 == b 10 && (a 11 == b 11 && (a 12 == b 12 && (a 13 == b 13 && (a 14 == b 14 && (a 15 == b 15 && (a 16 == b 16 && (a 17 == b 17)))))))))))))))))) = @decide (∀ c, c < 18 → a c = b c) (Classical.propDecidable _) := by
  rw [Bool.eq_iff_iff]
  simp only [Bool.and_eq_true, beq_iff_eq, decide_eq_true_eq]
  constructor
  · rintro ⟨h0, h1, h2, h3, h4, h5, h6, h7, h8, h9, h10, h11, h12, h13, h14, h15, h16, h17⟩ c hc
    match c, hc with
    | 0, _ => exact h0
    | 1, _ => exact h1
    | 2, _ => exact h2
    | 3, _ => exact h3
    | 4, _ => exact h4
    | 5, _ => exact h5
    | 6, _ => exact h6
    | 7, _ => exact h7
    | 8, _ => exact h8
    | 9, _ => exact h9
    | 10, _ => exact h10
    | 11, _ => exact h11
    | 12, _ => exact h12
    | 13, _ => exact h13
    | 14, _ => exact h14
    | 15, _ => exact h15
    | 16, _ => exact h16
    | 17, _ => exact h17
    | c + 18, h => exact absurd h (by omega)
  · intro h
    exact ⟨h 0 (by omega), h 1 (by omega), h 2 (by omega), h 3 (by omega), h 4 (by omega), h 5 (by omega), h 6 (by omega), h 7 (by omega), h 8 (by omega), h 9 (by omega), h 10 (by omega), h 11 (by omega), h 12 (by omega), h 13 (by omega), h 14 (by omega), h 15 (by omega), h 16 (by omega), h 17 (by omega)⟩
theorem eq7 (a b : Nat → Int) : (a 0 == b 0 && (a 1 == b 1 && (a 2 == b 2 && (a 3 == b 3 && (a 4 == b 4 && (a 5 == b 5 && (a 6 == b 6))))))) = @decide (∀ c, c < 7 → a c = b c) (Classical.propDecidable _) := by
  rw [Bool.eq_iff_iff]
  simp only [Bool.and_eq_true, beq_iff_eq, decide_eq_true_eq]
  constructor
  · rintro ⟨h0, h1, h2, h3, h4, h5, h6⟩ c hc
    match c, hc with
    | 0, _ => exact h0
    | 1, _ => exact h1
    | 2, _ => exact h2
    | 3, _ => exact h3
    | 4, _ => exact h4
    | 5, _ => exact h5
    | 6, _ => exact h6
    | c + 7, h => exact absurd h (by omega)
  · intro h
    exact ⟨h 0 (by omega), h 1 (by omega), h 2 (by omega), h 3 (by omega), h 4 (by omega), h 5 (by omega), h 6 (by omega)⟩
theorem den_listsH {Δ : Tab} {ds e : List Dat} (hl : 49 ≤ ds.length) {i : Tm} {z : Nat} (hi : (den Δ (ds ++ e) i).toInt = z) (hz : z < 11) {s : Srt} :
    den Δ (ds ++ e) (.sel (.econs (.var 38) (.econs (.var 39) (.econs (.var 40) (.econs (.var 41) (.econs (.var 42) (.econs (.var 43) (.econs (.var 44) (.econs (.var 45) (.econs (.var 46) (.econs (.var 47) (.econs (.var 48) .enil))))))))))) i s) = ds.getD (z + 38) (.bool false) := by
  simp only [den_sel, row0_econs, row0_enil, hi, Int.toNat_natCast]
  rw [den_varA (by omega), den_varA (by omega), den_varA (by omega), den_varA (by omega), den_varA (by omega), den_varA (by omega), den_varA (by omega), den_varA (by omega), den_varA (by omega), den_varA (by omega), den_varA (by omega)]
  match z, hz with
  | 0, _ | 1, _ | 2, _ | 3, _ | 4, _ | 5, _ | 6, _ | 7, _ | 8, _ | 9, _ | 10, _ => rfl
def nStates_s : Spec := fun ds Q => Sm ds ∧ Sm (ds.drop 37) ∧ ∀ b : Bool, (b = true ↔ SameS ds) → Q [.bool b]
def k_nStates : Nat := 11
def sg_nStates : Sig := ⟨[(true, [.list 50] ++ List.replicate 11 (.list 3) ++ List.replicate 25 (.int .i64)), (true, [.list 50] ++ List.replicate 11 (.list 3) ++ List.replicate 25 (.int .i64))], [(false, [.bool])], false, false, true, false, false⟩
def tr_nStates : Tree := (.ite (.or (.cmp .ne (.len (.var 0)) (.len (.var 37))) (.or (.not (.and (.cmp .eq (.var 12) (.var 49)) (.and (.cmp .eq (.var 13) (.var 50)) (.and (.cmp .eq (.var 14) (.var 51)) (.and (.cmp .eq (.var 15) (.var 52)) (.and (.cmp .eq (.var 16) (.var 53)) (.and (.cmp .eq (.var 17) (.var 54)) (.and (.cmp .eq (.var 18) (.var 55)) (.and (.cmp .eq (.var 19) (.var 56)) (.and (.cmp .eq (.var 20) (.var 57)) (.and (.cmp .eq (.var 21) (.var 58)) (.and (.cmp .eq (.var 22) (.var 59)) (.and (.cmp .eq (.var 23) (.var 60)) (.and (.cmp .eq (.var 24) (.var 61)) (.and (.cmp .eq (.var 25) (.var 62)) (.and (.cmp .eq (.var 26) (.var 63)) (.and (.cmp .eq (.var 27) (.var 64)) (.and (.cmp .eq (.var 28) (.var 65)) (.cmp .eq (.var 29) (.var 66)))))))))))))))))))) (.not (.and (.cmp .eq (.var 30) (.var 67)) (.and (.cmp .eq (.var 31) (.var 68)) (.and (.cmp .eq (.var 32) (.var 69)) (.and (.cmp .eq (.var 33) (.var 70)) (.and (.cmp .eq (.var 34) (.var 71)) (.and (.cmp .eq (.var 35) (.var 72)) (.cmp .eq (.var 36) (.var 73))))))))))) (.ret [(.bool false)]) (.loop [(.bool false), (.int .i64 0)] [.bool, (.int .i64)] (.ite (.cmp .lt (.var 75) (.len (.var 0))) (.ob (.cmp .ge (.var 75) (.int .i64 0)) (.ob (.cmp .ge (.var 75) (.int .i64 0)) (.ob (.cmp .lt (.var 75) (.len (.var 37))) (.ite (.not (.and (.cmp .eq (.elem (.var 0) (.var 75) 0 (.int .i64)) (.elem (.var 37) (.var 75) 0 (.int .i64))) (.and (.cmp .eq (.elem (.var 0) (.var 75) 1 (.int .i64)) (.elem (.var 37) (.var 75) 1 (.int .i64))) (.and (.cmp .eq (.elem (.var 0) (.var 75) 2 (.int .i64)) (.elem (.var 37) (.var 75) 2 (.int .i64))) (.and (.cmp .eq (.elem (.var 0) (.var 75) 3 (.int .i64)) (.elem (.var 37) (.var 75) 3 (.int .i64))) (.and (.cmp .eq (.elem (.var 0) (.var 75) 4 (.int .i64)) (.elem (.var 37) (.var 75) 4 (.int .i64))) (.and (.cmp .eq (.elem (.var 0) (.var 75) 5 (.int .i64)) (.elem (.var 37) (.var 75) 5 (.int .i64))) (.and (.cmp .eq (.elem (.var 0) (.var 75) 6 (.int .i64)) (.elem (.var 37) (.var 75) 6 (.int .i64))) (.and (.cmp .eq (.elem (.var 0) (.var 75) 7 (.int .i64)) (.elem (.var 37) (.var 75) 7 (.int .i64))) (.and (.cmp .eq (.elem (.var 0) (.var 75) 8 (.int .i64)) (.elem (.var 37) (.var 75) 8 (.int .i64))) (.and (.cmp .eq (.elem (.var 0) (.var 75) 9 (.int .i64)) (.elem (.var 37) (.var 75) 9 (.int .i64))) (.and (.cmp .eq (.elem (.var 0) (.var 75) 10 (.int .i64)) (.elem (.var 37) (.var 75) 10 (.int .i64))) (.and (.cmp .eq (.elem (.var 0) (.var 75) 11 (.int .i64)) (.elem (.var 37) (.var 75) 11 (.int .i64))) (.and (.cmp .eq (.elem (.var 0) (.var 75) 12 (.int .i64)) (.elem (.var 37) (.var 75) 12 (.int .i64))) (.and (.cmp .eq (.elem (.var 0) (.var 75) 13 (.int .i64)) (.elem (.var 37) (.var 75) 13 (.int .i64))) (.and (.cmp .eq (.elem (.var 0) (.var 75) 14 (.int .i64)) (.elem (.var 37) (.var 75) 14 (.int .i64))) (.and (.cmp .eq (.elem (.var 0) (.var 75) 15 (.int .i64)) (.elem (.var 37) (.var 75) 15 (.int .i64))) (.and (.cmp .eq (.elem (.var 0) (.var 75) 16 (.int .i64)) (.elem (.var 37) (.var 75) 16 (.int .i64))) (.cmp .eq (.elem (.var 0) (.var 75) 17 (.int .i64)) (.elem (.var 37) (.var 75) 17 (.int .i64))))))))))))))))))))) (.ret [(.bool false)]) (.again 0 [(.var 74), (.ar .add .i64 (.var 75) (.int .i64 1))]))))) (.loop [(.var 74), (.int .i64 0)] [.bool, (.int .i64)] (.ite (.cmp .lt (.var 77) (.int .i64 11)) (.ob (.cmp .ge (.var 77) (.int .i64 0)) (.ob (.cmp .ge (.var 77) (.int .i64 0)) (.call k_Ints [(.sel (.econs (.var 1) (.econs (.var 2) (.econs (.var 3) (.econs (.var 4) (.econs (.var 5) (.econs (.var 6) (.econs (.var 7) (.econs (.var 8) (.econs (.var 9) (.econs (.var 10) (.econs (.var 11) .enil))))))))))) (.var 77) (.list 3)), (.sel (.econs (.var 38) (.econs (.var 39) (.econs (.var 40) (.econs (.var 41) (.econs (.var 42) (.econs (.var 43) (.econs (.var 44) (.econs (.var 45) (.econs (.var 46) (.econs (.var 47) (.econs (.var 48) .enil))))))))))) (.var 77) (.list 3))] [.bool] (.ite (.not (.var 78)) (.ret [(.bool false)]) (.again 1 [(.var 76), (.ar .add .i64 (.var 77) (.int .i64 1))]))))) (.ret [(.bool true)]))))))
theorem wk_nStates : walk E0.cx (sgsN [(23, sg_Ints)]) 0 11 sg_nStates = tr_nStates := by kernel_rfl
theorem bo_nStates : ∃ x, bodyOf E0.P 11 = some x := bo_of (by kernel_rfl)
theorem sp_nStates_Ints : specC [con_Ints] k_Ints = Ints_s := rfl
theorem nStates_h : Holds E0 k_nStates sg_nStates nStates_s := con_fn wf0 mix0 g0 [con_Ints] rfl wk_nStates rfl (by
  intro Φ hΦ ds Q hs ⟨hsm, hsm2, h⟩
  have hl : ds.length = 74 := hs.length.symm
  have s1 : Φ k_Ints = Ints_s := by rw [hΦ]; rfl
  clear hΦ
  simp only [tr_nStates, wp, den_int, den_bool, den_nili, den_ar, den_cmp, den_not, den_len, den_elem, den_isnil, den_errI, den_ifc, den_rep, den_push, den_app, den_emp, den_upd, row0_econs, row0_enil, den_and, den_beq, den_nil, toInt_int, toBool_bool, xs_rows, xs_list, dflt_int, dflt_bool, of_eq, of_ne, of_lt, of_le, of_gt, of_ge, of_add, of_sub, of_rem, List.map_cons, List.map_nil, Dat.bool.injEq, decide_eq_true_eq, decide_eq_false_iff_not, Bool.not_eq_true', Bool.not_eq_false', beq_iff_eq, bne_iff_ne, beq_eq_false_iff_ne, bne_eq_false_iff_eq, ne_eq, List.append_assoc, List.cons_append, List.nil_append, allS, s1, Ints_s, @den_var0 E0.Δ ds, den_varA, den_varB, hl, Nat.reduceLT, Nat.reduceLeDiff, Nat.reduceSub, List.getD_cons_zero, List.getD_cons_succ, argL_fold ds, argI_fold ds, List.append_assoc, List.cons_append, List.nil_append, toInt_int, toBool_bool, xs_rows, xs_list, Int.toNat_natCast, Dat.bool.injEq, den_or]
  have e1 := eq18 (fun c => argI ds (12 + c)) (fun c => argI ds (49 + c))
  have e2 := eq7 (fun c => argI ds (30 + c)) (fun c => argI ds (67 + c))
  simp only [Nat.reduceAdd] at e1 e2
  rw [e1, e2]
  have ints : (∀ c, c < 18 → argI ds (12 + c) = argI ds (49 + c)) → (∀ c, c < 7 → argI ds (30 + c) = argI ds (67 + c)) → ∀ i, i < 25 → argI ds (12 + i) = argI ds (49 + i) := fun h1 h2 i hi => by
    by_cases hc : i < 18
    · exact h1 i hc
    · have := h2 (i - 18) (by omega)
      rwa [show 30 + (i - 18) = 12 + i by omega, show 67 + (i - 18) = 49 + i by omega] at this
  have no : ¬ SameS ds → Q [.bool false] := fun hn => h _ (by simp only [Bool.false_eq_true, false_iff]; exact hn)
  have hd2 : ∀ i, argL (ds.drop 37) i = argL ds (37 + i) := fun i => by unfold argL; rw [List.getD_eq_getElem?_getD, List.getElem?_drop, List.getD_eq_getElem?_getD]
  have hn0 := hsm 0 (by omega)
  refine ⟨fun h0 => no fun hS => ?_, fun h0 => ?_⟩
  · simp only [Bool.or_eq_true, Bool.not_eq_true', decide_eq_false_iff_not, bne_iff_ne] at h0
    rcases h0 with h0 | h0 | h0
    · exact h0 (by rw [hS.1])
    · exact h0 fun c hc => hS.2.1 c (by omega)
    · refine h0 fun c hc => ?_
      have := hS.2.1 (18 + c) (by omega)
      rwa [show 12 + (18 + c) = 30 + c by omega, show 49 + (18 + c) = 67 + c by omega] at this
  simp only [Bool.or_eq_false_iff, bne_eq_false_iff_eq, Bool.not_eq_false', decide_eq_true_eq] at h0
  obtain ⟨hlen, hP1, hP2⟩ := h0
  have hlen : (argL ds 0).length = (argL ds 37).length := by omega
  refine ⟨fun xs m => ∃ i : Nat, i ≤ (argL ds 0).length ∧ m = (argL ds 0).length - i ∧ xs = [.bool false, .int .i64 i] ∧ ∀ k, k < i → ∀ c, c < 18 → rowI ((argL ds 0).getD k []) c = rowI ((argL ds 37).getD k []) c, ⟨_, 0, by omega, rfl, rfl, fun k hk => absurd hk (by omega)⟩, ?_⟩
  rintro b n m ⟨i, hi, hm, e, hall⟩
  cases e
  refine ⟨fun hlt => ⟨by omega, by omega, by omega, ?_⟩, fun hge => ?_⟩
  · have e3 := eq18 (fun c => (((argL ds 0).getD i []).getD c (Dat.int .i64 0)).toInt) (fun c => (((argL ds 37).getD i []).getD c (Dat.int .i64 0)).toInt)
    rw [Int.toNat_natCast, e3]
    refine ⟨fun hne => no fun hS => odf hne (hS.2.2.1 i (by omega)), fun he0 => have he := odt he0; ⟨(argL ds 0).length - (i + 1), by omega, i + 1, by omega, rfl, by rw [wrap64 (by omega) (by omega)]; rfl, fun k hk => ?_⟩⟩
    by_cases hki : k = i
    · subst hki; exact he
    · exact hall k (by omega)
  · refine ⟨fun xs m => ∃ z : Nat, z ≤ 11 ∧ m = 11 - z ∧ xs = [.bool false, .int .i64 z] ∧ ∀ y, y < z → nums (argL ds (y + 1)) = nums (argL ds (y + 38)), ⟨_, 0, by omega, rfl, rfl, fun k hk => absurd hk (by omega)⟩, ?_⟩
    rintro b1 n1 m1 ⟨z, hz, hm1, e, hnum⟩
    cases e
    refine ⟨fun hlt => ?_, fun hge2 => h _ ?_⟩
    · have hz11 : z < 11 := by omega
      have g1 : ∀ s, den E0.Δ (ds ++ [.bool false, .int .i64 i, .bool false, .int .i64 z]) (.sel (.econs (.var 1) (.econs (.var 2) (.econs (.var 3) (.econs (.var 4) (.econs (.var 5) (.econs (.var 6) (.econs (.var 7) (.econs (.var 8) (.econs (.var 9) (.econs (.var 10) (.econs (.var 11) .enil))))))))))) (.var 77) s) = ds.getD (z + 1) (.bool false) := fun s => den_listsG (by omega) (by simp only [@den_var0 E0.Δ ds, den_varA, den_varB, hl, Nat.reduceLT, Nat.reduceLeDiff, Nat.reduceSub, List.getD_cons_zero, List.getD_cons_succ, argL_fold ds, argI_fold ds, List.append_assoc, List.cons_append, List.nil_append, toInt_int, toBool_bool, xs_rows, xs_list, Int.toNat_natCast, Dat.bool.injEq]) hz11
      have g2 : ∀ s, den E0.Δ (ds ++ [.bool false, .int .i64 i, .bool false, .int .i64 z]) (.sel (.econs (.var 38) (.econs (.var 39) (.econs (.var 40) (.econs (.var 41) (.econs (.var 42) (.econs (.var 43) (.econs (.var 44) (.econs (.var 45) (.econs (.var 46) (.econs (.var 47) (.econs (.var 48) .enil))))))))))) (.var 77) s) = ds.getD (z + 38) (.bool false) := fun s => den_listsH (by omega) (by simp only [@den_var0 E0.Δ ds, den_varA, den_varB, hl, Nat.reduceLT, Nat.reduceLeDiff, Nat.reduceSub, List.getD_cons_zero, List.getD_cons_succ, argL_fold ds, argI_fold ds, List.append_assoc, List.cons_append, List.nil_append, toInt_int, toBool_bool, xs_rows, xs_list, Int.toNat_natCast, Dat.bool.injEq]) hz11
      simp only [g1, g2, argL_c0, argL_c1, argL_fold ds]
      have hz1 := hsm (z + 1) (by omega)
      refine ⟨by omega, by omega, hz1, fun hne => no fun hS => hne (hS.2.2.2 z hz11), fun he => ⟨11 - (z + 1), by omega, z + 1, by omega, rfl, by rw [wrap64 (by omega) (by omega)]; rfl, fun y hy => ?_⟩⟩
      by_cases hyz : y = z
      · subst hyz; exact he
      · exact hnum y (by omega)
    · simp only [true_iff]
      exact ⟨hlen, ints hP1 hP2, fun k hk => hall k (by omega), fun y hy => hnum y (by omega)⟩)
noncomputable def con_nStates : Con E0 := ⟨k_nStates, sg_nStates, nStates_s, rfl, bo_nStates, nStates_h⟩
end Go.Proofs.YtnhahmgbgocdgaaDoor
end

section
namespace Go.Proofs.YtnhahmgbgocdgaaDoor.mth

/-- what stands for a number -/
def zig (n : Int) : Nat := if 0 ≤ n then (2 * n).toNat else (-2 * n - 1).toNat

/-- a number's bytes: seven bits each, the lowest first; f: how many may follow -/
def encF : Nat → Nat → List Nat
  | 0, x => [x]
  | f + 1, x => if x < 128 then [x] else (x % 128 + 128) :: encF f (x / 128)
def enc (x : Nat) : List Nat := encF 9 x
def encI (n : Int) : List Nat := enc (zig n)

theorem encF_small (f x : Nat) (h : x < 128) : encF f x = [x] := by
  cases f with
  | zero => rfl
  | succ f => simp [encF, h]
theorem encF_step (f x : Nat) (h : ¬ x < 128) : encF (f + 1) x = (x % 128 + 128) :: encF f (x / 128) := by simp [encF, h]

theorem zig_lt (n : Int) (h1 : -9223372036854775808 ≤ n) (h2 : n ≤ 9223372036854775807) : zig n < 18446744073709551616 := by
  unfold zig; split <;> omega

theorem encF_len (f : Nat) : ∀ x, 1 ≤ (encF f x).length ∧ (encF f x).length ≤ f + 1 := by
  induction f with
  | zero => intro x; simp [encF]
  | succ f ih =>
    intro x
    by_cases h : x < 128
    · rw [encF_small _ _ h]; simp
    · rw [encF_step _ _ h, List.length_cons]; have := ih (x / 128); omega
theorem enc_len (x : Nat) : 1 ≤ (enc x).length ∧ (enc x).length ≤ 10 := encF_len 9 x

theorem encF_byte (f : Nat) : ∀ x, x < 128 ^ (f + 1) → ∀ b ∈ encF f x, b < 256 := by
  induction f with
  | zero => intro x hx b hb; simp [encF] at hb; subst hb; omega
  | succ f ih =>
    intro x hx b hb
    by_cases h : x < 128
    · rw [encF_small _ _ h] at hb; simp at hb; omega
    · rw [encF_step _ _ h] at hb
      rcases List.mem_cons.1 hb with e | e
      · omega
      · refine ih (x / 128) ?_ b e
        rw [Nat.pow_succ] at hx
        exact (Nat.div_lt_iff_lt_mul (by omega)).2 hx

/-- where the loop stands: k bytes are out, y is left -/
structure Going (X k y : Nat) (done : List Nat) : Prop where
  hk : k ≤ 9
  len : done.length = k
  lt : y < 128 ^ (10 - k)
  all : done ++ encF (9 - k) y = enc X
  le : y ≤ X

theorem going_start (X : Nat) (hX : X < 18446744073709551616) : Going X 0 X [] :=
  ⟨by omega, rfl, Nat.lt_of_lt_of_le hX (by decide), rfl, Nat.le_refl _⟩
theorem going_step {X k y : Nat} {done : List Nat} (h : Going X k y done) (hy : ¬ y < 128) : Going X (k + 1) (y / 128) (done ++ [y % 128 + 128]) := by
  obtain ⟨hk, hl, hlt, ha, hle⟩ := h
  have h9 : k < 9 := by
    apply Classical.byContradiction
    intro h
    have : k = 9 := by omega
    subst this
    omega
  refine ⟨by omega, by simp [hl], ?_, ?_, Nat.le_trans (Nat.div_le_self _ _) hle⟩
  · rw [show 10 - k = (10 - (k + 1)) + 1 from by omega, Nat.pow_succ] at hlt
    exact (Nat.div_lt_iff_lt_mul (by omega)).2 hlt
  · rw [show 9 - k = (9 - (k + 1)) + 1 from by omega, encF_step _ _ hy] at ha
    rw [← ha]; simp
theorem going_end {X k y : Nat} {done : List Nat} (h : Going X k y done) (hy : y < 128) : done ++ [y] = enc X ∧ k + 1 = (enc X).length := by
  have : done ++ [y] = enc X := by rw [← encF_small (9 - k) y hy]; exact h.all
  exact ⟨this, by rw [← this]; simp [h.len]⟩

/-- a list's bytes -/
def encAll : List Int → List Nat
  | [] => []
  | n :: l => encI n ++ encAll l
def encL (l : List Int) : List Nat := encI (l.length : Int) ++ encAll l
theorem encAll_append (a b : List Int) : encAll (a ++ b) = encAll a ++ encAll b := by
  induction a with
  | nil => rfl
  | cons n a ih => simp [encAll, ih]
theorem encAll_len (l : List Int) : (encAll l).length ≤ 10 * l.length := by
  induction l with
  | nil => simp [encAll]
  | cons n l ih => have := (enc_len (zig n)).2; simp only [encAll, encI, List.length_append, List.length_cons]; omega

theorem or128 (y : Nat) : (y % 256) ||| 128 = y % 128 + 128 := by
  have h : y % 256 < 256 := Nat.mod_lt _ (by omega)
  have e : y % 128 = y % 256 % 128 := by omega
  rw [e]
  generalize y % 256 = b at *
  have : ∀ b, b < 256 → b ||| 128 = b % 128 + 128 := by decide +kernel
  exact this b h

end Go.Proofs.YtnhahmgbgocdgaaDoor.mth
end

section
namespace Go.Proofs.YtnhahmgbgocdgaaDoor.mth

def zag (x : Nat) : Int := if x % 2 = 0 then ((x / 2 : Nat) : Int) else -((x / 2 : Nat) : Int) - 1
theorem zag_zig (n : Int) : zag (zig n) = n := by unfold zag zig; split <;> split <;> omega
theorem zig_zag (x : Nat) : zig (zag x) = x := by unfold zag zig; split <;> split <;> omega
theorem zag_range (x : Nat) (h : x < 18446744073709551616) : -9223372036854775808 ≤ zag x ∧ zag x ≤ 9223372036854775807 := by unfold zag; split <;> omega

/-- a number, how many bytes it has, an error's number -/
def tk (i x : Nat) : List Nat → Int × Nat × Int
  | [] => (0, 0, 7)
  | c :: t =>
    if 10 ≤ i then (0, 0, 7)
    else if i = 9 ∧ 1 < c then (0, 0, 2)
    else if 128 ≤ c then tk (i + 1) (x + 128 ^ i * (c % 128)) t
    else if c = 0 ∧ 0 < i then (0, 0, 2)
    else (zag (x + 128 ^ i * c), i + 1, 0)

theorem tk_ten (i x : Nat) (l : List Nat) (h : 10 ≤ i) : tk i x l = (0, 0, 7) := by cases l <;> simp [tk, h]
theorem tk_nine {i x c : Nat} {t : List Nat} (h : i = 9) (h' : 1 < c) : tk i x (c :: t) = (0, 0, 2) := by subst h; simp [tk, h']
theorem tk_more {i x c : Nat} {t : List Nat} (h0 : i < 10) (h : ¬ (i = 9 ∧ 1 < c)) (h' : 128 ≤ c) : tk i x (c :: t) = tk (i + 1) (x + 128 ^ i * (c % 128)) t := by
  rw [tk, if_neg (by omega), if_neg h, if_pos h']
theorem tk_zero {i x c : Nat} {t : List Nat} (h0 : i < 10) (h : c = 0) (h' : 0 < i) : tk i x (c :: t) = (0, 0, 2) := by
  rw [tk, if_neg (by omega), if_neg (by omega), if_neg (by omega), if_pos ⟨h, h'⟩]
theorem tk_end {i x c : Nat} {t : List Nat} (h0 : i < 10) (h : ¬ (i = 9 ∧ 1 < c)) (h' : ¬ 128 ≤ c) (h'' : ¬ (c = 0 ∧ 0 < i)) : tk i x (c :: t) = (zag (x + 128 ^ i * c), i + 1, 0) := by
  rw [tk, if_neg (by omega), if_neg h, if_neg h', if_neg h'']

theorem pow_step (i x d : Nat) (hx : x < 128 ^ i) (hd : d < 128) : x + 128 ^ i * d < 128 ^ (i + 1) := by
  rw [Nat.pow_succ]
  have h1 : 128 ^ i * d + 128 ^ i ≤ 128 ^ i * 128 := by rw [← Nat.mul_succ]; exact Nat.mul_le_mul_left _ (by omega)
  omega
theorem pow_le9 (i : Nat) (h : i ≤ 9) : 128 ^ i ≤ 9223372036854775808 := by
  have := Nat.pow_le_pow_right (n := 128) (by omega) h
  have e : 128 ^ 9 = 9223372036854775808 := by decide
  omega
theorem below64 (i x c : Nat) (h0 : i < 10) (hx : x < 128 ^ i) (h : ¬ (i = 9 ∧ 1 < c)) (h' : c < 128) : x + 128 ^ i * c < 18446744073709551616 := by
  by_cases h9 : i = 9
  · subst h9
    have e : 128 ^ 9 = 9223372036854775808 := by decide
    rw [e] at hx ⊢
    omega
  · have := pow_step i x c hx h'
    have := pow_le9 (i + 1) (by omega)
    omega

theorem tk_back (f : Nat) : ∀ (i x y : Nat) (rest : List Nat), i + f = 9 → x < 128 ^ i → 128 ^ i * y < 18446744073709551616 → (0 < i → 0 < y) → tk i x (encF f y ++ rest) = (zag (x + 128 ^ i * y), i + (encF f y).length, 0) := by
  induction f with
  | zero =>
    intro i x y rest hi hx hy h0
    obtain rfl : i = 9 := by omega
    have e : 128 ^ 9 = 9223372036854775808 := by decide
    rw [e] at hy
    have hy1 : y ≤ 1 := by omega
    simp only [encF, List.cons_append, List.nil_append]
    rw [tk_end (by omega) (by omega) (by omega) (by omega)]
    rfl
  | succ f ih =>
    intro i x y rest hi hx hy h0
    by_cases h : y < 128
    · rw [encF_small _ _ h, List.cons_append, tk_end (by omega) (by omega) (by omega) (by omega)]
      simp
    · rw [encF_step _ _ h, List.cons_append, tk_more (by omega) (by omega) (by omega)]
      have hm : (y % 128 + 128) % 128 = y % 128 := by omega
      have hs : 128 ^ i * y = 128 ^ i * (y % 128) + 128 ^ (i + 1) * (y / 128) := by
        rw [Nat.pow_succ, Nat.mul_assoc, ← Nat.mul_add]
        congr 1
        omega
      rw [hm, ih (i + 1) _ _ _ (by omega) (pow_step i x _ hx (by omega)) (by omega) (by omega)]
      rw [hs, Nat.add_assoc, List.length_cons]
      congr 2
      omega

theorem tk_enc (n : Int) (rest : List Nat) (h1 : -9223372036854775808 ≤ n) (h2 : n ≤ 9223372036854775807) : tk 0 0 (encI n ++ rest) = (n, (encI n).length, 0) := by
  have := tk_back 9 0 0 (zig n) rest (by omega) (by simp) (by have := zig_lt n h1 h2; simpa using this) (by omega)
  simp only [Nat.pow_zero, Nat.one_mul, Nat.zero_add, zag_zig] at this
  exact this

theorem tk_bytes : ∀ (l : List Nat) (i x : Nat) (v : Int) (k : Nat), (∀ b ∈ l, b < 256) → x < 128 ^ i → tk i x l = (v, k, 0) →
    i < 10 ∧ ∃ y, l.take (k - i) = encF (9 - i) y ∧ v = zag (x + 128 ^ i * y) ∧ x + 128 ^ i * y < 18446744073709551616 ∧ i < k ∧ k ≤ i + l.length ∧ (0 < i → 0 < y)
  | [], i, x, v, k, _, _, h => by simp [tk] at h
  | c :: t, i, x, v, k, hb, hx, h => by
    by_cases h10 : 10 ≤ i
    · rw [tk_ten _ _ _ h10] at h; simp at h
    refine ⟨by omega, ?_⟩
    by_cases h9 : i = 9 ∧ 1 < c
    · rw [tk_nine h9.1 h9.2] at h; simp at h
    by_cases hc : 128 ≤ c
    · have hi8 : i ≤ 8 := by omega
      have hc2 := hb c (by simp)
      rw [tk_more (by omega) h9 hc] at h
      obtain ⟨_, y, h1, h2, h3, h4, h5, h6⟩ := tk_bytes t (i + 1) _ v k (fun b hb' => hb b (by simp [hb'])) (pow_step i x _ hx (by omega)) h
      have hy := h6 (by omega)
      have hs : x + 128 ^ i * (c % 128) + 128 ^ (i + 1) * y = x + 128 ^ i * (c % 128 + 128 * y) := by
        rw [Nat.pow_succ, Nat.mul_assoc, Nat.add_assoc, ← Nat.mul_add]
      refine ⟨c % 128 + 128 * y, ?_, by rw [h2, hs], by rw [← hs]; exact h3, by omega, by simp; omega, by omega⟩
      rw [show k - i = (k - (i + 1)) + 1 by omega, List.take_succ_cons, h1, show 9 - i = (9 - (i + 1)) + 1 by omega, encF_step _ _ (by omega)]
      congr 1
      · omega
      · congr 1; omega
    · by_cases h0 : c = 0 ∧ 0 < i
      · rw [tk_zero (by omega) h0.1 h0.2] at h; simp at h
      rw [tk_end (by omega) h9 hc h0] at h
      simp only [Prod.mk.injEq, and_true] at h
      obtain ⟨rfl, rfl⟩ := h
      refine ⟨c, ?_, rfl, below64 i x c (by omega) hx h9 (by omega), by omega, by simp, by omega⟩
      rw [show i + 1 - i = 1 by omega, encF_small _ _ (by omega)]
      rfl

/-- the bytes of what is taken, its range, its length -/
theorem tk_canon (l : List Nat) (v : Int) (k : Nat) (hb : ∀ b ∈ l, b < 256) (h : tk 0 0 l = (v, k, 0)) : l.take k = encI v ∧ 0 < k ∧ k ≤ l.length ∧ -9223372036854775808 ≤ v ∧ v ≤ 9223372036854775807 := by
  obtain ⟨_, y, h1, h2, h3, h4, h5, _⟩ := tk_bytes l 0 0 v k hb (by simp) h
  simp only [Nat.pow_zero, Nat.one_mul, Nat.zero_add, Nat.sub_zero] at *
  have := zag_range y h3
  refine ⟨?_, h4, h5, by rw [h2]; exact this.1, by rw [h2]; exact this.2⟩
  rw [h1, h2, encI, zig_zag]
  rfl
theorem tk_bad (l : List Nat) (v : Int) (k : Nat) (e : Int) : ∀ i x, tk i x l = (v, k, e) → e ≠ 0 → v = 0 ∧ k = 0 ∧ (e = 7 ∨ e = 2) := by
  induction l with
  | nil => intro i x h he; simp [tk] at h; omega
  | cons c t ih =>
    intro i x h he
    unfold tk at h
    split at h
    · simp at h; omega
    split at h
    · simp at h; omega
    split at h
    · exact ih _ _ h he
    split at h
    · simp at h; omega
    · simp at h; omega

/-- a list, what is left, an error's number -/
def pre (o : List Int) (r : List Int × List Nat × Int) : List Int × List Nat × Int := if r.2.2 = 0 then (o ++ r.1, r.2.1, 0) else ([], [], r.2.2)
def tkN : Nat → List Nat → List Int × List Nat × Int
  | 0, b => ([], b, 0)
  | m + 1, b => if (tk 0 0 b).2.2 = 0 then pre [(tk 0 0 b).1] (tkN m (b.drop (tk 0 0 b).2.1)) else ([], [], (tk 0 0 b).2.2)
def tkL (b : List Nat) (many : Int) : List Int × List Nat × Int :=
  if (tk 0 0 b).2.2 = 0 then
    if (tk 0 0 b).1 < 0 then ([], [], 1) else if many < (tk 0 0 b).1 then ([], [], 19) else tkN (tk 0 0 b).1.toNat (b.drop (tk 0 0 b).2.1)
  else ([], [], (tk 0 0 b).2.2)

theorem pre_nil (r : List Int × List Nat × Int) (h : r.2.2 ≠ 0 → r = ([], [], r.2.2)) : pre [] r = r := by
  unfold pre
  split
  · rename_i h0
    obtain ⟨a, b, c⟩ := r
    simp at h0
    simp [h0]
  · rename_i h0
    exact (h h0).symm
theorem tkN_err (m : Nat) (b : List Nat) (h : (tkN m b).2.2 ≠ 0) : tkN m b = ([], [], (tkN m b).2.2) := by
  cases m with
  | zero => simp [tkN] at h
  | succ m =>
    unfold tkN at h ⊢
    by_cases h1 : (tk 0 0 b).2.2 = 0
    · rw [if_pos h1] at h ⊢
      unfold pre at h ⊢
      by_cases h2 : (tkN m (b.drop (tk 0 0 b).2.1)).2.2 = 0
      · rw [if_pos h2] at h; simp at h
      · rw [if_neg h2]
    · rw [if_neg h1]
theorem pre_start (m : Nat) (b : List Nat) : tkN m b = pre [] (tkN m b) := (pre_nil _ (tkN_err m b)).symm
theorem pre_pre (o o' : List Int) (r : List Int × List Nat × Int) : pre o (pre o' r) = pre (o ++ o') r := by
  unfold pre
  by_cases h : r.2.2 = 0
  · simp [h]
  · simp [h]
theorem pre_step {o : List Int} {m : Nat} {b : List Nat} {v : Int} {k : Nat} (h : tk 0 0 b = (v, k, 0)) : pre o (tkN (m + 1) b) = pre (o ++ [v]) (tkN m (b.drop k)) := by
  have : tkN (m + 1) b = pre [v] (tkN m (b.drop k)) := by rw [tkN, h]; simp
  rw [this, pre_pre]
theorem pre_bad {o : List Int} {m : Nat} {b : List Nat} {v : Int} {k : Nat} {e : Int} (h : tk 0 0 b = (v, k, e)) (he : e ≠ 0) : pre o (tkN (m + 1) b) = ([], [], e) := by
  have : tkN (m + 1) b = ([], [], e) := by rw [tkN, h, if_neg he]
  rw [this, pre, if_neg he]
theorem pre_end (o : List Int) (b : List Nat) : pre o (tkN 0 b) = (o, b, 0) := by simp [tkN, pre]

def Ok (l : List Int) : Prop := ∀ n ∈ l, -9223372036854775808 ≤ n ∧ n ≤ 9223372036854775807

theorem tkN_back : ∀ (l : List Int) (rest : List Nat), Ok l → tkN l.length (encAll l ++ rest) = (l, rest, 0)
  | [], rest, _ => rfl
  | n :: l, rest, h => by
    have hn := h n (by simp)
    have ih := tkN_back l rest (fun x hx => h x (by simp [hx]))
    have ht := tk_enc n (encAll l ++ rest) hn.1 hn.2
    rw [List.length_cons, encAll, List.append_assoc, tkN, ht]
    simp [ih, pre]
theorem tkL_back (l : List Int) (rest : List Nat) (many : Int) (h : Ok l) (hl : (l.length : Int) ≤ 9223372036854775807) (hm : (l.length : Int) ≤ many) : tkL (encL l ++ rest) many = (l, rest, 0) := by
  have ht := tk_enc (l.length : Int) (encAll l ++ rest) (by omega) hl
  rw [encL, List.append_assoc, tkL, ht]
  simp only [if_true]
  rw [if_neg (by omega), if_neg (by omega)]
  simp [tkN_back l rest h]

theorem tkN_canon : ∀ (m : Nat) (b : List Nat) (l : List Int) (r : List Nat), (∀ x ∈ b, x < 256) → tkN m b = (l, r, 0) → encAll l ++ r = b ∧ l.length = m ∧ Ok l
  | 0, b, l, r, _, h => by simp [tkN] at h; obtain ⟨rfl, rfl⟩ := h; exact ⟨rfl, rfl, fun x hx => by simp at hx⟩
  | m + 1, b, l, r, hb, h => by
    obtain ⟨v, k, e, ht⟩ : ∃ v k e, tk 0 0 b = (v, k, e) := ⟨_, _, _, rfl⟩
    by_cases he : e = 0
    · subst he
      obtain ⟨h1, h2, h3, h4, h5⟩ := tk_canon b v k hb ht
      have hs : tkN (m + 1) b = pre [v] (tkN m (b.drop k)) := by rw [tkN, ht]; simp
      rw [hs] at h
      unfold pre at h
      split at h
      · rename_i h0
        obtain ⟨l', r', e', hr⟩ : ∃ l' r' e', tkN m (b.drop k) = (l', r', e') := ⟨_, _, _, rfl⟩
        rw [hr] at h h0
        simp at h0 h
        obtain ⟨rfl, rfl⟩ := h
        subst h0
        obtain ⟨g1, g2, g3⟩ := tkN_canon m (b.drop k) l' r' (fun x hx => hb x (List.mem_of_mem_drop hx)) hr
        refine ⟨?_, by simp [g2], ?_⟩
        · rw [encAll, List.append_assoc, g1, ← h1, List.take_append_drop]
        · intro x hx
          rcases List.mem_cons.1 hx with rfl | hx
          · exact ⟨h4, h5⟩
          · exact g3 x hx
      · rename_i h0; simp at h; exact absurd h.2.2 h0
    · have : tkN (m + 1) b = ([], [], e) := by rw [tkN, ht, if_neg he]
      rw [this] at h
      simp at h
      exact absurd h.2.2 he

theorem tkL_canon (b : List Nat) (many : Int) (l : List Int) (r : List Nat) (hb : ∀ x ∈ b, x < 256) (h : tkL b many = (l, r, 0)) : encL l ++ r = b ∧ Ok l ∧ (l.length : Int) ≤ many := by
  obtain ⟨v, k, e, ht⟩ : ∃ v k e, tk 0 0 b = (v, k, e) := ⟨_, _, _, rfl⟩
  unfold tkL at h
  rw [ht] at h
  simp only at h
  by_cases he : e = 0
  · rw [if_pos he] at h
    subst he
    by_cases h1 : v < 0
    · rw [if_pos h1] at h; simp at h
    by_cases h2 : many < v
    · rw [if_neg h1, if_pos h2] at h; simp at h
    rw [if_neg h1, if_neg h2] at h
    obtain ⟨g1, g2, g3⟩ := tkN_canon _ _ _ _ (fun x hx => hb x (List.mem_of_mem_drop hx)) h
    obtain ⟨c1, c2, c3, c4, c5⟩ := tk_canon b v k hb ht
    refine ⟨?_, g3, by omega⟩
    rw [encL, List.append_assoc, g1, g2, show ((v.toNat : Nat) : Int) = v by omega, ← c1, List.take_append_drop]
  · rw [if_neg he] at h
    simp at h
    exact absurd h.2.2 he

/-- unlike lists have unlike bytes, of which none begin with the other's -/
theorem encL_apart (a b : List Int) (ha : Ok a) (hb : Ok b) (hla : (a.length : Int) ≤ 9223372036854775807) (hlb : (b.length : Int) ≤ 9223372036854775807)
    (h : (encL a).take (min (encL a).length (encL b).length) = (encL b).take (min (encL a).length (encL b).length)) : a = b := by
  have key : ∀ (a b : List Int), Ok a → Ok b → (a.length : Int) ≤ 9223372036854775807 → (b.length : Int) ≤ 9223372036854775807 → (encL a).length ≤ (encL b).length → encL a = (encL b).take (encL a).length → a = b := by
    intro a b ha hb hla hlb hl h
    have e : encL b = encL a ++ (encL b).drop (encL a).length := by
      rw [← List.take_append_drop (encL a).length (encL b), ← h]
      simp
    have h1 := tkL_back a ((encL b).drop (encL a).length) (max (a.length : Int) b.length) ha hla (by omega)
    have h2 := tkL_back b [] (max (a.length : Int) b.length) hb hlb (by omega)
    rw [List.append_nil, e, h1] at h2
    simp at h2
    exact h2.1
  by_cases hl : (encL a).length ≤ (encL b).length
  · refine key a b ha hb hla hlb hl ?_
    rw [Nat.min_eq_left hl, List.take_length] at h
    exact h
  · refine (key b a hb ha hlb hla (by omega) ?_).symm
    rw [Nat.min_eq_right (by omega), List.take_length] at h
    exact h.symm
end Go.Proofs.YtnhahmgbgocdgaaDoor.mth
end
