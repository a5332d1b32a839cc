import Derived.Test.YtelfhmeobfimiaaDoorM10
import Derived.Test.YtelfhmeobfimiaaDoorM9

section
namespace Go.Proofs.YtelfhmeobfimiaaDoor
open Go.RowKit
set_option linter.unusedVariables false
set_option linter.unusedSimpArgs false

theorem alls_sub (ds : List Dat) {a : Nat} : ∀ {b : Nat}, a ≤ b → (alls ds a).Sublist (alls ds b)
  | 0, h => by obtain rfl : a = 0 := by omega
               exact List.Sublist.refl _
  | b + 1, h => by
    by_cases hb : a = b + 1
    · subst hb; exact List.Sublist.refl _
    · rw [alls_succ]
      exact (alls_sub ds (b := b) (by omega)).trans (List.sublist_append_left _ _)
/-- what has been seen -/
def Marks (n : Nat) (seen : List (List Dat)) (al : List Int) : Prop := seen.length = n ∧ ∀ k, k < n → seen.getD k [] = [.bool (decide ((k : Int) ∈ al))]
theorem Marks.start (n : Nat) : Marks n (List.replicate n [.bool false]) [] := ⟨by simp, fun k hk => by simp [List.getD_eq_getElem?_getD, hk]⟩
theorem Marks.set {n : Nat} {seen : List (List Dat)} {al : List Int} (h : Marks n seen al) {x : Nat} (hx : x < n) : Marks n (seen.set x ((seen.getD x []).set 0 (.bool true))) (al ++ [(x : Int)]) := by
  refine ⟨by simp [h.1], fun k hk => ?_⟩
  have h1 := h.1
  by_cases hkx : k = x
  · subst hkx
    rw [h.2 k hk]
    simp [List.getD_eq_getElem?_getD, List.getElem?_set, h1, hk]
  · have h2 := h.2 k hk
    have e : decide ((k : Int) ∈ al ++ [(x : Int)]) = decide ((k : Int) ∈ al) := by
      have : (k : Int) ≠ (x : Int) := by omega
      simp [this]
    rw [e, ← h2]
    simp [List.getD_eq_getElem?_getD, List.getElem?_set, Ne.symm hkx]
def k_zones : Nat := 92
def sg_zones : Sig := ⟨[(true, [.list 36] ++ List.replicate 11 (.list 3) ++ List.replicate 25 (.int .i64))], [(false, [.bool])], false, false, false, false, false⟩
def tr_zones : Tree := (.ob (.cmp .ge (.len (.var 0)) (.int .i64 0))
(.ob (.cmp .le (.len (.var 0)) (.int .i64 140737488355328))
(.loop [(.bool false), (.int .i64 0), (.int .i64 0), (.rep (.len (.var 0)) (.econs (.bool false) .enil))] [.bool, (.int .i64), (.int .i64), (.rows 4)]
 (.ite (.cmp .lt (.var 39) (.int .i64 11))
  (.ob (.cmp .ge (.var 39) (.int .i64 0))
  (.loop [(.var 37), (.var 38), (.int .i64 0), (.var 40)] [.bool, (.int .i64), (.int .i64), (.rows 4)]
   (.ite (.cmp .lt (.var 43) (.len (.sel (.econs (.var 1) (.econs (.var 2) (.econs (.var 3) (.econs (.var 4) (.econs (.var 5) (.econs (.var 6) (.econs (.var 7) (.econs (.var 8) (.econs (.var 9) (.econs (.var 10) (.econs (.var 11) .enil))))))))))) (.var 39) (.list 3))))
    (.ob (.cmp .ge (.var 43) (.int .i64 0))
    (.ite (.cmp .lt (.elem (.sel (.econs (.var 1) (.econs (.var 2) (.econs (.var 3) (.econs (.var 4) (.econs (.var 5) (.econs (.var 6) (.econs (.var 7) (.econs (.var 8) (.econs (.var 9) (.econs (.var 10) (.econs (.var 11) .enil))))))))))) (.var 39) (.list 3)) (.var 43) 0 (.int .i64)) (.int .i64 0))
     (.ret [(.bool false)])
     (.ite (.cmp .ge (.elem (.sel (.econs (.var 1) (.econs (.var 2) (.econs (.var 3) (.econs (.var 4) (.econs (.var 5) (.econs (.var 6) (.econs (.var 7) (.econs (.var 8) (.econs (.var 9) (.econs (.var 10) (.econs (.var 11) .enil))))))))))) (.var 39) (.list 3)) (.var 43) 0 (.int .i64)) (.len (.var 44)))
      (.ret [(.bool false)])
      (.ite (.elem (.var 44) (.elem (.sel (.econs (.var 1) (.econs (.var 2) (.econs (.var 3) (.econs (.var 4) (.econs (.var 5) (.econs (.var 6) (.econs (.var 7) (.econs (.var 8) (.econs (.var 9) (.econs (.var 10) (.econs (.var 11) .enil))))))))))) (.var 39) (.list 3)) (.var 43) 0 (.int .i64)) 0 .bool)
       (.ret [(.bool false)])
       (.ob (.cmp .lt (.elem (.sel (.econs (.var 1) (.econs (.var 2) (.econs (.var 3) (.econs (.var 4) (.econs (.var 5) (.econs (.var 6) (.econs (.var 7) (.econs (.var 8) (.econs (.var 9) (.econs (.var 10) (.econs (.var 11) .enil))))))))))) (.var 39) (.list 3)) (.var 43) 0 (.int .i64)) (.len (.var 0)))
       (.ite (.cmp .ne (.elem (.var 0) (.elem (.sel (.econs (.var 1) (.econs (.var 2) (.econs (.var 3) (.econs (.var 4) (.econs (.var 5) (.econs (.var 6) (.econs (.var 7) (.econs (.var 8) (.econs (.var 9) (.econs (.var 10) (.econs (.var 11) .enil))))))))))) (.var 39) (.list 3)) (.var 43) 0 (.int .i64)) 3 (.int .i64)) (.var 39))
        (.ret [(.bool false)])
        (.call k_stands [(.elem (.var 0) (.elem (.sel (.econs (.var 1) (.econs (.var 2) (.econs (.var 3) (.econs (.var 4) (.econs (.var 5) (.econs (.var 6) (.econs (.var 7) (.econs (.var 8) (.econs (.var 9) (.econs (.var 10) (.econs (.var 11) .enil))))))))))) (.var 39) (.list 3)) (.var 43) 0 (.int .i64)) 0 (.int .i64)), (.elem (.var 0) (.elem (.sel (.econs (.var 1) (.econs (.var 2) (.econs (.var 3) (.econs (.var 4) (.econs (.var 5) (.econs (.var 6) (.econs (.var 7) (.econs (.var 8) (.econs (.var 9) (.econs (.var 10) (.econs (.var 11) .enil))))))))))) (.var 39) (.list 3)) (.var 43) 0 (.int .i64)) 1 (.int .i64)), (.elem (.var 0) (.elem (.sel (.econs (.var 1) (.econs (.var 2) (.econs (.var 3) (.econs (.var 4) (.econs (.var 5) (.econs (.var 6) (.econs (.var 7) (.econs (.var 8) (.econs (.var 9) (.econs (.var 10) (.econs (.var 11) .enil))))))))))) (.var 39) (.list 3)) (.var 43) 0 (.int .i64)) 2 (.int .i64)), (.elem (.var 0) (.elem (.sel (.econs (.var 1) (.econs (.var 2) (.econs (.var 3) (.econs (.var 4) (.econs (.var 5) (.econs (.var 6) (.econs (.var 7) (.econs (.var 8) (.econs (.var 9) (.econs (.var 10) (.econs (.var 11) .enil))))))))))) (.var 39) (.list 3)) (.var 43) 0 (.int .i64)) 3 (.int .i64)), (.elem (.var 0) (.elem (.sel (.econs (.var 1) (.econs (.var 2) (.econs (.var 3) (.econs (.var 4) (.econs (.var 5) (.econs (.var 6) (.econs (.var 7) (.econs (.var 8) (.econs (.var 9) (.econs (.var 10) (.econs (.var 11) .enil))))))))))) (.var 39) (.list 3)) (.var 43) 0 (.int .i64)) 4 (.int .i64)), (.elem (.var 0) (.elem (.sel (.econs (.var 1) (.econs (.var 2) (.econs (.var 3) (.econs (.var 4) (.econs (.var 5) (.econs (.var 6) (.econs (.var 7) (.econs (.var 8) (.econs (.var 9) (.econs (.var 10) (.econs (.var 11) .enil))))))))))) (.var 39) (.list 3)) (.var 43) 0 (.int .i64)) 5 (.int .i64)), (.elem (.var 0) (.elem (.sel (.econs (.var 1) (.econs (.var 2) (.econs (.var 3) (.econs (.var 4) (.econs (.var 5) (.econs (.var 6) (.econs (.var 7) (.econs (.var 8) (.econs (.var 9) (.econs (.var 10) (.econs (.var 11) .enil))))))))))) (.var 39) (.list 3)) (.var 43) 0 (.int .i64)) 6 (.int .i64)), (.elem (.var 0) (.elem (.sel (.econs (.var 1) (.econs (.var 2) (.econs (.var 3) (.econs (.var 4) (.econs (.var 5) (.econs (.var 6) (.econs (.var 7) (.econs (.var 8) (.econs (.var 9) (.econs (.var 10) (.econs (.var 11) .enil))))))))))) (.var 39) (.list 3)) (.var 43) 0 (.int .i64)) 7 (.int .i64)), (.elem (.var 0) (.elem (.sel (.econs (.var 1) (.econs (.var 2) (.econs (.var 3) (.econs (.var 4) (.econs (.var 5) (.econs (.var 6) (.econs (.var 7) (.econs (.var 8) (.econs (.var 9) (.econs (.var 10) (.econs (.var 11) .enil))))))))))) (.var 39) (.list 3)) (.var 43) 0 (.int .i64)) 8 (.int .i64)), (.elem (.var 0) (.elem (.sel (.econs (.var 1) (.econs (.var 2) (.econs (.var 3) (.econs (.var 4) (.econs (.var 5) (.econs (.var 6) (.econs (.var 7) (.econs (.var 8) (.econs (.var 9) (.econs (.var 10) (.econs (.var 11) .enil))))))))))) (.var 39) (.list 3)) (.var 43) 0 (.int .i64)) 9 (.int .i64)), (.elem (.var 0) (.elem (.sel (.econs (.var 1) (.econs (.var 2) (.econs (.var 3) (.econs (.var 4) (.econs (.var 5) (.econs (.var 6) (.econs (.var 7) (.econs (.var 8) (.econs (.var 9) (.econs (.var 10) (.econs (.var 11) .enil))))))))))) (.var 39) (.list 3)) (.var 43) 0 (.int .i64)) 10 (.int .i64)), (.elem (.var 0) (.elem (.sel (.econs (.var 1) (.econs (.var 2) (.econs (.var 3) (.econs (.var 4) (.econs (.var 5) (.econs (.var 6) (.econs (.var 7) (.econs (.var 8) (.econs (.var 9) (.econs (.var 10) (.econs (.var 11) .enil))))))))))) (.var 39) (.list 3)) (.var 43) 0 (.int .i64)) 11 (.int .i64)), (.elem (.var 0) (.elem (.sel (.econs (.var 1) (.econs (.var 2) (.econs (.var 3) (.econs (.var 4) (.econs (.var 5) (.econs (.var 6) (.econs (.var 7) (.econs (.var 8) (.econs (.var 9) (.econs (.var 10) (.econs (.var 11) .enil))))))))))) (.var 39) (.list 3)) (.var 43) 0 (.int .i64)) 12 (.int .i64)), (.elem (.var 0) (.elem (.sel (.econs (.var 1) (.econs (.var 2) (.econs (.var 3) (.econs (.var 4) (.econs (.var 5) (.econs (.var 6) (.econs (.var 7) (.econs (.var 8) (.econs (.var 9) (.econs (.var 10) (.econs (.var 11) .enil))))))))))) (.var 39) (.list 3)) (.var 43) 0 (.int .i64)) 13 (.int .i64)), (.elem (.var 0) (.elem (.sel (.econs (.var 1) (.econs (.var 2) (.econs (.var 3) (.econs (.var 4) (.econs (.var 5) (.econs (.var 6) (.econs (.var 7) (.econs (.var 8) (.econs (.var 9) (.econs (.var 10) (.econs (.var 11) .enil))))))))))) (.var 39) (.list 3)) (.var 43) 0 (.int .i64)) 14 (.int .i64)), (.elem (.var 0) (.elem (.sel (.econs (.var 1) (.econs (.var 2) (.econs (.var 3) (.econs (.var 4) (.econs (.var 5) (.econs (.var 6) (.econs (.var 7) (.econs (.var 8) (.econs (.var 9) (.econs (.var 10) (.econs (.var 11) .enil))))))))))) (.var 39) (.list 3)) (.var 43) 0 (.int .i64)) 15 (.int .i64)), (.elem (.var 0) (.elem (.sel (.econs (.var 1) (.econs (.var 2) (.econs (.var 3) (.econs (.var 4) (.econs (.var 5) (.econs (.var 6) (.econs (.var 7) (.econs (.var 8) (.econs (.var 9) (.econs (.var 10) (.econs (.var 11) .enil))))))))))) (.var 39) (.list 3)) (.var 43) 0 (.int .i64)) 16 (.int .i64)), (.elem (.var 0) (.elem (.sel (.econs (.var 1) (.econs (.var 2) (.econs (.var 3) (.econs (.var 4) (.econs (.var 5) (.econs (.var 6) (.econs (.var 7) (.econs (.var 8) (.econs (.var 9) (.econs (.var 10) (.econs (.var 11) .enil))))))))))) (.var 39) (.list 3)) (.var 43) 0 (.int .i64)) 17 (.int .i64)), (.var 39)] [.bool]
        (.ite (.not (.var 45))
         (.ret [(.bool false)])
         (.again 1 [(.var 41), (.ar .add .i64 (.var 42) (.int .i64 1)), (.ar .add .i64 (.var 43) (.int .i64 1)), (.upd (.var 44) (.elem (.sel (.econs (.var 1) (.econs (.var 2) (.econs (.var 3) (.econs (.var 4) (.econs (.var 5) (.econs (.var 6) (.econs (.var 7) (.econs (.var 8) (.econs (.var 9) (.econs (.var 10) (.econs (.var 11) .enil))))))))))) (.var 39) (.list 3)) (.var 43) 0 (.int .i64)) 0 (.bool true))])))))))))
    (.again 0 [(.var 41), (.var 42), (.ar .add .i64 (.var 39) (.int .i64 1)), (.var 44)]))))
  (.ret [(.cmp .eq (.var 38) (.len (.var 40)))])))))
theorem wk_zones : walk E0.cx (sgsN [(134, sg_stands)]) 0 92 sg_zones = tr_zones := by kernel_rfl
theorem bo_zones : ∃ x, bodyOf E0.P 92 = some x := bo_of (by kernel_rfl)
theorem sp_zones_stands : specC [con_stands] k_stands = stands_s := rfl
def zones_s : Spec := iff_s zonesP
theorem zones_h : Holds E0 k_zones sg_zones zones_s := con_by wf0 mix0 g0 [con_stands] rfl wk_zones rfl (by
  intro ds Q hs ⟨hsm, h⟩
  have hl : ds.length = 37 := hs.length.symm
  have hn := hsm 0 (by omega)
  have fail : ¬ zonesP ds → Q [.bool false] := fun hn => h _ (by simp only [Bool.false_eq_true, false_iff]; exact hn)
  simp only [tr_zones, wp, den_int, den_bool, den_nili, den_ar, den_cmp, den_not, den_len, den_elem, den_isnil, den_errI, den_ifc, den_rep, den_push, den_app, den_emp, den_upd, row0_econs, row0_enil, den_and, den_beq, den_nil, toInt_int, toBool_bool, xs_rows, xs_list, dflt_int, dflt_bool, of_eq, of_ne, of_lt, of_le, of_gt, of_ge, of_add, of_sub, of_rem, List.map_cons, List.map_nil, Dat.bool.injEq, decide_eq_true_eq, decide_eq_false_iff_not, Bool.not_eq_true', Bool.not_eq_false', beq_iff_eq, bne_iff_ne, beq_eq_false_iff_ne, bne_eq_false_iff_eq, ne_eq, List.append_assoc, List.cons_append, List.nil_append, allS, sp_zones_stands, stands_s, @den_var0 E0.Δ ds, den_varA, den_varB, hl, Nat.reduceLT, Nat.reduceLeDiff, Nat.reduceSub, List.getD_cons_zero, List.getD_cons_succ, argL_fold ds, argI_fold ds, List.append_assoc, List.cons_append, List.nil_append, toInt_int, toBool_bool, xs_rows, xs_list, Int.toNat_natCast, Dat.bool.injEq]
  refine ⟨by omega, by omega, fun xs m => ∃ (b : Bool) (z : Nat) (seen : List (List Dat)), xs = [.bool b, .int .i64 (alls ds z).length, .int .i64 z, .rows seen] ∧ z ≤ 11 ∧ (∀ p ∈ ids ds z, placed ds p) ∧ (alls ds z).Nodup ∧ Marks (argL ds 0).length seen (alls ds z) ∧ m = 11 - z, ⟨_, false, 0, _, rfl, by omega, by simp [ids], by simp [alls, ids], Marks.start _, rfl⟩, ?_⟩
  intro b n' z' d hd0 m ⟨_, z, seen, e, hz, hall, hnd, hmk, hm⟩
  cases e
  have hrange : ∀ y, y ≤ 11 → (∀ p ∈ ids ds y, placed ds p) → ∀ x ∈ alls ds y, 0 ≤ x ∧ x < ((argL ds 0).length : Int) := fun y hy h x hx => by
    obtain ⟨p, hp, rfl⟩ := List.mem_map.1 hx
    exact ⟨(h p hp).1, (h p hp).2.1⟩
  refine ⟨fun hlt => ⟨by omega, ?_⟩, fun hge => h _ ?_⟩
  · have hz11 : z < 11 := by omega
    have hb := hsm (z + 1) (by omega)
    have hal := alls_len hsm z (by omega)
    refine ⟨fun xs m => ∃ (b : Bool) (i : Nat) (seen : List (List Dat)), xs = [.bool b, .int .i64 (alls ds z ++ (lst ds z).take i).length, .int .i64 i, .rows seen] ∧ i ≤ (argL ds (z + 1)).length ∧ (∀ x ∈ (lst ds z).take i, placed ds (z, x)) ∧ (alls ds z ++ (lst ds z).take i).Nodup ∧ Marks (argL ds 0).length seen (alls ds z ++ (lst ds z).take i) ∧ m = (argL ds (z + 1)).length - i, ⟨_, b, 0, seen, by simp, by omega, by simp, by simpa using hnd, by simpa using hmk, rfl⟩, ?_⟩
    intro b1 n1' i' d1 hd1 m1 ⟨_, i, seen1, e, hi, hall1, hnd1, hmk1, hm1⟩
    cases e
    have hd : ∀ e s, den E0.Δ (ds ++ (.bool b :: .int .i64 (alls ds z).length :: .int .i64 z :: .rows seen :: .bool b1 :: .int .i64 (alls ds z ++ (lst ds z).take i).length :: .int .i64 i :: .rows seen1 :: e)) (.sel (.econs (.var 1) (.econs (.var 2) (.econs (.var 3) (.econs (.var 4) (.econs (.var 5) (.econs (.var 6) (.econs (.var 7) (.econs (.var 8) (.econs (.var 9) (.econs (.var 10) (.econs (.var 11) .enil))))))))))) (.var 39) s) = ds.getD (z + 1) (.bool false) := fun e s => den_lists hl (by simp only [@den_var0 E0.Δ ds, den_varA, den_varB, hl, Nat.reduceLT, Nat.reduceLeDiff, Nat.reduceSub, List.getD_cons_zero, List.getD_cons_succ, argL_fold ds, argI_fold ds, List.append_assoc, List.cons_append, List.nil_append, toInt_int, toBool_bool, xs_rows, xs_list, Int.toNat_natCast, Dat.bool.injEq]) hz11
    simp only [hd, @den_var0 E0.Δ ds, den_varA, den_varB, hl, Nat.reduceLT, Nat.reduceLeDiff, Nat.reduceSub, List.getD_cons_zero, List.getD_cons_succ, argL_fold ds, argI_fold ds, List.append_assoc, List.cons_append, List.nil_append, toInt_int, toBool_bool, xs_rows, xs_list, Int.toNat_natCast, Dat.bool.injEq]
    refine ⟨fun hlt1 => ⟨by omega, ?_⟩, fun hge1 => ?_⟩
    · have hi1 : i < (argL ds (z + 1)).length := by omega
      have hi2 : i < (lst ds z).length := by rw [lst_len]; exact hi1
      rw [lst_el hi1]
      have hmem : (lst ds z)[i] ∈ lst ds z := List.getElem_mem _
      have hid : ((z : Int), (lst ds z)[i]) ∈ ids ds 11 := mem_ids.2 ⟨z, hz11, rfl, hmem⟩
      have htk := take_el hi2
      generalize hx : (lst ds z)[i] = x at *
      refine ⟨fun h0 => fail fun hP => ?_, fun h0 => ⟨fun h1 => fail fun hP => ?_, fun h1 => ?_⟩⟩
      · have := (hP.1 _ hid).1; simp only at this; omega
      · have := (hP.1 _ hid).2.1; rw [hmk1.1] at h1; simp only at this; omega
      · obtain ⟨k, rfl⟩ := Int.eq_ofNat_of_zero_le (show 0 ≤ x by omega)
        have hk : k < (argL ds 0).length := by rw [hmk1.1] at h1; omega
        simp only [Int.toNat_natCast, hmk1.2 k hk, List.getD_cons_zero, Dat.bool.injEq, decide_eq_true_eq, decide_eq_false_iff_not]
        refine ⟨fun h2 => fail fun hP => ?_, fun h2 => ⟨by omega, fun h3 => fail fun hP => h3 (hP.1 _ hid).2.2.1, fun h3 => ⟨show (0 : Int) ≤ (z : Int) by omega, show (z : Int) < 11 by omega, fun c hc => ⟨fun e => fail fun hP => ?_, fun e => ⟨(argL ds (z + 1)).length - (i + 1), by omega, b1, i + 1, seen1.set k ((seen1.getD k []).set 0 (.bool true)), ?_, by omega, ?_, ?_, ?_, rfl⟩⟩⟩⟩⟩
        · have h5 := List.Nodup.sublist ((alls_succ ds z ▸ alls_sub ds (show z + 1 ≤ 11 by omega)) : (alls ds z ++ lst ds z).Sublist (alls ds 11)) hP.2.1
          have h6 : (alls ds z ++ (lst ds z).take (i + 1)).Nodup := List.Nodup.sublist ((List.take_sublist _ _).append_left _) h5
          rw [htk, ← List.append_assoc] at h6
          exact (List.nodup_append.1 h6).2.2 _ h2 _ (List.mem_singleton.2 rfl) rfl
        · subst e
          exact Bool.noConfusion (hc.2 (hP.1 _ hid).2.2.2)
        · have hl2 : (alls ds z ++ (lst ds z).take i).length ≤ z * 1000000 + i := by rw [List.length_append, List.length_take]; omega
          rw [wrap64 (by omega) (by omega), wrap64 (by omega) (by omega), htk, ← List.append_assoc]
          have e1 : ((alls ds z ++ (lst ds z).take i) ++ [(k : Int)]).length = (alls ds z ++ (lst ds z).take i).length + 1 := by rw [List.length_append (bs := [(k : Int)])]; rfl
          rw [e1]
          simp only [hmk1.2 k hk]
          rfl
        · intro x hx
          rw [htk] at hx
          rcases List.mem_append.1 hx with hx | hx
          · exact hall1 x hx
          · rw [List.mem_singleton.1 hx]
            exact ⟨by simp only; omega, by simp only; omega, h3, hc.1 e⟩
        · rw [htk, ← List.append_assoc, List.nodup_append]
          exact ⟨hnd1, by simp, fun a ha b hb e => by
            rw [List.mem_singleton.1 hb] at e
            exact h2 (e ▸ ha)⟩
        · rw [htk, ← List.append_assoc]
          exact hmk1.set hk
    · have hfull : (lst ds z).take i = lst ds z := List.take_of_length_le (by rw [lst_len]; omega)
      rw [hfull] at hall1 hnd1 hmk1
      refine ⟨11 - (z + 1), by omega, b1, z + 1, seen1, ?_, by omega, fun p hp => ?_, by rw [alls_succ]; exact hnd1, by rw [alls_succ]; exact hmk1, rfl⟩
      · rw [wrap64 (by omega) (by omega), hfull, alls_succ]; rfl
      · rw [ids] at hp
        rcases List.mem_append.1 hp with hp | hp
        · exact hall p hp
        · obtain ⟨x, hx, rfl⟩ := List.mem_map.1 hp
          exact hall1 x hx
  · have hz11 : z = 11 := by omega
    subst hz11
    rw [beq_iff_eq, xs_rows, hmk.1]
    have hlen : (ids ds 11).length = (alls ds 11).length := by rw [alls, List.length_map]
    exact ⟨fun e => ⟨hall, hnd, by rw [hlen]; omega⟩, fun hP => by rw [← hlen, hP.2.2]⟩)
noncomputable def con_zones : Con E0 := ⟨k_zones, sg_zones, zones_s, rfl, bo_zones, zones_h⟩
end Go.Proofs.YtelfhmeobfimiaaDoor
end

section
namespace Go.Proofs.YtelfhmeobfimiaaDoor
open Go.RowKit
set_option linter.unusedVariables false
set_option linter.unusedSimpArgs false

/-- the number of a state's error -/
def errP (ds : List Dat) (n : Int) : Prop :=
  if 400 < (argL ds 0).length then n = 5
  else (¬ rangesP ds ∧ n = 1) ∨ (rangesP ds ∧ ¬ zonesP ds ∧ n = 12) ∨ (rangesP ds ∧ zonesP ds ∧ ¬ (∀ o ∈ argL ds 0, formedP o) ∧ n = 2) ∨ (rangesP ds ∧ zonesP ds ∧ (∀ o ∈ argL ds 0, formedP o) ∧ n = 0)
theorem errP_inj {ds : List Dat} {n m : Int} (h1 : errP ds n) (h2 : errP ds m) : n = m := by
  unfold errP at h1 h2
  split at h1
  · rw [if_pos (by assumption)] at h2; omega
  · rw [if_neg (by assumption)] at h2
    rcases h1 with h | h | h | h <;> rcases h2 with h' | h' | h' | h' <;> simp_all
theorem fold_getD {α : Type} (d : α) : ∀ (ds : List α), (List.range' 0 ds.length).map (fun i => ds.getD i d) = ds := fun ds => by
  apply List.ext_getElem
  · simp
  · intro i h1 h2
    simp [List.getD_eq_getElem?_getD, h2]
theorem fold37 {α : Type} {ds : List α} {d : α} (hl : ds.length = 37) : [ds.getD 0 d, ds.getD 1 d, ds.getD 2 d, ds.getD 3 d, ds.getD 4 d, ds.getD 5 d, ds.getD 6 d, ds.getD 7 d, ds.getD 8 d, ds.getD 9 d, ds.getD 10 d, ds.getD 11 d, ds.getD 12 d, ds.getD 13 d, ds.getD 14 d, ds.getD 15 d, ds.getD 16 d, ds.getD 17 d, ds.getD 18 d, ds.getD 19 d, ds.getD 20 d, ds.getD 21 d, ds.getD 22 d, ds.getD 23 d, ds.getD 24 d, ds.getD 25 d, ds.getD 26 d, ds.getD 27 d, ds.getD 28 d, ds.getD 29 d, ds.getD 30 d, ds.getD 31 d, ds.getD 32 d, ds.getD 33 d, ds.getD 34 d, ds.getD 35 d, ds.getD 36 d] = ds := by
  have := fold_getD d ds
  rw [hl] at this
  exact this
theorem fold18 {α : Type} {ds : List α} {d : α} (hl : ds.length = 18) : [ds.getD 0 d, ds.getD 1 d, ds.getD 2 d, ds.getD 3 d, ds.getD 4 d, ds.getD 5 d, ds.getD 6 d, ds.getD 7 d, ds.getD 8 d, ds.getD 9 d, ds.getD 10 d, ds.getD 11 d, ds.getD 12 d, ds.getD 13 d, ds.getD 14 d, ds.getD 15 d, ds.getD 16 d, ds.getD 17 d] = ds := by
  have := fold_getD d ds
  rw [hl] at this
  exact this
theorem formed_row (o : List Dat) : formedP [o.getD 0 (.int .i64 0), o.getD 1 (.int .i64 0), o.getD 2 (.int .i64 0), o.getD 3 (.int .i64 0), o.getD 4 (.int .i64 0), o.getD 5 (.int .i64 0), o.getD 6 (.int .i64 0), o.getD 7 (.int .i64 0), o.getD 8 (.int .i64 0), o.getD 9 (.int .i64 0), o.getD 10 (.int .i64 0), o.getD 11 (.int .i64 0), o.getD 12 (.int .i64 0), o.getD 13 (.int .i64 0), o.getD 14 (.int .i64 0), o.getD 15 (.int .i64 0), o.getD 16 (.int .i64 0), o.getD 17 (.int .i64 0)] = formedP o := rfl
def k_rCheck : Nat := 23
def sg_rCheck : Sig := ⟨[(true, [.list 36] ++ List.replicate 11 (.list 3) ++ List.replicate 25 (.int .i64))], [(false, [.int .i64])], false, false, false, false, false⟩
def tr_rCheck : Tree := (.ite (.cmp .gt (.len (.var 0)) (.int .i64 400))
 (.ret [(.int .i64 5)])
 (.call k_rranges [(.var 0), (.var 1), (.var 2), (.var 3), (.var 4), (.var 5), (.var 6), (.var 7), (.var 8), (.var 9), (.var 10), (.var 11), (.var 12), (.var 13), (.var 14), (.var 15), (.var 16), (.var 17), (.var 18), (.var 19), (.var 20), (.var 21), (.var 22), (.var 23), (.var 24), (.var 25), (.var 26), (.var 27), (.var 28), (.var 29), (.var 30), (.var 31), (.var 32), (.var 33), (.var 34), (.var 35), (.var 36)] [.bool]
 (.ite (.not (.var 37))
  (.ret [(.int .i64 1)])
  (.call k_rzones [(.var 0), (.var 1), (.var 2), (.var 3), (.var 4), (.var 5), (.var 6), (.var 7), (.var 8), (.var 9), (.var 10), (.var 11), (.var 12), (.var 13), (.var 14), (.var 15), (.var 16), (.var 17), (.var 18), (.var 19), (.var 20), (.var 21), (.var 22), (.var 23), (.var 24), (.var 25), (.var 26), (.var 27), (.var 28), (.var 29), (.var 30), (.var 31), (.var 32), (.var 33), (.var 34), (.var 35), (.var 36)] [.bool]
  (.ite (.not (.var 38))
   (.ret [(.int .i64 12)])
   (.loop [(.int .i64 0), (.int .i64 0)] [(.int .i64), (.int .i64)]
    (.ite (.cmp .lt (.var 40) (.len (.var 0)))
     (.ob (.cmp .ge (.var 40) (.int .i64 0))
     (.call k_rformed [(.elem (.var 0) (.var 40) 0 (.int .i64)), (.elem (.var 0) (.var 40) 1 (.int .i64)), (.elem (.var 0) (.var 40) 2 (.int .i64)), (.elem (.var 0) (.var 40) 3 (.int .i64)), (.elem (.var 0) (.var 40) 4 (.int .i64)), (.elem (.var 0) (.var 40) 5 (.int .i64)), (.elem (.var 0) (.var 40) 6 (.int .i64)), (.elem (.var 0) (.var 40) 7 (.int .i64)), (.elem (.var 0) (.var 40) 8 (.int .i64)), (.elem (.var 0) (.var 40) 9 (.int .i64)), (.elem (.var 0) (.var 40) 10 (.int .i64)), (.elem (.var 0) (.var 40) 11 (.int .i64)), (.elem (.var 0) (.var 40) 12 (.int .i64)), (.elem (.var 0) (.var 40) 13 (.int .i64)), (.elem (.var 0) (.var 40) 14 (.int .i64)), (.elem (.var 0) (.var 40) 15 (.int .i64)), (.elem (.var 0) (.var 40) 16 (.int .i64)), (.elem (.var 0) (.var 40) 17 (.int .i64))] [.bool]
     (.ite (.not (.var 41))
      (.ret [(.int .i64 2)])
      (.again 0 [(.var 39), (.ar .add .i64 (.var 40) (.int .i64 1))]))))
     (.ret [(.int .i64 0)]))))))))
theorem wk_rCheck : walk E0.cx (sgsN [(59, sg_rranges), (60, sg_rzones), (61, sg_rformed)]) 0 23 sg_rCheck = tr_rCheck := by kernel_rfl
theorem bo_rCheck : ∃ x, bodyOf E0.P 23 = some x := bo_of (by kernel_rfl)
theorem sp_rCheck_rranges : specC [con_rranges, con_rzones, con_rformed] k_rranges = rranges_s := rfl
theorem sp_rCheck_rzones : specC [con_rranges, con_rzones, con_rformed] k_rzones = rzones_s := rfl
theorem sp_rCheck_rformed : specC [con_rranges, con_rzones, con_rformed] k_rformed = rformed_s := rfl
def rCheck_s : Spec := fun ds Q => Sm ds ∧ ∀ n : Int, errP ds n → Q [.int .i64 n]
theorem rCheck_h : Holds E0 k_rCheck sg_rCheck rCheck_s := con_by wf0 mix0 g0 [con_rranges, con_rzones, con_rformed] rfl wk_rCheck rfl (by
  intro ds Q hs ⟨hsm, h⟩
  have hl : ds.length = 37 := hs.length.symm
  have hn := hsm 0 (by omega)
  simp only [tr_rCheck, wp, den_int, den_bool, den_nili, den_ar, den_cmp, den_not, den_len, den_elem, den_isnil, den_errI, den_ifc, den_rep, den_push, den_app, den_emp, den_upd, row0_econs, row0_enil, den_and, den_beq, den_nil, toInt_int, toBool_bool, xs_rows, xs_list, dflt_int, dflt_bool, of_eq, of_ne, of_lt, of_le, of_gt, of_ge, of_add, of_sub, of_rem, List.map_cons, List.map_nil, Dat.bool.injEq, decide_eq_true_eq, decide_eq_false_iff_not, Bool.not_eq_true', Bool.not_eq_false', beq_iff_eq, bne_iff_ne, beq_eq_false_iff_ne, bne_eq_false_iff_eq, ne_eq, List.append_assoc, List.cons_append, List.nil_append, allS, sp_rCheck_rranges, sp_rCheck_rzones, sp_rCheck_rformed, rranges_s, rzones_s, rformed_s, iff_s, iff_o, @den_var0 E0.Δ ds, den_varA, den_varB, hl, Nat.reduceLT, Nat.reduceLeDiff, Nat.reduceSub, List.getD_cons_zero, List.getD_cons_succ, argL_fold ds, argI_fold ds, List.append_assoc, List.cons_append, List.nil_append, toInt_int, toBool_bool, xs_rows, xs_list, Int.toNat_natCast, Dat.bool.injEq, fold37 hl, formed_row]
  refine ⟨fun hf => h _ (by unfold errP; rw [if_pos (by omega)]), fun hf => ⟨hsm, fun b hb => ⟨fun e => h _ ?_, fun e => ⟨hsm, fun b' hb' => ⟨fun e' => h _ ?_, fun e' => ?_⟩⟩⟩⟩⟩
  · subst e
    unfold errP; rw [if_neg (by omega)]
    exact .inl ⟨fun hP => Bool.noConfusion (hb.2 hP), rfl⟩
  · subst e e'
    unfold errP; rw [if_neg (by omega)]
    exact .inr (.inl ⟨hb.1 rfl, fun hP => Bool.noConfusion (hb'.2 hP), rfl⟩)
  · subst e e'
    have hR := hb.1 rfl
    have hZ := hb'.1 rfl
    clear hb hb'
    refine ⟨fun xs m => ∃ (n : Int) (i : Nat), xs = [.int .i64 n, .int .i64 i] ∧ i ≤ (argL ds 0).length ∧ (∀ o ∈ (argL ds 0).take i, formedP o) ∧ m = (argL ds 0).length - i, ⟨_, 0, 0, rfl, by omega, by simp, rfl⟩, ?_⟩
    intro n i' m ⟨_, i, e, hi, hall, hm⟩
    cases e
    refine ⟨fun hlt => ⟨by omega, ?_⟩, fun hge => ?_⟩
    · have hi2 : i < (argL ds 0).length := by omega
      simp only [Int.toNat_natCast, getD_lt hi2]
      intro b hb
      refine ⟨fun e => h _ ?_, fun e => ?_⟩
      · subst e
        unfold errP; rw [if_neg (by omega)]
        exact .inr (.inr (.inl ⟨hR, hZ, fun hP => Bool.noConfusion (hb.2 (hP _ (List.getElem_mem hi2))), rfl⟩))
      · subst e
        refine ⟨(argL ds 0).length - (i + 1), by omega, n, i + 1, ?_, by omega, all_take hall hi2 (hb.1 rfl), rfl⟩
        rw [wrap64 (by omega) (by omega)]; rfl
    · refine h _ ?_
      unfold errP; rw [if_neg (by omega)]
      refine .inr (.inr (.inr ⟨hR, hZ, ?_, rfl⟩))
      rw [List.take_of_length_le (by omega)] at hall; exact hall)
noncomputable def con_rCheck : Con E0 := ⟨k_rCheck, sg_rCheck, rCheck_s, rfl, bo_rCheck, rCheck_h⟩
end Go.Proofs.YtelfhmeobfimiaaDoor
end

section
namespace Go.Proofs.YtelfhmeobfimiaaDoor
open Go.RowKit
set_option linter.unusedVariables false
set_option linter.unusedSimpArgs false

/-- a contract of a function that calls itself: by what gets less -/
theorem holds_rec {E : Env} {f : FuncId} {sg : Sig} {Φ : Spec} (m : List Dat → Nat)
    (step : ∀ n, Holds E f sg (fun ds Q => m ds < n ∧ Φ ds Q) → Holds E f sg (fun ds Q => m ds < n + 1 ∧ Φ ds Q)) : Holds E f sg Φ := by
  have all : ∀ n, Holds E f sg (fun ds Q => m ds < n ∧ Φ ds Q) := by
    intro n
    induction n with
    | zero => intro w ds Q _ _ _ _ h; exact absurd h.1 (Nat.not_lt_zero _)
    | succ n ih => exact step n ih
  intro w ds Q h1 h2 h3 h4 h5
  exact all (m ds + 1) w ds Q h1 h2 h3 h4 ⟨Nat.lt_succ_self _, h5⟩

/-- .. its callees' contracts behind a name -/
theorem con_fn {E : Env} (hW : E.Wf) (hmix : E.P.follows .mixedOrders = true) (hγ : E.γ = []) (T : List (Con E)) {ns : List (Nat × Sig)} (hn : names T = ns) {f : Nat} {sg : Sig} {tr : Tree} (hT : walk E.cx (sgsN ns) 0 f sg = tr) (hsg : sg.ok = true) {Ψ : Spec}
    (h : ∀ Φ : Nat → Spec, Φ = specC T → ∀ ds Q, All2 (Has E.Δ) (Sig.sorts sg.params) ds → Ψ ds Q → wp E.Δ Φ Q tr ds []) : Holds E f sg Ψ :=
  con_by hW hmix hγ T hn hT hsg (h _ rfl)

/-- a slice that is nil has nothing -/
def NilOk (d : Dat) : Prop := isNilI d = true → d.xs = []
theorem nilOk {d : Dat} {w : World} (ho : OkD w d) : NilOk d := fun hn => by
  cases ho with
  | list v sz xs hr _ =>
    obtain ⟨A, c, rfl, hc, hlen, ha⟩ := hr
    cases A with
    | some a => cases hn
    | none =>
      cases xs with
      | nil => rfl
      | cons x xs =>
        obtain ⟨ad, e, _⟩ := ha (by simp)
        cases e
  | rows xs _ => cases hn
  | _ => rfl
theorem con_fnN {E : Env} (hW : E.Wf) (hmix : E.P.follows .mixedOrders = true) (hγ : E.γ = []) (T : List (Con E)) {ns : List (Nat × Sig)} (hn : names T = ns) {f : Nat} {sg : Sig} {tr : Tree} (hT : walk E.cx (sgsN ns) 0 f sg = tr) (hsg : sg.ok = true) {Ψ : Spec}
    (h : ∀ Φ : Nat → Spec, Φ = specC T → ∀ ds Q, All2 (Has E.Δ) (Sig.sorts sg.params) ds → (∀ d ∈ ds, NilOk d) → Ψ ds Q → wp E.Δ Φ Q tr ds []) : Holds E f sg Ψ := fun w ds Q h1 h2 h3 h4 h5 =>
  con_fn hW hmix hγ T hn hT hsg (Ψ := fun ds Q => (∀ d ∈ ds, NilOk d) ∧ Ψ ds Q) (fun Φ hΦ ds Q hs hq => h Φ hΦ ds Q hs hq.1 hq.2) w ds Q h1 h2 h3 h4 ⟨fun d hd => nilOk (h2 d hd), h5⟩
theorem take_succ_getD {α : Type} {l : List α} {i : Nat} {d : α} (h : i < l.length) : l.take (i + 1) = l.take i ++ [l.getD i d] := by
  rw [List.getD_eq_getElem?_getD, List.getElem?_eq_getElem h, List.take_add_one, List.getElem?_eq_getElem h]; rfl
theorem drop_getD {α : Type} {l : List α} {i : Nat} {d : α} (h : i < l.length) : l.drop i = l.getD i d :: l.drop (i + 1) := by
  rw [List.getD_eq_getElem?_getD, List.getElem?_eq_getElem h, List.drop_eq_getElem_cons h]; rfl
theorem getD_memL {α : Type} {l : List α} {i : Nat} {d : α} (h : i < l.length) : l.getD i d ∈ l := by
  rw [List.getD_eq_getElem?_getD, List.getElem?_eq_getElem h]; exact List.getElem_mem h
theorem argV {Δ : Tab} {k : IntKind} {ds : List Dat} {i : Nat} (h : Has Δ (.int k) (ds.getD i (.bool false))) : ds.getD i (.bool false) = .int k (argI ds i) := by
  rw [← argI_fold]; exact has_int h
theorem den_ite (Δ : Tab) (ρ : List Dat) (c a b : Tm) : den Δ ρ (.ite c a b) = if (den Δ ρ c).toBool then den Δ ρ a else den Δ ρ b := rfl
theorem argI_c0 {d : Dat} {l : List Dat} : argI (d :: l) 0 = d.toInt := rfl
theorem argI_c1 {d : Dat} {l : List Dat} {n : Nat} : argI (d :: l) (n + 1) = argI l n := rfl
theorem argL_c0 {d : Dat} {l : List Dat} : argL (d :: l) 0 = d.xs := rfl
theorem argL_c1 {d : Dat} {l : List Dat} {n : Nat} : argL (d :: l) (n + 1) = argL l n := rfl
theorem xs_cutD {Δ : Tab} {r : Nat} {d : Dat} {l h : Nat} (hd : Has Δ (.list r) d) (h1 : l ≤ h) (h2 : h ≤ d.xs.length) : (cutD l h d).xs = (d.xs.take h).drop l := by
  cases hd with
  | list _ A n c xs hl hh =>
    have hall : xs.all (fun r' => r'.length == (Δ.row r).length) = true := List.all_eq_true.2 fun row hr => by simpa using hl row hr
    simp only [cutD]
    rw [if_pos ⟨h1, h2, hall⟩]
    rfl
theorem den_or (Δ : Tab) (ρ : List Dat) (a b : Tm) : den Δ ρ (.or a b) = .bool ((den Δ ρ a).toBool || (den Δ ρ b).toBool) := rfl
theorem den_conv (Δ : Tab) (ρ : List Dat) (k : IntKind) (a : Tm) : den Δ ρ (.conv k a) = .int k (k.wrap (den Δ ρ a).toInt) := rfl
theorem den_cutT (Δ : Tab) (ρ : List Dat) (a l h : Tm) : den Δ ρ (.cut a l h) = cutD (den Δ ρ l).toInt.toNat (den Δ ρ h).toInt.toNat (den Δ ρ a) := rfl
theorem ite_datb (c : Prop) [Decidable c] (a b : Bool) : (if c then Dat.bool a else Dat.bool b) = Dat.bool (if c then a else b) := by split <;> rfl
theorem ite_dati (k : IntKind) (c : Prop) [Decidable c] (a b : Int) : (if c then Dat.int k a else Dat.int k b) = Dat.int k (if c then a else b) := by split <;> rfl
theorem toInt_ite (c : Prop) [Decidable c] (a b : Dat) : (if c then a else b).toInt = if c then a.toInt else b.toInt := by split <;> rfl
theorem toBool_ite (c : Prop) [Decidable c] (a b : Dat) : (if c then a else b).toBool = if c then a.toBool else b.toBool := by split <;> rfl
theorem argI_row {r e : List Dat} {i k : Nat} (h : r.length = k) (hk : k ≤ i) : argI (r ++ e) i = argI e (i - k) := by
  subst h
  simp [argI, List.getD_eq_getElem?_getD, List.getElem?_append_right hk]
theorem argI_0 {d : Dat} {l : List Dat} : argI (d :: l) 0 = d.toInt := rfl
theorem argI_1 {a d : Dat} {l : List Dat} : argI (a :: d :: l) 1 = d.toInt := rfl
def errV (n : Int) : Dat := if n = 0 then .val .nilIface else .val (.iface 86 (.int .i64 n))
theorem errV_nil (n : Int) : isNilI (errV n) = decide (n = 0) := by
  unfold errV
  by_cases h : n = 0
  · rw [if_pos h, decide_eq_true h]; rfl
  · rw [if_neg h, decide_eq_false h]; rfl
theorem errV_0 : errV 0 = .val .nilIface := rfl
theorem errV_n {n : Int} (h : n ≠ 0) : errV n = .val (.iface 86 (.int .i64 n)) := if_neg h
def k_Num : Nat := 32
def sg_Num : Sig := ⟨[(false, [.err])], [(false, [.int .i64])], false, false, false, false, false⟩
def tr_Num : Tree := (.ite (.isnil (.var 0))
 (.ret [(.int .i64 0)])
 (.ite (.cmp .ne (.errI (.var 0)) (.int .i64 0))
  (.ret [(.errI (.var 0))])
  (.ret [(.int .i64 (-1))])))
theorem wk_Num : walk E0.cx (sgsN []) 0 32 sg_Num = tr_Num := by kernel_rfl
theorem bo_Num : ∃ x, bodyOf E0.P 32 = some x := bo_of (by kernel_rfl)
def Num_s : Spec := fun ds Q => ∃ n : Int, ds = [errV n] ∧ Q [.int .i64 n]
theorem Num_h : Holds E0 k_Num sg_Num Num_s := con_by wf0 mix0 g0 [] rfl wk_Num rfl (by
  intro ds Q hs ⟨n, e, h⟩
  subst e
  simp only [tr_Num, wp, den_int, den_bool, den_nili, den_ar, den_cmp, den_not, den_len, den_elem, den_isnil, den_errI, den_ifc, den_rep, den_push, den_app, den_emp, den_upd, row0_econs, row0_enil, den_and, den_beq, den_nil, toInt_int, toBool_bool, xs_rows, xs_list, dflt_int, dflt_bool, of_eq, of_ne, of_lt, of_le, of_gt, of_ge, of_add, of_sub, of_rem, List.map_cons, List.map_nil, Dat.bool.injEq, decide_eq_true_eq, decide_eq_false_iff_not, Bool.not_eq_true', Bool.not_eq_false', beq_iff_eq, bne_iff_ne, beq_eq_false_iff_ne, bne_eq_false_iff_eq, ne_eq, List.append_assoc, List.cons_append, List.nil_append, den_var0, List.getD_cons_zero]
  by_cases hn : n = 0
  · subst hn
    exact ⟨fun _ => h, fun hx => Bool.noConfusion hx⟩
  · simp only [errV, if_neg hn, errN]
    exact ⟨fun hx => Bool.noConfusion hx, fun _ => ⟨fun _ => h, fun hx => absurd hx hn⟩⟩)
noncomputable def con_Num : Con E0 := ⟨k_Num, sg_Num, Num_s, rfl, bo_Num, Num_h⟩
def true_s : Spec := fun ds Q => Q [.bool true]
end Go.Proofs.YtelfhmeobfimiaaDoor
end

section
namespace Go.Proofs.YtelfhmeobfimiaaDoor
open Go.RowKit
set_option linter.unusedVariables false
set_option linter.unusedSimpArgs false

theorem sel9i {i : Nat} (hi : i < 9) (x : Dat) : ([Dat.int .i64 4, .int .i64 5, .int .i64 6, .int .i64 7, .int .i64 8, .int .i64 9, .int .i64 10, .int .i64 11, .int .i64 12].getD i x).toInt = ((4 + i : Nat) : Int) := by
  match i, hi with
  | 0, _ | 1, _ | 2, _ | 3, _ | 4, _ | 5, _ | 6, _ | 7, _ | 8, _ => rfl
theorem selV18 (o : List Dat) {f : Nat} (hf : f < 18) (x : Dat) : ([o.getD 0 (.bool false), o.getD 1 (.bool false), o.getD 2 (.bool false), o.getD 3 (.bool false), o.getD 4 (.bool false), o.getD 5 (.bool false), o.getD 6 (.bool false), o.getD 7 (.bool false), o.getD 8 (.bool false), o.getD 9 (.bool false), o.getD 10 (.bool false), o.getD 11 (.bool false), o.getD 12 (.bool false), o.getD 13 (.bool false), o.getD 14 (.bool false), o.getD 15 (.bool false), o.getD 16 (.bool false), o.getD 17 (.bool false)].getD f x).toInt = rowI o f := by
  match f, hf with
  | 0, _ | 1, _ | 2, _ | 3, _ | 4, _ | 5, _ | 6, _ | 7, _ | 8, _ | 9, _ | 10, _ | 11, _ | 12, _ | 13, _ | 14, _ | 15, _ | 16, _ | 17, _ => simp only [List.getD_cons_zero, List.getD_cons_succ, argI_fold]; rfl
  | n + 18, h => exact absurd h (by omega)
theorem formedP_iff (o : List Dat) : formedP o ↔ (rowI o 3 ≠ 8 → ∀ i, i < 9 → rowI o (4 + i) = 0) ∧ (rowI o 3 < 8 → rowI o 2 = rowI o 1) ∧ (rowI o 3 = 9 ∨ rowI o 16 = 0) := by
  refine and_congr (imp_congr_right fun _ => ?_) Iff.rfl
  constructor
  · rintro ⟨h4, h5, h6, h7, h8, h9, h10, h11, h12⟩ i hi
    match i, hi with
    | 0, _ => exact h4
    | 1, _ => exact h5
    | 2, _ => exact h6
    | 3, _ => exact h7
    | 4, _ => exact h8
    | 5, _ => exact h9
    | 6, _ => exact h10
    | 7, _ => exact h11
    | 8, _ => exact h12
  · intro h
    exact ⟨h 0 (by omega), h 1 (by omega), h 2 (by omega), h 3 (by omega), h 4 (by omega), h 5 (by omega), h 6 (by omega), h 7 (by omega), h 8 (by omega)⟩
def k_formed : Nat := 95
def sg_formed : Sig := ⟨[(true, List.replicate 18 (.int .i64))], [(false, [.bool])], false, false, false, false, false⟩
def tr_formed : Tree := (.ite (.cmp .ne (.var 3) (.int .i64 8))
 (.loop [(.int .i64 0), (.int .i64 0)] [(.int .i64), (.int .i64)]
  (.ite (.cmp .lt (.var 19) (.int .i64 9))
   (.ob (.cmp .ge (.var 19) (.int .i64 0))
   (.ob (.cmp .ge (.sel (.econs (.int .i64 4) (.econs (.int .i64 5) (.econs (.int .i64 6) (.econs (.int .i64 7) (.econs (.int .i64 8) (.econs (.int .i64 9) (.econs (.int .i64 10) (.econs (.int .i64 11) (.econs (.int .i64 12) .enil))))))))) (.var 19) (.int .i64)) (.int .i64 0))
   (.ob (.cmp .lt (.sel (.econs (.int .i64 4) (.econs (.int .i64 5) (.econs (.int .i64 6) (.econs (.int .i64 7) (.econs (.int .i64 8) (.econs (.int .i64 9) (.econs (.int .i64 10) (.econs (.int .i64 11) (.econs (.int .i64 12) .enil))))))))) (.var 19) (.int .i64)) (.int .i64 18))
   (.ite (.cmp .ne (.sel (.econs (.var 0) (.econs (.var 1) (.econs (.var 2) (.econs (.var 3) (.econs (.var 4) (.econs (.var 5) (.econs (.var 6) (.econs (.var 7) (.econs (.var 8) (.econs (.var 9) (.econs (.var 10) (.econs (.var 11) (.econs (.var 12) (.econs (.var 13) (.econs (.var 14) (.econs (.var 15) (.econs (.var 16) (.econs (.var 17) .enil)))))))))))))))))) (.sel (.econs (.int .i64 4) (.econs (.int .i64 5) (.econs (.int .i64 6) (.econs (.int .i64 7) (.econs (.int .i64 8) (.econs (.int .i64 9) (.econs (.int .i64 10) (.econs (.int .i64 11) (.econs (.int .i64 12) .enil))))))))) (.var 19) (.int .i64)) (.int .i64)) (.int .i64 0))
    (.ite (.cmp .ge (.var 19) (.int .i64 0))
     (.ret [(.bool false)])
     (.ite (.cmp .lt (.var 3) (.int .i64 8))
      (.ite (.cmp .ne (.var 2) (.var 1))
       (.ret [(.bool false)])
       (.ret [(.cmp .eq (.var 16) (.int .i64 0))]))
      (.ite (.cmp .eq (.var 3) (.int .i64 9))
       (.ret [(.bool true)])
       (.ret [(.cmp .eq (.var 16) (.int .i64 0))]))))
    (.again 0 [(.var 18), (.ar .add .i64 (.var 19) (.int .i64 1))])))))
   (.ite (.cmp .lt (.var 3) (.int .i64 8))
    (.ite (.cmp .ne (.var 2) (.var 1))
     (.ret [(.bool false)])
     (.ret [(.cmp .eq (.var 16) (.int .i64 0))]))
    (.ite (.cmp .eq (.var 3) (.int .i64 9))
     (.ret [(.bool true)])
     (.ret [(.cmp .eq (.var 16) (.int .i64 0))])))))
 (.ret [(.cmp .eq (.var 16) (.int .i64 0))]))
theorem wk_formed : walk E0.cx (sgsN []) 0 95 sg_formed = tr_formed := by kernel_rfl
theorem bo_formed : ∃ x, bodyOf E0.P 95 = some x := bo_of (by kernel_rfl)
def formed_s : Spec := iff_o formedP
theorem formed_h : Holds E0 k_formed sg_formed formed_s := con_by wf0 mix0 g0 [] rfl wk_formed rfl (by
  intro ds Q hs h
  have hl : ds.length = 18 := hs.length.symm
  simp only [tr_formed, wp, den_int, den_bool, den_nili, den_ar, den_cmp, den_not, den_len, den_elem, den_isnil, den_errI, den_ifc, den_rep, den_push, den_app, den_emp, den_upd, row0_econs, row0_enil, den_and, den_beq, den_nil, toInt_int, toBool_bool, xs_rows, xs_list, dflt_int, dflt_bool, of_eq, of_ne, of_lt, of_le, of_gt, of_ge, of_add, of_sub, of_rem, List.map_cons, List.map_nil, Dat.bool.injEq, decide_eq_true_eq, decide_eq_false_iff_not, Bool.not_eq_true', Bool.not_eq_false', beq_iff_eq, bne_iff_ne, beq_eq_false_iff_ne, bne_eq_false_iff_eq, ne_eq, List.append_assoc, List.cons_append, List.nil_append, allS, @den_var0 E0.Δ ds, den_varA, den_varB, hl, Nat.reduceLT, Nat.reduceLeDiff, Nat.reduceSub, List.getD_cons_zero, List.getD_cons_succ, argL_fold ds, argI_fold ds, List.append_assoc, List.cons_append, List.nil_append, toInt_int, toBool_bool, xs_rows, xs_list, Int.toNat_natCast, Dat.bool.injEq, argI_rowI]
  have rest : (rowI ds 3 ≠ 8 → ∀ i, i < 9 → rowI ds (4 + i) = 0) → (rowI ds 3 < 8 → (¬rowI ds 2 = rowI ds 1 → Q [.bool false]) ∧ (rowI ds 2 = rowI ds 1 → (rowI ds 3 = 9 → Q [.bool true]) ∧ (¬rowI ds 3 = 9 → Q [.bool (rowI ds 16 == 0)]))) ∧ (¬rowI ds 3 < 8 → (rowI ds 3 = 9 → Q [.bool true]) ∧ (¬rowI ds 3 = 9 → Q [.bool (rowI ds 16 == 0)])) := fun hr =>
    ⟨fun h1 => ⟨fun h2 => h _ (by rw [formedP_iff]; simp only [Bool.false_eq_true, false_iff]; exact fun hP => h2 (hP.2.1 h1)), fun h2 => ⟨fun h3 => h _ (by rw [formedP_iff]; simp only [true_iff]; exact ⟨hr, fun _ => h2, .inl h3⟩), fun h3 => h _ (by rw [formedP_iff, beq_iff_eq]; exact ⟨fun h4 => ⟨hr, fun _ => h2, .inr h4⟩, fun hP => hP.2.2.resolve_left h3⟩)⟩⟩,
      fun h1 => ⟨fun h3 => h _ (by rw [formedP_iff]; simp only [true_iff]; exact ⟨hr, fun h4 => absurd h4 h1, .inl h3⟩), fun h3 => h _ (by rw [formedP_iff, beq_iff_eq]; exact ⟨fun h4 => ⟨hr, fun h4 => absurd h4 h1, .inr h4⟩, fun hP => hP.2.2.resolve_left h3⟩)⟩⟩
  refine ⟨fun h8 => ?_, fun h8 => ((rest fun hx => absurd hx (by omega)).2 (by omega)).2 (by omega)⟩
  refine ⟨fun xs m => ∃ (n : Int) (i : Nat), xs = [.int .i64 n, .int .i64 i] ∧ i ≤ 9 ∧ (∀ k, k < i → rowI ds (4 + k) = 0) ∧ m = 9 - i, ⟨_, 0, 0, rfl, by omega, by intro k hk; omega, rfl⟩, ?_⟩
  intro n i' m ⟨_, i, e, hi, hall, hm⟩
  cases e
  refine ⟨fun hlt => ⟨by omega, ?_⟩, fun hge => have r := rest (fun _ k hk => hall k (by omega)); ⟨fun a => ⟨(r.1 a).1, fun b => ((r.1 a).2 b).2 (by omega)⟩, r.2⟩⟩
  have hi9 : i < 9 := by omega
  simp only [den_sel, row0_econs, row0_enil, den_elem, den_len, @den_var0 E0.Δ ds, den_varA, den_varB, hl, Nat.reduceLT, Nat.reduceLeDiff, Nat.reduceSub, List.getD_cons_zero, List.getD_cons_succ, argL_fold ds, argI_fold ds, List.append_assoc, List.cons_append, List.nil_append, toInt_int, toBool_bool, xs_rows, xs_list, Int.toNat_natCast, Dat.bool.injEq, den_int, sel9i hi9, selV18 ds (show 4 + i < 18 by omega)]
  refine ⟨by omega, by omega, fun hne => ⟨fun _ => h _ ?_, fun hx => absurd (show (0 : Int) ≤ (i : Int) by omega) hx⟩, fun he => ⟨9 - (i + 1), by omega, n, i + 1, ?_, by omega, fun k hk => ?_, rfl⟩⟩
  · rw [formedP_iff]; simp only [Bool.false_eq_true, false_iff]
    exact fun hP => hne (hP.1 h8 i hi9)
  · rw [wrap64 (by omega) (by omega)]; rfl
  · by_cases hki : k = i
    · subst hki; exact he
    · exact hall k (by omega))
noncomputable def con_formed : Con E0 := ⟨k_formed, sg_formed, formed_s, rfl, bo_formed, formed_h⟩

def k_Check : Nat := 54
def sg_Check : Sig := ⟨[(true, [.list 36] ++ List.replicate 11 (.list 3) ++ List.replicate 25 (.int .i64))], [(false, [.err])], false, false, false, false, false⟩
def tr_Check : Tree := (.ite (.cmp .gt (.len (.var 0)) (.int .i64 400))
 (.ret [(.ifc (.int .i64 5))])
 (.call k_ranges [(.var 0), (.var 1), (.var 2), (.var 3), (.var 4), (.var 5), (.var 6), (.var 7), (.var 8), (.var 9), (.var 10), (.var 11), (.var 12), (.var 13), (.var 14), (.var 15), (.var 16), (.var 17), (.var 18), (.var 19), (.var 20), (.var 21), (.var 22), (.var 23), (.var 24), (.var 25), (.var 26), (.var 27), (.var 28), (.var 29), (.var 30), (.var 31), (.var 32), (.var 33), (.var 34), (.var 35), (.var 36)] [.bool]
 (.ite (.not (.var 37))
  (.ret [(.ifc (.int .i64 1))])
  (.call k_zones [(.var 0), (.var 1), (.var 2), (.var 3), (.var 4), (.var 5), (.var 6), (.var 7), (.var 8), (.var 9), (.var 10), (.var 11), (.var 12), (.var 13), (.var 14), (.var 15), (.var 16), (.var 17), (.var 18), (.var 19), (.var 20), (.var 21), (.var 22), (.var 23), (.var 24), (.var 25), (.var 26), (.var 27), (.var 28), (.var 29), (.var 30), (.var 31), (.var 32), (.var 33), (.var 34), (.var 35), (.var 36)] [.bool]
  (.ite (.not (.var 38))
   (.ret [(.ifc (.int .i64 12))])
   (.loop [(.int .i64 0), (.int .i64 0)] [(.int .i64), (.int .i64)]
    (.ite (.cmp .lt (.var 40) (.len (.var 0)))
     (.ob (.cmp .ge (.var 40) (.int .i64 0))
     (.call k_formed [(.elem (.var 0) (.var 40) 0 (.int .i64)), (.elem (.var 0) (.var 40) 1 (.int .i64)), (.elem (.var 0) (.var 40) 2 (.int .i64)), (.elem (.var 0) (.var 40) 3 (.int .i64)), (.elem (.var 0) (.var 40) 4 (.int .i64)), (.elem (.var 0) (.var 40) 5 (.int .i64)), (.elem (.var 0) (.var 40) 6 (.int .i64)), (.elem (.var 0) (.var 40) 7 (.int .i64)), (.elem (.var 0) (.var 40) 8 (.int .i64)), (.elem (.var 0) (.var 40) 9 (.int .i64)), (.elem (.var 0) (.var 40) 10 (.int .i64)), (.elem (.var 0) (.var 40) 11 (.int .i64)), (.elem (.var 0) (.var 40) 12 (.int .i64)), (.elem (.var 0) (.var 40) 13 (.int .i64)), (.elem (.var 0) (.var 40) 14 (.int .i64)), (.elem (.var 0) (.var 40) 15 (.int .i64)), (.elem (.var 0) (.var 40) 16 (.int .i64)), (.elem (.var 0) (.var 40) 17 (.int .i64))] [.bool]
     (.ite (.not (.var 41))
      (.ite (.cmp .ge (.var 40) (.int .i64 0))
       (.ret [(.ifc (.int .i64 2))])
       (.ret [.nili]))
      (.again 0 [(.var 39), (.ar .add .i64 (.var 40) (.int .i64 1))]))))
     (.ret [.nili]))))))))
theorem wk_Check : walk E0.cx (sgsN [(91, sg_ranges), (92, sg_zones), (95, sg_formed)]) 0 54 sg_Check = tr_Check := by kernel_rfl
theorem bo_Check : ∃ x, bodyOf E0.P 54 = some x := bo_of (by kernel_rfl)
theorem sp_Check_ranges : specC [con_ranges, con_zones, con_formed] k_ranges = ranges_s := rfl
theorem sp_Check_zones : specC [con_ranges, con_zones, con_formed] k_zones = zones_s := rfl
theorem sp_Check_formed : specC [con_ranges, con_zones, con_formed] k_formed = formed_s := rfl
def Check_s : Spec := fun ds Q => Sm ds ∧ ∀ n : Int, errP ds n → Q [errV n]
theorem Check_h : Holds E0 k_Check sg_Check Check_s := con_by wf0 mix0 g0 [con_ranges, con_zones, con_formed] rfl wk_Check rfl (by
  intro ds Q hs ⟨hsm, h⟩
  have hl : ds.length = 37 := hs.length.symm
  have hn := hsm 0 (by omega)
  have h5 := h 5
  have h1 := h 1
  have h12 := h 12
  have h2 := h 2
  have h0 := h 0
  simp only [errV, if_pos, Int.reduceEq, if_false] at h5 h1 h12 h2 h0
  simp only [tr_Check, wp, den_int, den_bool, den_nili, den_ar, den_cmp, den_not, den_len, den_elem, den_isnil, den_errI, den_ifc, den_rep, den_push, den_app, den_emp, den_upd, row0_econs, row0_enil, den_and, den_beq, den_nil, toInt_int, toBool_bool, xs_rows, xs_list, dflt_int, dflt_bool, of_eq, of_ne, of_lt, of_le, of_gt, of_ge, of_add, of_sub, of_rem, List.map_cons, List.map_nil, Dat.bool.injEq, decide_eq_true_eq, decide_eq_false_iff_not, Bool.not_eq_true', Bool.not_eq_false', beq_iff_eq, bne_iff_ne, beq_eq_false_iff_ne, bne_eq_false_iff_eq, ne_eq, List.append_assoc, List.cons_append, List.nil_append, allS, sp_Check_ranges, sp_Check_zones, sp_Check_formed, ranges_s, zones_s, formed_s, iff_s, iff_o, @den_var0 E0.Δ ds, den_varA, den_varB, hl, Nat.reduceLT, Nat.reduceLeDiff, Nat.reduceSub, List.getD_cons_zero, List.getD_cons_succ, argL_fold ds, argI_fold ds, List.append_assoc, List.cons_append, List.nil_append, toInt_int, toBool_bool, xs_rows, xs_list, Int.toNat_natCast, Dat.bool.injEq, fold37 hl, formed_row]
  refine ⟨fun hf => h5 (by unfold errP; rw [if_pos (by omega)]), fun hf => ⟨hsm, fun b hb => ⟨fun e => h1 ?_, fun e => ⟨hsm, fun b' hb' => ⟨fun e' => h12 ?_, fun e' => ?_⟩⟩⟩⟩⟩
  · subst e
    unfold errP; rw [if_neg (by omega)]
    exact .inl ⟨fun hP => Bool.noConfusion (hb.2 hP), rfl⟩
  · subst e e'
    unfold errP; rw [if_neg (by omega)]
    exact .inr (.inl ⟨hb.1 rfl, fun hP => Bool.noConfusion (hb'.2 hP), rfl⟩)
  · subst e e'
    have hR := hb.1 rfl
    have hZ := hb'.1 rfl
    clear hb hb'
    refine ⟨fun xs m => ∃ (n : Int) (i : Nat), xs = [.int .i64 n, .int .i64 i] ∧ i ≤ (argL ds 0).length ∧ (∀ o ∈ (argL ds 0).take i, formedP o) ∧ m = (argL ds 0).length - i, ⟨_, 0, 0, rfl, by omega, by simp, rfl⟩, ?_⟩
    intro n i' m ⟨_, i, e, hi, hall, hm⟩
    cases e
    refine ⟨fun hlt => ⟨by omega, ?_⟩, fun hge => ?_⟩
    · have hi2 : i < (argL ds 0).length := by omega
      simp only [Int.toNat_natCast, getD_lt hi2]
      intro b hb
      refine ⟨fun e => ⟨fun _ => h2 ?_, fun hx => absurd (show (0 : Int) ≤ (i : Int) by omega) hx⟩, fun e => ?_⟩
      · subst e
        unfold errP; rw [if_neg (by omega)]
        exact .inr (.inr (.inl ⟨hR, hZ, fun hP => Bool.noConfusion (hb.2 (hP _ (List.getElem_mem hi2))), rfl⟩))
      · subst e
        refine ⟨(argL ds 0).length - (i + 1), by omega, n, i + 1, ?_, by omega, all_take hall hi2 (hb.1 rfl), rfl⟩
        rw [wrap64 (by omega) (by omega)]; rfl
    · refine h0 ?_
      unfold errP; rw [if_neg (by omega)]
      refine .inr (.inr (.inr ⟨hR, hZ, ?_, rfl⟩))
      rw [List.take_of_length_le (by omega)] at hall; exact hall)
noncomputable def con_Check : Con E0 := ⟨k_Check, sg_Check, Check_s, rfl, bo_Check, Check_h⟩

end Go.Proofs.YtelfhmeobfimiaaDoor
end

section
namespace Go.Proofs.YtelfhmeobfimiaaDoor
open Go.RowKit
set_option linter.unusedVariables false
set_option linter.unusedSimpArgs false

def LongP (m : Int) (ds : List Dat) : Prop := m < (argL ds 0).length ∨ ∃ z, z < 11 ∧ m + 10 < (argL ds (z + 1)).length
theorem sm_of_long {m : Int} {ds : List Dat} (h : ¬ LongP m ds) (hm : m ≤ 1000) : Sm ds := fun i hi => by
  simp only [LongP, not_or, not_exists, not_and] at h
  match i with
  | 0 => have := h.1; omega
  | i + 1 => have := h.2 i (by omega); omega
theorem den_listsG {Δ : Tab} {ds e : List Dat} (hl : 12 ≤ ds.length) {i : Tm} {z : Nat} (hi : (den Δ (ds ++ e) i).toInt = z) (hz : z < 11) {s : Srt} :
    den Δ (ds ++ e) (.sel (.econs (.var 1) (.econs (.var 2) (.econs (.var 3) (.econs (.var 4) (.econs (.var 5) (.econs (.var 6) (.econs (.var 7) (.econs (.var 8) (.econs (.var 9) (.econs (.var 10) (.econs (.var 11) .enil))))))))))) i s) = ds.getD (z + 1) (.bool false) := by
  simp only [den_sel, row0_econs, row0_enil, hi, Int.toNat_natCast]
  rw [den_varA (by omega), den_varA (by omega), den_varA (by omega), den_varA (by omega), den_varA (by omega), den_varA (by omega), den_varA (by omega), den_varA (by omega), den_varA (by omega), den_varA (by omega), den_varA (by omega)]
  match z, hz with
  | 0, _ | 1, _ | 2, _ | 3, _ | 4, _ | 5, _ | 6, _ | 7, _ | 8, _ | 9, _ | 10, _ => rfl
def k_Long : Nat := 16
def sg_Long : Sig := ⟨[(true, [.list 36] ++ List.replicate 11 (.list 3) ++ List.replicate 25 (.int .i64)), (false, [.int .i64])], [(false, [.bool])], false, false, false, false, false⟩
def tr_Long : Tree := (.ite (.cmp .gt (.len (.var 0)) (.var 37))
 (.ret [(.bool true)])
 (.loop [(.bool false), (.int .i64 0)] [.bool, (.int .i64)]
  (.ite (.cmp .lt (.var 39) (.int .i64 11))
   (.ob (.cmp .ge (.var 39) (.int .i64 0))
   (.ite (.cmp .gt (.len (.sel (.econs (.var 1) (.econs (.var 2) (.econs (.var 3) (.econs (.var 4) (.econs (.var 5) (.econs (.var 6) (.econs (.var 7) (.econs (.var 8) (.econs (.var 9) (.econs (.var 10) (.econs (.var 11) .enil))))))))))) (.var 39) (.list 3))) (.ar .add .i64 (.var 37) (.int .i64 10)))
    (.ret [(.bool true)])
    (.again 0 [(.var 38), (.ar .add .i64 (.var 39) (.int .i64 1))])))
   (.ret [(.bool false)]))))
theorem wk_Long : walk E0.cx (sgsN []) 0 16 sg_Long = tr_Long := by kernel_rfl
theorem bo_Long : ∃ x, bodyOf E0.P 16 = some x := bo_of (by kernel_rfl)
def Long_s : Spec := fun ds Q => 0 ≤ argI ds 37 ∧ argI ds 37 ≤ 1000 ∧ ∀ b : Bool, (b = true ↔ LongP (argI ds 37) ds) → Q [.bool b]
theorem Long_h : Holds E0 k_Long sg_Long Long_s := con_by wf0 mix0 g0 [] rfl wk_Long rfl (by
  intro ds Q hs ⟨h0, h1, h⟩
  have hl : ds.length = 38 := hs.length.symm
  simp only [tr_Long, wp, den_int, den_bool, den_nili, den_ar, den_cmp, den_not, den_len, den_elem, den_isnil, den_errI, den_ifc, den_rep, den_push, den_app, den_emp, den_upd, row0_econs, row0_enil, den_and, den_beq, den_nil, toInt_int, toBool_bool, xs_rows, xs_list, dflt_int, dflt_bool, of_eq, of_ne, of_lt, of_le, of_gt, of_ge, of_add, of_sub, of_rem, List.map_cons, List.map_nil, Dat.bool.injEq, decide_eq_true_eq, decide_eq_false_iff_not, Bool.not_eq_true', Bool.not_eq_false', beq_iff_eq, bne_iff_ne, beq_eq_false_iff_ne, bne_eq_false_iff_eq, ne_eq, List.append_assoc, List.cons_append, List.nil_append, allS, @den_var0 E0.Δ ds, den_varA, den_varB, hl, Nat.reduceLT, Nat.reduceLeDiff, Nat.reduceSub, List.getD_cons_zero, List.getD_cons_succ, argL_fold ds, argI_fold ds, List.append_assoc, List.cons_append, List.nil_append, toInt_int, toBool_bool, xs_rows, xs_list, Int.toNat_natCast, Dat.bool.injEq]
  rw [wrap64 (by omega) (by omega)]
  refine ⟨fun h2 => h _ (by simp only [true_iff]; exact .inl h2), fun h2 => ?_⟩
  refine ⟨fun xs m => ∃ (b : Bool) (z : Nat), xs = [.bool b, .int .i64 z] ∧ z ≤ 11 ∧ (∀ y, y < z → ¬ argI ds 37 + 10 < (argL ds (y + 1)).length) ∧ m = 11 - z, ⟨_, false, 0, rfl, by omega, by intro y hy; omega, rfl⟩, ?_⟩
  intro b z' m ⟨_, z, e, hz, hall, hm⟩
  cases e
  refine ⟨fun hlt => ⟨by omega, ?_⟩, fun hge => h _ ?_⟩
  · have hz11 : z < 11 := by omega
    have hd : ∀ s, den E0.Δ (ds ++ [.bool b, .int .i64 z]) (.sel (.econs (.var 1) (.econs (.var 2) (.econs (.var 3) (.econs (.var 4) (.econs (.var 5) (.econs (.var 6) (.econs (.var 7) (.econs (.var 8) (.econs (.var 9) (.econs (.var 10) (.econs (.var 11) .enil))))))))))) (.var 39) s) = ds.getD (z + 1) (.bool false) := fun s => den_listsG (by omega) (by simp only [@den_var0 E0.Δ ds, den_varA, den_varB, hl, Nat.reduceLT, Nat.reduceLeDiff, Nat.reduceSub, List.getD_cons_zero, List.getD_cons_succ, argL_fold ds, argI_fold ds, List.append_assoc, List.cons_append, List.nil_append, toInt_int, toBool_bool, xs_rows, xs_list, Int.toNat_natCast, Dat.bool.injEq]) hz11
    simp only [hd, @den_var0 E0.Δ ds, den_varA, den_varB, hl, Nat.reduceLT, Nat.reduceLeDiff, Nat.reduceSub, List.getD_cons_zero, List.getD_cons_succ, argL_fold ds, argI_fold ds, List.append_assoc, List.cons_append, List.nil_append, toInt_int, toBool_bool, xs_rows, xs_list, Int.toNat_natCast, Dat.bool.injEq]
    refine ⟨fun h3 => h _ ?_, fun h3 => ⟨11 - (z + 1), by omega, b, z + 1, ?_, by omega, fun y hy => ?_, rfl⟩⟩
    · simp only [true_iff]; exact .inr ⟨z, hz11, h3⟩
    · rw [wrap64 (by omega) (by omega)]; rfl
    · by_cases hyz : y = z
      · subst hyz; exact h3
      · exact hall y (by omega)
  · simp only [Bool.false_eq_true, false_iff, LongP, not_or, not_exists, not_and]
    exact ⟨h2, fun y hy => hall y (by omega)⟩)
noncomputable def con_Long : Con E0 := ⟨k_Long, sg_Long, Long_s, rfl, bo_Long, Long_h⟩

theorem All2.getS {α β : Type} {R : α → β → Prop} : ∀ {l : List α} {m : List β}, All2 R l m → ∀ {i : Nat} {s : α}, l[i]? = some s → ∃ d, m[i]? = some d ∧ R s d
  | _, _, .cons h t, 0, s, e => by cases e; exact ⟨_, rfl, h⟩
  | _, _, .cons h t, i + 1, s, e => t.getS (i := i) (by simpa using e)
theorem int_el {Δ : Tab} {ss : List Srt} {ds : List Dat} (hs : All2 (Has Δ) ss ds) {i r c j : Nat} {k : IntKind} (hi : ss[i]? = some (.list r)) (hc : (Δ.row r)[c]? = some (.int k)) (hj : j < (argL ds i).length) (d : Dat) :
    ((argL ds i).getD j []).getD c d = .int k (rowI ((argL ds i).getD j []) c) := by
  obtain ⟨x, hx, hh⟩ := hs.getS hi
  have e : argL ds i = x.xs := by rw [argL, List.getD_eq_getElem?_getD, hx]; rfl
  rw [e] at hj ⊢
  cases hh with
  | list r A n cc xs hl h =>
    rw [xs_list] at hj ⊢
    rw [getD_lt hj]
    have hm : xs[j] ∈ xs := List.getElem_mem hj
    obtain ⟨hlt, hce⟩ := List.getElem?_eq_some_iff.1 hc
    have hcl : c < xs[j].length := by rw [hl _ hm]; exact hlt
    have := h _ hm c _ xs[j][c] hc (by simp [hcl])
    have e1 : ∀ d, xs[j].getD c d = xs[j][c] := fun d => by simp [List.getD_eq_getElem?_getD, hcl]
    rw [rowI, e1, e1]
    exact has_int this
end Go.Proofs.YtelfhmeobfimiaaDoor
end

section
namespace Go.Proofs.YtelfhmeobfimiaaDoor
open Go.RowKit
set_option linter.unusedVariables false

/-- data without the places where they stand -/
inductive PD where
  | int (n : Int)
  | bool (b : Bool)
  | nil
  | err (n : Int)
  | str (l : List Nat)
  | list (sz : Nat) (xs : List (List PD))
  | rows (xs : List (List PD))
  | odd
mutual
def PD.same : PD → PD → Bool
  | .int a, .int b => decide (a = b)
  | .bool a, .bool b => decide (a = b)
  | .nil, .nil => true
  | .err a, .err b => decide (a = b)
  | .str a, .str b => decide (a = b)
  | .list s a, .list t b => decide (s = t) && sameRs a b
  | .rows a, .rows b => sameRs a b
  | .odd, .odd => true
  | _, _ => false
def sameRs : List (List PD) → List (List PD) → Bool
  | [], [] => true
  | a :: l, b :: m => sameR a b && sameRs l m
  | _, _ => false
def sameR : List PD → List PD → Bool
  | [], [] => true
  | a :: l, b :: m => PD.same a b && sameR l m
  | _, _ => false
end
mutual
theorem PD.same_ok : ∀ {a b : PD}, PD.same a b = true → a = b
  | .int a, b, h => by
    cases b <;> first | (simp [PD.same] at h; done) | (simp [PD.same] at h; rw [h])
  | .bool a, b, h => by
    cases b <;> first | (simp [PD.same] at h; done) | (simp [PD.same] at h; rw [h])
  | .nil, b, h => by
    cases b <;> first | (simp [PD.same] at h; done) | rfl
  | .err a, b, h => by
    cases b <;> first | (simp [PD.same] at h; done) | (simp [PD.same] at h; rw [h])
  | .str a, b, h => by
    cases b <;> first | (simp [PD.same] at h; done) | (simp [PD.same] at h; rw [h])
  | .odd, b, h => by
    cases b <;> first | (simp [PD.same] at h; done) | rfl
  | .list s a, .list t b, h => by
    simp only [PD.same, Bool.and_eq_true, decide_eq_true_eq] at h
    rw [h.1, sameRs_ok h.2]
  | .rows a, .rows b, h => by
    simp only [PD.same] at h
    rw [sameRs_ok h]
  | .list s a, .int _, h | .list s a, .bool _, h | .list s a, .nil, h | .list s a, .err _, h | .list s a, .str _, h | .list s a, .rows _, h | .list s a, .odd, h => by simp [PD.same] at h
  | .rows a, .int _, h | .rows a, .bool _, h | .rows a, .nil, h | .rows a, .err _, h | .rows a, .str _, h | .rows a, .list _ _, h | .rows a, .odd, h => by simp [PD.same] at h
theorem sameRs_ok : ∀ {a b : List (List PD)}, sameRs a b = true → a = b
  | [], [], _ => rfl
  | a :: l, b :: m, h => by
    simp only [sameRs, Bool.and_eq_true] at h
    rw [sameR_ok h.1, sameRs_ok h.2]
  | [], _ :: _, h => by simp [sameRs] at h
  | _ :: _, [], h => by simp [sameRs] at h
theorem sameR_ok : ∀ {a b : List PD}, sameR a b = true → a = b
  | [], [], _ => rfl
  | a :: l, b :: m, h => by
    simp only [sameR, Bool.and_eq_true] at h
    rw [PD.same_ok h.1, sameR_ok h.2]
  | [], _ :: _, h => by simp [sameR] at h
  | _ :: _, [], h => by simp [sameR] at h
end
def stripV : Value → PD
  | .nilIface => .nil
  | .iface _ (.int _ n) => .err n
  | .string s => .str (s.data.toList.map UInt8.toNat)
  | _ => .odd
mutual
def strip : Dat → PD
  | .int _ n => .int n
  | .bool b => .bool b
  | .val v => stripV v
  | .list _ sz xs => .list sz (stripRs xs)
  | .rows xs => .rows (stripRs xs)
def stripRs : List (List Dat) → List (List PD)
  | [] => []
  | r :: l => stripR r :: stripRs l
def stripR : List Dat → List PD
  | [] => []
  | d :: l => strip d :: stripR l
end
theorem stripR_map : ∀ l : List Dat, stripR l = l.map strip
  | [] => by rw [stripR]; rfl
  | d :: l => by rw [stripR, stripR_map l]; rfl
theorem stripRs_map : ∀ l : List (List Dat), stripRs l = l.map fun r => r.map strip
  | [] => by rw [stripRs]; rfl
  | d :: l => by rw [stripRs, stripRs_map l, stripR_map]; rfl
theorem strip_int (k : IntKind) (n : Int) : strip (.int k n) = .int n := by rw [strip]
theorem strip_bool (b : Bool) : strip (.bool b) = .bool b := by rw [strip]
theorem strip_val (v : Value) : strip (.val v) = stripV v := by rw [strip]
theorem strip_list (v : Value) (sz : Nat) (xs : List (List Dat)) : strip (.list v sz xs) = .list sz (xs.map fun r => r.map strip) := by rw [strip, stripRs_map]
theorem strip_rows (xs : List (List Dat)) : strip (.rows xs) = .rows (xs.map fun r => r.map strip) := by rw [strip, stripRs_map]
theorem stripV_ne (v : Value) : (∀ n, stripV v ≠ .int n) ∧ (∀ b, stripV v ≠ .bool b) ∧ (∀ s l, stripV v ≠ .list s l) ∧ (∀ l, stripV v ≠ .rows l) := by
  unfold stripV
  split <;> exact ⟨by simp, by simp, by simp, by simp⟩
theorem strip_isInt {d : Dat} {n : Int} (h : strip d = .int n) : d.toInt = n := by
  cases d with
  | int k m => rw [strip_int] at h; cases h; rfl
  | bool b => rw [strip_bool] at h; cases h
  | val v => rw [strip_val] at h; exact absurd h ((stripV_ne v).1 n)
  | list v sz xs => rw [strip_list] at h; cases h
  | rows xs => rw [strip_rows] at h; cases h
theorem strip_isBool {d : Dat} {b : Bool} (h : strip d = .bool b) : d = .bool b := by
  cases d with
  | int k m => rw [strip_int] at h; cases h
  | bool b => rw [strip_bool] at h; cases h; rfl
  | val v => rw [strip_val] at h; exact absurd h ((stripV_ne v).2.1 b)
  | list v sz xs => rw [strip_list] at h; cases h
  | rows xs => rw [strip_rows] at h; cases h
theorem strip_isList {d : Dat} {s : Nat} {l : List (List PD)} (h : strip d = .list s l) : ∃ v xs, d = .list v s xs ∧ l = xs.map fun r => r.map strip := by
  cases d with
  | int k m => rw [strip_int] at h; cases h
  | bool b => rw [strip_bool] at h; cases h
  | val v => rw [strip_val] at h; exact absurd h ((stripV_ne v).2.2.1 s l)
  | list v sz xs => rw [strip_list] at h; cases h; exact ⟨v, xs, rfl, rfl⟩
  | rows xs => rw [strip_rows] at h; cases h
theorem strip_isRows {d : Dat} {l : List (List PD)} (h : strip d = .rows l) : ∃ xs, d = .rows xs ∧ l = xs.map fun r => r.map strip := by
  cases d with
  | int k m => rw [strip_int] at h; cases h
  | bool b => rw [strip_bool] at h; cases h
  | val v => rw [strip_val] at h; exact absurd h ((stripV_ne v).2.2.2 l)
  | list v sz xs => rw [strip_list] at h; cases h
  | rows xs => rw [strip_rows] at h; cases h; exact ⟨xs, rfl, rfl⟩

/-! What a term stands for, without places. -/
def PD.xs? : PD → Option (List (List PD))
  | .list _ l => some l
  | .rows l => some l
  | _ => none
def PD.int? : PD → Option Int
  | .int n => some n
  | _ => none
def PD.bool? : PD → Option Bool
  | .bool b => some b
  | _ => none
def PD.row? : PD → Option (List PD)
  | .rows (r :: _) => some r
  | _ => none
def sev (Δ : Tab) (env : List PD) : Tm → Option PD
  | .var i => env[i]?
  | .int _ n => some (.int n)
  | .bool b => some (.bool b)
  | .nili => some .nil
  | .ifc a => ((sev Δ env a).bind PD.int?).map .err
  | .str l => some (.str (l.map (· % 256)))
  | .nil r => some (.list (Δ.row r).length [])
  | .ar o k a b => ((sev Δ env a).bind PD.int?).bind fun x => ((sev Δ env b).bind PD.int?).map fun y => .int (o.of k x y)
  | .cmp c a b => ((sev Δ env a).bind PD.int?).bind fun x => ((sev Δ env b).bind PD.int?).map fun y => .bool (c.of x y)
  | .not a => ((sev Δ env a).bind PD.bool?).map fun x => .bool (!x)
  | .beq a b => ((sev Δ env a).bind PD.bool?).bind fun x => ((sev Δ env b).bind PD.bool?).map fun y => .bool (x == y)
  | .and a b => ((sev Δ env a).bind PD.bool?).bind fun x => ((sev Δ env b).bind PD.bool?).map fun y => .bool (x && y)
  | .or a b => ((sev Δ env a).bind PD.bool?).bind fun x => ((sev Δ env b).bind PD.bool?).map fun y => .bool (x || y)
  | .conv k a => ((sev Δ env a).bind PD.int?).map fun x => .int (k.wrap x)
  | .len a => ((sev Δ env a).bind PD.xs?).map fun x => .int x.length
  | .elem s i c _ => ((sev Δ env s).bind PD.xs?).bind fun x => ((sev Δ env i).bind PD.int?).bind fun n => (x[n.toNat]?).bind fun r => r[c]?
  | .sel cs i _ => ((sev Δ env cs).bind PD.row?).bind fun r => ((sev Δ env i).bind PD.int?).bind fun n => r[n.toNat]?
  | .ite c a b => match (sev Δ env c).bind PD.bool? with
    | some true => sev Δ env a
    | some false => sev Δ env b
    | none => none
  | .isnil a => match sev Δ env a with
    | some .nil => some (.bool true)
    | some (.err _) => some (.bool false)
    | _ => none
  | .errI a => match sev Δ env a with
    | some (.err n) => some (.int n)
    | _ => none
  | .cut a l h => match sev Δ env a, (sev Δ env l).bind PD.int?, (sev Δ env h).bind PD.int? with
    | some (.list sz xs), some l, some h => if l.toNat ≤ h.toNat ∧ h.toNat ≤ xs.length ∧ xs.all (fun r => r.length == sz) = true then some (.list sz ((xs.take h.toNat).drop l.toNat)) else none
    | _, _, _ => none
  | .rep n row => ((sev Δ env n).bind PD.int?).bind fun k => ((sev Δ env row).bind PD.row?).map fun r => .rows (List.replicate k.toNat r)
  | .enil => some (.rows [[]])
  | .econs a b => (sev Δ env a).bind fun x => ((sev Δ env b).bind PD.row?).map fun r => .rows [x :: r]
  | .emp => some (.rows [])
  | .push a row => ((sev Δ env a).bind PD.xs?).bind fun x => ((sev Δ env row).bind PD.row?).map fun r => .rows (x ++ [r])
  | .app a b => ((sev Δ env a).bind PD.xs?).bind fun x => ((sev Δ env b).bind PD.xs?).map fun y => .rows (x ++ y)
  | .upd a i c v => ((sev Δ env a).bind PD.xs?).bind fun x => ((sev Δ env i).bind PD.int?).bind fun n => (sev Δ env v).map fun v => .rows (x.set n.toNat ((x.getD n.toNat []).set c v))
  | _ => none
section
variable {Δ : Tab} {ρ : List Dat} {env : List PD}
theorem xs_strip {d : Dat} {p : PD} {l : List (List PD)} (h : strip d = p) (hl : p.xs? = some l) : d.xs.map (fun r => r.map strip) = l := by
  cases p <;> first | (cases hl; done) | skip
  · cases hl
    obtain ⟨v, xs, rfl, e⟩ := strip_isList h
    exact e.symm
  · cases hl
    obtain ⟨xs, rfl, e⟩ := strip_isRows h
    exact e.symm
theorem row_strip {d : Dat} {p : PD} {l : List PD} (h : strip d = p) (hl : p.row? = some l) : d.row0.map strip = l := by
  cases p <;> first | (cases hl; done) | skip
  rename_i ys
  obtain ⟨xs, rfl, e⟩ := strip_isRows h
  cases xs with
  | nil => subst e; cases hl
  | cons r xs =>
    subst e
    cases hl
    rfl
theorem int_strip {d : Dat} {p : PD} {n : Int} (h : strip d = p) (hl : p.int? = some n) : d.toInt = n := by
  cases p <;> first | (cases hl; done) | skip
  cases hl
  exact strip_isInt h
theorem bool_strip {d : Dat} {p : PD} {n : Bool} (h : strip d = p) (hl : p.bool? = some n) : d = .bool n := by
  cases p <;> first | (cases hl; done) | skip
  cases hl
  exact strip_isBool h
theorem getD_strip {α β : Type} {f : α → β} {l : List α} {m : List β} (h : l.map f = m) {i : Nat} {y : β} (hy : m[i]? = some y) (e : α) : f (l.getD i e) = y := by
  subst h
  rw [List.getElem?_map, Option.map_eq_some_iff] at hy
  obtain ⟨x, hx, rfl⟩ := hy
  rw [List.getD_eq_getElem?_getD, hx]; rfl
theorem strB_strip (l : List Nat) : strip (.val (strB l)) = .str (l.map (· % 256)) := by
  rw [strip_val]
  unfold strB stripV
  simp only [List.map_map]
  congr 1
theorem sev_ok (he : ρ.map strip = env) : ∀ {t : Tm} {p : PD}, sev Δ env t = some p → strip (den Δ ρ t) = p
  | .var i, p, h => by
    simp only [sev] at h
    exact getD_strip he h _
  | .int k n, p, h => by simp only [sev, Option.some.injEq] at h; subst h; exact strip_int _ _
  | .bool b, p, h => by simp only [sev, Option.some.injEq] at h; subst h; exact strip_bool _
  | .nili, p, h => by simp only [sev, Option.some.injEq] at h; subst h; rw [den, strip_val]; rfl
  | .ifc a, p, h => by
    simp only [sev, Option.map_eq_some_iff, Option.bind_eq_some_iff] at h
    obtain ⟨n, ⟨q, h1, h2⟩, rfl⟩ := h
    rw [den, int_strip (sev_ok he h1) h2, strip_val]; rfl
  | .str l, p, h => by simp only [sev, Option.some.injEq] at h; subst h; exact strB_strip l
  | .nil r, p, h => by simp only [sev, Option.some.injEq] at h; subst h; rw [den, strip_list]; rfl
  | .ar o k a b, p, h => by
    simp only [sev, Option.map_eq_some_iff, Option.bind_eq_some_iff] at h
    obtain ⟨n, ⟨q, h1, h2⟩, m, ⟨q', h3, h4⟩, rfl⟩ := h
    rw [den, int_strip (sev_ok he h1) h2, int_strip (sev_ok he h3) h4, strip_int]
  | .cmp c a b, p, h => by
    simp only [sev, Option.map_eq_some_iff, Option.bind_eq_some_iff] at h
    obtain ⟨n, ⟨q, h1, h2⟩, m, ⟨q', h3, h4⟩, rfl⟩ := h
    rw [den, int_strip (sev_ok he h1) h2, int_strip (sev_ok he h3) h4, strip_bool]
  | .not a, p, h => by
    simp only [sev, Option.map_eq_some_iff, Option.bind_eq_some_iff] at h
    obtain ⟨n, ⟨q, h1, h2⟩, rfl⟩ := h
    rw [den, bool_strip (sev_ok he h1) h2, strip_bool]; rfl
  | .beq a b, p, h => by
    simp only [sev, Option.map_eq_some_iff, Option.bind_eq_some_iff] at h
    obtain ⟨n, ⟨q, h1, h2⟩, m, ⟨q', h3, h4⟩, rfl⟩ := h
    rw [den, bool_strip (sev_ok he h1) h2, bool_strip (sev_ok he h3) h4, strip_bool]; rfl
  | .and a b, p, h => by
    simp only [sev, Option.map_eq_some_iff, Option.bind_eq_some_iff] at h
    obtain ⟨n, ⟨q, h1, h2⟩, m, ⟨q', h3, h4⟩, rfl⟩ := h
    rw [den, bool_strip (sev_ok he h1) h2, bool_strip (sev_ok he h3) h4, strip_bool]; rfl
  | .or a b, p, h => by
    simp only [sev, Option.map_eq_some_iff, Option.bind_eq_some_iff] at h
    obtain ⟨n, ⟨q, h1, h2⟩, m, ⟨q', h3, h4⟩, rfl⟩ := h
    rw [den, bool_strip (sev_ok he h1) h2, bool_strip (sev_ok he h3) h4, strip_bool]; rfl
  | .conv k a, p, h => by
    simp only [sev, Option.map_eq_some_iff, Option.bind_eq_some_iff] at h
    obtain ⟨n, ⟨q, h1, h2⟩, rfl⟩ := h
    rw [den, int_strip (sev_ok he h1) h2, strip_int]
  | .len a, p, h => by
    simp only [sev, Option.map_eq_some_iff, Option.bind_eq_some_iff] at h
    obtain ⟨n, ⟨q, h1, h2⟩, rfl⟩ := h
    have := xs_strip (sev_ok he h1) h2
    rw [den, strip_int, ← this, List.length_map]
  | .elem s i c t, p, h => by
    simp only [sev, Option.bind_eq_some_iff] at h
    obtain ⟨x, ⟨q, h1, h2⟩, n, ⟨q', h3, h4⟩, r, h5, h6⟩ := h
    rw [den, int_strip (sev_ok he h3) h4]
    have e := getD_strip (f := fun r : List Dat => r.map strip) (xs_strip (sev_ok he h1) h2) h5 []
    exact getD_strip e h6 _
  | .sel cs i t, p, h => by
    simp only [sev, Option.bind_eq_some_iff] at h
    obtain ⟨x, ⟨q, h1, h2⟩, n, ⟨q', h3, h4⟩, h5⟩ := h
    rw [den, int_strip (sev_ok he h3) h4]
    exact getD_strip (row_strip (sev_ok he h1) h2) h5 _
  | .ite c a b, p, h => by
    simp only [sev] at h
    split at h
    · rename_i hc
      rw [Option.bind_eq_some_iff] at hc
      obtain ⟨q, h1, h2⟩ := hc
      rw [den, bool_strip (sev_ok he h1) h2]
      exact sev_ok he h
    · rename_i hc
      rw [Option.bind_eq_some_iff] at hc
      obtain ⟨q, h1, h2⟩ := hc
      rw [den, bool_strip (sev_ok he h1) h2]
      exact sev_ok he h
    · cases h
  | .isnil a, p, h => by
    simp only [sev] at h
    split at h
    · rename_i h1
      cases h
      have := sev_ok he h1
      rw [den, strip_bool]
      generalize den Δ ρ a = d at this
      cases d with
      | int k m => rw [strip_int] at this; cases this
      | bool b => rw [strip_bool] at this; cases this
      | list v sz xs => rw [strip_list] at this; cases this
      | rows xs => rw [strip_rows] at this; cases this
      | val v =>
        rw [strip_val] at this
        unfold stripV at this
        split at this <;> first | (cases this; done) | rfl
    · rename_i n h1
      cases h
      have := sev_ok he h1
      rw [den, strip_bool]
      generalize den Δ ρ a = d at this
      cases d with
      | int k m => rw [strip_int] at this; cases this
      | bool b => rw [strip_bool] at this; cases this
      | list v sz xs => rw [strip_list] at this; cases this
      | rows xs => rw [strip_rows] at this; cases this
      | val v =>
        rw [strip_val] at this
        unfold stripV at this
        split at this <;> first | (cases this; done) | rfl
    · cases h
  | .errI a, p, h => by
    simp only [sev] at h
    split at h
    · rename_i n h1
      cases h
      have := sev_ok he h1
      rw [den, strip_int]
      generalize den Δ ρ a = d at this
      cases d with
      | int k m => rw [strip_int] at this; cases this
      | bool b => rw [strip_bool] at this; cases this
      | list v sz xs => rw [strip_list] at this; cases this
      | rows xs => rw [strip_rows] at this; cases this
      | val v =>
        rw [strip_val] at this
        unfold stripV at this
        split at this <;> first | (cases this; done) | (cases this; rfl)
    · cases h
  | .cut a l u, p, h => by
    simp only [sev] at h
    split at h
    · rename_i sz xs lo hi h1 h2 h3
      rw [Option.bind_eq_some_iff] at h2 h3
      obtain ⟨q2, h2, h4⟩ := h2
      obtain ⟨q3, h3, h5⟩ := h3
      split at h
      case isFalse => cases h
      rename_i hc
      cases h
      obtain ⟨v, ys, hd, rfl⟩ := strip_isList (sev_ok he h1)
      rw [den, int_strip (sev_ok he h2) h4, int_strip (sev_ok he h3) h5, hd]
      simp only [cutD]
      rw [if_pos, strip_list]
      · simp only [List.map_drop, List.map_take]
      · refine ⟨hc.1, by simpa using hc.2.1, ?_⟩
        have := hc.2.2
        rw [List.all_map] at this
        simpa [Function.comp] using this
    · cases h
  | .rep n row, p, h => by
    simp only [sev, Option.map_eq_some_iff, Option.bind_eq_some_iff] at h
    obtain ⟨k, ⟨q, h1, h2⟩, r, ⟨q', h3, h4⟩, rfl⟩ := h
    rw [den, int_strip (sev_ok he h1) h2, strip_rows, List.map_replicate, row_strip (sev_ok he h3) h4]
  | .enil, p, h => by simp only [sev, Option.some.injEq] at h; subst h; rw [den, strip_rows]; rfl
  | .econs a b, p, h => by
    simp only [sev, Option.map_eq_some_iff, Option.bind_eq_some_iff] at h
    obtain ⟨x, h1, r, ⟨q', h3, h4⟩, rfl⟩ := h
    rw [den, strip_rows, List.map_cons, List.map_nil, List.map_cons, sev_ok he h1, row_strip (sev_ok he h3) h4]
  | .emp, p, h => by simp only [sev, Option.some.injEq] at h; subst h; rw [den, strip_rows]; rfl
  | .push a row, p, h => by
    simp only [sev, Option.map_eq_some_iff, Option.bind_eq_some_iff] at h
    obtain ⟨x, ⟨q, h1, h2⟩, r, ⟨q', h3, h4⟩, rfl⟩ := h
    rw [den, strip_rows, List.map_append, xs_strip (sev_ok he h1) h2, List.map_cons, List.map_nil, row_strip (sev_ok he h3) h4]
  | .app a b, p, h => by
    simp only [sev, Option.map_eq_some_iff, Option.bind_eq_some_iff] at h
    obtain ⟨x, ⟨q, h1, h2⟩, r, ⟨q', h3, h4⟩, rfl⟩ := h
    rw [den, strip_rows, List.map_append, xs_strip (sev_ok he h1) h2, xs_strip (sev_ok he h3) h4]
  | .upd a i c v, p, h => by
    simp only [sev, Option.map_eq_some_iff, Option.bind_eq_some_iff] at h
    obtain ⟨x, ⟨q, h1, h2⟩, n, ⟨q', h3, h4⟩, r, h5, rfl⟩ := h
    rw [den, strip_rows, int_strip (sev_ok he h3) h4, List.map_set, xs_strip (sev_ok he h1) h2, List.map_set, sev_ok he h5]
    congr 2
    rw [← xs_strip (sev_ok he h1) h2, List.getD_eq_getElem?_getD, List.getD_eq_getElem?_getD, List.getElem?_map]
    cases (den Δ ρ a).xs[n.toNat]? <;> rfl
  | .seq _ _, p, h | .slen _, p, h | .sidx _ _, p, h | .scut _ _ _, p, h | .sapp _ _, p, h | .sof _, p, h | .sbytes _, p, h | .cap _, p, h => by simp [sev] at h
def sevs (Δ : Tab) (env : List PD) : List Tm → Option (List PD)
  | [] => some []
  | t :: l => (sev Δ env t).bind fun x => (sevs Δ env l).map (x :: ·)
theorem sevs_ok (he : ρ.map strip = env) : ∀ {ts : List Tm} {ps : List PD}, sevs Δ env ts = some ps → (ts.map (den Δ ρ)).map strip = ps
  | [], ps, h => by cases h; rfl
  | t :: l, ps, h => by
    simp only [sevs, Option.map_eq_some_iff, Option.bind_eq_some_iff] at h
    obtain ⟨x, h1, r, h2, rfl⟩ := h
    rw [List.map_cons, List.map_cons, sev_ok he h1, sevs_ok he h2]
/-- callees whose results, places aside, are told by their arguments, places aside -/
abbrev PFun := Nat → List PD → Option (List PD)
def PFun.fits (cs : PFun) (Φ : Nat → Spec) : Prop := ∀ f args rs, cs f args = some rs → ∀ ds W, ds.map strip = args → (∀ rs', rs'.map strip = rs → W rs') → Φ f ds W
/-- the slices that are lent, places aside -/
def lentE (Δ : Tab) (env : List PD) : List (Nat × Tm) → Option (List PD)
  | [] => some []
  | x :: l => ((sev Δ env x.2).bind PD.xs?).bind fun xs => (lentE Δ env l).map (.list (Δ.row x.1).length xs :: ·)
abbrev Stk := List (List PD × Tree)
/-- a tree, reckoned through: what it ends with -/
def evB (Δ : Tab) (cs : PFun) (ag : Stk → Nat → List PD → Option (List PD)) : Tree → Stk → List PD → Option (List PD)
  | .ret ts, _, env => sevs Δ env ts
  | .ite c a b, stk, env => match sev Δ env c with
    | some (.bool true) => evB Δ cs ag a stk env
    | some (.bool false) => evB Δ cs ag b stk env
    | _ => none
  | .ob c k, stk, env => match sev Δ env c with
    | some (.bool true) => evB Δ cs ag k stk env
    | _ => none
  | .loop ts _ b, stk, env => (sevs Δ env ts).bind fun vs => evB Δ cs ag b (stk ++ [(env, b)]) (env ++ vs)
  | .again l ts, stk, env => (sevs Δ env ts).bind fun vs => ag stk l vs
  | .call f ts _ k, stk, env => (sevs Δ env ts).bind fun ps => (cs f ps).bind fun rs => evB Δ cs ag k stk (env ++ rs)
  | .lend f l ts _ k, stk, env => (lentE Δ env l).bind fun e => (sevs Δ (env ++ e) ts).bind fun ps => (cs f ps).bind fun rs => evB Δ cs ag k stk (env ++ rs)
  | .share r t k, stk, env => ((sev Δ env t).bind PD.xs?).bind fun l => evB Δ cs ag k stk (env ++ [.list (Δ.row r).length l])
  | .lit r t k, stk, env => ((sev Δ env t).bind PD.xs?).bind fun l => evB Δ cs ag k stk (env ++ [.list (Δ.row r).length l])
  | .both a b, stk, env => (evB Δ cs ag a stk env).bind fun x => (evB Δ cs ag b stk env).bind fun y => if sameR x y then some x else none
  | .fail _, _, _ => none
def evL (Δ : Tab) (cs : PFun) : Nat → Stk → Tree → List PD → Option (List PD)
  | 0 => fun stk tr env => evB Δ cs (fun _ _ _ => none) tr stk env
  | n + 1 => fun stk tr env => evB Δ cs (fun stk l vs => match stk[l]? with
    | some x => evL Δ cs n (stk.take (l + 1)) x.2 (x.1 ++ vs)
    | none => none) tr stk env
def agL (Δ : Tab) (cs : PFun) : Nat → Stk → Nat → List PD → Option (List PD)
  | 0 => fun _ _ _ => none
  | n + 1 => fun stk l vs => match stk[l]? with
    | some x => evL Δ cs n (stk.take (l + 1)) x.2 (x.1 ++ vs)
    | none => none
theorem evL_eq (cs : PFun) : ∀ (n : Nat) (stk : Stk) (tr : Tree) (env : List PD), evL Δ cs n stk tr env = evB Δ cs (agL Δ cs n) tr stk env
  | 0, _, _, _ => rfl
  | n + 1, _, _, _ => rfl
theorem allS_of {Δ : Tab} : ∀ {ss : List Srt} {p : List Dat → Prop}, (∀ l, p l) → allS Δ ss p
  | [], p, h => h []
  | s :: ss, p, h => by
    cases s <;> first | exact fun n => allS_of fun l => h _ | exact fun d _ => allS_of fun l => h _
theorem lentE_ok (he : ρ.map strip = env) : ∀ {l : List (Nat × Tm)} {e : List PD} {p : List Dat → Prop}, lentE Δ env l = some e → (∀ e', e'.map strip = e → p e') → lendW Δ ρ l p
  | [], e, p, h, hp => by cases h; exact hp [] rfl
  | x :: l, e, p, h, hp => by
    simp only [lentE, Option.map_eq_some_iff, Option.bind_eq_some_iff] at h
    obtain ⟨xs, ⟨q, h1, h2⟩, r, h3, rfl⟩ := h
    intro A c
    refine lentE_ok he (p := fun e => p (_ :: e)) h3 fun e' h' => hp _ ?_
    rw [List.map_cons, h', strip_list, xs_strip (sev_ok he h1) h2]
/-- the loops around stand where the reckoning has them -/
def Fits (Δ : Tab) (cs : PFun) (rs : List PD) (n : Nat) (stk : Stk) (X : List (Inv × Nat)) : Prop :=
  stk.length = X.length ∧ ∀ (l : Nat) (x : List PD × Tree), stk[l]? = some x → ∃ I : Inv × Nat, X[l]? = some I ∧ n ≤ I.2 ∧ ∀ vs n', n' < n → evL Δ cs n' (stk.take (l + 1)) x.2 (x.1 ++ vs.map strip) = some rs → I.1 vs n'
theorem evB_ok {cs : PFun} {Φ : Nat → Spec} (hcs : cs.fits Φ) {rs : List PD} {Post : List Dat → Prop} (hP : ∀ rs', rs'.map strip = rs → Post rs') : ∀ {tr : Tree} {n : Nat} {stk : Stk} {ρ : List Dat} {env : List PD} {X : List (Inv × Nat)}, ρ.map strip = env → Fits Δ cs rs n stk X → evB Δ cs (agL Δ cs n) tr stk env = some rs → wp Δ Φ Post tr ρ X
  | .ret ts, n, stk, ρ, env, X, he, hf, h => by
    simp only [evB] at h
    exact hP _ (sevs_ok he h)
  | .ite c a b, n, stk, ρ, env, X, he, hf, h => by
    simp only [evB] at h
    split at h
    · rename_i hc
      have := strip_isBool (sev_ok he hc)
      exact ⟨fun _ => evB_ok hcs hP he hf h, fun e => (by rw [this] at e; cases e)⟩
    · rename_i hc
      have := strip_isBool (sev_ok he hc)
      exact ⟨fun e => (by rw [this] at e; cases e), fun _ => evB_ok hcs hP he hf h⟩
    · cases h
  | .ob c k, n, stk, ρ, env, X, he, hf, h => by
    simp only [evB] at h
    split at h
    · rename_i hc
      exact ⟨strip_isBool (sev_ok he hc), evB_ok hcs hP he hf h⟩
    · cases h
  | .loop ts ss b, n, stk, ρ, env, X, he, hf, h => by
    simp only [evB, Option.bind_eq_some_iff] at h
    obtain ⟨vs, h1, h2⟩ := h
    refine ⟨fun xs m => m ≤ n ∧ evL Δ cs m (stk ++ [(env, b)]) b (env ++ xs.map strip) = some rs, ⟨n, Nat.le_refl _, ?_⟩, allS_of fun xs m ⟨hm, hI⟩ => ?_⟩
    · rw [evL_eq, sevs_ok he h1]; exact h2
    · rw [evL_eq] at hI
      refine evB_ok hcs hP (by rw [List.map_append, he]) ⟨by simp [hf.1], fun l x hx => ?_⟩ hI
      rcases Nat.lt_or_ge l stk.length with hl | hl
      · rw [List.getElem?_append_left hl] at hx
        obtain ⟨I, i1, i2, i3⟩ := hf.2 l x hx
        refine ⟨I, by rw [List.getElem?_append_left (by rw [← hf.1]; exact hl)]; exact i1, Nat.le_trans hm i2, fun vs n' hn' hv => i3 vs n' (Nat.lt_of_lt_of_le hn' hm) ?_⟩
        rw [List.take_append_of_le_length (by omega)] at hv
        exact hv
      · rw [List.getElem?_append_right hl] at hx
        have hl0 : l - stk.length = 0 := by
          have := (List.getElem?_eq_some_iff.1 hx).1
          simp at this; omega
        have hle : l = stk.length := by omega
        subst hle
        simp only [Nat.sub_self, List.getElem?_cons_zero, Option.some.injEq] at hx
        subst hx
        refine ⟨((fun xs m => m ≤ n ∧ evL Δ cs m (stk ++ [(env, b)]) b (env ++ xs.map strip) = some rs), m), by rw [List.getElem?_append_right (by rw [hf.1]; exact Nat.le_refl _), hf.1, Nat.sub_self]; rfl, Nat.le_refl _, fun vs n' hn' hv => ⟨by omega, ?_⟩⟩
        rw [List.take_of_length_le (by simp)] at hv
        exact hv
  | .again l ts, n, stk, ρ, env, X, he, hf, h => by
    simp only [evB, Option.bind_eq_some_iff] at h
    obtain ⟨vs, h1, h2⟩ := h
    cases n with
    | zero => cases h2
    | succ n =>
    simp only [agL] at h2
    split at h2
    · rename_i x hx
      obtain ⟨I, i1, i2, i3⟩ := hf.2 l x hx
      simp only [wp, i1]
      refine ⟨n, by omega, i3 _ n (Nat.lt_succ_self _) ?_⟩
      rw [sevs_ok he h1]; exact h2
    · cases h2
  | .call f ts ss k, n, stk, ρ, env, X, he, hf, h => by
    simp only [evB, Option.bind_eq_some_iff] at h
    obtain ⟨ps, h1, qs, h2, h3⟩ := h
    exact hcs f ps qs h2 _ _ (sevs_ok he h1) fun rs' hrs => evB_ok hcs hP (by rw [List.map_append, he, hrs]) hf h3
  | .lend f l ts ss k, n, stk, ρ, env, X, he, hf, h => by
    simp only [evB, Option.bind_eq_some_iff] at h
    obtain ⟨e, h0, ps, h1, qs, h2, h3⟩ := h
    refine lentE_ok he h0 fun e' h' => ?_
    exact hcs f ps qs h2 _ _ (sevs_ok (by rw [List.map_append, he, h']) h1) fun rs' hrs => evB_ok hcs hP (by rw [List.map_append, he, hrs]) hf h3
  | .share r t k, n, stk, ρ, env, X, he, hf, h => by
    simp only [evB, Option.bind_eq_some_iff] at h
    obtain ⟨l, ⟨p, h1, h2⟩, h3⟩ := h
    intro A c
    refine evB_ok hcs hP ?_ hf h3
    rw [List.map_append, he, List.map_cons, List.map_nil, strip_list, xs_strip (sev_ok he h1) h2]
  | .lit r t k, n, stk, ρ, env, X, he, hf, h => by
    simp only [evB, Option.bind_eq_some_iff] at h
    obtain ⟨l, ⟨p, h1, h2⟩, h3⟩ := h
    intro A
    refine evB_ok hcs hP ?_ hf h3
    rw [List.map_append, he, List.map_cons, List.map_nil, strip_list, xs_strip (sev_ok he h1) h2]
  | .both a b, n, stk, ρ, env, X, he, hf, h => by
    simp only [evB, Option.bind_eq_some_iff] at h
    obtain ⟨x, h1, y, h2, h3⟩ := h
    split at h3
    · rename_i hs
      cases h3
      have := sameR_ok hs
      subst this
      exact ⟨evB_ok hcs hP he hf h1, evB_ok hcs hP he hf h2⟩
    · cases h3
  | .fail _, n, stk, ρ, env, X, he, hf, h => by cases h
end
/-- what a function answers, places aside, hangs on its arguments, places aside -/
def psp (g : List PD → Option (List PD)) : Spec := fun ds Q => ∃ rs, g (ds.map strip) = some rs ∧ ∀ rs', rs'.map strip = rs → Q rs'
def pfun : List (Nat × (List PD → Option (List PD))) → PFun
  | [], _, _ => none
  | x :: l, f, ps => if x.1 = f then x.2 ps else pfun l f ps
theorem pfun_fits {Φ : Nat → Spec} : ∀ {l : List (Nat × (List PD → Option (List PD)))}, (∀ x ∈ l, Φ x.1 = psp x.2) → (pfun l).fits Φ
  | [], _ => fun f args rs h => by cases h
  | x :: l, hl => fun f args rs h ds W hd hW => by
    simp only [pfun] at h
    split at h
    · rename_i e
      subst e
      rw [hl x (by simp)]
      exact ⟨rs, by rw [hd]; exact h, hW⟩
    · exact pfun_fits (fun y hy => hl y (by simp [hy])) f args rs h ds W hd hW
/-- a function that is reckoned through -/
theorem con_ev {E : Env} (hW : E.Wf) (hmix : E.P.follows .mixedOrders = true) (hγ : E.γ = []) (T : List (Con E)) {ns : List (Nat × Sig)} (hn : names T = ns) {f : Nat} {sg : Sig} {tr : Tree} (hT : walk E.cx (sgsN ns) 0 f sg = tr) (hsg : sg.ok = true) {cs : PFun} (hcs : cs.fits (specC T)) (fuel : Nat) :
    Holds E f sg (psp fun ps => evL E.Δ cs fuel [] tr ps) := by
  subst hn
  have hT' : walk E.cx (sgsN (names T)) E.γ.length f sg = tr := by rw [hγ]; exact hT
  refine walk_ok hW hmix (sgsN_con T) hT' hsg fun ds Q hs ⟨rs, h1, h2⟩ => ?_
  rw [hγ]
  replace h1 : evL E.Δ cs fuel [] tr (ds.map strip) = some rs := h1
  rw [evL_eq] at h1
  exact evB_ok hcs h2 rfl ⟨rfl, fun l x h => by cases h⟩ h1
theorem fits_cons {Φ : Nat → Spec} {k : Nat} {g : List PD → Option (List PD)} {l : List (Nat × (List PD → Option (List PD)))} (h : Φ k = psp g) (t : (pfun l).fits Φ) : (pfun ((k, g) :: l)).fits Φ := fun f args rs h' ds W hd hW => by
  simp only [pfun] at h'
  split at h'
  · rename_i e
    subst e
    rw [h]
    exact ⟨rs, by rw [hd]; exact h', hW⟩
  · exact t f args rs h' ds W hd hW
theorem fits_nil {Φ : Nat → Spec} : (pfun []).fits Φ := fun f args rs h => by cases h
theorem holds_or {E : Env} {f : FuncId} {sg : Sig} {Φ Ψ : Spec} (h1 : Holds E f sg Φ) (h2 : Holds E f sg Ψ) : Holds E f sg (fun ds Q => Φ ds Q ∨ Ψ ds Q) := fun w ds Q a b c d h => h.elim (h1 w ds Q a b c d) (h2 w ds Q a b c d)
theorem holds_mono {E : Env} {f : FuncId} {sg : Sig} {Φ Ψ : Spec} (h1 : Holds E f sg Φ) (h2 : ∀ ds Q, All2 (Has E.Δ) (Sig.sorts sg.params) ds → Ψ ds Q → Φ ds Q) : Holds E f sg Ψ := fun w ds Q a b c d h => h1 w ds Q a b c d (h2 ds Q a h)
/-- arguments that are known -/
theorem con_at {E : Env} (hW : E.Wf) (hmix : E.P.follows .mixedOrders = true) (hγ : E.γ = []) (T : List (Con E)) {ns : List (Nat × Sig)} (hn : names T = ns) {f : Nat} {sg : Sig} (hsg : sg.ok = true) {Ψ : Spec}
    (h : ∀ Φ : Nat → Spec, Φ = specC T → ∀ ds Q, All2 (Has E.Δ) (Sig.sorts sg.params) ds → Ψ ds Q → ∃ ps : List (Tm × Srt), sg.params = (ps.map fun p => (false, [p.2])) ∧ (∀ p ∈ ps, Has E.Δ p.2 (den E.Δ [] p.1) ∧ p.1.bnd 0 = true ∧ p.2.one = true) ∧ ds = (ps.map fun p => den E.Δ [] p.1) ∧ wp E.Δ Φ Q (walkAt E.cx (sgsN ns) 0 f sg ps) ds []) : Holds E f sg Ψ := by
  subst hn
  intro w ds Q hs hok hγ' hG hΨ
  obtain ⟨ps, h1, h2, h3, h4⟩ := h _ rfl ds Q hs hΨ
  refine walkAt_ok hW hmix (sgsN_con T) hsg h1 h2 h3 ?_ hok hγ' hG
  rw [hγ]; exact h4
end Go.Proofs.YtelfhmeobfimiaaDoor
end
