/-
  The program's look at where a state's objects stand.
-/
import Derived.Test.YtonjilfbcofoaaaDoorStE
namespace Go.Proofs.YtonjilfbcofoaaaDoor
open Go.RowKit
set_option linter.unusedVariables false
set_option linter.unusedSimpArgs false

theorem alls_sub (ds : List Dat) {a : Nat} : ∀ {b : Nat}, a ≤ b → (alls ds a).Sublist (alls ds b)
  | 0, h => by obtain rfl : a = 0 := by omega
               exact List.Sublist.refl _
  | b + 1, h => by
    by_cases hb : a = b + 1
    · subst hb; exact List.Sublist.refl _
    · rw [alls_succ]
      exact (alls_sub ds (b := b) (by omega)).trans (List.sublist_append_left _ _)
/-- what has been seen -/
def Marks (n : Nat) (seen : List (List Dat)) (al : List Int) : Prop := seen.length = n ∧ ∀ k, k < n → seen.getD k [] = [.bool (decide ((k : Int) ∈ al))]
theorem Marks.start (n : Nat) : Marks n (List.replicate n [.bool false]) [] := ⟨by simp, fun k hk => by simp [List.getD_eq_getElem?_getD, hk]⟩
theorem Marks.set {n : Nat} {seen : List (List Dat)} {al : List Int} (h : Marks n seen al) {x : Nat} (hx : x < n) : Marks n (seen.set x ((seen.getD x []).set 0 (.bool true))) (al ++ [(x : Int)]) := by
  refine ⟨by simp [h.1], fun k hk => ?_⟩
  have h1 := h.1
  by_cases hkx : k = x
  · subst hkx
    rw [h.2 k hk]
    simp [List.getD_eq_getElem?_getD, List.getElem?_set, h1, hk]
  · have h2 := h.2 k hk
    have e : decide ((k : Int) ∈ al ++ [(x : Int)]) = decide ((k : Int) ∈ al) := by
      have : (k : Int) ≠ (x : Int) := by omega
      simp [this]
    rw [e, ← h2]
    simp [List.getD_eq_getElem?_getD, List.getElem?_set, Ne.symm hkx]
def k_zones : Nat := 30
def sg_zones : Sig := ⟨[(true, [.list 50] ++ List.replicate 11 (.list 3) ++ List.replicate 25 (.int .i64))], [(false, [.bool])], false, false, false⟩
def tr_zones : Tree := (.ob (.cmp .ge (.len (.var 0)) (.int .i64 0))
(.ob (.cmp .le (.len (.var 0)) (.int .i64 140737488355328))
(.loop [(.bool false), (.int .i64 0), (.int .i64 0), (.rep (.len (.var 0)) (.econs (.bool false) .enil))] [.bool, (.int .i64), (.int .i64), (.rows 4)]
 (.ite (.cmp .lt (.var 39) (.int .i64 11))
  (.ob (.cmp .ge (.var 39) (.int .i64 0))
  (.loop [(.var 37), (.var 38), (.int .i64 0), (.var 40)] [.bool, (.int .i64), (.int .i64), (.rows 4)]
   (.ite (.cmp .lt (.var 43) (.len (.sel (.econs (.var 1) (.econs (.var 2) (.econs (.var 3) (.econs (.var 4) (.econs (.var 5) (.econs (.var 6) (.econs (.var 7) (.econs (.var 8) (.econs (.var 9) (.econs (.var 10) (.econs (.var 11) .enil))))))))))) (.var 39) (.list 3))))
    (.ob (.cmp .ge (.var 43) (.int .i64 0))
    (.ite (.cmp .lt (.elem (.sel (.econs (.var 1) (.econs (.var 2) (.econs (.var 3) (.econs (.var 4) (.econs (.var 5) (.econs (.var 6) (.econs (.var 7) (.econs (.var 8) (.econs (.var 9) (.econs (.var 10) (.econs (.var 11) .enil))))))))))) (.var 39) (.list 3)) (.var 43) 0 (.int .i64)) (.int .i64 0))
     (.ret [(.bool false)])
     (.ite (.cmp .ge (.elem (.sel (.econs (.var 1) (.econs (.var 2) (.econs (.var 3) (.econs (.var 4) (.econs (.var 5) (.econs (.var 6) (.econs (.var 7) (.econs (.var 8) (.econs (.var 9) (.econs (.var 10) (.econs (.var 11) .enil))))))))))) (.var 39) (.list 3)) (.var 43) 0 (.int .i64)) (.len (.var 44)))
      (.ret [(.bool false)])
      (.ite (.elem (.var 44) (.elem (.sel (.econs (.var 1) (.econs (.var 2) (.econs (.var 3) (.econs (.var 4) (.econs (.var 5) (.econs (.var 6) (.econs (.var 7) (.econs (.var 8) (.econs (.var 9) (.econs (.var 10) (.econs (.var 11) .enil))))))))))) (.var 39) (.list 3)) (.var 43) 0 (.int .i64)) 0 .bool)
       (.ret [(.bool false)])
       (.ob (.cmp .lt (.elem (.sel (.econs (.var 1) (.econs (.var 2) (.econs (.var 3) (.econs (.var 4) (.econs (.var 5) (.econs (.var 6) (.econs (.var 7) (.econs (.var 8) (.econs (.var 9) (.econs (.var 10) (.econs (.var 11) .enil))))))))))) (.var 39) (.list 3)) (.var 43) 0 (.int .i64)) (.len (.var 0)))
       (.ite (.cmp .ne (.elem (.var 0) (.elem (.sel (.econs (.var 1) (.econs (.var 2) (.econs (.var 3) (.econs (.var 4) (.econs (.var 5) (.econs (.var 6) (.econs (.var 7) (.econs (.var 8) (.econs (.var 9) (.econs (.var 10) (.econs (.var 11) .enil))))))))))) (.var 39) (.list 3)) (.var 43) 0 (.int .i64)) 3 (.int .i64)) (.var 39))
        (.ret [(.bool false)])
        (.call k_stands [(.elem (.var 0) (.elem (.sel (.econs (.var 1) (.econs (.var 2) (.econs (.var 3) (.econs (.var 4) (.econs (.var 5) (.econs (.var 6) (.econs (.var 7) (.econs (.var 8) (.econs (.var 9) (.econs (.var 10) (.econs (.var 11) .enil))))))))))) (.var 39) (.list 3)) (.var 43) 0 (.int .i64)) 0 (.int .i64)), (.elem (.var 0) (.elem (.sel (.econs (.var 1) (.econs (.var 2) (.econs (.var 3) (.econs (.var 4) (.econs (.var 5) (.econs (.var 6) (.econs (.var 7) (.econs (.var 8) (.econs (.var 9) (.econs (.var 10) (.econs (.var 11) .enil))))))))))) (.var 39) (.list 3)) (.var 43) 0 (.int .i64)) 1 (.int .i64)), (.elem (.var 0) (.elem (.sel (.econs (.var 1) (.econs (.var 2) (.econs (.var 3) (.econs (.var 4) (.econs (.var 5) (.econs (.var 6) (.econs (.var 7) (.econs (.var 8) (.econs (.var 9) (.econs (.var 10) (.econs (.var 11) .enil))))))))))) (.var 39) (.list 3)) (.var 43) 0 (.int .i64)) 2 (.int .i64)), (.elem (.var 0) (.elem (.sel (.econs (.var 1) (.econs (.var 2) (.econs (.var 3) (.econs (.var 4) (.econs (.var 5) (.econs (.var 6) (.econs (.var 7) (.econs (.var 8) (.econs (.var 9) (.econs (.var 10) (.econs (.var 11) .enil))))))))))) (.var 39) (.list 3)) (.var 43) 0 (.int .i64)) 3 (.int .i64)), (.elem (.var 0) (.elem (.sel (.econs (.var 1) (.econs (.var 2) (.econs (.var 3) (.econs (.var 4) (.econs (.var 5) (.econs (.var 6) (.econs (.var 7) (.econs (.var 8) (.econs (.var 9) (.econs (.var 10) (.econs (.var 11) .enil))))))))))) (.var 39) (.list 3)) (.var 43) 0 (.int .i64)) 4 (.int .i64)), (.elem (.var 0) (.elem (.sel (.econs (.var 1) (.econs (.var 2) (.econs (.var 3) (.econs (.var 4) (.econs (.var 5) (.econs (.var 6) (.econs (.var 7) (.econs (.var 8) (.econs (.var 9) (.econs (.var 10) (.econs (.var 11) .enil))))))))))) (.var 39) (.list 3)) (.var 43) 0 (.int .i64)) 5 (.int .i64)), (.elem (.var 0) (.elem (.sel (.econs (.var 1) (.econs (.var 2) (.econs (.var 3) (.econs (.var 4) (.econs (.var 5) (.econs (.var 6) (.econs (.var 7) (.econs (.var 8) (.econs (.var 9) (.econs (.var 10) (.econs (.var 11) .enil))))))))))) (.var 39) (.list 3)) (.var 43) 0 (.int .i64)) 6 (.int .i64)), (.elem (.var 0) (.elem (.sel (.econs (.var 1) (.econs (.var 2) (.econs (.var 3) (.econs (.var 4) (.econs (.var 5) (.econs (.var 6) (.econs (.var 7) (.econs (.var 8) (.econs (.var 9) (.econs (.var 10) (.econs (.var 11) .enil))))))))))) (.var 39) (.list 3)) (.var 43) 0 (.int .i64)) 7 (.int .i64)), (.elem (.var 0) (.elem (.sel (.econs (.var 1) (.econs (.var 2) (.econs (.var 3) (.econs (.var 4) (.econs (.var 5) (.econs (.var 6) (.econs (.var 7) (.econs (.var 8) (.econs (.var 9) (.econs (.var 10) (.econs (.var 11) .enil))))))))))) (.var 39) (.list 3)) (.var 43) 0 (.int .i64)) 8 (.int .i64)), (.elem (.var 0) (.elem (.sel (.econs (.var 1) (.econs (.var 2) (.econs (.var 3) (.econs (.var 4) (.econs (.var 5) (.econs (.var 6) (.econs (.var 7) (.econs (.var 8) (.econs (.var 9) (.econs (.var 10) (.econs (.var 11) .enil))))))))))) (.var 39) (.list 3)) (.var 43) 0 (.int .i64)) 9 (.int .i64)), (.elem (.var 0) (.elem (.sel (.econs (.var 1) (.econs (.var 2) (.econs (.var 3) (.econs (.var 4) (.econs (.var 5) (.econs (.var 6) (.econs (.var 7) (.econs (.var 8) (.econs (.var 9) (.econs (.var 10) (.econs (.var 11) .enil))))))))))) (.var 39) (.list 3)) (.var 43) 0 (.int .i64)) 10 (.int .i64)), (.elem (.var 0) (.elem (.sel (.econs (.var 1) (.econs (.var 2) (.econs (.var 3) (.econs (.var 4) (.econs (.var 5) (.econs (.var 6) (.econs (.var 7) (.econs (.var 8) (.econs (.var 9) (.econs (.var 10) (.econs (.var 11) .enil))))))))))) (.var 39) (.list 3)) (.var 43) 0 (.int .i64)) 11 (.int .i64)), (.elem (.var 0) (.elem (.sel (.econs (.var 1) (.econs (.var 2) (.econs (.var 3) (.econs (.var 4) (.econs (.var 5) (.econs (.var 6) (.econs (.var 7) (.econs (.var 8) (.econs (.var 9) (.econs (.var 10) (.econs (.var 11) .enil))))))))))) (.var 39) (.list 3)) (.var 43) 0 (.int .i64)) 12 (.int .i64)), (.elem (.var 0) (.elem (.sel (.econs (.var 1) (.econs (.var 2) (.econs (.var 3) (.econs (.var 4) (.econs (.var 5) (.econs (.var 6) (.econs (.var 7) (.econs (.var 8) (.econs (.var 9) (.econs (.var 10) (.econs (.var 11) .enil))))))))))) (.var 39) (.list 3)) (.var 43) 0 (.int .i64)) 13 (.int .i64)), (.elem (.var 0) (.elem (.sel (.econs (.var 1) (.econs (.var 2) (.econs (.var 3) (.econs (.var 4) (.econs (.var 5) (.econs (.var 6) (.econs (.var 7) (.econs (.var 8) (.econs (.var 9) (.econs (.var 10) (.econs (.var 11) .enil))))))))))) (.var 39) (.list 3)) (.var 43) 0 (.int .i64)) 14 (.int .i64)), (.elem (.var 0) (.elem (.sel (.econs (.var 1) (.econs (.var 2) (.econs (.var 3) (.econs (.var 4) (.econs (.var 5) (.econs (.var 6) (.econs (.var 7) (.econs (.var 8) (.econs (.var 9) (.econs (.var 10) (.econs (.var 11) .enil))))))))))) (.var 39) (.list 3)) (.var 43) 0 (.int .i64)) 15 (.int .i64)), (.elem (.var 0) (.elem (.sel (.econs (.var 1) (.econs (.var 2) (.econs (.var 3) (.econs (.var 4) (.econs (.var 5) (.econs (.var 6) (.econs (.var 7) (.econs (.var 8) (.econs (.var 9) (.econs (.var 10) (.econs (.var 11) .enil))))))))))) (.var 39) (.list 3)) (.var 43) 0 (.int .i64)) 16 (.int .i64)), (.elem (.var 0) (.elem (.sel (.econs (.var 1) (.econs (.var 2) (.econs (.var 3) (.econs (.var 4) (.econs (.var 5) (.econs (.var 6) (.econs (.var 7) (.econs (.var 8) (.econs (.var 9) (.econs (.var 10) (.econs (.var 11) .enil))))))))))) (.var 39) (.list 3)) (.var 43) 0 (.int .i64)) 17 (.int .i64)), (.var 39)] [.bool]
        (.ite (.not (.var 45))
         (.ret [(.bool false)])
         (.again 1 [(.var 41), (.ar .add .i64 (.var 42) (.int .i64 1)), (.ar .add .i64 (.var 43) (.int .i64 1)), (.upd (.var 44) (.elem (.sel (.econs (.var 1) (.econs (.var 2) (.econs (.var 3) (.econs (.var 4) (.econs (.var 5) (.econs (.var 6) (.econs (.var 7) (.econs (.var 8) (.econs (.var 9) (.econs (.var 10) (.econs (.var 11) .enil))))))))))) (.var 39) (.list 3)) (.var 43) 0 (.int .i64)) 0 (.bool true))])))))))))
    (.again 0 [(.var 41), (.var 42), (.ar .add .i64 (.var 39) (.int .i64 1)), (.var 44)]))))
  (.ret [(.cmp .eq (.var 38) (.len (.var 40)))])))))
theorem wk_zones : walk E0.cx (sgsN [(41, sg_stands)]) 0 30 sg_zones = tr_zones := by kernel_rfl
theorem bo_zones : ∃ x, bodyOf E0.P 30 = some x := bo_of (by kernel_rfl)
theorem sp_zones_stands : specC [con_stands] k_stands = stands_s := rfl
def zones_s : Spec := iff_s zonesP
theorem zones_h : Holds E0 k_zones sg_zones zones_s := con_by wf0 mix0 g0 [con_stands] rfl wk_zones rfl (by
  intro ds Q hs ⟨hsm, h⟩
  have hl : ds.length = 37 := hs.length.symm
  have hn := hsm 0 (by omega)
  have fail : ¬ zonesP ds → Q [.bool false] := fun hn => h _ (by simp only [Bool.false_eq_true, false_iff]; exact hn)
  simp only [tr_zones, wp, den_int, den_bool, den_nili, den_ar, den_cmp, den_not, den_len, den_elem, den_isnil, den_errI, den_ifc, den_rep, den_push, den_app, den_emp, den_upd, row0_econs, row0_enil, den_and, den_beq, den_nil, toInt_int, toBool_bool, xs_rows, xs_list, dflt_int, dflt_bool, of_eq, of_ne, of_lt, of_le, of_gt, of_ge, of_add, of_sub, of_rem, List.map_cons, List.map_nil, Dat.bool.injEq, decide_eq_true_eq, decide_eq_false_iff_not, Bool.not_eq_true', Bool.not_eq_false', beq_iff_eq, bne_iff_ne, beq_eq_false_iff_ne, bne_eq_false_iff_eq, ne_eq, List.append_assoc, List.cons_append, List.nil_append, allS, sp_zones_stands, stands_s, @den_var0 E0.Δ ds, den_varA, den_varB, hl, Nat.reduceLT, Nat.reduceLeDiff, Nat.reduceSub, List.getD_cons_zero, List.getD_cons_succ, argL_fold ds, argI_fold ds, List.append_assoc, List.cons_append, List.nil_append, toInt_int, toBool_bool, xs_rows, xs_list, Int.toNat_natCast, Dat.bool.injEq]
  refine ⟨by omega, by omega, fun xs m => ∃ (b : Bool) (z : Nat) (seen : List (List Dat)), xs = [.bool b, .int .i64 (alls ds z).length, .int .i64 z, .rows seen] ∧ z ≤ 11 ∧ (∀ p ∈ ids ds z, placed ds p) ∧ (alls ds z).Nodup ∧ Marks (argL ds 0).length seen (alls ds z) ∧ m = 11 - z, ⟨_, false, 0, _, rfl, by omega, by simp [ids], by simp [alls, ids], Marks.start _, rfl⟩, ?_⟩
  intro b n' z' d hd0 m ⟨_, z, seen, e, hz, hall, hnd, hmk, hm⟩
  cases e
  have hrange : ∀ y, y ≤ 11 → (∀ p ∈ ids ds y, placed ds p) → ∀ x ∈ alls ds y, 0 ≤ x ∧ x < ((argL ds 0).length : Int) := fun y hy h x hx => by
    obtain ⟨p, hp, rfl⟩ := List.mem_map.1 hx
    exact ⟨(h p hp).1, (h p hp).2.1⟩
  refine ⟨fun hlt => ⟨by omega, ?_⟩, fun hge => h _ ?_⟩
  · have hz11 : z < 11 := by omega
    have hb := hsm (z + 1) (by omega)
    have hal := alls_len hsm z (by omega)
    refine ⟨fun xs m => ∃ (b : Bool) (i : Nat) (seen : List (List Dat)), xs = [.bool b, .int .i64 (alls ds z ++ (lst ds z).take i).length, .int .i64 i, .rows seen] ∧ i ≤ (argL ds (z + 1)).length ∧ (∀ x ∈ (lst ds z).take i, placed ds (z, x)) ∧ (alls ds z ++ (lst ds z).take i).Nodup ∧ Marks (argL ds 0).length seen (alls ds z ++ (lst ds z).take i) ∧ m = (argL ds (z + 1)).length - i, ⟨_, b, 0, seen, by simp, by omega, by simp, by simpa using hnd, by simpa using hmk, rfl⟩, ?_⟩
    intro b1 n1' i' d1 hd1 m1 ⟨_, i, seen1, e, hi, hall1, hnd1, hmk1, hm1⟩
    cases e
    have hd : ∀ e s, den E0.Δ (ds ++ (.bool b :: .int .i64 (alls ds z).length :: .int .i64 z :: .rows seen :: .bool b1 :: .int .i64 (alls ds z ++ (lst ds z).take i).length :: .int .i64 i :: .rows seen1 :: e)) (.sel (.econs (.var 1) (.econs (.var 2) (.econs (.var 3) (.econs (.var 4) (.econs (.var 5) (.econs (.var 6) (.econs (.var 7) (.econs (.var 8) (.econs (.var 9) (.econs (.var 10) (.econs (.var 11) .enil))))))))))) (.var 39) s) = ds.getD (z + 1) (.bool false) := fun e s => den_lists hl (by simp only [@den_var0 E0.Δ ds, den_varA, den_varB, hl, Nat.reduceLT, Nat.reduceLeDiff, Nat.reduceSub, List.getD_cons_zero, List.getD_cons_succ, argL_fold ds, argI_fold ds, List.append_assoc, List.cons_append, List.nil_append, toInt_int, toBool_bool, xs_rows, xs_list, Int.toNat_natCast, Dat.bool.injEq]) hz11
    simp only [hd, @den_var0 E0.Δ ds, den_varA, den_varB, hl, Nat.reduceLT, Nat.reduceLeDiff, Nat.reduceSub, List.getD_cons_zero, List.getD_cons_succ, argL_fold ds, argI_fold ds, List.append_assoc, List.cons_append, List.nil_append, toInt_int, toBool_bool, xs_rows, xs_list, Int.toNat_natCast, Dat.bool.injEq]
    refine ⟨fun hlt1 => ⟨by omega, ?_⟩, fun hge1 => ?_⟩
    · have hi1 : i < (argL ds (z + 1)).length := by omega
      have hi2 : i < (lst ds z).length := by rw [lst_len]; exact hi1
      rw [lst_el hi1]
      have hmem : (lst ds z)[i] ∈ lst ds z := List.getElem_mem _
      have hid : ((z : Int), (lst ds z)[i]) ∈ ids ds 11 := mem_ids.2 ⟨z, hz11, rfl, hmem⟩
      have htk := take_el hi2
      generalize hx : (lst ds z)[i] = x at *
      refine ⟨fun h0 => fail fun hP => ?_, fun h0 => ⟨fun h1 => fail fun hP => ?_, fun h1 => ?_⟩⟩
      · have := (hP.1 _ hid).1; simp only at this; omega
      · have := (hP.1 _ hid).2.1; rw [hmk1.1] at h1; simp only at this; omega
      · obtain ⟨k, rfl⟩ := Int.eq_ofNat_of_zero_le (show 0 ≤ x by omega)
        have hk : k < (argL ds 0).length := by rw [hmk1.1] at h1; omega
        simp only [Int.toNat_natCast, hmk1.2 k hk, List.getD_cons_zero, Dat.bool.injEq, decide_eq_true_eq, decide_eq_false_iff_not]
        refine ⟨fun h2 => fail fun hP => ?_, fun h2 => ⟨by omega, fun h3 => fail fun hP => h3 (hP.1 _ hid).2.2.1, fun h3 => ⟨show (0 : Int) ≤ (z : Int) by omega, show (z : Int) < 11 by omega, fun c hc => ⟨fun e => fail fun hP => ?_, fun e => ⟨(argL ds (z + 1)).length - (i + 1), by omega, b1, i + 1, seen1.set k ((seen1.getD k []).set 0 (.bool true)), ?_, by omega, ?_, ?_, ?_, rfl⟩⟩⟩⟩⟩
        · have h5 := List.Nodup.sublist ((alls_succ ds z ▸ alls_sub ds (show z + 1 ≤ 11 by omega)) : (alls ds z ++ lst ds z).Sublist (alls ds 11)) hP.2.1
          have h6 : (alls ds z ++ (lst ds z).take (i + 1)).Nodup := List.Nodup.sublist ((List.take_sublist _ _).append_left _) h5
          rw [htk, ← List.append_assoc] at h6
          exact (List.nodup_append.1 h6).2.2 _ h2 _ (List.mem_singleton.2 rfl) rfl
        · subst e
          exact Bool.noConfusion (hc.2 (hP.1 _ hid).2.2.2)
        · have hl2 : (alls ds z ++ (lst ds z).take i).length ≤ z * 1000000 + i := by rw [List.length_append, List.length_take]; omega
          rw [wrap64 (by omega) (by omega), wrap64 (by omega) (by omega), htk, ← List.append_assoc]
          have e1 : ((alls ds z ++ (lst ds z).take i) ++ [(k : Int)]).length = (alls ds z ++ (lst ds z).take i).length + 1 := by rw [List.length_append (bs := [(k : Int)])]; rfl
          rw [e1]
          simp only [hmk1.2 k hk]
          rfl
        · intro x hx
          rw [htk] at hx
          rcases List.mem_append.1 hx with hx | hx
          · exact hall1 x hx
          · rw [List.mem_singleton.1 hx]
            exact ⟨by simp only; omega, by simp only; omega, h3, hc.1 e⟩
        · rw [htk, ← List.append_assoc, List.nodup_append]
          exact ⟨hnd1, by simp, fun a ha b hb e => by
            rw [List.mem_singleton.1 hb] at e
            exact h2 (e ▸ ha)⟩
        · rw [htk, ← List.append_assoc]
          exact hmk1.set hk
    · have hfull : (lst ds z).take i = lst ds z := List.take_of_length_le (by rw [lst_len]; omega)
      rw [hfull] at hall1 hnd1 hmk1
      refine ⟨11 - (z + 1), by omega, b1, z + 1, seen1, ?_, by omega, fun p hp => ?_, by rw [alls_succ]; exact hnd1, by rw [alls_succ]; exact hmk1, rfl⟩
      · rw [wrap64 (by omega) (by omega), hfull, alls_succ]; rfl
      · rw [ids] at hp
        rcases List.mem_append.1 hp with hp | hp
        · exact hall p hp
        · obtain ⟨x, hx, rfl⟩ := List.mem_map.1 hp
          exact hall1 x hx
  · have hz11 : z = 11 := by omega
    subst hz11
    rw [beq_iff_eq, xs_rows, hmk.1]
    have hlen : (ids ds 11).length = (alls ds 11).length := by rw [alls, List.length_map]
    exact ⟨fun e => ⟨hall, hnd, by rw [hlen]; omega⟩, fun hP => by rw [← hlen, hP.2.2]⟩)
noncomputable def con_zones : Con E0 := ⟨k_zones, sg_zones, zones_s, rfl, bo_zones, zones_h⟩
end Go.Proofs.YtonjilfbcofoaaaDoor
