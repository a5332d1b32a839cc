/-
  Contracts: lists of numbers, and of rows of numbers, side by side.
-/
import Derived.Test.YtlgfnimahmmgeaaKitSt
namespace Go.Proofs.Ytlgfnimahmmgeaa
open Go.RowKit
set_option linter.unusedVariables false

theorem i64s_at {l : List Int} {k : Nat} (h : k < l.length) : (i64s l)[k]? = some (.int .i64 l[k]) := by
  simp [i64s, h]
theorem drop_beq {α : Type} [BEq α] {l l' : List α} {k : Nat} (h : k < l.length) (h' : k < l'.length) : (l.drop k == l'.drop k) = (l[k] == l'[k] && (l.drop (k + 1) == l'.drop (k + 1))) := by
  rw [List.drop_eq_getElem_cons h, List.drop_eq_getElem_cons h']; rfl
set_option maxHeartbeats 1000000 in
theorem Ints_m (A A' : Option Addr) (n c n' c' : Nat) (l l' : List Int) (w : World) (h : Rd w 1 (.slice A n c) n (i64s l)) (h' : Rd w 1 (.slice A' n' c') n' (i64s l')) (hn : (n : Int) ≤ 9223372036854775807) :
    Calls Try.prog 14 #[.slice A n c, .slice A' n' c'] w (Ret w (.bool (l == l'))) := by
  have HL := Lib.hid (show l.length = n by have := h.len; rw [i64s_len] at this; omega)
  have HL' := Lib.hid (show l'.length = n' by have := h'.len; rw [i64s_len] at this; omega)
  have HM0 := Lib.hid (((Mem.start (o := none) w).addArg0 h').addArg0 h)
  clear h h'
  by_cases e : n = n'
  · subst e
    go_enter Try.func14, Try.ntmps14
    go_wp2_with fail
    go_loopw [13, 5] (fun iv _ wr => ∃ k : Nat, k ≤ n ∧ iv = .int .i64 k ∧ Hid ((l == l') = (l.drop k == l'.drop k)) ∧ Mem none w wr [.rd 1 (.slice A n c) n (i64s l), .rd 1 (.slice A' n c') n (i64s l')]) (fun iv _ _ => n - (intOf iv).toNat)
    case atStart => exact ⟨0, by omega, rfl, Lib.hid (by simp), HM0.out⟩
    case round =>
      obtain ⟨k, hk, rfl, HD, hm⟩ := hrel
      have HM := Lib.hid hm
      clear hm
      by_cases hlt : k < n
      · have hkl : k < l.length := by have := HL.out; omega
        have hkl' : k < l'.length := by have := HL'.out; omega
        have HX := Lib.hid (i64s_at hkl)
        have HX' := Lib.hid (i64s_at hkl')
        have HS := Lib.hid (drop_beq hkl hkl')
        generalize l[k] = x at *
        generalize l'[k] = x' at *
        clear hkl hkl'
        go_wp2_with fail
        refine wp_region_E (id := 6) [(true, 0), (true, 1), (true, 2), (true, 3), (true, 4), (true, 5), (true, 6), (true, 7), (true, 8)] (by kernel_rfl) (by kernel_rfl) (by kernel_rfl) (by kernel_rfl) ?_
        replace HM := Lib.hid HM.out.drew
        all_goals ((refine wpE_quiet rfl ?_; go_big_quiet_step (fail); refine wpQuiet_nil ?_))
        all_goals ((refine wpE_quiet rfl ?_; go_big_quiet_step (fail); refine wpQuiet_nil ?_))
        all_goals (first | (refine E_of _ rfl rfl (fun w' hb => R_index1 ((HM.out.keep hb).rdi (by (repeat (first | exact RdIn.rd _ | exact RdIn.ow _ | apply RdIn.tail)); done)) rfl rfl rfl (by omega) (by omega) Try.underlying30 tsz_3) ?_; simp only [Act.put, List.setIfInBounds_toArray, List.set_cons_succ, List.set_cons_zero]) | (refine wpE_quiet rfl ?_; go_big_quiet_step (fail); refine wpQuiet_nil ?_))
        all_goals (first | (refine E_of _ rfl rfl (fun w' hb => R_cell (HM.out.keep hb) rfl rfl (by (repeat (first | exact List.Mem.head _ | apply List.Mem.tail)); done) (by first | exact ints_get _ (by decide) | exact stC_sl _ (by decide) | exact stC_pl _ (by decide) (by decide) | exact stC_gm _ (by decide) (by decide) | assumption | rfl) Try.underlying3 rfl) ?_; simp only [Act.put, List.setIfInBounds_toArray, List.set_cons_succ, List.set_cons_zero]) | (refine E_of _ rfl rfl (fun w' hb => R_at ((HM.out.keep hb).rdi (by (repeat (first | exact RdIn.rd _ | exact RdIn.ow _ | apply RdIn.tail)); done)) rfl rfl (by first | assumption | rfl) Try.underlying3 rfl) ?_; simp only [Act.put, List.setIfInBounds_toArray, List.set_cons_succ, List.set_cons_zero]) | (refine wpE_quiet rfl ?_; go_big_quiet_step (fail); refine wpQuiet_nil ?_))
        all_goals ((refine wpE_quiet rfl ?_; go_big_quiet_step (fail); refine wpQuiet_nil ?_))
        all_goals ((refine wpE_quiet rfl ?_; go_big_quiet_step (fail); refine wpQuiet_nil ?_))
        all_goals (first | (refine E_of _ rfl rfl (fun w' hb => R_index1 ((HM.out.keep hb).rdi (by (repeat (first | exact RdIn.rd _ | exact RdIn.ow _ | apply RdIn.tail)); done)) rfl rfl rfl (by omega) (by omega) Try.underlying30 tsz_3) ?_; simp only [Act.put, List.setIfInBounds_toArray, List.set_cons_succ, List.set_cons_zero]) | (refine wpE_quiet rfl ?_; go_big_quiet_step (fail); refine wpQuiet_nil ?_))
        all_goals (first | (refine E_of _ rfl rfl (fun w' hb => R_cell (HM.out.keep hb) rfl rfl (by (repeat (first | exact List.Mem.head _ | apply List.Mem.tail)); done) (by first | exact ints_get _ (by decide) | exact stC_sl _ (by decide) | exact stC_pl _ (by decide) (by decide) | exact stC_gm _ (by decide) (by decide) | assumption | rfl) Try.underlying3 rfl) ?_; simp only [Act.put, List.setIfInBounds_toArray, List.set_cons_succ, List.set_cons_zero]) | (refine E_of _ rfl rfl (fun w' hb => R_at ((HM.out.keep hb).rdi (by (repeat (first | exact RdIn.rd _ | exact RdIn.ow _ | apply RdIn.tail)); done)) rfl rfl (by first | assumption | rfl) Try.underlying3 rfl) ?_; simp only [Act.put, List.setIfInBounds_toArray, List.set_cons_succ, List.set_cons_zero]) | (refine wpE_quiet rfl ?_; go_big_quiet_step (fail); refine wpQuiet_nil ?_))
        all_goals ((refine wpE_quiet rfl ?_; go_big_quiet_step (fail); refine wpQuiet_nil ?_))
        all_goals (refine wpE_nil ?_)
        all_goals (go_wp2_with fail)
        all_goals first
          | (go_ret; exact ⟨ret_bool (by have h1 := HD.out; have h2 := HS.out; simp_all), HM.out.below⟩)
          | (go_roundw
             case rel => exact ⟨k + 1, by omega, by go_num, Lib.hid (by have h1 := HD.out; have h2 := HS.out; simp_all), HM.out⟩
             case measure => simp [intOf]; omega)
      · obtain rfl : k = n := by omega
        go_wp2_with fail
        go_ret
        exact ⟨ret_bool (by rw [HD.out, List.drop_eq_nil_of_le (by have := HL.out; omega), List.drop_eq_nil_of_le (by have := HL'.out; omega)]; rfl), HM.out.below⟩
  · have HE : Hid ((l == l') = false) := Lib.hid (by
      rw [beq_eq_false_iff_ne]; rintro rfl; exact e (HL.out.symm.trans HL'.out))
    go_enter Try.func14, Try.ntmps14
    go_wp2_with fail
    go_ret
    exact ⟨ret_bool HE.out.symm, Below.refl _ _⟩
/-- rows of numbers side by side -/
def sameRows (sz : Nat) : List (Nat → Int) → List (Nat → Int) → Bool
  | [], [] => true
  | f :: l, g :: l' => sameTo f g 0 sz && sameRows sz l l'
  | _, _ => false
theorem drop_same (sz : Nat) {l l' : List (Nat → Int)} {k : Nat} (h : k < l.length) (h' : k < l'.length) : sameRows sz (l.drop k) (l'.drop k) = (sameTo l[k] l'[k] 0 sz && sameRows sz (l.drop (k + 1)) (l'.drop (k + 1))) := by
  rw [List.drop_eq_getElem_cons h, List.drop_eq_getElem_cons h']; rfl
theorem sameRows_len {sz : Nat} : ∀ {l l' : List (Nat → Int)}, l.length ≠ l'.length → sameRows sz l l' = false
  | [], [], h => absurd rfl h
  | [], _ :: _, _ => rfl
  | _ :: _, [], _ => rfl
  | f :: l, g :: l', h => by simp only [sameRows]; rw [sameRows_len (by simpa using h), Bool.and_false]
set_option maxHeartbeats 1000000 in
theorem Events_m (A A' : Option Addr) (n c n' c' : Nat) (l l' : List (Nat → Int)) (w : World) (h : Rd w 6 (.slice A n c) n (rowsC 6 l)) (h' : Rd w 6 (.slice A' n' c') n' (rowsC 6 l')) (hn : (n : Int) ≤ 9223372036854775807) :
    Calls Try.prog 18 #[.slice A n c, .slice A' n' c'] w (Ret w (.bool (sameRows 6 l l'))) := by
  have HL := Lib.hid (show l.length = n by have := h.len; rw [rowsC_len] at this; omega)
  have HL' := Lib.hid (show l'.length = n' by have := h'.len; rw [rowsC_len] at this; omega)
  have HM0 := Lib.hid (((Mem.start (o := none) w).addArg0 h').addArg0 h)
  clear h h'
  by_cases e : n = n'
  · subst e
    go_enter Try.func18, Try.ntmps18
    go_wp2_with fail
    go_loopw [13, 5] (fun iv _ wr => ∃ k : Nat, k ≤ n ∧ iv = .int .i64 k ∧ Hid (sameRows 6 l l' = sameRows 6 (l.drop k) (l'.drop k)) ∧ Mem none w wr [.rd 6 (.slice A n c) n (rowsC 6 l), .rd 6 (.slice A' n c') n (rowsC 6 l')]) (fun iv _ _ => n - (intOf iv).toNat)
    case atStart => exact ⟨0, by omega, rfl, Lib.hid (by simp), HM0.out⟩
    case round =>
      obtain ⟨k, hk, rfl, HD, hm⟩ := hrel
      have HM := Lib.hid hm
      clear hm
      by_cases hlt : k < n
      · have hkl : k < l.length := by have := HL.out; omega
        have hkl' : k < l'.length := by have := HL'.out; omega
        have HX := Lib.hid (rowsC_row (sz := 6) hkl)
        have HX' := Lib.hid (rowsC_row (sz := 6) hkl')
        have HS := Lib.hid (drop_same 6 hkl hkl')
        generalize l[k] = x at *
        generalize l'[k] = x' at *
        clear hkl hkl'
        go_wp2_with fail
        refine wp_region_E (id := 6) [(true, 0), (true, 1), (true, 2), (true, 3), (true, 4), (true, 5), (true, 6), (true, 7), (true, 8)] (by kernel_rfl) (by kernel_rfl) (by kernel_rfl) (by kernel_rfl) ?_
        replace HM := Lib.hid HM.out.drew
        all_goals ((refine wpE_quiet rfl ?_; go_big_quiet_step (fail); refine wpQuiet_nil ?_))
        all_goals ((refine wpE_quiet rfl ?_; go_big_quiet_step (fail); refine wpQuiet_nil ?_))
        all_goals (first | (refine E_of _ rfl rfl (fun w' hb => R_index ((HM.out.keep hb).rdi (by (repeat (first | exact RdIn.rd _ | exact RdIn.ow _ | apply RdIn.tail)); done)) rfl rfl rfl (by omega) (by omega) Try.underlying22 tsz_25 rfl) ?_; simp only [Act.put, List.setIfInBounds_toArray, List.set_cons_succ, List.set_cons_zero]) | (refine wpE_quiet rfl ?_; go_big_quiet_step (fail); refine wpQuiet_nil ?_))
        all_goals (first | (refine E_of _ rfl rfl (fun w' hb => R_row (HM.out.keep hb) rfl rfl (by (repeat (first | exact List.Mem.head _ | apply List.Mem.tail)); done) Try.underlying25 rfl (by first | (simp only [ints_size, stC_size, ls_size]; exact tsz_25) | exact tsz_25)) ?_; simp only [Act.put, List.setIfInBounds_toArray, List.set_cons_succ, List.set_cons_zero]) | (refine E_of _ rfl rfl (fun w' hb => R_ats ((HM.out.keep hb).rdi (by (repeat (first | exact RdIn.rd _ | exact RdIn.ow _ | apply RdIn.tail)); done)) _ rfl rfl (by assumption) (by first | (rw [ints_size]; omega) | decide | simp) Try.underlying25 rfl (by first | (simp only [ints_size, stC_size, ls_size]; exact tsz_25) | exact tsz_25)) ?_; simp only [Act.put, List.setIfInBounds_toArray, List.set_cons_succ, List.set_cons_zero]) | (refine E_of _ rfl rfl (fun w' hb => R_sub (HM.out.keep hb) _ rfl rfl (by (repeat (first | exact List.Mem.head _ | apply List.Mem.tail)); done) (by assumption) Try.underlying25 rfl (by first | (simp only [ints_size, stC_size, ls_size]; exact tsz_25) | exact tsz_25)) ?_; simp only [Act.put, List.setIfInBounds_toArray, List.set_cons_succ, List.set_cons_zero]) | (refine wpE_quiet rfl ?_; go_big_quiet_step (fail); refine wpQuiet_nil ?_))
        all_goals ((refine wpE_quiet rfl ?_; go_big_quiet_step (fail); refine wpQuiet_nil ?_))
        all_goals ((refine wpE_quiet rfl ?_; go_big_quiet_step (fail); refine wpQuiet_nil ?_))
        all_goals (first | (refine E_of _ rfl rfl (fun w' hb => R_index ((HM.out.keep hb).rdi (by (repeat (first | exact RdIn.rd _ | exact RdIn.ow _ | apply RdIn.tail)); done)) rfl rfl rfl (by omega) (by omega) Try.underlying22 tsz_25 rfl) ?_; simp only [Act.put, List.setIfInBounds_toArray, List.set_cons_succ, List.set_cons_zero]) | (refine wpE_quiet rfl ?_; go_big_quiet_step (fail); refine wpQuiet_nil ?_))
        all_goals (first | (refine E_of _ rfl rfl (fun w' hb => R_row (HM.out.keep hb) rfl rfl (by (repeat (first | exact List.Mem.head _ | apply List.Mem.tail)); done) Try.underlying25 rfl (by first | (simp only [ints_size, stC_size, ls_size]; exact tsz_25) | exact tsz_25)) ?_; simp only [Act.put, List.setIfInBounds_toArray, List.set_cons_succ, List.set_cons_zero]) | (refine E_of _ rfl rfl (fun w' hb => R_ats ((HM.out.keep hb).rdi (by (repeat (first | exact RdIn.rd _ | exact RdIn.ow _ | apply RdIn.tail)); done)) _ rfl rfl (by assumption) (by first | (rw [ints_size]; omega) | decide | simp) Try.underlying25 rfl (by first | (simp only [ints_size, stC_size, ls_size]; exact tsz_25) | exact tsz_25)) ?_; simp only [Act.put, List.setIfInBounds_toArray, List.set_cons_succ, List.set_cons_zero]) | (refine E_of _ rfl rfl (fun w' hb => R_sub (HM.out.keep hb) _ rfl rfl (by (repeat (first | exact List.Mem.head _ | apply List.Mem.tail)); done) (by assumption) Try.underlying25 rfl (by first | (simp only [ints_size, stC_size, ls_size]; exact tsz_25) | exact tsz_25)) ?_; simp only [Act.put, List.setIfInBounds_toArray, List.set_cons_succ, List.set_cons_zero]) | (refine wpE_quiet rfl ?_; go_big_quiet_step (fail); refine wpQuiet_nil ?_))
        all_goals (first | (refine E_of _ rfl rfl (fun w' hb => run_eqops _ _ _ _ rfl rfl rfl tgd_25 (fun w => tneq_25 _ _ w)) ?_; simp only [Act.put, List.setIfInBounds_toArray, List.set_cons_succ, List.set_cons_zero]) | (refine wpE_quiet rfl ?_; go_big_quiet_step (fail); refine wpQuiet_nil ?_))
        all_goals (refine wpE_nil ?_)
        all_goals (go_wp2_with fail)
        all_goals first
          | (go_ret; exact ⟨ret_bool (by have h1 := HD.out; have h2 := HS.out; simp_all), HM.out.below⟩)
          | (go_roundw
             case rel => exact ⟨k + 1, by omega, by go_num, Lib.hid (by have h1 := HD.out; have h2 := HS.out; simp_all), HM.out⟩
             case measure => simp [intOf]; omega)
      · obtain rfl : k = n := by omega
        go_wp2_with fail
        go_ret
        exact ⟨ret_bool (by rw [HD.out, List.drop_eq_nil_of_le (by have := HL.out; omega), List.drop_eq_nil_of_le (by have := HL'.out; omega)]; rfl), HM.out.below⟩
  · have HE : Hid (sameRows 6 l l' = false) := Lib.hid (by
      exact sameRows_len (by rw [HL.out, HL'.out]; exact e))
    go_enter Try.func18, Try.ntmps18
    go_wp2_with fail
    go_ret
    exact ⟨ret_bool HE.out.symm, Below.refl _ _⟩
theorem sameRows_self (sz : Nat) : ∀ l : List (Nat → Int), sameRows sz l l = true
  | [] => rfl
  | f :: l => by simp only [sameRows]; rw [sameRows_self sz l, sameTo_iff]; simp
theorem beq_self_i (l : List Int) : (l == l) = true := by simp
end Go.Proofs.Ytlgfnimahmmgeaa
