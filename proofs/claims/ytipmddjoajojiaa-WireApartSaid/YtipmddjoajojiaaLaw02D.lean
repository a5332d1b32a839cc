/-
  WireApart: unlike lists have unlike bytes, and what is taken has just those bytes.
-/
import Derived.Test.YtipmddjoajojiaaLaw02C
import Derived.Test.YtipmddjoajojiaaKitT
namespace Go.Proofs.Ytipmddjoajojiaa
open Go.RowKit
set_option linter.unusedVariables false

theorem rd_take {w : World} {A : Option Addr} {n c m : Nat} {l : List Nat} (h : At w A n (u8s l)) (hl : l.length = n) (hm : m ≤ n) (hc : n ≤ c) : Rd w 1 (.slice A m c) m (u8s (l.take m)) := by
  refine ⟨_, _, rfl, by omega, by simp [u8s_len]; omega, fun h0 => ?_⟩
  obtain ⟨ad, e, hb, hcell⟩ := h (by omega)
  refine ⟨ad, e, hb, fun j u hu => hcell j u ?_⟩
  rw [show u8s (l.take m) = (u8s l).take m from by simp [u8s]] at hu
  rw [List.getElem?_take] at hu
  split at hu
  · exact hu
  · cases hu

theorem apart_beq {a b : List Int} (ha : Ok64 a) (hb : Ok64 b) (hla : (a.length : Int) ≤ 9223372036854775807) (hlb : (b.length : Int) ≤ 9223372036854775807) {m : Nat} (hm : m = min (mth.encL a).length (mth.encL b).length) :
    ((strOf ((mth.encL a).take m)).toList == (strOf ((mth.encL b).take m)).toList) = decide (a = b) := by
  rw [strOf_beq (fun x hx => encL_byte ha hla x (List.mem_of_mem_take hx)) (fun x hx => encL_byte hb hlb x (List.mem_of_mem_take hx))]
  by_cases h : a = b
  · subst h; simp
  · rw [decide_eq_false h, decide_eq_false]
    intro e
    rw [hm] at e
    exact h (mth.encL_apart a b ha hb hla hlb e)
set_option maxRecDepth 100000 in
set_option maxHeartbeats 2000000 in
theorem WireApart_1 (A B C : Option Addr) (n c n' c' n2 c2 : Nat) (a b : List Int) (r : List Nat) (w : World) (ha : At w A n (i64s a)) (hb : At w B n' (i64s b)) (hr : At w C n2 (u8s r)) (hla : a.length = n) (hlb : b.length = n') (hlr : r.length = n2) (hoa : Ok64 a) (hob : Ok64 b) (hor : ∀ x ∈ r, x < 256) (hc : n ≤ c) (hc' : n' ≤ c') (hc2 : n2 ≤ c2) (hn : (n : Int) ≤ 300) (hn' : (n' : Int) ≤ 300) (hn2 : (n2 : Int) ≤ 300) :
    Calls Try.prog 6 #[.slice A n c, .slice B n' c', .slice C n2 c2] w (Ret w (.bool true)) := by
  have HRA : Hid (Rd w 1 (.slice A n c) n (i64s a)) := Lib.hid ⟨A, c, rfl, hc, by rw [i64s_len]; omega, ha⟩
  have HRB : Hid (Rd w 1 (.slice B n' c') n' (i64s b)) := Lib.hid ⟨B, c', rfl, hc', by rw [i64s_len]; omega, hb⟩
  have HRC : Hid (Rd w 1 (.slice C n2 c2) n2 (u8s r)) := Lib.hid ⟨C, c2, rfl, hc2, by rw [u8s_len]; omega, hr⟩
  have HA := Lib.hid ha
  have HB := Lib.hid hb
  have HC := Lib.hid hr
  have HLA := Lib.hid hla
  have HLB := Lib.hid hlb
  have HLC := Lib.hid hlr
  have HOA := Lib.hid hoa
  have HOB := Lib.hid hob
  have HOC := Lib.hid hor
  have HAP := Lib.hid (fun m hm => apart_beq (m := m) hoa hob (by omega) (by omega) hm)
  have HLX := Lib.hid (encL_len a)
  have HLY := Lib.hid (encL_len b)
  obtain ⟨p, hp⟩ : ∃ p, (mth.encL a).length = p := ⟨_, rfl⟩
  obtain ⟨q, hq⟩ : ∃ q, (mth.encL b).length = q := ⟨_, rfl⟩
  have HP := Lib.hid hp
  have HQ := Lib.hid hq
  clear ha hb hr hla hlb hlr hoa hob hor hp hq
  go_enter Try.func6, Try.ntmps6
  go_wp2_with (go_at_call 7; refine (alive_c _).mono ?_; rintro e w1 ⟨rfl, hb1⟩)
  refine (PutList_nil A n c a _ (HA.out.mono hb1.size (fun q hq => hb1.cell hq)) HLA.out HOA.out (by omega)).mono ?_
  rintro e w2 ⟨v2, rfl, hs2, hb2⟩
  rw [HP.out] at hs2
  obtain ⟨A1, c1, rfl, hc1, _, ha1⟩ := hs2.rd
  have hbb := hb1.trans (hb2.mono hb1.size)
  go_wp2_with fail
  refine (PutList_nil B n' c' b _ (HB.out.mono hbb.size (fun q hq => hbb.cell hq)) HLB.out HOB.out (by omega)).mono ?_
  rintro e w3 ⟨v3, rfl, hs3, hb3⟩
  rw [HQ.out] at hs3
  obtain ⟨A2, c2', rfl, hc2', _, ha2⟩ := hs3.rd
  have hbc := hbb.trans (hb3.mono hbb.size)
  go_wp2_with fail
  · have hbd : Below w.heap.size w w3 := hbc
    have e1 := HAP.out q (by rw [HP.out, HQ.out]; omega)
    have q1 := str_later (w := w3.drew) (((rd_take (m := q) ha1 HP.out (by omega) hc1).below hb3).below ((Below.refl _ _).drew))
    have q2 := str_later (w := w3.drew) ((rd_take (m := q) ha2 HQ.out (by omega) hc2').below ((Below.refl _ _).drew))
    refine wp_region_E [(true, 0), (true, 1), (true, 2), (true, 3), (true, 4), (true, 5), (true, 6), (true, 7), (true, 8), (true, 9), (true, 10), (false, 11), (true, 12)] (by kernel_rfl) (by kernel_rfl) (by kernel_rfl) (by kernel_rfl) ?_
    repeat (refine wpE_quiet rfl ?_; go_big_quiet_step (fail); refine wpQuiet_nil ?_)
    refine wpE_event rfl rfl (fun K hK => ?_)
    go_step
    refine (Ints_rd ((HRA.out.below hbc).below ((Below.refl _ _).drew)) ((HRB.out.below hbc).below ((Below.refl _ _).drew)) (by omega) (by omega)).mono ?_
    rintro e w4 ⟨rfl, hb4⟩
    refine hK _ _ (Lat.of hb4) ?_
    clear hK K
    repeat (refine wpE_quiet rfl ?_; go_big_quiet_step (fail); refine wpQuiet_nil ?_)
    refine wpE_nil ?_
    have hbe : Below w.heap.size w w4 := hbc.drew.trans (hb4.mono (by have := hbc.size; simpa using this))
    clear q1 q2
    obtain ⟨L, R, F, hL2⟩ : ∃ L R F, mth.tkL r 400 = (L, R, F) := ⟨_, _, _, rfl⟩
    by_cases hF : F = 0
    · subst hF
      go_wp2_with (go_at_call 17; refine (TakeList_ok hL2 (HC.out.mono hbe.size (fun q hq => hbe.cell hq)) HLC.out HOC.out hc2 (by omega)).mono ?_; rintro e w6 ⟨v6, r6, rfl, hs6, hr6, hb6⟩)
      have hbg := hbe.trans (hb6.mono hbe.size)
      obtain ⟨hcan, hokL, _⟩ := mth.tkL_canon r 400 L R HOC.out hL2
      have hLl := tkL_len HOC.out hL2
      have HHL := Lib.hid hLl
      obtain ⟨A4, c4, rfl, hc4, hl4, ha4⟩ := hs6
      clear hl4
      have HCAN := Lib.hid hcan
      have HOKL := Lib.hid hokL
      have HA4 := Lib.hid ha4
      clear hcan hokL ha4
      have hHn := Lib.hid hn2
      clear hLl hn hn' hn2
      have q1 := str_later (w := w6.drew) (hr6.below ((Below.refl _ _).drew))
      have q2 := str_later (w := w6.drew) ((HRC.out.below hbg).below ((Below.refl _ _).drew))
      refine wp_region_E [(true, 0), (true, 1), (true, 2), (true, 3), (true, 6), (true, 7), (true, 9), (true, 10), (false, 4), (true, 5), (true, 8), (true, 11), (true, 12), (true, 13)] (by kernel_rfl) (by kernel_rfl) (by kernel_rfl) (by kernel_rfl) ?_
      repeat (refine wpE_quiet rfl ?_; go_big_quiet_step (fail); refine wpQuiet_nil ?_)
      refine wpE_event rfl rfl (fun K hK => ?_)
      go_step
      refine (PutList_nil A4 L.length c4 L _ (At.mono (w' := w6.drew) HA4.out (Nat.le_refl _) (fun _ _ => rfl)) rfl HOKL.out (by have := HHL.out; have := HLC.out; have := hHn.out; omega)).mono ?_
      rintro e w7 ⟨v7, rfl, hs7, hb7⟩
      refine hK _ _ (Lat.of hb7) ?_
      clear hK K
      have hsz := HLC.out
      have hcl : (mth.encL L).length + R.length = r.length := by rw [← HCAN.out, List.length_append]
      have q3 := str_later hs7.rd
      have q4 := fun W => run_add (P := Try.prog) W (mth.encL L) R (by have := hHn.out; omega)
      rw [HCAN.out] at q4
      clear hsz hcl
      have HQ7 := Lib.hid hb7
      clear hs7 hb7
      repeat (refine wpE_quiet rfl ?_; go_big_quiet_step (fail); refine wpQuiet_nil ?_)
      refine wpE_nil ?_
      go_wp2_with fail
      go_ret
      exact ⟨rfl, hbg.drew.trans (HQ7.out.mono (by have := hbg.size; simpa using this))⟩
    · go_wp2_with (go_at_call 17; refine (TakeList_bad hL2 hF (HC.out.mono hbe.size (fun q hq => hbe.cell hq)) HLC.out HOC.out hc2 (by omega)).mono ?_; rintro e w6 ⟨v6, A6, c6, rfl, hs6, hb6⟩)
      have hbg := hbe.trans (hb6.mono hbe.size)
      refine wp_region_E [(true, 0), (true, 1), (true, 2), (true, 3), (true, 6), (true, 7), (true, 9), (true, 10), (false, 4), (true, 5), (true, 8), (true, 11), (true, 12), (true, 13)] (by kernel_rfl) (by kernel_rfl) (by kernel_rfl) (by kernel_rfl) ?_
      repeat (refine wpE_quiet rfl ?_; go_big_quiet_step (fail); refine wpQuiet_nil ?_)
      refine wpE_skip rfl rfl ?_
      go_simp
      repeat (refine wpE_quiet rfl ?_; go_big_quiet_step (fail); refine wpQuiet_nil ?_)
      refine wpE_nil ?_
      go_wp2_with fail
      go_ret
      exact ⟨rfl, hbg.drew⟩
  · have hbd : Below w.heap.size w w3 := hbc
    have e1 := HAP.out p (by rw [HP.out, HQ.out]; omega)
    have q1 := str_later (w := w3.drew) (((rd_take (m := p) ha1 HP.out (by omega) hc1).below hb3).below ((Below.refl _ _).drew))
    have q2 := str_later (w := w3.drew) ((rd_take (m := p) ha2 HQ.out (by omega) hc2').below ((Below.refl _ _).drew))
    refine wp_region_E [(true, 0), (true, 1), (true, 2), (true, 3), (true, 4), (true, 5), (true, 6), (true, 7), (true, 8), (true, 9), (true, 10), (false, 11), (true, 12)] (by kernel_rfl) (by kernel_rfl) (by kernel_rfl) (by kernel_rfl) ?_
    repeat (refine wpE_quiet rfl ?_; go_big_quiet_step (fail); refine wpQuiet_nil ?_)
    refine wpE_event rfl rfl (fun K hK => ?_)
    go_step
    refine (Ints_rd ((HRA.out.below hbc).below ((Below.refl _ _).drew)) ((HRB.out.below hbc).below ((Below.refl _ _).drew)) (by omega) (by omega)).mono ?_
    rintro e w4 ⟨rfl, hb4⟩
    refine hK _ _ (Lat.of hb4) ?_
    clear hK K
    repeat (refine wpE_quiet rfl ?_; go_big_quiet_step (fail); refine wpQuiet_nil ?_)
    refine wpE_nil ?_
    have hbe : Below w.heap.size w w4 := hbc.drew.trans (hb4.mono (by have := hbc.size; simpa using this))
    clear q1 q2
    obtain ⟨L, R, F, hL2⟩ : ∃ L R F, mth.tkL r 400 = (L, R, F) := ⟨_, _, _, rfl⟩
    by_cases hF : F = 0
    · subst hF
      go_wp2_with (go_at_call 17; refine (TakeList_ok hL2 (HC.out.mono hbe.size (fun q hq => hbe.cell hq)) HLC.out HOC.out hc2 (by omega)).mono ?_; rintro e w6 ⟨v6, r6, rfl, hs6, hr6, hb6⟩)
      have hbg := hbe.trans (hb6.mono hbe.size)
      obtain ⟨hcan, hokL, _⟩ := mth.tkL_canon r 400 L R HOC.out hL2
      have hLl := tkL_len HOC.out hL2
      have HHL := Lib.hid hLl
      obtain ⟨A4, c4, rfl, hc4, hl4, ha4⟩ := hs6
      clear hl4
      have HCAN := Lib.hid hcan
      have HOKL := Lib.hid hokL
      have HA4 := Lib.hid ha4
      clear hcan hokL ha4
      have hHn := Lib.hid hn2
      clear hLl hn hn' hn2
      have q1 := str_later (w := w6.drew) (hr6.below ((Below.refl _ _).drew))
      have q2 := str_later (w := w6.drew) ((HRC.out.below hbg).below ((Below.refl _ _).drew))
      refine wp_region_E [(true, 0), (true, 1), (true, 2), (true, 3), (true, 6), (true, 7), (true, 9), (true, 10), (false, 4), (true, 5), (true, 8), (true, 11), (true, 12), (true, 13)] (by kernel_rfl) (by kernel_rfl) (by kernel_rfl) (by kernel_rfl) ?_
      repeat (refine wpE_quiet rfl ?_; go_big_quiet_step (fail); refine wpQuiet_nil ?_)
      refine wpE_event rfl rfl (fun K hK => ?_)
      go_step
      refine (PutList_nil A4 L.length c4 L _ (At.mono (w' := w6.drew) HA4.out (Nat.le_refl _) (fun _ _ => rfl)) rfl HOKL.out (by have := HHL.out; have := HLC.out; have := hHn.out; omega)).mono ?_
      rintro e w7 ⟨v7, rfl, hs7, hb7⟩
      refine hK _ _ (Lat.of hb7) ?_
      clear hK K
      have hsz := HLC.out
      have hcl : (mth.encL L).length + R.length = r.length := by rw [← HCAN.out, List.length_append]
      have q3 := str_later hs7.rd
      have q4 := fun W => run_add (P := Try.prog) W (mth.encL L) R (by have := hHn.out; omega)
      rw [HCAN.out] at q4
      clear hsz hcl
      have HQ7 := Lib.hid hb7
      clear hs7 hb7
      repeat (refine wpE_quiet rfl ?_; go_big_quiet_step (fail); refine wpQuiet_nil ?_)
      refine wpE_nil ?_
      go_wp2_with fail
      go_ret
      exact ⟨rfl, hbg.drew.trans (HQ7.out.mono (by have := hbg.size; simpa using this))⟩
    · go_wp2_with (go_at_call 17; refine (TakeList_bad hL2 hF (HC.out.mono hbe.size (fun q hq => hbe.cell hq)) HLC.out HOC.out hc2 (by omega)).mono ?_; rintro e w6 ⟨v6, A6, c6, rfl, hs6, hb6⟩)
      have hbg := hbe.trans (hb6.mono hbe.size)
      refine wp_region_E [(true, 0), (true, 1), (true, 2), (true, 3), (true, 6), (true, 7), (true, 9), (true, 10), (false, 4), (true, 5), (true, 8), (true, 11), (true, 12), (true, 13)] (by kernel_rfl) (by kernel_rfl) (by kernel_rfl) (by kernel_rfl) ?_
      repeat (refine wpE_quiet rfl ?_; go_big_quiet_step (fail); refine wpQuiet_nil ?_)
      refine wpE_skip rfl rfl ?_
      go_simp
      repeat (refine wpE_quiet rfl ?_; go_big_quiet_step (fail); refine wpQuiet_nil ?_)
      refine wpE_nil ?_
      go_wp2_with fail
      go_ret
      exact ⟨rfl, hbg.drew⟩
theorem WireApart_c (A B C : Option Addr) (n c n' c' n2 c2 : Nat) (a b : List Int) (r : List Nat) (w : World) (ha : At w A n (i64s a)) (hb : At w B n' (i64s b)) (hr : At w C n2 (u8s r)) (hla : a.length = n) (hlb : b.length = n') (hlr : r.length = n2) (hoa : Ok64 a) (hob : Ok64 b) (hor : ∀ x ∈ r, x < 256) (hc : n ≤ c) (hc' : n' ≤ c') (hc2 : n2 ≤ c2) :
    Calls Try.prog 6 #[.slice A n c, .slice B n' c', .slice C n2 c2] w (Ret w (.bool true)) := by
  by_cases h : (n : Int) ≤ 300 ∧ (n' : Int) ≤ 300 ∧ (n2 : Int) ≤ 300
  · exact WireApart_1 A B C n c n' c' n2 c2 a b r w ha hb hr hla hlb hlr hoa hob hor hc hc' hc2 h.1 h.2.1 h.2.2
  · have h' : (300 : Int) < n ∨ (¬ (300 : Int) < n ∧ (300 : Int) < n') ∨ (¬ (300 : Int) < n ∧ ¬ (300 : Int) < n' ∧ (300 : Int) < n2) := by omega
    clear h ha hb hr hla hlb hlr hoa hob hor
    rcases h' with h1 | ⟨h1, h2⟩ | ⟨h1, h2, h3⟩
    all_goals (
      go_enter Try.func6, Try.ntmps6
      go_wp2_with (go_at_call 7; refine (alive_c _).mono ?_; rintro e w1 ⟨rfl, hb1⟩)
      go_ret
      exact ⟨rfl, hb1⟩)
end Go.Proofs.Ytipmddjoajojiaa
