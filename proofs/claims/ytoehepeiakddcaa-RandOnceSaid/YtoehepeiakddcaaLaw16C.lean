/-
  RandOnce: for any draws, cursor and number the law answers true.
-/
import Derived.Test.YtoehepeiakddcaaLaw16A
namespace Go.Proofs.Ytoehepeiakddcaa
open Go.RowKit
set_option linter.unusedVariables false

theorem bool_info : (Try.prog.info? 4).map (fun i => (i.zero, i.size, i.bytes)) = some (some (.bool false), 1, 1) := by kernel_rfl
/-- which places were met among the first j -/
def seenL (out : List Int) (j m : Nat) : List Value := (List.range m).map fun i : Nat => .bool (decide ((i : Int) ∈ out.take j))
theorem seenL_len (out : List Int) (j m : Nat) : (seenL out j m).length = m := by simp [seenL]
theorem seenL_zero (out : List Int) (m : Nat) : seenL out 0 m = List.replicate m (.bool false) := by
  simp [seenL, List.map_const']
theorem seenL_get {out : List Int} {j m i : Nat} (h : i < m) : (seenL out j m)[i]'(by rw [seenL_len]; exact h) = .bool (decide ((i : Int) ∈ out.take j)) := by simp [seenL]
theorem seenL_set {out : List Int} {j m x : Nat} (hj : j < out.length) (hx : out[j] = (x : Int)) : (seenL out j m).set x (.bool true) = seenL out (j + 1) m := by
  apply List.ext_getElem
  · simp [seenL]
  · intro i h1 h2
    have him : i < m := by simpa [seenL] using h2
    rw [List.getElem_set, seenL_get him, seenL_get him, List.take_succ_eq_append_getElem hj]
    by_cases h : x = i
    · subst h; simp [hx]
    · rw [if_neg h, hx]
      have : ¬ (i : Int) = (x : Int) := by omega
      simp [this]
theorem not_seen {out : List Int} {j : Nat} (hj : j < out.length) (hI : mth.Inj out) : ¬ out[j] ∈ out.take j := by
  intro h
  obtain ⟨i, hi, e⟩ := List.getElem_of_mem h
  rw [List.getElem_take] at e
  have h1 : i < j := by simp at hi; omega
  have := hI i j (by omega) hj e
  omega

set_option maxRecDepth 100000 in
set_option maxHeartbeats 2000000 in
theorem RandOnce_c (A : Option Addr) (n cp : Nat) (l : List Int) (c m : Int) (w : World) (ha : At w A n (i64s l)) (hl : l.length = n) (hok : Ok64 l) (hcap : n ≤ cp)
    (c1 : -9223372036854775808 ≤ c) (c2 : c ≤ 9223372036854775807) (m1 : -9223372036854775808 ≤ m) (m2 : m ≤ 9223372036854775807) :
    Calls Try.prog 4 #[.slice A n cp, .int .i64 c, .int .i64 m] w (Ret w (.bool true)) := by
  have HA := Lib.hid ha
  have HL := Lib.hid hl
  have HO := Lib.hid hok
  by_cases hn : (5000 : Int) < (n : Int)
  · clear ha hl hok
    go_enter Try.func4, Try.ntmps4
    go_wp2_with (go_at_call 7; refine (alive_c _).mono ?_; rintro e w1 ⟨rfl, hb1⟩)
    go_ret
    exact ⟨rfl, hb1⟩
  have hleft : 0 ≤ c → leftN n c = max ((n : Int) - c) 0 := fun h => by unfold leftN; rw [if_pos h]
  by_cases hbad : m < 0 ∨ 400 < m ∨ c < 0 ∨ (4096 : Int) < l.length ∨ (0 ≤ c ∧ max ((l.length : Int) - c) 0 < max m 1 - 1)
  · obtain ⟨b1, b2, b3⟩ := mth.ord_bad l c m hbad
    rw [HL.out] at hbad
    have hc : m < 0 ∨ (¬ m < 0 ∧ 400 < m) ∨ (¬ m < 0 ∧ ¬ 400 < m ∧ c < 0) ∨ (¬ m < 0 ∧ ¬ 400 < m ∧ ¬ c < 0 ∧ (4096 : Int) < n) ∨ (¬ m < 0 ∧ ¬ 400 < m ∧ ¬ c < 0 ∧ ¬ (4096 : Int) < n ∧ leftN n c < max m 1 - 1) := by
      by_cases h : 0 ≤ c
      · rw [hleft h]; omega
      · omega
    clear hleft hbad
    obtain ⟨E, hE⟩ : ∃ E, mth.ordErr l.length c m = E := ⟨_, rfl⟩
    rw [hE] at b1
    have HE := Lib.hid hE
    have HB2 := Lib.hid b2
    have HB3 := Lib.hid b3
    have HV := Lib.hid (errV_ne b1)
    clear hE b1 b2 b3 ha hl hok
    rcases hc with h1 | ⟨h1, h2⟩ | ⟨h1, h2, h3⟩ | ⟨h1, h2, h3, h4⟩ | ⟨h1, h2, h3, h4, h5⟩
    all_goals (
      go_enter Try.func4, Try.ntmps4
      go_wp2_with (first
        | (go_at_call 7; refine (alive_c _).mono ?_; rintro e w1 ⟨rfl, hb1⟩; have HB1 := Lib.hid hb1; clear hb1)
        | (go_at_call 8; refine (Order_c A n cp l c m _ (HA.out.keep HB1.out) HL.out HO.out (by omega) c1 c2 m1 m2).mono ?_; rintro e w3 ⟨v3, rfl, hs3, hb3⟩; rw [HE.out, HV.out, HB3.out]; rw [HB2.out] at hs3; obtain ⟨A3, c3, rfl, _⟩ := hs3; have HB4 := Lib.hid (HB1.out.trans (hb3.mono HB1.out.size)); clear hb3)
        | (go_at_call 12; refine (Left_c _ _ _ _ _ (by omega) c1 c2).mono ?_; rintro e w' ⟨rfl, rfl⟩)
        | (go_at_call 13; refine (Needs_c _ _ m1 m2).mono ?_; rintro e w' ⟨rfl, rfl⟩))
      go_ret
      first | exact ⟨rfl, HB4.out⟩ | exact ⟨ret_bool (by simp; omega), HB4.out⟩)
  · obtain ⟨g1, g2, g3, g4, g5⟩ := mth.ord_good l c m hbad
    rw [HL.out] at hbad
    obtain ⟨h1, h2, h3, h4, h5⟩ : ¬ m < 0 ∧ ¬ 400 < m ∧ ¬ c < 0 ∧ ¬ (4096 : Int) < n ∧ c + (max m 1 - 1) ≤ 9223372036854775807 := by omega
    obtain ⟨q, rfl⟩ : ∃ q : Nat, m = (q : Int) := ⟨m.toNat, by omega⟩
    rw [Int.toNat_natCast] at g3
    obtain ⟨out, hout⟩ : ∃ out, mth.ordL l c q = out := ⟨_, rfl⟩
    rw [hout] at g3 g4 g5
    have HOUT := Lib.hid hout
    clear hout
    have G1 := Lib.hid g1
    have G2 := Lib.hid g2
    have G3 := Lib.hid g3
    have G4 := Lib.hid g4
    have G5 := Lib.hid g5
    clear g1 g2 g3 g4 g5 hleft hbad ha hl hok
    obtain ⟨i0, hi, hz0, hz1, hz2⟩ := info_parts bool_info
    have hmk := fun W => run_make_row (P := Try.prog) W 35 4 i0 _ Try.underlying35 hi hz0 rfl hz1 q (by rw [hz2]; omega) (by simp only [maxLen]; omega)
    go_enter Try.func4, Try.ntmps4
    go_wp2_with (first
      | (go_at_call 7; refine (alive_c _).mono ?_; rintro e w1 ⟨rfl, hb1⟩; have HB1 := Lib.hid hb1; clear hb1)
      | (go_at_call 8; refine (Order_c A n cp l c q _ (HA.out.keep HB1.out) HL.out HO.out (by omega) c1 c2 m1 m2).mono ?_; rintro e w3 ⟨v3, rfl, hs3, hb3⟩; rw [G1.out, G2.out, errV_zero]; rw [HOUT.out, G3.out] at hs3; obtain ⟨A3, c3, rfl, hc3, hl3, ha3⟩ := hs3.rd; have HA3 := Lib.hid ha3; have HB4 := Lib.hid (HB1.out.trans (hb3.mono HB1.out.size)); clear hb3 hs3 ha3 hl3)
      | (go_at_call 13; refine (Needs_c _ _ m1 m2).mono ?_; rintro e w' ⟨rfl, rfl⟩))
    have HB5 := Lib.hid (HB4.out.alloc HB4.out.size (.cells (madeCells #[.bool false] q) 4))
    have HOW : Hid (Ow (w3.alloc (.cells (madeCells #[.bool false] q) 4)) w.heap.size 1 (.slice (some ⟨w3.heap.size, 0, none⟩) q q) q (seenL out 0 q)) := Lib.hid (by rw [seenL_zero]; exact ow_made w3 4 (.bool false) q w.heap.size HB4.out.size)
    clear hmk
    go_loopw [76] (fun iv wr => ∃ j : Nat, j ≤ q ∧ iv = .int .i64 j ∧ Ow wr w.heap.size 1 (.slice (some ⟨w3.heap.size, 0, none⟩) q q) q (seenL out j q) ∧ Below w3.heap.size w3 wr) (fun iv _ => q - (intOf iv).toNat)
    case atStart => exact ⟨0, by omega, rfl, HOW.out, (Below.refl _ _).alloc (Nat.le_refl _) _⟩
    case round =>
      obtain ⟨j, hj, rfl, how, hbr⟩ := hrel
      have HO1 := Lib.hid how
      have HBR := Lib.hid hbr
      clear how hbr HOW
      by_cases hlt : j < q
      · obtain ⟨ad, rfl, hcell, _⟩ := HA3.out.int' G3.out hlt HBR.out
        have hjl : j < out.length := by have := G3.out; omega
        have hx := G5.out out[j] (List.getElem_mem _)
        have hns := not_seen hjl G4.out
        obtain ⟨x, hxx⟩ : ∃ x : Nat, out[j] = (x : Int) := ⟨out[j].toNat, by omega⟩
        have HSS := Lib.hid (seenL_set (m := q) hjl hxx)
        rw [hxx] at hx hns hcell
        clear hxx
        have hxq : x < q := by omega
        obtain ⟨p1, p2, _, hws⟩ := HO1.out.cell0 hxq
        rw [seenL_get hxq, decide_eq_false hns] at p1
        have HSET := Lib.hid (HO1.out.set0 hxq (.bool true))
        clear hns
        obtain ⟨x1, x2⟩ := hx
        go_wp2
        go_roundw
        case rel => exact ⟨j + 1, by omega, by go_num, by rw [← HSS.out]; exact HSET.out, HBR.out.setCell (Nat.le_refl _) _⟩
        case measure => simp [intOf]; omega
      · obtain rfl : j = q := by omega
        go_wp2
        go_ret
        exact ⟨rfl, HB4.out.trans (HBR.out.mono HB4.out.size)⟩
end Go.Proofs.Ytoehepeiakddcaa
