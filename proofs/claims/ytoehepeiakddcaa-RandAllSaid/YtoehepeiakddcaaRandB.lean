/-
  Contracts: the document's pick.
-/
import Derived.Test.YtoehepeiakddcaaRandA
import Derived.RegionTactic
import Derived.ChangeAlike
import Derived.BigRegion
namespace Go.Proofs.Ytoehepeiakddcaa
open Go.RowKit
set_option linter.unusedVariables false

def intV (n : Int) : Value := .int .i64 n
set_option maxRecDepth 100000 in
theorem refPick_c (A : Option Addr) (n cp : Nat) (l : List Int) (c m : Int) (w : World) (ha : At w A n (i64s l)) (hl : l.length = n) (hok : Ok64 l) (hn : (n : Int) ≤ 9223372036854775807)
    (c1 : -9223372036854775808 ≤ c) (c2 : c ≤ 9223372036854775807) (m1 : -9223372036854775808 ≤ m) (m2 : m ≤ 9223372036854775807) :
    Calls Try.prog 15 #[.slice A n cp, .int .i64 c, .int .i64 m] w fun e w' => e = .returned (PickV intV l c m) ∧ w = w' := by
  have HA := Lib.hid ha
  have HL := Lib.hid hl
  have HO := Lib.hid hok
  clear ha hl hok
  have hcases := mth.pk_cases l c m
  rcases hcases with ⟨h1, e1⟩ | ⟨h1, h2, e1⟩ | ⟨h1, h2, h3, e1⟩ | ⟨h1, h2, h3, e1⟩
  all_goals (
    have E1 := Lib.hid e1
    clear e1
    rw [HL.out] at h1)
  · go_enter Try.func15, Try.ntmps15
    go_wp2
    go_ret3
    exact ⟨pickV_err E1.out rfl, rfl⟩
  · have h3 : m < 1 ∨ (¬ m < 1 ∧ c < 0) := by omega
    clear h2
    rcases h3 with h2 | ⟨h2, h3⟩
    all_goals (
      go_enter Try.func15, Try.ntmps15
      go_wp2
      go_ret3
      exact ⟨pickV_err E1.out rfl, rfl⟩)
  · obtain ⟨h4, h5⟩ : ¬ m < 1 ∧ ¬ c < 0 := by omega
    clear h2
    rw [HL.out] at h3
    go_enter Try.func15, Try.ntmps15
    go_wp2
    go_ret3
    exact ⟨pickV_err E1.out rfl, rfl⟩
  · obtain ⟨h4, h5⟩ : ¬ m < 1 ∧ ¬ c < 0 := by omega
    clear h2
    rw [HL.out] at h3
    obtain ⟨k, rfl⟩ : ∃ k : Nat, c = (k : Int) := ⟨c.toNat, by omega⟩
    have hk : k < n := by omega
    obtain ⟨ad, rfl, hcell, _⟩ := HA.out.int' HL.out hk (Below.refl _ _)
    have hx := HO.out (l[k]'(by have := HL.out; omega)) (List.getElem_mem _)
    have HX : Hid (l.getD ((k : Int)).toNat 0 = l[k]'(by have := HL.out; omega)) := Lib.hid (getD_toNat (by have := HL.out; omega))
    rw [HX.out] at E1
    clear HX
    generalize l[k]'(by have := HL.out; omega) = x at *
    by_cases h6 : 2305843009213693952 < m
    · have hb := mth.tmod_bd x m (by omega)
      have HN := Lib.hid (fun h => mth.tmod_neg (d := x) (n := m) (by omega) h)
      have HP := Lib.hid (fun h => mth.tmod_pos (d := x) (n := m) (by omega) h)
      have h0 : ¬ m = 0 := by omega
      go_enter Try.func15, Try.ntmps15
      go_wp2
      · go_ret3
        refine ⟨pickV_ok (E := intV) (y := (k : Int) + 1) ⟨E1.out.1, ?_, E1.out.2.2⟩ rfl, rfl⟩
        rw [E1.out.2.1]; exact (HN.out (by assumption)).symm
      · go_ret3
        refine ⟨pickV_ok (E := intV) (y := (k : Int) + 1) ⟨E1.out.1, ?_, E1.out.2.2⟩ rfl, rfl⟩
        rw [E1.out.2.1]; exact (HP.out (by omega)).symm
    · go_enter Try.func15, Try.ntmps15
      go_wp2_with (go_at_call 18; refine (refBelow_c _ _ _ hx.1 hx.2 (by omega) (by omega)).mono ?_; rintro e w1 ⟨rfl, rfl⟩)
      go_ret3
      exact ⟨pickV_ok E1.out rfl, rfl⟩

/-- what Order hands back -/
def RetOrd (w : World) (E : Int → Value) (d : List Int) (c n : Int) (e : Ending) (w' : World) : Prop :=
  ∃ v, e = .returned (.tuple #[v, .int .i64 (mth.ordC d c n), E (mth.ordErr d.length c n)]) ∧ Ow w' w.heap.size 1 v (mth.ordL d c n).length (i64s (mth.ordL d c n)) ∧ Below w.heap.size w w'

set_option maxRecDepth 100000 in
set_option maxHeartbeats 2000000 in
theorem Order_c (A : Option Addr) (n cp : Nat) (l : List Int) (c m : Int) (w : World) (ha : At w A n (i64s l)) (hl : l.length = n) (hok : Ok64 l) (hn : (n : Int) ≤ 9223372036854775807)
    (c1 : -9223372036854775808 ≤ c) (c2 : c ≤ 9223372036854775807) (m1 : -9223372036854775808 ≤ m) (m2 : m ≤ 9223372036854775807) :
    Calls Try.prog 8 #[.slice A n cp, .int .i64 c, .int .i64 m] w (RetOrd w errV l c m) := by
  have HA := Lib.hid ha
  have HL := Lib.hid hl
  have HO := Lib.hid hok
  clear ha hl hok
  obtain ⟨i0, hi, hz0, hz1, hz2⟩ := info_parts (show (Try.prog.info? 3).map (fun i => (i.zero, i.size, i.bytes)) = some (some (.int .i64 0), 1, 8) by kernel_rfl)
  have hcases := mth.ord_cases l c m
  rcases hcases with ⟨h1, e1⟩ | ⟨h1, h2, e1⟩ | ⟨h1, h2, h3, e1⟩ | ⟨h1, h2, h3, e1⟩
  all_goals (
    have E1 := Lib.hid e1
    clear e1
    rw [HL.out] at h1)
  · go_enter Try.func8, Try.ntmps8
    go_wp2_with (go_at_call 16; refine (Check_many _ _ _ _ h1).mono ?_; rintro e w1 ⟨rfl, rfl⟩)
    go_ret3
    exact ⟨_, by rw [E1.out.1, E1.out.2.2]; rfl, by rw [E1.out.2.1]; exact Ow.nil _ _ _, Below.refl _ _⟩
  · have h3 : m < 0 ∨ (¬ m < 0 ∧ 400 < m) ∨ (¬ m < 0 ∧ ¬ 400 < m ∧ c < 0) := by omega
    clear h2
    rcases h3 with h2 | ⟨h2, h3⟩ | ⟨h2, h3, h4⟩
    all_goals (
      go_enter Try.func8, Try.ntmps8
      go_wp2_with (go_at_call 16; refine (Check_ok _ _ _ _ h1).mono ?_; rintro e w1 ⟨rfl, rfl⟩)
      go_ret3
      exact ⟨_, by rw [E1.out.1, E1.out.2.2]; rfl, by rw [E1.out.2.1]; exact Ow.nil _ _ _, Below.refl _ _⟩)
  · obtain ⟨h4, h5, h6⟩ : ¬ m < 0 ∧ ¬ 400 < m ∧ ¬ c < 0 := by omega
    clear h2
    rw [HL.out] at h3
    have e0 : leftN n c = max ((n : Int) - c) 0 := by unfold leftN; rw [if_pos (by omega)]
    have h3' : leftN n c < max m 1 - 1 := by rw [e0]; exact h3
    clear e0 h3
    go_enter Try.func8, Try.ntmps8
    go_wp2_with (first
      | (go_at_call 16; refine (Check_ok _ _ _ _ h1).mono ?_; rintro e w1 ⟨rfl, rfl⟩)
      | (go_at_call 13; refine (Needs_c _ _ m1 m2).mono ?_; rintro e w1 ⟨rfl, rfl⟩)
      | (go_at_call 12; refine (Left_c _ _ _ _ _ hn c1 c2).mono ?_; rintro e w1 ⟨rfl, rfl⟩))
    go_ret3
    exact ⟨_, by rw [E1.out.1, E1.out.2.2]; rfl, by rw [E1.out.2.1]; exact Ow.nil _ _ _, Below.refl _ _⟩
  · obtain ⟨h4, h5, h6⟩ : ¬ m < 0 ∧ ¬ 400 < m ∧ ¬ c < 0 := by omega
    clear h2
    rw [HL.out] at h3
    obtain ⟨k, rfl⟩ : ∃ k : Nat, c = (k : Int) := ⟨c.toNat, by omega⟩
    obtain ⟨q, rfl⟩ : ∃ q : Nat, m = (q : Int) := ⟨m.toNat, by omega⟩
    have e0 : leftN n k = max ((n : Int) - k) 0 := by unfold leftN; rw [if_pos (by omega)]
    have h3' : ¬ leftN n k < max (q : Int) 1 - 1 := by rw [e0]; exact h3
    clear e0
    have hmk := fun W => run_make_row (P := Try.prog) W 22 3 i0 _ Try.underlying22 hi hz0 rfl hz1 q (by rw [hz2]; omega) (by simp only [maxLen]; omega)
    go_enter Try.func8, Try.ntmps8
    go_wp2_with (first
      | (go_at_call 16; refine (Check_ok _ _ _ _ h1).mono ?_; rintro e w1 ⟨rfl, rfl⟩)
      | (go_at_call 13; refine (Needs_c _ _ m1 m2).mono ?_; rintro e w1 ⟨rfl, rfl⟩)
      | (go_at_call 12; refine (Left_c _ _ _ _ _ hn c1 c2).mono ?_; rintro e w1 ⟨rfl, rfl⟩))
    have HOW : Hid (Ow (w.alloc (.cells (madeCells #[.int .i64 0] q) 3)) w.heap.size 1 (.slice (some ⟨w.heap.size, 0, none⟩) q q) q (i64s (mth.iota 0 ++ List.replicate (q - 0) 0))) := Lib.hid (by
      have := ow_made w 3 (.int .i64 0) q w.heap.size (Nat.le_refl _)
      simpa [i64s, mth.iota] using this)
    clear hmk
    go_loopw [43] (fun iv wr => ∃ j : Nat, j ≤ q ∧ iv = .int .i64 j ∧ Ow wr w.heap.size 1 (.slice (some ⟨w.heap.size, 0, none⟩) q q) q (i64s (mth.iota j ++ List.replicate (q - j) 0)) ∧ Below w.heap.size w wr) (fun iv _ => q - (intOf iv).toNat)
    case atStart => exact ⟨0, by omega, rfl, HOW.out, (Below.refl _ _).alloc (Nat.le_refl _) _⟩
    case round =>
      obtain ⟨j, hj, rfl, how, hbr⟩ := hrel
      have HO1 := Lib.hid how
      have HB1 := Lib.hid hbr
      clear how hbr HOW
      by_cases hlt : j < q
      · obtain ⟨hc1, hc2, _⟩ := HO1.out.cell0 hlt
        go_wp2
        go_roundw
        case rel => exact ⟨j + 1, by omega, by go_num, by rw [← mth.fill_set j q hlt, i64s_set]; exact HO1.out.set0 hlt _, HB1.out.setCell (Nat.le_refl _) _⟩
        case measure => simp [intOf]; try omega
      · obtain rfl : j = q := by omega
        have HO2 : Hid (Ow wr w.heap.size 1 (.slice (some ⟨w.heap.size, 0, none⟩) j j) j (i64s (mth.iota j))) := Lib.hid (by have := HO1.out; simpa using this)
        clear HO1
        go_wp2
        go_loopw [12, 1] (fun zv cv wr => ∃ (z : Int) (cu : Nat) (out : List Int), zv = .int .i64 z ∧ -1 ≤ z ∧ z ≤ (j : Int) - 1 ∧ cv = .int .i64 cu ∧ cu + z.toNat = k + (j - 1) ∧ mth.shuf l z.toNat cu out = mth.shuf l (j - 1) k (mth.iota j) ∧ out.length = j ∧ Ow wr w.heap.size 1 (.slice (some ⟨w.heap.size, 0, none⟩) j j) j (i64s out) ∧ Below w.heap.size w wr) (fun zv _ _ => (intOf zv).toNat)
        case atStart => exact ⟨(j : Int) - 1, k, mth.iota j, by simp, by omega, by omega, rfl, by omega, by rw [show ((j : Int) - 1).toNat = j - 1 by omega], mth.iota_len j, HO2.out, HB1.out⟩
        case round =>
          obtain ⟨z, cu, out, rfl, hz1', hz2', rfl, hcu, hsh, hol, how, hbr⟩ := hrel
          have HO3 := Lib.hid how
          have HB3 := Lib.hid hbr
          have HSH := Lib.hid hsh
          have HOL := Lib.hid hol
          clear how hbr hsh hol HO2 HB1
          by_cases hz : 0 < z
          · obtain ⟨i, rfl⟩ : ∃ i : Nat, z = (i : Int) + 1 := ⟨(z - 1).toNat, by omega⟩
            have hcn : cu < n := by omega
            obtain ⟨ad, rfl, hcell, _⟩ := HA.out.int' HL.out hcn HB3.out
            have hx := HO.out (l[cu]'(by have := HL.out; omega)) (List.getElem_mem _)
            have HX : Hid (l.getD cu 0 = l[cu]'(by have := HL.out; omega)) := Lib.hid (mth.getD_get (by have := HL.out; omega))
            generalize l[cu]'(by have := HL.out; omega) = x at *
            have m1 := Int.emod_nonneg x (show (i : Int) + 2 ≠ 0 by omega)
            have m2 := Int.emod_lt_of_pos x (show 0 < (i : Int) + 2 by omega)
            obtain ⟨kk, hkk⟩ : ∃ kk : Nat, x % ((i : Int) + 2) = (kk : Int) := ⟨(x % ((i : Int) + 2)).toNat, by omega⟩
            have HKK := Lib.hid hkk
            rw [hkk] at m1 m2
            clear hkk
            have hi1 : i + 1 < j := by omega
            have hk1 : kk < j := by omega
            obtain ⟨p1, p2, _, hws⟩ := HO3.out.cell0 hi1
            obtain ⟨p3, p4, _⟩ := HO3.out.cell0 hk1
            rw [i64s_get (by have := HOL.out; omega)] at p1 p3
            have HSET : Hid (Ow ((wr.setCell ⟨w.heap.size, i + 1, none⟩ (.int .i64 (out[kk]'(by have := HOL.out; omega)))).setCell ⟨w.heap.size, kk, none⟩ (.int .i64 (out[i + 1]'(by have := HOL.out; omega)))) w.heap.size 1 (.slice (some ⟨w.heap.size, 0, none⟩) j j) j (i64s (mth.swp out (i + 1) kk))) := Lib.hid (by
              rw [mth.swp, mth.getD_get (by have := HOL.out; omega), mth.getD_get (by have := HOL.out; omega), i64s_set, i64s_set]
              exact (HO3.out.set0 hi1 _).set0 hk1 _)
            generalize out[kk]'(by have := HOL.out; omega) = y at *
            generalize out[i + 1]'(by have := HOL.out; omega) = y' at *
            obtain ⟨v', hy'⟩ := cell?_setCell_some (w := wr) (p := ⟨w.heap.size, i + 1, none⟩) (x := .int .i64 y) (q := ⟨w.heap.size, kk, none⟩) (v := .int .i64 y) (by go_simp)
            go_wp2_with (go_at_call 17; refine (below_k _ _ kk _ hx.1 hx.2 (by omega) (by omega) (by rw [show (i : Int) + 1 + 1 = i + 2 by omega]; exact HKK.out)).mono ?_; rintro e w1 ⟨rfl, rfl⟩)
            have hi2 : (i : Int) + 1 < (j : Int) := by omega
            have hk2 : (kk : Int) < (j : Int) := by omega
            go_region
            have hns : mth.shuf l ((i : Int)).toNat (cu + 1) (mth.swp out (i + 1) kk) = mth.shuf l (j - 1) k (mth.iota j) := by
              rw [← HSH.out, show ((i : Int) + 1).toNat = i + 1 by omega, Int.toNat_natCast, mth.shuf, HX.out, HKK.out, Int.toNat_natCast]
            have HNS := Lib.hid hns
            clear hns hcell hx
            go_wp2
            go_roundw
            case rel => exact ⟨i, cu + 1, mth.swp out (i + 1) kk, by simp, by omega, by omega, by go_num, by omega, HNS.out, by rw [mth.swp_len]; exact HOL.out, HSET.out.below ((Below.refl _ _).drew), ((HB3.out.setCell (Nat.le_refl _) _).setCell (Nat.le_refl _) _).drew⟩
            case measure => simp [intOf]; try omega
          · have hz0 : z.toNat = 0 := by omega
            have hout : out = mth.shuf l (j - 1) k (mth.iota j) := by have := HSH.out; rw [hz0] at this; exact this
            have HOUT := Lib.hid hout
            have HZ := Lib.hid hz0
            clear hout hz0
            go_wp2
            go_ret3
            have e4 : mth.ordL l (k : Int) (j : Int) = out := by
              rw [E1.out.2.1, HOUT.out]; simp
            refine ⟨_, ?_, by rw [e4, HOL.out]; exact HO3.out, HB3.out⟩
            rw [E1.out.1, E1.out.2.2]
            have := HZ.out
            rw [show (k : Int) + (max (j : Int) 1 - 1) = (cu : Int) by omega]
            rfl
end Go.Proofs.Ytoehepeiakddcaa
