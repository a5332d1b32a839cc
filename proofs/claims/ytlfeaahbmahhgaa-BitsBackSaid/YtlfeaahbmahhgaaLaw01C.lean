/-
  BitsBack: for any bits, part, place and width the law answers true.
-/
import Derived.Test.YtlfeaahbmahhgaaBitsD
import Derived.Test.YtlfeaahbmahhgaaLaw01A
namespace Go.Proofs.Ytlfeaahbmahhgaa
open Go.RowKit
set_option linter.unusedVariables false

theorem Put_bad (x m wd p : Int) (h1 : 0 ≤ x) (h2 : x ≤ 18446744073709551615) (h3 : 0 ≤ p) (h4 : p ≤ 18446744073709551615) (hb : ¬ (mth.isP m wd ∧ p.toNat < 2 ^ wd.toNat)) (w : World) :
    Calls Try.prog 10 #[.int .u64 x, .int .i64 m, .int .i64 wd, .int .u64 p] w fun e w' => e = .returned (.tuple #[.int .u64 0, .iface 44 (.int .i64 (putE m wd p))]) ∧ w = w' := by
  refine (Put_c x m wd p h1 h2 h3 h4 w).mono fun e w' ⟨he, hw⟩ => ⟨?_, hw⟩
  have hne : putE m wd p ≠ 0 := by
    unfold putE
    split
    · rename_i hp
      rw [if_neg (fun k => hb ⟨hp, k⟩)]; omega
    · omega
  rw [he, errV, if_neg hne]
  unfold putV
  rw [if_neg hb]
  rfl
theorem Put_good (x m wd p : Int) (h1 : 0 ≤ x) (h2 : x ≤ 18446744073709551615) (h3 : 0 ≤ p) (h4 : p ≤ 18446744073709551615) (hb : mth.isP m wd ∧ p.toNat < 2 ^ wd.toNat) (w : World) :
    Calls Try.prog 10 #[.int .u64 x, .int .i64 m, .int .i64 wd, .int .u64 p] w fun e w' => e = .returned (.tuple #[.int .u64 (putV x m wd p : Nat), .nilIface]) ∧ w = w' := by
  refine (Put_c x m wd p h1 h2 h3 h4 w).mono fun e w' ⟨he, hw⟩ => ⟨?_, hw⟩
  rw [he]
  unfold putE errV
  rw [if_pos hb.1, if_pos hb.2]
  rfl

theorem BitsBack_bad (x p m wd : Int) (h1 : 0 ≤ x) (h2 : x ≤ 18446744073709551615) (h3 : 0 ≤ p) (h4 : p ≤ 18446744073709551615) (h5 : -9223372036854775808 ≤ m) (h6 : m ≤ 9223372036854775807)
    (hb : ¬ (mth.isP m wd ∧ p.toNat < 2 ^ wd.toNat)) (w : World) :
    Calls Try.prog 5 #[.agg #[.int .u64 x, .int .u64 p, .int .i64 m, .int .i64 wd]] w (Ret w (.bool true)) := by
  have HB := Lib.hid hb
  clear hb
  have hid := mth.narrow_idem m wd
  obtain ⟨n1, n2⟩ := mth.narrow_range m wd h5 h6
  go_enter Try.func5, Try.ntmps5
  go_wp2_with (first
    | (go_at_call 6; refine (alive_c _).mono ?_; rintro e w' ⟨rfl, rfl⟩)
    | (go_at_call 10; refine (Put_bad _ _ _ _ h1 h2 h3 h4 HB.out _).mono ?_; rintro e w' ⟨rfl, rfl⟩))
  refine wp_region_later (by kernel_rfl) (by kernel_rfl) ?_
  repeat (go_big_quiet_step ((first
    | (go_at_call 8; exact calls_later_same (Narrow_c _ _ _ (by omega) (by omega))))))
  refine wpQuiet_nil ?_
  intro w2 hb2
  go_wp2
  go_ret
  exact ⟨rfl, ((Below.refl _ _).alloc (Nat.le_refl _) _).trans (hb2.mono (by simp))⟩

/-- what Put made: its facts in one place -/
structure Made (x p m wd y : Int) : Prop where
  lo : 0 ≤ y
  hi : y ≤ 18446744073709551615
  part : ((partV y m wd : Nat) : Int) = p
  same : ∀ i : Int, (i < m ∨ m + wd ≤ i) → hasB y i = hasB x i
  count : (mth.popc y.toNat : Int) = (mth.popc x.toNat : Int) - (mth.popc (partV x m wd) : Int) + (mth.popc p.toNat : Int)

theorem made (x p m wd : Int) (h1 : 0 ≤ x) (h3 : 0 ≤ p) (hb : mth.isP m wd ∧ p.toNat < 2 ^ wd.toNat) : Made x p m wd (putV x m wd p : Nat) := by
  obtain ⟨hp, hf⟩ := hb
  obtain ⟨p1, p2, p3, p4⟩ := id hp
  obtain ⟨X, rfl⟩ := Int.eq_ofNat_of_zero_le h1
  obtain ⟨M, rfl⟩ := Int.eq_ofNat_of_zero_le p1
  obtain ⟨D, rfl⟩ := Int.eq_ofNat_of_zero_le (show 0 ≤ wd by omega)
  obtain ⟨P, rfl⟩ := Int.eq_ofNat_of_zero_le h3
  rw [Int.toNat_natCast, Int.toNat_natCast] at hf
  have hpv : putV (X : Int) (M : Int) (D : Int) (P : Int) = mth.ofBits (mth.putB X M D P) 64 := by
    unfold putV
    simp only [Int.toNat_natCast]
    rw [if_pos ⟨hp, hf⟩]
  have hv : ∀ y : Nat, partV (y : Int) (M : Int) (D : Int) = mth.ofBits (mth.partB y M D) 64 := fun y => by
    unfold partV
    rw [if_pos hp]
    simp only [Int.toNat_natCast]
  have hl := mth.ofBits_lt (mth.putB X M D P) 64
  have h64 : (2 : Nat) ^ 64 = 18446744073709551616 := rfl
  rw [hpv]
  refine ⟨by omega, by omega, ?_, ?_, ?_⟩
  · rw [hv, mth.part_put X M D P (by omega) hf]
  · intro i hi
    unfold hasB
    by_cases hr : 0 ≤ i ∧ i < 64
    · obtain ⟨I, rfl⟩ := Int.eq_ofNat_of_zero_le hr.1
      simp only [Int.toNat_natCast]
      rw [mth.put_else X M D P I (by omega) (by omega)]
    · have : (decide (0 ≤ i) && decide (i < 64)) = false := by rw [Bool.and_eq_false_iff]; simp; omega
      rw [← Bool.and_assoc, ← Bool.and_assoc, this]
      simp
  · rw [hv]
    simp only [Int.toNat_natCast]
    have := mth.popc_put X M D P (by omega) hf
    omega

theorem partV_le (x m wd : Int) : ((partV x m wd : Nat) : Int) ≤ 18446744073709551615 := by
  unfold partV
  split
  · have := mth.ofBits_lt (mth.partB x.toNat m.toNat wd.toNat) 64
    have h64 : (2 : Nat) ^ 64 = 18446744073709551616 := rfl
    omega
  · omega

set_option maxHeartbeats 800000 in
theorem BitsBack_good (x p m wd : Int) (h1 : 0 ≤ x) (h2 : x ≤ 18446744073709551615) (h3 : 0 ≤ p) (h4 : p ≤ 18446744073709551615)
    (hb : mth.isP m wd ∧ p.toNat < 2 ^ wd.toNat) (w : World) :
    Calls Try.prog 5 #[.agg #[.int .u64 x, .int .u64 p, .int .i64 m, .int .i64 wd]] w (Ret w (.bool true)) := by
  have HM := Lib.hid (made x p m wd h1 h3 hb)
  have HB := Lib.hid hb
  obtain ⟨p1, p2, p3, p4⟩ := hb.1
  clear hb
  go_enter Try.func5, Try.ntmps5
  go_wp2_with (first
    | (go_at_call 6; refine (alive_c _).mono ?_; rintro e w' ⟨rfl, rfl⟩)
    | (go_at_call 10; refine (Put_good _ _ _ _ h1 h2 h3 h4 HB.out _).mono ?_; rintro e w' ⟨rfl, rfl⟩))
  generalize ((putV x m wd p : Nat) : Int) = y at *
  have y1 := HM.out.lo
  have y2 := HM.out.hi
  have hpart := HM.out.part
  refine wp_region_later (by kernel_rfl) (by kernel_rfl) ?_
  repeat (go_big_quiet_step ((first
    | (go_at_call 13; exact calls_later_same (Part_c _ _ _ y1 y2 _)))))
  refine wpQuiet_nil ?_
  intro w2 hb2
  clear hpart
  have c0 : w2.cell? ⟨w.heap.size, 0, none⟩ = some (.int .u64 x) := (hb2.cell (p := ⟨w.heap.size, 0, none⟩) (by simp)).trans (by simp)
  have c1 : w2.cell? ⟨w.heap.size, 1, none⟩ = some (.int .u64 p) := (hb2.cell (p := ⟨w.heap.size, 1, none⟩) (by simp)).trans (by simp)
  have c2 : w2.cell? ⟨w.heap.size, 2, none⟩ = some (.int .i64 m) := (hb2.cell (p := ⟨w.heap.size, 2, none⟩) (by simp)).trans (by simp)
  have c3 : w2.cell? ⟨w.heap.size, 3, none⟩ = some (.int .i64 wd) := (hb2.cell (p := ⟨w.heap.size, 3, none⟩) (by simp)).trans (by simp)
  have hsz : w.heap.size < w2.heap.size := by have := hb2.size; simp at this; omega
  have hbw : Below w.heap.size w w2 := ((Below.refl _ _).alloc (Nat.le_refl _) _).trans (hb2.mono (by simp))
  clear hb2
  go_wp2
  go_loopw [49] (fun iv wr => ∃ k : Nat, k ≤ 64 ∧ iv = .int .i64 k ∧ Below w2.heap.size w2 wr) (fun iv _ => 64 - (intOf iv).toNat)
  case atStart => exact ⟨0, by omega, rfl, Below.refl _ _⟩
  case round =>
    obtain ⟨k, hk, rfl, hbr⟩ := hrel
    have d0 : wr.cell? ⟨w.heap.size, 0, none⟩ = some (.int .u64 x) := (hbr.cell (p := ⟨w.heap.size, 0, none⟩) hsz).trans c0
    have d1 : wr.cell? ⟨w.heap.size, 1, none⟩ = some (.int .u64 p) := (hbr.cell (p := ⟨w.heap.size, 1, none⟩) hsz).trans c1
    have d2 : wr.cell? ⟨w.heap.size, 2, none⟩ = some (.int .i64 m) := (hbr.cell (p := ⟨w.heap.size, 2, none⟩) hsz).trans c2
    have d3 : wr.cell? ⟨w.heap.size, 3, none⟩ = some (.int .i64 wd) := (hbr.cell (p := ⟨w.heap.size, 3, none⟩) hsz).trans c3
    have hsr : w.heap.size < wr.heap.size := Nat.lt_of_lt_of_le hsz hbr.size
    by_cases hlt : k < 64
    · by_cases ha : (k : Int) < m
      · have e1 : decide ((k : Int) < m) = true := by simpa using ha
        have hs := HM.out.same k (.inl ha)
        go_wp2
        refine wp_region_later (by kernel_rfl) (by kernel_rfl) ?_
        repeat (go_big_quiet_step ((first
          | (go_at_call 17; exact calls_later_same (Has_c _ _ (by omega) (by omega) _)))))
        refine wpQuiet_nil ?_
        intro w3 hb3
        go_wp2
        go_roundw
        case rel => exact ⟨k + 1, by omega, by go_num, hbr.trans (hb3.mono hbr.size)⟩
        case measure => simp [intOf]; omega
      · have e1 : decide ((k : Int) < m) = false := by simpa using ha
        by_cases hc : m + wd ≤ (k : Int)
        · have e2 : decide (m + wd ≤ (k : Int)) = true := by simpa using hc
          have hs := HM.out.same k (.inr hc)
          go_wp2
          refine wp_region_later (by kernel_rfl) (by kernel_rfl) ?_
          repeat (go_big_quiet_step ((first
            | (go_at_call 17; exact calls_later_same (Has_c _ _ (by omega) (by omega) _)))))
          refine wpQuiet_nil ?_
          intro w3 hb3
          go_wp2
          go_roundw
          case rel => exact ⟨k + 1, by omega, by go_num, hbr.trans (hb3.mono hbr.size)⟩
          case measure => simp [intOf]; omega
        · have e2 : decide (m + wd ≤ (k : Int)) = false := by simpa using hc
          go_wp2
          refine wp_region_later (by kernel_rfl) (by kernel_rfl) ?_
          repeat (go_big_quiet_step ((first
            | (go_at_call 17; exact calls_later_same (Has_c _ _ (by omega) (by omega) _)))))
          refine wpQuiet_nil ?_
          intro w3 hb3
          go_wp2
          go_roundw
          case rel => exact ⟨k + 1, by omega, by go_num, hbr.trans (hb3.mono hbr.size)⟩
          case measure => simp [intOf]; omega
    · obtain rfl : k = 64 := by omega
      have hcount := HM.out.count
      have q1 := mth.popc_le y.toNat
      have q2 := mth.popc_le x.toNat
      have q3 := mth.popc_le (partV x m wd)
      have q4 := mth.popc_le p.toNat
      have r1 : (0 : Int) ≤ ((partV x m wd : Nat) : Int) := by omega
      have r2 : ((partV x m wd : Nat) : Int) ≤ 18446744073709551615 := partV_le x m wd
      have HC := Lib.hid hcount
      clear hcount
      go_wp2
      refine wp_region_later (by kernel_rfl) (by kernel_rfl) ?_
      repeat (go_big_quiet_step ((first
        | (go_at_call 13; exact calls_later_same (Part_c _ _ _ h1 h2 _))
        | (go_at_call 18; exact calls_later_same (Count_c _ (by omega) (by omega) _)))))
      refine wpQuiet_nil ?_
      intro w3 hb3
      go_wp2
      go_ret
      exact ⟨ret_bool (by rw [HC.out]; exact beq_self_eq_true _), hbw.trans ((hbr.trans (hb3.mono hbr.size)).mono (by omega))⟩

theorem BitsBack_c (x p m wd : Int) (h1 : 0 ≤ x) (h2 : x ≤ 18446744073709551615) (h3 : 0 ≤ p) (h4 : p ≤ 18446744073709551615) (h5 : -9223372036854775808 ≤ m) (h6 : m ≤ 9223372036854775807) (w : World) :
    Calls Try.prog 5 #[.agg #[.int .u64 x, .int .u64 p, .int .i64 m, .int .i64 wd]] w (Ret w (.bool true)) := by
  by_cases hb : mth.isP m wd ∧ p.toNat < 2 ^ wd.toNat
  · exact BitsBack_good x p m wd h1 h2 h3 h4 hb w
  · exact BitsBack_bad x p m wd h1 h2 h3 h4 h5 h6 hb w
end Go.Proofs.Ytlfeaahbmahhgaa
