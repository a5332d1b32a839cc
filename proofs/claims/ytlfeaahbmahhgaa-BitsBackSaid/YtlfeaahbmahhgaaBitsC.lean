/-
  Contracts of Put, in the package bits and in its reference.
-/
import Derived.Test.YtlfeaahbmahhgaaBitsB
namespace Go.Proofs.Ytlfeaahbmahhgaa
open Go.RowKit
set_option linter.unusedVariables false

/-- bits with a part, and an error's number -/
def putV (x m wd p : Int) : Nat := if mth.isP m wd ∧ p.toNat < 2 ^ wd.toNat then mth.ofBits (mth.putB x.toNat m.toNat wd.toNat p.toNat) 64 else 0
def putE (m wd p : Int) : Int := if mth.isP m wd then (if p.toNat < 2 ^ wd.toNat then 0 else 2) else 1

theorem neq_zero_iff (P wd : Nat) (hP : P < 18446744073709551616) : (((P &&& (18446744073709551615 - mth.mask wd) : Nat) : Int) != 0) = !decide (P < 2 ^ wd) := by
  have := mth.fits_iff P wd hP
  by_cases h : P < 2 ^ wd
  · rw [this.2 h]; simp [h]
  · have h0 : ¬ P &&& (18446744073709551615 - mth.mask wd) = 0 := fun e => h (this.1 e)
    have h1 : ¬ ((P &&& (18446744073709551615 - mth.mask wd) : Nat) : Int) = 0 := by omega
    have h2 : (((P &&& (18446744073709551615 - mth.mask wd) : Nat) : Int) == 0) = false := by rw [beq_eq_false_iff_ne]; exact h1
    simp only [bne, h2, h]
    rfl

theorem Put_c (x m wd p : Int) (h1 : 0 ≤ x) (h2 : x ≤ 18446744073709551615) (h3 : 0 ≤ p) (h4 : p ≤ 18446744073709551615) (w : World) :
    Calls Try.prog 10 #[.int .u64 x, .int .i64 m, .int .i64 wd, .int .u64 p] w fun e w' => e = .returned (.tuple #[.int .u64 (putV x m wd p : Nat), errV (putE m wd p)]) ∧ w = w' := by
  unfold putV putE
  by_cases hp : mth.isP m wd
  · rw [if_pos hp]
    obtain ⟨p1, p2, p3, p4⟩ := id hp
    obtain ⟨X, rfl⟩ := Int.eq_ofNat_of_zero_le h1
    obtain ⟨M, rfl⟩ := Int.eq_ofNat_of_zero_le p1
    obtain ⟨D, rfl⟩ := Int.eq_ofNat_of_zero_le (show 0 ≤ wd by omega)
    obtain ⟨P, rfl⟩ := Int.eq_ofNat_of_zero_le h3
    simp only [Int.toNat_natCast]
    have hX : X < 18446744073709551616 := by omega
    have hP : P < 18446744073709551616 := by omega
    have hm := mth.mask_lt (D : Int)
    have e1 : bits .andNot .u64 (P : Int) (mth.mask (D : Int) : Nat) = ((P &&& (18446744073709551615 - mth.mask (D : Int)) : Nat) : Int) := u64_andNot_nat _ _ hP hm
    have e2 : (((P &&& (18446744073709551615 - mth.mask (D : Int)) : Nat) : Int) != 0) = !decide (P < 2 ^ D) := neq_zero_iff P D hP
    by_cases hf : P < 2 ^ D
    · have hn1 : (bits .andNot .u64 (P : Int) (mth.mask (D : Int) : Nat) != 0) = false := by rw [e1, e2]; simp [hf]
      clear e1 e2
      rw [if_pos hf, if_pos ⟨hp, hf⟩]
      have hf' := Lib.hid hf
      clear hf
      go_enter Try.func10, Try.ntmps10
      go_wp2_with (first
        | (go_at_call 21; refine (part_yes _ _ hp _).mono ?_; rintro e w' ⟨rfl, rfl⟩)
        | (go_at_call 22; refine (below_c _ _).mono ?_; rintro e w' ⟨rfl, rfl⟩))
      go_ret2
      refine ⟨ret_int_v ?_, rfl⟩
      rw [wrap_u64_nat, wrap_u64_nat, u64_andNot_nat _ _ hX (Nat.mod_lt _ (by omega)), u64_or_nat _ _ (Nat.lt_of_le_of_lt Nat.and_le_left hX) (Nat.mod_lt _ (by omega)), mth.put_eq X M D P hf'.out]
    · have hn1 : (bits .andNot .u64 (P : Int) (mth.mask (D : Int) : Nat) != 0) = true := by rw [e1, e2]; simp [hf]
      clear e1 e2
      rw [if_neg hf, if_neg (fun k => hf k.2)]
      have hf' := Lib.hid hf
      clear hf
      go_enter Try.func10, Try.ntmps10
      go_wp2_with (first
        | (go_at_call 21; refine (part_yes _ _ hp _).mono ?_; rintro e w' ⟨rfl, rfl⟩)
        | (go_at_call 22; refine (below_c _ _).mono ?_; rintro e w' ⟨rfl, rfl⟩))
      go_ret2
      exact ⟨rfl, rfl⟩
  · rw [if_neg hp, if_neg (fun k => hp k.1)]
    have HP := Lib.hid hp
    clear hp
    go_enter Try.func10, Try.ntmps10
    go_wp2_with (go_at_call 21; refine (part_no _ _ HP.out _).mono ?_; rintro e w' ⟨rfl, rfl⟩)
    go_ret2
    exact ⟨rfl, rfl⟩

def putTo (x m wd p k : Nat) : Nat → Bool := fun i => if m ≤ i ∧ i < m + min k wd then p.testBit (i - m) else x.testBit i
theorem putTo_zero (x m wd p : Nat) : bools (putTo x m wd p 0) = bitRow x 64 := by
  unfold bools bitRow
  exact rowOf_congr fun i hi => by
    have h : ¬ (m ≤ i ∧ i < m + min 0 wd) := by omega
    simp only [putTo, if_neg h, hi, decide_true, Bool.true_and]
theorem putTo_succ (x m wd p k : Nat) (h : k < wd) : (bools (putTo x m wd p k)).setIfInBounds (m + k) (.bool (p.testBit k)) = bools (putTo x m wd p (k + 1)) := by
  unfold bools
  rw [rowOf_set]
  refine rowOf_congr fun i hi => ?_
  by_cases e : i = m + k
  · subst e
    have h1 : m ≤ m + k ∧ m + k < m + min (k + 1) wd := by omega
    simp only [putTo, if_pos h1, if_true, Nat.add_sub_cancel_left]
  · have : (m ≤ i ∧ i < m + min (k + 1) wd) = (m ≤ i ∧ i < m + min k wd) := by apply propext; omega
    simp only [putTo, e, this, if_false]
theorem putTo_stay (x m wd p k : Nat) (h : wd ≤ k) : bools (putTo x m wd p k) = bools (putTo x m wd p (k + 1)) := by
  unfold bools
  refine rowOf_congr fun i hi => ?_
  have : (m ≤ i ∧ i < m + min (k + 1) wd) = (m ≤ i ∧ i < m + min k wd) := by apply propext; omega
  simp only [putTo, this]
theorem putTo_all (x m wd p : Nat) (h : wd ≤ 64) : mth.ofBits (putTo x m wd p 64) 64 = mth.ofBits (mth.putB x m wd p) 64 :=
  mth.ofBits_congr fun i hi => by simp only [putTo, mth.putB, show min 64 wd = wd from by omega]

theorem bitRow_at (X i : Nat) (hi : i < 64) : (bitRow X 64)[i]? = some (.bool (X.testBit i)) := by
  unfold bitRow; rw [rowOf_get _ hi]; simp [hi]

theorem Put_ref (x m wd p : Int) (h1 : 0 ≤ x) (h2 : x ≤ 18446744073709551615) (h3 : 0 ≤ p) (h4 : p ≤ 18446744073709551615) (w : World) :
    Calls Try.prog 11 #[.int .u64 x, .int .i64 m, .int .i64 wd, .int .u64 p] w (Ret w (.tuple #[.int .u64 (putV x m wd p : Nat), .int .i64 (putE m wd p)])) := by
  unfold putV putE
  by_cases hp : mth.isP m wd
  · rw [if_pos hp]
    obtain ⟨p1, p2, p3, p4⟩ := id hp
    obtain ⟨X, rfl⟩ := Int.eq_ofNat_of_zero_le h1
    obtain ⟨M, rfl⟩ := Int.eq_ofNat_of_zero_le p1
    obtain ⟨D, rfl⟩ := Int.eq_ofNat_of_zero_le (show 0 ≤ wd by omega)
    obtain ⟨P, rfl⟩ := Int.eq_ofNat_of_zero_le h3
    simp only [Int.toNat_natCast]
    obtain ⟨V, hV⟩ : ∃ V, V = (if mth.isP (M : Int) (D : Int) ∧ P < 2 ^ D then mth.ofBits (mth.putB X M D P) 64 else 0) := ⟨_, rfl⟩
    obtain ⟨E, hE⟩ : ∃ E : Int, E = (if P < 2 ^ D then 0 else 2) := ⟨_, rfl⟩
    rw [← hV, ← hE]
    have HV := Lib.hid hV
    have HE := Lib.hid hE
    clear hV hE
    have HP := Lib.hid (show mth.isP (M : Int) (D : Int) from hp)
    clear hp
    go_enter Try.func11, Try.ntmps11
    go_wp2_with fail
    refine (Is_yes _ _ HP.out _).mono ?_
    rintro e w' ⟨rfl, rfl⟩
    go_wp2_with fail
    refine (Bits_ci _ h1 h2 _).mono ?_
    rintro e w1 ⟨rfl, hb1⟩
    rw [Int.toNat_natCast]
    go_wp2_with fail
    refine (Bits_ci _ h3 h4 _).mono ?_
    rintro e w2 ⟨rfl, hb2⟩
    rw [Int.toNat_natCast]
    have hs1 := hb1.size
    have hs2 := hb2.size
    go_wp2_with (first
      | (refine wpList_alloc_agg rfl _ rfl _ boolArr_zero ?_; try simp only [World.size_alloc])
      | (refine wpList_store_row rfl rfl _ (.tmp 10) (.tmp 18) rfl w2.heap.size rfl _ (rowOf 64 (fun _ => .bool false)) (bitRow X 64) rfl (heap_alloc2_old _ _ _) (by rw [boolArr_size]; rfl) rfl (rowOf_oneCell fun _ _ => rfl) ?_; rw [setRow_alloc_past _ _ _ _ (by simp), setRow_alloc_at _ _ _ _ _ rfl])
      | (refine wpList_store_row rfl rfl _ (.tmp 11) (.tmp 20) rfl (w2.heap.size + 1) rfl _ (rowOf 64 (fun _ => .bool false)) (bitRow P 64) rfl (heap_alloc2_new _ _ _) (by rw [boolArr_size]; rfl) rfl (rowOf_oneCell fun _ _ => rfl) ?_; rw [setRow_alloc_at (w2.alloc (.cells (bitRow X 64) 40)) _ _ _ _ (by simp)]))
    have HB := Lib.hid (bitRow_at P)
    go_loopw [12] (fun iv wr => ∃ k : Nat, k ≤ 64 ∧ iv = .int .i64 k ∧ wr = (w2.alloc (.cells (bools (putTo X M D P k)) 40)).alloc (.cells (bitRow P 64) 40) ∧ ∀ j, j < k → D ≤ j → P.testBit j = false) (fun iv _ => 64 - (intOf iv).toNat)
    case atStart => exact ⟨0, by omega, rfl, by rw [putTo_zero], fun j hj => by omega⟩
    case round =>
      obtain ⟨k, hk, rfl, rfl, hno⟩ := hrel
      have HN := Lib.hid hno
      clear hno
      by_cases hlt : k < 64
      · have hc1 := HB.out k hlt
        by_cases hD : k < D
        · have hc2 : (bools (putTo X M D P k))[M + k]? = some (.bool (putTo X M D P k (M + k))) := rowOf_get _ (by omega)
          have HS := Lib.hid (putTo_succ X M D P k hD)
          go_wp2
          go_roundw
          case rel =>
            refine ⟨k + 1, by omega, by go_num, by rw [← HS.out], fun j hj hDj => by omega⟩
          case measure => simp [intOf]; omega
        · have HS := Lib.hid (putTo_stay X M D P k (by omega))
          have hD' : D ≤ k := by omega
          clear hD
          cases hb : P.testBit k
          · have hb' := Lib.hid hb
            rw [hb] at hc1
            clear hb
            go_wp2
            go_roundw
            case rel =>
              refine ⟨k + 1, by omega, by go_num, by rw [← HS.out], fun j hj hDj => ?_⟩
              rcases Nat.lt_or_eq_of_le (Nat.le_of_lt_succ hj) with h | h
              · exact HN.out j h hDj
              · rw [h]; exact hb'.out
            case measure => simp [intOf]; omega
          · have hb' := Lib.hid hb
            rw [hb] at hc1
            clear hb
            go_wp2
            go_ret2
            have hnf : ¬ P < 2 ^ D := fun h => by
              have := Nat.testBit_lt_two_pow (i := k) (Nat.lt_of_lt_of_le h (Nat.pow_le_pow_right (by omega) hD'))
              rw [hb'.out] at this
              cases this
            refine ⟨?_, ((hb1.trans (hb2.mono hs1)).alloc (by omega) _).alloc (by simp; omega) _⟩
            rw [HV.out, HE.out, if_neg hnf, if_neg (fun k => hnf k.2)]
            rfl
      · obtain rfl : k = 64 := by omega
        have hfit : P < 2 ^ D := by
          apply Classical.byContradiction
          intro hn
          obtain ⟨i, hi, hbi⟩ := mth.bit_of_not_fits P D hn
          have h64 : i < 64 := by
            apply Classical.byContradiction
            intro h
            rw [Nat.testBit_lt_two_pow (Nat.lt_of_lt_of_le (show P < 2 ^ 64 by have h64 : (2 : Nat) ^ 64 = 18446744073709551616 := rfl; omega) (Nat.pow_le_pow_right (by omega) (by omega)))] at hbi
            cases hbi
          rw [HN.out i h64 hi] at hbi
          cases hbi
        have HF := Lib.hid hfit
        clear hfit
        go_wp2_with (first
          | (refine wpList_load_row rfl _ _ rfl w2.heap.size rfl _ (bools (putTo X M D P 64)) (0, 0) _ (heap_alloc2_old _ _ _) Try.underlying40 rfl (by rw [boolArr_size]; rfl) ?_)
          | (go_at_call 20; refine (Of_c _ _).mono ?_; rintro e w3 ⟨rfl, hb3⟩))
        go_ret2
        refine ⟨?_, (((hb1.trans (hb2.mono hs1)).alloc (by omega) _).alloc (by simp; omega) _).trans (hb3.mono (by simp; omega))⟩
        rw [HV.out, HE.out, if_pos HF.out, if_pos ⟨HP.out, HF.out⟩, ← putTo_all X M D P (by omega)]
        rfl
  · rw [if_neg hp, if_neg (fun k => hp k.1)]
    have HP := Lib.hid hp
    clear hp
    go_enter Try.func11, Try.ntmps11
    go_wp2_with (go_at_call 23; refine (Is_no _ _ HP.out _).mono ?_; rintro e w' ⟨rfl, rfl⟩)
    go_ret2
    exact ⟨rfl, Below.refl _ _⟩
end Go.Proofs.Ytlfeaahbmahhgaa
