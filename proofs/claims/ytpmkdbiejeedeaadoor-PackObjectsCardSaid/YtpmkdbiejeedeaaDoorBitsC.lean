/-
  Contracts of Put, in the package bits and in its reference.
-/
import Derived.Test.YtpmkdbiejeedeaaDoorBitsB
namespace Go.Proofs.YtpmkdbiejeedeaaDoor
open Go.RowKit
set_option linter.unusedVariables false

/-- bits with a part, and an error's number -/
def putV (x m wd p : Int) : Nat := if mth.isP m wd ∧ p.toNat < 2 ^ wd.toNat then mth.ofBits (mth.putB x.toNat m.toNat wd.toNat p.toNat) 64 else 0
def putE (m wd p : Int) : Int := if mth.isP m wd then (if p.toNat < 2 ^ wd.toNat then 0 else 2) else 1

theorem neq_zero_iff (P wd : Nat) (hP : P < 18446744073709551616) : (((P &&& (18446744073709551615 - mth.mask wd) : Nat) : Int) != 0) = !decide (P < 2 ^ wd) := by
  have := mth.fits_iff P wd hP
  by_cases h : P < 2 ^ wd
  · rw [this.2 h]; simp [h]
  · have h0 : ¬ P &&& (18446744073709551615 - mth.mask wd) = 0 := fun e => h (this.1 e)
    have h1 : ¬ ((P &&& (18446744073709551615 - mth.mask wd) : Nat) : Int) = 0 := by omega
    have h2 : (((P &&& (18446744073709551615 - mth.mask wd) : Nat) : Int) == 0) = false := by rw [beq_eq_false_iff_ne]; exact h1
    simp only [bne, h2, h]
    rfl

theorem Put_c (x m wd p : Int) (h1 : 0 ≤ x) (h2 : x ≤ 18446744073709551615) (h3 : 0 ≤ p) (h4 : p ≤ 18446744073709551615) (w : World) :
    Calls Tryd.prog 18 #[.int .u64 x, .int .i64 m, .int .i64 wd, .int .u64 p] w fun e w' => e = .returned (.tuple #[.int .u64 (putV x m wd p : Nat), errV (putE m wd p)]) ∧ w = w' := by
  unfold putV putE
  by_cases hp : mth.isP m wd
  · rw [if_pos hp]
    obtain ⟨p1, p2, p3, p4⟩ := id hp
    obtain ⟨X, rfl⟩ := Int.eq_ofNat_of_zero_le h1
    obtain ⟨M, rfl⟩ := Int.eq_ofNat_of_zero_le p1
    obtain ⟨D, rfl⟩ := Int.eq_ofNat_of_zero_le (show 0 ≤ wd by omega)
    obtain ⟨P, rfl⟩ := Int.eq_ofNat_of_zero_le h3
    simp only [Int.toNat_natCast]
    have hX : X < 18446744073709551616 := by omega
    have hP : P < 18446744073709551616 := by omega
    have hm := mth.mask_lt (D : Int)
    have e1 : bits .andNot .u64 (P : Int) (mth.mask (D : Int) : Nat) = ((P &&& (18446744073709551615 - mth.mask (D : Int)) : Nat) : Int) := u64_andNot_nat _ _ hP hm
    have e2 : (((P &&& (18446744073709551615 - mth.mask (D : Int)) : Nat) : Int) != 0) = !decide (P < 2 ^ D) := neq_zero_iff P D hP
    by_cases hf : P < 2 ^ D
    · have hn1 : (bits .andNot .u64 (P : Int) (mth.mask (D : Int) : Nat) != 0) = false := by rw [e1, e2]; simp [hf]
      clear e1 e2
      rw [if_pos hf, if_pos ⟨hp, hf⟩]
      have hf' := Lib.hid hf
      clear hf
      go_enter Tryd.func18, Tryd.ntmps18
      go_wp2_with (first
        | (go_at_call 21; refine (part_yes _ _ hp _).mono ?_; rintro e w' ⟨rfl, rfl⟩)
        | (go_at_call 22; refine (below_c _ _).mono ?_; rintro e w' ⟨rfl, rfl⟩))
      go_ret2
      refine ⟨ret_int_v ?_, rfl⟩
      rw [wrap_u64_nat, wrap_u64_nat, u64_andNot_nat _ _ hX (Nat.mod_lt _ (by omega)), u64_or_nat _ _ (Nat.lt_of_le_of_lt Nat.and_le_left hX) (Nat.mod_lt _ (by omega)), mth.put_eq X M D P hf'.out]
    · have hn1 : (bits .andNot .u64 (P : Int) (mth.mask (D : Int) : Nat) != 0) = true := by rw [e1, e2]; simp [hf]
      clear e1 e2
      rw [if_neg hf, if_neg (fun k => hf k.2)]
      have hf' := Lib.hid hf
      clear hf
      go_enter Tryd.func18, Tryd.ntmps18
      go_wp2_with (first
        | (go_at_call 21; refine (part_yes _ _ hp _).mono ?_; rintro e w' ⟨rfl, rfl⟩)
        | (go_at_call 22; refine (below_c _ _).mono ?_; rintro e w' ⟨rfl, rfl⟩))
      go_ret2
      exact ⟨rfl, rfl⟩
  · rw [if_neg hp, if_neg (fun k => hp k.1)]
    have HP := Lib.hid hp
    clear hp
    go_enter Tryd.func18, Tryd.ntmps18
    go_wp2_with (go_at_call 21; refine (part_no _ _ HP.out _).mono ?_; rintro e w' ⟨rfl, rfl⟩)
    go_ret2
    exact ⟨rfl, rfl⟩

def putTo (x m wd p k : Nat) : Nat → Bool := fun i => if m ≤ i ∧ i < m + min k wd then p.testBit (i - m) else x.testBit i
theorem putTo_zero (x m wd p : Nat) : bools (putTo x m wd p 0) = bitRow x 64 := by
  unfold bools bitRow
  exact rowOf_congr fun i hi => by
    have h : ¬ (m ≤ i ∧ i < m + min 0 wd) := by omega
    simp only [putTo, if_neg h, hi, decide_true, Bool.true_and]
theorem putTo_succ (x m wd p k : Nat) (h : k < wd) : (bools (putTo x m wd p k)).setIfInBounds (m + k) (.bool (p.testBit k)) = bools (putTo x m wd p (k + 1)) := by
  unfold bools
  rw [rowOf_set]
  refine rowOf_congr fun i hi => ?_
  by_cases e : i = m + k
  · subst e
    have h1 : m ≤ m + k ∧ m + k < m + min (k + 1) wd := by omega
    simp only [putTo, if_pos h1, if_true, Nat.add_sub_cancel_left]
  · have : (m ≤ i ∧ i < m + min (k + 1) wd) = (m ≤ i ∧ i < m + min k wd) := by apply propext; omega
    simp only [putTo, e, this, if_false]
theorem putTo_stay (x m wd p k : Nat) (h : wd ≤ k) : bools (putTo x m wd p k) = bools (putTo x m wd p (k + 1)) := by
  unfold bools
  refine rowOf_congr fun i hi => ?_
  have : (m ≤ i ∧ i < m + min (k + 1) wd) = (m ≤ i ∧ i < m + min k wd) := by apply propext; omega
  simp only [putTo, this]
theorem putTo_all (x m wd p : Nat) (h : wd ≤ 64) : mth.ofBits (putTo x m wd p 64) 64 = mth.ofBits (mth.putB x m wd p) 64 :=
  mth.ofBits_congr fun i hi => by simp only [putTo, mth.putB, show min 64 wd = wd from by omega]

theorem bitRow_at (X i : Nat) (hi : i < 64) : (bitRow X 64)[i]? = some (.bool (X.testBit i)) := by
  unfold bitRow; rw [rowOf_get _ hi]; simp [hi]

end Go.Proofs.YtpmkdbiejeedeaaDoor
