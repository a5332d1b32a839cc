/-
  Contracts of the package bits and of its reference: what each function returns.
-/
import Derived.Test.YtpmkdbiejeedeaaDoorKitA
import Derived.Test.YtpmkdbiejeedeaaDoorMathA
namespace Go.Proofs.YtpmkdbiejeedeaaDoor
open Go.RowKit
set_option linter.unusedVariables false

/-- the bits of a number below n, the others false -/
def bitRow (x n : Nat) : Array Value := rowOf 64 fun i => .bool (decide (i < n) && x.testBit i)

theorem zero64 : rowOf 64 (fun _ => .bool false) = (Array.replicate 64 (Value.bool false)) := by
  apply Array.ext_getElem?
  intro j
  by_cases hj : j < 64
  · rw [rowOf_get _ hj]; simp [hj]
  · rw [rowOf_get_none _ (by omega)]; simp; omega

theorem bitRow_zero (x : Nat) : bitRow x 0 = rowOf 64 (fun _ => .bool false) := by
  unfold bitRow; exact rowOf_congr fun i _ => by simp
theorem bitRow_succ (x k : Nat) : (bitRow x k).setIfInBounds k (.bool ((((x / 2 ^ k : Nat) : Int) % 2) == 1)) = bitRow x (k + 1) := by
  unfold bitRow
  rw [rowOf_set]
  refine rowOf_congr fun i _ => ?_
  by_cases e : i = k
  · subst e
    have : (((x / 2 ^ i : Nat) : Int) % 2 == 1) = x.testBit i := by
      rw [Nat.testBit_eq_decide_div_mod_eq, Bool.eq_iff_iff, beq_iff_eq, decide_eq_true_eq]; omega
    rw [if_pos rfl, this]; simp
  · have : decide (i < k + 1) = decide (i < k) := by rw [Bool.eq_iff_iff]; simp; omega
    simp [e, this]
theorem div_pow_succ (x k : Nat) : x / 2 ^ k / 2 = x / 2 ^ (k + 1) := by rw [Nat.div_div_eq_div_mul, Nat.pow_succ]

/-- a row of 64 bools -/
def bools (f : Nat → Bool) : Array Value := rowOf 64 fun i => .bool (f i)

theorem ofBits_step (f : Nat → Bool) (k : Nat) : mth.ofBits f (k + 1) = mth.ofBits f k + if f k then 2 ^ k else 0 := rfl

theorem below_c (n : Int) (w : World) : Calls Tryd.prog 22 #[.int .i64 n] w fun e w' => e = .returned (.int .u64 (mth.mask n : Nat)) ∧ w = w' := by
  by_cases h1 : 64 ≤ n
  · go_enter Tryd.func22, Tryd.ntmps22
    go_wp2
    go_ret
    exact ⟨ret_int (by unfold mth.mask; rw [show min n.toNat 64 = 64 from by omega]; rfl), rfl⟩
  · by_cases h2 : n ≤ 0
    · go_enter Tryd.func22, Tryd.ntmps22
      go_wp2
      all_goals
        go_ret
        refine ⟨ret_int ?_, rfl⟩
        unfold mth.mask
        rw [show min n.toNat 64 = 0 from by omega]
        first | rfl | (rw [show n.toNat = 0 from by omega]; rfl)
    · go_enter Tryd.func22, Tryd.ntmps22
      go_wp2
      all_goals
        go_ret
        refine ⟨ret_int ?_, rfl⟩
        unfold mth.mask
        rw [show min n.toNat 64 = n.toNat from by omega]
        have h3 : 2 ^ n.toNat ≤ 2 ^ 63 := Nat.pow_le_pow_right (by omega) (by omega)
        have h4 : (2 : Nat) ^ 63 = 9223372036854775808 := rfl
        have h5 := Nat.two_pow_pos n.toNat
        have h6 : (2 : Int) ^ n.toNat = ((2 ^ n.toNat : Nat) : Int) := by rw [Int.natCast_pow]; rfl
        rw [h6, IntKind.wrap_u64, IntKind.wrap_u64]
        omega

/-- a number's bits, those from wd on below k being its bit wd-1 -/
def tops (u wd k : Nat) : Nat → Bool := fun i => if wd ≤ i ∧ i < k then u.testBit (wd - 1) else u.testBit i
theorem tops_none (u wd : Nat) : bools (tops u wd wd) = bitRow u 64 := by
  unfold bools bitRow
  exact rowOf_congr fun i hi => by simp [tops, hi]; intro h1 h2; omega
theorem tops_all (u wd : Nat) : bools (tops u wd 64) = bools (mth.nbits u wd) := by
  unfold bools
  refine rowOf_congr fun i hi => ?_
  simp only [tops, mth.nbits]
  by_cases h : i < wd
  · rw [if_neg (by omega), if_pos h]
  · rw [if_pos (by omega), if_neg h]
theorem tops_succ (u wd k : Nat) (h : wd ≤ k) : (bools (tops u wd k)).setIfInBounds k (.bool (u.testBit (wd - 1))) = bools (tops u wd (k + 1)) := by
  unfold bools
  rw [rowOf_set]
  refine rowOf_congr fun i hi => ?_
  by_cases e : i = k
  · subst e; simp [tops, h]
  · have : (wd ≤ i ∧ i < k + 1) = (wd ≤ i ∧ i < k) := by apply propext; omega
    simp [tops, e, this]
end Go.Proofs.YtpmkdbiejeedeaaDoor
