/-
  The two lowest bits of a number: program's and checker's ways to ask.
-/
import Derived.Test.YtlgfnimahmmgeaaDoorSymU
namespace Go.Proofs.YtlgfnimahmmgeaaDoor
open Go.RowKit
set_option linter.unusedVariables false
set_option linter.unusedSimpArgs false

theorem ofInt_nat64 (x : Int) : ((BitVec.ofInt 64 x).toNat : Int) = x % 18446744073709551616 := by
  rw [BitVec.toNat_ofInt]; omega
theorem wrapU (x : Int) : IntKind.u64.wrap x = x % 18446744073709551616 := by
  rw [IntKind.wrap_u64]
theorem andU1 {a : Int} : Ar.and.of .u64 a 1 = a % 2 := by
  show IntKind.u64.wrap ((BitVec.ofInt 64 a &&& BitVec.ofInt 64 1).toNat : Int) = _
  rw [BitVec.toNat_and, show (BitVec.ofInt 64 1).toNat = 1 from rfl, Nat.and_one_is_mod, wrapU]
  have := ofInt_nat64 a
  omega
/-- is bit p set? p is 0 or 1 -/
def kn (p x : Int) : Bool := if p = 0 then x % 2 == 1 else x / 2 % 2 == 1
theorem has_kn {p x : Int} (hp : p = 0 ∨ p = 1) : (Ar.and.of .u64 (Ar.shr.of .u64 (IntKind.u64.wrap x) (IntKind.u64.wrap p)) 1 == 1) = kn p x := by
  rw [andU1]
  rcases hp with rfl | rfl
  · show ((IntKind.u64.wrap x).fdiv 1 % 2 == 1) = (x % 2 == 1)
    rw [wrapU, Int.fdiv_one, Bool.eq_iff_iff, beq_iff_eq, beq_iff_eq]; omega
  · show ((IntKind.u64.wrap x).fdiv 2 % 2 == 1) = (x / 2 % 2 == 1)
    rw [wrapU, Int.fdiv_eq_ediv_of_nonneg _ (by decide), Bool.eq_iff_iff, beq_iff_eq, beq_iff_eq]; omega
theorem rem_kn0 (x : Int) : (Ar.rem.of .u64 (IntKind.u64.wrap x) 2 == 1) = kn 0 x := by
  show ((IntKind.u64.wrap x).tmod 2 == 1) = (x % 2 == 1)
  rw [wrapU, Int.tmod_eq_emod_of_nonneg (Int.emod_nonneg _ (by decide)), Bool.eq_iff_iff, beq_iff_eq, beq_iff_eq]; omega
theorem rem_kn1 (x : Int) : (Ar.rem.of .u64 (Ar.quo.of .u64 (IntKind.u64.wrap x) 2) 2 == 1) = kn 1 x := by
  show ((IntKind.u64.wrap ((IntKind.u64.wrap x).tdiv 2)).tmod 2 == 1) = (x / 2 % 2 == 1)
  have h0 : 0 ≤ x % 18446744073709551616 := Int.emod_nonneg _ (by decide)
  rw [wrapU, wrapU, Int.tdiv_eq_ediv_of_nonneg h0, Int.tmod_eq_emod_of_nonneg (Int.emod_nonneg _ (by decide)), Bool.eq_iff_iff, beq_iff_eq, beq_iff_eq]; omega
theorem and_pow0 {b : BitVec 64} {i : Nat} (hi : i < 63) (h : b.toNat.testBit i = false) : (b &&& BitVec.ofNat 64 (2 ^ i)).toNat = 0 := by
  rw [BitVec.toNat_and, BitVec.toNat_ofNat, Nat.mod_eq_of_lt (Nat.pow_lt_pow_right (by decide) (by omega))]
  refine Nat.eq_of_testBit_eq fun j => ?_
  rw [Nat.testBit_and, Nat.testBit_two_pow, Nat.zero_testBit]
  by_cases hj : i = j
  · subst hj; rw [h]; rfl
  · simp [hj]
theorem seen_bit {p x : Int} (hp : p = 0 ∨ p = 1) (h : kn p x = false) : Ar.and.of .i64 x (Ar.shl.of .i64 1 (IntKind.u64.wrap p)) = 0 := by
  have hx := ofInt_nat64 x
  rcases hp with rfl | rfl
  · have e : Ar.shl.of .i64 1 (IntKind.u64.wrap 0) = 1 := by decide +kernel
    have e2 : BitVec.ofInt 64 1 = BitVec.ofNat 64 (2 ^ 0) := by decide +kernel
    have e3 : Ar.and.of .i64 x 1 = IntKind.i64.wrap ((BitVec.ofInt 64 x &&& BitVec.ofInt 64 1).toNat : Int) := rfl
    rw [e, e3, e2, and_pow0 (by decide)]
    · decide +kernel
    · have h : (x % 2 == 1) = false := h
      rw [beq_eq_false_iff_ne] at h
      rw [Nat.testBit_zero, decide_eq_false_iff_not]; omega
  · have e : Ar.shl.of .i64 1 (IntKind.u64.wrap 1) = 2 := by decide +kernel
    have e2 : BitVec.ofInt 64 2 = BitVec.ofNat 64 (2 ^ 1) := by decide +kernel
    have e3 : Ar.and.of .i64 x 2 = IntKind.i64.wrap ((BitVec.ofInt 64 x &&& BitVec.ofInt 64 2).toNat : Int) := rfl
    rw [e, e3, e2, and_pow0 (by decide)]
    · decide +kernel
    · have h : (x / 2 % 2 == 1) = false := h
      rw [beq_eq_false_iff_ne] at h
      rw [Nat.testBit_succ, Nat.testBit_zero, decide_eq_false_iff_not]; omega
/-- several cells of a row are written -/
def updsT (i : Tm) : List (Nat × Tm) → Tm → Tm
  | [], a => a
  | (c, v) :: l, a => updsT i l (.upd a i c v)
def setsR (Δ : Tab) (ρ : List Dat) : List (Nat × Tm) → List Dat → List Dat
  | [], r => r
  | (c, v) :: l, r => setsR Δ ρ l (r.set c (den Δ ρ v))
theorem set_getD_self {α : Type} {l : List α} {i : Nat} {d : α} : l.set i (l.getD i d) = l := by
  by_cases h : i < l.length
  · rw [List.getD_eq_getElem?_getD, List.getElem?_eq_getElem h]; exact List.set_getElem_self h
  · exact List.set_eq_of_length_le (by omega)
theorem upds_den {Δ : Tab} {ρ : List Dat} {i : Tm} : ∀ (l : List (Nat × Tm)) (a : Tm) (xs : List (List Dat)), den Δ ρ a = .rows xs → (den Δ ρ i).toInt.toNat < xs.length →
    den Δ ρ (updsT i l a) = .rows (xs.set (den Δ ρ i).toInt.toNat (setsR Δ ρ l (xs.getD (den Δ ρ i).toInt.toNat [])))
  | [], a, xs, h, hi => by rw [updsT, h, setsR, set_getD_self]
  | (c, v) :: l, a, xs, h, hi => by
    rw [updsT, upds_den l (.upd a i c v) (xs.set (den Δ ρ i).toInt.toNat ((xs.getD (den Δ ρ i).toInt.toNat []).set c (den Δ ρ v))) (by rw [den_upd, h]; rfl) (by rw [List.length_set]; exact hi), setsR, List.set_set]
    congr 2
    rw [List.getD_eq_getElem?_getD, List.getElem?_set_self hi]; rfl
def idxT : Nat → List Tm → List (Nat × Tm)
  | _, [] => []
  | k, t :: l => (k, t) :: idxT (k + 1) l
theorem setsR_all {Δ : Tab} {ρ : List Dat} : ∀ (ts : List Tm) (k : Nat) (r : List Dat), r.length = k + ts.length → setsR Δ ρ (idxT k ts) r = r.take k ++ ts.map (den Δ ρ)
  | [], k, r, h => by rw [idxT, setsR, List.take_of_length_le (by simpa using Nat.le_of_eq h)]; simp
  | t :: l, k, r, h => by
    have hk : k < r.length := by rw [h, List.length_cons]; omega
    rw [idxT, setsR, setsR_all l (k + 1) _ (by rw [List.length_set, h, List.length_cons]; omega), List.map_cons]
    have e : (r.set k (den Δ ρ t)).take (k + 1) = r.take k ++ [den Δ ρ t] := by
      rw [List.take_add_one, List.take_set, List.getElem?_set_self hk]
      have : (r.take k).set k (den Δ ρ t) = r.take k := List.set_eq_of_length_le (by rw [List.length_take]; exact Nat.min_le_left _ _)
      rw [this]; rfl
    rw [e, List.append_assoc]; rfl
theorem upds_all {Δ : Tab} {ρ : List Dat} {a ix : Tm} {L : List (List Dat)} {i : Nat} {ts : List Tm} (h1 : (den Δ ρ ix).toInt.toNat = i) (h2 : den Δ ρ a = .rows L) (hi : i < L.length) (hr : (L.getD i []).length = ts.length) :
    den Δ ρ (updsT ix (idxT 0 ts) a) = .rows (L.set i (ts.map (den Δ ρ))) := by
  rw [upds_den _ a L h2 (by rw [h1]; exact hi), h1, setsR_all ts 0 _ (by rw [hr, Nat.zero_add])]
  rfl
theorem map_set {l : List (List Dat)} {i : Nat} (f : List Dat → List Dat) (h : i < l.length) : ((l.take i).map f ++ l.drop i).set i (f (l.getD i [])) = (l.take (i + 1)).map f ++ l.drop (i + 1) := by
  rw [drop_getD (d := []) h, take_succ_getD (d := []) h, List.map_append, List.set_append_right _ _ (by simp; omega)]
  have : i - ((l.take i).map f).length = 0 := by simp; omega
  rw [this]
  simp
theorem map_get {l : List (List Dat)} {i : Nat} (f : List Dat → List Dat) (h : i < l.length) : ((l.take i).map f ++ l.drop i).getD i [] = l.getD i [] := by
  rw [drop_getD (d := []) h, List.getD_eq_getElem?_getD, List.getElem?_append_right (by simp; omega)]
  have : i - ((l.take i).map f).length = 0 := by simp; omega
  rw [this]; rfl
theorem map_keep {l : List (List Dat)} {i : Nat} (f : List Dat → List Dat) (h : i < l.length) (hf : f (l.getD i []) = l.getD i []) : (l.take i).map f ++ l.drop i = (l.take (i + 1)).map f ++ l.drop (i + 1) := by
  rw [drop_getD (d := []) h, take_succ_getD (d := []) h, List.map_append, List.map_cons, List.map_nil, hf, List.append_assoc]; rfl
theorem map_len {l : List (List Dat)} {i : Nat} (f : List Dat → List Dat) : ((l.take i).map f ++ l.drop i).length = l.length := by
  simp; omega
end Go.Proofs.YtlgfnimahmmgeaaDoor
