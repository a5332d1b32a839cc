/-
  Plain facts on packing: a head's parts, what they are worth, and back.
-/
import Derived.Test.YtpmkdbiejeedeaaDoorMathA
namespace Go.Proofs.YtpmkdbiejeedeaaDoor.mth

def fld : List Nat := [1, 2, 3, 4, 5, 11, 13, 17, 10]
def wid : List Nat := [1, 1, 4, 1, 1, 1, 2, 2, 8]
def oth : List Nat := [0, 6, 7, 8, 9, 12, 14, 15, 16]
def fl (k : Nat) : Nat := fld.getD k 0
def wi (k : Nat) : Nat := wid.getD k 1
def ot (k : Nat) : Nat := oth.getD k 0
def atK (k : Nat) : Nat := [0, 1, 2, 6, 7, 8, 9, 11, 13, 21].getD k 21
theorem lt9 {k : Nat} (h : k < 9) : k = 0 ∨ k = 1 ∨ k = 2 ∨ k = 3 ∨ k = 4 ∨ k = 5 ∨ k = 6 ∨ k = 7 ∨ k = 8 := by omega
theorem tab_ok : ∀ k : Fin 9, fl k < 18 ∧ 1 ≤ wi k ∧ wi k ≤ 8 ∧ atK k + wi k = atK (k + 1) ∧ atK (k + 1) ≤ 21 ∧ fld.idxOf (fl k) = k ∧ ot k < 18 ∧ oth.idxOf (ot k) = k ∧ 9 ≤ fld.idxOf (ot k) := by decide
theorem tab {k : Nat} (h : k < 9) : fl k < 18 ∧ 1 ≤ wi k ∧ wi k ≤ 8 ∧ atK k + wi k = atK (k + 1) ∧ atK (k + 1) ≤ 21 ∧ fld.idxOf (fl k) = k ∧ ot k < 18 ∧ oth.idxOf (ot k) = k ∧ 9 ≤ fld.idxOf (ot k) := tab_ok ⟨k, h⟩
theorem tab18_ok : ∀ i : Fin 18, (fld.idxOf i.val < 9 ∧ fl (fld.idxOf i.val) = i.val) ∨ (9 ≤ fld.idxOf i.val ∧ oth.idxOf i.val < 9 ∧ ot (oth.idxOf i.val) = i.val) := by decide
theorem tab18 {i : Nat} (h : i < 18) : (fld.idxOf i < 9 ∧ fl (fld.idxOf i) = i) ∨ (9 ≤ fld.idxOf i ∧ oth.idxOf i < 9 ∧ ot (oth.idxOf i) = i) := tab18_ok ⟨i, h⟩

/-- the first k parts are right -/
def okH (f : Nat → Int) (k : Nat) : Prop := ∀ j, j < k → 0 ≤ f (fl j) ∧ f (fl j) < ((2 ^ wi j : Nat) : Int)
instance (f : Nat → Int) (k : Nat) : Decidable (okH f k) := by unfold okH; infer_instance
def hdN (f : Nat → Int) : Nat → Nat
  | 0 => 0
  | k + 1 => hdN f k + (f (fl k)).toNat * 2 ^ atK k
theorem okH_zero (f : Nat → Int) : okH f 0 := fun j h => absurd h (by omega)
theorem okH_succ {f : Nat → Int} {k : Nat} (h : okH f k) (h1 : 0 ≤ f (fl k)) (h2 : f (fl k) < ((2 ^ wi k : Nat) : Int)) : okH f (k + 1) := fun j hj => by
  by_cases e : j = k
  · subst e; exact ⟨h1, h2⟩
  · exact h j (by omega)
theorem hdN_lt {f : Nat → Int} : ∀ {k : Nat}, k ≤ 9 → okH f k → hdN f k < 2 ^ atK k
  | 0, _, _ => by simp [hdN, atK]
  | k + 1, hk, h => by
    have ih := hdN_lt (f := f) (k := k) (by omega) (fun j hj => h j (by omega))
    obtain ⟨h1, h2⟩ := h k (by omega)
    obtain ⟨_, _, _, he, _⟩ := tab (k := k) (by omega)
    rw [hdN, ← he, Nat.pow_add]
    have h3 : (f (fl k)).toNat + 1 ≤ 2 ^ wi k := by omega
    have h4 : ((f (fl k)).toNat + 1) * 2 ^ atK k ≤ 2 ^ wi k * 2 ^ atK k := Nat.mul_le_mul_right _ h3
    rw [Nat.add_mul, Nat.one_mul] at h4
    rw [Nat.mul_comm (2 ^ atK k)]
    omega
theorem pow_le (a b : Nat) (h : a ≤ b) : 2 ^ a ≤ 2 ^ b := Nat.pow_le_pow_right (by omega) h
theorem put_small {x m wd p : Nat} (hx : x < 2 ^ m) (hp : p < 2 ^ wd) (hm : m + wd ≤ 64) : ofBits (putB x m wd p) 64 = x + p * 2 ^ m := by
  symm
  apply eq_ofBits
  · have h1 : 2 ^ m * 2 ^ wd ≤ 2 ^ 64 := by rw [← Nat.pow_add]; exact pow_le _ _ hm
    have h2 : (p + 1) * 2 ^ m ≤ 2 ^ wd * 2 ^ m := Nat.mul_le_mul_right _ (by omega)
    rw [Nat.add_mul, Nat.one_mul, Nat.mul_comm (2 ^ wd)] at h2
    omega
  · intro i _
    rw [Nat.add_comm, Nat.mul_comm, Nat.testBit_two_pow_mul_add p hx]
    unfold putB
    by_cases h1 : i < m
    · rw [if_pos h1, if_neg (by omega)]
    · rw [if_neg h1]
      by_cases h2 : i < m + wd
      · rw [if_pos ⟨by omega, h2⟩]
      · rw [if_neg (by omega), Nat.testBit_lt_two_pow (Nat.lt_of_lt_of_le hp (pow_le _ _ (by omega))), Nat.testBit_lt_two_pow (Nat.lt_of_lt_of_le hx (pow_le _ _ (by omega)))]
theorem part_small (x m wd : Nat) (hm : m + wd ≤ 64) : ofBits (partB x m wd) 64 = x / 2 ^ m % 2 ^ wd := by
  symm
  apply eq_ofBits
  · exact Nat.lt_of_lt_of_le (Nat.mod_lt _ (Nat.two_pow_pos _)) (pow_le _ _ (by omega))
  · intro i _
    rw [Nat.testBit_mod_two_pow, Nat.testBit_div_two_pow, Nat.add_comm i m]
    rfl

/-- part k of a head -/
def ptN (h k : Nat) : Nat := h / 2 ^ atK k % 2 ^ wi k
/-- an object's cells where k parts were laid, and j of the rest -/
def obj (h : Nat) (r : Nat → Int) (k j : Nat) (i : Nat) : Int :=
  if fld.idxOf i < k then (ptN h (fld.idxOf i) : Nat) else if 9 ≤ fld.idxOf i ∧ oth.idxOf i < j then r (oth.idxOf i) else 0
theorem obj_part {h : Nat} {r : Nat → Int} {k i : Nat} (hk : k < 9) (hi : i < 18) : (if i = fl k then ((ptN h k : Nat) : Int) else obj h r k 0 i) = obj h r (k + 1) 0 i := by
  obtain ⟨_, _, _, _, _, e, _⟩ := tab hk
  unfold obj
  by_cases h1 : i = fl k
  · subst h1; rw [if_pos rfl, e, if_pos (by omega)]
  · rw [if_neg h1]
    have h2 : fld.idxOf i ≠ k := by
      intro h2
      rcases tab18 hi with ⟨_, b⟩ | ⟨a, _⟩
      · rw [h2] at b; exact h1 b.symm
      · omega
    by_cases h3 : fld.idxOf i < k
    · rw [if_pos h3, if_pos (by omega)]
    · have h5 : ¬ fld.idxOf i < k + 1 := by omega
      simp [h3, h5]
theorem obj_rest {h : Nat} {r : Nat → Int} {j i : Nat} (hj : j < 9) (hi : i < 18) : (if i = ot j then r j else obj h r 9 j i) = obj h r 9 (j + 1) i := by
  obtain ⟨_, _, _, _, _, _, _, e, e2⟩ := tab hj
  unfold obj
  by_cases h1 : i = ot j
  · subst h1; rw [if_pos rfl, if_neg (by omega), if_pos ⟨e2, by omega⟩, e]
  · rw [if_neg h1]
    by_cases h3 : fld.idxOf i < 9
    · rw [if_pos h3, if_pos h3]
    · rw [if_neg h3, if_neg h3]
      have h2 : oth.idxOf i ≠ j := by
        intro h2
        rcases tab18 hi with ⟨a, _⟩ | ⟨_, _, b⟩
        · omega
        · rw [h2] at b; exact h1 b.symm
      by_cases h4 : 9 ≤ fld.idxOf i ∧ oth.idxOf i < j
      · rw [if_pos h4, if_pos ⟨h4.1, by omega⟩]
      · rw [if_neg h4, if_neg (by omega)]
theorem obj_zero (h : Nat) (r : Nat → Int) (i : Nat) : obj h r 0 0 i = 0 := by
  unfold obj
  rw [if_neg (by omega), if_neg (by omega)]

theorem obj_fl {h : Nat} {r : Nat → Int} {k : Nat} (hk : k < 9) : obj h r 9 9 (fl k) = (ptN h k : Nat) := by
  obtain ⟨_, _, _, _, _, e, _⟩ := tab hk
  unfold obj; rw [e, if_pos hk]
theorem obj_ot {h : Nat} {r : Nat → Int} {k : Nat} (hk : k < 9) : obj h r 9 9 (ot k) = r k := by
  obtain ⟨_, _, _, _, _, _, _, e, e2⟩ := tab hk
  unfold obj; rw [if_neg (by omega), if_pos ⟨e2, by omega⟩, e]
theorem obj_ok (h : Nat) (r : Nat → Int) : okH (obj h r 9 9) 9 := fun j hj => by
  rw [obj_fl hj]
  have := Nat.mod_lt (h / 2 ^ atK j) (Nat.two_pow_pos (wi j))
  unfold ptN
  omega
theorem hdN_obj (h : Nat) (r : Nat → Int) : ∀ k, k ≤ 9 → hdN (obj h r 9 9) k = h % 2 ^ atK k
  | 0, _ => by rw [hdN, show atK 0 = 0 from rfl, Nat.pow_zero, Nat.mod_one]
  | k + 1, hk => by
    obtain ⟨_, _, _, he, _⟩ := tab (k := k) (by omega)
    rw [hdN, hdN_obj h r k (by omega), obj_fl (by omega), Int.toNat_natCast, ← he, Nat.pow_add, Nat.mod_mul, Nat.mul_comm]
    rfl
theorem hdN_part {f : Nat → Int} : ∀ {k : Nat}, k ≤ 9 → okH f k → ∀ j, j < k → ptN (hdN f k) j = (f (fl j)).toNat
  | 0, _, _, j, hj => absurd hj (by omega)
  | k + 1, hk, h, j, hj => by
    have hok : okH f k := fun j hj => h j (by omega)
    have hlt := hdN_lt (f := f) (k := k) (by omega) hok
    obtain ⟨h1, h2⟩ := h k (by omega)
    unfold ptN
    rw [hdN]
    by_cases e : j = k
    · subst e
      rw [Nat.add_mul_div_right _ _ (Nat.two_pow_pos _), Nat.div_eq_of_lt hlt, Nat.zero_add, Nat.mod_eq_of_lt (by omega)]
    · have ih := hdN_part (f := f) (k := k) (by omega) hok j (by omega)
      unfold ptN at ih
      rw [← ih]
      have hle : atK j + wi j ≤ atK k := by
        have key : ∀ k : Fin 10, ∀ j : Fin 9, j.val < k.val → atK j + wi j ≤ atK k := by decide
        exact key ⟨k, by omega⟩ ⟨j, by omega⟩ (by show j < k; omega)
      obtain ⟨q, hq⟩ : ∃ q, atK k = atK j + wi j + q := ⟨atK k - (atK j + wi j), by omega⟩
      rw [hq, Nat.pow_add, Nat.pow_add, Nat.mul_assoc, Nat.mul_left_comm, Nat.add_mul_div_left _ _ (Nat.two_pow_pos _), ← Nat.mul_assoc, Nat.mul_comm _ (2 ^ wi j), Nat.mul_assoc, Nat.add_mul_mod_self_left]
/-- head and rest tell the object -/
theorem obj_back {f : Nat → Int} (h : okH f 9) {i : Nat} (hi : i < 18) : obj (hdN f 9) (fun j => f (ot j)) 9 9 i = f i := by
  rcases tab18 hi with ⟨a, b⟩ | ⟨a, b, c⟩
  · have := obj_fl (h := hdN f 9) (r := fun j => f (ot j)) a
    rw [b] at this
    rw [this, hdN_part (by omega) h _ a, b]
    have := (h _ a).1
    rw [b] at this
    omega
  · have := obj_ot (h := hdN f 9) (r := fun j => f (ot j)) b
    rw [c] at this
    rw [this]
end Go.Proofs.YtpmkdbiejeedeaaDoor.mth
