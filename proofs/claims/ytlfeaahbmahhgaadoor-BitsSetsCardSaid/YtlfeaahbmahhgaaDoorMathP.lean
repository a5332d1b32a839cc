/-
  Plain mathematics: the sum of a number's bits, by adding up neighbours (as math/bits does). No program in sight.
-/
import Derived.Test.YtlfeaahbmahhgaaDoorMathA
namespace Go.Proofs.YtlfeaahbmahhgaaDoor.mth

/-- the number with the digits f in base B -/
def ev (B : Nat) : (Nat → Nat) → Nat → Nat
  | _, 0 => 0
  | f, n + 1 => f 0 + B * ev B (fun j => f (j + 1)) n

/-- the sum of the first n -/
def sm : (Nat → Nat) → Nat → Nat
  | _, 0 => 0
  | f, n + 1 => f 0 + sm (fun j => f (j + 1)) n

theorem ev_add (B : Nat) (n : Nat) : ∀ (f g : Nat → Nat), ev B f n + ev B g n = ev B (fun j => f j + g j) n := by
  induction n with
  | zero => intro f g; rfl
  | succ n ih =>
    intro f g
    have := ih (fun j => f (j + 1)) (fun j => g (j + 1))
    simp only [ev]
    rw [← this, Nat.mul_add]; omega

theorem ev_congr (B : Nat) (n : Nat) : ∀ {f g : Nat → Nat}, (∀ j, j < n → f j = g j) → ev B f n = ev B g n := by
  induction n with
  | zero => intro f g _; rfl
  | succ n ih =>
    intro f g h
    simp only [ev]
    rw [h 0 (by omega), ih (fun j hj => h (j + 1) (by omega))]

theorem ev_pair (B : Nat) (n : Nat) : ∀ (f : Nat → Nat), ev B f (2 * n) = ev (B * B) (fun j => f (2 * j) + B * f (2 * j + 1)) n := by
  induction n with
  | zero => intro f; rfl
  | succ n ih =>
    intro f
    have h := ih (fun j => f (j + 2))
    rw [show 2 * (n + 1) = 2 * n + 1 + 1 from by omega]
    simp only [ev]
    rw [show (fun j => f (j + 1 + 1)) = (fun j => f (j + 2)) from rfl, h, Nat.mul_add]
    rw [show (fun j => f (2 * j + 2) + B * f (2 * j + 1 + 2)) = (fun j => f (2 * (j + 1)) + B * f (2 * (j + 1) + 1)) from by
      funext j; rw [show 2 * (j + 1) = 2 * j + 2 from by omega, show 2 * j + 2 + 1 = 2 * j + 1 + 2 from by omega]]
    rw [Nat.mul_assoc, Nat.add_assoc]

theorem sm_pair (n : Nat) : ∀ (f : Nat → Nat), sm f (2 * n) = sm (fun j => f (2 * j) + f (2 * j + 1)) n := by
  induction n with
  | zero => intro f; rfl
  | succ n ih =>
    intro f
    have h := ih (fun j => f (j + 2))
    rw [show 2 * (n + 1) = 2 * n + 1 + 1 from by omega]
    simp only [sm]
    rw [show (fun j => f (j + 1 + 1)) = (fun j => f (j + 2)) from rfl, h]
    rw [show (fun j => f (2 * j + 2) + f (2 * j + 1 + 2)) = (fun j => f (2 * (j + 1)) + f (2 * (j + 1) + 1)) from by
      funext j; rw [show 2 * (j + 1) = 2 * j + 2 from by omega, show 2 * j + 2 + 1 = 2 * j + 1 + 2 from by omega]]
    rw [Nat.add_assoc]

theorem and_split (k a b c d : Nat) (hb : b < 2 ^ k) (hd : d < 2 ^ k) : (b + 2 ^ k * a) &&& (d + 2 ^ k * c) = (b &&& d) + 2 ^ k * (a &&& c) := by
  have e : ∀ x y : Nat, x < 2 ^ k → x + 2 ^ k * y = 2 ^ k * y ||| x := fun x y hx => by
    rw [Nat.add_comm, Nat.two_pow_add_eq_or_of_lt hx]
  rw [e b a hb, e d c hd, e (b &&& d) (a &&& c) (Nat.and_lt_two_pow _ hd)]
  apply Nat.eq_of_testBit_eq
  intro i
  simp only [Nat.testBit_and, Nat.testBit_or, Nat.testBit_two_pow_mul]
  by_cases h : k ≤ i
  · have hb' : b.testBit i = false := Nat.testBit_lt_two_pow (Nat.lt_of_lt_of_le hb (Nat.pow_le_pow_right (by omega) h))
    have hd' : d.testBit i = false := Nat.testBit_lt_two_pow (Nat.lt_of_lt_of_le hd (Nat.pow_le_pow_right (by omega) h))
    simp [h, hb', hd']
  · simp [h]

/-- the mask that keeps the lower half of each digit, and that half -/
theorem ev_low (c : Nat) (n : Nat) : ∀ (lo hi : Nat → Nat), (∀ j, lo j < 2 ^ c) → (∀ j, hi j < 2 ^ c) →
    ev (2 ^ (c + c)) (fun j => lo j + 2 ^ c * hi j) n &&& ev (2 ^ (c + c)) (fun _ => 2 ^ c - 1) n = ev (2 ^ (c + c)) lo n := by
  induction n with
  | zero => intro lo hi _ _; simp [ev]
  | succ n ih =>
    intro lo hi h1 h2
    have h := ih (fun j => lo (j + 1)) (fun j => hi (j + 1)) (fun j => h1 _) (fun j => h2 _)
    have hp := Nat.two_pow_pos c
    have hcc : 2 ^ (c + c) = 2 ^ c * 2 ^ c := Nat.pow_add ..
    have hd : lo 0 + 2 ^ c * hi 0 < 2 ^ (c + c) := by
      rw [hcc]
      have : 2 ^ c * hi 0 ≤ 2 ^ c * (2 ^ c - 1) := Nat.mul_le_mul_left _ (by have := h2 0; omega)
      rw [Nat.mul_sub, Nat.mul_one] at this
      have := Nat.le_mul_of_pos_left (2 ^ c) hp
      have := h1 0
      omega
    have hm : 2 ^ c - 1 < 2 ^ (c + c) := by
      rw [hcc]; have := Nat.le_mul_of_pos_left (2 ^ c) hp; omega
    simp only [ev]
    rw [and_split _ _ _ _ _ hd hm, h]
    congr 1
    rw [Nat.and_two_pow_sub_one_eq_mod, Nat.add_mul_mod_self_left, Nat.mod_eq_of_lt (h1 0)]

theorem ev_high (c : Nat) (n : Nat) : ∀ (lo hi : Nat → Nat), (∀ j, lo j < 2 ^ c) → (∀ j, hi j < 2 ^ c) →
    ev (2 ^ (c + c)) (fun j => lo j + 2 ^ c * hi j) n / 2 ^ c &&& ev (2 ^ (c + c)) (fun _ => 2 ^ c - 1) n = ev (2 ^ (c + c)) hi n := by
  induction n with
  | zero => intro lo hi _ _; simp [ev]
  | succ n ih =>
    intro lo hi h1 h2
    have h := ih (fun j => lo (j + 1)) (fun j => hi (j + 1)) (fun j => h1 _) (fun j => h2 _)
    have hp := Nat.two_pow_pos c
    have hcc : 2 ^ (c + c) = 2 ^ c * 2 ^ c := Nat.pow_add ..
    simp only [ev]
    generalize ev (2 ^ (c + c)) (fun j => lo (j + 1) + 2 ^ c * hi (j + 1)) n = X at *
    have e1 : (lo 0 + 2 ^ c * hi 0 + 2 ^ (c + c) * X) / 2 ^ c = (hi 0 + 2 ^ c * (X % 2 ^ c)) + 2 ^ (c + c) * (X / 2 ^ c) := by
      rw [hcc, Nat.mul_assoc, Nat.add_assoc, ← Nat.mul_add, Nat.add_mul_div_left _ _ hp, Nat.div_eq_of_lt (h1 0), Nat.zero_add]
      have := Nat.mod_add_div X (2 ^ c)
      rw [Nat.mul_assoc, Nat.add_assoc, ← Nat.mul_add, this]
    have hm : 2 ^ c - 1 < 2 ^ (c + c) := by
      rw [hcc]; have := Nat.le_mul_of_pos_left (2 ^ c) hp; omega
    have hx : X % 2 ^ c < 2 ^ c := Nat.mod_lt _ hp
    have hd : hi 0 + 2 ^ c * (X % 2 ^ c) < 2 ^ (c + c) := by
      rw [hcc]
      have : 2 ^ c * (X % 2 ^ c) ≤ 2 ^ c * (2 ^ c - 1) := Nat.mul_le_mul_left _ (by omega)
      rw [Nat.mul_sub, Nat.mul_one] at this
      have := Nat.le_mul_of_pos_left (2 ^ c) hp
      have := h2 0
      omega
    rw [e1, and_split _ _ _ _ _ hd hm, h]
    congr 1
    rw [Nat.and_two_pow_sub_one_eq_mod, Nat.add_mul_mod_self_left, Nat.mod_eq_of_lt (h2 0)]

/-- bit i of x, as a number -/
def bitN (x i : Nat) : Nat := x / 2 ^ i % 2
theorem bitN_lt (x i : Nat) : bitN x i < 2 := Nat.mod_lt _ (by omega)
theorem bitN_succ (x i : Nat) : bitN x (i + 1) = bitN (x / 2) i := by
  unfold bitN
  rw [Nat.pow_succ, Nat.mul_comm, ← Nat.div_div_eq_div_mul]
theorem ev_bits (n : Nat) : ∀ x, x < 2 ^ n → ev 2 (bitN x) n = x := by
  induction n with
  | zero => intro x hx; simp [ev]; omega
  | succ n ih =>
    intro x hx
    have h := ih (x / 2) (by rw [Nat.pow_succ] at hx; omega)
    simp only [ev]
    rw [show (fun j => bitN x (j + 1)) = bitN (x / 2) from funext fun j => bitN_succ x j, h]
    unfold bitN
    rw [Nat.pow_zero, Nat.div_one]
    omega

/-- how many bits are set -/
def popc (x : Nat) : Nat := sm (bitN x) 64

def sw1 (x : Nat) : Nat := (x / 2 &&& 6148914691236517205) + (x &&& 6148914691236517205)
def sw2 (x : Nat) : Nat := (x / 4 &&& 3689348814741910323) + (x &&& 3689348814741910323)
def sw3 (x : Nat) : Nat := (x / 16 + x) &&& 1085102592571150095

theorem sw1_eq (f : Nat → Nat) (hf : ∀ j, f j < 2) : sw1 (ev 2 f 64) = ev 4 (fun j => f (2 * j) + f (2 * j + 1)) 32 := by
  have h := ev_pair 2 32 f
  have h1 := ev_low 1 32 (fun j => f (2 * j)) (fun j => f (2 * j + 1)) (fun j => hf _) (fun j => hf _)
  have h2 := ev_high 1 32 (fun j => f (2 * j)) (fun j => f (2 * j + 1)) (fun j => hf _) (fun j => hf _)
  have hm : ev (2 ^ (1 + 1)) (fun _ => 2 ^ 1 - 1) 32 = 6148914691236517205 := by decide +kernel
  have e1 : (2 : Nat) ^ (1 + 1) = 4 := rfl
  have e2 : (2 : Nat) ^ 1 = 2 := rfl
  rw [hm, e1, e2] at h1 h2
  rw [show 2 * 32 = 64 from rfl, show 2 * 2 = 4 from rfl] at h
  unfold sw1
  rw [h, h1, h2, ev_add]
  exact ev_congr _ _ fun j _ => Nat.add_comm _ _

theorem sw2_eq (f : Nat → Nat) (hf : ∀ j, f j < 4) : sw2 (ev 4 f 32) = ev 16 (fun j => f (2 * j) + f (2 * j + 1)) 16 := by
  have h := ev_pair 4 16 f
  have h1 := ev_low 2 16 (fun j => f (2 * j)) (fun j => f (2 * j + 1)) (fun j => hf _) (fun j => hf _)
  have h2 := ev_high 2 16 (fun j => f (2 * j)) (fun j => f (2 * j + 1)) (fun j => hf _) (fun j => hf _)
  have hm : ev (2 ^ (2 + 2)) (fun _ => 2 ^ 2 - 1) 16 = 3689348814741910323 := by decide +kernel
  have e1 : (2 : Nat) ^ (2 + 2) = 16 := rfl
  have e2 : (2 : Nat) ^ 2 = 4 := rfl
  rw [hm, e1, e2] at h1 h2
  rw [show 2 * 16 = 32 from rfl, show 4 * 4 = 16 from rfl] at h
  unfold sw2
  rw [h, h1, h2, ev_add]
  exact ev_congr _ _ fun j _ => Nat.add_comm _ _

theorem ev_div (n : Nat) (f : Nat → Nat) (hf : f 0 < 16) : ev 16 f (n + 1) / 16 = ev 16 (fun j => f (j + 1)) n := by
  simp only [ev]; omega
theorem ev_pad (B : Nat) (n : Nat) : ∀ f : Nat → Nat, ev B f n = ev B (fun j => if j < n then f j else 0) (n + 1) := by
  induction n with
  | zero => intro f; simp [ev]
  | succ n ih =>
    intro f
    have := ih (fun j => f (j + 1))
    simp only [ev] at *
    rw [this]
    simp

theorem sw3_eq (f : Nat → Nat) (hf : ∀ j, f j < 5) : sw3 (ev 16 f 16) = ev 256 (fun j => f (2 * j) + f (2 * j + 1)) 8 := by
  have hd : ev 16 f 16 / 16 = ev 16 (fun j => if j < 15 then f (j + 1) else 0) 16 := by
    rw [ev_div 15 f (by have := hf 0; omega), ev_pad]
  have hs : ev 16 f 16 / 16 + ev 16 f 16 = ev 16 (fun j => (if j < 15 then f (j + 1) else 0) + f j) 16 := by rw [hd, ev_add]
  have h := ev_pair 16 8 (fun j => (if j < 15 then f (j + 1) else 0) + f j)
  have hb : ∀ j, (if j < 15 then f (j + 1) else 0) + f j < 2 ^ 4 := fun j => by
    have h1 := hf j
    have h2 := hf (j + 1)
    have : (2 : Nat) ^ 4 = 16 := rfl
    split <;> omega
  have h1 := ev_low 4 8 (fun j => (if 2 * j < 15 then f (2 * j + 1) else 0) + f (2 * j)) (fun j => (if 2 * j + 1 < 15 then f (2 * j + 1 + 1) else 0) + f (2 * j + 1)) (fun j => hb _) (fun j => hb _)
  have hm : ev (2 ^ (4 + 4)) (fun _ => 2 ^ 4 - 1) 8 = 1085102592571150095 := by decide +kernel
  have e1 : (2 : Nat) ^ (4 + 4) = 256 := rfl
  have e2 : (2 : Nat) ^ 4 = 16 := rfl
  rw [hm, e1, e2] at h1
  rw [show 2 * 8 = 16 from rfl, show 16 * 16 = 256 from rfl] at h
  unfold sw3
  rw [hs, h, h1]
  exact ev_congr _ _ fun j hj => by
    show (if 2 * j < 15 then f (2 * j + 1) else 0) + f (2 * j) = _
    rw [if_pos (by omega), Nat.add_comm]

def sw6 (x : Nat) : Nat := (x + x / 256 + (x + x / 256) / 65536 + (x + x / 256 + (x + x / 256) / 65536) / 4294967296) % 128

theorem sw6_eq (f : Nat → Nat) (hf : ∀ j, f j < 9) : sw6 (ev 256 f 8) = sm f 8 := by
  have h0 := hf 0
  have h1 := hf 1
  have h2 := hf 2
  have h3 := hf 3
  have h4 := hf 4
  have h5 := hf 5
  have h6 := hf 6
  have h7 := hf 7
  simp only [sw6, ev, sm, Nat.zero_add, Nat.reduceAdd]
  generalize f 0 = a0 at *
  generalize f 1 = a1 at *
  generalize f 2 = a2 at *
  generalize f 3 = a3 at *
  generalize f 4 = a4 at *
  generalize f 5 = a5 at *
  generalize f 6 = a6 at *
  generalize f 7 = a7 at *
  have e1 : (a0 + 256 * (a1 + 256 * (a2 + 256 * (a3 + 256 * (a4 + 256 * (a5 + 256 * (a6 + 256 * (a7 + 256 * 0)))))))) / 256 = a1 + 256 * (a2 + 256 * (a3 + 256 * (a4 + 256 * (a5 + 256 * (a6 + 256 * a7))))) := by omega
  rw [e1]
  obtain ⟨y, hy⟩ : ∃ y, y = a0 + 256 * (a1 + 256 * (a2 + 256 * (a3 + 256 * (a4 + 256 * (a5 + 256 * (a6 + 256 * (a7 + 256 * 0))))))) + (a1 + 256 * (a2 + 256 * (a3 + 256 * (a4 + 256 * (a5 + 256 * (a6 + 256 * a7)))))) := ⟨_, rfl⟩
  rw [← hy]
  clear e1
  have e2 : y / 65536 = (a2 + a3) + 256 * ((a3 + a4) + 256 * ((a4 + a5) + 256 * ((a5 + a6) + 256 * ((a6 + a7) + 256 * a7)))) := by omega
  rw [e2]
  obtain ⟨z, hz⟩ : ∃ z, z = y + ((a2 + a3) + 256 * ((a3 + a4) + 256 * ((a4 + a5) + 256 * ((a5 + a6) + 256 * ((a6 + a7) + 256 * a7))))) := ⟨_, rfl⟩
  rw [← hz]
  clear e2
  have e3 : z / 4294967296 = (a4 + a5 + a6 + a7) + 256 * ((a5 + a6 + a7) + 256 * ((a6 + a7) + 256 * a7)) := by omega
  rw [e3]
  omega

theorem popc_eq (x : Nat) (hx : x < 2 ^ 64) : sw6 (sw3 (sw2 (sw1 x))) = popc x := by
  have h := ev_bits 64 x hx
  have hb : ∀ j, bitN x j < 2 := fun j => bitN_lt x j
  unfold popc
  generalize bitN x = f at *
  rw [← h, sw1_eq f hb, sw2_eq _ (fun j => by have := hb (2 * j); have := hb (2 * j + 1); omega),
    sw3_eq _ (fun j => by have := hb (2 * (2 * j)); have := hb (2 * (2 * j) + 1); have := hb (2 * (2 * j + 1)); have := hb (2 * (2 * j + 1) + 1); omega), sw6_eq, show 64 = 2 * (2 * (2 * 8)) from rfl, sm_pair, sm_pair, sm_pair]
  intro j
  have := hb (2 * (2 * (2 * j)))
  have := hb (2 * (2 * (2 * j)) + 1)
  have := hb (2 * (2 * (2 * j) + 1))
  have := hb (2 * (2 * (2 * j) + 1) + 1)
  have := hb (2 * (2 * (2 * j + 1)))
  have := hb (2 * (2 * (2 * j + 1)) + 1)
  have := hb (2 * (2 * (2 * j + 1) + 1))
  have := hb (2 * (2 * (2 * j + 1) + 1) + 1)
  omega

theorem sm_congr (n : Nat) : ∀ {f g : Nat → Nat}, (∀ j, j < n → f j = g j) → sm f n = sm g n := by
  induction n with
  | zero => intro f g _; rfl
  | succ n ih =>
    intro f g h
    simp only [sm]
    rw [h 0 (by omega), ih (fun j hj => h (j + 1) (by omega))]
theorem sm_add (a : Nat) : ∀ (f : Nat → Nat) (b : Nat), sm f (a + b) = sm f a + sm (fun j => f (a + j)) b := by
  induction a with
  | zero => intro f b; simp [sm]
  | succ a ih =>
    intro f b
    have := ih (fun j => f (j + 1)) b
    rw [show a + 1 + b = (a + b) + 1 from by omega]
    simp only [sm]
    rw [this, show (fun j => f (a + j + 1)) = (fun j => f (a + 1 + j)) from by funext j; rw [show a + j + 1 = a + 1 + j from by omega]]
    omega
theorem sm_zero (n : Nat) : ∀ (f : Nat → Nat), (∀ j, j < n → f j = 0) → sm f n = 0 := by
  induction n with
  | zero => intro f _; rfl
  | succ n ih =>
    intro f h
    simp only [sm]
    rw [h 0 (by omega), ih _ (fun j hj => h (j + 1) (by omega))]
theorem bitN_eq (x i : Nat) : bitN x i = (x.testBit i).toNat := by
  unfold bitN
  rw [Nat.testBit_eq_decide_div_mod_eq]
  have : x / 2 ^ i % 2 < 2 := Nat.mod_lt _ (by omega)
  by_cases h : x / 2 ^ i % 2 = 1
  · simp [h]
  · have h0 : x / 2 ^ i % 2 = 0 := by omega
    simp [h0]
theorem bitN_ofBits (f : Nat → Bool) (n i : Nat) (hi : i < n) : bitN (ofBits f n) i = (f i).toNat := by
  rw [bitN_eq, testBit_ofBits]; simp [hi]
theorem bitN_high (p wd i : Nat) (hp : p < 2 ^ wd) (hi : wd ≤ i) : bitN p i = 0 := by
  rw [bitN_eq, Nat.testBit_lt_two_pow (Nat.lt_of_lt_of_le hp (Nat.pow_le_pow_right (by omega) hi))]; rfl

theorem popc_put (x m wd p : Nat) (hm : m + wd ≤ 64) (hp : p < 2 ^ wd) :
    popc (ofBits (putB x m wd p) 64) + popc (ofBits (partB x m wd) 64) = popc x + popc p := by
  have hw : 64 = wd + (64 - wd) := by omega
  have h64 : 64 = m + (wd + (64 - m - wd)) := by omega
  have e1 : popc p = sm (bitN p) wd := by
    unfold popc
    rw [hw, sm_add, sm_zero (64 - wd) _ (fun j _ => bitN_high p wd (wd + j) hp (by omega)), Nat.add_zero]
  have e2 : popc (ofBits (partB x m wd) 64) = sm (fun j => bitN x (m + j)) wd := by
    unfold popc
    rw (config := { occs := .pos [2] }) [hw]
    rw [sm_add, sm_zero (64 - wd) _ (fun j hj => by rw [bitN_ofBits _ _ _ (by omega)]; simp [partB]; omega), Nat.add_zero]
    exact sm_congr _ fun j hj => by rw [bitN_ofBits _ _ _ (by omega), bitN_eq]; simp [partB, hj]
  have e3 : popc x = sm (bitN x) m + (sm (fun j => bitN x (m + j)) wd + sm (fun j => bitN x (m + (wd + j))) (64 - m - wd)) := by
    unfold popc
    rw [h64, sm_add, sm_add, ← h64]
  have e4 : popc (ofBits (putB x m wd p) 64) = sm (bitN x) m + (sm (bitN p) wd + sm (fun j => bitN x (m + (wd + j))) (64 - m - wd)) := by
    unfold popc
    rw (config := { occs := .pos [2] }) [h64]
    rw [sm_add, sm_add]
    have a1 : sm (bitN (ofBits (putB x m wd p) 64)) m = sm (bitN x) m := sm_congr _ fun j hj => by
      rw [bitN_ofBits _ _ _ (by omega), bitN_eq]
      have : ¬ (m ≤ j ∧ j < m + wd) := by omega
      simp only [putB, if_neg this]
    have a2 : sm (fun j => bitN (ofBits (putB x m wd p) 64) (m + j)) wd = sm (bitN p) wd := sm_congr _ fun j hj => by
      rw [bitN_ofBits _ _ _ (by omega), bitN_eq]
      have : m ≤ m + j ∧ m + j < m + wd := by omega
      simp only [putB, if_pos this, Nat.add_sub_cancel_left]
    have a3 : sm (fun j => bitN (ofBits (putB x m wd p) 64) (m + (wd + j))) (64 - m - wd) = sm (fun j => bitN x (m + (wd + j))) (64 - m - wd) := sm_congr _ fun j hj => by
      rw [bitN_ofBits _ _ _ (by omega), bitN_eq]
      have : ¬ (m ≤ m + (wd + j) ∧ m + (wd + j) < m + wd) := by omega
      simp only [putB, if_neg this]
    rw [a1, a2, a3]
  omega

theorem sm_le (n : Nat) : ∀ (f : Nat → Nat), (∀ j, f j ≤ 1) → sm f n ≤ n := by
  induction n with
  | zero => intro f _; simp [sm]
  | succ n ih =>
    intro f h
    have := ih (fun j => f (j + 1)) (fun j => h _)
    have := h 0
    simp only [sm]; omega
theorem popc_le (x : Nat) : popc x ≤ 64 := sm_le _ _ fun j => by have := bitN_lt x j; omega

/-- what is put is there -/
theorem part_put (x m wd p : Nat) (hm : m + wd ≤ 64) (hp : p < 2 ^ wd) : ofBits (partB (ofBits (putB x m wd p) 64) m wd) 64 = p := by
  have h2 : 2 ^ wd ≤ 2 ^ 64 := Nat.pow_le_pow_right (by omega) (by omega)
  symm
  apply eq_ofBits (by omega)
  intro i hi
  simp only [partB, testBit_ofBits]
  by_cases h : i < wd
  · have h1 : m + i < 64 := by omega
    have h2 : m ≤ m + i ∧ m + i < m + wd := by omega
    simp only [h, h1, decide_true, Bool.true_and, putB, if_pos h2, Nat.add_sub_cancel_left]
  · rw [Nat.testBit_lt_two_pow (Nat.lt_of_lt_of_le hp (Nat.pow_le_pow_right (by omega) (by omega)))]
    simp [h]
theorem put_else (x m wd p i : Nat) (hi : i < 64) (h : i < m ∨ m + wd ≤ i) : (ofBits (putB x m wd p) 64).testBit i = x.testBit i := by
  rw [testBit_ofBits]
  have : ¬ (m ≤ i ∧ i < m + wd) := by omega
  simp only [putB, if_neg this, hi, decide_true, Bool.true_and]

theorem narrow_idem (n w : Int) : narrow (narrow n w) w = narrow n w := by
  unfold narrow
  by_cases h : w < 1 ∨ 64 < w
  · simp only [if_pos h]
  · simp only [if_neg h]
    generalize (2 : Int) ^ (w.toNat - 1) = p
    generalize (2 : Int) ^ w.toNat = q
    rw [Int.sub_add_cancel, Int.emod_emod_of_dvd _ (Int.dvd_refl q)]

theorem narrow_range (n w : Int) (h1 : -9223372036854775808 ≤ n) (h2 : n ≤ 9223372036854775807) : -9223372036854775808 ≤ narrow n w ∧ narrow n w ≤ 9223372036854775807 := by
  by_cases h : w < 1 ∨ 64 < w
  · unfold narrow; rw [if_pos h]; exact ⟨h1, h2⟩
  · obtain ⟨k, rfl⟩ := Int.eq_ofNat_of_zero_le (show 0 ≤ w by omega)
    obtain ⟨p, q, hp, hq, e1, e2, e3, e4, e5⟩ := two_split k (by omega) (by omega)
    unfold narrow
    rw [if_neg h, Int.toNat_natCast, e1, e2]
    have a1 : 0 ≤ (n + p) % (2 * p) := Int.emod_nonneg _ (by omega)
    have a2 : (n + p) % (2 * p) < 2 * p := Int.emod_lt_of_pos _ (by omega)
    have a3 : p ≤ 9223372036854775808 := by
      rw [← e5]
      have := Int.mul_le_mul_of_nonneg_right (show (1 : Int) ≤ q by omega) (show 0 ≤ p by omega)
      omega
    omega

end Go.Proofs.YtlfeaahbmahhgaaDoor.mth
