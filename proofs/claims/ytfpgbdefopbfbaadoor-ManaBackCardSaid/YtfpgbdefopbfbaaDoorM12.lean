import Derived.Test.YtfpgbdefopbfbaaDoorM11
import Derived.Test.YtfpgbdefopbfbaaDoorM7

set_option linter.unusedVariables false
set_option linter.unusedSimpArgs false

section
namespace Go.Proofs.YtfpgbdefopbfbaaDoor
open Go.RowKit
set_option linter.unusedVariables false
set_option linter.unusedSimpArgs false

def satD : List UInt8 → Nat → Nat
  | [], a => a
  | c :: r, a => satD r (min (a * 10 + (c.toNat - 48)) 2000)
def valD : List UInt8 → Nat → Nat
  | [], a => a
  | c :: r, a => valD r (a * 10 + (c.toNat - 48))
theorem u8_eq {c : UInt8} {n : Nat} (hn : n < 256) : c = UInt8.ofNat n ↔ c.toNat = n := by
  constructor
  · intro h; rw [h, UInt8.toNat_ofNat']; omega
  · intro h; apply UInt8.toNat_inj.1; rw [h, UInt8.toNat_ofNat']; omega
theorem dig_iff (c : UInt8) : digL.contains c = true ↔ 48 ≤ c.toNat ∧ c.toNat ≤ 57 := by
  rw [List.contains_iff_mem]
  simp only [digL, List.mem_cons, List.not_mem_nil, or_false]
  have h := fun n (hn : n < 256) => u8_eq (c := c) hn
  have e : ∀ n : Nat, n < 256 → (c = (OfNat.ofNat n : UInt8) ↔ c.toNat = n) := fun n hn => h n hn
  rw [show (48 : UInt8) = UInt8.ofNat 48 from rfl, show (49 : UInt8) = UInt8.ofNat 49 from rfl, show (50 : UInt8) = UInt8.ofNat 50 from rfl, show (51 : UInt8) = UInt8.ofNat 51 from rfl, show (52 : UInt8) = UInt8.ofNat 52 from rfl, show (53 : UInt8) = UInt8.ofNat 53 from rfl, show (54 : UInt8) = UInt8.ofNat 54 from rfl, show (55 : UInt8) = UInt8.ofNat 55 from rfl, show (56 : UInt8) = UInt8.ofNat 56 from rfl, show (57 : UInt8) = UInt8.ofNat 57 from rfl]
  rw [h 48 (by decide), h 49 (by decide), h 50 (by decide), h 51 (by decide), h 52 (by decide), h 53 (by decide), h 54 (by decide), h 55 (by decide), h 56 (by decide), h 57 (by decide)]
  omega
theorem fig_dig (l : List UInt8) : ∀ c ∈ figL l, 48 ≤ c.toNat ∧ c.toNat ≤ 57 := fun c hc => (dig_iff c).1 (List.all_eq_true.1 (List.all_takeWhile) c hc)
theorem sat_val : ∀ (l : List UInt8) (a : Nat), satD l (min a 2000) = min (valD l a) 2000
  | [], a => rfl
  | c :: r, a => by
    rw [satD, valD, ← sat_val r]
    congr 1
    omega
theorem sat0 (l : List UInt8) : satD l 0 = min (valD l 0) 2000 := sat_val l 0
theorem sat_snoc : ∀ (l : List UInt8) (a : Nat) (c : UInt8), satD (l ++ [c]) a = min (satD l a * 10 + (c.toNat - 48)) 2000
  | [], a, c => rfl
  | x :: r, a, c => sat_snoc r _ c
theorem val_snoc : ∀ (l : List UInt8) (a : Nat) (c : UInt8), valD (l ++ [c]) a = valD l a * 10 + (c.toNat - 48)
  | [], a, c => rfl
  | x :: r, a, c => val_snoc r _ c
theorem val_ge : ∀ (l : List UInt8) (a : Nat), a ≤ valD l a
  | [], a => Nat.le_refl _
  | c :: r, a => by
    have := val_ge r (a * 10 + (c.toNat - 48))
    rw [valD]; omega
theorem head_app {a b : List UInt8} (h : a ≠ []) : (a ++ b).head? = a.head? := by
  cases a with
  | nil => exact absurd rfl h
  | cons x a => rfl
theorem last_split {l : List UInt8} (h : l ≠ []) : ∃ a c, l = a ++ [c] := ⟨l.dropLast, l.getLast h, (List.dropLast_concat_getLast h).symm⟩
/-- the figures of a number: they are figures, they tell it, they begin with no 0 but it is 0 -/
theorem dec_all (n : Nat) : ∀ c ∈ Lib.decDigits n, 48 ≤ c.toNat ∧ c.toNat ≤ 57 := by
  induction n using Nat.strongRecOn with
  | _ n ih =>
    rw [Lib.decDigits]
    split
    · intro c hc
      rw [List.mem_singleton.1 hc, UInt8.toNat_ofNat']; omega
    · intro c hc
      rcases List.mem_append.1 hc with hc | hc
      · exact ih (n / 10) (by omega) c hc
      · rw [List.mem_singleton.1 hc, UInt8.toNat_ofNat']; omega
theorem dec_ne (n : Nat) : Lib.decDigits n ≠ [] := by
  rw [Lib.decDigits]
  split <;> simp
theorem dec_val (n : Nat) : valD (Lib.decDigits n) 0 = n := by
  induction n using Nat.strongRecOn with
  | _ n ih =>
    rw [Lib.decDigits]
    split
    · show 0 * 10 + ((UInt8.ofNat (48 + n)).toNat - 48) = n
      rw [UInt8.toNat_ofNat']; omega
    · rw [val_snoc, ih (n / 10) (by omega), UInt8.toNat_ofNat']; omega
theorem dec_head (n : Nat) : (Lib.decDigits n).head? = some 48 → n = 0 := by
  induction n using Nat.strongRecOn with
  | _ n ih =>
    rw [Lib.decDigits]
    split
    · intro h
      have h : UInt8.ofNat (48 + n) = UInt8.ofNat 48 := Option.some.inj h
      have := (u8_eq (c := UInt8.ofNat (48 + n)) (n := 48) (by decide)).1 h
      rw [UInt8.toNat_ofNat'] at this; omega
    · intro h
      rw [head_app (dec_ne _)] at h
      have := ih (n / 10) (by omega) h
      omega
theorem dec_one {n : Nat} (h : (Lib.decDigits n).length ≤ 1) : n < 10 := by
  rw [Lib.decDigits] at h
  split at h
  · assumption
  · rw [List.length_append] at h
    have := List.length_pos_iff.2 (dec_ne (n / 10))
    rw [List.length_cons, List.length_nil] at h; omega
theorem val_pos : ∀ (l : List UInt8), (∀ c ∈ l, 48 ≤ c.toNat ∧ c.toNat ≤ 57) → l ≠ [] → l.head? ≠ some 48 → 1 ≤ valD l 0
  | [], _, h, _ => absurd rfl h
  | c :: r, hd, _, hh => by
    have h1 := hd c (by simp)
    have h2 : c.toNat ≠ 48 := fun e => hh (by
      show some c = some 48
      rw [show c = UInt8.ofNat 48 from (u8_eq (by decide)).2 e]; rfl)
    have := val_ge r (0 * 10 + (c.toNat - 48))
    rw [valD]; omega
theorem dec_of : ∀ (k : Nat) (l : List UInt8), l.length = k → (∀ c ∈ l, 48 ≤ c.toNat ∧ c.toNat ≤ 57) → l ≠ [] → (l.head? ≠ some 48 ∨ l.length = 1) → l = Lib.decDigits (valD l 0)
  | 0, l, hk, _, hne, _ => absurd (List.length_eq_zero_iff.1 hk) hne
  | k + 1, l, hk, hd, hne, hh => by
    obtain ⟨a, c, rfl⟩ := last_split hne
    have hc := hd c (by simp)
    have hda : ∀ x ∈ a, 48 ≤ x.toNat ∧ x.toNat ≤ 57 := fun x hx => hd x (by simp [hx])
    have ec : UInt8.ofNat (48 + (c.toNat - 48)) = c := by
      apply UInt8.toNat_inj.1; rw [UInt8.toNat_ofNat']; omega
    by_cases ha : a = []
    · subst ha
      rw [Lib.decDigits]
      have e : valD ([] ++ [c]) 0 = c.toNat - 48 := by show 0 * 10 + (c.toNat - 48) = _; omega
      rw [e, dif_pos (by omega), ec]; rfl
    · have hlen : (a ++ [c]).length ≠ 1 := by
        have := List.length_pos_iff.2 ha
        simp; exact ha
      have hh' : a.head? ≠ some 48 := by
        rcases hh with hh | hh
        · rwa [head_app ha] at hh
        · exact absurd hh hlen
      have ih := dec_of k a (by simpa using hk) hda ha (.inl hh')
      have hp := val_pos a hda ha hh'
      rw [val_snoc]
      conv => rhs; rw [Lib.decDigits]
      rw [dif_neg (by omega), show (valD a 0 * 10 + (c.toNat - 48)) / 10 = valD a 0 by omega, show (valD a 0 * 10 + (c.toNat - 48)) % 10 = c.toNat - 48 by omega, ← ih, ec]
theorem par_val : ∀ (l : List UInt8) (a : Nat), (∀ c ∈ l, 48 ≤ c.toNat ∧ c.toNat ≤ 57) → valD l a ≤ 100000 → Lib.parseUint10 a l = .ok (valD l a)
  | [], a, _, _ => rfl
  | c :: r, a, hd, hv => by
    have hc := hd c (by simp)
    rw [valD] at hv
    have h1 := val_ge r (a * 10 + (c.toNat - 48))
    rw [Lib.parseUint10, if_pos hc, if_neg (by omega), if_neg (by omega), valD]
    exact par_val r _ (fun x hx => hd x (by simp [hx])) hv
theorem num_val (l : List UInt8) (hd : ∀ c ∈ l, 48 ≤ c.toNat ∧ c.toNat ≤ 57) (hv : valD l 0 ≤ 100000) : numF l = valD l 0 := by
  cases l with
  | nil => rfl
  | cons c r =>
    have hc := hd c (by simp)
    have e : Lib.atoiAll (c :: r) = .ok (valD (c :: r) 0 : Int) := by
      unfold Lib.atoiAll
      simp only
      rw [if_neg (show ¬ (c.toNat = 43 ∨ c.toNat = 45) by omega)]
      have hp : Lib.parseMag (c :: r) = .ok (valD (c :: r) 0) := by
        unfold Lib.parseMag
        rw [if_neg (by simp)]
        exact par_val _ 0 hd hv
      rw [hp]
      simp only
      rw [if_neg (by omega), if_neg (by omega), if_neg (by omega)]
    unfold numF; rw [e]
end Go.Proofs.YtfpgbdefopbfbaaDoor
end

section
namespace Go.Proofs.YtfpgbdefopbfbaaDoor
open Go.RowKit
set_option linter.unusedVariables false
set_option linter.unusedSimpArgs false

def runL (c : UInt8) (l : List UInt8) : Nat := (l.takeWhile (· == c)).length
theorem rep_eq (c : UInt8) : ∀ n, Lib.repeatL [c] n = List.replicate n c
  | 0 => rfl
  | n + 1 => by
    show [c] ++ Lib.repeatL [c] n = _
    rw [rep_eq c n]; rfl
theorem run_take (c : UInt8) : ∀ (l : List UInt8), l = List.replicate (runL c l) c ++ l.drop (runL c l)
  | [] => rfl
  | x :: l => by
    unfold runL
    rw [List.takeWhile_cons]
    by_cases h : (x == c) = true
    · rw [if_pos h]
      have := run_take c l
      rw [List.length_cons, List.drop_succ_cons, List.replicate_succ, List.cons_append, beq_iff_eq.1 h]
      congr 1
    · rw [if_neg h]; rfl
theorem run_rep (c : UInt8) (n : Nat) (r : List UInt8) (h : r.head? ≠ some c) : runL c (List.replicate n c ++ r) = n ∧ (List.replicate n c ++ r).drop (runL c (List.replicate n c ++ r)) = r := by
  have e : runL c (List.replicate n c ++ r) = n := by
    induction n with
    | zero =>
      cases r with
      | nil => rfl
      | cons x r =>
        unfold runL
        rw [List.replicate_zero, List.nil_append, List.takeWhile_cons, if_neg (by
          intro hx
          exact h (by rw [beq_iff_eq.1 hx]; rfl))]; rfl
    | succ n ih =>
      unfold runL at ih ⊢
      rw [List.replicate_succ, List.cons_append, List.takeWhile_cons, if_pos (beq_self_eq_true c), List.length_cons, ih]
  refine ⟨e, ?_⟩
  rw [e]
  exact List.drop_left' List.length_replicate
def segR (n0 n1 n2 n3 n4 : Nat) : List UInt8 := List.replicate n0 87 ++ (List.replicate n1 85 ++ (List.replicate n2 66 ++ (List.replicate n3 82 ++ List.replicate n4 71)))
theorem seg_R (n0 n1 n2 n3 n4 : Nat) : (segL n0 n1 n2 n3 n4).flatten = segR n0 n1 n2 n3 n4 := by
  unfold segL segR
  simp only [rep_eq, List.flatten_cons, List.flatten_nil, List.append_nil]
theorem head_rep {c d : UInt8} (hcd : c ≠ d) (n : Nat) (r : List UInt8) (h : r.head? ≠ some d) : (List.replicate n c ++ r).head? ≠ some d := by
  cases n with
  | zero => exact h
  | succ n =>
    rw [List.replicate_succ]
    intro e
    exact hcd (Option.some.inj e)
/-- what is left behind the five runs -/
def t1 (l : List UInt8) : List UInt8 := l.drop (runL 87 l)
def t2 (l : List UInt8) : List UInt8 := (t1 l).drop (runL 85 (t1 l))
def t3 (l : List UInt8) : List UInt8 := (t2 l).drop (runL 66 (t2 l))
def t4 (l : List UInt8) : List UInt8 := (t3 l).drop (runL 82 (t3 l))
def t5 (l : List UInt8) : List UInt8 := (t4 l).drop (runL 71 (t4 l))
def rW (l : List UInt8) : Nat := runL 87 l
def rU (l : List UInt8) : Nat := runL 85 (t1 l)
def rB (l : List UInt8) : Nat := runL 66 (t2 l)
def rR (l : List UInt8) : Nat := runL 82 (t3 l)
def rG (l : List UInt8) : Nat := runL 71 (t4 l)
theorem runs_all (l : List UInt8) : l = List.replicate (rW l) 87 ++ (List.replicate (rU l) 85 ++ (List.replicate (rB l) 66 ++ (List.replicate (rR l) 82 ++ (List.replicate (rG l) 71 ++ t5 l)))) := by
  have h5 : t4 l = List.replicate (rG l) 71 ++ t5 l := run_take 71 (t4 l)
  have h4 : t3 l = List.replicate (rR l) 82 ++ t4 l := run_take 82 (t3 l)
  have h3 : t2 l = List.replicate (rB l) 66 ++ t3 l := run_take 66 (t2 l)
  have h2 : t1 l = List.replicate (rU l) 85 ++ t2 l := run_take 85 (t1 l)
  have h1 : l = List.replicate (rW l) 87 ++ t1 l := run_take 87 l
  rw [← h5, ← h4, ← h3, ← h2, ← h1]
theorem runs_seg {l : List UInt8} (h : t5 l = []) : l = segR (rW l) (rU l) (rB l) (rR l) (rG l) := by
  have := runs_all l
  rw [h, List.append_nil] at this
  exact this
theorem seg_runs (n0 n1 n2 n3 n4 : Nat) : rW (segR n0 n1 n2 n3 n4) = n0 ∧ rU (segR n0 n1 n2 n3 n4) = n1 ∧ rB (segR n0 n1 n2 n3 n4) = n2 ∧ rR (segR n0 n1 n2 n3 n4) = n3 ∧ rG (segR n0 n1 n2 n3 n4) = n4 ∧ t5 (segR n0 n1 n2 n3 n4) = [] := by
  have q : ([] : List UInt8).head? ≠ some 71 := by decide
  have n4e : List.replicate n4 (71 : UInt8) = List.replicate n4 71 ++ [] := (List.append_nil _).symm
  have x4 : ∀ d : UInt8, 71 ≠ d → (List.replicate n4 (71 : UInt8)).head? ≠ some d := fun d hd => by rw [n4e]; exact head_rep hd n4 [] (by simp)
  have x3 : ∀ d : UInt8, 71 ≠ d → 82 ≠ d → (List.replicate n3 (82 : UInt8) ++ List.replicate n4 71).head? ≠ some d := fun d h1 h2 => head_rep h2 n3 _ (x4 d h1)
  have x2 : ∀ d : UInt8, 71 ≠ d → 82 ≠ d → 66 ≠ d → (List.replicate n2 (66 : UInt8) ++ (List.replicate n3 82 ++ List.replicate n4 71)).head? ≠ some d := fun d h1 h2 h3 => head_rep h3 n2 _ (x3 d h1 h2)
  have x1 : ∀ d : UInt8, 71 ≠ d → 82 ≠ d → 66 ≠ d → 85 ≠ d → (List.replicate n1 (85 : UInt8) ++ (List.replicate n2 66 ++ (List.replicate n3 82 ++ List.replicate n4 71))).head? ≠ some d := fun d h1 h2 h3 h4 => head_rep h4 n1 _ (x2 d h1 h2 h3)
  obtain ⟨a0, b0⟩ := run_rep 87 n0 _ (x1 87 (by decide) (by decide) (by decide) (by decide))
  obtain ⟨a1, b1⟩ := run_rep 85 n1 _ (x2 85 (by decide) (by decide) (by decide))
  obtain ⟨a2, b2⟩ := run_rep 66 n2 _ (x3 66 (by decide) (by decide))
  obtain ⟨a3, b3⟩ := run_rep 82 n3 _ (x4 82 (by decide))
  obtain ⟨a4, b4⟩ := run_rep 71 n4 [] q
  rw [List.append_nil] at a4 b4
  have c1 : t1 (segR n0 n1 n2 n3 n4) = _ := b0
  have c2 : t2 (segR n0 n1 n2 n3 n4) = List.replicate n2 66 ++ (List.replicate n3 82 ++ List.replicate n4 71) := by unfold t2; rw [c1]; exact b1
  have c3 : t3 (segR n0 n1 n2 n3 n4) = List.replicate n3 82 ++ List.replicate n4 71 := by unfold t3; rw [c2]; exact b2
  have c4 : t4 (segR n0 n1 n2 n3 n4) = List.replicate n4 71 := by unfold t4; rw [c3]; exact b3
  exact ⟨a0, by unfold rU; rw [c1]; exact a1, by unfold rB; rw [c2]; exact a2, by unfold rR; rw [c3]; exact a3, by unfold rG; rw [c4]; exact a4, by unfold t5; rw [c4]; exact b4⟩
theorem cnt_seg (n0 n1 n2 n3 n4 : Nat) : (segR n0 n1 n2 n3 n4).count 87 = n0 ∧ (segR n0 n1 n2 n3 n4).count 85 = n1 ∧ (segR n0 n1 n2 n3 n4).count 66 = n2 ∧ (segR n0 n1 n2 n3 n4).count 82 = n3 ∧ (segR n0 n1 n2 n3 n4).count 71 = n4 := by
  unfold segR
  simp [List.count_append, List.count_replicate]
theorem seg_low {n0 n1 n2 n3 n4 : Nat} : ∀ c ∈ segR n0 n1 n2 n3 n4, c = 87 ∨ c = 85 ∨ c = 66 ∨ c = 82 ∨ c = 71 := by
  intro c hc
  unfold segR at hc
  simp only [List.mem_append, List.mem_replicate] at hc
  rcases hc with h | h | h | h | h
  · exact .inl h.2
  · exact .inr (.inl h.2)
  · exact .inr (.inr (.inl h.2))
  · exact .inr (.inr (.inr (.inl h.2)))
  · exact .inr (.inr (.inr (.inr h.2)))
theorem low_nodig {c : UInt8} (h : c = 87 ∨ c = 85 ∨ c = 66 ∨ c = 82 ∨ c = 71) : digL.contains c = false ∧ c.toNat < 128 := by
  rcases h with rfl | rfl | rfl | rfl | rfl <;> exact ⟨by decide, by decide⟩
theorem seg_len2 (n0 n1 n2 n3 n4 : Nat) : (segR n0 n1 n2 n3 n4).length = n0 + n1 + n2 + n3 + n4 := by
  unfold segR
  simp; omega
theorem fig_of {d r : List UInt8} (hd : ∀ c ∈ d, 48 ≤ c.toNat ∧ c.toNat ≤ 57) (hr : ∀ c ∈ r, digL.contains c = false) : figL (d ++ r) = d ∧ rstL (d ++ r) = r := by
  have hd' : ∀ c ∈ d, digL.contains c = true := fun c hc => (dig_iff c).2 (hd c hc)
  have e1 : figL (d ++ r) = d ++ r.takeWhile (digL.contains ·) := List.takeWhile_append_of_pos hd'
  have e2 : rstL (d ++ r) = r.dropWhile (digL.contains ·) := List.dropWhile_append_of_pos hd'
  cases r with
  | nil => exact ⟨by rw [e1]; simp, by rw [e2]; rfl⟩
  | cons x r =>
    have hx := hr x (by simp)
    refine ⟨?_, ?_⟩
    · rw [e1, List.takeWhile_cons, if_neg (by rw [hx]; decide), List.append_nil]
    · rw [e2, List.dropWhile_cons, if_neg (by rw [hx]; decide)]
/-- which texts are right, sign by sign -/
def refOk (l : List UInt8) : Prop :=
  ¬ (1 < (figL l).length ∧ l.head? = some 48) ∧ satD (figL l) 0 ≤ 1000 ∧ ¬ ((figL l).length = 1 ∧ l.head? = some 48 ∧ 1 < l.length) ∧ l ≠ [] ∧ t5 (rstL l) = [] ∧ rW (rstL l) ≤ 20 ∧ rU (rstL l) ≤ 20 ∧ rB (rstL l) ≤ 20 ∧ rR (rstL l) ≤ 20 ∧ rG (rstL l) ≤ 20
def refC (l : List UInt8) : List Dat := costD (rW (rstL l)) (rU (rstL l)) (rB (rstL l)) (rR (rstL l)) (rG (rstL l)) (satD (figL l) 0)
theorem goodN {n0 n1 n2 n3 n4 n5 : Nat} : goodC (costD n0 n1 n2 n3 n4 n5) = true ↔ n0 ≤ 1000 ∧ n1 ≤ 1000 ∧ n2 ≤ 1000 ∧ n3 ≤ 1000 ∧ n4 ≤ 1000 ∧ n5 ≤ 1000 := by
  rw [goodC_t]
  constructor
  · intro h
    have h0 := (h 0 (by omega)).2
    have h1 := (h 1 (by omega)).2
    have h2 := (h 2 (by omega)).2
    have h3 := (h 3 (by omega)).2
    have h4 := (h 4 (by omega)).2
    have h5 := (h 5 (by omega)).2
    change (n0 : Int) ≤ 1000 at h0
    change (n1 : Int) ≤ 1000 at h1
    change (n2 : Int) ≤ 1000 at h2
    change (n3 : Int) ≤ 1000 at h3
    change (n4 : Int) ≤ 1000 at h4
    change (n5 : Int) ≤ 1000 at h5
    omega
  · intro h i hi
    match i, hi with
    | 0, _ => show 0 ≤ (n0 : Int) ∧ (n0 : Int) ≤ 1000; omega
    | 1, _ => show 0 ≤ (n1 : Int) ∧ (n1 : Int) ≤ 1000; omega
    | 2, _ => show 0 ≤ (n2 : Int) ∧ (n2 : Int) ≤ 1000; omega
    | 3, _ => show 0 ≤ (n3 : Int) ∧ (n3 : Int) ≤ 1000; omega
    | 4, _ => show 0 ≤ (n4 : Int) ∧ (n4 : Int) ≤ 1000; omega
    | 5, _ => show 0 ≤ (n5 : Int) ∧ (n5 : Int) ≤ 1000; omega
theorem longN {n0 n1 n2 n3 n4 n5 : Nat} : longC (costD n0 n1 n2 n3 n4 n5) = true ↔ 20 < n0 ∨ 20 < n1 ∨ 20 < n2 ∨ 20 < n3 ∨ 20 < n4 := by
  rw [longC_t]
  show (20 < (n0 : Int) ∨ 20 < (n1 : Int) ∨ 20 < (n2 : Int) ∨ 20 < (n3 : Int) ∨ 20 < (n4 : Int)) ↔ _
  omega
theorem textN0 {n0 n1 n2 n3 n4 n5 : Nat} : textN (costD n0 n1 n2 n3 n4 n5) = 0 ↔ n0 ≤ 20 ∧ n1 ≤ 20 ∧ n2 ≤ 20 ∧ n3 ≤ 20 ∧ n4 ≤ 20 ∧ n5 ≤ 1000 := by
  cases hg : goodC (costD n0 n1 n2 n3 n4 n5) with
  | false =>
    rw [(textN_bad hg).1]
    refine ⟨fun h => absurd h (by decide), fun h => ?_⟩
    rw [goodN.2 (by omega)] at hg; cases hg
  | true =>
    by_cases hl : longC (costD n0 n1 n2 n3 n4 n5) = true
    · rw [(textN_long hg hl).1]
      refine ⟨fun h => absurd h (by decide), fun h => ?_⟩
      have := longN.1 hl; omega
    · rw [(textN_ok hg hl).1]
      refine ⟨fun _ => ?_, fun _ => rfl⟩
      have := goodN.1 hg
      have h2 : ¬ (20 < n0 ∨ 20 < n1 ∨ 20 < n2 ∨ 20 < n3 ∨ 20 < n4) := fun h => hl (longN.2 h)
      omega
theorem textL0 {n0 n1 n2 n3 n4 n5 : Nat} (h : textN (costD n0 n1 n2 n3 n4 n5) = 0) : textL (costD n0 n1 n2 n3 n4 n5) = (if 0 < n5 ∨ n0 + n1 + n2 + n3 + n4 = 0 then Lib.decDigits n5 else []) ++ segR n0 n1 n2 n3 n4 := by
  unfold textL
  rw [if_pos h, ← seg_R]
  rfl
/-- what is right tells a cost whose text it is -/
theorem ref_text {l : List UInt8} (h : refOk l) : textN (refC l) = 0 ∧ textL (refC l) = l ∧ numF (figL l) = satD (figL l) 0 ∧ (∀ b ∈ rstL l, b.toNat < 128) ∧ ([(rW (rstL l) : Int), rU (rstL l), rB (rstL l), rR (rstL l), rG (rstL l)] = letL.map fun c => ((rstL l).count c : Int)) := by
  obtain ⟨h1, h2, h3, h4, h5, w0, w1, w2, w3, w4⟩ := h
  have hs := runs_seg h5
  have hv : satD (figL l) 0 = valD (figL l) 0 := by rw [sat0] at h2 ⊢; omega
  have hN : textN (refC l) = 0 := textN0.2 ⟨w0, w1, w2, w3, w4, h2⟩
  have hfd := fig_dig l
  refine ⟨hN, ?_, ?_, ?_, ?_⟩
  · have e : textL (refC l) = _ := textL0 hN
    rw [e, ← hs]
    conv => rhs; rw [← fig_rst l]
    congr 1
    have hlen := fig_len l
    have hsl : (rstL l).length = rW (rstL l) + rU (rstL l) + rB (rstL l) + rR (rstL l) + rG (rstL l) := by
      have := congrArg List.length hs
      rwa [seg_len2] at this
    by_cases hf : figL l = []
    · have e0 : satD (figL l) 0 = 0 := by rw [hf]; rfl
      rw [e0, if_neg (by
        rw [hf] at hlen
        have : l.length ≠ 0 := fun hx => h4 (List.length_eq_zero_iff.1 hx)
        rw [List.length_nil] at hlen; omega), hf]
    · have hh : l.head? = (figL l).head? := by
        conv => lhs; rw [← fig_rst l]
        exact head_app hf
      have hF := List.length_pos_iff.2 hf
      have hdec := dec_of _ _ rfl hfd hf (by
        by_cases hx : (figL l).length = 1
        · exact .inr hx
        · exact .inl fun hy => h1 ⟨by omega, by rw [hh]; exact hy⟩)
      rw [hv, ← hdec, if_pos]
      by_cases hz : valD (figL l) 0 = 0
      · right
        have h48 : (figL l).head? = some 48 := by
          by_cases hy : (figL l).head? = some 48
          · exact hy
          · have := val_pos _ hfd hf hy; omega
        have hF1 : ¬ 1 < (figL l).length := fun hx => h1 ⟨hx, by rw [hh]; exact h48⟩
        have : ¬ 1 < l.length := fun hx => h3 ⟨by omega, by rw [hh]; exact h48, hx⟩
        omega
      · left; omega
  · rw [hv]
    exact num_val _ hfd (by rw [← hv]; omega)
  · intro b hb
    rw [hs] at hb
    exact (low_nodig (seg_low b hb)).2
  · have hc := cnt_seg (rW (rstL l)) (rU (rstL l)) (rB (rstL l)) (rR (rstL l)) (rG (rstL l))
    rw [← hs] at hc
    show _ = [((rstL l).count 87 : Int), ((rstL l).count 85 : Int), ((rstL l).count 66 : Int), ((rstL l).count 82 : Int), ((rstL l).count 71 : Int)]
    rw [hc.1, hc.2.1, hc.2.2.1, hc.2.2.2.1, hc.2.2.2.2]
/-- a text that is the text of what it tells is right -/
theorem text_ref {l : List UInt8} {n0 n1 n2 n3 n4 n5 : Nat} (hn : numF (figL l) = n5) (h : textN (costD n0 n1 n2 n3 n4 n5) = 0) (ht : textL (costD n0 n1 n2 n3 n4 n5) = l) : refOk l ∧ refC l = costD n0 n1 n2 n3 n4 n5 := by
  rw [textL0 h] at ht
  have hb := textN0.1 h
  have hdd : ∀ c ∈ (if 0 < n5 ∨ n0 + n1 + n2 + n3 + n4 = 0 then Lib.decDigits n5 else []), 48 ≤ c.toNat ∧ c.toNat ≤ 57 := by
    split
    · exact dec_all n5
    · intro c hc; cases hc
  obtain ⟨e1, e2⟩ := fig_of hdd (fun c hc => (low_nodig (seg_low (n0 := n0) (n1 := n1) (n2 := n2) (n3 := n3) (n4 := n4) c hc)).1)
  rw [ht] at e1 e2
  obtain ⟨r0, r1, r2, r3, r4, r5⟩ := seg_runs n0 n1 n2 n3 n4
  have hsl := seg_len2 n0 n1 n2 n3 n4
  have hlen := fig_len l
  have hsat : satD (figL l) 0 = n5 := by
    rw [sat0, e1]
    split
    · rw [dec_val]; omega
    · rename_i hx
      show min 0 2000 = n5
      omega
  refine ⟨⟨?_, by omega, ?_, ?_, by rw [e2]; exact r5, by rw [e2]; omega, by rw [e2]; omega, by rw [e2]; omega, by rw [e2]; omega, by rw [e2]; omega⟩, ?_⟩
  · rintro ⟨g1, g2⟩
    have hf : figL l ≠ [] := fun hx => by rw [hx] at g1; simp at g1
    have hh : l.head? = (figL l).head? := by
      conv => lhs; rw [← fig_rst l]
      exact head_app hf
    rw [hh, e1] at g2
    rw [e1] at g1
    split at g2
    · have := dec_head n5 g2
      subst this
      rename_i hx
      rw [if_pos hx, Lib.decDigits, dif_pos (by decide)] at g1
      simp at g1
    · cases g2
  · rintro ⟨g1, g2, g3⟩
    have hf : figL l ≠ [] := fun hx => by rw [hx] at g1; simp at g1
    have hh : l.head? = (figL l).head? := by
      conv => lhs; rw [← fig_rst l]
      exact head_app hf
    rw [hh, e1] at g2
    split at g2
    · rename_i hx
      have := dec_head n5 g2
      subst this
      have hl2 : (rstL l).length = 0 := by rw [e2, hsl]; omega
      omega
    · cases g2
  · intro hx
    rw [hx] at ht
    have ht := congrArg List.length ht
    rw [List.length_append, hsl] at ht
    split at ht
    · have := List.length_pos_iff.2 (dec_ne n5)
      rw [List.length_nil] at ht; omega
    · rw [List.length_nil] at ht; omega
  · unfold refC
    rw [hsat, e2, r0, r1, r2, r3, r4]
end Go.Proofs.YtfpgbdefopbfbaaDoor
end

section
namespace Go.Proofs.YtfpgbdefopbfbaaDoor
open Go.RowKit
set_option linter.unusedVariables false
set_option linter.unusedSimpArgs false

theorem text_2ww : textN (costD 2 0 0 0 0 2) = 0 ∧ textL (costD 2 0 0 0 0 2) = [50, 87, 87] := by
  have hg : goodC (costD 2 0 0 0 0 2) = true := by decide
  have hl : ¬ longC (costD 2 0 0 0 0 2) = true := by decide
  refine ⟨(textN_ok hg hl).1, ?_⟩
  rw [(textN_ok hg hl).2]
  show textB 2 0 0 0 0 2 = _
  unfold textB
  rw [if_pos (by decide), Lib.decDigits_one (by decide)]
  decide
def k_alive04 : Nat := 7
def sg_alive04 : Sig := ⟨[], [(false, [.bool])], false, false, true, false, false⟩
def tr_alive04 : Tree := (.call k_mText [(.int .i64 2), (.int .i64 0), (.int .i64 0), (.int .i64 0), (.int .i64 0), (.int .i64 2)] [.str, .err]
(.ret [(.and (.isnil (.var 1)) (.seq (.var 0) (.str [50, 87, 87])))]))
theorem wk_alive04 : walk E0.cx (sgsN [(8, sg_mText)]) 0 7 sg_alive04 = tr_alive04 := by kernel_rfl
theorem bo_alive04 : ∃ x, bodyOf E0.P 7 = some x := bo_of (by kernel_rfl)
theorem sp_alive04_mText : specC [con_mText] k_mText = mText_s := rfl
def alive04_s : Spec := fun ds Q => Q [.bool true]
theorem alive04_h : Holds E0 k_alive04 sg_alive04 alive04_s := con_fn wf0 mix0 g0 [con_mText] rfl wk_alive04 rfl (by
  intro Φ hΦ ds Q hs h
  have h : Q [.bool true] := h
  have hl : ds.length = 0 := hs.length.symm
  obtain rfl : ds = [] := List.length_eq_zero_iff.1 hl
  have s1 : Φ k_mText = mText_s := by rw [hΦ]; rfl
  clear hΦ
  simp only [tr_alive04, wp, List.map_cons, List.map_nil, s1]
  show Q [Dat.bool (isNilI (errV (textN (costD 2 0 0 0 0 2))) && ((strD (strV (textL (costD 2 0 0 0 0 2)))).toList == (strD (strV [50, 87, 87])).toList))]
  rw [text_2ww.1, text_2ww.2, beq_self_eq_true]
  exact h)
noncomputable def con_alive04 : Con E0 := ⟨k_alive04, sg_alive04, alive04_s, rfl, bo_alive04, alive04_h⟩
theorem num_of (n : Int) {ρ : List Dat} {t : Tm} (h : den E0.Δ ρ t = errV n) : den E0.Δ ρ (.ite (.isnil t) (.int .i64 0) (.ite (.cmp .ne (.errI t) (.int .i64 0)) (.errI t) (.int .i64 (-1)))) = .int .i64 n := by
  simp only [den_ite, den, h, errV_nil]
  by_cases h0 : n = 0
  · subst h0; rfl
  · rw [decide_eq_false h0]
    simp [errV, h0, errN]
    have hc : (Dat.bool (Cmp.ne.of (Dat.int .i64 n).toInt (Dat.int .i64 0).toInt)).toBool = true := by
      show (n != 0) = true
      simpa using h0
    rw [if_neg (show ¬ ((Dat.bool false).toBool = true) by decide), if_pos hc]
def law_s : Spec := fun ds Q => InL ds ∧ Q [.bool true]
def k_ltexts : Nat := 3
def sg_ltexts : Sig := ⟨[(true, List.replicate 6 (.int .i64))], [(false, [.bool])], false, false, true, false, false⟩
def tr_ltexts : Tree := (.call k_alive04 [] [.bool]
(.ite (.not (.var 6))
 (.ret [(.bool false)])
 (.call k_mText [(.var 0), (.var 1), (.var 2), (.var 3), (.var 4), (.var 5)] [.str, .err]
 (.call k_rText04 [(.var 0), (.var 1), (.var 2), (.var 3), (.var 4), (.var 5)] [.str, (.int .i64)]
 (.ret [(.and (.seq (.var 7) (.var 9)) (.cmp .eq (.ite (.isnil (.var 8)) (.int .i64 0) (.ite (.cmp .ne (.errI (.var 8)) (.int .i64 0)) (.errI (.var 8)) (.int .i64 (-1)))) (.var 10)))])))))
theorem wk_ltexts : walk E0.cx (sgsN [(7, sg_alive04), (8, sg_mText), (9, sg_rText04), (10, sg_Num)]) 0 3 sg_ltexts = tr_ltexts := by kernel_rfl
theorem bo_ltexts : ∃ x, bodyOf E0.P 3 = some x := bo_of (by kernel_rfl)
theorem sp_ltexts_alive04 : specC [con_alive04, con_mText, con_rText04, con_Num] k_alive04 = alive04_s := rfl
theorem sp_ltexts_mText : specC [con_alive04, con_mText, con_rText04, con_Num] k_mText = mText_s := rfl
theorem sp_ltexts_rText04 : specC [con_alive04, con_mText, con_rText04, con_Num] k_rText04 = rText04_s := rfl
theorem sp_ltexts_Num : specC [con_alive04, con_mText, con_rText04, con_Num] k_Num = Num_s := rfl
def ltexts_s : Spec := law_s
theorem ltexts_h : Holds E0 k_ltexts sg_ltexts ltexts_s := con_fn wf0 mix0 g0 [con_alive04, con_mText, con_rText04, con_Num] rfl wk_ltexts rfl (by
  intro Φ hΦ ds Q hs ⟨hin, h⟩
  have hl : ds.length = 6 := hs.length.symm
  have s1 : Φ k_alive04 = alive04_s := by rw [hΦ]; rfl
  have s2 : Φ k_mText = mText_s := by rw [hΦ]; rfl
  have s3 : Φ k_rText04 = rText04_s := by rw [hΦ]; rfl
  have s4 : Φ k_Num = Num_s := by rw [hΦ]; rfl
  clear hΦ
  simp only [tr_ltexts, wp, den_int, den_bool, den_nili, den_ar, den_cmp, den_not, den_len, den_elem, den_isnil, den_errI, den_ifc, den_rep, den_push, den_app, den_emp, den_upd, row0_econs, row0_enil, den_and, den_beq, den_nil, toInt_int, toBool_bool, xs_rows, xs_list, dflt_int, dflt_bool, of_eq, of_ne, of_lt, of_le, of_gt, of_ge, of_add, of_sub, of_rem, List.map_cons, List.map_nil, Dat.bool.injEq, decide_eq_true_eq, decide_eq_false_iff_not, Bool.not_eq_true', Bool.not_eq_false', beq_iff_eq, bne_iff_ne, beq_eq_false_iff_ne, bne_eq_false_iff_eq, ne_eq, List.append_assoc, List.cons_append, List.nil_append, allS, s1, s2, s3, s4, alive04_s, mText_s, rText04_s, Num_s, @den_var0 E0.Δ ds, den_varA, den_varB, hl, Nat.reduceLT, Nat.reduceLeDiff, Nat.reduceSub, List.getD_cons_zero, List.getD_cons_succ, argL_fold ds, argI_fold ds, List.append_assoc, List.cons_append, List.nil_append, toInt_int, toBool_bool, xs_rows, xs_list, Int.toNat_natCast, Dat.bool.injEq, den_seqV]
  refine ⟨fun hx => Bool.noConfusion hx, fun _ => ?_⟩
  clear hs hin
  match ds, hl with
  | [x0, x1, x2, x3, x4, x5], _ =>
    rw [num_of (textN [x0, x1, x2, x3, x4, x5]) rfl, beq_self_eq_true]
    show Q [Dat.bool (true && (textN [x0, x1, x2, x3, x4, x5] == textN [x0, x1, x2, x3, x4, x5]))]
    rw [beq_self_eq_true]
    exact h)
noncomputable def con_ltexts : Con E0 := ⟨k_ltexts, sg_ltexts, ltexts_s, rfl, bo_ltexts, ltexts_h⟩
end Go.Proofs.YtfpgbdefopbfbaaDoor
end

section
namespace Go.Proofs.YtfpgbdefopbfbaaDoor
open Go.RowKit
set_option linter.unusedVariables false
set_option linter.unusedSimpArgs false

def k_mRead : Nat := 27
def sg_mRead : Sig := ⟨[(false, [.str])], [(true, List.replicate 6 (.int .i64))], false, false, false, false, false⟩
noncomputable def tr_mRead : Tree := walk E0.cx (sgsN []) 0 27 sg_mRead
theorem wk_mRead : walk E0.cx (sgsN []) 0 27 sg_mRead = tr_mRead := rfl
theorem bo_mRead : ∃ x, bodyOf E0.P 27 = some x := bo_of (by kernel_rfl)
def mRead_s : Spec := fun ds Q => ∃ l : List UInt8, ds.getD 0 (.bool false) = strV l ∧ l.length ≤ 300 ∧ ∀ c0 c1 c2 c3 c4 : Int, Cnt (rstL l) (rstL l).length [c0, c1, c2, c3, c4] → Q (costD c0 c1 c2 c3 c4 (numF (figL l)))
theorem mRead_h : Holds E0 k_mRead sg_mRead mRead_s := fun w ds Q h1 h2 h3 h4 ⟨l, hd, hl, hQ⟩ => by
  have hl1 : ds.length = 1 := h1.length.symm
  match ds, hl1 with
  | [d0], _ =>
  obtain rfl : d0 = strV l := hd
  refine (read_w l hl w h4).mono fun e w' ⟨⟨c0, c1, c2, c3, c4, hc, he⟩, hb⟩ => ?_
  refine ⟨_, hQ c0 c1 c2 c3 c4 hc, cost_has _ _ _ _ _ _, hb, cost_ok _ _ _ _ _ _ _, fun k ⟨d, hd, hk⟩ => ?_, ?_⟩
  · simp only [costD, List.mem_cons, List.not_mem_nil, or_false] at hd
    rcases hd with rfl | rfl | rfl | rfl | rfl | rfl <;> cases hk
  · show (if false = true then _ else _)
    rw [if_neg Bool.false_ne_true, he]; rfl
noncomputable def con_mRead : Con E0 := ⟨k_mRead, sg_mRead, mRead_s, rfl, bo_mRead, mRead_h⟩
open Classical in
noncomputable def parD (l : List UInt8) : List Dat := if refOk l then refC l else costD 0 0 0 0 0 0
open Classical in
noncomputable def parE (l : List UInt8) : Int := if refOk l then 0 else 2
theorem par_ok {l : List UInt8} (h : refOk l) : parD l = refC l ∧ parE l = 0 := ⟨if_pos h, if_pos h⟩
theorem par_bad {l : List UInt8} (h : ¬ refOk l) : parD l = costD 0 0 0 0 0 0 ∧ parE l = 2 := ⟨if_neg h, if_neg h⟩
theorem errV_isNil (n : Int) : isNilI (errV n) = decide (n = 0) := by
  unfold errV
  split
  · rename_i h; rw [decide_eq_true h]; rfl
  · rename_i h; rw [decide_eq_false h]; rfl
theorem cnt_map {l : List UInt8} {c0 c1 c2 c3 c4 : Int} (hc : Cnt l l.length [c0, c1, c2, c3, c4]) (ha : ∀ b ∈ l, b.toNat < 128) : [c0, c1, c2, c3, c4] = letL.map fun c => (l.count c : Int) := by
  have h := (hc.more (Nat.le_refl _)).2 ha
  have h0 := h 0 (by omega)
  have h1 := h 1 (by omega)
  have h2 := h 2 (by omega)
  have h3 := h 3 (by omega)
  have h4 := h 4 (by omega)
  change c0 = _ at h0
  change c1 = _ at h1
  change c2 = _ at h2
  change c3 = _ at h3
  change c4 = _ at h4
  rw [h0, h1, h2, h3, h4]; rfl
/-- what was read is right just where the text is -/
theorem read_ok {l : List UInt8} {c0 c1 c2 c3 c4 : Int} (hc : Cnt (rstL l) (rstL l).length [c0, c1, c2, c3, c4]) (h : textN (costD c0 c1 c2 c3 c4 (numF (figL l))) = 0) (ht : textL (costD c0 c1 c2 c3 c4 (numF (figL l))) = l) : refOk l ∧ refC l = costD c0 c1 c2 c3 c4 (numF (figL l)) := by
  have hg : goodC (costD c0 c1 c2 c3 c4 (numF (figL l))) = true := by
    cases hg : goodC (costD c0 c1 c2 c3 c4 (numF (figL l))) with
    | true => rfl
    | false => rw [(textN_bad hg).1] at h; exact absurd h (by decide)
  have gd := goodC_t.1 hg
  obtain ⟨n0, h0⟩ := Int.eq_ofNat_of_zero_le (show 0 ≤ c0 from (gd 0 (by omega)).1)
  obtain ⟨n1, h1⟩ := Int.eq_ofNat_of_zero_le (show 0 ≤ c1 from (gd 1 (by omega)).1)
  obtain ⟨n2, h2⟩ := Int.eq_ofNat_of_zero_le (show 0 ≤ c2 from (gd 2 (by omega)).1)
  obtain ⟨n3, h3⟩ := Int.eq_ofNat_of_zero_le (show 0 ≤ c3 from (gd 3 (by omega)).1)
  obtain ⟨n4, h4⟩ := Int.eq_ofNat_of_zero_le (show 0 ≤ c4 from (gd 4 (by omega)).1)
  obtain ⟨n5, h5⟩ := Int.eq_ofNat_of_zero_le (show 0 ≤ numF (figL l) from (gd 5 (by omega)).1)
  rw [h0, h1, h2, h3, h4, h5] at h ht
  rw [h0, h1, h2, h3, h4, h5]
  exact text_ref h5 h ht
theorem read_bad {l : List UInt8} {c0 c1 c2 c3 c4 : Int} (hc : Cnt (rstL l) (rstL l).length [c0, c1, c2, c3, c4]) (h : refOk l) : refC l = costD c0 c1 c2 c3 c4 (numF (figL l)) ∧ textN (costD c0 c1 c2 c3 c4 (numF (figL l))) = 0 ∧ textL (costD c0 c1 c2 c3 c4 (numF (figL l))) = l := by
  obtain ⟨h1, h2, h3, h4, h5⟩ := ref_text h
  have e := (cnt_map hc h4).trans h5.symm
  have e2 : refC l = costD c0 c1 c2 c3 c4 (numF (figL l)) := by
    injection e with e0 e
    injection e with e1 e
    injection e with e2 e
    injection e with e3 e
    injection e with e4 e
    unfold refC
    rw [e0, e1, e2, e3, e4, h3]
  rw [← e2]
  exact ⟨rfl, h1, h2⟩
def k_mParse : Nat := 17
def sg_mParse : Sig := ⟨[(false, [.str])], [(true, List.replicate 6 (.int .i64)), (false, [.err])], false, false, true, false, false⟩
def tr_mParse : Tree := (.call k_mRead [(.var 0)] [(.int .i64), (.int .i64), (.int .i64), (.int .i64), (.int .i64), (.int .i64)]
(.call k_mText [(.var 1), (.var 2), (.var 3), (.var 4), (.var 5), (.var 6)] [.str, .err]
(.ite (.or (.not (.isnil (.var 8))) (.not (.seq (.var 7) (.var 0))))
 (.ret [(.int .i64 0), (.int .i64 0), (.int .i64 0), (.int .i64 0), (.int .i64 0), (.int .i64 0), (.ifc (.int .i64 2))])
 (.ret [(.var 1), (.var 2), (.var 3), (.var 4), (.var 5), (.var 6), .nili]))))
theorem wk_mParse : walk E0.cx (sgsN [(27, sg_mRead), (8, sg_mText)]) 0 17 sg_mParse = tr_mParse := by kernel_rfl
theorem bo_mParse : ∃ x, bodyOf E0.P 17 = some x := bo_of (by kernel_rfl)
theorem sp_mParse_mRead : specC [con_mRead, con_mText] k_mRead = mRead_s := rfl
theorem sp_mParse_mText : specC [con_mRead, con_mText] k_mText = mText_s := rfl
def mParse_s : Spec := fun ds Q => ∃ l : List UInt8, ds.getD 0 (.bool false) = strV l ∧ l.length ≤ 300 ∧ Q (parD l ++ [errV (parE l)])
theorem mParse_h : Holds E0 k_mParse sg_mParse mParse_s := con_fn wf0 mix0 g0 [con_mRead, con_mText] rfl wk_mParse rfl (by
  intro Φ hΦ ds Q hs ⟨l, hd, hl, h⟩
  have hl1 : ds.length = 1 := hs.length.symm
  have s1 : Φ k_mRead = mRead_s := by rw [hΦ]; rfl
  have s2 : Φ k_mText = mText_s := by rw [hΦ]; rfl
  clear hΦ hs
  match ds, hl1 with
  | [d0], _ =>
  obtain rfl : d0 = strV l := hd
  show Φ k_mRead [strV l] _
  rw [s1]
  refine ⟨l, rfl, hl, fun c0 c1 c2 c3 c4 hc => ?_⟩
  show Φ k_mText (costD c0 c1 c2 c3 c4 (numF (figL l))) _
  rw [s2]
  show wp E0.Δ Φ Q _ ([strV l] ++ costD c0 c1 c2 c3 c4 (numF (figL l)) ++ [strV (textL (costD c0 c1 c2 c3 c4 (numF (figL l)))), errV (textN (costD c0 c1 c2 c3 c4 (numF (figL l))))]) _
  generalize hN : textN (costD c0 c1 c2 c3 c4 (numF (figL l))) = N
  generalize hT : textL (costD c0 c1 c2 c3 c4 (numF (figL l))) = T
  refine ⟨fun hb => ?_, fun hb => ?_⟩
  · have hb : (!(isNilI (errV N)) || !((strD (strV T)).toList == (strD (strV l)).toList)) = true := Dat.bool.inj hb
    rw [errV_isNil, toList_V, toList_V] at hb
    have hbad : ¬ refOk l := fun hr => by
      obtain ⟨_, r1, r2⟩ := read_bad hc hr
      rw [hN] at r1
      rw [hT] at r2
      subst r1 r2
      rw [decide_eq_true rfl, beq_self_eq_true] at hb
      exact Bool.noConfusion hb
    rw [(par_bad hbad).1, (par_bad hbad).2] at h
    exact h
  · have hb : (!(isNilI (errV N)) || !((strD (strV T)).toList == (strD (strV l)).toList)) = false := Dat.bool.inj hb
    rw [errV_isNil, toList_V, toList_V] at hb
    obtain ⟨b1, b2⟩ := Bool.or_eq_false_iff.1 hb
    have b1 : N = 0 := by simpa using b1
    have b2 : T = l := by simpa using b2
    subst b1 b2
    obtain ⟨r1, r2⟩ := read_ok hc hN hT
    rw [(par_ok r1).1, (par_ok r1).2, r2] at h
    exact h)
noncomputable def con_mParse : Con E0 := ⟨k_mParse, sg_mParse, mParse_s, rfl, bo_mParse, mParse_h⟩
end Go.Proofs.YtfpgbdefopbfbaaDoor
end

section
namespace Go.Proofs.YtfpgbdefopbfbaaDoor
open Go.RowKit
set_option linter.unusedVariables false
set_option linter.unusedSimpArgs false
set_option maxHeartbeats 4000000

theorem strD_getD (l : List UInt8) (i : Nat) : (strD (strV l)).data.getD i 0 = l.getD i 0 := by
  show l.toArray.getD i 0 = _
  simp
theorem ob_a (i : Nat) (n : Int) : Dat.bool (!(Cmp.lt.of (i : Int) n) || Cmp.ge.of (i : Int) 0) = .bool true := by
  show Dat.bool (!(decide ((i : Int) < n)) || decide ((0 : Int) ≤ i)) = .bool true
  rw [decide_eq_true (show (0 : Int) ≤ i by omega), Bool.or_true]
theorem ob_b (i : Int) (n : Int) : Dat.bool (!(Cmp.lt.of i n) || Cmp.lt.of i n) = .bool true := by
  cases Cmp.lt.of i n <;> rfl
/-- a sign stands there -/
def atB (l : List UInt8) (i : Int) (c : Int) : Bool := Cmp.lt.of i ((strD (strV l)).size : Int) && Cmp.eq.of (((strD (strV l)).data.getD i.toNat 0).toNat : Int) c
theorem atB_iff {l : List UInt8} {i : Nat} {c : Nat} (hc : c < 256) : atB l i c = true ↔ l[i]? = some (UInt8.ofNat c) := by
  unfold atB
  rw [size_V, Int.toNat_natCast, strD_getD]
  show (decide ((i : Int) < (l.length : Int)) && (((l.getD i 0).toNat : Int) == (c : Int))) = true ↔ _
  rw [Bool.and_eq_true, decide_eq_true_eq, beq_iff_eq]
  constructor
  · rintro ⟨h1, h2⟩
    have h1 : i < l.length := by omega
    rw [List.getElem?_eq_getElem h1]
    rw [List.getD_eq_getElem?_getD, List.getElem?_eq_getElem h1] at h2
    congr 1
    exact (u8_eq hc).2 (by
      have h2 : ((l[i].toNat : Nat) : Int) = c := h2
      omega)
  · intro h
    have h1 := (List.getElem?_eq_some_iff.1 h).1
    rw [List.getD_eq_getElem?_getD, h]
    exact ⟨by omega, by
      show (((UInt8.ofNat c).toNat : Nat) : Int) = c
      rw [UInt8.toNat_ofNat']; omega⟩
theorem run_at {c : UInt8} : ∀ {t : List UInt8} {j : Nat}, j ≤ runL c t → (t[j]? = some c ↔ j < runL c t)
  | [], j, h => by
    have : runL c [] = 0 := rfl
    simp [this]
  | x :: t, 0, h => by
    unfold runL
    rw [List.takeWhile_cons]
    by_cases hx : (x == c) = true
    · rw [if_pos hx]; simp [beq_iff_eq.1 hx]
    · rw [if_neg hx]
      simp only [List.getElem?_cons_zero, List.length_nil, Nat.lt_irrefl, iff_false]
      intro e; exact hx (beq_iff_eq.2 (Option.some.inj e))
  | x :: t, j + 1, h => by
    unfold runL at h ⊢
    rw [List.takeWhile_cons] at h ⊢
    by_cases hx : (x == c) = true
    · rw [if_pos hx] at h ⊢
      rw [List.length_cons] at h ⊢
      have := run_at (c := c) (t := t) (j := j) (by unfold runL; omega)
      unfold runL at this
      rw [List.getElem?_cons_succ, this]; omega
    · rw [if_neg hx] at h
      simp at h
theorem run_pos {l : List UInt8} {p j c : Nat} (hc : c < 256) (hj : j ≤ runL (UInt8.ofNat c) (l.drop p)) : atB l ((p + j : Nat) : Int) c = true ↔ j < runL (UInt8.ofNat c) (l.drop p) := by
  rw [atB_iff hc, ← run_at hj, List.getElem?_drop]
theorem run_le (c : UInt8) (l : List UInt8) : runL c l ≤ l.length := by
  have := congrArg List.length (run_take c l)
  rw [List.length_append, List.length_replicate] at this
  omega
def P1 (l : List UInt8) : Nat := (figL l).length + rW (rstL l)
def P2 (l : List UInt8) : Nat := P1 l + rU (rstL l)
def P3 (l : List UInt8) : Nat := P2 l + rB (rstL l)
def P4 (l : List UInt8) : Nat := P3 l + rR (rstL l)
def P5 (l : List UInt8) : Nat := P4 l + rG (rstL l)
theorem d1 (l : List UInt8) : l.drop (P1 l) = t1 (rstL l) := by unfold P1 t1 rW; rw [← List.drop_drop, fig_drop]
theorem d2 (l : List UInt8) : l.drop (P2 l) = t2 (rstL l) := by unfold P2 t2 rU; rw [← List.drop_drop, d1]
theorem d3 (l : List UInt8) : l.drop (P3 l) = t3 (rstL l) := by unfold P3 t3 rB; rw [← List.drop_drop, d2]
theorem d4 (l : List UInt8) : l.drop (P4 l) = t4 (rstL l) := by unfold P4 t4 rR; rw [← List.drop_drop, d3]
theorem d5 (l : List UInt8) : l.drop (P5 l) = t5 (rstL l) := by unfold P5 t5 rG; rw [← List.drop_drop, d4]
theorem p5_le (l : List UInt8) (h : l.length ≤ 300) : P5 l ≤ 300 ∧ rW (rstL l) ≤ 300 ∧ rU (rstL l) ≤ 300 ∧ rB (rstL l) ≤ 300 ∧ rR (rstL l) ≤ 300 ∧ rG (rstL l) ≤ 300 := by
  have h0 := run_le 87 (rstL l)
  have h1 := run_le 85 (t1 (rstL l))
  have h2 := run_le 66 (t2 (rstL l))
  have h3 := run_le 82 (t3 (rstL l))
  have h4 := run_le 71 (t4 (rstL l))
  have e1 := congrArg List.length (d1 l)
  have e2 := congrArg List.length (d2 l)
  have e3 := congrArg List.length (d3 l)
  have e4 := congrArg List.length (d4 l)
  have e5 := congrArg List.length (d5 l)
  have hf := fig_len l
  rw [List.length_drop] at e1 e2 e3 e4 e5
  unfold P1 at e1
  unfold P2 P1 at e2
  unfold P3 P2 P1 at e3
  unfold P4 P3 P2 P1 at e4
  unfold P5 P4 P3 P2 P1 at e5 ⊢
  change rW (rstL l) ≤ _ at h0
  change rU (rstL l) ≤ _ at h1
  change rB (rstL l) ≤ _ at h2
  change rR (rstL l) ≤ _ at h3
  change rG (rstL l) ≤ _ at h4
  omega
theorem end_iff (l : List UInt8) : t5 (rstL l) = [] ↔ ¬ P5 l < l.length := by
  rw [← d5, List.drop_eq_nil_iff]; omega
theorem allS_of {Δ : Tab} : ∀ (ss : List Srt) {p : List Dat → Prop}, (∀ xs, p xs) → allS Δ ss p
  | [], p, h => h _
  | .int k :: ss, p, h => fun n => allS_of ss fun l => h _
  | .bool :: ss, p, h => fun n => allS_of ss fun l => h _
  | .str :: ss, p, h => fun d _ => allS_of ss fun l => h _
  | .err :: ss, p, h => fun d _ => allS_of ss fun l => h _
  | .val :: ss, p, h => fun d _ => allS_of ss fun l => h _
  | .list r :: ss, p, h => fun d _ => allS_of ss fun l => h _
  | .rows r :: ss, p, h => fun d _ => allS_of ss fun l => h _
def k_rParse04 : Nat := 18
def sg_rParse04 : Sig := ⟨[(false, [.str])], [(true, List.replicate 6 (.int .i64)), (false, [.int .i64])], false, true, true, false, false⟩
def tr_rParse04_1 : Tree := (.ob (.or (.not (.cmp .lt (.var 49) (.slen (.var 0)))) (.cmp .ge (.var 49) (.int .i64 0))) (.ob (.or (.not (.cmp .lt (.var 49) (.slen (.var 0)))) (.cmp .lt (.var 49) (.slen (.var 0)))) (.ite (.and (.cmp .lt (.var 49) (.slen (.var 0))) (.cmp .eq (.sidx (.var 0) (.var 49)) (.int .u8 71))) (.again 5 [(.ar .add .i64 (.var 49) (.int .i64 1)), (.var 49), (.var 0), (.slen (.var 0)), (.cmp .lt (.var 49) (.slen (.var 0))), (.cmp .lt (.var 49) (.slen (.var 0))), (.and (.cmp .lt (.var 49) (.slen (.var 0))) (.cmp .eq (.sidx (.var 0) (.var 49)) (.int .u8 71))), (.var 56), (.var 57), (.var 58), (.var 59), (.ar .add .i64 (.var 60) (.int .i64 1)), (.var 61)]) (.ite (.or (.cmp .lt (.var 49) (.slen (.var 0))) (.or (.cmp .gt (.var 56) (.int .i64 20)) (.or (.cmp .gt (.var 57) (.int .i64 20)) (.or (.cmp .gt (.var 58) (.int .i64 20)) (.or (.cmp .gt (.var 59) (.int .i64 20)) (.cmp .gt (.var 60) (.int .i64 20))))))) (.ret [(.int .i64 0), (.int .i64 0), (.int .i64 0), (.int .i64 0), (.int .i64 0), (.int .i64 0), (.int .i64 2)]) (.ret [(.var 56), (.var 57), (.var 58), (.var 59), (.var 60), (.var 61), (.int .i64 0)])))))
def tr_rParse04_2 : Tree := (.ob (.or (.not (.cmp .lt (.var 36) (.slen (.var 0)))) (.cmp .ge (.var 36) (.int .i64 0))) (.ob (.or (.not (.cmp .lt (.var 36) (.slen (.var 0)))) (.cmp .lt (.var 36) (.slen (.var 0)))) (.ite (.and (.cmp .lt (.var 36) (.slen (.var 0))) (.cmp .eq (.sidx (.var 0) (.var 36)) (.int .u8 82))) (.again 4 [(.ar .add .i64 (.var 36) (.int .i64 1)), (.var 36), (.var 0), (.slen (.var 0)), (.cmp .lt (.var 36) (.slen (.var 0))), (.cmp .lt (.var 36) (.slen (.var 0))), (.and (.cmp .lt (.var 36) (.slen (.var 0))) (.cmp .eq (.sidx (.var 0) (.var 36)) (.int .u8 82))), (.var 43), (.var 44), (.var 45), (.ar .add .i64 (.var 46) (.int .i64 1)), (.var 47), (.var 48)]) (.loop [(.var 36), (.var 36), (.var 0), (.slen (.var 0)), (.cmp .lt (.var 36) (.slen (.var 0))), (.cmp .lt (.var 36) (.slen (.var 0))), (.and (.cmp .lt (.var 36) (.slen (.var 0))) (.cmp .eq (.sidx (.var 0) (.var 36)) (.int .u8 82))), (.var 43), (.var 44), (.var 45), (.var 46), (.var 47), (.var 48)] [(.int .i64), (.int .i64), .str, (.int .i64), .bool, .bool, .bool, (.int .i64), (.int .i64), (.int .i64), (.int .i64), (.int .i64), (.int .i64)] tr_rParse04_1))))
def tr_rParse04_3 : Tree := (.ob (.or (.not (.cmp .lt (.var 23) (.slen (.var 0)))) (.cmp .ge (.var 23) (.int .i64 0))) (.ob (.or (.not (.cmp .lt (.var 23) (.slen (.var 0)))) (.cmp .lt (.var 23) (.slen (.var 0)))) (.ite (.and (.cmp .lt (.var 23) (.slen (.var 0))) (.cmp .eq (.sidx (.var 0) (.var 23)) (.int .u8 66))) (.again 3 [(.ar .add .i64 (.var 23) (.int .i64 1)), (.var 23), (.var 0), (.slen (.var 0)), (.cmp .lt (.var 23) (.slen (.var 0))), (.cmp .lt (.var 23) (.slen (.var 0))), (.and (.cmp .lt (.var 23) (.slen (.var 0))) (.cmp .eq (.sidx (.var 0) (.var 23)) (.int .u8 66))), (.var 30), (.var 31), (.ar .add .i64 (.var 32) (.int .i64 1)), (.var 33), (.var 34), (.var 35)]) (.loop [(.var 23), (.var 23), (.var 0), (.slen (.var 0)), (.cmp .lt (.var 23) (.slen (.var 0))), (.cmp .lt (.var 23) (.slen (.var 0))), (.and (.cmp .lt (.var 23) (.slen (.var 0))) (.cmp .eq (.sidx (.var 0) (.var 23)) (.int .u8 66))), (.var 30), (.var 31), (.var 32), (.var 33), (.var 34), (.var 35)] [(.int .i64), (.int .i64), .str, (.int .i64), .bool, .bool, .bool, (.int .i64), (.int .i64), (.int .i64), (.int .i64), (.int .i64), (.int .i64)] tr_rParse04_2))))
def tr_rParse04_4 : Tree := (.ob (.or (.not (.cmp .lt (.var 10) (.slen (.var 0)))) (.cmp .ge (.var 10) (.int .i64 0))) (.ob (.or (.not (.cmp .lt (.var 10) (.slen (.var 0)))) (.cmp .lt (.var 10) (.slen (.var 0)))) (.ite (.and (.cmp .lt (.var 10) (.slen (.var 0))) (.cmp .eq (.sidx (.var 0) (.var 10)) (.int .u8 85))) (.again 2 [(.ar .add .i64 (.var 10) (.int .i64 1)), (.var 10), (.var 0), (.slen (.var 0)), (.cmp .lt (.var 10) (.slen (.var 0))), (.cmp .lt (.var 10) (.slen (.var 0))), (.and (.cmp .lt (.var 10) (.slen (.var 0))) (.cmp .eq (.sidx (.var 0) (.var 10)) (.int .u8 85))), (.var 17), (.ar .add .i64 (.var 18) (.int .i64 1)), (.var 19), (.var 20), (.var 21), (.var 22)]) (.loop [(.var 10), (.var 10), (.var 0), (.slen (.var 0)), (.cmp .lt (.var 10) (.slen (.var 0))), (.cmp .lt (.var 10) (.slen (.var 0))), (.and (.cmp .lt (.var 10) (.slen (.var 0))) (.cmp .eq (.sidx (.var 0) (.var 10)) (.int .u8 85))), (.var 17), (.var 18), (.var 19), (.var 20), (.var 21), (.var 22)] [(.int .i64), (.int .i64), .str, (.int .i64), .bool, .bool, .bool, (.int .i64), (.int .i64), (.int .i64), (.int .i64), (.int .i64), (.int .i64)] tr_rParse04_3))))
def tr_rParse04_5 : Tree := (.ob (.or (.not (.cmp .lt (.var 3) (.slen (.var 0)))) (.cmp .ge (.var 3) (.int .i64 0))) (.ob (.or (.not (.cmp .lt (.var 3) (.slen (.var 0)))) (.cmp .lt (.var 3) (.slen (.var 0)))) (.ite (.and (.cmp .lt (.var 3) (.slen (.var 0))) (.cmp .eq (.sidx (.var 0) (.var 3)) (.int .u8 87))) (.again 1 [(.ar .add .i64 (.var 3) (.int .i64 1)), (.ar .add .i64 (.var 4) (.int .i64 1)), (.var 5), (.var 6), (.var 7), (.var 8), (.var 9)]) (.loop [(.var 3), (.var 3), (.var 0), (.slen (.var 0)), (.cmp .lt (.var 3) (.slen (.var 0))), (.cmp .lt (.var 3) (.slen (.var 0))), (.and (.cmp .lt (.var 3) (.slen (.var 0))) (.cmp .eq (.sidx (.var 0) (.var 3)) (.int .u8 87))), (.var 4), (.var 5), (.var 6), (.var 7), (.var 8), (.var 9)] [(.int .i64), (.int .i64), .str, (.int .i64), .bool, .bool, .bool, (.int .i64), (.int .i64), (.int .i64), (.int .i64), (.int .i64), (.int .i64)] tr_rParse04_4))))
def tr_rParse04_6 : Tree := (.ob (.or (.not (.cmp .lt (.var 1) (.slen (.var 0)))) (.cmp .ge (.var 1) (.int .i64 0))) (.ob (.or (.not (.cmp .lt (.var 1) (.slen (.var 0)))) (.cmp .lt (.var 1) (.slen (.var 0)))) (.ob (.or (.not (.cmp .lt (.var 1) (.slen (.var 0)))) (.or (.not (.cmp .ge (.sidx (.var 0) (.var 1)) (.int .u8 48))) (.cmp .ge (.var 1) (.int .i64 0)))) (.ob (.or (.not (.cmp .lt (.var 1) (.slen (.var 0)))) (.or (.not (.cmp .ge (.sidx (.var 0) (.var 1)) (.int .u8 48))) (.cmp .lt (.var 1) (.slen (.var 0))))) (.ite (.and (.cmp .lt (.var 1) (.slen (.var 0))) (.and (.cmp .ge (.sidx (.var 0) (.var 1)) (.int .u8 48)) (.cmp .le (.sidx (.var 0) (.var 1)) (.int .u8 57)))) (.ob (.cmp .ge (.var 1) (.int .i64 0)) (.again 0 [(.ar .add .i64 (.var 1) (.int .i64 1)), (.ite (.cmp .lt (.int .i64 2000) (.ar .add .i64 (.ar .mul .i64 (.var 2) (.int .i64 10)) (.conv .i64 (.ar .sub .u8 (.sidx (.var 0) (.var 1)) (.int .u8 48))))) (.int .i64 2000) (.ar .add .i64 (.ar .mul .i64 (.var 2) (.int .i64 10)) (.conv .i64 (.ar .sub .u8 (.sidx (.var 0) (.var 1)) (.int .u8 48)))))])) (.ob (.or (.not (.cmp .gt (.var 1) (.int .i64 1))) (.cmp .lt (.int .i64 0) (.slen (.var 0)))) (.ob (.or (.cmp .gt (.var 1) (.int .i64 1)) (.or (.cmp .gt (.var 2) (.int .i64 1000)) (.or (.not (.cmp .eq (.var 1) (.int .i64 1))) (.cmp .lt (.int .i64 0) (.slen (.var 0)))))) (.ite (.ite (.cmp .gt (.var 1) (.int .i64 1)) (.or (.cmp .eq (.sidx (.var 0) (.int .i64 0)) (.int .u8 48)) (.or (.cmp .gt (.var 2) (.int .i64 1000)) (.cmp .eq (.slen (.var 0)) (.int .i64 0)))) (.or (.cmp .gt (.var 2) (.int .i64 1000)) (.ite (.cmp .eq (.var 1) (.int .i64 1)) (.ite (.cmp .eq (.sidx (.var 0) (.int .i64 0)) (.int .u8 48)) (.or (.cmp .gt (.slen (.var 0)) (.int .i64 1)) (.cmp .eq (.slen (.var 0)) (.int .i64 0))) (.cmp .eq (.slen (.var 0)) (.int .i64 0))) (.cmp .eq (.slen (.var 0)) (.int .i64 0))))) (.ret [(.int .i64 0), (.int .i64 0), (.int .i64 0), (.int .i64 0), (.int .i64 0), (.int .i64 0), (.int .i64 2)]) (.loop [(.var 1), (.int .i64 0), (.int .i64 0), (.int .i64 0), (.int .i64 0), (.int .i64 0), (.var 2)] [(.int .i64), (.int .i64), (.int .i64), (.int .i64), (.int .i64), (.int .i64), (.int .i64)] tr_rParse04_5)))))))))
def tr_rParse04 : Tree := (.loop [(.int .i64 0), (.int .i64 0)] [(.int .i64), (.int .i64)] tr_rParse04_6)
theorem wk_rParse04 : walk E0.cx (sgsN []) 0 18 sg_rParse04 = tr_rParse04 := by kernel_rfl
theorem bo_rParse04 : ∃ x, bodyOf E0.P 18 = some x := bo_of (by kernel_rfl)

def RelW (l : List UInt8) : Inv := fun xs m => ∃ (j : Nat), j ≤ rW (rstL l) ∧ m = rW (rstL l) - j ∧ xs = [.int .i64 (((figL l).length + j : Nat) : Int), .int .i64 ((j : Nat) : Int), .int .i64 0, .int .i64 0, .int .i64 0, .int .i64 0, .int .i64 ((satD (figL l) 0 : Nat) : Int)]
def RelU (l : List UInt8) : Inv := fun xs m => ∃ (j : Nat) (y1 y2 y3 y4 y5 y6 : Dat), j ≤ rU (rstL l) ∧ m = rU (rstL l) - j ∧ xs = [.int .i64 ((P1 l + j : Nat) : Int), y1, y2, y3, y4, y5, y6, .int .i64 ((rW (rstL l) : Nat) : Int), .int .i64 ((j : Nat) : Int), .int .i64 0, .int .i64 0, .int .i64 0, .int .i64 ((satD (figL l) 0 : Nat) : Int)]
theorem mkU {l : List UInt8} {xs : List Dat} (j : Nat) (hj : j ≤ rU (rstL l)) (hl : xs.length = 13) (h0 : xs.getD 0 (.bool false) = .int .i64 ((P1 l + j : Nat) : Int)) (h1 : xs.drop 7 = [.int .i64 ((rW (rstL l) : Nat) : Int), .int .i64 ((j : Nat) : Int), .int .i64 0, .int .i64 0, .int .i64 0, .int .i64 ((satD (figL l) 0 : Nat) : Int)]) : RelU l xs (rU (rstL l) - j) := by
  match xs, hl with
  | [a0, a1, a2, a3, a4, a5, a6, a7, a8, a9, a10, a11, a12], _ =>
    have h0 : a0 = _ := h0
    have h1 : [a7, a8, a9, a10, a11, a12] = _ := h1
    simp only [List.cons.injEq, and_true] at h1
    obtain ⟨rfl, rfl, rfl, rfl, rfl, rfl⟩ := h1
    subst h0
    exact ⟨j, a1, a2, a3, a4, a5, a6, hj, rfl, rfl⟩
def RelB (l : List UInt8) : Inv := fun xs m => ∃ (j : Nat) (y1 y2 y3 y4 y5 y6 : Dat), j ≤ rB (rstL l) ∧ m = rB (rstL l) - j ∧ xs = [.int .i64 ((P2 l + j : Nat) : Int), y1, y2, y3, y4, y5, y6, .int .i64 ((rW (rstL l) : Nat) : Int), .int .i64 ((rU (rstL l) : Nat) : Int), .int .i64 ((j : Nat) : Int), .int .i64 0, .int .i64 0, .int .i64 ((satD (figL l) 0 : Nat) : Int)]
theorem mkB {l : List UInt8} {xs : List Dat} (j : Nat) (hj : j ≤ rB (rstL l)) (hl : xs.length = 13) (h0 : xs.getD 0 (.bool false) = .int .i64 ((P2 l + j : Nat) : Int)) (h1 : xs.drop 7 = [.int .i64 ((rW (rstL l) : Nat) : Int), .int .i64 ((rU (rstL l) : Nat) : Int), .int .i64 ((j : Nat) : Int), .int .i64 0, .int .i64 0, .int .i64 ((satD (figL l) 0 : Nat) : Int)]) : RelB l xs (rB (rstL l) - j) := by
  match xs, hl with
  | [a0, a1, a2, a3, a4, a5, a6, a7, a8, a9, a10, a11, a12], _ =>
    have h0 : a0 = _ := h0
    have h1 : [a7, a8, a9, a10, a11, a12] = _ := h1
    simp only [List.cons.injEq, and_true] at h1
    obtain ⟨rfl, rfl, rfl, rfl, rfl, rfl⟩ := h1
    subst h0
    exact ⟨j, a1, a2, a3, a4, a5, a6, hj, rfl, rfl⟩
def RelR (l : List UInt8) : Inv := fun xs m => ∃ (j : Nat) (y1 y2 y3 y4 y5 y6 : Dat), j ≤ rR (rstL l) ∧ m = rR (rstL l) - j ∧ xs = [.int .i64 ((P3 l + j : Nat) : Int), y1, y2, y3, y4, y5, y6, .int .i64 ((rW (rstL l) : Nat) : Int), .int .i64 ((rU (rstL l) : Nat) : Int), .int .i64 ((rB (rstL l) : Nat) : Int), .int .i64 ((j : Nat) : Int), .int .i64 0, .int .i64 ((satD (figL l) 0 : Nat) : Int)]
theorem mkR {l : List UInt8} {xs : List Dat} (j : Nat) (hj : j ≤ rR (rstL l)) (hl : xs.length = 13) (h0 : xs.getD 0 (.bool false) = .int .i64 ((P3 l + j : Nat) : Int)) (h1 : xs.drop 7 = [.int .i64 ((rW (rstL l) : Nat) : Int), .int .i64 ((rU (rstL l) : Nat) : Int), .int .i64 ((rB (rstL l) : Nat) : Int), .int .i64 ((j : Nat) : Int), .int .i64 0, .int .i64 ((satD (figL l) 0 : Nat) : Int)]) : RelR l xs (rR (rstL l) - j) := by
  match xs, hl with
  | [a0, a1, a2, a3, a4, a5, a6, a7, a8, a9, a10, a11, a12], _ =>
    have h0 : a0 = _ := h0
    have h1 : [a7, a8, a9, a10, a11, a12] = _ := h1
    simp only [List.cons.injEq, and_true] at h1
    obtain ⟨rfl, rfl, rfl, rfl, rfl, rfl⟩ := h1
    subst h0
    exact ⟨j, a1, a2, a3, a4, a5, a6, hj, rfl, rfl⟩
def RelG (l : List UInt8) : Inv := fun xs m => ∃ (j : Nat) (y1 y2 y3 y4 y5 y6 : Dat), j ≤ rG (rstL l) ∧ m = rG (rstL l) - j ∧ xs = [.int .i64 ((P4 l + j : Nat) : Int), y1, y2, y3, y4, y5, y6, .int .i64 ((rW (rstL l) : Nat) : Int), .int .i64 ((rU (rstL l) : Nat) : Int), .int .i64 ((rB (rstL l) : Nat) : Int), .int .i64 ((rR (rstL l) : Nat) : Int), .int .i64 ((j : Nat) : Int), .int .i64 ((satD (figL l) 0 : Nat) : Int)]
theorem mkG {l : List UInt8} {xs : List Dat} (j : Nat) (hj : j ≤ rG (rstL l)) (hl : xs.length = 13) (h0 : xs.getD 0 (.bool false) = .int .i64 ((P4 l + j : Nat) : Int)) (h1 : xs.drop 7 = [.int .i64 ((rW (rstL l) : Nat) : Int), .int .i64 ((rU (rstL l) : Nat) : Int), .int .i64 ((rB (rstL l) : Nat) : Int), .int .i64 ((rR (rstL l) : Nat) : Int), .int .i64 ((j : Nat) : Int), .int .i64 ((satD (figL l) 0 : Nat) : Int)]) : RelG l xs (rG (rstL l) - j) := by
  match xs, hl with
  | [a0, a1, a2, a3, a4, a5, a6, a7, a8, a9, a10, a11, a12], _ =>
    have h0 : a0 = _ := h0
    have h1 : [a7, a8, a9, a10, a11, a12] = _ := h1
    simp only [List.cons.injEq, and_true] at h1
    obtain ⟨rfl, rfl, rfl, rfl, rfl, rfl⟩ := h1
    subst h0
    exact ⟨j, a1, a2, a3, a4, a5, a6, hj, rfl, rfl⟩
theorem bodyG {Φ : Nat → Spec} {Q : List Dat → Prop} {l : List UInt8} (hl : l.length ≤ 300) (hA : ¬ (1 < (figL l).length ∧ l.head? = some 48) ∧ satD (figL l) 0 ≤ 1000 ∧ ¬ ((figL l).length = 1 ∧ l.head? = some 48 ∧ 1 < l.length) ∧ l ≠ []) (hQ : Q (parD l ++ [.int .i64 (parE l)])) (x1 x2 x3 x4 x5 x6 x7 x8 x9 x10 x11 x12 x13 x14 x15 x16 x17 x18 x19 x20 x21 x22 x23 x24 x25 x26 x27 x28 x29 x30 x31 x32 x33 x34 x35 x36 x37 x38 x39 x40 x41 x42 x43 x44 x45 x46 x47 x48 : Dat) (X0 X1 X2 X3 X4 : Inv × Nat) :
    ∀ xs m, RelG l xs m → wp E0.Δ Φ Q tr_rParse04_1 ([strV l, x1, x2, x3, x4, x5, x6, x7, x8, x9, x10, x11, x12, x13, x14, x15, x16, x17, x18, x19, x20, x21, x22, x23, x24, x25, x26, x27, x28, x29, x30, x31, x32, x33, x34, x35, x36, x37, x38, x39, x40, x41, x42, x43, x44, x45, x46, x47, x48] ++ xs) ([X0, X1, X2, X3, X4] ++ [(RelG l, m)]) := by
  rintro xs m ⟨j, y1, y2, y3, y4, y5, y6, hj, rfl, rfl⟩
  have hp := p5_le l hl
  have hrun : atB l ((P4 l + j : Nat) : Int) (71 : Nat) = true ↔ j < rG (rstL l) := by
    have := run_pos (l := l) (p := P4 l) (j := j) (c := 71) (by decide) (by rw [d4]; exact hj)
    rw [d4] at this; exact this
  have hP : P4 l ≤ 300 := by unfold P5 P4 P3 P2 P1 at hp; unfold P4 P3 P2 P1; omega
  refine ⟨ob_a (P4 l + j) _, ob_b _ _, fun hb => ?_, fun hb => ?_⟩
  · have hlt := hrun.1 (Dat.bool.inj hb)
    show ∃ m', m' < rG (rstL l) - j ∧ RelG l _ m'
    have e1 : IntKind.i64.wrap ((((P4 l + j : Nat)) : Int) + 1) = ((P4 l + (j + 1) : Nat) : Int) := by rw [wrap64 (by omega) (by omega)]; omega
    have e2 : IntKind.i64.wrap (((j : Nat) : Int) + 1) = ((j + 1 : Nat) : Int) := by rw [wrap64 (by omega) (by omega)]; omega
    refine ⟨rG (rstL l) - (j + 1), by omega, mkG (j + 1) (by omega) rfl ?_ ?_⟩
    · rw [← e1]; rfl
    · rw [← e2]; rfl
  · have hge : ¬ j < rG (rstL l) := fun hx => by
      have h1 := hrun.2 hx
      have h2 : atB l ((P4 l + j : Nat) : Int) (71 : Nat) = false := Dat.bool.inj hb
      rw [h1] at h2; cases h2
    obtain rfl : j = rG (rstL l) := by omega
    refine ⟨fun hc => ?_, fun hc => ?_⟩
    · have hc : (Cmp.lt.of ((P4 l + rG (rstL l) : Nat) : Int) ((strD (strV l)).size : Int) || (decide ((20 : Int) < (rW (rstL l) : Nat)) || (decide ((20 : Int) < (rU (rstL l) : Nat)) || (decide ((20 : Int) < (rB (rstL l) : Nat)) || (decide ((20 : Int) < (rR (rstL l) : Nat)) || decide ((20 : Int) < (rG (rstL l) : Nat))))))) = true := Dat.bool.inj hc
      rw [size_V] at hc
      change (decide (((P5 l : Nat) : Int) < (l.length : Int)) || _) = true at hc
      simp only [Bool.or_eq_true, decide_eq_true_eq] at hc
      have hbad : ¬ refOk l := fun ⟨_, _, _, _, r5, r6, r7, r8, r9, r10⟩ => by
        rw [end_iff] at r5; omega
      rw [(par_bad hbad).1, (par_bad hbad).2] at hQ
      exact hQ
    · have hc : (Cmp.lt.of ((P4 l + rG (rstL l) : Nat) : Int) ((strD (strV l)).size : Int) || (decide ((20 : Int) < (rW (rstL l) : Nat)) || (decide ((20 : Int) < (rU (rstL l) : Nat)) || (decide ((20 : Int) < (rB (rstL l) : Nat)) || (decide ((20 : Int) < (rR (rstL l) : Nat)) || decide ((20 : Int) < (rG (rstL l) : Nat))))))) = false := Dat.bool.inj hc
      rw [size_V] at hc
      change (decide (((P5 l : Nat) : Int) < (l.length : Int)) || _) = false at hc
      simp only [Bool.or_eq_false_iff, decide_eq_false_iff_not] at hc
      have hok : refOk l := ⟨hA.1, hA.2.1, hA.2.2.1, hA.2.2.2, (end_iff l).2 (by omega), by omega, by omega, by omega, by omega, by omega⟩
      rw [(par_ok hok).1, (par_ok hok).2] at hQ
      exact hQ
theorem bodyR {Φ : Nat → Spec} {Q : List Dat → Prop} {l : List UInt8} (hl : l.length ≤ 300) (hA : ¬ (1 < (figL l).length ∧ l.head? = some 48) ∧ satD (figL l) 0 ≤ 1000 ∧ ¬ ((figL l).length = 1 ∧ l.head? = some 48 ∧ 1 < l.length) ∧ l ≠ []) (hQ : Q (parD l ++ [.int .i64 (parE l)])) (x1 x2 x3 x4 x5 x6 x7 x8 x9 x10 x11 x12 x13 x14 x15 x16 x17 x18 x19 x20 x21 x22 x23 x24 x25 x26 x27 x28 x29 x30 x31 x32 x33 x34 x35 : Dat) (X0 X1 X2 X3 : Inv × Nat) :
    ∀ xs m, RelR l xs m → wp E0.Δ Φ Q tr_rParse04_2 ([strV l, x1, x2, x3, x4, x5, x6, x7, x8, x9, x10, x11, x12, x13, x14, x15, x16, x17, x18, x19, x20, x21, x22, x23, x24, x25, x26, x27, x28, x29, x30, x31, x32, x33, x34, x35] ++ xs) ([X0, X1, X2, X3] ++ [(RelR l, m)]) := by
  rintro xs m ⟨j, y1, y2, y3, y4, y5, y6, hj, rfl, rfl⟩
  have hp := p5_le l hl
  have hrun : atB l ((P3 l + j : Nat) : Int) (82 : Nat) = true ↔ j < rR (rstL l) := by
    have := run_pos (l := l) (p := P3 l) (j := j) (c := 82) (by decide) (by rw [d3]; exact hj)
    rw [d3] at this; exact this
  have hP : P3 l ≤ 300 := by unfold P5 P4 P3 P2 P1 at hp; unfold P3 P2 P1; omega
  refine ⟨ob_a (P3 l + j) _, ob_b _ _, fun hb => ?_, fun hb => ?_⟩
  · have hlt := hrun.1 (Dat.bool.inj hb)
    show ∃ m', m' < rR (rstL l) - j ∧ RelR l _ m'
    have e1 : IntKind.i64.wrap ((((P3 l + j : Nat)) : Int) + 1) = ((P3 l + (j + 1) : Nat) : Int) := by rw [wrap64 (by omega) (by omega)]; omega
    have e2 : IntKind.i64.wrap (((j : Nat) : Int) + 1) = ((j + 1 : Nat) : Int) := by rw [wrap64 (by omega) (by omega)]; omega
    refine ⟨rR (rstL l) - (j + 1), by omega, mkR (j + 1) (by omega) rfl ?_ ?_⟩
    · rw [← e1]; rfl
    · rw [← e2]; rfl
  · have hge : ¬ j < rR (rstL l) := fun hx => by
      have h1 := hrun.2 hx
      have h2 : atB l ((P3 l + j : Nat) : Int) (82 : Nat) = false := Dat.bool.inj hb
      rw [h1] at h2; cases h2
    obtain rfl : j = rR (rstL l) := by omega
    refine ⟨RelG l, ⟨_, mkG 0 (Nat.zero_le _) rfl rfl rfl⟩, allS_of _ fun xs m hI => ?_⟩
    exact bodyG hl hA hQ _ _ _ _ _ _ _ _ _ _ _ _ _ _ _ _ _ _ _ _ _ _ _ _ _ _ _ _ _ _ _ _ _ _ _ _ _ _ _ _ _ _ _ _ _ _ _ _ _ _ _ _ _ xs m hI
theorem bodyB {Φ : Nat → Spec} {Q : List Dat → Prop} {l : List UInt8} (hl : l.length ≤ 300) (hA : ¬ (1 < (figL l).length ∧ l.head? = some 48) ∧ satD (figL l) 0 ≤ 1000 ∧ ¬ ((figL l).length = 1 ∧ l.head? = some 48 ∧ 1 < l.length) ∧ l ≠ []) (hQ : Q (parD l ++ [.int .i64 (parE l)])) (x1 x2 x3 x4 x5 x6 x7 x8 x9 x10 x11 x12 x13 x14 x15 x16 x17 x18 x19 x20 x21 x22 : Dat) (X0 X1 X2 : Inv × Nat) :
    ∀ xs m, RelB l xs m → wp E0.Δ Φ Q tr_rParse04_3 ([strV l, x1, x2, x3, x4, x5, x6, x7, x8, x9, x10, x11, x12, x13, x14, x15, x16, x17, x18, x19, x20, x21, x22] ++ xs) ([X0, X1, X2] ++ [(RelB l, m)]) := by
  rintro xs m ⟨j, y1, y2, y3, y4, y5, y6, hj, rfl, rfl⟩
  have hp := p5_le l hl
  have hrun : atB l ((P2 l + j : Nat) : Int) (66 : Nat) = true ↔ j < rB (rstL l) := by
    have := run_pos (l := l) (p := P2 l) (j := j) (c := 66) (by decide) (by rw [d2]; exact hj)
    rw [d2] at this; exact this
  have hP : P2 l ≤ 300 := by unfold P5 P4 P3 P2 P1 at hp; unfold P2 P1; omega
  refine ⟨ob_a (P2 l + j) _, ob_b _ _, fun hb => ?_, fun hb => ?_⟩
  · have hlt := hrun.1 (Dat.bool.inj hb)
    show ∃ m', m' < rB (rstL l) - j ∧ RelB l _ m'
    have e1 : IntKind.i64.wrap ((((P2 l + j : Nat)) : Int) + 1) = ((P2 l + (j + 1) : Nat) : Int) := by rw [wrap64 (by omega) (by omega)]; omega
    have e2 : IntKind.i64.wrap (((j : Nat) : Int) + 1) = ((j + 1 : Nat) : Int) := by rw [wrap64 (by omega) (by omega)]; omega
    refine ⟨rB (rstL l) - (j + 1), by omega, mkB (j + 1) (by omega) rfl ?_ ?_⟩
    · rw [← e1]; rfl
    · rw [← e2]; rfl
  · have hge : ¬ j < rB (rstL l) := fun hx => by
      have h1 := hrun.2 hx
      have h2 : atB l ((P2 l + j : Nat) : Int) (66 : Nat) = false := Dat.bool.inj hb
      rw [h1] at h2; cases h2
    obtain rfl : j = rB (rstL l) := by omega
    refine ⟨RelR l, ⟨_, mkR 0 (Nat.zero_le _) rfl rfl rfl⟩, allS_of _ fun xs m hI => ?_⟩
    exact bodyR hl hA hQ _ _ _ _ _ _ _ _ _ _ _ _ _ _ _ _ _ _ _ _ _ _ _ _ _ _ _ _ _ _ _ _ _ _ _ _ _ _ _ xs m hI
theorem bodyU {Φ : Nat → Spec} {Q : List Dat → Prop} {l : List UInt8} (hl : l.length ≤ 300) (hA : ¬ (1 < (figL l).length ∧ l.head? = some 48) ∧ satD (figL l) 0 ≤ 1000 ∧ ¬ ((figL l).length = 1 ∧ l.head? = some 48 ∧ 1 < l.length) ∧ l ≠ []) (hQ : Q (parD l ++ [.int .i64 (parE l)])) (x1 x2 x3 x4 x5 x6 x7 x8 x9 : Dat) (X0 X1 : Inv × Nat) :
    ∀ xs m, RelU l xs m → wp E0.Δ Φ Q tr_rParse04_4 ([strV l, x1, x2, x3, x4, x5, x6, x7, x8, x9] ++ xs) ([X0, X1] ++ [(RelU l, m)]) := by
  rintro xs m ⟨j, y1, y2, y3, y4, y5, y6, hj, rfl, rfl⟩
  have hp := p5_le l hl
  have hrun : atB l ((P1 l + j : Nat) : Int) (85 : Nat) = true ↔ j < rU (rstL l) := by
    have := run_pos (l := l) (p := P1 l) (j := j) (c := 85) (by decide) (by rw [d1]; exact hj)
    rw [d1] at this; exact this
  have hP : P1 l ≤ 300 := by unfold P5 P4 P3 P2 P1 at hp; unfold P1; omega
  refine ⟨ob_a (P1 l + j) _, ob_b _ _, fun hb => ?_, fun hb => ?_⟩
  · have hlt := hrun.1 (Dat.bool.inj hb)
    show ∃ m', m' < rU (rstL l) - j ∧ RelU l _ m'
    have e1 : IntKind.i64.wrap ((((P1 l + j : Nat)) : Int) + 1) = ((P1 l + (j + 1) : Nat) : Int) := by rw [wrap64 (by omega) (by omega)]; omega
    have e2 : IntKind.i64.wrap (((j : Nat) : Int) + 1) = ((j + 1 : Nat) : Int) := by rw [wrap64 (by omega) (by omega)]; omega
    refine ⟨rU (rstL l) - (j + 1), by omega, mkU (j + 1) (by omega) rfl ?_ ?_⟩
    · rw [← e1]; rfl
    · rw [← e2]; rfl
  · have hge : ¬ j < rU (rstL l) := fun hx => by
      have h1 := hrun.2 hx
      have h2 : atB l ((P1 l + j : Nat) : Int) (85 : Nat) = false := Dat.bool.inj hb
      rw [h1] at h2; cases h2
    obtain rfl : j = rU (rstL l) := by omega
    refine ⟨RelB l, ⟨_, mkB 0 (Nat.zero_le _) rfl rfl rfl⟩, allS_of _ fun xs m hI => ?_⟩
    exact bodyB hl hA hQ _ _ _ _ _ _ _ _ _ _ _ _ _ _ _ _ _ _ _ _ _ _ _ _ _ xs m hI
theorem bodyW {Φ : Nat → Spec} {Q : List Dat → Prop} {l : List UInt8} (hl : l.length ≤ 300) (hA : ¬ (1 < (figL l).length ∧ l.head? = some 48) ∧ satD (figL l) 0 ≤ 1000 ∧ ¬ ((figL l).length = 1 ∧ l.head? = some 48 ∧ 1 < l.length) ∧ l ≠ []) (hQ : Q (parD l ++ [.int .i64 (parE l)])) (x1 x2 : Dat) (X0 : Inv × Nat) :
    ∀ xs m, RelW l xs m → wp E0.Δ Φ Q tr_rParse04_5 ([strV l, x1, x2] ++ xs) ([X0] ++ [(RelW l, m)]) := by
  rintro xs m ⟨j, hj, rfl, rfl⟩
  have hp := p5_le l hl
  have hrun : atB l (((figL l).length + j : Nat) : Int) (87 : Nat) = true ↔ j < rW (rstL l) := by
    have := run_pos (l := l) (p := (figL l).length) (j := j) (c := 87) (by decide) (by rw [fig_drop]; exact hj)
    rw [fig_drop] at this; exact this
  have hP : (figL l).length ≤ 300 := by unfold P5 P4 P3 P2 P1 at hp; skip; omega
  refine ⟨ob_a ((figL l).length + j) _, ob_b _ _, fun hb => ?_, fun hb => ?_⟩
  · have hlt := hrun.1 (Dat.bool.inj hb)
    show ∃ m', m' < rW (rstL l) - j ∧ RelW l _ m'
    have e1 : IntKind.i64.wrap (((((figL l).length + j : Nat)) : Int) + 1) = (((figL l).length + (j + 1) : Nat) : Int) := by rw [wrap64 (by omega) (by omega)]; omega
    have e2 : IntKind.i64.wrap (((j : Nat) : Int) + 1) = ((j + 1 : Nat) : Int) := by rw [wrap64 (by omega) (by omega)]; omega
    refine ⟨rW (rstL l) - (j + 1), by omega, j + 1, by omega, rfl, ?_⟩
    rw [← e1, ← e2]; rfl
  · have hge : ¬ j < rW (rstL l) := fun hx => by
      have h1 := hrun.2 hx
      have h2 : atB l (((figL l).length + j : Nat) : Int) (87 : Nat) = false := Dat.bool.inj hb
      rw [h1] at h2; cases h2
    obtain rfl : j = rW (rstL l) := by omega
    refine ⟨RelU l, ⟨_, mkU 0 (Nat.zero_le _) rfl rfl rfl⟩, allS_of _ fun xs m hI => ?_⟩
    exact bodyU hl hA hQ _ _ _ _ _ _ _ _ _ _ _ xs m hI

end Go.Proofs.YtfpgbdefopbfbaaDoor
end

section
namespace Go.Proofs.YtfpgbdefopbfbaaDoor
open Go.RowKit
set_option linter.unusedVariables false
set_option linter.unusedSimpArgs false
set_option maxHeartbeats 1000000

theorem tw_at {p : UInt8 → Bool} : ∀ {t : List UInt8} {j : Nat}, j ≤ (t.takeWhile p).length → ((∃ x, t[j]? = some x ∧ p x = true) ↔ j < (t.takeWhile p).length)
  | [], j, h => by simp
  | x :: t, 0, h => by
    rw [List.takeWhile_cons]
    by_cases hx : p x = true
    · rw [if_pos hx]; simp [hx]
    · rw [if_neg hx]
      simp only [List.getElem?_cons_zero, List.length_nil, Nat.lt_irrefl, iff_false]
      rintro ⟨y, e, hy⟩
      rw [← Option.some.inj e] at hy; exact hx hy
  | x :: t, j + 1, h => by
    rw [List.takeWhile_cons] at h ⊢
    by_cases hx : p x = true
    · rw [if_pos hx] at h ⊢
      rw [List.length_cons] at h ⊢
      have := tw_at (p := p) (t := t) (j := j) (by omega)
      rw [List.getElem?_cons_succ, this]; omega
    · rw [if_neg hx] at h
      simp at h
def digB (l : List UInt8) (i : Int) : Bool := Cmp.lt.of i ((strD (strV l)).size : Int) && (Cmp.ge.of (((strD (strV l)).data.getD i.toNat 0).toNat : Int) 48 && Cmp.le.of (((strD (strV l)).data.getD i.toNat 0).toNat : Int) 57)
theorem dig_at {l : List UInt8} {i : Nat} (h : i ≤ (figL l).length) : digB l i = true ↔ i < (figL l).length := by
  have h9 : (∃ x, l[i]? = some x ∧ digL.contains x = true) ↔ i < (figL l).length := tw_at h
  rw [← h9]
  unfold digB
  rw [size_V, Int.toNat_natCast, strD_getD]
  show (decide ((i : Int) < (l.length : Int)) && (decide ((48 : Int) ≤ ((l.getD i 0).toNat : Nat)) && decide ((((l.getD i 0).toNat : Nat) : Int) ≤ 57))) = true ↔ _
  rw [Bool.and_eq_true, Bool.and_eq_true, decide_eq_true_eq, decide_eq_true_eq, decide_eq_true_eq]
  constructor
  · rintro ⟨h1, h2, h3⟩
    have h1 : i < l.length := by omega
    rw [List.getD_eq_getElem?_getD, List.getElem?_eq_getElem h1] at h2 h3
    change (48 : Int) ≤ ((l[i].toNat : Nat) : Int) at h2
    change (((l[i].toNat : Nat) : Int)) ≤ 57 at h3
    exact ⟨_, List.getElem?_eq_getElem h1, (dig_iff _).2 ⟨by omega, by omega⟩⟩
  · rintro ⟨x, hx, hd⟩
    have h1 := (List.getElem?_eq_some_iff.1 hx).1
    have hd := (dig_iff x).1 hd
    rw [List.getD_eq_getElem?_getD, hx]
    exact ⟨by omega, by show (48 : Int) ≤ ((x.toNat : Nat) : Int); omega, by show ((x.toNat : Nat) : Int) ≤ 57; omega⟩
theorem sat_le : ∀ (l : List UInt8) (a : Nat), a ≤ 2000 → satD l a ≤ 2000
  | [], a, h => h
  | c :: r, a, h => sat_le r _ (by omega)
def RelD (l : List UInt8) : Inv := fun xs m => ∃ (i : Nat), i ≤ (figL l).length ∧ m = (figL l).length - i ∧ xs = [.int .i64 ((i : Nat) : Int), .int .i64 ((satD ((figL l).take i) 0 : Nat) : Int)]
theorem fig_get {l : List UInt8} {i : Nat} (h : i < (figL l).length) : (figL l)[i]? = some (l.getD i 0) := by
  have e : l[i]? = (figL l)[i]? := by
    conv => lhs; rw [← fig_rst l]
    exact List.getElem?_append_left h
  rw [← e, List.getD_eq_getElem?_getD, e, List.getElem?_eq_getElem h]; rfl
def badB (l : List UInt8) : Bool := if decide (1 < (figL l).length) then (l.getD 0 0 == 48 || (decide (1000 < satD (figL l) 0) || decide (l.length = 0))) else (decide (1000 < satD (figL l) 0) || (if decide ((figL l).length = 1) then (if l.getD 0 0 == 48 then (decide (1 < l.length) || decide (l.length = 0)) else decide (l.length = 0)) else decide (l.length = 0)))
theorem badB_f {l : List UInt8} (h : badB l = false) : ¬ (1 < (figL l).length ∧ l.head? = some 48) ∧ satD (figL l) 0 ≤ 1000 ∧ ¬ ((figL l).length = 1 ∧ l.head? = some 48 ∧ 1 < l.length) ∧ l ≠ [] := by
  have hh : l.head? = some 48 → (l.getD 0 0 == 48) = true := fun e => by
    cases l with
    | nil => cases e
    | cons x l => rw [Option.some.inj e]; rfl
  unfold badB at h
  by_cases h1 : 1 < (figL l).length
  · rw [decide_eq_true h1, if_pos rfl] at h
    simp only [Bool.or_eq_false_iff, decide_eq_false_iff_not] at h
    exact ⟨fun hx => by rw [hh hx.2] at h; exact Bool.noConfusion h.1, by omega, fun hx => by omega, fun hx => h.2.2 (by rw [hx]; rfl)⟩
  · rw [decide_eq_false h1, if_neg Bool.false_ne_true] at h
    simp only [Bool.or_eq_false_iff, decide_eq_false_iff_not] at h
    obtain ⟨h2, h3⟩ := h
    have hne : l ≠ [] := fun hx => by
      subst hx
      have e0 : (figL []).length = 0 := rfl
      rw [e0, decide_eq_false (by decide), if_neg Bool.false_ne_true] at h3
      exact absurd h3 (by decide)
    refine ⟨fun hx => h1 hx.1, by omega, fun hx => ?_, hne⟩
    rw [decide_eq_true hx.1, if_pos rfl, hh hx.2.1, if_pos rfl] at h3
    simp only [Bool.or_eq_false_iff, decide_eq_false_iff_not] at h3
    exact h3.1 hx.2.2
theorem badB_t {l : List UInt8} (h : badB l = true) : ¬ refOk l := by
  rintro ⟨r1, r2, r3, r4, _⟩
  have hh : (l.getD 0 0 == 48) = true → l.head? = some 48 := fun e => by
    cases l with
    | nil => exact absurd rfl r4
    | cons x l => rw [show x = 48 from beq_iff_eq.1 e]; rfl
  have hne : ¬ l.length = 0 := fun hx => r4 (List.length_eq_zero_iff.1 hx)
  unfold badB at h
  rw [decide_eq_false hne, decide_eq_false (show ¬ 1000 < satD (figL l) 0 by omega)] at h
  by_cases h1 : 1 < (figL l).length
  · rw [decide_eq_true h1, if_pos rfl, Bool.or_false, Bool.or_false] at h
    exact r1 ⟨h1, hh h⟩
  · rw [decide_eq_false h1, if_neg Bool.false_ne_true, Bool.false_or] at h
    by_cases h2 : (figL l).length = 1
    · rw [decide_eq_true h2, if_pos rfl] at h
      by_cases h3 : (l.getD 0 0 == 48) = true
      · rw [if_pos h3, Bool.or_false] at h
        exact r3 ⟨h2, hh h3, of_decide_eq_true h⟩
      · rw [if_neg h3] at h; cases h
    · rw [decide_eq_false h2, if_neg Bool.false_ne_true] at h; cases h
theorem bad_den (A B C D E G : Bool) : (if (Dat.bool A).toBool = true then Dat.bool (B || (C || D)) else Dat.bool (C || (if (Dat.bool E).toBool = true then (if (Dat.bool B).toBool = true then Dat.bool (G || D) else Dat.bool D) else Dat.bool D).toBool)) = Dat.bool (if A then (B || (C || D)) else (C || (if E then (if B then (G || D) else D) else D))) := by
  cases A <;> cases B <;> cases C <;> cases D <;> cases E <;> cases G <;> rfl
theorem beq_n (a b : Nat) : ((a : Int) == (b : Int)) = decide (a = b) := by
  by_cases h : a = b
  · rw [decide_eq_true h]; subst h; exact beq_self_eq_true _
  · rw [decide_eq_false h, beq_eq_false_iff_ne]; omega
theorem dec_lt (a b : Nat) : decide ((a : Int) < (b : Int)) = decide (a < b) := by
  by_cases h : a < b
  · rw [decide_eq_true h, decide_eq_true (by omega)]
  · rw [decide_eq_false h, decide_eq_false (by omega)]
theorem bad_in {l : List UInt8} {b : Bool} (hc : (if (Dat.bool (Cmp.gt.of (((figL l).length : Nat) : Int) 1)).toBool = true then Dat.bool (Cmp.eq.of (((strD (strV l)).data.getD (0 : Int).toNat 0).toNat : Int) 48 || (Cmp.gt.of ((satD (figL l) 0 : Nat) : Int) 1000 || Cmp.eq.of (((strD (strV l)).size : Nat) : Int) 0)) else Dat.bool (Cmp.gt.of ((satD (figL l) 0 : Nat) : Int) 1000 || (if (Dat.bool (Cmp.eq.of (((figL l).length : Nat) : Int) 1)).toBool = true then (if (Dat.bool (Cmp.eq.of (((strD (strV l)).data.getD (0 : Int).toNat 0).toNat : Int) 48)).toBool = true then Dat.bool (Cmp.gt.of (((strD (strV l)).size : Nat) : Int) 1 || Cmp.eq.of (((strD (strV l)).size : Nat) : Int) 0) else Dat.bool (Cmp.eq.of (((strD (strV l)).size : Nat) : Int) 0)) else Dat.bool (Cmp.eq.of (((strD (strV l)).size : Nat) : Int) 0)).toBool)) = Dat.bool b) : badB l = b := by
  rw [bad_den] at hc
  have hc := Dat.bool.inj hc
  rw [← hc, size_V, show ((0 : Int).toNat) = 0 from rfl, strD_getD]
  unfold badB
  have e1 : Cmp.gt.of (((figL l).length : Nat) : Int) 1 = decide (1 < (figL l).length) := dec_lt 1 _
  have e2 : Cmp.gt.of ((satD (figL l) 0 : Nat) : Int) 1000 = decide (1000 < satD (figL l) 0) := dec_lt 1000 _
  have e3 : Cmp.eq.of ((l.length : Nat) : Int) 0 = decide (l.length = 0) := beq_n _ 0
  have e4 : Cmp.eq.of (((figL l).length : Nat) : Int) 1 = decide ((figL l).length = 1) := beq_n _ 1
  have e5 : Cmp.gt.of ((l.length : Nat) : Int) 1 = decide (1 < l.length) := dec_lt 1 _
  have e6 : Cmp.eq.of (((l.getD 0 0).toNat : Nat) : Int) 48 = (l.getD 0 0 == 48) := by
    have := beq_n (l.getD 0 0).toNat 48
    show (((l.getD 0 0).toNat : Int) == ((48 : Nat) : Int)) = _
    rw [this]
    by_cases h : (l.getD 0 0).toNat = 48
    · rw [decide_eq_true h, show l.getD 0 0 = 48 from (u8_eq (by decide)).2 h]; rfl
    · rw [decide_eq_false h, beq_eq_false_iff_ne.2 (fun e => h (by rw [e]; rfl))]
  rw [e1, e2, e3, e4, e5, e6]
theorem bodyD {Φ : Nat → Spec} {Q : List Dat → Prop} {l : List UInt8} (hl : l.length ≤ 300) (hQ : Q (parD l ++ [.int .i64 (parE l)])) : ∀ xs m, RelD l xs m → wp E0.Δ Φ Q tr_rParse04_6 ([strV l] ++ xs) ([] ++ [(RelD l, m)]) := by
  rintro xs m ⟨i, hi, rfl, rfl⟩
  have hf := fig_len l
  have hd := dig_at hi
  have hs := sat_le ((figL l).take i) 0 (by omega)
  have o1 : ∀ a b : Bool, Dat.bool (!a || (!b || Cmp.ge.of (i : Int) 0)) = .bool true := fun a b => by
    have : Cmp.ge.of (i : Int) 0 = true := decide_eq_true (show (0 : Int) ≤ i by omega)
    rw [this]; cases a <;> cases b <;> rfl
  have o2 : ∀ a b : Bool, Dat.bool (!a || (!b || a)) = .bool true := fun a b => by cases a <;> cases b <;> rfl
  refine ⟨ob_a i _, ob_b _ _, o1 _ _, o2 _ _, fun hb => ⟨?_, ?_⟩, fun hb => ?_⟩
  · show Dat.bool (decide ((0 : Int) ≤ i)) = .bool true
    rw [decide_eq_true (by omega)]
  · have hlt := hd.1 (Dat.bool.inj hb)
    show ∃ m', m' < (figL l).length - i ∧ RelD l _ m'
    refine ⟨(figL l).length - (i + 1), by omega, i + 1, by omega, rfl, ?_⟩
    have hg := fig_get hlt
    have hc := fig_dig l (l.getD i 0) (List.mem_of_getElem? hg)
    have e0 : satD ((figL l).take (i + 1)) 0 = min (satD ((figL l).take i) 0 * 10 + ((l.getD i 0).toNat - 48)) 2000 := by
      rw [List.take_add_one, hg]
      exact sat_snoc _ _ _
    have e1 : IntKind.i64.wrap (((i : Nat) : Int) + 1) = ((i + 1 : Nat) : Int) := by rw [wrap64 (by omega) (by omega)]; omega
    have hcv : IntKind.i64.wrap (IntKind.u8.wrap (((l.getD i 0).toNat : Int) - 48)) = (((l.getD i 0).toNat - 48 : Nat) : Int) := by
      have : IntKind.u8.wrap (((l.getD i 0).toNat : Int) - 48) = (((l.getD i 0).toNat - 48 : Nat) : Int) := by rw [IntKind.wrap_u8]; omega
      rw [this, wrap64 (by omega) (by omega)]
    have e2 : IntKind.i64.wrap (IntKind.i64.wrap (((satD ((figL l).take i) 0 : Nat) : Int) * 10) + IntKind.i64.wrap (IntKind.u8.wrap ((((strD (strV l)).data.getD ((i : Nat) : Int).toNat 0).toNat : Int) - 48))) = ((satD ((figL l).take i) 0 * 10 + ((l.getD i 0).toNat - 48) : Nat) : Int) := by
      rw [Int.toNat_natCast, strD_getD, hcv, wrap64 (x := _ * 10) (by omega) (by omega), wrap64 (by omega) (by omega)]; omega
    show [Dat.int .i64 (IntKind.i64.wrap (((i : Nat) : Int) + 1)), (if decide ((2000 : Int) < IntKind.i64.wrap (IntKind.i64.wrap (((satD ((figL l).take i) 0 : Nat) : Int) * 10) + IntKind.i64.wrap (IntKind.u8.wrap ((((strD (strV l)).data.getD ((i : Nat) : Int).toNat 0).toNat : Int) - 48)))) = true then Dat.int .i64 2000 else Dat.int .i64 (IntKind.i64.wrap (IntKind.i64.wrap (((satD ((figL l).take i) 0 : Nat) : Int) * 10) + IntKind.i64.wrap (IntKind.u8.wrap ((((strD (strV l)).data.getD ((i : Nat) : Int).toNat 0).toNat : Int) - 48)))))] = _
    rw [e1, e2, e0]
    congr 2
    split
    · rename_i hx
      have := of_decide_eq_true hx
      congr 1; omega
    · rename_i hx
      have hx : ¬ _ := fun h => hx (decide_eq_true h)
      congr 1; omega
  · have hge : ¬ i < (figL l).length := fun hx => by
      have h1 := hd.2 hx
      have h2 : digB l i = false := Dat.bool.inj hb
      rw [h1] at h2; cases h2
    obtain rfl : i = (figL l).length := by omega
    rw [List.take_length] at hs ⊢
    refine ⟨?_, ?_, fun hc => ?_, fun hc => ?_⟩
    · show Dat.bool (!(decide ((1 : Int) < ((figL l).length : Nat))) || decide ((0 : Int) < ((strD (strV l)).size : Int))) = .bool true
      rw [size_V]
      by_cases h1 : (1 : Int) < ((figL l).length : Nat)
      · rw [decide_eq_true (show (0 : Int) < (l.length : Int) by omega), Bool.or_true]
      · rw [decide_eq_false h1]; rfl
    · show Dat.bool (decide ((1 : Int) < ((figL l).length : Nat)) || (decide ((1000 : Int) < (satD (figL l) 0 : Nat)) || (!((((figL l).length : Nat) : Int) == 1) || decide ((0 : Int) < ((strD (strV l)).size : Int))))) = .bool true
      rw [size_V]
      by_cases h1 : (((figL l).length : Nat) : Int) = 1
      · rw [decide_eq_true (show (0 : Int) < (l.length : Int) by omega), Bool.or_true, Bool.or_true, Bool.or_true]
      · rw [beq_eq_false_iff_ne.2 h1]; simp
    · have hc := badB_t (bad_in hc)
      rw [(par_bad hc).1, (par_bad hc).2] at hQ
      exact hQ
    · have hA := badB_f (bad_in hc)
      refine ⟨RelW l, ⟨_, 0, Nat.zero_le _, rfl, ?_⟩, allS_of _ fun xs m hI => ?_⟩
      · rfl
      · exact bodyW hl hA hQ _ _ _ xs m hI
def rParse04_s : Spec := fun ds Q => ∃ l : List UInt8, ds.getD 0 (.bool false) = strV l ∧ l.length ≤ 300 ∧ Q (parD l ++ [.int .i64 (parE l)])
theorem rParse04_h : Holds E0 k_rParse04 sg_rParse04 rParse04_s := con_fn wf0 mix0 g0 [] rfl wk_rParse04 rfl (by
  intro Φ hΦ ds Q hs ⟨l, hd, hl, h⟩
  have hl1 : ds.length = 1 := hs.length.symm
  clear hΦ hs
  match ds, hl1 with
  | [d0], _ =>
  obtain rfl : d0 = strV l := hd
  exact ⟨RelD l, ⟨_, 0, Nat.zero_le _, rfl, rfl⟩, allS_of _ fun xs m hI => bodyD hl h xs m hI⟩)
noncomputable def con_rParse04 : Con E0 := ⟨k_rParse04, sg_rParse04, rParse04_s, rfl, bo_rParse04, rParse04_h⟩
theorem str_one {ds : List Dat} (h : All2 (Has E0.Δ) [.str] ds) : ∃ l, ds = [strV l] := by
  cases h with
  | cons h t =>
    cases t with
    | nil =>
      cases h with
      | str s => exact ⟨s.data.toList, by show _ = [Dat.val (.string ⟨s.data.toList.toArray⟩)]; rw [Array.toArray_toList]⟩
theorem par_cost (l : List UInt8) : ∃ a0 a1 a2 a3 a4 a5 : Int, parD l = costD a0 a1 a2 a3 a4 a5 := by
  by_cases h : refOk l
  · exact ⟨_, _, _, _, _, _, (par_ok h).1⟩
  · exact ⟨_, _, _, _, _, _, (par_bad h).1⟩
def k_lparses04 : Nat := 5
def sg_lparses04 : Sig := ⟨[(false, [.str])], [(false, [.bool])], false, false, true, false, false⟩
def tr_lparses04 : Tree := (.call k_alive04 [] [.bool]
(.ite (.not (.var 1))
 (.ret [(.bool false)])
 (.ite (.cmp .gt (.slen (.var 0)) (.int .i64 300))
  (.ret [(.bool true)])
  (.call k_mParse [(.var 0)] [(.int .i64), (.int .i64), (.int .i64), (.int .i64), (.int .i64), (.int .i64), .err]
  (.call k_rParse04 [(.var 0)] [(.int .i64), (.int .i64), (.int .i64), (.int .i64), (.int .i64), (.int .i64), (.int .i64)]
  (.ret [(.and (.and (.cmp .eq (.var 2) (.var 9)) (.and (.cmp .eq (.var 3) (.var 10)) (.and (.cmp .eq (.var 4) (.var 11)) (.and (.cmp .eq (.var 5) (.var 12)) (.and (.cmp .eq (.var 6) (.var 13)) (.cmp .eq (.var 7) (.var 14))))))) (.cmp .eq (.ite (.isnil (.var 8)) (.int .i64 0) (.ite (.cmp .ne (.errI (.var 8)) (.int .i64 0)) (.errI (.var 8)) (.int .i64 (-1)))) (.var 15)))]))))))
theorem wk_lparses04 : walk E0.cx (sgsN [(7, sg_alive04), (17, sg_mParse), (18, sg_rParse04), (10, sg_Num)]) 0 5 sg_lparses04 = tr_lparses04 := by kernel_rfl
theorem bo_lparses04 : ∃ x, bodyOf E0.P 5 = some x := bo_of (by kernel_rfl)
theorem sp_lparses04_alive04 : specC [con_alive04, con_mParse, con_rParse04, con_Num] k_alive04 = alive04_s := rfl
theorem sp_lparses04_mParse : specC [con_alive04, con_mParse, con_rParse04, con_Num] k_mParse = mParse_s := rfl
theorem sp_lparses04_rParse04 : specC [con_alive04, con_mParse, con_rParse04, con_Num] k_rParse04 = rParse04_s := rfl
theorem sp_lparses04_Num : specC [con_alive04, con_mParse, con_rParse04, con_Num] k_Num = Num_s := rfl
def lparses04_s : Spec := law_s
theorem lparses04_h : Holds E0 k_lparses04 sg_lparses04 lparses04_s := con_fn wf0 mix0 g0 [con_alive04, con_mParse, con_rParse04, con_Num] rfl wk_lparses04 rfl (by
  intro Φ hΦ ds Q hs ⟨hin, h⟩
  have hl1 : ds.length = 1 := hs.length.symm
  have s1 : Φ k_alive04 = alive04_s := by rw [hΦ]; rfl
  have s2 : Φ k_mParse = mParse_s := by rw [hΦ]; rfl
  have s3 : Φ k_rParse04 = rParse04_s := by rw [hΦ]; rfl
  have s4 : Φ k_Num = Num_s := by rw [hΦ]; rfl
  clear hΦ hin
  obtain ⟨l, rfl⟩ := str_one hs
  show Φ k_alive04 [] _
  rw [s1]
  refine ⟨fun hx => Bool.noConfusion (Dat.bool.inj hx), fun _ => ⟨fun _ => h, fun hx => ?_⟩⟩
  have hx : decide ((300 : Int) < ((strD (strV l)).size : Int)) = false := Dat.bool.inj hx
  rw [size_V] at hx
  have hx := of_decide_eq_false hx
  show Φ k_mParse [strV l] _
  rw [s2]
  refine ⟨l, rfl, by omega, ?_⟩
  obtain ⟨a0, a1, a2, a3, a4, a5, hp⟩ := par_cost l
  show Φ k_rParse04 [strV l] _
  rw [s3]
  refine ⟨l, rfl, by omega, ?_⟩
  rw [hp]
  generalize parE l = n
  have hnum := num_of n (ρ := [strV l] ++ [Dat.bool true] ++ (costD a0 a1 a2 a3 a4 a5 ++ [errV n]) ++ (costD a0 a1 a2 a3 a4 a5 ++ [.int .i64 n])) (t := .var 8) rfl
  show Q [Dat.bool (((a0 == a0) && ((a1 == a1) && ((a2 == a2) && ((a3 == a3) && ((a4 == a4) && (a5 == a5)))))) && ((den E0.Δ ([strV l] ++ [Dat.bool true] ++ (costD a0 a1 a2 a3 a4 a5 ++ [errV n]) ++ (costD a0 a1 a2 a3 a4 a5 ++ [.int .i64 n])) (.ite (.isnil (.var 8)) (.int .i64 0) (.ite (.cmp .ne (.errI (.var 8)) (.int .i64 0)) (.errI (.var 8)) (.int .i64 (-1))))).toInt == n))]
  rw [hnum]
  simp only [beq_self_eq_true, Bool.and_self, toInt_int]
  exact h)
noncomputable def con_lparses04 : Con E0 := ⟨k_lparses04, sg_lparses04, lparses04_s, rfl, bo_lparses04, lparses04_h⟩
end Go.Proofs.YtfpgbdefopbfbaaDoor
end
