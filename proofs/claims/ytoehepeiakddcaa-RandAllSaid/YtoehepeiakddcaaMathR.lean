/-
  Plain facts on draws: remainders, orders made by exchanges.
-/
namespace Go.Proofs.Ytoehepeiakddcaa.mth

theorem tmod_bd (d n : Int) (hn : 1 ≤ n) : -n < d.tmod n ∧ d.tmod n < n := by
  have h1 := Int.tmod_lt_of_pos d (show 0 < n by omega)
  have h2 := Int.tmod_lt_of_pos (-d) (show 0 < n by omega)
  rw [Int.neg_tmod] at h2
  omega
theorem tmod_neg {d n : Int} (hn : 1 ≤ n) (h : d.tmod n < 0) : d.tmod n + n = d % n := by
  have hb := tmod_bd d n hn
  have e := Int.mul_tdiv_add_tmod d n
  have : d % n = (d.tmod n + n) % n := by
    rw [Int.add_emod_right]
    conv => lhs; rw [← e]
    rw [Int.add_comm, Int.add_mul_emod_self_left]
  rw [this, Int.emod_eq_of_lt (by omega) (by omega)]
theorem tmod_pos {d n : Int} (hn : 1 ≤ n) (h : ¬ d.tmod n < 0) : d.tmod n = d % n := by
  have hb := tmod_bd d n hn
  have e := Int.mul_tdiv_add_tmod d n
  have : d % n = (d.tmod n) % n := by
    conv => lhs; rw [← e]
    rw [Int.add_comm, Int.add_mul_emod_self_left]
  rw [this, Int.emod_eq_of_lt (by omega) (by omega)]
theorem tmod_all {d n : Int} (hn : 1 ≤ n) : (d.tmod n + n).tmod n = d % n := by
  have hb := tmod_bd d n hn
  rw [Int.tmod_eq_emod_of_nonneg (by omega)]
  by_cases h : d.tmod n < 0
  · rw [tmod_neg hn h, Int.emod_emod]
  · rw [tmod_pos hn h]; simp
theorem tmod_mod {d n : Int} (hn : 1 ≤ n) : d.tmod n % n = d % n := by
  by_cases h : d.tmod n < 0
  · have := tmod_neg hn h
    rw [← Int.add_emod_right, this, Int.emod_emod]
  · rw [tmod_pos hn h, Int.emod_emod]
theorem tmod_hit {d n k : Int} (hn : 1 ≤ n) (hk : 0 ≤ k) (hkn : k < n) (h : (d.tmod n + n - k).tmod n = 0) : d % n = k := by
  have hb := tmod_bd d n hn
  have hd : n ∣ d.tmod n + n - k := Int.dvd_of_tmod_eq_zero h
  obtain ⟨q, hq⟩ := hd
  by_cases h0 : d.tmod n < 0
  · have e := tmod_neg hn h0
    have h1 := Int.emod_nonneg d (show n ≠ 0 by omega)
    have h2 := Int.emod_lt_of_pos d (show 0 < n by omega)
    rw [e] at hq
    have : q = 0 := by
      have a1 : n * q < n * 1 := by omega
      have a2 : n * (-1) < n * q := by omega
      have := Int.lt_of_mul_lt_mul_left a1 (by omega)
      have := Int.lt_of_mul_lt_mul_left a2 (by omega)
      omega
    subst this
    omega
  · have e := tmod_pos hn h0
    have h1 := Int.emod_nonneg d (show n ≠ 0 by omega)
    have h2 := Int.emod_lt_of_pos d (show 0 < n by omega)
    rw [e] at hq
    have : q = 1 := by
      have a1 : n * q < n * 2 := by omega
      have a2 : n * 0 < n * q := by omega
      have := Int.lt_of_mul_lt_mul_left a1 (by omega)
      have := Int.lt_of_mul_lt_mul_left a2 (by omega)
      omega
    subst this
    omega

theorem getD_get {l : List Int} {k : Nat} (h : k < l.length) : l.getD k 0 = l[k] := by simp [List.getD_eq_getElem?_getD, h]
/-- two places exchanged -/
def swp (l : List Int) (i k : Nat) : List Int := (l.set i (l.getD k 0)).set k (l.getD i 0)
theorem swp_len (l : List Int) (i k : Nat) : (swp l i k).length = l.length := by simp [swp]
/-- the order: i rounds are left, the cursor is at c -/
def shuf (d : List Int) : Nat → Nat → List Int → List Int
  | 0, _, out => out
  | i + 1, c, out => shuf d i (c + 1) (swp out (i + 1) ((d.getD c 0) % ((i : Int) + 2)).toNat)
def iota (n : Nat) : List Int := (List.range n).map fun i : Nat => (i : Int)
theorem iota_len (n : Nat) : (iota n).length = n := by simp [iota]
theorem shuf_len (d : List Int) : ∀ (i c : Nat) (out : List Int), (shuf d i c out).length = out.length
  | 0, _, _ => rfl
  | i + 1, c, out => by rw [shuf, shuf_len d i, swp_len]
theorem iota_snoc (n : Nat) : iota (n + 1) = iota n ++ [(n : Int)] := by simp [iota, List.range_succ]
theorem iota_get {n i : Nat} (h : i < n) : (iota n)[i]'(by rw [iota_len]; exact h) = (i : Int) := by simp [iota]

theorem fill_set (j q : Nat) (h : j < q) : (iota j ++ List.replicate (q - j) 0).set j (j : Int) = iota (j + 1) ++ List.replicate (q - (j + 1)) 0 := by
  rw [List.set_append_right _ _ (by rw [iota_len]; exact Nat.le_refl _), iota_len, Nat.sub_self, iota_snoc, List.append_assoc]
  congr 1
  rw [show q - j = (q - (j + 1)) + 1 by omega, List.replicate_succ]
  rfl
theorem fill_len (j q : Nat) (h : j ≤ q) : (iota j ++ List.replicate (q - j) (0 : Int)).length = q := by simp [iota_len]; omega
theorem swp_mem {l : List Int} {i k : Nat} (hi : i < l.length) (hk : k < l.length) {x : Int} : x ∈ swp l i k → x ∈ l := by
  intro h
  unfold swp at h
  rcases List.mem_or_eq_of_mem_set h with h | h
  · rcases List.mem_or_eq_of_mem_set h with h | h
    · exact h
    · rw [h, getD_get hk]; exact List.getElem_mem _
  · rw [h, getD_get hi]; exact List.getElem_mem _
theorem swp_get {l : List Int} {i k j : Nat} (hi : i < l.length) (hk : k < l.length) (hj : j < l.length) :
    (swp l i k)[j]'(by rw [swp_len]; exact hj) = if j = k then l[i] else if j = i then l[k] else l[j] := by
  simp only [swp, List.getElem_set, getD_get hi, getD_get hk]
  by_cases h1 : k = j
  · subst h1; simp
  · have h1' : ¬ j = k := fun e => h1 e.symm
    rw [if_neg h1, if_neg h1']
    by_cases h2 : i = j
    · subst h2; simp
    · have h2' : ¬ j = i := fun e => h2 e.symm
      rw [if_neg h2, if_neg h2']
/-- each place has one -/
def Inj (l : List Int) : Prop := ∀ i j, (hi : i < l.length) → (hj : j < l.length) → l[i] = l[j] → i = j
theorem inj_swp {l : List Int} {i k : Nat} (hi : i < l.length) (hk : k < l.length) (h : Inj l) : Inj (swp l i k) := by
  intro a b ha hb e
  rw [swp_len] at ha hb
  rw [swp_get hi hk ha, swp_get hi hk hb] at e
  have key : ∀ x y, (hx : x < l.length) → (hy : y < l.length) → l[x] = l[y] → x = y := fun x y hx hy e => h x y hx hy e
  by_cases a1 : a = k <;> by_cases b1 : b = k <;> by_cases a2 : a = i <;> by_cases b2 : b = i <;> simp only [a1, b1, a2, b2, if_true, if_false] at e <;> first | omega | (have := key _ _ (by omega) (by omega) e; omega) | (split at e <;> first | omega | (have := key _ _ (by omega) (by omega) e; omega))
theorem inj_iota (n : Nat) : Inj (iota n) := by
  intro i j hi hj e
  rw [iota_len] at hi hj
  rw [iota_get hi, iota_get hj] at e
  omega
theorem shuf_keeps (d : List Int) : ∀ (i c : Nat) (out : List Int), i < out.length ∨ i = 0 → Inj out → Inj (shuf d i c out) ∧ ∀ x ∈ shuf d i c out, x ∈ out
  | 0, _, out, _, h => ⟨h, fun _ hx => hx⟩
  | i + 1, c, out, hl, h => by
    have hl' : i + 1 < out.length := by omega
    have hk : ((d.getD c 0) % ((i : Int) + 2)).toNat < out.length := by
      have h1 := Int.emod_nonneg (d.getD c 0) (show ((i : Int) + 2) ≠ 0 by omega)
      have h2 := Int.emod_lt_of_pos (d.getD c 0) (show 0 < ((i : Int) + 2) by omega)
      omega
    have ih := shuf_keeps d i (c + 1) (swp out (i + 1) ((d.getD c 0) % ((i : Int) + 2)).toNat) (.inl (by rw [swp_len]; omega)) (inj_swp hl' hk h)
    exact ⟨ih.1, fun x hx => swp_mem hl' hk (ih.2 x hx)⟩

/-- why an order is refused -/
def ordErr (len : Nat) (c n : Int) : Int := if (4096 : Int) < len then 19 else if n < 0 ∨ 400 < n ∨ c < 0 then 1 else if max ((len : Int) - c) 0 < max n 1 - 1 then 13 else 0
def ordL (d : List Int) (c n : Int) : List Int := if ordErr d.length c n = 0 then shuf d (n.toNat - 1) c.toNat (iota n.toNat) else []
def ordC (d : List Int) (c n : Int) : Int := if ordErr d.length c n = 0 then c + (max n 1 - 1) else 0

theorem ord_cases (d : List Int) (c n : Int) :
    ((4096 : Int) < d.length ∧ ordErr d.length c n = 19 ∧ ordL d c n = [] ∧ ordC d c n = 0) ∨
    (¬ (4096 : Int) < d.length ∧ (n < 0 ∨ 400 < n ∨ c < 0) ∧ ordErr d.length c n = 1 ∧ ordL d c n = [] ∧ ordC d c n = 0) ∨
    (¬ (4096 : Int) < d.length ∧ ¬ (n < 0 ∨ 400 < n ∨ c < 0) ∧ max ((d.length : Int) - c) 0 < max n 1 - 1 ∧ ordErr d.length c n = 13 ∧ ordL d c n = [] ∧ ordC d c n = 0) ∨
    (¬ (4096 : Int) < d.length ∧ ¬ (n < 0 ∨ 400 < n ∨ c < 0) ∧ ¬ max ((d.length : Int) - c) 0 < max n 1 - 1 ∧ ordErr d.length c n = 0 ∧ ordL d c n = shuf d (n.toNat - 1) c.toNat (iota n.toNat) ∧ ordC d c n = c + (max n 1 - 1)) := by
  unfold ordL ordC ordErr
  by_cases h1 : (4096 : Int) < d.length
  · simp only [h1, if_true]; simp
  by_cases h2 : n < 0 ∨ 400 < n ∨ c < 0
  · simp only [h1, h2, if_true, if_false]; simp
  by_cases h3 : max ((d.length : Int) - c) 0 < max n 1 - 1
  · simp only [h1, h2, h3, if_true, if_false]; simp
  · simp only [h1, h2, h3, if_true, if_false]; simp
theorem ord_bad (d : List Int) (c n : Int) (h : n < 0 ∨ 400 < n ∨ c < 0 ∨ (4096 : Int) < d.length ∨ (0 ≤ c ∧ max ((d.length : Int) - c) 0 < max n 1 - 1)) :
    ordErr d.length c n ≠ 0 ∧ ordL d c n = [] ∧ ordC d c n = 0 := by
  rcases ord_cases d c n with ⟨_, h1, h2, h3⟩ | ⟨_, _, h1, h2, h3⟩ | ⟨_, _, _, h1, h2, h3⟩ | ⟨h1, h2, h3, _⟩
  · exact ⟨by omega, h2, h3⟩
  · exact ⟨by omega, h2, h3⟩
  · exact ⟨by omega, h2, h3⟩
  · exfalso; omega
theorem ord_good (d : List Int) (c n : Int) (h : ¬ (n < 0 ∨ 400 < n ∨ c < 0 ∨ (4096 : Int) < d.length ∨ (0 ≤ c ∧ max ((d.length : Int) - c) 0 < max n 1 - 1))) :
    ordErr d.length c n = 0 ∧ ordC d c n = c + (max n 1 - 1) ∧ (ordL d c n).length = n.toNat ∧ Inj (ordL d c n) ∧ ∀ x ∈ ordL d c n, 0 ≤ x ∧ x < n := by
  rcases ord_cases d c n with ⟨_, h1, h2, h3⟩ | ⟨_, _, h1, h2, h3⟩ | ⟨_, _, _, h1, h2, h3⟩ | ⟨h1, h2, h3, e1, e2, e3⟩
  · exfalso; omega
  · exfalso; omega
  · exfalso; omega
  · have hk := shuf_keeps d (n.toNat - 1) c.toNat (iota n.toNat) (by rw [iota_len]; omega) (inj_iota _)
    refine ⟨e1, e3, by rw [e2, shuf_len, iota_len], by rw [e2]; exact hk.1, fun x hx => ?_⟩
    rw [e2] at hx
    have := hk.2 x hx
    simp [iota] at this
    omega
/-- a pick: the error, the number, the cursor -/
def pkE (len : Nat) (c n : Int) : Int := if (4096 : Int) < len then 19 else if n < 1 ∨ c < 0 then 1 else if (len : Int) ≤ c then 13 else 0
def pkX (d : List Int) (c n : Int) : Int := if pkE d.length c n = 0 then d.getD c.toNat 0 % n else 0
def pkC (d : List Int) (c n : Int) : Int := if pkE d.length c n = 0 then c + 1 else 0
theorem pk_cases (d : List Int) (c n : Int) :
    ((4096 : Int) < d.length ∧ pkE d.length c n = 19 ∧ pkX d c n = 0 ∧ pkC d c n = 0) ∨
    (¬ (4096 : Int) < d.length ∧ (n < 1 ∨ c < 0) ∧ pkE d.length c n = 1 ∧ pkX d c n = 0 ∧ pkC d c n = 0) ∨
    (¬ (4096 : Int) < d.length ∧ ¬ (n < 1 ∨ c < 0) ∧ (d.length : Int) ≤ c ∧ pkE d.length c n = 13 ∧ pkX d c n = 0 ∧ pkC d c n = 0) ∨
    (¬ (4096 : Int) < d.length ∧ ¬ (n < 1 ∨ c < 0) ∧ ¬ (d.length : Int) ≤ c ∧ pkE d.length c n = 0 ∧ pkX d c n = d.getD c.toNat 0 % n ∧ pkC d c n = c + 1) := by
  unfold pkX pkC pkE
  by_cases h1 : (4096 : Int) < d.length
  · simp [h1]
  by_cases h2 : n < 1 ∨ c < 0
  · simp [h1, h2]
  by_cases h3 : (d.length : Int) ≤ c
  · simp [h1, h2, h3]
  · simp [h1, h2, h3]
end Go.Proofs.Ytoehepeiakddcaa.mth
