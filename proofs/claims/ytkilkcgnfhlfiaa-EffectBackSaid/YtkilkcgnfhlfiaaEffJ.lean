/-
  Bytes of effects: which effect any bytes begin with, and that an effect's bytes tell it.
-/
import Derived.Test.YtkilkcgnfhlfiaaEffI
import Derived.Test.YtkilkcgnfhlfiaaEffH
import Derived.Test.YtkilkcgnfhlfiaaWirS
namespace Go.Proofs.Ytkilkcgnfhlfiaa
open Go.RowKit
set_option linter.unusedVariables false
set_option linter.unusedSimpArgs false

mutual
theorem Eff.enc_ge : ∀ e : Eff, 5 * e.size ≤ e.enc.length
  | .mk o n m w l => by
    have h := Eff.encs_ge l
    have h1 := (mth.enc_len (mth.zig o)).1
    have h2 := (mth.enc_len (mth.zig n)).1
    have h3 := (mth.enc_len (mth.zig m)).1
    have h4 := (mth.enc_len (mth.zig w)).1
    have h5 := (mth.enc_len (mth.zig (l.length : Int))).1
    simp only [Eff.enc, Eff.size, List.length_append, mth.encI]
    omega
theorem Eff.encs_ge : ∀ l : List Eff, 5 * Eff.sizes l ≤ (Eff.encs l).length
  | [] => by simp [Eff.sizes]
  | e :: l => by
    have h := Eff.encs_ge l
    have h1 := Eff.enc_ge e
    simp only [Eff.encs, Eff.sizes, List.length_append]
    omega
end
/-- what an answer says of the bytes -/
def CanE (b : List Nat) (r : Eff × Nat × Int) : Prop := (r.2.2 = 0 → b = r.1.enc ++ b.drop r.2.1 ∧ r.2.1 = r.1.enc.length ∧ r.1.ok) ∧ (r.2.2 ≠ 0 → r = (nilE, 0, r.2.2))
def CanEs (b : List Nat) (m : Nat) (r : List Eff × Nat × Int) : Prop := r.2.2 = 0 → b = Eff.encs r.1 ++ b.drop r.2.1 ∧ r.2.1 = (Eff.encs r.1).length ∧ Eff.oks r.1 ∧ r.1.length = m
theorem tk_split {b : List Nat} (hb : ∀ c ∈ b, c < 256) {v : Int} {k : Nat} (h : mth.tk 0 0 b = (v, k, 0)) : b = mth.encI v ++ b.drop k ∧ k = (mth.encI v).length ∧ in64 v := by
  obtain ⟨h1, h2, h3, h4, h5⟩ := mth.tk_canon b v k hb h
  refine ⟨?_, ?_, h4, h5⟩
  · rw [← h1]; exact (List.take_append_drop k b).symm
  · rw [← h1, List.length_take]; omega
theorem tkEs_can (g : List Nat → Eff × Nat × Int) (hg : ∀ b, (∀ c ∈ b, c < 256) → CanE b (g b)) : ∀ (m : Nat) (b : List Nat), (∀ c ∈ b, c < 256) → CanEs b m (tkEs g m b)
  | 0, b, _ => fun _ => ⟨by simp [tkEs, Eff.encs], by simp [tkEs, Eff.encs], by simp [tkEs, Eff.oks], rfl⟩
  | m + 1, b, hb => by
    intro h
    by_cases h1 : (g b).2.2 = 0
    · by_cases h2 : (tkEs g m (b.drop (g b).2.1)).2.2 = 0
      · obtain ⟨a1, a2, a3⟩ := (hg b hb).1 h1
        obtain ⟨b1, b2, b3, b4⟩ := tkEs_can g hg m (b.drop (g b).2.1) (drop_bytes hb _) h2
        simp only [tkEs, if_pos h1, if_pos h2, Eff.encs, Eff.oks, List.length_cons, List.length_append]
        refine ⟨?_, by omega, ⟨a3, b3⟩, by omega⟩
        rw [List.append_assoc, ← List.drop_drop, ← b1]
        exact a1
      · rw [tkEs, if_pos h1, if_neg h2] at h; exact absurd h h2
    · rw [tkEs, if_neg h1] at h; exact absurd h h1
theorem canE_bad {b : List Nat} {e : Int} (h : e ≠ 0) : CanE b (nilE, 0, e) := ⟨fun he => absurd he h, fun _ => rfl⟩
theorem tkE_can : ∀ (f : Nat) (b : List Nat), (∀ c ∈ b, c < 256) → CanE b (tkE f b)
  | 0, b, _ => canE_bad (by decide)
  | f + 1, b, hb => by
    have key : ∀ (k : Nat) (F : Int → Nat → Eff × Nat × Int), (∀ v k', b.drop k = mth.encI v ++ b.drop (k + k') → k' = (mth.encI v).length → in64 v → CanE b (F v k')) → CanE b (nx (b.drop k) F) := fun k F hF => by
      unfold nx
      split
      · rename_i he
        obtain ⟨h1, h2, h3⟩ := tk_split (drop_bytes hb k) (v := (mth.tk 0 0 (b.drop k)).1) (k := (mth.tk 0 0 (b.drop k)).2.1) (by rw [← he])
        rw [List.drop_drop] at h1
        exact hF _ _ h1 h2 h3
      · rename_i he; exact canE_bad he
    rw [tkE]
    refine key 0 _ fun o k1 b1 l1 i1 => ?_
    rw [Nat.zero_add, List.drop_zero] at b1
    refine key k1 _ fun n k2 b2 l2 i2 => key (k1 + k2) _ fun m k3 b3 l3 i3 => key (k1 + k2 + k3) _ fun w k4 b4 l4 i4 => key (k1 + k2 + k3 + k4) _ fun c k5 b5 l5 i5 => ?_
    by_cases c0 : c < 0
    · rw [if_pos c0]; exact canE_bad (by decide)
    by_cases c8 : 8 < c
    · rw [if_neg c0, if_pos c8]; exact canE_bad (by decide)
    rw [if_neg c0, if_neg c8]
    by_cases he : (tkEs (tkE f) c.toNat (b.drop (k1 + k2 + k3 + k4 + k5))).2.2 = 0
    · rw [if_pos he]
      obtain ⟨s1, s2, s3, s4⟩ := tkEs_can (tkE f) (fun b hb => tkE_can f b hb) c.toNat _ (drop_bytes hb _) he
      refine ⟨fun _ => ⟨?_, ?_, i1, i2, i3, i4, s3⟩, fun hx => absurd rfl hx⟩
      · simp only [Eff.enc]
        have e5 : ((tkEs (tkE f) c.toNat (b.drop (k1 + k2 + k3 + k4 + k5))).1.length : Int) = c := by omega
        rw [List.drop_drop] at s1
        rw [e5, List.append_assoc, ← s1, List.append_assoc, ← b5, List.append_assoc, ← b4, List.append_assoc, ← b3, List.append_assoc, ← b2]
        exact b1
      · have e5 : ((tkEs (tkE f) c.toNat (b.drop (k1 + k2 + k3 + k4 + k5))).1.length : Int) = c := by omega
        simp only [Eff.enc, List.length_append]
        rw [e5]
        omega
    · rw [if_neg he]; exact canE_bad he
mutual
/-- what is right is not too deep, and its bytes tell it -/
theorem Eff.back : ∀ (e : Eff) (t d : Int) (f : Nat) (rest : List Nat), e.ok → (f : Int) + d = 9 → e.chk t d = 0 → tkE f (e.enc ++ rest) = (e, e.enc.length, 0) ∧ (e.depth : Int) + d ≤ 9 ∧ e.subs.length ≤ 8
  | .mk o n m w l, t, d, f, rest, hk, hf, hc => by
    obtain ⟨k1, k2, k3, k4, k5⟩ := hk
    rw [Eff.chk] at hc
    by_cases hh : headE o n m w t d l.length (headOp l) = 0
    case neg => rw [if_pos hh] at hc; exact absurd hc hh
    rw [if_neg (by simpa using hh)] at hc
    have hd : ¬ 8 < d ∧ formP o l.length (headOp l) ∧ ¬ (o < 0 ∨ 26 ≤ o) := by
      unfold headE at hh
      split at hh
      · cases hh
      split at hh
      · cases hh
      split at hh
      · cases hh
      split at hh
      · cases hh
      split at hh
      · cases hh
      rename_i a b _ _ c
      exact ⟨b, Decidable.of_not_not c, a⟩
    obtain ⟨d8, hform, ho⟩ := hd
    have hl : l.length ≤ 8 := by
      obtain ⟨p1, p2, p3, p4⟩ := hform
      by_cases a : o = 20
      · have := (p1 a).1; omega
      by_cases b : o = 21
      · exact (p2 b).2
      by_cases c : o = 22
      · have := (p3 c).2; omega
      · have := p4 (by omega); omega
    obtain ⟨f', rfl⟩ : ∃ f', f = f' + 1 := ⟨f - 1, by omega⟩
    have hsub : ∀ rest, tkEs (tkE f') l.length (Eff.encs l ++ rest) = (l, (Eff.encs l).length, 0) ∧ (Eff.depths l : Int) + (d + 1) ≤ 9 := by
      intro rest
      split at hc
      · exact Eff.backA l (d + 1) f' rest k5 (by omega) hc
      · exact Eff.backs l t (d + 1) f' rest k5 (by omega) hc
    refine ⟨?_, by have := (hsub []).2; simp only [Eff.depth]; omega, hl⟩
    have step : ∀ (v : Int) (k : Nat) (tl : List Nat) (F : Int → Nat → Eff × Nat × Int) (b : List Nat), in64 v → b.drop k = mth.encI v ++ tl → nx (b.drop k) F = F v (mth.encI v).length := fun v k tl F b hv hb => by
      rw [hb, nx, mth.tk_enc v tl hv.1 hv.2]; rfl
    have i5 : in64 (l.length : Int) := ⟨by omega, by omega⟩
    rw [tkE, Eff.enc]
    generalize hB : mth.encI o ++ mth.encI n ++ mth.encI m ++ mth.encI w ++ mth.encI (l.length : Int) ++ Eff.encs l ++ rest = B
    have b0 : B.drop 0 = mth.encI o ++ (mth.encI n ++ (mth.encI m ++ (mth.encI w ++ (mth.encI (l.length : Int) ++ (Eff.encs l ++ rest))))) := by rw [← hB]; simp
    have b1 : B.drop (mth.encI o).length = mth.encI n ++ (mth.encI m ++ (mth.encI w ++ (mth.encI (l.length : Int) ++ (Eff.encs l ++ rest)))) := by
      rw [List.drop_zero] at b0; rw [b0, List.drop_left]
    have b2 : B.drop ((mth.encI o).length + (mth.encI n).length) = mth.encI m ++ (mth.encI w ++ (mth.encI (l.length : Int) ++ (Eff.encs l ++ rest))) := by
      rw [← List.drop_drop, b1, List.drop_left]
    have b3 : B.drop ((mth.encI o).length + (mth.encI n).length + (mth.encI m).length) = mth.encI w ++ (mth.encI (l.length : Int) ++ (Eff.encs l ++ rest)) := by
      rw [← List.drop_drop, b2, List.drop_left]
    have b4 : B.drop ((mth.encI o).length + (mth.encI n).length + (mth.encI m).length + (mth.encI w).length) = mth.encI (l.length : Int) ++ (Eff.encs l ++ rest) := by
      rw [← List.drop_drop, b3, List.drop_left]
    have b5 : B.drop ((mth.encI o).length + (mth.encI n).length + (mth.encI m).length + (mth.encI w).length + (mth.encI (l.length : Int)).length) = Eff.encs l ++ rest := by
      rw [← List.drop_drop, b4, List.drop_left]
    have s0 := step o 0 _ (fun o k1 => nx (B.drop k1) fun n k2 => nx (B.drop (k1 + k2)) fun m k3 => nx (B.drop (k1 + k2 + k3)) fun w k4 => nx (B.drop (k1 + k2 + k3 + k4)) fun c k5 =>
      if c < 0 then (nilE, 0, 1) else if 8 < c then (nilE, 0, 19) else
        (if (tkEs (tkE f') c.toNat (B.drop (k1 + k2 + k3 + k4 + k5))).2.2 = 0 then (.mk o n m w (tkEs (tkE f') c.toNat (B.drop (k1 + k2 + k3 + k4 + k5))).1, k1 + k2 + k3 + k4 + k5 + (tkEs (tkE f') c.toNat (B.drop (k1 + k2 + k3 + k4 + k5))).2.1, 0)
          else (nilE, 0, (tkEs (tkE f') c.toNat (B.drop (k1 + k2 + k3 + k4 + k5))).2.2))) B k1 b0
    rw [List.drop_zero] at s0
    refine s0.trans ?_
    rw [step n _ _ _ B k2 b1]
    try dsimp only
    rw [step m _ _ _ B k3 b2]
    try dsimp only
    rw [step w _ _ _ B k4 b3]
    try dsimp only
    rw [step _ _ _ _ B i5 b4]
    try dsimp only
    rw [b5, Int.toNat_natCast, (hsub rest).1, if_neg (by omega), if_neg (by omega)]
    simp only [if_true, List.length_append]
theorem Eff.backs : ∀ (l : List Eff) (t d : Int) (f : Nat) (rest : List Nat), Eff.oks l → (f : Int) + d = 9 → Eff.chks t d l = 0 → tkEs (tkE f) l.length (Eff.encs l ++ rest) = (l, (Eff.encs l).length, 0) ∧ (Eff.depths l : Int) + d ≤ 9
  | [], t, d, f, rest, _, hf, _ => ⟨rfl, by simp only [Eff.depths]; omega⟩
  | e :: l, t, d, f, rest, hk, hf, hc => by
    rw [Eff.chks] at hc
    by_cases h0 : e.chk t d = 0
    case neg => rw [if_pos h0] at hc; exact absurd hc h0
    rw [if_neg (by simpa using h0)] at hc
    obtain ⟨a1, a2, _⟩ := Eff.back e t d f (Eff.encs l ++ rest) hk.1 hf h0
    obtain ⟨b1, b2⟩ := Eff.backs l t d f rest hk.2 hf hc
    refine ⟨?_, by simp only [Eff.depths]; omega⟩
    simp only [Eff.encs, List.append_assoc, List.length_cons, tkEs, a1, List.drop_left, b1, if_true, List.length_append]
theorem Eff.backA : ∀ (l : List Eff) (d : Int) (f : Nat) (rest : List Nat), Eff.oks l → (f : Int) + d = 9 → Eff.chkA d l = 0 → tkEs (tkE f) l.length (Eff.encs l ++ rest) = (l, (Eff.encs l).length, 0) ∧ (Eff.depths l : Int) + d ≤ 9
  | [], d, f, rest, _, hf, _ => ⟨rfl, by simp only [Eff.depths]; omega⟩
  | e :: l, d, f, rest, hk, hf, hc => by
    rw [Eff.chkA] at hc
    by_cases h0 : e.chk 1 d = 0
    case neg => rw [if_pos h0] at hc; exact absurd hc h0
    rw [if_neg (by simpa using h0)] at hc
    by_cases h2 : e.who = 2
    case neg => rw [if_pos h2] at hc; cases hc
    rw [if_neg (by simpa using h2)] at hc
    obtain ⟨a1, a2, _⟩ := Eff.back e 1 d f (Eff.encs l ++ rest) hk.1 hf h0
    obtain ⟨b1, b2⟩ := Eff.backA l d f rest hk.2 hf hc
    refine ⟨?_, by simp only [Eff.depths]; omega⟩
    simp only [Eff.encs, List.append_assoc, List.length_cons, tkEs, a1, List.drop_left, b1, if_true, List.length_append]
end
/-- what comes in as an effect has numbers of 64 bits -/
theorem effR_ok : ∀ (n : Nat) (r : List Dat), SizeOf.sizeOf r ≤ n → r.length = 5 → (∀ (c : Nat) (s : Srt) (d : Dat), (E0.Δ.row 24)[c]? = some s → r[c]? = some d → Has E0.Δ s d) → InL r → (effOf r).ok
  | 0, r, hn, hl, _, _ => by cases r <;> simp at hn hl
  | n + 1, [a, b, c, d, e], hn, _, hh, hi => by
    have ints : ∀ x, Has E0.Δ (.int .i64) x → InD x → in64 x.toInt := fun x hx hix => by
      cases hx with
      | int k n =>
        cases hix with
        | int _ _ hw =>
          simp only [Lit.wf, Bool.and_eq_true, decide_eq_true_eq] at hw
          exact hw
    have ha := ints a (hh 0 _ a rfl rfl) (hi a (by simp))
    have hb := ints b (hh 1 _ b rfl rfl) (hi b (by simp))
    have hc := ints c (hh 2 _ c rfl rfl) (hi c (by simp))
    have hd := ints d (hh 3 _ d rfl rfl) (hi d (by simp))
    have he : Has E0.Δ (.list 24) e := hh 4 _ e rfl rfl
    have hie := hi e (by simp)
    rw [Eff.ok_eq, effOf_op, effOf_n, effOf_m, effOf_who, effOf_subs]
    refine ⟨ha, hb, hc, hd, Eff.oks_of fun x hx => ?_⟩
    obtain ⟨row, hrow, rfl⟩ := List.mem_map.1 hx
    have hsz : SizeOf.sizeOf row < SizeOf.sizeOf [a, b, c, d, e] := subR_lt hrow
    have hrow' : row ∈ e.xs := hrow
    cases he with
    | list _ A k cc xs hl hhr =>
      cases hie with
      | list v sz _ hm hr => exact effR_ok n row (by omega) (hl row hrow') (hhr row hrow') (hr row hrow')
theorem argE_ok {ds : List Dat} {ss : List Srt} (h : All2 (Has E0.Δ) (E0.Δ.row 24 ++ ss) ds) (hi : InL ds) : (argE ds).ok := by
  have hlen := h.length
  have hr : (E0.Δ.row 24).length = 5 := rfl
  rw [List.length_append, hr] at hlen
  refine effR_ok _ _ (Nat.le_refl _) (by rw [List.length_take]; omega) (fun c s d hc hd => ?_) (fun d hd => hi d (List.mem_of_mem_take hd))
  have hc5 : c < 5 := by have := (List.getElem?_eq_some_iff.1 hc).1; omega
  obtain ⟨d', e1, e2⟩ := All2.getO h (i := c) (s := s) (by rw [List.getElem?_append_left (by omega)]; exact hc)
  rw [List.getElem?_take, if_pos hc5, e1] at hd
  cases hd
  exact e2
mutual
theorem Eff.enc_byte : ∀ {e : Eff}, e.ok → e.size ≤ 1000 → ∀ c ∈ e.enc, c < 256
  | .mk o n m w l, ⟨h1, h2, h3, h4, h5⟩, hz, c, hc => by
    rw [Eff.size] at hz
    have hll := Eff.length_le_sizes l
    simp only [Eff.enc, List.mem_append] at hc
    have hl : ∀ c ∈ mth.encI (l.length : Int), c < 256 := encI_byte (by omega) (by omega)
    rcases hc with ((((hc | hc) | hc) | hc) | hc) | hc
    · exact encI_byte h1.1 h1.2 c hc
    · exact encI_byte h2.1 h2.2 c hc
    · exact encI_byte h3.1 h3.2 c hc
    · exact encI_byte h4.1 h4.2 c hc
    · exact hl c hc
    · exact Eff.encs_byte h5 (by omega) c hc
theorem Eff.encs_byte : ∀ {l : List Eff}, Eff.oks l → Eff.sizes l ≤ 1000 → ∀ c ∈ Eff.encs l, c < 256
  | [], _, _, c, hc => by simp [Eff.encs] at hc
  | e :: l, ⟨h1, h2⟩, hz, c, hc => by
    rw [Eff.sizes] at hz
    simp only [Eff.encs, List.mem_append] at hc
    rcases hc with hc | hc
    · exact Eff.enc_byte h1 (by omega) c hc
    · exact Eff.encs_byte h2 (by omega) c hc
end
end Go.Proofs.Ytkilkcgnfhlfiaa
