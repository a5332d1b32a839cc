/-
  WireTakes: for any bytes and any most the law answers true.
-/
import Derived.Test.YtipmddjoajojiaaWireF
import Derived.Test.YtipmddjoajojiaaLaw02A
namespace Go.Proofs.Ytipmddjoajojiaa
open Go.RowKit
set_option linter.unusedVariables false

theorem Bytes_rd {v v' : Value} {n n' : Nat} {a b : List Nat} {w : World} (h : Rd w 1 v n (u8s a)) (h' : Rd w 1 v' n' (u8s b)) :
    Calls Try.prog 13 #[v, v'] w (Ret w (.bool ((strOf a).toList == (strOf b).toList))) := by
  obtain ⟨A, c, rfl, hc, hl, ha⟩ := h
  obtain ⟨B, c', rfl, hc', hl', hb⟩ := h'
  rw [u8s_len] at hl hl'
  exact NumBytes_c A B n c n' c' a b w ha hb (by omega) (by omega) hc hc'
theorem Ints_rd {v v' : Value} {n n' : Nat} {a b : List Int} {w : World} (h : Rd w 1 v n (i64s a)) (h' : Rd w 1 v' n' (i64s b)) (hn : n ≤ 9223372036854775807) (hn' : n' ≤ 9223372036854775807) :
    Calls Try.prog 19 #[v, v'] w (Ret w (.bool (decide (a = b)))) := by
  obtain ⟨A, c, rfl, hc, hl, ha⟩ := h
  obtain ⟨B, c', rfl, hc', hl', hb⟩ := h'
  rw [i64s_len] at hl hl'
  exact Ints_c A B n c n' c' a b w ha hb (by omega) (by omega) hc hc' hn hn'
theorem Bytes_eq {v v' : Value} {n n' : Nat} {a : List Nat} {w : World} (h : Rd w 1 v n (u8s a)) (h' : Rd w 1 v' n' (u8s a)) : Calls Try.prog 13 #[v, v'] w (Ret w (.bool true)) := by
  have := Bytes_rd h h'
  rwa [beq_self_eq_true] at this
theorem Ints_eq {v v' : Value} {n n' : Nat} {a : List Int} {w : World} (h : Rd w 1 v n (i64s a)) (h' : Rd w 1 v' n' (i64s a)) (hn : n ≤ 9223372036854775807) (hn' : n' ≤ 9223372036854775807) : Calls Try.prog 19 #[v, v'] w (Ret w (.bool true)) := by
  have := Ints_rd h h' hn hn'
  rwa [decide_eq_true rfl] at this
theorem tkL_err {b : List Nat} {many : Int} {L : List Int} {R : List Nat} {F : Int} (h : mth.tkL b many = (L, R, F)) (hF : F ≠ 0) : L = [] ∧ R = [] := by
  unfold mth.tkL at h
  split at h
  · split at h
    · simp at h; exact ⟨h.1, h.2.1⟩
    · split at h
      · simp at h; exact ⟨h.1, h.2.1⟩
      · have := mth.tkN_err _ _ (by rw [h]; exact hF)
        rw [h] at this
        simp at this
        exact this
  · simp at h; exact ⟨h.1, h.2.1⟩
theorem tkL_len {b : List Nat} {many : Int} {L : List Int} {R : List Nat} (hb : ∀ x ∈ b, x < 256) (h : mth.tkL b many = (L, R, 0)) : L.length ≤ b.length := by
  have h1 := (mth.tkL_canon b many L R hb h).1
  have h2 := congrArg List.length h1
  have h3 : ∀ l : List Int, l.length ≤ (mth.encAll l).length := by
    intro l
    induction l with
    | nil => simp
    | cons x l ih => have := (mth.enc_len (mth.zig x)).1; simp only [mth.encAll, mth.encI, List.length_append, List.length_cons]; omega
  have := h3 L
  simp only [List.length_append, mth.encL] at h2
  omega

section
variable {A : Option Addr} {n c : Nat} {l : List Nat} {many : Int} {w : World} {L : List Int} {R : List Nat} {F : Int}
theorem TakeList_ok (h : mth.tkL l many = (L, R, 0)) (ha : At w A n (u8s l)) (hl : l.length = n) (hb : ∀ x ∈ l, x < 256) (hc : n ≤ c) (hn : n ≤ 65536) :
    Calls Try.prog 17 #[.slice A n c, .int .i64 many] w fun e w' => ∃ v r, e = .returned (.tuple #[v, r, .nilIface]) ∧ Rd w' 1 v L.length (i64s L) ∧ Rd w' 1 r R.length (u8s R) ∧ Below w.heap.size w w' := by
  refine (TakeList_c A n c l many w ha hl hb hc hn).mono ?_
  rintro e w' ⟨v, r, rfl, h1, h2, h3⟩
  rw [h] at h1 h2 ⊢
  exact ⟨v, r, rfl, h1.rd, h2.rd, h3⟩
theorem TakeList_bad (h : mth.tkL l many = (L, R, F)) (hF : F ≠ 0) (ha : At w A n (u8s l)) (hl : l.length = n) (hb : ∀ x ∈ l, x < 256) (hc : n ≤ c) (hn : n ≤ 65536) :
    Calls Try.prog 17 #[.slice A n c, .int .i64 many] w fun e w' => ∃ v A' c', e = .returned (.tuple #[v, .slice A' 0 c', .iface 51 (.int .i64 F)]) ∧ Rd w' 1 v 0 (i64s []) ∧ Below w.heap.size w w' := by
  refine (TakeList_c A n c l many w ha hl hb hc hn).mono ?_
  rintro e w' ⟨v, r, rfl, h1, h2, h3⟩
  obtain ⟨rfl, rfl⟩ := tkL_err h hF
  rw [h] at h1 h2 ⊢
  obtain ⟨A', c', rfl, _⟩ := h2
  exact ⟨v, A', c', by rw [errV_ne hF]; rfl, h1.rd, h3⟩
theorem TakeListRef_ok (h : mth.tkL l many = (L, R, 0)) (ha : At w A n (u8s l)) (hl : l.length = n) (hb : ∀ x ∈ l, x < 256) (hc : n ≤ c) (hn : n ≤ 65536) :
    Calls Try.prog 18 #[.slice A n c, .int .i64 many] w fun e w' => ∃ (v : Value) (p : Nat), e = .returned (.tuple #[v, .int .i64 p, .int .i64 0]) ∧ Rd w' 1 v L.length (i64s L) ∧ Below w.heap.size w w' ∧ l.drop p = R ∧ p ≤ n ∧ 1 ≤ p := by
  refine (TakeListRef_c A n c l many w ha hl hb hc hn).mono ?_
  rintro e w' ⟨v, p, rfl, h1, h2, h3⟩
  rw [h] at h1 h3 ⊢
  exact ⟨v, p, rfl, h1.rd, h2, h3 rfl⟩
theorem TakeListRef_bad (h : mth.tkL l many = (L, R, F)) (hF : F ≠ 0) (ha : At w A n (u8s l)) (hl : l.length = n) (hb : ∀ x ∈ l, x < 256) (hc : n ≤ c) (hn : n ≤ 65536) :
    Calls Try.prog 18 #[.slice A n c, .int .i64 many] w fun e w' => ∃ (v : Value) (p : Nat), e = .returned (.tuple #[v, .int .i64 p, .int .i64 F]) ∧ Rd w' 1 v 0 (i64s []) ∧ Below w.heap.size w w' := by
  refine (TakeListRef_c A n c l many w ha hl hb hc hn).mono ?_
  rintro e w' ⟨v, p, rfl, h1, h2, h3⟩
  obtain ⟨rfl, rfl⟩ := tkL_err h hF
  rw [h] at h1 ⊢
  exact ⟨v, p, rfl, h1.rd, h2⟩
end
theorem Num_ret (n : Int) (w : World) : Calls Try.prog 16 #[errV n] w (Ret w (.int .i64 n)) :=
  (Num_c n w).mono fun e w' ⟨he, hw⟩ => ⟨he, by subst hw; exact Below.refl _ _⟩
theorem rd_past {w : World} {ad : Addr} {n p : Nat} {l : List Nat} (hl : l.length = n) (h : n ≤ p) : Rd w 1 (.slice (some ad) (n - p) 0) (n - p) (u8s (l.drop p)) :=
  ⟨_, _, rfl, by omega, by simp [u8s_len, hl], fun hp => absurd hp (by omega)⟩
theorem rd_from {w : World} {ad : Addr} {n c p : Nat} {l : List Nat} (h : At w (some ad) n (u8s l)) (hl : l.length = n) (hc : n ≤ c) : Rd w 1 (.slice (some (ad.add p)) (n - p) (c - p)) (n - p) (u8s (l.drop p)) := by
  refine ⟨_, _, rfl, by omega, by simp [u8s_len, hl], ?_⟩
  have := at_drop (p := p) h
  rwa [show (u8s l).drop p = u8s (l.drop p) from by simp [u8s]] at this

set_option maxHeartbeats 3000000 in
theorem WireTakes_1 (A : Option Addr) (n c : Nat) (l : List Nat) (most : Int) (w : World) (ha : At w A n (u8s l)) (hl : l.length = n) (hb : ∀ x ∈ l, x < 256) (hc : n ≤ c) (hn : (n : Int) ≤ 400) :
    Calls Try.prog 4 #[.slice A n c, .int .i64 most] w (Ret w (.bool true)) := by
  obtain ⟨V, K, E, ht⟩ : ∃ V K E, mth.tk 0 0 l = (V, K, E) := ⟨_, _, _, rfl⟩
  obtain ⟨L, R, F, hL2⟩ : ∃ L R F, mth.tkL l most = (L, R, F) := ⟨_, _, _, rfl⟩
  have HL2 := Lib.hid hL2
  have HL := Lib.hid hl
  have HB := Lib.hid hb
  have HA := Lib.hid ha
  have hn16 : n ≤ 65536 := by omega
  have HN := Lib.hid hn16
  have HAT : Hid (∀ w', Below w.heap.size w w' → At w' A n (u8s l)) := Lib.hid (fun w' hb => HA.out.mono hb.size (fun q hq => hb.cell hq))
  have HT := Lib.hid (ht)
  clear ha hl hb ht hn16 hL2
  go_enter Try.func4, Try.ntmps4
  by_cases hE : E = 0
  · subst hE
    have HK := Lib.hid (mth.tk_canon l V K HB.out HT.out)
    have hKn : K ≤ n := by have := HK.out.2.2.1; have := HL.out; omega
    have hK1 : 1 ≤ K := HK.out.2.1
    obtain ⟨ad, rfl, _⟩ := HA.out (by omega)
    go_wp2_with (first
      | (go_at_call 7; refine (alive_c _).mono ?_; rintro e w1 ⟨rfl, hb1⟩)
      | (go_at_call 14; refine (Take_ok HT.out (HAT.out _ hb1) HL.out HB.out hc HN.out).mono ?_; rintro e w2 ⟨v2, rfl, hb2, hs2, _⟩)
      | (go_at_call 15; refine (TakeRef_k HT.out (HAT.out _ (hb1.trans (hb2.mono hb1.size))) HL.out HB.out hc HN.out).mono ?_; rintro e w3 ⟨rfl, hb3⟩)
      | (go_at_call 16; refine (Num_nil _).mono ?_; rintro e w4 ⟨rfl, rfl⟩))
    · have HB3 := Lib.hid ((hb1.trans (hb2.mono hb1.size)).trans (hb3.mono (Nat.le_trans hb1.size hb2.size)))
      have hr2 := hs2.rd.below (hb3)
      have hcK : c = K := by assumption
      subst hcK
      refine (Bytes_eq hr2 (rd_past HL.out (by omega))).mono ?_
      rintro e w5 ⟨rfl, hb5⟩
      have HBX := Lib.hid (HB3.out.trans (hb5.mono HB3.out.size))
      clear hs2 hr2
      by_cases hF : F = 0
      · subst hF
        have HLL := Lib.hid (show L.length ≤ 9223372036854775807 by have := tkL_len HB.out HL2.out; have := HL.out; have := HN.out; omega)
        go_wp2_with (first
          | (go_at_call 17; refine (TakeList_ok HL2.out (HAT.out _ HBX.out) HL.out HB.out hc HN.out).mono ?_; rintro e w6 ⟨v6, r6, rfl, hs6, hr6, hb6⟩)
          | (go_at_call 18; refine (TakeListRef_ok HL2.out (HAT.out _ (HBX.out.trans (hb6.mono HBX.out.size))) HL.out HB.out hc HN.out).mono ?_; rintro e w7 ⟨v7, p7, rfl, hs7, hb7, hp7, hpn, hp1⟩; have HP7 := Lib.hid hp7; clear hp7)
          | (go_at_call 16; refine (Num_nil _).mono ?_; rintro e w4 ⟨rfl, rfl⟩)
          | (go_at_call 19; refine (Ints_eq (hs6.below hb7) hs7 HLL.out HLL.out).mono ?_; rintro e w8 ⟨rfl, hb8⟩))
        · have HBY := Lib.hid ((HBX.out.trans (hb6.mono HBX.out.size)).trans ((hb7.trans (hb8.mono hb7.size)).mono (Nat.le_trans HBX.out.size hb6.size)))
          obtain ⟨ad, eA, _⟩ := HA.out (by omega)
          try subst eA
          have hrR := (hr6.below hb7).below hb8
          rw [← HP7.out] at hrR
          have hcP : c = p7 := by assumption
          subst hcP
          refine (Bytes_eq hrR (rd_past HL.out (by omega))).mono ?_
          rintro e w9 ⟨rfl, hb9⟩
          go_wp2_with fail
          go_ret
          exact ⟨rfl, HBY.out.trans (hb9.mono HBY.out.size)⟩
        · have HBY := Lib.hid ((HBX.out.trans (hb6.mono HBX.out.size)).trans ((hb7.trans (hb8.mono hb7.size)).mono (Nat.le_trans HBX.out.size hb6.size)))
          obtain ⟨ad, eA, _⟩ := HA.out (by omega)
          try subst eA
          have hrR := (hr6.below hb7).below hb8
          rw [← HP7.out] at hrR
          refine (Bytes_eq hrR (rd_from (HAT.out _ HBY.out) HL.out hc)).mono ?_
          rintro e w9 ⟨rfl, hb9⟩
          go_wp2_with fail
          go_ret
          exact ⟨rfl, HBY.out.trans (hb9.mono HBY.out.size)⟩
      · have eF : (F == 0) = false := by simpa using hF
        have nF : (F != 0) = true := by simpa using hF
        go_wp2_with (first
          | (go_at_call 17; refine (TakeList_bad HL2.out hF (HAT.out _ HBX.out) HL.out HB.out hc HN.out).mono ?_; rintro e w6 ⟨v6, A6, c6, rfl, hs6, hb6⟩)
          | (go_at_call 18; refine (TakeListRef_bad HL2.out hF (HAT.out _ (HBX.out.trans (hb6.mono HBX.out.size))) HL.out HB.out hc HN.out).mono ?_; rintro e w7 ⟨v7, p7, rfl, hs7, hb7⟩)
          | (go_at_call 16; refine (Num_err F hF _).mono ?_; rintro e w4 ⟨rfl, rfl⟩)
          | (go_at_call 19; refine (Ints_eq (hs6.below hb7) hs7 (by omega) (by omega)).mono ?_; rintro e w8 ⟨rfl, hb8⟩))
        go_ret
        exact ⟨rfl, (HBX.out.trans (hb6.mono HBX.out.size)).trans ((hb7.trans (hb8.mono hb7.size)).mono (Nat.le_trans HBX.out.size hb6.size))⟩
    · have HB3 := Lib.hid ((hb1.trans (hb2.mono hb1.size)).trans (hb3.mono (Nat.le_trans hb1.size hb2.size)))
      have hr2 := hs2.rd.below (hb3)
      refine (Bytes_eq hr2 (rd_from (HAT.out _ HB3.out) HL.out hc)).mono ?_
      rintro e w5 ⟨rfl, hb5⟩
      have HBX := Lib.hid (HB3.out.trans (hb5.mono HB3.out.size))
      clear hs2 hr2
      by_cases hF : F = 0
      · subst hF
        have HLL := Lib.hid (show L.length ≤ 9223372036854775807 by have := tkL_len HB.out HL2.out; have := HL.out; have := HN.out; omega)
        go_wp2_with (first
          | (go_at_call 17; refine (TakeList_ok HL2.out (HAT.out _ HBX.out) HL.out HB.out hc HN.out).mono ?_; rintro e w6 ⟨v6, r6, rfl, hs6, hr6, hb6⟩)
          | (go_at_call 18; refine (TakeListRef_ok HL2.out (HAT.out _ (HBX.out.trans (hb6.mono HBX.out.size))) HL.out HB.out hc HN.out).mono ?_; rintro e w7 ⟨v7, p7, rfl, hs7, hb7, hp7, hpn, hp1⟩; have HP7 := Lib.hid hp7; clear hp7)
          | (go_at_call 16; refine (Num_nil _).mono ?_; rintro e w4 ⟨rfl, rfl⟩)
          | (go_at_call 19; refine (Ints_eq (hs6.below hb7) hs7 HLL.out HLL.out).mono ?_; rintro e w8 ⟨rfl, hb8⟩))
        · have HBY := Lib.hid ((HBX.out.trans (hb6.mono HBX.out.size)).trans ((hb7.trans (hb8.mono hb7.size)).mono (Nat.le_trans HBX.out.size hb6.size)))
          obtain ⟨ad, eA, _⟩ := HA.out (by omega)
          try subst eA
          have hrR := (hr6.below hb7).below hb8
          rw [← HP7.out] at hrR
          have hcP : c = p7 := by assumption
          subst hcP
          refine (Bytes_eq hrR (rd_past HL.out (by omega))).mono ?_
          rintro e w9 ⟨rfl, hb9⟩
          go_wp2_with fail
          go_ret
          exact ⟨rfl, HBY.out.trans (hb9.mono HBY.out.size)⟩
        · have HBY := Lib.hid ((HBX.out.trans (hb6.mono HBX.out.size)).trans ((hb7.trans (hb8.mono hb7.size)).mono (Nat.le_trans HBX.out.size hb6.size)))
          obtain ⟨ad, eA, _⟩ := HA.out (by omega)
          try subst eA
          have hrR := (hr6.below hb7).below hb8
          rw [← HP7.out] at hrR
          refine (Bytes_eq hrR (rd_from (HAT.out _ HBY.out) HL.out hc)).mono ?_
          rintro e w9 ⟨rfl, hb9⟩
          go_wp2_with fail
          go_ret
          exact ⟨rfl, HBY.out.trans (hb9.mono HBY.out.size)⟩
      · have eF : (F == 0) = false := by simpa using hF
        have nF : (F != 0) = true := by simpa using hF
        go_wp2_with (first
          | (go_at_call 17; refine (TakeList_bad HL2.out hF (HAT.out _ HBX.out) HL.out HB.out hc HN.out).mono ?_; rintro e w6 ⟨v6, A6, c6, rfl, hs6, hb6⟩)
          | (go_at_call 18; refine (TakeListRef_bad HL2.out hF (HAT.out _ (HBX.out.trans (hb6.mono HBX.out.size))) HL.out HB.out hc HN.out).mono ?_; rintro e w7 ⟨v7, p7, rfl, hs7, hb7⟩)
          | (go_at_call 16; refine (Num_err F hF _).mono ?_; rintro e w4 ⟨rfl, rfl⟩)
          | (go_at_call 19; refine (Ints_eq (hs6.below hb7) hs7 (by omega) (by omega)).mono ?_; rintro e w8 ⟨rfl, hb8⟩))
        go_ret
        exact ⟨rfl, (HBX.out.trans (hb6.mono HBX.out.size)).trans ((hb7.trans (hb8.mono hb7.size)).mono (Nat.le_trans HBX.out.size hb6.size))⟩
  · have nE : (E != 0) = true := by simpa using hE
    have eE : (E == 0) = false := by simpa using hE
    obtain ⟨rfl, rfl, _⟩ := mth.tk_bad l V K E 0 0 HT.out hE
    go_wp2_with (first
      | (go_at_call 7; refine (alive_c _).mono ?_; rintro e w1 ⟨rfl, hb1⟩)
      | (go_at_call 14; refine (Take_bad HT.out hE (HAT.out _ hb1) HL.out HB.out hc HN.out).mono ?_; rintro e w2 ⟨rfl, hb2⟩)
      | (go_at_call 15; refine (TakeRef_k HT.out (HAT.out _ (hb1.trans (hb2.mono hb1.size))) HL.out HB.out hc HN.out).mono ?_; rintro e w3 ⟨rfl, hb3⟩; have HBX := Lib.hid ((hb1.trans (hb2.mono hb1.size)).trans (hb3.mono (Nat.le_trans hb1.size hb2.size))))
      | (go_at_call 16; refine (Num_err E hE _).mono ?_; rintro e w4 ⟨rfl, rfl⟩)
      | (go_at_call 17; fail))
    by_cases hF : F = 0
    · subst hF
      have HLL := Lib.hid (show L.length ≤ 9223372036854775807 by have := tkL_len HB.out HL2.out; have := HL.out; have := HN.out; omega)
      go_wp2_with (first
        | (go_at_call 17; refine (TakeList_ok HL2.out (HAT.out _ HBX.out) HL.out HB.out hc HN.out).mono ?_; rintro e w6 ⟨v6, r6, rfl, hs6, hr6, hb6⟩)
        | (go_at_call 18; refine (TakeListRef_ok HL2.out (HAT.out _ (HBX.out.trans (hb6.mono HBX.out.size))) HL.out HB.out hc HN.out).mono ?_; rintro e w7 ⟨v7, p7, rfl, hs7, hb7, hp7, hpn, hp1⟩; have HP7 := Lib.hid hp7; clear hp7)
        | (go_at_call 16; refine (Num_nil _).mono ?_; rintro e w4 ⟨rfl, rfl⟩)
        | (go_at_call 19; refine (Ints_eq (hs6.below hb7) hs7 HLL.out HLL.out).mono ?_; rintro e w8 ⟨rfl, hb8⟩))
      · have HBY := Lib.hid ((HBX.out.trans (hb6.mono HBX.out.size)).trans ((hb7.trans (hb8.mono hb7.size)).mono (Nat.le_trans HBX.out.size hb6.size)))
        obtain ⟨ad, eA, _⟩ := HA.out (by omega)
        try subst eA
        have hrR := (hr6.below hb7).below hb8
        rw [← HP7.out] at hrR
        have hcP : c = p7 := by assumption
        subst hcP
        refine (Bytes_eq hrR (rd_past HL.out (by omega))).mono ?_
        rintro e w9 ⟨rfl, hb9⟩
        go_wp2_with fail
        go_ret
        exact ⟨rfl, HBY.out.trans (hb9.mono HBY.out.size)⟩
      · have HBY := Lib.hid ((HBX.out.trans (hb6.mono HBX.out.size)).trans ((hb7.trans (hb8.mono hb7.size)).mono (Nat.le_trans HBX.out.size hb6.size)))
        obtain ⟨ad, eA, _⟩ := HA.out (by omega)
        try subst eA
        have hrR := (hr6.below hb7).below hb8
        rw [← HP7.out] at hrR
        refine (Bytes_eq hrR (rd_from (HAT.out _ HBY.out) HL.out hc)).mono ?_
        rintro e w9 ⟨rfl, hb9⟩
        go_wp2_with fail
        go_ret
        exact ⟨rfl, HBY.out.trans (hb9.mono HBY.out.size)⟩
    · have eF : (F == 0) = false := by simpa using hF
      have nF : (F != 0) = true := by simpa using hF
      go_wp2_with (first
        | (go_at_call 17; refine (TakeList_bad HL2.out hF (HAT.out _ HBX.out) HL.out HB.out hc HN.out).mono ?_; rintro e w6 ⟨v6, A6, c6, rfl, hs6, hb6⟩)
        | (go_at_call 18; refine (TakeListRef_bad HL2.out hF (HAT.out _ (HBX.out.trans (hb6.mono HBX.out.size))) HL.out HB.out hc HN.out).mono ?_; rintro e w7 ⟨v7, p7, rfl, hs7, hb7⟩)
        | (go_at_call 16; refine (Num_err F hF _).mono ?_; rintro e w4 ⟨rfl, rfl⟩)
        | (go_at_call 19; refine (Ints_eq (hs6.below hb7) hs7 (by omega) (by omega)).mono ?_; rintro e w8 ⟨rfl, hb8⟩))
      go_ret
      exact ⟨rfl, (HBX.out.trans (hb6.mono HBX.out.size)).trans ((hb7.trans (hb8.mono hb7.size)).mono (Nat.le_trans HBX.out.size hb6.size))⟩

theorem WireTakes_c (A : Option Addr) (n c : Nat) (l : List Nat) (most : Int) (w : World) (ha : At w A n (u8s l)) (hl : l.length = n) (hb : ∀ x ∈ l, x < 256) (hc : n ≤ c) :
    Calls Try.prog 4 #[.slice A n c, .int .i64 most] w (Ret w (.bool true)) := by
  by_cases hn : (400 : Int) < (n : Int)
  · clear ha hb hl
    go_enter Try.func4, Try.ntmps4
    go_wp2_with (go_at_call 7; refine (alive_c _).mono ?_; rintro e w1 ⟨rfl, hb1⟩)
    go_ret
    exact ⟨rfl, hb1⟩
  · exact WireTakes_1 A n c l most w ha hl hb hc (by omega)
end Go.Proofs.Ytipmddjoajojiaa
