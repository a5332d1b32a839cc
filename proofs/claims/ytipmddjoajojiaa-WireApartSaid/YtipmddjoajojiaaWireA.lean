/-
  Contracts: slices of bytes, and the wire's Put.
-/
import Derived.Test.YtipmddjoajojiaaKitS
import Derived.Test.YtipmddjoajojiaaMathW
import Derived.WalkSpells
import Derived.Lib.SliceRun
namespace Go.Proofs.Ytipmddjoajojiaa
open Go.RowKit
set_option linter.unusedVariables false

theorem u8_info : (Try.prog.info? 5).map (fun i => (i.zero, i.size, i.bytes)) = some (some (.int .u8 0), 1, 1) := by kernel_rfl

theorem zig_bits (n : Int) (h1 : -9223372036854775808 ≤ n) (h2 : n ≤ 9223372036854775807) :
    bits .xor .u64 (IntKind.u64.wrap (IntKind.u64.wrap n * 2)) (IntKind.u64.wrap (n / 9223372036854775808)) = ((mth.zig n : Nat) : Int) := by
  unfold mth.zig
  by_cases h : 0 ≤ n
  · rw [if_pos h]
    have e1 : IntKind.u64.wrap (IntKind.u64.wrap n * 2) = (((2 * n).toNat : Nat) : Int) := by rw [IntKind.wrap_u64, IntKind.wrap_u64]; omega
    have e2 : IntKind.u64.wrap (n / 9223372036854775808) = ((0 : Nat) : Int) := by rw [IntKind.wrap_u64]; omega
    rw [e1, e2, u64_xor_nat _ _ (by omega) (by omega), Nat.xor_zero]
  · rw [if_neg h]
    have e1 : IntKind.u64.wrap (IntKind.u64.wrap n * 2) = (((18446744073709551616 + 2 * n).toNat : Nat) : Int) := by rw [IntKind.wrap_u64, IntKind.wrap_u64]; omega
    have e2 : IntKind.u64.wrap (n / 9223372036854775808) = ((18446744073709551615 : Nat) : Int) := by rw [IntKind.wrap_u64]; omega
    rw [e1, e2, u64_xor_nat _ _ (by omega) (by omega)]
    have hx : ∀ a b : Nat, a < 2 ^ 64 → b = 2 ^ 64 - 1 → a ^^^ b = 2 ^ 64 - 1 - a := fun a b ha hb => by
      subst hb
      apply Nat.eq_of_testBit_eq
      intro i
      rw [Nat.testBit_xor, Nat.testBit_two_pow_sub_one, show 2 ^ 64 - 1 - a = 2 ^ 64 - (a + 1) from by omega, Nat.testBit_two_pow_sub_succ ha]
      by_cases hi : i < 64
      · simp [hi]
      · rw [Nat.testBit_lt_two_pow (Nat.lt_of_lt_of_le ha (Nat.pow_le_pow_right (by omega) (by omega)))]
        simp [hi]
    rw [hx _ _ (by omega) rfl]
    omega

theorem zig_c (n : Int) (h1 : -9223372036854775808 ≤ n) (h2 : n ≤ 9223372036854775807) (w : World) :
    Calls Try.prog 22 #[.int .i64 n] w fun e w' => e = .returned (.int .u64 (mth.zig n : Nat)) ∧ w = w' := by
  go_enter Try.func22, Try.ntmps22
  go_wp2
  go_ret
  refine ⟨ret_int ?_, rfl⟩
  exact zig_bits n h1 h2

theorem stands_c (n : Int) (h1 : -9223372036854775808 ≤ n) (h2 : n ≤ 9223372036854775807) (w : World) :
    Calls Try.prog 23 #[.int .i64 n] w fun e w' => e = .returned (.int .u64 (mth.zig n : Nat)) ∧ w = w' := by
  go_enter Try.func23, Try.ntmps23
  go_wp2
  all_goals go_ret
  all_goals refine ⟨ret_int ?_, rfl⟩
  all_goals unfold mth.zig
  · rw [if_pos ‹_›]; omega
  · rw [if_neg (by omega)]; omega

theorem run_eql_slice_nil' {P : Program} (w : World) (t e : TypeId) (a : Option Addr) (n c n' c' : Nat) (h : P.underlying t = some (.slice e)) :
    (binOp .eql t (.slice a n c) (.slice none n' c')).run P w = .ok (.bool a.isNone) w := Lib.run_eql_slice_nil w t e a n c n' c' h
theorem Clone_c (v : Value) (n : Nat) (xs : List Value) (w : World) (h : Rd w 1 v n xs) (h1 : ∀ u ∈ xs, u.oneCell' = true) (hn : n ≤ 70368744177664) :
    Calls Try.prog 21 #[v] w (RetSl w 1 n xs) := by
  obtain ⟨i0, hi, hz0, hz1, hz2⟩ := info_parts u8_info
  have HR := Lib.hid h
  obtain ⟨A, c, rfl, hc, hl, ha⟩ := h
  have he := fun W => run_eql_slice_nil' (P := Try.prog) W 22 5 A n c 0 0 Try.underlying22
  cases A with
  | none =>
    have h0 : n = 0 := by
      apply Classical.byContradiction
      intro hn
      obtain ⟨ad, e1, _⟩ := ha (by omega)
      cases e1
    subst h0
    have hx : xs = [] := List.eq_nil_of_length_eq_zero (by simpa using hl)
    subst hx
    clear HR ha hl
    go_enter Try.func21, Try.ntmps21
    go_wp2_with fail
    go_ret
    exact ⟨_, rfl, Sl.nil _ _ _, Below.refl _ _⟩
  | some ad =>
    clear ha hl hc
    go_enter Try.func21, Try.ntmps21
    go_wp2_with (at_builtin; refine wpList_append_sl rfl (.tmp 5) (.tmp 6) _ rfl 5 i0 _ 1 Try.underlying22 hi hz0 hz1 hz2 rfl (sl_empty w 5 w.heap.size 1) (HR.out.below ((Below.refl _ _).alloc (Nat.le_refl _) _)) h1 (by simp only [maxLen]; omega) (by omega) (by simp) ?_; intro v2 w2 hs2 hb2 _)
    go_ret
    rw [Nat.zero_add, List.nil_append] at hs2
    exact ⟨_, rfl, hs2, ((Below.refl _ _).alloc (Nat.le_refl _) _).trans hb2⟩

theorem Clip_c (v : Value) (n B : Nat) (xs : List Value) (w : World) (h : Sl w B 1 v n xs) :
    Calls Try.prog 20 #[v] w fun e w' => ∃ v', e = .returned v' ∧ Sl w B 1 v' n xs ∧ w = w' := by
  have HR := Lib.hid h
  obtain ⟨A, c, rfl, hc, hl, ha, ho⟩ := h
  go_enter Try.func20, Try.ntmps20
  go_wp2_with fail
  go_ret
  exact ⟨_, rfl, ⟨A, n, rfl, Nat.le_refl _, hl, ha, fun h => absurd h (by omega)⟩, rfl⟩

theorem Put_any (v : Value) (m : Nat) (xs : List Value) (n : Int) (w : World) (h : Rd w 1 v m xs) (h1 : ∀ u ∈ xs, u.oneCell' = true) (hm : m ≤ 35184372088832)
    (n1 : -9223372036854775808 ≤ n) (n2 : n ≤ 9223372036854775807) :
    Calls Try.prog 10 #[v, .int .i64 n] w (RetSl w 1 (m + (mth.encI n).length) (xs ++ u8s (mth.encI n))) := by
  obtain ⟨i0, hi, hz0, hz1, hz2⟩ := info_parts u8_info
  have HR := Lib.hid h
  clear h
  go_enter Try.func10, Try.ntmps10
  go_wp2_with fail
  refine (Clone_c v m xs w HR.out h1 (by omega)).mono ?_
  rintro e w1 ⟨v1, rfl, hs1, hb1⟩
  have HS1 := Lib.hid hs1
  clear hs1
  go_wp2_with fail
  refine (Clip_c v1 m _ xs w1 HS1.out).mono ?_
  rintro e w1' ⟨v2, rfl, hs2, rfl⟩
  have HS2 := Lib.hid hs2
  clear hs2
  go_wp2_with (go_at_call 22; refine (zig_c n n1 n2 _).mono ?_; rintro e w' ⟨rfl, rfl⟩)
  have hz := mth.zig_lt n n1 n2
  have HE : Hid (mth.enc (mth.zig n) = mth.encI n) := Lib.hid rfl
  rw [← HE.out]
  generalize mth.zig n = X at *
  go_loopw [5, 6] (fun ov xv wr => ∃ (k y : Nat) (done : List Nat), xv = .int .u64 y ∧ mth.Going X k y done ∧ Sl wr w.heap.size 1 ov (m + k) (xs ++ u8s done) ∧ Below w.heap.size w wr) (fun _ xv _ => (intOf xv).toNat)
  case atStart => exact ⟨0, X, [], rfl, mth.going_start X hz, by simpa [u8s] using HS2.out, hb1⟩
  case round =>
    obtain ⟨k, y, done, rfl, hgo, hsl, hbr⟩ := hrel
    have hk := hgo.hk
    have hle := hgo.le
    have HG := Lib.hid hgo
    have HS := Lib.hid hsl
    clear hgo hsl
    have hal : Below w.heap.size w (wr.alloc (.cells #[.int .u8 (bits .or .u8 ((y : Int) % 256) 128)] 5)) := hbr.alloc hbr.size _
    have HB := Lib.hid hbr
    clear hbr
    have HM := Lib.hid hm
    clear hm
    have hsw := HB.out.size
    by_cases hy : (128 : Int) ≤ (y : Int)
    · go_wp2_with (at_builtin; refine wpList_append_sl rfl (.tmp 16) (.tmp 20) _ rfl 5 i0 _ 1 Try.underlying22 hi hz0 hz1 hz2 rfl (HS.out.below ((Below.refl _ _).alloc (Nat.le_refl _) _)) news_one (by intro u hu; simp at hu; subst hu; rfl) (by have := HM.out; simp only [maxLen]; omega) (by have := HM.out; omega) (by simp; omega) ?_; intro ov' w3 hs3 hb3 _)
      have hb3 := hal.trans hb3
      have e1 : bits .or .u8 ((y : Int) % 256) 128 = ((y % 128 + 128 : Nat) : Int) := by
        have := u8_or_nat (y % 256) 128 (by omega) (by omega)
        rw [mth.or128] at this
        rw [← this]; rfl
      rw [e1] at hs3
      have hs4 : Sl w3 w.heap.size 1 ov' (m + (k + 1)) (xs ++ u8s (done ++ [y % 128 + 128])) := by
        rw [u8s_append, ← List.append_assoc]; exact hs3
      have HS4 := Lib.hid hs4
      have HB3 := Lib.hid hb3
      clear hs3 hs4 hb3 e1 hal
      go_wp2
      go_roundw
      case rel => exact ⟨k + 1, y / 128, done ++ [y % 128 + 128], by go_num, mth.going_step HG.out (by omega), HS4.out, HB3.out⟩
      case measure => simp [intOf]; omega
    · have hend := mth.going_end HG.out (by omega)
      have HEND := Lib.hid hend
      clear hend hal
      go_wp2_with (at_builtin; refine wpList_append_sl rfl (.tmp 22) (.tmp 25) _ rfl 5 i0 _ 1 Try.underlying22 hi hz0 hz1 hz2 rfl (HS.out.below ((Below.refl _ _).alloc (Nat.le_refl _) _)) news_one (by intro u hu; simp at hu; subst hu; rfl) (by have := HM.out; simp only [maxLen]; omega) (by have := HM.out; omega) (by simp; omega) ?_; intro ov' w3 hs3 hb3 _)
      have hb3 := (HB.out.alloc HB.out.size _).trans hb3
      go_ret
      refine ⟨_, rfl, ?_, hb3⟩
      rw [← HE.out, ← HEND.out.2, ← HEND.out.1, u8s_append, ← List.append_assoc]
      exact hs3

theorem Bytes_ref (n : Int) (w : World) (n1 : -9223372036854775808 ≤ n) (n2 : n ≤ 9223372036854775807) :
    Calls Try.prog 11 #[.int .i64 n] w (RetSl w 1 (mth.encI n).length (u8s (mth.encI n))) := by
  obtain ⟨i0, hi, hz0, hz1, hz2⟩ := info_parts u8_info
  go_enter Try.func11, Try.ntmps11
  go_wp2_with (go_at_call 23; refine (stands_c n n1 n2 _).mono ?_; rintro e w' ⟨rfl, rfl⟩)
  have hz := mth.zig_lt n n1 n2
  have HE : Hid (mth.enc (mth.zig n) = mth.encI n) := Lib.hid rfl
  generalize mth.zig n = X at *
  go_loopw [3, 4] (fun xv ov wr => ∃ (k y : Nat) (done : List Nat), xv = .int .u64 y ∧ mth.Going X k y done ∧ Sl wr w.heap.size 1 ov k (u8s done) ∧ Below w.heap.size w wr) (fun xv _ _ => (intOf xv).toNat)
  case atStart => exact ⟨0, X, [], rfl, mth.going_start X hz, sl_empty _ _ _ _, (Below.refl _ _).alloc (Nat.le_refl _) _⟩
  case round =>
    obtain ⟨k, y, done, rfl, hgo, hsl, hbr⟩ := hrel
    have hk := hgo.hk
    have hle := hgo.le
    have HG := Lib.hid hgo
    have HS := Lib.hid hsl
    clear hgo hsl
    have HB := Lib.hid hbr
    clear hbr
    have hsw := HB.out.size
    by_cases hy : (128 : Int) ≤ (y : Int)
    · go_wp2_with (at_builtin; refine wpList_append_sl rfl (.tmp 10) (.tmp 15) _ rfl 5 i0 _ 1 Try.underlying22 hi hz0 hz1 hz2 rfl (HS.out.below ((Below.refl _ _).alloc (Nat.le_refl _) _)) news_one (by intro u hu; simp at hu; subst hu; rfl) (by simp only [maxLen]; omega) (by omega) (by simp; omega) ?_; intro ov' w3 hs3 hb3 _)
      have hb3 := (HB.out.alloc HB.out.size _).trans hb3
      go_roundw
      case rel => exact ⟨k + 1, y / 128, done ++ [y % 128 + 128], by go_num, mth.going_step HG.out (by omega), by rw [u8s_append]; exact hs3, hb3⟩
      case measure => simp [intOf]; omega
    · have hend := mth.going_end HG.out (by omega)
      have HEND := Lib.hid hend
      clear hend
      go_wp2_with (at_builtin; refine wpList_append_sl rfl (.tmp 19) (.tmp 22) _ rfl 5 i0 _ 1 Try.underlying22 hi hz0 hz1 hz2 rfl (HS.out.below ((Below.refl _ _).alloc (Nat.le_refl _) _)) news_one (by intro u hu; simp at hu; subst hu; rfl) (by simp only [maxLen]; omega) (by omega) (by simp; omega) ?_; intro ov' w3 hs3 hb3 _)
      have hb3 := (HB.out.alloc HB.out.size _).trans hb3
      go_ret
      refine ⟨_, rfl, ?_, hb3⟩
      rw [← HE.out, ← HEND.out.2, ← HEND.out.1, u8s_append]
      exact hs3
end Go.Proofs.Ytipmddjoajojiaa
