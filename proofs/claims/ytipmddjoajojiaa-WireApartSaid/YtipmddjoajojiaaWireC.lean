/-
  Contracts: a number taken from bytes.
-/
import Derived.Test.YtipmddjoajojiaaWireA
import Derived.Test.YtipmddjoajojiaaKitN
import Derived.Test.YtipmddjoajojiaaKitF
import Derived.Test.YtipmddjoajojiaaKitE
import Derived.Test.YtipmddjoajojiaaMathT
import Derived.Lib.Zigzag
import Derived.OwnWalk
namespace Go.Proofs.Ytipmddjoajojiaa
open Go.RowKit
set_option linter.unusedVariables false

theorem u8_andNot128 (c : Nat) (h : c < 256) : bits .andNot .u8 (c : Int) 128 = ((c % 128 : Nat) : Int) := by
  have : ∀ c : Fin 256, bits .andNot .u8 (c.val : Int) 128 = ((c.val % 128 : Nat) : Int) := by decide +kernel
  exact this ⟨c, h⟩
theorem u8_and128 (c : Nat) (h : c < 256) : bits .and .u8 (c : Int) 128 = if (128 : Int) ≤ (c : Int) then 128 else 0 := by
  have : ∀ c : Fin 256, bits .and .u8 (c.val : Int) 128 = if (128 : Int) ≤ (c.val : Int) then 128 else 0 := by decide +kernel
  exact this ⟨c, h⟩

theorem xor_comm_i64 (a b : Int) : bits .xor .i64 a b = bits .xor .i64 b a := by
  show IntKind.i64.wrap ((BitVec.ofInt 64 a ^^^ BitVec.ofInt 64 b).toNat : Int) = IntKind.i64.wrap ((BitVec.ofInt 64 b ^^^ BitVec.ofInt 64 a).toNat : Int)
  rw [BitVec.xor_comm]
theorem xor_zero_i64 (x : Nat) (hx : x < 9223372036854775808) : bits .xor .i64 (x : Int) 0 = (x : Int) := by
  show IntKind.i64.wrap ((BitVec.ofInt 64 (x : Int) ^^^ BitVec.ofInt 64 0).toNat : Int) = _
  have h2 : (BitVec.ofInt 64 (x : Int)).toNat = x := by
    rw [BitVec.ofInt_natCast, BitVec.toNat_ofNat]; exact Nat.mod_eq_of_lt (by omega)
  have h1 : (BitVec.ofInt 64 0).toNat = 0 := by decide
  rw [BitVec.toNat_xor, h1, h2, Nat.xor_zero, IntKind.wrap_i64]
  omega
theorem zag_bits (x : Nat) (h : x < 18446744073709551616) : bits .xor .i64 ((x : Int) / 2) (wrap64 (-wrap64 (bits .and .u64 (x : Int) 1))) = mth.zag x := by
  rw [Lib.u64_and1 (x : Int) (by omega) (by omega)]
  have e : ((x : Int) / 2) = ((x / 2 : Nat) : Int) := by omega
  unfold mth.zag
  by_cases h0 : x % 2 = 0
  · have e0 : (x : Int) % 2 = 0 := by omega
    rw [if_pos h0, e, e0]
    rw [show wrap64 (-wrap64 0) = 0 by decide +kernel]
    exact xor_zero_i64 (x / 2) (by omega)
  · have e0 : (x : Int) % 2 = 1 := by omega
    rw [if_neg h0, e, e0]
    have e1 : wrap64 (-wrap64 1) = -1 := by decide +kernel
    rw [e1, xor_comm_i64, Lib.i64_not _ (by omega)]

theorem zag_c (x : Nat) (h : x < 18446744073709551616) (w : World) :
    Calls Try.prog 24 #[.int .u64 x] w fun e w' => e = .returned (.int .i64 (mth.zag x)) ∧ w = w' := by
  go_enter Try.func24, Try.ntmps24
  go_wp2
  go_ret
  refine ⟨ret_int ?_, rfl⟩
  exact zag_bits x h

theorem or_part (X d k : Nat) (hX : X < 128 ^ k) (h64 : X + 128 ^ k * d < 18446744073709551616) : bits .or .u64 (X : Int) (IntKind.u64.wrap ((d : Int) * 2 ^ (k * 7))) = ((X + 128 ^ k * d : Nat) : Int) := by
  have hp : 128 ^ k = 2 ^ (k * 7) := by rw [Nat.mul_comm k 7, Nat.pow_mul]
  rw [hp] at hX h64 ⊢
  have hdn : d * 2 ^ (k * 7) < 18446744073709551616 := by rw [Nat.mul_comm]; omega
  have e : IntKind.u64.wrap ((d : Int) * 2 ^ (k * 7)) = ((d * 2 ^ (k * 7) : Nat) : Int) := by
    have h1 : (d : Int) * 2 ^ (k * 7) = ((d * 2 ^ (k * 7) : Nat) : Int) := by simp
    rw [h1, IntKind.wrap_u64]
    omega
  rw [e, u64_or_nat _ _ (by omega) hdn]
  congr 1
  have := Nat.shiftLeft_add_eq_or_of_lt hX d
  rw [Nat.shiftLeft_eq] at this
  rw [Nat.or_comm, ← this, Nat.mul_comm d, Nat.add_comm]

theorem rd_drop {w : World} {ad : Addr} {n c j : Nat} {xs : List Value} (h : At w (some ad) n xs) (hl : xs.length = n) (h0 : 0 < j) (hj : j ≤ n) (hc : n ≤ c) :
    Rd w 1 (.slice (some ⟨ad.block, ad.off + j, none⟩) (n - j) (c - j)) (n - j) (xs.drop j) := by
  refine ⟨_, _, rfl, by omega, by simp [hl], fun hp => ?_⟩
  obtain ⟨ad', e, hb, hcell⟩ := h (by omega)
  cases e
  refine ⟨_, rfl, hb, fun i u hu => ?_⟩
  rw [List.getElem?_drop] at hu
  have := hcell (j + i) u hu
  have e1 : (⟨ad.block, ad.off + j, none⟩ : Addr).add i = ad.add (j + i) := by
    have hji : j + i ≠ 0 := by omega
    unfold Addr.add
    by_cases hi : i = 0 <;> simp [hi] <;> omega
  rw [e1]
  exact this

theorem rd_drop' {w : World} {ad : Addr} {n c j : Nat} {xs : List Value} (h : At w (some ad) n xs) (hl : xs.length = n) (h0 : 0 < j) (hj : j ≤ n) (hc : n ≤ c) :
    Rd w 1 (.slice (if c = j then some ad else some ⟨ad.block, ad.off + j, none⟩) (n - j) (c - j)) (n - j) (xs.drop j) := by
  by_cases hcj : c = j
  · rw [if_pos hcj]
    exact ⟨_, _, rfl, by omega, by simp [hl], fun hp => absurd hp (by omega)⟩
  · rw [if_neg hcj]
    exact rd_drop h hl h0 hj hc

theorem Clone_f (v : Value) (n : Nat) (xs : List Value) (w : World) (h : Rd w 1 v n xs) (h1 : ∀ u ∈ xs, u.oneCell' = true) (hn : n ≤ 70368744177664) :
    Calls Try.prog 21 #[v] w fun e w' => ∃ v, e = .returned v ∧ Sl w' w.heap.size 1 v n xs ∧ Below w.heap.size w w' ∧ Fresh w.heap.size v := by
  obtain ⟨i0, hi, hz0, hz1, hz2⟩ := info_parts u8_info
  have HR := Lib.hid h
  obtain ⟨A, c, rfl, hc, hl, ha⟩ := h
  have he := fun W => run_eql_slice_nil' (P := Try.prog) W 22 5 A n c 0 0 Try.underlying22
  cases A with
  | none =>
    have h0 : n = 0 := by
      apply Classical.byContradiction
      intro hn
      obtain ⟨ad, e1, _⟩ := ha (by omega)
      cases e1
    subst h0
    have hx : xs = [] := List.eq_nil_of_length_eq_zero (by simpa using hl)
    subst hx
    clear HR ha hl
    go_enter Try.func21, Try.ntmps21
    go_wp2_with fail
    go_ret
    exact ⟨_, rfl, Sl.nil _ _ _, Below.refl _ _, Fresh.nil _⟩
  | some ad =>
    clear ha hl hc
    go_enter Try.func21, Try.ntmps21
    go_wp2_with (at_builtin; refine wpList_append_fr rfl (.tmp 5) (.tmp 6) _ rfl 5 i0 _ 1 Try.underlying22 hi hz0 hz1 hz2 rfl (sl_empty w 5 w.heap.size 1) (HR.out.below ((Below.refl _ _).alloc (Nat.le_refl _) _)) h1 (by simp only [maxLen]; omega) (by omega) (by simp) ?_; intro v2 w2 hs2 hb2 _ hf2)
    go_ret
    rw [Nat.zero_add, List.nil_append] at hs2
    exact ⟨_, rfl, hs2, ((Below.refl _ _).alloc (Nat.le_refl _) _).trans hb2, hf2 (Or.inr (fun A n c e hn => by cases e; exact absurd hn (by omega)))⟩

/-- what Take hands back -/
def RetTake (w : World) (n : Nat) (l : List Nat) (e : Ending) (w' : World) : Prop :=
  ∃ v, e = .returned (.tuple #[.int .i64 (mth.tk 0 0 l).1, v, errV (mth.tk 0 0 l).2.2]) ∧ Below w.heap.size w w' ∧
    (((mth.tk 0 0 l).2.2 = 0 ∧ Sl w' w.heap.size 1 v (n - (mth.tk 0 0 l).2.1) (u8s (l.drop (mth.tk 0 0 l).2.1)) ∧ Fresh w.heap.size v) ∨ ((mth.tk 0 0 l).2.2 ≠ 0 ∧ v = .slice none 0 0))

set_option maxHeartbeats 2000000 in
theorem Take_c (A : Option Addr) (n c : Nat) (l : List Nat) (w : World) (ha : At w A n (u8s l)) (hl : l.length = n) (hb : ∀ x ∈ l, x < 256) (hc : n ≤ c) (hn : n ≤ 65536) :
    Calls Try.prog 14 #[.slice A n c] w (RetTake w n l) := by
  have HA := Lib.hid ha
  have HL := Lib.hid hl
  have HB := Lib.hid hb
  clear ha hl hb
  obtain ⟨m, hm, hmn, hm10⟩ : ∃ m : Nat, (m : Int) = min (n : Int) 10 ∧ m ≤ n ∧ m ≤ 10 := ⟨min n 10, by omega, by omega, by omega⟩
  go_enter Try.func14, Try.ntmps14
  go_wp2_with fail
  all_goals (
    go_loopw [5, 14] (fun xv iv wr => ∃ (k X : Nat), k ≤ m ∧ xv = .int .u64 X ∧ iv = .int .i64 k ∧ X < 128 ^ k ∧ mth.tk 0 0 l = mth.tk k X (l.drop k) ∧ wr = w) (fun _ iv _ => m - (intOf iv).toNat)
    case atStart => exact ⟨0, 0, by omega, rfl, rfl, by simp, by simp, rfl⟩
    case round =>
      obtain ⟨k, X, hk, rfl, rfl, hX, htk, rfl⟩ := hrel
      have HTK := Lib.hid htk
      have HX := Lib.hid hX
      clear htk hX
      by_cases hlt : k < m
      · obtain ⟨ad, rfl, hcell, _⟩ := HA.out.u8' HL.out (k := k) (by omega) (Below.refl _ _)
        have hkl : k < l.length := by have := HL.out; omega
        have HD : Hid (l.drop k = l[k] :: l.drop (k + 1)) := Lib.hid (List.drop_eq_getElem_cons hkl)
        have hc256 : l[k] < 256 := HB.out _ (List.getElem_mem _)
        generalize l[k] = b at *
        have e1 := u8_andNot128 b hc256
        have e2 := u8_and128 b hc256
        by_cases ha : (k : Int) = 9 ∧ 1 < (b : Int)
        · obtain ⟨ha1, ha2⟩ := ha
          have e9 : ((k : Int) == 9) = true := by simpa using ha1
          have HA1 := Lib.hid ha1
          clear ha1
          go_wp2_with fail
          go_ret3
          have ht : mth.tk 0 0 l = (0, 0, 2) := by rw [HTK.out, HD.out, mth.tk_nine (by have := HA1.out; omega) (by omega)]
          exact ⟨_, by rw [ht]; rfl, Below.refl _ _, Or.inr (by rw [ht]; exact ⟨by decide, rfl⟩)⟩
        have h64 : X + 128 ^ k * (b % 128) < 18446744073709551616 := mth.below64 k X (b % 128) (by omega) HX.out (by omega) (by omega)
        have e3 : bits .or .u64 (X : Int) (IntKind.u64.wrap ((b : Int) % 128 * 2 ^ (k * 7))) = ((X + 128 ^ k * (b % 128) : Nat) : Int) := or_part X (b % 128) k HX.out h64
        have hps := mth.pow_step k X (b % 128) HX.out (by omega)
        have H64 := Lib.hid h64
        have HPS := Lib.hid hps
        have E3 := Lib.hid e3
        clear h64 hps e3
        have HMO := Lib.hid (fun h => mth.tk_more (i := k) (x := X) (c := b) (t := l.drop (k + 1)) (by omega) (by omega) h)
        have HZE := Lib.hid (fun h h' => mth.tk_zero (i := k) (x := X) (c := b) (t := l.drop (k + 1)) (by omega) h h')
        have HEN := Lib.hid (fun h h' => mth.tk_end (i := k) (x := X) (c := b) (t := l.drop (k + 1)) (by omega) (by omega) h h')
        by_cases hb8 : (128 : Int) ≤ (b : Int)
        · have hn2 : (1 : Int) < (b : Int) := by omega
          have hk9 : ¬ (k : Int) = 9 := by omega
          have hm := HMO.out (by omega)
          have HT : Hid (mth.tk 0 0 l = mth.tk (k + 1) (X + 128 ^ k * (b % 128)) (l.drop (k + 1))) := Lib.hid (by rw [HTK.out, HD.out, hm])
          clear hm
          generalize X + 128 ^ k * (b % 128) = Y at *
          go_wp2_with fail
          go_roundw
          case rel => exact ⟨k + 1, Y, by omega, by rw [E3.out], by go_num, HPS.out, HT.out, trivial⟩
          case measure => simp [intOf]; omega
        have e2' : bits .and .u8 (b : Int) 128 = 0 := by rw [e2, if_neg hb8]
        by_cases hz : (b : Int) = 0 ∧ 0 < (k : Int)
        · obtain ⟨hz1, hz2⟩ := hz
          have ht : mth.tk 0 0 l = (0, 0, 2) := by rw [HTK.out, HD.out, HZE.out (by omega) (by omega)]
          have HT := Lib.hid ht
          have hk9 : ¬ ((k : Int) = 9 ∧ 1 < (b : Int)) := by omega
          have n1 : ¬ (1 : Int) < (b : Int) := by omega
          clear ht e2
          go_wp2_with fail
          all_goals go_ret3
          all_goals exact ⟨_, by rw [HT.out]; rfl, Below.refl _ _, Or.inr (by rw [HT.out]; exact ⟨by decide, rfl⟩)⟩
        · have ht : mth.tk 0 0 l = (mth.zag (X + 128 ^ k * b), k + 1, 0) := by rw [HTK.out, HD.out, HEN.out (by omega) (by omega)]
          have HT := Lib.hid ht
          have hbb : b % 128 = b := by omega
          rw [hbb] at H64 HPS E3
          generalize X + 128 ^ k * b = Y at *
          have hza := fun W => zag_c Y H64.out W
          rw [← E3.out] at hza
          have HZA := Lib.hid hza
          clear hza
          have arms : (((k : Int) == 9) = true ∧ ¬ (1 : Int) < (b : Int) ∧ ((b : Int) == 0) = false) ∨ (((k : Int) == 9) = false ∧ ((b : Int) == 0) = false) ∨ (((k : Int) == 9) = false ∧ ((b : Int) == 0) = true ∧ ¬ (0 : Int) < (k : Int)) := by
            simp only [beq_iff_eq, beq_eq_false_iff_ne]
            omega
          have HHZ := Lib.hid (And.intro hz ha)
          clear ht e2 hz ha hbb
          rcases arms with ⟨a1, a2, a3⟩ | ⟨a1, a3⟩ | ⟨a1, a3, a4⟩
          all_goals (
            go_wp2_with fail
            refine wp_region_E [(true, 0), (true, 2), (true, 3), (true, 4), (true, 5), (false, 1), (false, 6), (true, 7), (true, 8), (true, 9)] (by kernel_rfl) (by kernel_rfl) (by kernel_rfl) (by kernel_rfl) ?_
            repeat (refine wpE_quiet rfl ?_; go_big_quiet_step (fail); refine wpQuiet_nil ?_)
            refine wpE_event rfl rfl (fun K hK => ?_)
            go_step
            refine (HZA.out _).mono ?_
            rintro e w1 ⟨rfl, rfl⟩
            refine hK _ _ (Lat.self _) ?_
            clear hK K
            refine wpE_event rfl rfl (fun K hK => ?_)
            go_step
            refine (Clone_f _ (n - (k + 1)) (u8s (l.drop (k + 1))) _ (by rw [show u8s (l.drop (k + 1)) = (u8s l).drop (k + 1) from by simp [u8s]]; first | exact (rd_drop (j := k + 1) (c := c) HA.out (by rw [u8s_len]; exact HL.out) (by omega) (by omega) hc).below (Below.refl _ _).drew | exact (rd_drop' (j := k + 1) (c := c) HA.out (by rw [u8s_len]; exact HL.out) (by omega) (by omega) hc).below (Below.refl _ _).drew) (u8s_one _) (by omega)).mono ?_
            rintro e w2 ⟨v2, rfl, hs2, hb2, hf2⟩
            refine hK _ _ (Lat.of hb2) ?_
            clear hK K
            repeat (refine wpE_quiet rfl ?_; go_big_quiet_step (fail); refine wpQuiet_nil ?_)
            refine wpE_nil ?_
            clear hc256 hm10 hm hn hcell a1 a3 e1 e2' hlt hk hkl hmn hb8
            try clear a2
            try clear a4
            try clear h
            go_wp2_with fail
            all_goals go_ret3
            all_goals exact ⟨_, by rw [HT.out]; rfl, (Below.refl _ _).drew.trans hb2, Or.inl (by rw [HT.out]; exact ⟨rfl, by simpa using hs2, by simpa using hf2⟩)⟩)
      · have hd : l.drop k = [] ∨ 10 ≤ k := by
          have := HL.out
          by_cases h10 : 10 ≤ k
          · exact Or.inr h10
          · exact Or.inl (List.drop_eq_nil_of_le (by omega))
        have ht : mth.tk 0 0 l = (0, 0, 7) := by
          rw [HTK.out]
          rcases hd with h | h
          · rw [h]; rfl
          · exact mth.tk_ten _ _ _ h
        clear hd
        have HT := Lib.hid ht
        clear ht
        go_wp2_with fail
        all_goals go_ret3
        all_goals exact ⟨_, by rw [HT.out]; rfl, Below.refl _ _, Or.inr (by rw [HT.out]; exact ⟨by decide, rfl⟩)⟩)
end Go.Proofs.Ytipmddjoajojiaa
