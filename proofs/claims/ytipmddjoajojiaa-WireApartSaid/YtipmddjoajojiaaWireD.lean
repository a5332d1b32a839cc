/-
  Contracts: a number taken from bytes, as the document tells it.
-/
import Derived.Test.YtipmddjoajojiaaWireC
namespace Go.Proofs.Ytipmddjoajojiaa
open Go.RowKit
set_option linter.unusedVariables false

theorem ret3 {a a' b b' c c' : Int} (h1 : a = a') (h2 : b = b') (h3 : c = c') : Ending.returned (.tuple #[.int .i64 a, .int .i64 b, .int .i64 c]) = Ending.returned (.tuple #[.int .i64 a', .int .i64 b', .int .i64 c']) := by rw [h1, h2, h3]
theorem zag_e (Y : Nat) (h : Y < 18446744073709551616) (he : Y % 2 = 0) : wrap64 (IntKind.u64.wrap ((Y : Int) / 2)) = mth.zag Y := by
  rw [IntKind.wrap_u64, mth.zag, if_pos he]
  unfold wrap64
  omega
theorem zag_o (Y : Nat) (h : Y < 18446744073709551616) (he : ¬ Y % 2 = 0) : wrap64 (wrap64 (-wrap64 (IntKind.u64.wrap ((Y : Int) / 2))) - 1) = mth.zag Y := by
  rw [IntKind.wrap_u64, mth.zag, if_neg he]
  unfold wrap64
  omega

set_option maxHeartbeats 2000000 in
theorem TakeRef_c (A : Option Addr) (n c : Nat) (l : List Nat) (w : World) (ha : At w A n (u8s l)) (hl : l.length = n) (hb : ∀ x ∈ l, x < 256) (hc : n ≤ c) (hn : n ≤ 65536) :
    Calls Try.prog 15 #[.slice A n c] w (Ret w (.tuple #[.int .i64 (mth.tk 0 0 l).1, .int .i64 (mth.tk 0 0 l).2.1, .int .i64 (mth.tk 0 0 l).2.2])) := by
  have HA := Lib.hid ha
  have HL := Lib.hid hl
  have HB := Lib.hid hb
  clear ha hl hb
  go_enter Try.func15, Try.ntmps15
  go_wp2_with fail
  go_loopw [5, 6, 7] (fun xv mv iv wr => ∃ (k X M : Nat), k ≤ 9 ∧ k ≤ n ∧ xv = .int .u64 X ∧ mv = .int .u64 M ∧ iv = .int .i64 k ∧ X < 128 ^ k ∧ M = 128 ^ k ∧ mth.tk 0 0 l = mth.tk k X (l.drop k) ∧ Below w.heap.size w wr) (fun _ _ iv _ => n - (intOf iv).toNat)
  case atStart => exact ⟨0, 0, 1, by omega, by omega, rfl, rfl, rfl, by simp, by simp, by simp, Below.refl _ _⟩
  case round =>
    obtain ⟨k, X, M, hk9, hkn, rfl, rfl, rfl, hX, hM, htk, hbr⟩ := hrel
    have HTK := Lib.hid htk
    have HX := Lib.hid hX
    have HM := Lib.hid hM
    have HBR := Lib.hid hbr
    clear htk hX hM hbr
    by_cases hlt : k < n
    · obtain ⟨ad, rfl, hcell, hlater⟩ := HA.out.u8' HL.out (k := k) (by omega) HBR.out
      have hkl : k < l.length := by have := HL.out; omega
      have HD : Hid (l.drop k = l[k] :: l.drop (k + 1)) := Lib.hid (List.drop_eq_getElem_cons hkl)
      have hc256 : l[k] < 256 := HB.out _ (List.getElem_mem _)
      generalize l[k] = b at *
      by_cases ha : (k : Int) = 9 ∧ 1 < (b : Int)
      · obtain ⟨ha1, ha2⟩ := ha
        have e9 : ((k : Int) == 9) = true := by simpa using ha1
        have HA1 := Lib.hid ha1
        clear ha1
        go_wp2_with fail
        go_ret3
        have ht : mth.tk 0 0 l = (0, 0, 2) := by rw [HTK.out, HD.out, mth.tk_nine (by have := HA1.out; omega) (by omega)]
        exact ⟨by rw [ht]; rfl, HBR.out⟩
      have h64 : X + 128 ^ k * (b % 128) < 18446744073709551616 := mth.below64 k X (b % 128) (by omega) HX.out (by omega) (by omega)
      have hps := mth.pow_step k X (b % 128) HX.out (by omega)
      have hM64 : M ≤ 9223372036854775808 := by rw [HM.out]; exact mth.pow_le9 k (by omega)
      have hMs : k ≤ 8 → M * 128 = 128 ^ (k + 1) ∧ M * 128 ≤ 9223372036854775808 := fun h => by
        have := mth.pow_le9 (k + 1) (by omega)
        rw [HM.out, ← Nat.pow_succ]
        exact ⟨rfl, this⟩
      have HMS := Lib.hid hMs
      have H64 := Lib.hid h64
      have HPS := Lib.hid hps
      have HMO := Lib.hid (fun h => mth.tk_more (i := k) (x := X) (c := b) (t := l.drop (k + 1)) (by omega) (by omega) h)
      have HZE := Lib.hid (fun h h' => mth.tk_zero (i := k) (x := X) (c := b) (t := l.drop (k + 1)) (by omega) h h')
      have HEN := Lib.hid (fun h h' => mth.tk_end (i := k) (x := X) (c := b) (t := l.drop (k + 1)) (by omega) (by omega) h h')
      clear h64 hps hMs
      have e4 : IntKind.u64.wrap ((M : Int) * ((b : Int) % 128)) = ((M * (b % 128) : Nat) : Int) := by
        have : ((M : Int) * ((b : Int) % 128)) = ((M * (b % 128) : Nat) : Int) := by simp
        rw [this, IntKind.wrap_u64]
        have := H64.out
        rw [← HM.out] at this
        omega
      have e5 : IntKind.u64.wrap ((X : Int) + ((M * (b % 128) : Nat) : Int)) = ((X + 128 ^ k * (b % 128) : Nat) : Int) := by
        rw [IntKind.wrap_u64]
        have := H64.out
        rw [← HM.out] at this ⊢
        omega
      have e6 : IntKind.u64.wrap ((X : Int) + IntKind.u64.wrap ((M : Int) * ((b : Int) % 128))) = ((X + 128 ^ k * (b % 128) : Nat) : Int) := by rw [e4, e5]
      clear e4 e5
      by_cases hb8 : (128 : Int) ≤ (b : Int)
      · have hn2 : (1 : Int) < (b : Int) := by omega
        have hk9' : ¬ (k : Int) = 9 := by omega
        have hm := HMO.out (by omega)
        have HT : Hid (mth.tk 0 0 l = mth.tk (k + 1) (X + 128 ^ k * (b % 128)) (l.drop (k + 1))) := Lib.hid (by rw [HTK.out, HD.out, hm])
        clear hm
        generalize X + 128 ^ k * (b % 128) = Y at *
        have hki : (k : Int) ≤ 8 := by omega
        have hwm : IntKind.u64.wrap ((M : Int) * 128) = ((M * 128 : Nat) : Int) := by rw [IntKind.wrap_u64]; have := (HMS.out (by omega)).2; omega
        have HWM := Lib.hid hwm
        have E6 := Lib.hid e6
        have HC := Lib.hid hc256
        have HN := Lib.hid hn
        clear hc256 hn hk9 ha hwm hM64 e6
        go_wp2_with fail
        go_roundw
        case rel => exact ⟨k + 1, Y, M * 128, by omega, by omega, by rw [E6.out], by rw [HWM.out], by go_num, HPS.out, (HMS.out (by omega)).1, HT.out, HBR.out⟩
        case measure => simp [intOf]; omega
      · by_cases hz : (b : Int) = 0 ∧ 0 < (k : Int)
        · obtain ⟨hz1, hz2⟩ := hz
          have ht : mth.tk 0 0 l = (0, 0, 2) := by rw [HTK.out, HD.out, HZE.out (by omega) (by omega)]
          have HT := Lib.hid ht
          have n1 : ¬ (1 : Int) < (b : Int) := by omega
          have hki : (k : Int) ≤ 9 := by omega
          have E6 := Lib.hid e6
          have a3 : ((b : Int) == 0) = true := by simpa using hz1
          have arms : ((k : Int) == 9) = true ∨ ((k : Int) == 9) = false := by cases ((k : Int) == 9) <;> simp
          clear ht hc256 hn hk9 ha hM64 e6 hz1
          rcases arms with a1 | a1
          all_goals (
            go_wp2_with fail
            all_goals go_ret3
            all_goals exact ⟨by rw [HT.out]; rfl, HBR.out⟩)
        · have ht : mth.tk 0 0 l = (mth.zag (X + 128 ^ k * b), k + 1, 0) := by rw [HTK.out, HD.out, HEN.out (by omega) (by omega)]
          have hbb : b % 128 = b := by omega
          rw [hbb] at e6 H64 HPS
          have arms : (((k : Int) == 9) = true ∧ ¬ (1 : Int) < (b : Int) ∧ ((b : Int) == 0) = false) ∨ (((k : Int) == 9) = false ∧ ((b : Int) == 0) = false) ∨ (((k : Int) == 9) = false ∧ ((b : Int) == 0) = true ∧ ¬ (0 : Int) < (k : Int)) := by
            simp only [beq_iff_eq, beq_eq_false_iff_ne]
            omega
          generalize X + 128 ^ k * b = Y at *
          have HT := Lib.hid ht
          have hki : (k : Int) ≤ 9 := by omega
          clear ht hc256 hn hk9 ha hM64 hbb hz
          by_cases hp : Y % 2 = 0
          · have pz := zag_e Y H64.out hp
            have p1 : ((Y : Int) % 2 == 0) = true := by simp; omega
            clear hp
            rcases arms with ⟨a1, a2, a3⟩ | ⟨a1, a3⟩ | ⟨a1, a3, a4⟩
            all_goals (
              go_wp2_with fail
              all_goals go_ret3
              all_goals refine ⟨?_, HBR.out⟩
              all_goals rw [HT.out]
              all_goals exact ret3 (by first | rfl | exact pz) rfl rfl)
          · have pz := zag_o Y H64.out hp
            have p1 : ((Y : Int) % 2 == 0) = false := by simp; omega
            clear hp
            rcases arms with ⟨a1, a2, a3⟩ | ⟨a1, a3⟩ | ⟨a1, a3, a4⟩
            all_goals (
              go_wp2_with fail
              all_goals go_ret3
              all_goals refine ⟨?_, HBR.out⟩
              all_goals rw [HT.out]
              all_goals exact ret3 (by first | rfl | exact pz) rfl rfl)
    · have ht : mth.tk 0 0 l = (0, 0, 7) := by
        rw [HTK.out, List.drop_eq_nil_of_le (by have := HL.out; omega)]
        rfl
      have HT := Lib.hid ht
      clear ht hn hk9
      go_wp2_with fail
      all_goals go_ret3
      all_goals exact ⟨by rw [HT.out]; rfl, HBR.out⟩
end Go.Proofs.Ytipmddjoajojiaa
