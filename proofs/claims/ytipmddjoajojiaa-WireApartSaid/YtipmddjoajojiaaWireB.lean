/-
  Contracts: lists of numbers as bytes.
-/
import Derived.Test.YtipmddjoajojiaaWireA
namespace Go.Proofs.Ytipmddjoajojiaa
open Go.RowKit
set_option linter.unusedVariables false

theorem encAll_one (n : Int) : mth.encAll [n] = mth.encI n := by simp [mth.encAll]

theorem List_ref (A : Option Addr) (n c : Nat) (l : List Int) (w : World) (ha : At w A n (i64s l)) (hl : l.length = n) (hok : Ok64 l) (hn : n ≤ 65536) :
    Calls Try.prog 9 #[.slice A n c] w (RetSl w 1 (mth.encL l).length (u8s (mth.encL l))) := by
  obtain ⟨i0, hi, hz0, hz1, hz2⟩ := info_parts u8_info
  have HL := Lib.hid hl
  have HA := Lib.hid ha
  have HO := Lib.hid hok
  have HN := Lib.hid hn
  clear hl ha hok
  go_enter Try.func9, Try.ntmps9
  go_wp2_with (go_at_call 11; refine (Bytes_ref _ _ (by omega) (by omega)).mono ?_; rintro e w1 ⟨v1, rfl, hs1, hb1⟩)
  have HS1 := Lib.hid hs1
  clear hs1
  go_loopw [3, 11] (fun ov iv wr => ∃ k : Nat, k ≤ n ∧ iv = .int .i64 k ∧ Sl wr w.heap.size 1 ov (mth.encI n ++ mth.encAll (l.take k)).length (u8s (mth.encI n ++ mth.encAll (l.take k))) ∧ Below w.heap.size w wr) (fun _ iv _ => n - (intOf iv).toNat)
  case atStart => exact ⟨0, by omega, rfl, by simpa [mth.encAll] using HS1.out, hb1⟩
  case round =>
    obtain ⟨k, hk, rfl, hsl, hbr⟩ := hrel
    have HS := Lib.hid hsl
    have HB := Lib.hid hbr
    have hsw := hbr.size
    clear hsl hbr
    by_cases hlt : k < n
    · obtain ⟨ad, rfl, hc⟩ := HA.out.int HL.out hlt HB.out
      have hx := HO.out (l[k]'(by have := HL.out; omega)) (List.getElem_mem _)
      have HT := Lib.hid (take_snoc l k (by have := HL.out; omega))
      generalize l[k]'(by have := HL.out; omega) = x at *
      obtain ⟨x1, x2⟩ := hx
      have hlen : (mth.encI (n : Int) ++ mth.encAll (l.take k)).length ≤ 655380 := by
        have h1 := (mth.enc_len (mth.zig (n : Int))).2
        have h2 := mth.encAll_len (l.take k)
        have h3 : (l.take k).length ≤ k := List.length_take_le _ _
        have h4 := HN.out
        simp only [List.length_append, mth.encI]
        omega
      have hxl := (mth.enc_len (mth.zig x)).2
      have HLEN := Lib.hid hlen
      have HXL : Hid ((mth.encI x).length ≤ 10) := Lib.hid hxl
      have HD : Hid (mth.encI (n : Int) ++ mth.encAll (l.take (k + 1)) = (mth.encI (n : Int) ++ mth.encAll (l.take k)) ++ mth.encI x) := Lib.hid (by
        rw [HT.out, mth.encAll_append, encAll_one, List.append_assoc])
      clear hlen hxl
      generalize mth.encI (n : Int) ++ mth.encAll (l.take k) = D at *
      go_wp2_with (first
        | (go_at_call 11; refine (Bytes_ref _ _ x1 x2).mono ?_; rintro e w2 ⟨v2, rfl, hs2, hb2⟩)
        | (at_builtin; refine wpList_append_sl rfl (.tmp 15) (.tmp 17) _ rfl 5 i0 _ 1 Try.underlying22 hi hz0 hz1 hz2 rfl (HS.out.below hb2) hs2.rd (u8s_one _) (by have := HLEN.out; have := HXL.out; simp only [maxLen]; omega) (by have := HLEN.out; have := HXL.out; omega) (by have := hb2.size; omega) ?_; intro ov' w3 hs3 hb3 _))
      have hb4 := (HB.out.trans (hb2.mono hsw)).trans hb3
      go_roundw
      case rel => exact ⟨k + 1, by omega, by go_num, by rw [HD.out, List.length_append, u8s_append]; exact hs3, hb4⟩
      case measure => simp [intOf]; omega
    · obtain rfl : k = n := by omega
      have HT : Hid (mth.encI (k : Int) ++ mth.encAll (l.take k) = mth.encL l) := Lib.hid (by
        have := HL.out
        rw [List.take_of_length_le (by omega), mth.encL, this])
      go_wp2_with fail
      go_ret
      exact ⟨_, rfl, by rw [← HT.out]; exact HS.out, HB.out⟩

theorem PutList_any (v : Value) (m : Nat) (xs : List Value) (A : Option Addr) (n c : Nat) (l : List Int) (w : World) (h : Rd w 1 v m xs) (h1 : ∀ u ∈ xs, u.oneCell' = true) (hm : m ≤ 65536)
    (ha : At w A n (i64s l)) (hl : l.length = n) (hok : Ok64 l) (hn : n ≤ 65536) :
    Calls Try.prog 8 #[v, .slice A n c] w (RetSl w 1 (m + (mth.encL l).length) (xs ++ u8s (mth.encL l))) := by
  have HL := Lib.hid hl
  have HA := Lib.hid ha
  have HO := Lib.hid hok
  have HN := Lib.hid hn
  have HM := Lib.hid hm
  have HV := Lib.hid h
  have H1 : Hid (∀ u ∈ xs, u.oneCell' = true) := Lib.hid h1
  clear hl ha hok h h1 hm
  go_enter Try.func8, Try.ntmps8
  go_wp2_with (go_at_call 10; refine (Put_any _ m xs _ _ HV.out H1.out (by have := HM.out; omega) (by omega) (by omega)).mono ?_; rintro e w1 ⟨v1, rfl, hs1, hb1⟩)
  have HS1 := Lib.hid hs1
  clear hs1
  go_loopw [5, 14] (fun ov iv wr => ∃ k : Nat, k ≤ n ∧ iv = .int .i64 k ∧ Sl wr w.heap.size 1 ov (m + (mth.encI n ++ mth.encAll (l.take k)).length) (xs ++ u8s (mth.encI n ++ mth.encAll (l.take k))) ∧ Below w.heap.size w wr) (fun _ iv _ => n - (intOf iv).toNat)
  case atStart => exact ⟨0, by omega, rfl, by simpa [mth.encAll] using HS1.out, hb1⟩
  case round =>
    obtain ⟨k, hk, rfl, hsl, hbr⟩ := hrel
    have HS := Lib.hid hsl
    have HB := Lib.hid hbr
    have hsw := hbr.size
    clear hsl hbr
    by_cases hlt : k < n
    · obtain ⟨ad, rfl, hc⟩ := HA.out.int HL.out hlt HB.out
      have hx := HO.out (l[k]'(by have := HL.out; omega)) (List.getElem_mem _)
      have HT := Lib.hid (take_snoc l k (by have := HL.out; omega))
      generalize l[k]'(by have := HL.out; omega) = x at *
      obtain ⟨x1, x2⟩ := hx
      have hlen : (mth.encI (n : Int) ++ mth.encAll (l.take k)).length ≤ 655380 := by
        have h1 := (mth.enc_len (mth.zig (n : Int))).2
        have h2 := mth.encAll_len (l.take k)
        have h3 : (l.take k).length ≤ k := List.length_take_le _ _
        have h4 := HN.out
        simp only [List.length_append, mth.encI]
        omega
      have HLEN := Lib.hid hlen
      have HD : Hid (mth.encI (n : Int) ++ mth.encAll (l.take (k + 1)) = (mth.encI (n : Int) ++ mth.encAll (l.take k)) ++ mth.encI x) := Lib.hid (by
        rw [HT.out, mth.encAll_append, encAll_one, List.append_assoc])
      clear hlen
      generalize mth.encI (n : Int) ++ mth.encAll (l.take k) = D at *
      go_wp2_with (go_at_call 10; refine (Put_any _ _ _ _ _ HS.out.rd (by intro u hu; rcases List.mem_append.1 hu with hu | hu; exact H1.out u hu; exact u8s_one _ u hu) (by have := HM.out; have := HLEN.out; omega) x1 x2).mono ?_; rintro e w2 ⟨v2, rfl, hs2, hb2⟩)
      have hb4 := HB.out.trans (hb2.mono hsw)
      have hs4 := hs2.weak hsw
      go_roundw
      case rel => exact ⟨k + 1, by omega, by go_num, by rw [HD.out, List.length_append, u8s_append, ← List.append_assoc, ← Nat.add_assoc]; exact hs4, hb4⟩
      case measure => simp [intOf]; omega
    · obtain rfl : k = n := by omega
      have HT : Hid (mth.encI (k : Int) ++ mth.encAll (l.take k) = mth.encL l) := Lib.hid (by
        have := HL.out
        rw [List.take_of_length_le (by omega), mth.encL, this])
      go_wp2_with fail
      go_ret
      exact ⟨_, rfl, by rw [← HT.out]; exact HS.out, HB.out⟩
end Go.Proofs.Ytipmddjoajojiaa
