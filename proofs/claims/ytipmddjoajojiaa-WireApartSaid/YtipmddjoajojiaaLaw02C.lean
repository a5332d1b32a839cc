/-
  WireBack: what is put is taken, with what stands behind it.
-/
import Derived.Test.YtipmddjoajojiaaLaw02B
namespace Go.Proofs.Ytipmddjoajojiaa
open Go.RowKit
set_option linter.unusedVariables false

theorem encL_len (l : List Int) : (mth.encL l).length ≤ 10 + 10 * l.length := by
  have h1 := (mth.enc_len (mth.zig (l.length : Int))).2
  have h2 := mth.encAll_len l
  simp only [mth.encL, List.length_append, mth.encI]
  omega
theorem encF_byte' (f : Nat) : ∀ x, x < 128 ^ (f + 1) * 2 → ∀ b ∈ mth.encF f x, b < 256 := by
  induction f with
  | zero => intro x hx b hb; simp [mth.encF] at hb; subst hb; omega
  | succ f ih =>
    intro x hx b hb
    by_cases h : x < 128
    · rw [mth.encF_small _ _ h] at hb; simp at hb; omega
    · rw [mth.encF_step _ _ h] at hb
      rcases List.mem_cons.1 hb with e | e
      · omega
      · refine ih (x / 128) ?_ b e
        rw [Nat.pow_succ] at hx
        omega
theorem encI_byte {n : Int} (h1 : -9223372036854775808 ≤ n) (h2 : n ≤ 9223372036854775807) : ∀ b ∈ mth.encI n, b < 256 :=
  encF_byte' 9 _ (Nat.lt_of_lt_of_le (mth.zig_lt n h1 h2) (by decide))
theorem encAll_byte : ∀ l : List Int, Ok64 l → ∀ b ∈ mth.encAll l, b < 256
  | [], _, b, hb => by simp [mth.encAll] at hb
  | n :: l, h, b, hb => by
    rw [mth.encAll] at hb
    have hn := h n (by simp)
    rcases List.mem_append.1 hb with hb | hb
    · exact encI_byte hn.1 hn.2 b hb
    · exact encAll_byte l (fun x hx => h x (by simp [hx])) b hb
theorem encL_byte {l : List Int} (h : Ok64 l) (hl : (l.length : Int) ≤ 9223372036854775807) : ∀ b ∈ mth.encL l, b < 256 := fun b hb => by
  rw [mth.encL] at hb
  rcases List.mem_append.1 hb with hb | hb
  · exact encI_byte (by omega) hl b hb
  · exact encAll_byte l h b hb

theorem PutList_nil (A : Option Addr) (n c : Nat) (l : List Int) (w : World) (ha : At w A n (i64s l)) (hl : l.length = n) (hok : Ok64 l) (hn : n ≤ 65536) :
    Calls Try.prog 8 #[.slice none 0 0, .slice A n c] w (RetSl w 1 (mth.encL l).length (u8s (mth.encL l))) := by
  have h := PutList_any (.slice none 0 0) 0 [] A n c l w (Sl.nil w 0 1).rd (by simp) (by omega) ha hl hok hn
  simpa using h

set_option maxHeartbeats 2000000 in
theorem WireBack_1 (A B : Option Addr) (n c n' c' : Nat) (l : List Int) (b : List Nat) (w : World) (ha : At w A n (i64s l)) (hb : At w B n' (u8s b)) (hla : l.length = n) (hlb : b.length = n') (hok : Ok64 l) (hob : ∀ x ∈ b, x < 256) (hc : n ≤ c) (hc' : n' ≤ c') (hn : (n : Int) ≤ 500) (hn' : (n' : Int) ≤ 500) :
    Calls Try.prog 5 #[.slice A n c, .slice B n' c'] w (Ret w (.bool true)) := by
  obtain ⟨i0, hi, hz0, hz1, hz2⟩ := info_parts u8_info
  have HR : Hid (Rd w 1 (.slice B n' c') n' (u8s b)) := Lib.hid ⟨B, c', rfl, hc', by rw [u8s_len]; omega, hb⟩
  have HI : Hid (Rd w 1 (.slice A n c) n (i64s l)) := Lib.hid ⟨A, c, rfl, hc, by rw [i64s_len]; omega, ha⟩
  have HA := Lib.hid ha
  have HLA := Lib.hid hla
  have HO := Lib.hid hok
  have HLE : Hid ((mth.encL l).length ≤ 6000) := Lib.hid (by have := encL_len l; omega)
  have HBY : Hid (∀ x ∈ mth.encL l ++ b, x < 256) := Lib.hid (fun x hx => by
    rcases List.mem_append.1 hx with h | h
    · exact encL_byte hok (by omega) x h
    · exact hob x h)
  have HBK := Lib.hid (mth.tkL_back l b n hok (by omega) (by omega))
  have HLB := Lib.hid hlb
  clear ha hb hla hlb hok hob
  go_enter Try.func5, Try.ntmps5
  go_wp2_with (first
    | (go_at_call 7; refine (alive_c _).mono ?_; rintro e w1 ⟨rfl, hb1⟩)
    | (go_at_call 8; refine (PutList_nil A n c l _ (HA.out.mono hb1.size (fun q hq => hb1.cell hq)) HLA.out HO.out (by omega)).mono ?_; rintro e w2 ⟨v2, rfl, hs2, hb2⟩; have hbb := hb1.trans (hb2.mono hb1.size))
    | (at_builtin; refine wpList_append_sl rfl (.tmp 22) (.tmp 23) _ rfl 5 i0 _ 1 Try.underlying22 hi hz0 hz1 hz2 rfl hs2 (HR.out.below hbb) (u8s_one _) (by have := HLE.out; simp only [maxLen]; omega) (by have := HLE.out; omega) (by have := hb2.size; omega) ?_; intro v3 w3 hs3 hb3 _; rw [← u8s_append] at hs3; obtain ⟨A3, c3, rfl, hc3, _, ha3⟩ := hs3.rd; have hbc := hbb.trans (hb3.mono hb1.size))
    | (go_at_call 17; refine (TakeList_ok HBK.out ha3 (by have := HLB.out; simp; omega) HBY.out hc3 (by have := HLE.out; omega)).mono ?_; rintro e w4 ⟨v4, r4, rfl, hs4, hr4, hb4⟩; have hbd := hbc.trans (hb4.mono hbc.size))
    | (go_at_call 19; refine (Ints_eq hs4 (HI.out.below hbd) (by have := HLA.out; omega) (by omega)).mono ?_; rintro e w5 ⟨rfl, hb5⟩; have hbe := hbd.trans (hb5.mono hbd.size))
    | (go_at_call 13; refine (Bytes_eq (hr4.below hb5) (HR.out.below hbe)).mono ?_; rintro e w6 ⟨rfl, hb6⟩; have hbf := hbe.trans (hb6.mono hbe.size)))
  go_ret
  exact ⟨rfl, hbf⟩

theorem WireBack_c (A B : Option Addr) (n c n' c' : Nat) (l : List Int) (b : List Nat) (w : World) (ha : At w A n (i64s l)) (hb : At w B n' (u8s b)) (hla : l.length = n) (hlb : b.length = n') (hok : Ok64 l) (hob : ∀ x ∈ b, x < 256) (hc : n ≤ c) (hc' : n' ≤ c') :
    Calls Try.prog 5 #[.slice A n c, .slice B n' c'] w (Ret w (.bool true)) := by
  by_cases hn : (500 : Int) < (n : Int)
  · clear ha hb hla hlb hok hob
    go_enter Try.func5, Try.ntmps5
    go_wp2_with (go_at_call 7; refine (alive_c _).mono ?_; rintro e w1 ⟨rfl, hb1⟩)
    go_ret
    exact ⟨rfl, hb1⟩
  by_cases hn' : (500 : Int) < (n' : Int)
  · clear ha hb hla hlb hok hob
    go_enter Try.func5, Try.ntmps5
    go_wp2_with (go_at_call 7; refine (alive_c _).mono ?_; rintro e w1 ⟨rfl, hb1⟩)
    go_ret
    exact ⟨rfl, hb1⟩
  exact WireBack_1 A B n c n' c' l b w ha hb hla hlb hok hob hc hc' (by omega) (by omega)
end Go.Proofs.Ytipmddjoajojiaa
