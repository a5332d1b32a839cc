/-
  WirePuts: for any bytes and any list the law answers true.
-/
import Derived.Test.YtipmddjoajojiaaWireB
import Derived.Test.YtipmddjoajojiaaKitE
namespace Go.Proofs.Ytipmddjoajojiaa
open Go.RowKit
set_option linter.unusedVariables false

theorem str_u8 {w : World} {v : Value} {n : Nat} {l : List Nat} (h : Rd w 1 v n (u8s l)) : (convert 22 9 v).run Try.prog w = .ok (.string (strOf l)) w :=
  run_str Try.underlying22 Try.underlying5 Try.underlying9 h

theorem Put_nil (n : Int) (w : World) (n1 : -9223372036854775808 ≤ n) (n2 : n ≤ 9223372036854775807) :
    Calls Try.prog 10 #[.slice none 0 0, .int .i64 n] w (RetSl w 1 (mth.encI n).length (u8s (mth.encI n))) := by
  have h := Put_any (.slice none 0 0) 0 [] n w (Sl.nil w 0 1).rd (by simp) (by omega) n1 n2
  simpa using h

theorem ex300 : strOf (mth.encI 300) = ⟨#[216, 4]⟩ := by decide +kernel
theorem exm1 : strOf (mth.encI (-1)) = ⟨#[1]⟩ := by decide +kernel

theorem alive_c (w : World) : Calls Try.prog 7 #[] w (Ret w (.bool true)) := by
  have e1 := ex300
  have e2 := exm1
  go_enter Try.func7, Try.ntmps7
  go_wp2_with fail
  refine (Put_nil _ _ (by omega) (by omega)).mono ?_
  rintro e w1 ⟨v1, rfl, hs1, hb1⟩
  have hc := str_u8 hs1.rd
  rw [e1] at hc
  go_wp2_with fail
  refine (Put_nil _ _ (by omega) (by omega)).mono ?_
  rintro e w2 ⟨v2, rfl, hs2, hb2⟩
  have hc2 := str_u8 hs2.rd
  rw [e2] at hc2
  go_wp2_with fail
  go_ret
  exact ⟨rfl, hb1.trans (hb2.mono hb1.size)⟩

theorem str_later {w : World} {v : Value} {n : Nat} {l : List Nat} (h : Rd w 1 v n (u8s l)) (x : Later w) : (convert 22 9 v).run Try.prog (later w x) = .ok (.string (strOf l)) (later w x) :=
  str_u8 (h.below x.below)

theorem Size_c (n : Int) (w : World) (n1 : -9223372036854775808 ≤ n) (n2 : n ≤ 9223372036854775807) :
    Calls Try.prog 12 #[.int .i64 n] w (Ret w (.int .i64 (mth.encI n).length)) := by
  go_enter Try.func12, Try.ntmps12
  go_wp2_with fail
  refine (Put_nil _ _ n1 n2).mono ?_
  rintro e w1 ⟨v1, rfl, hs1, hb1⟩
  obtain ⟨A, c, rfl, _⟩ := hs1
  go_wp2_with fail
  go_ret
  exact ⟨rfl, hb1⟩

theorem NumBytes_c (A B : Option Addr) (n c n' c' : Nat) (a b : List Nat) (w : World) (ha : At w A n (u8s a)) (hb : At w B n' (u8s b)) (hla : a.length = n) (hlb : b.length = n') (hc : n ≤ c) (hc' : n' ≤ c') :
    Calls Try.prog 13 #[.slice A n c, .slice B n' c'] w (Ret w (.bool ((strOf a).toList == (strOf b).toList))) := by
  have h1 := str_u8 (n := n) (l := a) ⟨A, c, rfl, hc, by rw [u8s_len]; omega, ha⟩
  have h2 := str_u8 (n := n') (l := b) ⟨B, c', rfl, hc', by rw [u8s_len]; omega, hb⟩
  go_enter Try.func13, Try.ntmps13
  go_wp2_with fail
  go_ret
  exact ⟨rfl, Below.refl _ _⟩

set_option maxHeartbeats 2000000 in
theorem WirePuts_c (A B : Option Addr) (n c n' c' : Nat) (b : List Nat) (l : List Int) (w : World) (ha : At w A n (u8s b)) (hb : At w B n' (i64s l)) (hla : b.length = n) (hlb : l.length = n') (hok : Ok64 l) (hc : n ≤ c) (hc' : n' ≤ c') :
    Calls Try.prog 3 #[.slice A n c, .slice B n' c'] w (Ret w (.bool true)) := by
  obtain ⟨i0, hi, hz0, hz1, hz2⟩ := info_parts u8_info
  by_cases hn : (200 : Int) < (n : Int)
  · go_enter Try.func3, Try.ntmps3
    go_wp2_with (go_at_call 7; refine (alive_c _).mono ?_; rintro e w1 ⟨rfl, hb1⟩)
    go_ret
    exact ⟨rfl, hb1⟩
  by_cases hn' : (200 : Int) < (n' : Int)
  · go_enter Try.func3, Try.ntmps3
    go_wp2_with (go_at_call 7; refine (alive_c _).mono ?_; rintro e w1 ⟨rfl, hb1⟩)
    go_ret
    exact ⟨rfl, hb1⟩
  have HA := Lib.hid ha
  have HB := Lib.hid hb
  have HLA := Lib.hid hla
  have HLB := Lib.hid hlb
  have HO := Lib.hid hok
  clear ha hb hla hlb hok
  have HR : Hid (Rd w 1 (.slice A n c) n (u8s b)) := Lib.hid ⟨A, c, rfl, hc, by rw [u8s_len]; have := HLA.out; omega, HA.out⟩
  go_enter Try.func3, Try.ntmps3
  go_wp2_with (first
    | (go_at_call 7; refine (alive_c _).mono ?_; rintro e w1 ⟨rfl, hb1⟩)
    | (at_builtin; refine wpList_append_sl rfl (.tmp 18) (.tmp 19) _ rfl 5 i0 _ 1 Try.underlying22 hi hz0 hz1 hz2 rfl (sl_empty w1 5 w.heap.size 1) (HR.out.below ((hb1.alloc hb1.size _).mono (Nat.le_refl _))) (u8s_one _) (by simp only [maxLen]; omega) (by omega) (by have := hb1.size; simp; omega) ?_; intro own w2 hs2 hb2 _))
  have hb3 := (hb1.alloc hb1.size (.cells #[] 5)).trans hb2
  have HS2 : Hid (Sl w2 w.heap.size 1 own n (u8s b)) := Lib.hid (by simpa using hs2)
  have HB3 := Lib.hid hb3
  clear hs2 hb2 hb1 hb3
  refine wp_region_E [(true, 0), (true, 1), (true, 4), (true, 5), (true, 6), (false, 2), (true, 3), (false, 7), (true, 8), (true, 9), (true, 10)] (by kernel_rfl) (by kernel_rfl) (by kernel_rfl) (by kernel_rfl) ?_
  have q1 := str_later (HR.out.below (HB3.out.drew))
  repeat (refine wpE_quiet rfl ?_; go_big_quiet_step (fail); refine wpQuiet_nil ?_)
  refine wpE_event rfl rfl (fun K hK => ?_)
  go_step
  refine (PutList_any own n (u8s b) B n' c' l _ (HS2.out.rd.below ((Below.refl _ _).drew)) (u8s_one _) (by omega) (HB.out.mono (by have := HB3.out.size; simpa using this) (fun p hp => (HB3.out.drew.cell hp))) HLB.out HO.out (by omega)).mono ?_
  rintro e w3 ⟨v3, rfl, hs3, hb3⟩
  refine hK _ _ (Lat.of hb3) ?_
  clear hK K
  have q2 := str_later (l := b ++ mth.encL l) (by rw [u8s_append]; exact hs3.rd)
  have HS3 := Lib.hid hs3
  clear hs3
  repeat (refine wpE_quiet rfl ?_; go_big_quiet_step (fail); refine wpQuiet_nil ?_)
  refine wpE_event rfl rfl (fun K hK => ?_)
  go_step
  have hb4 : Below w.heap.size w w3 := HB3.out.drew.trans (hb3.mono (by have := HB3.out.size; simpa using this))
  refine (List_ref B n' c' l _ (HB.out.mono hb4.size (fun p hp => hb4.cell hp)) HLB.out HO.out (by omega)).mono ?_
  rintro e w4 ⟨v4, rfl, hs4, hb5⟩
  refine hK _ _ (Lat.of hb5) ?_
  clear hK K
  have q3 := str_later hs4.rd
  have hLL : (mth.encL l).length ≤ 655380 := by
    have h1 := (mth.enc_len (mth.zig (l.length : Int))).2
    have h2 := mth.encAll_len l
    have h3 := HLB.out
    simp only [mth.encL, List.length_append, mth.encI]
    omega
  have q4 := fun W => run_add (P := Try.prog) W b (mth.encL l) (by have := HLA.out; omega)
  repeat (refine wpE_quiet rfl ?_; go_big_quiet_step (fail); refine wpQuiet_nil ?_)
  refine wpE_nil ?_
  go_wp2_with fail
  have hb6 : Below w.heap.size w w4 := hb4.trans (hb5.mono hb4.size)
  have HO4 : Hid (Rd w4 1 own n (u8s b)) := Lib.hid ((HS2.out.rd.below ((Below.refl _ _).drew)).below (hb3.trans (hb5.mono hb3.size)))
  have HR4 : Hid (Rd w4 1 (.slice A n c) n (u8s b)) := Lib.hid (HR.out.below hb6)
  have HB4 : Hid (At w4 B n' (i64s l)) := Lib.hid (HB.out.mono hb6.size (fun p hp => hb6.cell hp))
  clear q1 q2 q3 q4 hs4 HS3
  go_loopw [34] (fun iv wr => ∃ k : Nat, k ≤ n' ∧ iv = .int .i64 k ∧ Below w4.heap.size w4 wr) (fun iv _ => n' - (intOf iv).toNat)
  case atStart => exact ⟨0, by omega, rfl, Below.refl _ _⟩
  case round =>
    obtain ⟨k, hk, rfl, hbr⟩ := hrel
    have HBR := Lib.hid hbr
    clear hbr
    by_cases hlt : k < n'
    · obtain ⟨ad, rfl, hcell⟩ := HB4.out.int HLB.out hlt HBR.out
      have hx := HO.out (l[k]'(by have := HLB.out; omega)) (List.getElem_mem _)
      generalize l[k]'(by have := HLB.out; omega) = x at *
      obtain ⟨x1, x2⟩ := hx
      have hxl : (mth.encI x).length ≤ 10 := (mth.enc_len (mth.zig x)).2
      go_wp2_with fail
      refine wp_region_E [(true, 0), (true, 1), (true, 4), (true, 5), (true, 6), (false, 2), (true, 3), (false, 7), (true, 8), (true, 9), (true, 10), (true, 11), (true, 12), (true, 14), (false, 13), (false, 15), (true, 16), (true, 17), (true, 18)] (by kernel_rfl) (by kernel_rfl) (by kernel_rfl) (by kernel_rfl) ?_
      have q1 := str_later (HR4.out.below (HBR.out.drew))
      repeat (refine wpE_quiet rfl ?_; go_big_quiet_step (fail); refine wpQuiet_nil ?_)
      refine wpE_event rfl rfl (fun K hK => ?_)
      go_step
      refine (Put_any own n (u8s b) x _ (HO4.out.below HBR.out.drew) (u8s_one _) (by omega) x1 x2).mono ?_
      rintro e w5 ⟨v5, rfl, hs5, hb7⟩
      refine hK _ _ (Lat.of hb7) ?_
      clear hK K q1
      have q2 := str_later (l := b ++ mth.encI x) (by rw [u8s_append]; exact hs5.rd)
      repeat (refine wpE_quiet rfl ?_; go_big_quiet_step (fail); refine wpQuiet_nil ?_)
      refine wpE_event rfl rfl (fun K hK => ?_)
      go_step
      refine (Bytes_ref x _ x1 x2).mono ?_
      rintro e w6 ⟨v6, rfl, hs6, hb8⟩
      refine hK _ _ (Lat.of hb8) ?_
      clear hK K q2
      have q3 := str_later hs6.rd
      have q4 := fun W => run_add (P := Try.prog) W b (mth.encI x) (by have := HLA.out; omega)
      repeat (refine wpE_quiet rfl ?_; go_big_quiet_step (fail); refine wpQuiet_nil ?_)
      refine wpE_event rfl rfl (fun K hK => ?_)
      go_step
      refine (Size_c x _ x1 x2).mono ?_
      rintro e w7 ⟨rfl, hb9⟩
      refine hK _ _ (Lat.of hb9) ?_
      clear hK K q3 q4
      refine wpE_event rfl rfl (fun K hK => ?_)
      go_step
      refine (Bytes_ref x _ x1 x2).mono ?_
      rintro e w8 ⟨v8, rfl, hs8, hb10⟩
      obtain ⟨A8, c8, rfl, _⟩ := hs8
      refine hK _ _ (Lat.of hb10) ?_
      clear hK K
      repeat (refine wpE_quiet rfl ?_; go_big_quiet_step (fail); refine wpQuiet_nil ?_)
      refine wpE_nil ?_
      go_wp2_with fail
      go_roundw
      case rel => exact ⟨k + 1, by omega, by go_num, HBR.out.drew.trans (((hb7.trans (hb8.mono hb7.size)).trans ((hb9.trans (hb10.mono hb9.size)).mono (Nat.le_trans hb7.size hb8.size))).mono (by have := HBR.out.size; simpa using this))⟩
      case measure => simp [intOf]; omega
    · obtain rfl : k = n' := by omega
      obtain ⟨Ao, co, rfl, hco, _, hao⟩ := HO4.out
      go_wp2_with (go_at_call 13; refine (NumBytes_c Ao A n co n c b b _ (hao.mono HBR.out.size (fun p hp => HBR.out.cell hp)) (by obtain ⟨A', c', e, _, _, h⟩ := HR4.out; cases e; exact h.mono HBR.out.size (fun p hp => HBR.out.cell hp)) HLA.out HLA.out hco hc).mono ?_; rintro e w5 ⟨rfl, hb7⟩)
      go_ret
      exact ⟨ret_bool (by simp), (hb6.trans (HBR.out.mono hb6.size)).trans (hb7.mono (Nat.le_trans hb6.size HBR.out.size))⟩
end Go.Proofs.Ytipmddjoajojiaa
