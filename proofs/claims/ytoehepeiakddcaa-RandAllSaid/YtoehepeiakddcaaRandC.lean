/-
  Contracts: the document's order.
-/
import Derived.Test.YtoehepeiakddcaaRandB
namespace Go.Proofs.Ytoehepeiakddcaa
open Go.RowKit
set_option linter.unusedVariables false

theorem i64_info : (Try.prog.info? 3).map (fun i => (i.zero, i.size, i.bytes)) = some (some (.int .i64 0), 1, 8) := by kernel_rfl
theorem one_int (x : Int) : ∀ u ∈ [Value.int .i64 x], u.oneCell' = true := by intro u hu; simp at hu; subst hu; rfl

theorem refPick_ok (A : Option Addr) (n cp : Nat) (l : List Int) (c : Nat) (m : Int) (x : Int) (w : World) (ha : At w A n (i64s l)) (hl : l.length = n) (hok : Ok64 l) (hn : (n : Int) ≤ 4096)
    (hc : c < n) (m1 : 1 ≤ m) (m2 : m ≤ 9223372036854775807) (hx : l.getD c 0 % m = x) :
    Calls Try.prog 15 #[.slice A n cp, .int .i64 c, .int .i64 m] w fun e w' => e = .returned (.tuple #[.int .i64 x, .int .i64 ((c : Int) + 1), .int .i64 0]) ∧ w = w' := by
  refine (refPick_c A n cp l c m w ha hl hok (by omega) (by omega) (by omega) (by omega) m2).mono ?_
  rintro e w' ⟨rfl, rfl⟩
  refine ⟨?_, rfl⟩
  unfold PickV
  rcases mth.pk_cases l c m with ⟨h, _⟩ | ⟨_, h, _⟩ | ⟨_, _, h, _⟩ | ⟨_, _, _, h1, h2, h3⟩
  · omega
  · omega
  · omega
  · rw [h1, h2, h3, Int.toNat_natCast, hx]; rfl
theorem refPick_no (A : Option Addr) (n cp : Nat) (l : List Int) (c : Nat) (m : Int) (w : World) (ha : At w A n (i64s l)) (hl : l.length = n) (hok : Ok64 l) (hn : (n : Int) ≤ 4096)
    (hc : n ≤ c) (hc2 : (c : Int) ≤ 9223372036854775807) (m1 : 1 ≤ m) (m2 : m ≤ 9223372036854775807) :
    Calls Try.prog 15 #[.slice A n cp, .int .i64 c, .int .i64 m] w fun e w' => e = .returned (.tuple #[.int .i64 0, .int .i64 0, .int .i64 13]) ∧ w = w' := by
  refine (refPick_c A n cp l c m w ha hl hok (by omega) (by omega) (by omega) (by omega) m2).mono ?_
  rintro e w' ⟨rfl, rfl⟩
  refine ⟨?_, rfl⟩
  unfold PickV
  rcases mth.pk_cases l c m with ⟨h, _⟩ | ⟨_, h, _⟩ | ⟨_, _, h, h1, h2, h3⟩ | ⟨_, _, h, _⟩
  · omega
  · omega
  · rw [h1, h2, h3]; rfl
  · omega
set_option maxRecDepth 100000 in
set_option maxHeartbeats 2000000 in
theorem refOrder_c (A : Option Addr) (n cp : Nat) (l : List Int) (c m : Int) (w : World) (ha : At w A n (i64s l)) (hl : l.length = n) (hok : Ok64 l) (hn : (n : Int) ≤ 9223372036854775807)
    (c1 : -9223372036854775808 ≤ c) (c2 : c ≤ 9223372036854775807) (m1 : -9223372036854775808 ≤ m) (m2 : m ≤ 9223372036854775807) :
    Calls Try.prog 9 #[.slice A n cp, .int .i64 c, .int .i64 m] w (RetOrd w intV l c m) := by
  have HA := Lib.hid ha
  have HL := Lib.hid hl
  have HO := Lib.hid hok
  clear ha hl hok
  obtain ⟨i0, hi, hz0, hz1, hz2⟩ := info_parts i64_info
  by_cases hpre : ¬ (4096 : Int) < (n : Int) ∧ ¬ (m < 0 ∨ 400 < m ∨ c < 0)
  · obtain ⟨h1, h2⟩ := hpre
    obtain ⟨h4, h5, h6⟩ : ¬ m < 0 ∧ ¬ 400 < m ∧ ¬ c < 0 := by omega
    clear h2
    obtain ⟨k, rfl⟩ : ∃ k : Nat, c = (k : Int) := ⟨c.toNat, by omega⟩
    obtain ⟨q, rfl⟩ : ∃ q : Nat, m = (q : Int) := ⟨m.toNat, by omega⟩
    go_enter Try.func9, Try.ntmps9
    go_wp2
    go_loopw [10, 9] (fun iv ov wr => ∃ j : Nat, j ≤ q ∧ iv = .int .i64 j ∧ Ow wr w.heap.size 1 ov j (i64s (mth.iota j)) ∧ Below w.heap.size w wr) (fun iv _ _ => q - (intOf iv).toNat)
    case atStart => exact ⟨0, by omega, rfl, Ow.empty _ _ _ _, (Below.refl _ _).alloc (Nat.le_refl _) _⟩
    case round =>
      obtain ⟨j, hj, rfl, how, hbr⟩ := hrel
      have HO1 := Lib.hid how
      have HB1 := Lib.hid hbr
      clear how hbr
      by_cases hlt : j < q
      · go_wp2_with (at_builtin; refine wpList_append_ow rfl (.tmp 35) (.tmp 37) _ rfl 3 i0 _ 8 Try.underlying22 hi hz0 hz1 hz2 rfl (HO1.out.below ((Below.refl _ _).alloc (Nat.le_refl _) _)) news_one (one_int _) (by simp only [maxLen]; omega) (by omega) (by have := HB1.out.size; simp; omega) ?_; intro ov' w3 hap)
        have HAP := Lib.hid hap
        clear hap
        go_roundw
        case rel => exact ⟨j + 1, by omega, by go_num, by rw [mth.iota_snoc, i64s_append]; exact HAP.out.ow, (HB1.out.alloc HB1.out.size _).trans HAP.out.below⟩
        case measure => simp [intOf]; omega
      · obtain rfl : j = q := by omega
        by_cases hq0 : j = 0
        · subst hq0
          have hc := mth.ord_cases l k ((0 : Nat) : Int)
          rw [HL.out] at hc
          have hE : mth.ordErr l.length k ((0 : Nat) : Int) = 0 ∧ mth.ordL l k ((0 : Nat) : Int) = [] ∧ mth.ordC l k ((0 : Nat) : Int) = k := by
            rw [HL.out]
            rcases hc with ⟨a, _⟩ | ⟨_, a, _⟩ | ⟨_, _, a, _⟩ | ⟨_, _, _, a, b, c⟩
            · omega
            · omega
            · omega
            · refine ⟨a, by rw [b]; rfl, by rw [c]; omega⟩
          have HE := Lib.hid hE
          clear hc hE
          go_wp2
          go_loopw [11, 1] (fun zv cv wr' => zv = .int .i64 (-1) ∧ cv = .int .i64 k ∧ wr' = wr) (fun _ _ _ => 0)
          case atStart => exact ⟨rfl, rfl, rfl⟩
          case round =>
            obtain ⟨rfl, rfl, rfl⟩ := hrel
            go_wp2
            go_ret3
            exact ⟨_, by rw [HE.out.1, HE.out.2.2]; rfl, by rw [HE.out.2.1]; exact HO1.out, HB1.out⟩
        · obtain ⟨g, off, cp', hov, hrest⟩ := HO1.out.at1 (by omega)
          clear hrest
          subst hov
          go_wp2
          go_loopw [11, 1] (fun zv cv wr => ∃ (z : Int) (cu : Nat) (out : List Int), zv = .int .i64 z ∧ 0 ≤ z ∧ z < j ∧ cv = .int .i64 cu ∧ cu + z.toNat = k + (j - 1) ∧ (cu = k ∨ cu ≤ n) ∧ mth.shuf l z.toNat cu out = mth.shuf l (j - 1) k (mth.iota j) ∧ out.length = j ∧ Ow wr w.heap.size 1 (.slice (some ⟨g, off, none⟩) j cp') j (i64s out) ∧ Below w.heap.size w wr) (fun zv _ _ => (intOf zv).toNat)
          case atStart => exact ⟨(j : Int) - 1, k, mth.iota j, rfl, by omega, by omega, rfl, by omega, .inl rfl, by rw [show ((j : Int) - 1).toNat = j - 1 by omega], mth.iota_len j, HO1.out, HB1.out⟩
          case round =>
            obtain ⟨z, cu, out, rfl, hz0', hzj, rfl, hcu, hcn, hsh, hol, how, hbr⟩ := hrel
            have HO3 := Lib.hid how
            have HB3 := Lib.hid hbr
            have HSH := Lib.hid hsh
            have HOL := Lib.hid hol
            have HCN := Lib.hid hcn
            have HCU := Lib.hid hcu
            clear how hbr hsh hol HO1 HB1 hcn hcu
            by_cases hz : 1 ≤ z
            · obtain ⟨i, rfl⟩ : ∃ i : Nat, z = (i : Int) + 1 := ⟨(z - 1).toNat, by omega⟩
              by_cases hcn : cu < n
              · have hx := HO.out (l[cu]'(by have := HL.out; omega)) (List.getElem_mem _)
                have HX : Hid (l.getD cu 0 = l[cu]'(by have := HL.out; omega)) := Lib.hid (mth.getD_get (by have := HL.out; omega))
                generalize l[cu]'(by have := HL.out; omega) = x at *
                have n1 := Int.emod_nonneg x (show (i : Int) + 2 ≠ 0 by omega)
                have n2 := Int.emod_lt_of_pos x (show 0 < (i : Int) + 2 by omega)
                obtain ⟨kk, hkk⟩ : ∃ kk : Nat, x % ((i : Int) + 2) = (kk : Int) := ⟨(x % ((i : Int) + 2)).toNat, by omega⟩
                have HKK := Lib.hid hkk
                rw [hkk] at n1 n2
                clear hkk
                have hi1 : i + 1 < j := by omega
                have hk1 : kk < j := by omega
                obtain ⟨p1, p2, hBg, hws⟩ := HO3.out.cell hi1
                obtain ⟨p3, p4, _⟩ := HO3.out.cell hk1
                rw [i64s_get (by have := HOL.out; omega)] at p1 p3
                have HSET : Hid (Ow ((wr.setCell ⟨g, off + (i + 1), none⟩ (.int .i64 (out[kk]'(by have := HOL.out; omega)))).setCell ⟨g, off + kk, none⟩ (.int .i64 (out[i + 1]'(by have := HOL.out; omega)))) w.heap.size 1 (.slice (some ⟨g, off, none⟩) j cp') j (i64s (mth.swp out (i + 1) kk))) := Lib.hid (by
                  rw [mth.swp, mth.getD_get (by have := HOL.out; omega), mth.getD_get (by have := HOL.out; omega), i64s_set, i64s_set]
                  exact (HO3.out.set hi1 _).set hk1 _)
                have hns : mth.shuf l ((i : Int)).toNat (cu + 1) (mth.swp out (i + 1) kk) = mth.shuf l (j - 1) k (mth.iota j) := by
                  rw [← HSH.out, show ((i : Int) + 1).toNat = i + 1 by omega, Int.toNat_natCast, mth.shuf, HX.out, HKK.out, Int.toNat_natCast]
                have HNS := Lib.hid hns
                clear hns hx
                generalize out[kk]'(by have := HOL.out; omega) = y at *
                generalize out[i + 1]'(by have := HOL.out; omega) = y' at *
                obtain ⟨v', hy'⟩ := cell?_setCell_some (w := wr) (p := ⟨g, off + (i + 1), none⟩) (x := .int .i64 y) (q := ⟨g, off + kk, none⟩) (v := .int .i64 y) (by go_simp)
                go_wp2_with (go_at_call 15; refine (refPick_ok A n cp l cu ((i : Int) + 1 + 1) kk _ (HA.out.mono HB3.out.size (fun q hq => HB3.out.cell hq)) HL.out HO.out (by omega) hcn (by omega) (by omega) (by rw [HX.out, show ((i : Int) + 1 + 1) = (i : Int) + 2 by omega]; exact HKK.out)).mono ?_; rintro e w1 ⟨rfl, rfl⟩)
                go_roundw
                case rel => exact ⟨i, cu + 1, mth.swp out (i + 1) kk, by simp, by omega, by omega, by go_num, by have := HCU.out; omega, .inr (by omega), HNS.out, by rw [mth.swp_len]; exact HOL.out, HSET.out, ((HB3.out.setCell hBg _).setCell hBg _)⟩
                case measure => simp [intOf]; try omega
              · have hE : mth.ordErr l.length k j = 13 ∧ mth.ordL l k j = [] ∧ mth.ordC l k j = 0 := by
                  have := HCU.out
                  have := HL.out
                  rcases mth.ord_cases l k (j : Int) with ⟨a, _⟩ | ⟨_, a, _⟩ | ⟨_, _, _, a⟩ | ⟨_, _, a, _⟩
                  · omega
                  · omega
                  · exact a
                  · omega
                have HE := Lib.hid hE
                clear hE
                go_wp2_with (go_at_call 15; refine (refPick_no A n cp l cu ((i : Int) + 1 + 1) _ (HA.out.mono HB3.out.size (fun q hq => HB3.out.cell hq)) HL.out HO.out (by omega) (by omega) (by have := HCN.out; omega) (by omega) (by omega)).mono ?_; rintro e w1 ⟨rfl, rfl⟩)
                go_ret3
                exact ⟨_, by rw [HE.out.1, HE.out.2.2]; rfl, by rw [HE.out.2.1]; exact Ow.nil _ _ _, HB3.out⟩
            · obtain rfl : z = 0 := by omega
              have hE : mth.ordErr l.length k j = 0 ∧ mth.ordL l k j = out ∧ mth.ordC l k j = cu := by
                have h1 := HCU.out
                have h2 := HL.out
                have h3 := HCN.out
                rcases mth.ord_cases l k (j : Int) with ⟨a, _⟩ | ⟨_, a, _⟩ | ⟨_, _, a, _⟩ | ⟨_, _, _, a, b, c⟩
                · omega
                · omega
                · omega
                · refine ⟨a, ?_, by omega⟩
                  rw [b, Int.toNat_natCast, Int.toNat_natCast, ← HSH.out]; rfl
              have HE := Lib.hid hE
              clear hE
              go_wp2
              go_ret3
              exact ⟨_, by rw [HE.out.1, HE.out.2.2]; rfl, by rw [HE.out.2.1, HOL.out]; exact HO3.out, HB3.out⟩
  · have hE : ∃ x, mth.ordErr l.length c m = x ∧ mth.ordL l c m = [] ∧ mth.ordC l c m = 0 ∧ ((4096 : Int) < n ∧ x = 19 ∨ ¬ (4096 : Int) < n ∧ x = 1) := by
      have := HL.out
      rcases mth.ord_cases l c m with ⟨a, e1, e2, e3⟩ | ⟨a, b, e1, e2, e3⟩ | ⟨_, _, _, a⟩ | ⟨_, _, a, _⟩
      · exact ⟨19, e1, e2, e3, .inl ⟨by omega, rfl⟩⟩
      · exact ⟨1, e1, e2, e3, .inr ⟨by omega, rfl⟩⟩
      · omega
      · omega
    obtain ⟨x, hx⟩ := hE
    obtain ⟨h1, h2⟩ : (mth.ordErr l.length c m = x ∧ mth.ordL l c m = [] ∧ mth.ordC l c m = 0) ∧ ((4096 : Int) < n ∧ x = 19 ∨ (¬ (4096 : Int) < n ∧ m < 0) ∧ x = 1 ∨ (¬ (4096 : Int) < n ∧ ¬ m < 0 ∧ 400 < m) ∧ x = 1 ∨ (¬ (4096 : Int) < n ∧ ¬ m < 0 ∧ ¬ 400 < m ∧ c < 0) ∧ x = 1) := ⟨⟨hx.1, hx.2.1, hx.2.2.1⟩, by omega⟩
    have HE := Lib.hid h1
    clear h1 hx hpre
    rcases h2 with ⟨h1, rfl⟩ | ⟨⟨h1, h2⟩, rfl⟩ | ⟨⟨h1, h2, h3⟩, rfl⟩ | ⟨⟨h1, h2, h3, h4⟩, rfl⟩
    all_goals (
      go_enter Try.func9, Try.ntmps9
      go_wp2
      go_ret3
      exact ⟨_, by rw [HE.out.1, HE.out.2.2]; rfl, by rw [HE.out.2.1]; exact Ow.nil _ _ _, Below.refl _ _⟩)
end Go.Proofs.Ytoehepeiakddcaa
