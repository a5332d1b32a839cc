/-
  RandAll: for any exchanges and any number the law answers true.
-/
import Derived.Test.YtoehepeiakddcaaLaw16A
import Derived.Test.YtoehepeiakddcaaMathS
import Derived.RegionTactic
import Derived.BigRegion
import Derived.Deep.CutBlock
import Derived.Deep.DeepCutAuto
namespace Go.Proofs.Ytoehepeiakddcaa
open Go.RowKit Go.IntWalk
set_option linter.unusedVariables false

set_option maxRecDepth 100000 in
set_option maxHeartbeats 4000000 in
theorem RandAll_c (A : Option Addr) (n cp : Nat) (l : List Int) (m : Int) (w : World) (ha : At w A n (i64s l)) (hl : l.length = n) (hok : Ok64 l) (hcap : n ≤ cp)
    (m1 : -9223372036854775808 ≤ m) (m2 : m ≤ 9223372036854775807) (hn : (n : Int) ≤ 9223372036854775807) :
    Calls Try.prog 5 #[.slice A n cp, .int .i64 m] w (Ret w (.bool true)) := by
  obtain ⟨i0, hi, hz0, hz1, hz2⟩ := info_parts i64_info
  have HA := Lib.hid ha
  have HL := Lib.hid hl
  have HO := Lib.hid hok
  clear ha hl hok
  obtain ⟨q, hq, hq12⟩ : ∃ q : Nat, wrap64 ((IntKind.u64.wrap m).tmod 12) = (q : Int) ∧ (q : Int) < 12 := by
    have h1 : 0 ≤ IntKind.u64.wrap m := by rw [IntKind.wrap_u64]; omega
    refine ⟨(IntKind.u64.wrap m % 12).toNat, ?_, by omega⟩
    rw [Int.tmod_eq_emod_of_nonneg h1, wrap64_in _ (by omega)]
    omega
  go_enter Try.func5, Try.ntmps5
  go_wp2_with (go_at_call 7; refine (alive_c _).mono ?_; rintro e w1 ⟨rfl, hb1⟩; have HB1 := Lib.hid hb1; clear hb1)
  rw [hq]
  clear hq
  go_loopw [7, 6] (fun iv ov wr => ∃ j : Nat, j ≤ q ∧ iv = .int .i64 j ∧ Ow wr w.heap.size 1 ov j (i64s (mth.iota j)) ∧ Below w.heap.size w wr) (fun iv _ _ => q - (intOf iv).toNat)
  case atStart => exact ⟨0, by omega, rfl, Ow.empty _ _ _ _, HB1.out.alloc HB1.out.size _⟩
  case round =>
    obtain ⟨j, hj, rfl, how, hbr⟩ := hrel
    have HO1 := Lib.hid how
    have HBR := Lib.hid hbr
    clear how hbr
    by_cases hlt : j < q
    · go_wp2_with (at_builtin; refine wpList_append_ow rfl (.tmp 31) (.tmp 33) _ rfl 3 i0 _ 8 Try.underlying22 hi hz0 hz1 hz2 rfl (HO1.out.below ((Below.refl _ _).alloc (Nat.le_refl _) _)) news_one (one_int _) (by simp only [maxLen]; omega) (by omega) (by have := HBR.out.size; simp; omega) ?_; intro ov' w3 hap)
      have HAP := Lib.hid hap
      clear hap
      go_roundw
      case rel => exact ⟨j + 1, by omega, by go_num, by rw [mth.iota_snoc, i64s_append]; exact HAP.out.ow, (HBR.out.alloc HBR.out.size _).trans HAP.out.below⟩
      case measure => simp [intOf]; omega
    · obtain rfl : j = q := by omega
      clear hj hlt
      go_upto_block 2 with fail
      go_cut [6] (fun wv wx => ∃ want : List Int, mth.Ordr want j ∧ Ow wx w.heap.size 1 wv j (i64s want) ∧ Below w.heap.size w wx)
      case first =>
        go_wp2_with fail
        go_loopw [37] (fun iv wx => ∃ (k : Nat) (want : List Int), iv = .int .i64 k ∧ k ≤ n ∧ mth.Ordr want j ∧ Ow wx w.heap.size 1 u6 j (i64s want) ∧ Below w.heap.size w wx) (fun iv _ => n - (intOf iv).toNat)
        case atStart => exact ⟨0, mth.iota j, rfl, by omega, mth.ordr_iota j, HO1.out, HBR.out⟩
        case round =>
          obtain ⟨k, want, rfl, hk, hord, how, hbr⟩ := hrel
          have HO2 := Lib.hid how
          have HB2 := Lib.hid hbr
          have HORD := Lib.hid hord
          clear how hbr hord HO1 HBR
          by_cases hgo : (k : Int) < n ∧ ¬ (40 : Int) < k ∧ ¬ (j : Int) = 0
          · obtain ⟨hlt, h40, hj0⟩ := hgo
            obtain ⟨ad, rfl, hcell, _⟩ := HA.out.int' HL.out (k := k) (by omega) HB2.out
            generalize l[k]'(by have := HL.out; omega) = x at *
            have hj0' : ((j : Int) == 0) = false := by simpa using hj0
            obtain ⟨kk, hkk, hkj⟩ : ∃ kk : Nat, wrap64 ((IntKind.u64.wrap x).tmod j) = (kk : Int) ∧ kk < j := by
              have h1 : 0 ≤ IntKind.u64.wrap x := by rw [IntKind.wrap_u64]; omega
              have h2 := Int.emod_nonneg (IntKind.u64.wrap x) (show (j : Int) ≠ 0 from hj0)
              have h3 := Int.emod_lt_of_pos (IntKind.u64.wrap x) (show 0 < (j : Int) by omega)
              refine ⟨(IntKind.u64.wrap x % j).toNat, ?_, by omega⟩
              rw [Int.tmod_eq_emod_of_nonneg h1, wrap64_in _ (by omega)]
              omega
            obtain ⟨a, ha1, ha2, haj⟩ : ∃ a : Nat, (k : Int) % j = a ∧ (k : Int).tmod j = a ∧ a < j := by
              have h2 := Int.emod_nonneg (k : Int) (show (j : Int) ≠ 0 from hj0)
              have h3 := Int.emod_lt_of_pos (k : Int) (show 0 < (j : Int) by omega)
              exact ⟨((k : Int) % j).toNat, by omega, by rw [Int.tmod_eq_emod_of_nonneg (by omega)]; omega, by omega⟩
            have haj' : (a : Int) < j := by omega
            have hkj' : (kk : Int) < j := by omega
            obtain ⟨g, off, c6, e6, hrest⟩ := HO2.out.at1 (by omega)
            clear hrest
            subst e6
            have hwl : want.length = j := HORD.out.len
            have HWL := Lib.hid hwl
            obtain ⟨p1, p2, hBg, hws⟩ := HO2.out.cell haj
            obtain ⟨p3, p4, _⟩ := HO2.out.cell hkj
            rw [i64s_get (by omega)] at p1 p3
            have HSET : Hid (Ow ((wr.setCell ⟨g, off + a, none⟩ (.int .i64 (want[kk]'(by omega)))).setCell ⟨g, off + kk, none⟩ (.int .i64 (want[a]'(by omega)))) w.heap.size 1 (.slice (some ⟨g, off, none⟩) j c6) j (i64s (mth.swp want a kk))) := Lib.hid (by
              rw [mth.swp, mth.getD_get (by omega), mth.getD_get (by omega), i64s_set, i64s_set]
              exact (HO2.out.set haj _).set hkj _)
            have HO3 := Lib.hid (HORD.out.swp haj hkj)
            generalize want[kk]'(by omega) = y at *
            generalize want[a]'(by omega) = y' at *
            clear hwl
            obtain ⟨v', hy'⟩ := cell?_setCell_some (w := wr) (p := ⟨g, off + a, none⟩) (x := .int .i64 y) (q := ⟨g, off + kk, none⟩) (v := .int .i64 y) (by go_simp)
            go_wp2_with fail
            try rw [hkk]
            clear hkk hcell
            go_region
            go_wp2_with fail
            go_roundw
            case rel => exact ⟨k + 1, mth.swp want a kk, by go_num, by omega, HO3.out, HSET.out.below ((Below.refl _ _).drew), ((HB2.out.setCell hBg _).setCell hBg _).drew⟩
            case measure => simp [intOf]; try omega
          · have hgo' : ¬ (k : Int) < n ∨ ((k : Int) < n ∧ (40 : Int) < k) ∨ ((k : Int) < n ∧ ¬ (40 : Int) < k ∧ (j : Int) = 0) := by omega
            clear hgo
            rcases hgo' with h1 | ⟨h1, h2⟩ | ⟨h1, h2, h3⟩
            · go_wp2_with fail
              go_meet
              exact ⟨want, HORD.out, HO2.out, HB2.out⟩
            · obtain ⟨ad, rfl, hcell, _⟩ := HA.out.int' HL.out (k := k) (by omega) HB2.out
              go_wp2_with fail
              go_meet
              exact ⟨want, HORD.out, HO2.out, HB2.out⟩
            · obtain ⟨ad, rfl, hcell, _⟩ := HA.out.int' HL.out (k := k) (by omega) HB2.out
              have h3' : ((j : Int) == 0) = true := by simpa using h3
              clear h3
              go_wp2_with fail
              go_meet
              exact ⟨want, HORD.out, HO2.out, HB2.out⟩
      case rest =>
        obtain ⟨want, hord, how, hbr⟩ := hcut
        have HORD := Lib.hid hord
        have HW := Lib.hid how
        have HBC := Lib.hid hbr
        clear hord how hbr HO1 HBR
        go_wp2_with fail
        go_loopw [13, 11] (fun iv ov wx => ∃ k : Nat, iv = .int .i64 k ∧ k ≤ j ∧ Ow wx w.heap.size 1 ov k (i64s (mth.iota k)) ∧ Ap ov u6 ∧ Ow wx w.heap.size 1 u6 j (i64s want) ∧ Below w.heap.size w wx) (fun iv _ _ => j - (intOf iv).toNat)
        case atStart => exact ⟨0, rfl, by omega, (Ow.empty wc 3 w.heap.size 1).below ((Below.refl _ _).alloc (Nat.le_refl _) _), (Ap.nil _ _).symm, (HW.out.below (((Below.refl _ _).alloc (Nat.le_refl _) _).alloc (by simp) _)), (HBC.out.alloc HBC.out.size _).alloc (by have := HBC.out.size; simp; omega) _⟩
        case round =>
          obtain ⟨k, rfl, hk, how, hap, how2, hbr⟩ := hrel
          have HN := Lib.hid how
          have HAP := Lib.hid hap
          have HW2 := Lib.hid how2
          have HB2 := Lib.hid hbr
          clear how hap how2 hbr HW HBC
          by_cases hlt : k < j
          · go_wp2_with (at_builtin; refine wpList_append_ow rfl (.tmp 80) (.tmp 82) _ rfl 3 i0 _ 8 Try.underlying22 hi hz0 hz1 hz2 rfl (HN.out.below ((Below.refl _ _).alloc (Nat.le_refl _) _)) news_one (one_int _) (by simp only [maxLen]; omega) (by omega) (by have := HB2.out.size; simp; omega) ?_; intro ov' w3 hap)
            have HA3 := Lib.hid hap
            clear hap
            have HW3 := Lib.hid (HW2.out.below ((Below.refl _ _).alloc (Nat.le_refl _) (.cells #[Value.int .i64 (k : Int)] 3)))
            go_roundw
            case rel => exact ⟨k + 1, by go_num, by omega, by rw [mth.iota_snoc, i64s_append]; exact HA3.out.ow, HAP.out.appended HW3.out HA3.out, HW3.out.kept HAP.out.symm HA3.out, (HB2.out.alloc HB2.out.size _).trans HA3.out.below⟩
            case measure => simp [intOf]; omega
          · obtain rfl : k = j := by omega
            clear hk hlt
            go_wp2_with fail
            go_loopw [14, 12] (fun zv dv wx => ∃ (z : Int) (d now : List Int), zv = .int .i64 z ∧ ((k = 0 ∧ z = -1 ∧ d = [] ∧ now = []) ∨ (0 < k ∧ 0 ≤ z ∧ mth.St k want z.toNat d now)) ∧ Ok64 d ∧ Ow wx w.heap.size 1 dv d.length (i64s d) ∧ Ow wx w.heap.size 1 u11 k (i64s now) ∧ Ow wx w.heap.size 1 u6 k (i64s want) ∧ Ap dv u11 ∧ Ap dv u6 ∧ Below w.heap.size w wx) (fun zv _ _ => (intOf zv).toNat)
            case atStart =>
              refine ⟨(k : Int) - 1, [], mth.iota k, rfl, ?_, fun x hx => by simp at hx, Ow.zero _ _ _ _, HN.out, HW2.out, (Ap.nil _ _).symm, (Ap.nil _ _).symm, HB2.out⟩
              by_cases h0 : k = 0
              · subst h0; exact .inl ⟨rfl, rfl, rfl, rfl⟩
              · refine .inr ⟨by omega, by omega, ?_⟩
                rw [show ((k : Int) - 1).toNat = k - 1 by omega]
                exact mth.St.start want (by omega)
            case round =>
              obtain ⟨z, d, now, rfl, hst, hokd, hd, hn', hw', ap1, ap2, hbr⟩ := hrel
              have HST := Lib.hid hst
              have HOD := Lib.hid hokd
              have HD := Lib.hid hd
              have HN2 := Lib.hid hn'
              have HW4 := Lib.hid hw'
              have AP1 := Lib.hid ap1
              have AP2 := Lib.hid ap2
              have HB3 := Lib.hid hbr
              clear hst hokd hd hn' hw' ap1 ap2 hbr HN HB2 HW2
              by_cases hz : 1 ≤ z
              · have hst : 0 < k ∧ mth.St k want z.toNat d now := by
                  rcases HST.out with ⟨_, h, _⟩ | ⟨h1, _, h2⟩
                  · omega
                  · exact ⟨h1, h2⟩
                obtain ⟨hk0, hst⟩ := hst
                obtain ⟨i, rfl⟩ : ∃ i : Nat, z = (i : Int) + 1 := ⟨(z - 1).toNat, by omega⟩
                rw [show ((i : Int) + 1).toNat = i + 1 by omega] at hst
                have hsl := hst.len
                have hnl := hst.ord.len
                have hwl := HORD.out.len
                have hik : i + 1 < k := by omega
                have hik' : (i : Int) + 1 < k := by omega
                have hdl : (d.length : Int) ≤ 12 := by omega
                obtain ⟨k0, hk0i, hfound⟩ := hst.found HORD.out
                have HST2 := Lib.hid hst
                have HF := Lib.hid hfound
                have HNL := Lib.hid hnl
                have HWL := Lib.hid hwl
                have HSL := Lib.hid hsl
                clear hst hsl hnl hwl hfound HST
                obtain ⟨gN, oN, cN, eN, hcN, hrest⟩ := HN2.out.at1 (by omega)
                clear hrest
                subst eN
                obtain ⟨gW, oW, cW, eW, hcW, hrest⟩ := HW4.out.at1 (by omega)
                clear hrest
                subst eW
                go_wp2_with fail
                go_loopw [15] (fun kv wx => ∃ q : Nat, kv = .int .i64 q ∧ q ≤ k0 ∧ Below wr.heap.size wr wx) (fun kv _ => k0 - (intOf kv).toNat)
                case atStart => exact ⟨0, rfl, by omega, Below.refl _ _⟩
                case round =>
                  obtain ⟨q, rfl, hq, hbq⟩ := hrel
                  have HBQ := Lib.hid hbq
                  clear hbq
                  have hqk : q < k := by omega
                  have hqk' : (q : Int) < k := by omega
                  have HN5 := Lib.hid (HN2.out.below HBQ.out)
                  have HW5 := Lib.hid (HW4.out.below HBQ.out)
                  obtain ⟨p1, p2, hBg, hws⟩ := HN5.out.cell hqk
                  obtain ⟨p3, p4, hBW, hwW⟩ := HW5.out.cell hik
                  have hql : q < now.length := by have := HNL.out; omega
                  have hil : i + 1 < want.length := by have := HWL.out; omega
                  rw [i64s_get hql] at p1
                  rw [i64s_get hil] at p3
                  have hwsz : wr.heap.size ≤ wr.heap.size := Nat.le_refl _
                  by_cases he : now[q] = want[i + 1]
                  · have HSTEP := Lib.hid (HST2.out.step (k := q) (by omega) (by rw [mth.getD_get hql, mth.getD_get hil]; exact he))
                    have hbx : Below w.heap.size w wr := HB3.out.trans (HBQ.out.mono HB3.out.size)
                    have HBX := Lib.hid hbx
                    have HD5 := Lib.hid (HD.out.below HBQ.out)
                    have e1 : (now[q] != want[i + 1]) = false := by simpa using he
                    clear hbx he
                    generalize now[q] = y at *
                    generalize want[i + 1] = y' at *
                    go_wp2_with fail
                    refine wp_region_later (by kernel_rfl) (by kernel_rfl) ?_
                    repeat (go_big_quiet_step (fail))
                    refine wpQuiet_nil ?_
                    intro w2 hb2
                    have HB2' := Lib.hid hb2
                    have HBX2 := Lib.hid (HBX.out.trans (hb2.mono HBX.out.size))
                    have HN6 := Lib.hid (HN5.out.below hb2)
                    have HW6 := Lib.hid (HW5.out.below hb2)
                    have HD6 := Lib.hid (HD5.out.below hb2)
                    clear hb2 p1 p2 p3 p4 e1 hws hwW HN5 HW5 HD5 HN2 HW4 HD
                    go_wp2_with (at_builtin; refine wpList_append_ow rfl (.tmp 101) (.tmp 103) _ rfl 3 i0 _ 8 Try.underlying22 hi hz0 hz1 hz2 rfl (HD6.out.below ((Below.refl _ _).alloc (Nat.le_refl _) _)) news_one (one_int _) (by simp only [maxLen]; omega) (by omega) (by have := HBX2.out.size; simp; omega) ?_; intro dv' w3 hap)
                    have HA3 := Lib.hid hap
                    clear hap
                    have HN7 := Lib.hid (HN6.out.below ((Below.refl _ _).alloc (Nat.le_refl _) (.cells #[Value.int .i64 (q : Int)] 3)))
                    have HW7 := Lib.hid (HW6.out.below ((Below.refl _ _).alloc (Nat.le_refl _) (.cells #[Value.int .i64 (q : Int)] 3)))
                    have HN8 := Lib.hid (HN7.out.kept AP1.out.symm HA3.out)
                    have HW8 := Lib.hid (HW7.out.kept AP2.out.symm HA3.out)
                    have AP1' := Lib.hid (AP1.out.appended HN7.out HA3.out)
                    have AP2' := Lib.hid (AP2.out.appended HW7.out HA3.out)
                    have HB8 := Lib.hid ((HBX2.out.alloc HBX2.out.size (.cells #[Value.int .i64 (q : Int)] 3)).trans HA3.out.below)
                    obtain ⟨p1, p2, hBg2, hws⟩ := HN8.out.cell hik
                    obtain ⟨p3, p4, _⟩ := HN8.out.cell hqk
                    have hil' : i + 1 < now.length := by have := HNL.out; omega
                    rw [i64s_get hil'] at p1
                    rw [i64s_get hql] at p3
                    have HSET : Hid (Ow ((w3.setCell ⟨gN, oN + (i + 1), none⟩ (.int .i64 now[q])).setCell ⟨gN, oN + q, none⟩ (.int .i64 now[i + 1])) w.heap.size 1 (.slice (some ⟨gN, oN, none⟩) k cN) k (i64s (mth.swp now (i + 1) q))) := Lib.hid (by
                      rw [mth.swp, mth.getD_get hil', mth.getD_get hql, i64s_set, i64s_set]
                      exact (HN8.out.set hik _).set hqk _)
                    have HSD : Hid (Ow ((w3.setCell ⟨gN, oN + (i + 1), none⟩ (.int .i64 now[q])).setCell ⟨gN, oN + q, none⟩ (.int .i64 now[i + 1])) w.heap.size 1 dv' (d ++ [(q : Int)]).length (i64s (d ++ [(q : Int)]))) := Lib.hid (by
                      have h := HA3.out.ow
                      rw [show (d ++ [(q : Int)]).length = d.length + 1 by simp, i64s_append]
                      exact (h.stored AP1'.out (by omega)).stored AP1'.out (by omega))
                    have HSW : Hid (Ow ((w3.setCell ⟨gN, oN + (i + 1), none⟩ (.int .i64 now[q])).setCell ⟨gN, oN + q, none⟩ (.int .i64 now[i + 1])) w.heap.size 1 (.slice (some ⟨gW, oW, none⟩) k cW) k (i64s want)) := Lib.hid ((HW8.out.stored HAP.out.symm (by omega)).stored HAP.out.symm (by omega))
                    generalize now[q] = y at *
                    generalize now[i + 1] = y' at *
                    obtain ⟨v', hy'⟩ := cell?_setCell_some (w := w3) (p := ⟨gN, oN + (i + 1), none⟩) (x := .int .i64 y) (q := ⟨gN, oN + q, none⟩) (v := .int .i64 y) (by go_simp)
                    go_region
                    have HOD2 : Hid (Ok64 (d ++ [(q : Int)])) := Lib.hid (fun x hx => by
                      rcases List.mem_append.1 hx with h | h
                      · exact HOD.out x h
                      · simp at h; omega)
                    go_wp2_with fail
                    go_roundw
                    case rel => exact ⟨i, d ++ [(q : Int)], mth.swp now (i + 1) q, by simp, .inr ⟨hk0, by omega, by rw [Int.toNat_natCast]; exact HSTEP.out⟩, HOD2.out, HSD.out.below ((Below.refl _ _).drew), HSET.out.below ((Below.refl _ _).drew), HSW.out.below ((Below.refl _ _).drew), AP1'.out, AP2'.out, ((HB8.out.setCell hBg2 _).setCell hBg2 _).drew⟩
                    case measure => simp [intOf]; try omega
                  · have hne : q ≠ k0 := by
                      intro e
                      have := HF.out
                      rw [← e, mth.getD_get hql, mth.getD_get hil] at this
                      exact he this
                    have e1 : (now[q] != want[i + 1]) = true := by simpa using he
                    clear he
                    generalize now[q] = y at *
                    generalize want[i + 1] = y' at *
                    go_wp2_with fail
                    refine wp_region_later (by kernel_rfl) (by kernel_rfl) ?_
                    repeat (go_big_quiet_step (fail))
                    refine wpQuiet_nil ?_
                    intro w2 hb2
                    go_wp2_with fail
                    go_roundw
                    case rel => exact ⟨q + 1, by go_num, by omega, HBQ.out.trans (hb2.mono HBQ.out.size)⟩
                    case measure => simp [intOf]; omega
              · have hfin : d.length = k - 1 ∧ mth.shuf d (k - 1) 0 (mth.iota k) = want := by
                  rcases HST.out with ⟨h1, _, h2, _⟩ | ⟨h1, h3, h2⟩
                  · subst h1 h2
                    have := HORD.out.len
                    exact ⟨rfl, by rw [List.eq_nil_of_length_eq_zero this]; rfl⟩
                  · rw [show z.toNat = 0 by omega] at h2
                    exact ⟨by have := h2.len; omega, h2.done HORD.out⟩
                obtain ⟨hf1, hf2⟩ := hfin
                obtain ⟨o1, o2, o3⟩ := mth.ord_of hf1 (by omega) hf2
                have hdl : (d.length : Int) ≤ 12 := by omega
                have O1 := Lib.hid o1
                have O2 := Lib.hid o2
                have O3 := Lib.hid o3
                have HWL := Lib.hid HORD.out.len
                have hRD := HD.out.rd
                obtain ⟨aD, cD, eD, hcD, hlD, haD⟩ := hRD
                subst eD
                have HAD := Lib.hid haD
                clear hf1 hf2 o1 o2 o3 haD HST
                go_wp2_with (first
                  | (go_at_call 8; refine (Order_c aD d.length cD d 0 k _ HAD.out rfl HOD.out (by omega) (by omega) (by omega) (by omega) (by omega)).mono ?_; rintro e w5 ⟨v5, rfl, hs5, hb5⟩; rw [O1.out, O3.out, errV_zero]; rw [O2.out] at hs5; have HS5 := Lib.hid hs5; have HB5 := Lib.hid hb5; clear hs5 hb5)
                  | (go_at_call 10; refine (Ints_own HS5.out.rd (HW4.out.below HB5.out).rd (by have := HWL.out; omega) (by omega)).mono ?_; rintro e w6 ⟨rfl, hb6⟩; rw [decide_eq_true (rfl : want = want)]))
                go_ret
                exact ⟨rfl, (HB3.out.trans (HB5.out.mono HB3.out.size)).trans (hb6.mono (Nat.le_trans HB3.out.size HB5.out.size))⟩
end Go.Proofs.Ytoehepeiakddcaa
