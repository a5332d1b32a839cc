/-
  The chapter's fixed fact, and KnowGains.
-/
import Derived.Test.YtlgfnimahmmgeaaKnowE
import Derived.Deep.CutBlock
namespace Go.Proofs.Ytlgfnimahmmgeaa
open Go.RowKit
set_option linter.unusedVariables false

def stC (v : Value) : Array Value := #[v, .slice none 0 0, .slice none 0 0, .slice none 0 0, .slice none 0 0, .slice none 0 0, .slice none 0 0, .slice none 0 0, .slice none 0 0, .slice none 0 0, .slice none 0 0, .slice none 0 0,
  .int .i64 0, .int .i64 0, .int .i64 0, .int .i64 0, .int .i64 0, .int .i64 0, .int .i64 0, .int .i64 0, .int .i64 0, .int .i64 0, .int .i64 0, .int .i64 0, .int .i64 0, .int .i64 0, .int .i64 0, .int .i64 0, .int .i64 0, .int .i64 0, .int .i64 0, .int .i64 0, .int .i64 0, .int .i64 0, .int .i64 0, .int .i64 0, .int .i64 0]
theorem st_zeroV : (Try.prog.info? 36).map (fun i => i.zero) = some (some (.agg (stC (.slice none 0 0)))) := by kernel_rfl
theorem stC_one (A : Option Addr) (n c : Nat) : (stC (.slice A n c)).all (·.oneCell') = true := by simp [stC, Value.oneCell']
def one17 : Nat → Int := fun i => if i = 17 then 1 else 0
theorem ex_or : orW 1 3 = 3 := by decide +kernel
theorem ex_turn : turnL (fun was => orW was 3) [one17] 0 = [evO 0 1 3] := by
  unfold turnL
  rw [if_pos (by simp)]
  have e : ([one17].getD (0 : Int).toNat fun _ => 0) 17 = 1 := rfl
  rw [e]
  show (if orW 1 3 = 1 then [] else [evO 0 1 (orW 1 3)]) = _
  rw [ex_or, if_neg (by decide)]
theorem one17_rows : rowsC 18 [one17] = [Value.int .i64 0, .int .i64 0, .int .i64 0, .int .i64 0, .int .i64 0, .int .i64 0, .int .i64 0, .int .i64 0, .int .i64 0, .int .i64 0, .int .i64 0, .int .i64 0, .int .i64 0, .int .i64 0, .int .i64 0, .int .i64 0, .int .i64 0, .int .i64 1] := by rfl
abbrev obC : Array Value := #[Value.int .i64 0, .int .i64 0, .int .i64 0, .int .i64 0, .int .i64 0, .int .i64 0, .int .i64 0, .int .i64 0, .int .i64 0, .int .i64 0, .int .i64 0, .int .i64 0, .int .i64 0, .int .i64 0, .int .i64 0, .int .i64 0, .int .i64 0, .int .i64 1]
def evC : Array Value := #[.int .i64 2, .int .i64 0, .int .i64 17, .int .i64 1, .int .i64 3, .int .i64 0]
theorem ev_isz : (Try.prog.info? 25).map (·.size) = some evC.size := by kernel_rfl
theorem same_ev (W : World) : (binOp .eql 25 (.agg evC) (.agg #[.int .i64 2, .int .i64 0, .int .i64 17, .int .i64 1, .int .i64 3, .int .i64 0])).run Try.prog W = .ok (.bool true) W := by kernel_rfl

set_option maxRecDepth 100000 in
set_option maxHeartbeats 1000000 in
theorem alive_c (w : World) : Calls Try.prog 5 #[] w (Ret w (.bool true)) := by
  have hR0 := Row.new w obC 39
  have hAt : At (w.alloc (.cells obC 39)) (some ⟨w.heap.size, 0, none⟩) 1 (rowsC 18 [one17]) := fun _ => ⟨_, rfl, hR0.lt, fun j u hu => by
    rw [Addr.add_lit, Nat.zero_add]
    exact hR0.cell (by rw [one17_rows] at hu; simpa [obC] using hu)⟩
  have HAT := Lib.hid (hAt.mono (w' := (w.alloc (.cells obC 39)).alloc (.cells (stC (.slice (some ⟨w.heap.size, 0, none⟩) 1 1)) 36)) (by simp) (fun p hp => ((Below.refl _ _).alloc (Nat.le_refl _) _).cell hp))
  have HRS := Lib.hid (Row.new (w.alloc (.cells obC 39)) (stC (.slice (some ⟨w.heap.size, 0, none⟩) 1 1)) 36)
  have HB := Lib.hid (((Below.refl w.heap.size w).alloc (Nat.le_refl _) (.cells obC 39)).alloc (by simp) (.cells (stC (.slice (some ⟨w.heap.size, 0, none⟩) 1 1)) 36))
  have hse := same_ev
  have HRS0 := Lib.hid HRS.out
  simp only [World.size_alloc] at HRS
  clear hR0 hAt
  go_enter Try.func5, Try.ntmps5
  go_upto_region 2 with (first
    | (refine wpList_alloc_agg rfl _ rfl _ st_zeroV ?_)
    | (refine wpList_store_Row (Row.new _ _ _) rfl rfl _ _ _ rfl rfl ?c1 (st_isz (cs := stC (.slice (some ⟨w.heap.size, 0, none⟩) 1 1)) rfl) rfl (stC_one _ _ _) ?_; (case c1 => rfl); rw [World.setRow_alloc_new]))
  go_wp2_with (first
    | (refine wpList_load_Row HRS.out rfl _ _ rfl rfl _ Try.underlying36 rfl (st_isz (cs := stC (.slice (some ⟨w.heap.size, 0, none⟩) 1 1)) rfl) ?_)
    | (refine wpList_load_Row HRS0.out rfl _ _ rfl rfl _ Try.underlying36 rfl (st_isz (cs := stC (.slice (some ⟨w.heap.size, 0, none⟩) 1 1)) rfl) ?_)
    | (go_at_call 19; refine (Show_c (stC (.slice (some ⟨w.heap.size, 0, none⟩) 1 1)) (some ⟨w.heap.size, 0, none⟩) 1 1 [one17] 0 3 _ rfl rfl HAT.out rfl (by omega) (by omega) (by omega)).mono ?_; rintro e w1 ⟨v1, rfl, hv1, hb1⟩; rw [ex_turn, show [evO 0 1 3].length = 1 from rfl] at hv1; obtain ⟨A1, c1, rfl, hc1, hl1, ha1⟩ := hv1; obtain ⟨ad, hA1, hlt1, hcell1⟩ := ha1 (by omega); subst hA1; have HB1 := Lib.hid (HB.out.trans (hb1.mono HB.out.size)); have HE : Hid (∀ j v, evC[j]? = some v → w1.cell? (ad.add j) = some v) := Lib.hid (fun j v hv => hcell1 j v (by rw [show rowsC 6 [evO 0 1 3] = evC.toList from rfl]; simpa using hv)); clear hb1 ha1 hcell1 hl1)
    | (go_at_call 16; refine (Zone_c 3 _).mono ?_; rintro e w2 ⟨rfl, rfl⟩; rw [show zn 3 = 2 from rfl])
    | (refine wpList_load_cellsW rfl _ _ rfl ad rfl evC _ Try.underlying25 rfl ev_isz HE.out ?_))
  go_ret
  exact ⟨rfl, HB1.out⟩

theorem refGains_g (f : Nat → Int) (w : World) (G : Bool) (h : gains f = G) (hf : Ok18 f 6) : Calls Try.prog 6 #[.agg (ints 6 f)] w (Ret w (.bool G)) := by
  subst h; exact refGains_c f w hf
theorem Gains_g (f : Nat → Int) (w : World) (G : Bool) (h : gains f = G) : Calls Try.prog 7 #[.agg (ints 6 f)] w (Ret w (.bool G)) := by
  subst h; exact Gains_c f w
theorem Loses_g (f : Nat → Int) (w : World) (G : Bool) (h : loses f = G) : Calls Try.prog 8 #[.agg (ints 6 f)] w (Ret w (.bool G)) := by
  subst h; exact Loses_c f w
theorem More_g (a b : Int) (w : World) (M : Bool) (h : mth.gain a b = M) (a1 : -9223372036854775808 ≤ a) (a2 : a ≤ 9223372036854775807) (b1 : -9223372036854775808 ≤ b) (b2 : b ≤ 9223372036854775807) :
    Calls Try.prog 9 #[.int .i64 a, .int .i64 b] w (Ret w (.bool M)) := by
  subst h; exact More_c a b w a1 a2 b1 b2
theorem anyG_snoc (l : List (Nat → Int)) (k : Nat) (h : k < l.length) : anyG (l.take (k + 1)) = (anyG (l.take k) || gains l[k]) := by
  unfold anyG
  rw [List.take_succ_eq_append_getElem h, List.any_append]
  simp

set_option maxRecDepth 100000 in
set_option maxHeartbeats 4000000 in
theorem KnowGains_c (A : Option Addr) (n c : Nat) (l : List (Nat → Int)) (w : World) (ha : At w A n (rowsC 6 l)) (hl : l.length = n) (hok : ∀ f ∈ l, Ok18 f 6) (hn : (n : Int) ≤ 9223372036854775807) :
    Calls Try.prog 3 #[.slice A n c] w (Ret w (.bool true)) := by
  by_cases hbig : (100 : Int) < n
  · clear ha hl hok
    go_enter Try.func3, Try.ntmps3
    go_wp2_with (go_at_call 5; refine (alive_c _).mono ?_; rintro e w1 ⟨rfl, hb1⟩)
    go_ret
    exact ⟨rfl, hb1⟩
  have HA := Lib.hid ha
  have HL := Lib.hid hl
  have HO := Lib.hid hok
  clear ha hl hok
  go_enter Try.func3, Try.ntmps3
  go_wp2_with (go_at_call 5; refine (alive_c _).mono ?_; rintro e w1 ⟨rfl, hb1⟩; have HB1 := Lib.hid hb1; clear hb1)
  go_loopw [14, 3] (fun iv gv wr => ∃ k : Nat, k ≤ n ∧ iv = .int .i64 k ∧ gv = .bool (anyG (l.take k)) ∧ Below w.heap.size w wr) (fun iv _ _ => n - (intOf iv).toNat)
  case atStart => exact ⟨0, by omega, rfl, rfl, HB1.out⟩
  case round =>
    obtain ⟨k, hk, rfl, rfl, hbr⟩ := hrel
    have HB := Lib.hid hbr
    clear hbr
    by_cases hlt : k < n
    · have hkl : k < l.length := by have := HL.out; omega
      obtain ⟨ad, hA, hrest⟩ := HA.out (by omega)
      clear hrest
      subst hA
      have HE := Lib.hid (at_elem HA.out HL.out hlt HB.out)
      have HOK := Lib.hid (HO.out l[k] (List.getElem_mem _))
      have HS := Lib.hid (anyG_snoc l k hkl)
      generalize l[k] = f at *
      generalize anyG (l.take k) = acc at *
      have HLS : Hid (loses f = (isAb f && mth.gain (f 4) (f 3))) := Lib.hid rfl
      have HAB : Hid (isAb f = (f 0 == 2 && f 2 == 17)) := Lib.hid rfl
      generalize hG : gains f = G at *
      have HG := Lib.hid hG
      clear hG
      cases h0 : f 0 == 2 <;> cases h2 : f 2 == 17
      · have H0 := Lib.hid h0
        have H2 := Lib.hid h2
        obtain ⟨M, hM⟩ : ∃ M, mth.gain (f 4) (f 3) = M := ⟨_, rfl⟩
        have HM := Lib.hid hM
        have HLL : Hid (loses f = false) := Lib.hid (by rw [HLS.out, HAB.out, h0, h2, hM]; rfl)
        clear h0 h2 hM
        cases acc
        all_goals (
          go_wp2_with (first
              | (refine wpList_load_cells rfl _ _ rfl (ad.add (k * 6)) rfl (ints 6 f) _ Try.underlying25 rfl (ev_size _) HE.out ?_)
              | (refine wpList_alloc_agg rfl _ rfl _ ev_zeroV ?_)
              | (refine wpList_store_Row (Row.new _ _ _) rfl rfl _ _ _ rfl rfl rfl (ev_size f) (by simp only [ints_size]) (ints_one _ _) ?_; rw [World.setRow_alloc_new]; have HR := Lib.hid (Row.new wr (ints 6 f) 25); replace HB := Lib.hid (HB.out.alloc HB.out.size (.cells (ints 6 f) 25)))
              | (refine wpList_load_Row HR.out rfl _ _ rfl rfl _ Try.underlying25 rfl (ev_size _) ?_)
              | (go_at_call 6; refine (refGains_g f _ _ HG.out HOK.out).mono ?_; rintro e wv ⟨rfl, hb⟩; replace HR := Lib.hid (HR.out.below hb); replace HB := Lib.hid (HB.out.trans (hb.mono HB.out.size)); clear hb))
          replace HR := Lib.hid HR.out.drew
          replace HB := Lib.hid HB.out.drew
          refine wp_region_E [(true, 2), (true, 0), (false, 1), (true, 3), (true, 4), (true, 7), (true, 8), (true, 9), (true, 5), (false, 6), (true, 10), (true, 11), (true, 12), (true, 13), (true, 14), (true, 15), (true, 16), (true, 17), (true, 18), (true, 19), (false, 20), (true, 21), (true, 22), (true, 23)] (by kernel_rfl) (by kernel_rfl) (by kernel_rfl) (by kernel_rfl) ?_
          refine wpE_quiet rfl ?_; go_big_quiet_step (fail); refine wpQuiet_nil ?_
          refine wpE_load HR.out rfl rfl _ rfl rfl Try.underlying25 rfl (ev_size f) ?_
          refine wpE_event rfl rfl (fun K hK => ?_)
          go_step
          refine (Gains_g f _ G HG.out).mono ?_
          rintro e wv ⟨rfl, hb⟩
          refine hK _ _ (Lat.of hb) ?_
          clear hK K
          replace HR := Lib.hid (HR.out.below hb)
          replace HB := Lib.hid (HB.out.trans (hb.mono HB.out.size))
          clear hb
          iterate 2 (refine wpE_quiet rfl ?_; go_big_quiet_step (fail); refine wpQuiet_nil ?_)
          have hlw := HR.out.lt
          have c0 := HR.out.cell (ints_get f (show 0 < 6 by omega))
          have c2 := HR.out.cell (ints_get f (show 2 < 6 by omega))
          have c3 := HR.out.cell (ints_get f (show 3 < 6 by omega))
          have c4 := HR.out.cell (ints_get f (show 4 < 6 by omega))
          have g0 := H0.out
          have g2 := H2.out
          iterate 3 (refine wpE_quiet rfl ?_; go_big_quiet_step (fail); refine wpQuiet_nil ?_)
          clear c0 c2 c3 c4 hlw
          refine wpE_load HR.out rfl rfl _ rfl rfl Try.underlying25 rfl (ev_size f) ?_
          refine wpE_event rfl rfl (fun K hK => ?_)
          go_step
          refine (Loses_g f _ _ HLL.out).mono ?_
          rintro e wv ⟨rfl, hb⟩
          refine hK _ _ (Lat.of hb) ?_
          clear hK K
          replace HR := Lib.hid (HR.out.below hb)
          replace HB := Lib.hid (HB.out.trans (hb.mono HB.out.size))
          clear hb
          have hlw := HR.out.lt
          have c0 := HR.out.cell (ints_get f (show 0 < 6 by omega))
          have c2 := HR.out.cell (ints_get f (show 2 < 6 by omega))
          have c3 := HR.out.cell (ints_get f (show 3 < 6 by omega))
          have c4 := HR.out.cell (ints_get f (show 4 < 6 by omega))
          have g0 := H0.out
          have g2 := H2.out
          iterate 10 (refine wpE_quiet rfl ?_; go_big_quiet_step (fail); refine wpQuiet_nil ?_)
          clear c0 c2 c3 c4 hlw
          refine wpE_skip rfl rfl ?_
          go_simp
          iterate 3 (refine wpE_quiet rfl ?_; go_big_quiet_step (fail); refine wpQuiet_nil ?_)
          refine wpE_nil ?_
          clear g0 g2
          go_wp2_with fail
          go_roundw
          case rel => exact ⟨k + 1, by omega, by go_num, by rw [HS.out]; simp, HB.out⟩
          case measure => simp [intOf]; omega)
      · have H0 := Lib.hid h0
        have H2 := Lib.hid h2
        obtain ⟨M, hM⟩ : ∃ M, mth.gain (f 4) (f 3) = M := ⟨_, rfl⟩
        have HM := Lib.hid hM
        have HLL : Hid (loses f = false) := Lib.hid (by rw [HLS.out, HAB.out, h0, h2, hM]; rfl)
        clear h0 h2 hM
        cases acc
        all_goals (
          go_wp2_with (first
              | (refine wpList_load_cells rfl _ _ rfl (ad.add (k * 6)) rfl (ints 6 f) _ Try.underlying25 rfl (ev_size _) HE.out ?_)
              | (refine wpList_alloc_agg rfl _ rfl _ ev_zeroV ?_)
              | (refine wpList_store_Row (Row.new _ _ _) rfl rfl _ _ _ rfl rfl rfl (ev_size f) (by simp only [ints_size]) (ints_one _ _) ?_; rw [World.setRow_alloc_new]; have HR := Lib.hid (Row.new wr (ints 6 f) 25); replace HB := Lib.hid (HB.out.alloc HB.out.size (.cells (ints 6 f) 25)))
              | (refine wpList_load_Row HR.out rfl _ _ rfl rfl _ Try.underlying25 rfl (ev_size _) ?_)
              | (go_at_call 6; refine (refGains_g f _ _ HG.out HOK.out).mono ?_; rintro e wv ⟨rfl, hb⟩; replace HR := Lib.hid (HR.out.below hb); replace HB := Lib.hid (HB.out.trans (hb.mono HB.out.size)); clear hb))
          replace HR := Lib.hid HR.out.drew
          replace HB := Lib.hid HB.out.drew
          refine wp_region_E [(true, 2), (true, 0), (false, 1), (true, 3), (true, 4), (true, 7), (true, 8), (true, 9), (true, 5), (false, 6), (true, 10), (true, 11), (true, 12), (true, 13), (true, 14), (true, 15), (true, 16), (true, 17), (true, 18), (true, 19), (false, 20), (true, 21), (true, 22), (true, 23)] (by kernel_rfl) (by kernel_rfl) (by kernel_rfl) (by kernel_rfl) ?_
          refine wpE_quiet rfl ?_; go_big_quiet_step (fail); refine wpQuiet_nil ?_
          refine wpE_load HR.out rfl rfl _ rfl rfl Try.underlying25 rfl (ev_size f) ?_
          refine wpE_event rfl rfl (fun K hK => ?_)
          go_step
          refine (Gains_g f _ G HG.out).mono ?_
          rintro e wv ⟨rfl, hb⟩
          refine hK _ _ (Lat.of hb) ?_
          clear hK K
          replace HR := Lib.hid (HR.out.below hb)
          replace HB := Lib.hid (HB.out.trans (hb.mono HB.out.size))
          clear hb
          iterate 2 (refine wpE_quiet rfl ?_; go_big_quiet_step (fail); refine wpQuiet_nil ?_)
          have hlw := HR.out.lt
          have c0 := HR.out.cell (ints_get f (show 0 < 6 by omega))
          have c2 := HR.out.cell (ints_get f (show 2 < 6 by omega))
          have c3 := HR.out.cell (ints_get f (show 3 < 6 by omega))
          have c4 := HR.out.cell (ints_get f (show 4 < 6 by omega))
          have g0 := H0.out
          have g2 := H2.out
          iterate 3 (refine wpE_quiet rfl ?_; go_big_quiet_step (fail); refine wpQuiet_nil ?_)
          clear c0 c2 c3 c4 hlw
          refine wpE_load HR.out rfl rfl _ rfl rfl Try.underlying25 rfl (ev_size f) ?_
          refine wpE_event rfl rfl (fun K hK => ?_)
          go_step
          refine (Loses_g f _ _ HLL.out).mono ?_
          rintro e wv ⟨rfl, hb⟩
          refine hK _ _ (Lat.of hb) ?_
          clear hK K
          replace HR := Lib.hid (HR.out.below hb)
          replace HB := Lib.hid (HB.out.trans (hb.mono HB.out.size))
          clear hb
          have hlw := HR.out.lt
          have c0 := HR.out.cell (ints_get f (show 0 < 6 by omega))
          have c2 := HR.out.cell (ints_get f (show 2 < 6 by omega))
          have c3 := HR.out.cell (ints_get f (show 3 < 6 by omega))
          have c4 := HR.out.cell (ints_get f (show 4 < 6 by omega))
          have g0 := H0.out
          have g2 := H2.out
          iterate 10 (refine wpE_quiet rfl ?_; go_big_quiet_step (fail); refine wpQuiet_nil ?_)
          clear c0 c2 c3 c4 hlw
          refine wpE_skip rfl rfl ?_
          go_simp
          iterate 3 (refine wpE_quiet rfl ?_; go_big_quiet_step (fail); refine wpQuiet_nil ?_)
          refine wpE_nil ?_
          clear g0 g2
          go_wp2_with fail
          go_roundw
          case rel => exact ⟨k + 1, by omega, by go_num, by rw [HS.out]; simp, HB.out⟩
          case measure => simp [intOf]; omega)
      · have H0 := Lib.hid h0
        have H2 := Lib.hid h2
        obtain ⟨M, hM⟩ : ∃ M, mth.gain (f 4) (f 3) = M := ⟨_, rfl⟩
        have HM := Lib.hid hM
        have HLL : Hid (loses f = false) := Lib.hid (by rw [HLS.out, HAB.out, h0, h2, hM]; rfl)
        clear h0 h2 hM
        cases acc
        all_goals (
          go_wp2_with (first
              | (refine wpList_load_cells rfl _ _ rfl (ad.add (k * 6)) rfl (ints 6 f) _ Try.underlying25 rfl (ev_size _) HE.out ?_)
              | (refine wpList_alloc_agg rfl _ rfl _ ev_zeroV ?_)
              | (refine wpList_store_Row (Row.new _ _ _) rfl rfl _ _ _ rfl rfl rfl (ev_size f) (by simp only [ints_size]) (ints_one _ _) ?_; rw [World.setRow_alloc_new]; have HR := Lib.hid (Row.new wr (ints 6 f) 25); replace HB := Lib.hid (HB.out.alloc HB.out.size (.cells (ints 6 f) 25)))
              | (refine wpList_load_Row HR.out rfl _ _ rfl rfl _ Try.underlying25 rfl (ev_size _) ?_)
              | (go_at_call 6; refine (refGains_g f _ _ HG.out HOK.out).mono ?_; rintro e wv ⟨rfl, hb⟩; replace HR := Lib.hid (HR.out.below hb); replace HB := Lib.hid (HB.out.trans (hb.mono HB.out.size)); clear hb))
          replace HR := Lib.hid HR.out.drew
          replace HB := Lib.hid HB.out.drew
          refine wp_region_E [(true, 2), (true, 0), (false, 1), (true, 3), (true, 4), (true, 7), (true, 8), (true, 9), (true, 5), (false, 6), (true, 10), (true, 11), (true, 12), (true, 13), (true, 14), (true, 15), (true, 16), (true, 17), (true, 18), (true, 19), (false, 20), (true, 21), (true, 22), (true, 23)] (by kernel_rfl) (by kernel_rfl) (by kernel_rfl) (by kernel_rfl) ?_
          refine wpE_quiet rfl ?_; go_big_quiet_step (fail); refine wpQuiet_nil ?_
          refine wpE_load HR.out rfl rfl _ rfl rfl Try.underlying25 rfl (ev_size f) ?_
          refine wpE_event rfl rfl (fun K hK => ?_)
          go_step
          refine (Gains_g f _ G HG.out).mono ?_
          rintro e wv ⟨rfl, hb⟩
          refine hK _ _ (Lat.of hb) ?_
          clear hK K
          replace HR := Lib.hid (HR.out.below hb)
          replace HB := Lib.hid (HB.out.trans (hb.mono HB.out.size))
          clear hb
          iterate 2 (refine wpE_quiet rfl ?_; go_big_quiet_step (fail); refine wpQuiet_nil ?_)
          have hlw := HR.out.lt
          have c0 := HR.out.cell (ints_get f (show 0 < 6 by omega))
          have c2 := HR.out.cell (ints_get f (show 2 < 6 by omega))
          have c3 := HR.out.cell (ints_get f (show 3 < 6 by omega))
          have c4 := HR.out.cell (ints_get f (show 4 < 6 by omega))
          have g0 := H0.out
          have g2 := H2.out
          iterate 3 (refine wpE_quiet rfl ?_; go_big_quiet_step (fail); refine wpQuiet_nil ?_)
          clear c0 c2 c3 c4 hlw
          refine wpE_load HR.out rfl rfl _ rfl rfl Try.underlying25 rfl (ev_size f) ?_
          refine wpE_event rfl rfl (fun K hK => ?_)
          go_step
          refine (Loses_g f _ _ HLL.out).mono ?_
          rintro e wv ⟨rfl, hb⟩
          refine hK _ _ (Lat.of hb) ?_
          clear hK K
          replace HR := Lib.hid (HR.out.below hb)
          replace HB := Lib.hid (HB.out.trans (hb.mono HB.out.size))
          clear hb
          have hlw := HR.out.lt
          have c0 := HR.out.cell (ints_get f (show 0 < 6 by omega))
          have c2 := HR.out.cell (ints_get f (show 2 < 6 by omega))
          have c3 := HR.out.cell (ints_get f (show 3 < 6 by omega))
          have c4 := HR.out.cell (ints_get f (show 4 < 6 by omega))
          have g0 := H0.out
          have g2 := H2.out
          iterate 10 (refine wpE_quiet rfl ?_; go_big_quiet_step (fail); refine wpQuiet_nil ?_)
          clear c0 c2 c3 c4 hlw
          refine wpE_skip rfl rfl ?_
          go_simp
          iterate 3 (refine wpE_quiet rfl ?_; go_big_quiet_step (fail); refine wpQuiet_nil ?_)
          refine wpE_nil ?_
          clear g0 g2
          go_wp2_with fail
          go_roundw
          case rel => exact ⟨k + 1, by omega, by go_num, by rw [HS.out]; simp, HB.out⟩
          case measure => simp [intOf]; omega)
      · have H0 := Lib.hid h0
        have H2 := Lib.hid h2
        obtain ⟨M, hM⟩ : ∃ M, mth.gain (f 4) (f 3) = M := ⟨_, rfl⟩
        have HM := Lib.hid hM
        have HLL : Hid (loses f = M) := Lib.hid (by rw [HLS.out, HAB.out, h0, h2, hM]; rfl)
        clear h0 h2 hM
        cases acc
        all_goals (
          go_wp2_with (first
              | (refine wpList_load_cells rfl _ _ rfl (ad.add (k * 6)) rfl (ints 6 f) _ Try.underlying25 rfl (ev_size _) HE.out ?_)
              | (refine wpList_alloc_agg rfl _ rfl _ ev_zeroV ?_)
              | (refine wpList_store_Row (Row.new _ _ _) rfl rfl _ _ _ rfl rfl rfl (ev_size f) (by simp only [ints_size]) (ints_one _ _) ?_; rw [World.setRow_alloc_new]; have HR := Lib.hid (Row.new wr (ints 6 f) 25); replace HB := Lib.hid (HB.out.alloc HB.out.size (.cells (ints 6 f) 25)))
              | (refine wpList_load_Row HR.out rfl _ _ rfl rfl _ Try.underlying25 rfl (ev_size _) ?_)
              | (go_at_call 6; refine (refGains_g f _ _ HG.out HOK.out).mono ?_; rintro e wv ⟨rfl, hb⟩; replace HR := Lib.hid (HR.out.below hb); replace HB := Lib.hid (HB.out.trans (hb.mono HB.out.size)); clear hb))
          replace HR := Lib.hid HR.out.drew
          replace HB := Lib.hid HB.out.drew
          refine wp_region_E [(true, 2), (true, 0), (false, 1), (true, 3), (true, 4), (true, 7), (true, 8), (true, 9), (true, 5), (false, 6), (true, 10), (true, 11), (true, 12), (true, 13), (true, 14), (true, 15), (true, 16), (true, 17), (true, 18), (true, 19), (false, 20), (true, 21), (true, 22), (true, 23)] (by kernel_rfl) (by kernel_rfl) (by kernel_rfl) (by kernel_rfl) ?_
          refine wpE_quiet rfl ?_; go_big_quiet_step (fail); refine wpQuiet_nil ?_
          refine wpE_load HR.out rfl rfl _ rfl rfl Try.underlying25 rfl (ev_size f) ?_
          refine wpE_event rfl rfl (fun K hK => ?_)
          go_step
          refine (Gains_g f _ G HG.out).mono ?_
          rintro e wv ⟨rfl, hb⟩
          refine hK _ _ (Lat.of hb) ?_
          clear hK K
          replace HR := Lib.hid (HR.out.below hb)
          replace HB := Lib.hid (HB.out.trans (hb.mono HB.out.size))
          clear hb
          iterate 2 (refine wpE_quiet rfl ?_; go_big_quiet_step (fail); refine wpQuiet_nil ?_)
          have hlw := HR.out.lt
          have c0 := HR.out.cell (ints_get f (show 0 < 6 by omega))
          have c2 := HR.out.cell (ints_get f (show 2 < 6 by omega))
          have c3 := HR.out.cell (ints_get f (show 3 < 6 by omega))
          have c4 := HR.out.cell (ints_get f (show 4 < 6 by omega))
          have g0 := H0.out
          have g2 := H2.out
          iterate 3 (refine wpE_quiet rfl ?_; go_big_quiet_step (fail); refine wpQuiet_nil ?_)
          clear c0 c2 c3 c4 hlw
          refine wpE_load HR.out rfl rfl _ rfl rfl Try.underlying25 rfl (ev_size f) ?_
          refine wpE_event rfl rfl (fun K hK => ?_)
          go_step
          refine (Loses_g f _ _ HLL.out).mono ?_
          rintro e wv ⟨rfl, hb⟩
          refine hK _ _ (Lat.of hb) ?_
          clear hK K
          replace HR := Lib.hid (HR.out.below hb)
          replace HB := Lib.hid (HB.out.trans (hb.mono HB.out.size))
          clear hb
          have hlw := HR.out.lt
          have c0 := HR.out.cell (ints_get f (show 0 < 6 by omega))
          have c2 := HR.out.cell (ints_get f (show 2 < 6 by omega))
          have c3 := HR.out.cell (ints_get f (show 3 < 6 by omega))
          have c4 := HR.out.cell (ints_get f (show 4 < 6 by omega))
          have g0 := H0.out
          have g2 := H2.out
          iterate 10 (refine wpE_quiet rfl ?_; go_big_quiet_step (fail); refine wpQuiet_nil ?_)
          clear c0 c2 c3 c4 hlw
          refine wpE_event rfl rfl (fun K hK => ?_)
          go_step
          refine (More_g _ _ _ M HM.out (HOK.out 4 (by omega)).1 (HOK.out 4 (by omega)).2 (HOK.out 3 (by omega)).1 (HOK.out 3 (by omega)).2).mono ?_
          rintro e wv ⟨rfl, hb⟩
          refine hK _ _ (Lat.of hb) ?_
          clear hK K
          replace HR := Lib.hid (HR.out.below hb)
          replace HB := Lib.hid (HB.out.trans (hb.mono HB.out.size))
          clear hb
          iterate 3 (refine wpE_quiet rfl ?_; go_big_quiet_step (fail); refine wpQuiet_nil ?_)
          refine wpE_nil ?_
          clear g0 g2
          go_wp2_with fail
          go_roundw
          case rel => exact ⟨k + 1, by omega, by go_num, by rw [HS.out]; simp, HB.out⟩
          case measure => simp [intOf]; omega)
    · obtain rfl : k = n := by omega
      have HT : Hid (anyG (l.take k) = anyG l) := Lib.hid (by rw [List.take_of_length_le (by have := HL.out; omega)])
      go_wp2_with (go_at_call 10; refine (Gained_c A k c l _ (HA.out.mono HB.out.size (fun p hp => HB.out.cell hp)) HL.out hn).mono ?_; rintro e w3 ⟨rfl, hb3⟩)
      go_ret
      exact ⟨ret_bool (by rw [HT.out]; simp), HB.out.trans (hb3.mono HB.out.size)⟩
end Go.Proofs.Ytlgfnimahmmgeaa
