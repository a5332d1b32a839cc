/-
  PackBack: for any object and any head the law answers true, in a world in which the two tables lie.
-/
import Derived.Test.YtpmkdbiejeedeaaDoorLaw03D
import Derived.Test.YtpmkdbiejeedeaaDoorLaw03B
import Derived.Deep.CutBlock

namespace Go.Proofs.YtpmkdbiejeedeaaDoor
open Go.RowKit
set_option linter.unusedVariables false

theorem differ_obj (f : Nat → Int) (W : World) : (binOp .neq 31 (.agg (ints 18 f)) (.agg (ints 18 f))).run Tryd.prog W = .ok (.bool false) W := by
  have := run_neq_arr W 18 31 3 .i64 f f Tryd.underlying31 Tryd.underlying3 int_size1
  rw [sameTo_iff, decide_eq_true (fun i _ => rfl)] at this
  exact this
theorem same_objz (W : World) : (binOp .eql 31 (.agg (ints 18 fun _ => 0)) (.agg #[.int .i64 0, .int .i64 0, .int .i64 0, .int .i64 0, .int .i64 0, .int .i64 0, .int .i64 0, .int .i64 0, .int .i64 0, .int .i64 0, .int .i64 0, .int .i64 0, .int .i64 0, .int .i64 0, .int .i64 0, .int .i64 0, .int .i64 0, .int .i64 0])).run Tryd.prog W = .ok (.bool true) W := by
  have := same_obj (fun _ => 0) W
  rw [← zeros_eq] at this ⊢
  exact this

/-- what is known of the first half -/
def headBack (f : Nat → Int) : Prop := (headE f = 0 ∧ ∃ x : Nat, (x : Int) ≤ 4294967295 ∧ headX f = x ∧ ints 18 (objF x (restF f)) = ints 18 f ∧ objE x = 0) ∨ headE f = 1
theorem headBack_ok (f : Nat → Int) : headBack f := by
  by_cases h : mth.okH f 9
  · refine .inl ⟨(head_ok h).2, mth.hdN f 9, ?_, (head_ok h).1, ?_, ?_⟩
    · have := mth.hdN_lt (f := f) (k := 9) (by omega) h
      have e : mth.atK 9 = 21 := rfl
      rw [e] at this; omega
    · have := mth.hdN_lt (f := f) (k := 9) (by omega) h
      have e : mth.atK 9 = 21 := rfl
      rw [e] at this
      refine ints_congr fun i hi => ?_
      unfold objF
      rw [if_pos (by omega)]
      exact mth.obj_back h hi
    · have := mth.hdN_lt (f := f) (k := 9) (by omega) h
      have e : mth.atK 9 = 21 := rfl
      rw [e] at this
      unfold objE; rw [if_pos (by omega)]
  · refine .inr ?_
    unfold headE; rw [if_neg h]
/-- and of the second -/
theorem objBack (h : Nat) (f : Nat → Int) (hh : h < 2097152) : headX (objF h (restF f)) = h ∧ headE (objF h (restF f)) = 0 ∧ objE h = 0 ∧ ints 9 (restF (objF h (restF f))) = ints 9 (restF f) := by
  have e : objF h (restF f) = mth.obj h (restF f) 9 9 := by unfold objF; rw [if_pos hh]
  rw [e]
  have hok := mth.obj_ok h (restF f)
  refine ⟨?_, (head_ok hok).2, by unfold objE; rw [if_pos hh], ints_congr fun i hi => ?_⟩
  · rw [(head_ok hok).1, mth.hdN_obj h (restF f) 9 (by omega), show mth.atK 9 = 21 from rfl, Nat.mod_eq_of_lt (by omega)]
  · show mth.obj h (restF f) 9 9 (mth.ot i) = restF f i
    rw [mth.obj_ot hi]
theorem objBad (h : Nat) (r : Nat → Int) (hh : ¬ h < 2097152) : ints 18 (objF h r) = (ints 18 fun _ => 0) ∧ objE h = 2 := by
  unfold objF objE; rw [if_neg hh, if_neg hh]; exact ⟨rfl, rfl⟩
theorem objF_bd {h : Nat} {f : Nat → Int} (hh : h < 2097152) (hf : Ok18 f 18) : Ok18 (objF h (restF f)) 18 := fun i hi => by
  unfold objF
  rw [if_pos hh]
  rcases mth.tab18 hi with ⟨a, b⟩ | ⟨a, b, c⟩
  · rw [← b, mth.obj_fl a]
    have := Nat.mod_lt (h / 2 ^ mth.atK (mth.fld.idxOf i)) (Nat.two_pow_pos (mth.wi (mth.fld.idxOf i)))
    obtain ⟨_, _, h8, _⟩ := mth.tab a
    have := mth.pow_le _ _ h8
    unfold mth.ptN
    omega
  · rw [← c, mth.obj_ot b]
    exact hf _ (by rw [c]; exact hi)

set_option maxRecDepth 100000 in
set_option maxHeartbeats 2000000 in
theorem PackBack_n (f : Nat → Int) (h : Nat) (w : World) (ht : Tabs w) (ht2 : Tabs2 w) (hf : Ok18 f 18) (hh : (h : Int) ≤ 4294967295) :
    Calls Tryd.prog 6 #[.agg (ints 18 f), .int .u32 (h : Nat)] w (Ret w (.bool true)) := by
  have HT := Lib.hid ht
  have HT2 := Lib.hid ht2
  have HFB := Lib.hid hf
  have hne := differ_obj f
  have hz := same_objz
  have hn9 := same_nine (restF f)
  clear ht ht2 hf
  rcases headBack_ok f with ⟨e1, x, hx, e2, e3, e4⟩ | e1 <;> by_cases hb : h < 2097152
  · obtain ⟨g1, g2, g3, g4⟩ := objBack h f hb
    have HOB := Lib.hid (objF_bd hb HFB.out)
    have hb' : ¬ (2097152 : Int) ≤ h := by omega
    have G1 := Lib.hid g1
    have G2 := Lib.hid g2
    have G3 := Lib.hid g3
    have G4 := Lib.hid g4
    clear g1 g2 g3 g4 hb
    generalize hFq : objF h (restF f) = F at *
    have HFQ := Lib.hid hFq
    clear hFq
    have E1 := Lib.hid e1
    have E2 := Lib.hid e2
    have E3 := Lib.hid e3
    have E4 := Lib.hid e4
    clear e1 e2 e3 e4
    go_enter Tryd.func6, Tryd.ntmps6
    go_wp2_with (refine wpList_box_agg rfl _ _ rfl (ints 18 f) rfl ?_)
    have HR := Lib.hid (Row.new w (ints 18 f) 31)
    have HB := Lib.hid ((Below.refl w.heap.size w).alloc (Nat.le_refl _) (.cells (ints 18 f) 31))
    generalize w.alloc (.cells (ints 18 f) 31) = wv at *
    go_upto_region 8 with (first
      | (go_at_call 7; refine (alive_c _ (HT.out.below HB.out)).mono ?_; rintro e wv ⟨rfl, hb⟩; (try replace HP := Lib.hid (HP.out.below hb)); (try replace HQ := Lib.hid (HQ.out.below hb)); replace HR := Lib.hid (HR.out.below hb); replace HB := Lib.hid (HB.out.trans (hb.mono HB.out.size)); clear hb)
      | (go_at_call 11; first | ((with_reducible refine (Head_c f _ (HT.out.below HB.out) HFB.out).mono ?_); rintro e wv ⟨rfl, hb⟩; rw [E1.out, E2.out, errV_zero]; (try replace HP := Lib.hid (HP.out.below hb)); (try replace HQ := Lib.hid (HQ.out.below hb)); replace HR := Lib.hid (HR.out.below hb); replace HB := Lib.hid (HB.out.trans (hb.mono HB.out.size)); clear hb) | ((with_reducible refine (Head_c F _ (HT.out.below HB.out) HOB.out).mono ?_); rintro e wv ⟨rfl, hb⟩; rw [G1.out, G2.out, errV_zero]; (try replace HP := Lib.hid (HP.out.below hb)); (try replace HQ := Lib.hid (HQ.out.below hb)); replace HR := Lib.hid (HR.out.below hb); replace HB := Lib.hid (HB.out.trans (hb.mono HB.out.size)); clear hb))
      | (go_at_call 14; refine (Rest_c f _ (HT2.out.below HB.out)).mono ?_; rintro e wv ⟨rfl, hb⟩; (try replace HP := Lib.hid (HP.out.below hb)); (try replace HQ := Lib.hid (HQ.out.below hb)); replace HR := Lib.hid (HR.out.below hb); replace HB := Lib.hid (HB.out.trans (hb.mono HB.out.size)); clear hb)
      | (go_at_call 16; first | ((with_reducible refine (Object_c x (restF f) _ hx (HT.out.below HB.out) (HT2.out.below HB.out)).mono ?_); rintro e wv ⟨rfl, hb⟩; rw [E3.out, E4.out, errV_zero]; (try replace HP := Lib.hid (HP.out.below hb)); (try replace HQ := Lib.hid (HQ.out.below hb)); replace HR := Lib.hid (HR.out.below hb); replace HB := Lib.hid (HB.out.trans (hb.mono HB.out.size)); clear hb) | ((with_reducible refine (Object_c h (restF f) _ hh (HT.out.below HB.out) (HT2.out.below HB.out)).mono ?_); rintro e wv ⟨rfl, hb⟩; rw [HFQ.out, G3.out, errV_zero]; (try replace HP := Lib.hid (HP.out.below hb)); (try replace HQ := Lib.hid (HQ.out.below hb)); replace HR := Lib.hid (HR.out.below hb); replace HB := Lib.hid (HB.out.trans (hb.mono HB.out.size)); clear hb))
      | (refine wpList_alloc_agg rfl _ rfl _ obj_zeroV ?_)
      | (refine wpList_store_Row (Row.new _ _ _) rfl rfl _ _ _ rfl rfl rfl (obj_isz f) (by simp only [ints_size]) (ints_one _ _) ?_; rw [World.setRow_alloc_new]; (try replace HP := Lib.hid (HP.out.alloc (.cells (ints 18 f) 31))); have HP := Lib.hid (Row.new wv (ints 18 f) 31); replace HR := Lib.hid (HR.out.alloc (.cells (ints 18 f) 31)); replace HB := Lib.hid (HB.out.alloc HB.out.size (.cells (ints 18 f) 31)); generalize wv.alloc (.cells (ints 18 f) 31) = wv at *)
      | (refine wpList_load_RowW HP.out rfl _ _ rfl rfl _ Tryd.underlying31 rfl (obj_isz _) ?_)
      | (refine wpList_load_RowW HQ.out rfl _ _ rfl rfl _ Tryd.underlying31 rfl (obj_isz _) ?_)
      | (refine wpList_load_RowW HR.out rfl _ _ rfl rfl _ Tryd.underlying31 rfl (obj_isz _) ?_))
    go_wp2_with (first
      | (go_at_call 7; refine (alive_c _ (HT.out.below HB.out)).mono ?_; rintro e wv ⟨rfl, hb⟩; (try replace HP := Lib.hid (HP.out.below hb)); (try replace HQ := Lib.hid (HQ.out.below hb)); replace HR := Lib.hid (HR.out.below hb); replace HB := Lib.hid (HB.out.trans (hb.mono HB.out.size)); clear hb)
      | (go_at_call 11; first | ((with_reducible refine (Head_c f _ (HT.out.below HB.out) HFB.out).mono ?_); rintro e wv ⟨rfl, hb⟩; rw [E1.out, E2.out, errV_zero]; (try replace HP := Lib.hid (HP.out.below hb)); (try replace HQ := Lib.hid (HQ.out.below hb)); replace HR := Lib.hid (HR.out.below hb); replace HB := Lib.hid (HB.out.trans (hb.mono HB.out.size)); clear hb) | ((with_reducible refine (Head_c F _ (HT.out.below HB.out) HOB.out).mono ?_); rintro e wv ⟨rfl, hb⟩; rw [G1.out, G2.out, errV_zero]; (try replace HP := Lib.hid (HP.out.below hb)); (try replace HQ := Lib.hid (HQ.out.below hb)); replace HR := Lib.hid (HR.out.below hb); replace HB := Lib.hid (HB.out.trans (hb.mono HB.out.size)); clear hb))
      | (go_at_call 14; refine (Rest_c f _ (HT2.out.below HB.out)).mono ?_; rintro e wv ⟨rfl, hb⟩; (try replace HP := Lib.hid (HP.out.below hb)); (try replace HQ := Lib.hid (HQ.out.below hb)); replace HR := Lib.hid (HR.out.below hb); replace HB := Lib.hid (HB.out.trans (hb.mono HB.out.size)); clear hb)
      | (go_at_call 16; first | ((with_reducible refine (Object_c x (restF f) _ hx (HT.out.below HB.out) (HT2.out.below HB.out)).mono ?_); rintro e wv ⟨rfl, hb⟩; rw [E3.out, E4.out, errV_zero]; (try replace HP := Lib.hid (HP.out.below hb)); (try replace HQ := Lib.hid (HQ.out.below hb)); replace HR := Lib.hid (HR.out.below hb); replace HB := Lib.hid (HB.out.trans (hb.mono HB.out.size)); clear hb) | ((with_reducible refine (Object_c h (restF f) _ hh (HT.out.below HB.out) (HT2.out.below HB.out)).mono ?_); rintro e wv ⟨rfl, hb⟩; rw [HFQ.out, G3.out, errV_zero]; (try replace HP := Lib.hid (HP.out.below hb)); (try replace HQ := Lib.hid (HQ.out.below hb)); replace HR := Lib.hid (HR.out.below hb); replace HB := Lib.hid (HB.out.trans (hb.mono HB.out.size)); clear hb))
      | (refine wpList_alloc_agg rfl _ rfl _ obj_zeroV ?_)
      | (refine wpList_store_Row (Row.new _ _ _) rfl rfl _ _ _ rfl rfl rfl (obj_isz F) (by simp only [ints_size]) (ints_one _ _) ?_; rw [World.setRow_alloc_new]; (try replace HP := Lib.hid (HP.out.alloc (.cells (ints 18 F) 31))); have HQ := Lib.hid (Row.new wv (ints 18 F) 31); replace HR := Lib.hid (HR.out.alloc (.cells (ints 18 F) 31)); replace HB := Lib.hid (HB.out.alloc HB.out.size (.cells (ints 18 F) 31)); generalize wv.alloc (.cells (ints 18 F) 31) = wv at *)
      | (refine wpList_load_RowW HP.out rfl _ _ rfl rfl _ Tryd.underlying31 rfl (obj_isz _) ?_)
      | (refine wpList_load_RowW HQ.out rfl _ _ rfl rfl _ Tryd.underlying31 rfl (obj_isz _) ?_)
      | (refine wpList_load_RowW HR.out rfl _ _ rfl rfl _ Tryd.underlying31 rfl (obj_isz _) ?_))
    replace HR := Lib.hid HR.out.drew
    replace HQ := Lib.hid HQ.out.drew
    replace HB := Lib.hid HB.out.drew
    refine wp_region_E [(true, 0), (true, 1), (true, 2), (true, 3), (true, 4), (true, 5), (true, 6), (true, 7), (true, 8), (true, 10), (false, 9), (false, 11), (true, 12), (true, 13), (true, 14)] (by kernel_rfl) (by kernel_rfl) (by kernel_rfl) (by kernel_rfl) ?_
    iterate 8 (refine wpE_quiet rfl ?_; go_big_quiet_step (fail); refine wpQuiet_nil ?_)
    refine wpE_load HQ.out rfl rfl _ rfl rfl Tryd.underlying31 rfl (obj_isz _) ?_
    refine wpE_load HR.out rfl rfl _ rfl rfl Tryd.underlying31 rfl (obj_isz _) ?_
    refine wpE_event rfl rfl (fun K hK => ?_)
    go_step
    refine (Rest_c F _ (HT2.out.below HB.out)).mono ?_
    rintro e w4 ⟨rfl, hb4⟩
    rw [G4.out]
    refine hK _ _ (Lat.of hb4) ?_
    clear hK K
    replace HB := Lib.hid (HB.out.trans (hb4.mono HB.out.size))
    clear hb4
    refine wpE_event rfl rfl (fun K hK => ?_)
    go_step
    refine (Rest_c f _ (HT2.out.below HB.out)).mono ?_
    rintro e w5 ⟨rfl, hb5⟩
    refine hK _ _ (Lat.of hb5) ?_
    clear hK K
    replace HB := Lib.hid (HB.out.trans (hb5.mono HB.out.size))
    clear hb5
    repeat (refine wpE_quiet rfl ?_; go_big_quiet_step (fail); refine wpQuiet_nil ?_)
    refine wpE_nil ?_
    go_wp2_with fail
    go_ret
    exact ⟨rfl, HB.out⟩
  · have HZ := Lib.hid (objBad h (restF f) hb)
    have hb' : (2097152 : Int) ≤ h := by omega
    clear hb
    have E1 := Lib.hid e1
    have E2 := Lib.hid e2
    have E3 := Lib.hid e3
    have E4 := Lib.hid e4
    clear e1 e2 e3 e4
    go_enter Tryd.func6, Tryd.ntmps6
    go_wp2_with (refine wpList_box_agg rfl _ _ rfl (ints 18 f) rfl ?_)
    have HR := Lib.hid (Row.new w (ints 18 f) 31)
    have HB := Lib.hid ((Below.refl w.heap.size w).alloc (Nat.le_refl _) (.cells (ints 18 f) 31))
    generalize w.alloc (.cells (ints 18 f) 31) = wv at *
    go_upto_region 8 with (first
      | (go_at_call 7; refine (alive_c _ (HT.out.below HB.out)).mono ?_; rintro e wv ⟨rfl, hb⟩; (try replace HP := Lib.hid (HP.out.below hb)); (try replace HQ := Lib.hid (HQ.out.below hb)); replace HR := Lib.hid (HR.out.below hb); replace HB := Lib.hid (HB.out.trans (hb.mono HB.out.size)); clear hb)
      | (go_at_call 11; first | ((with_reducible refine (Head_c f _ (HT.out.below HB.out) HFB.out).mono ?_); rintro e wv ⟨rfl, hb⟩; rw [E1.out, E2.out, errV_zero]; (try replace HP := Lib.hid (HP.out.below hb)); (try replace HQ := Lib.hid (HQ.out.below hb)); replace HR := Lib.hid (HR.out.below hb); replace HB := Lib.hid (HB.out.trans (hb.mono HB.out.size)); clear hb))
      | (go_at_call 14; refine (Rest_c f _ (HT2.out.below HB.out)).mono ?_; rintro e wv ⟨rfl, hb⟩; (try replace HP := Lib.hid (HP.out.below hb)); (try replace HQ := Lib.hid (HQ.out.below hb)); replace HR := Lib.hid (HR.out.below hb); replace HB := Lib.hid (HB.out.trans (hb.mono HB.out.size)); clear hb)
      | (go_at_call 16; first | ((with_reducible refine (Object_c x (restF f) _ hx (HT.out.below HB.out) (HT2.out.below HB.out)).mono ?_); rintro e wv ⟨rfl, hb⟩; rw [E3.out, E4.out, errV_zero]; (try replace HP := Lib.hid (HP.out.below hb)); (try replace HQ := Lib.hid (HQ.out.below hb)); replace HR := Lib.hid (HR.out.below hb); replace HB := Lib.hid (HB.out.trans (hb.mono HB.out.size)); clear hb) | ((with_reducible refine (Object_c h (restF f) _ hh (HT.out.below HB.out) (HT2.out.below HB.out)).mono ?_); rintro e wv ⟨rfl, hb⟩; rw [HZ.out.1, HZ.out.2, errV_ne (by decide)]; (try replace HP := Lib.hid (HP.out.below hb)); (try replace HQ := Lib.hid (HQ.out.below hb)); replace HR := Lib.hid (HR.out.below hb); replace HB := Lib.hid (HB.out.trans (hb.mono HB.out.size)); clear hb))
      | (refine wpList_alloc_agg rfl _ rfl _ obj_zeroV ?_)
      | (refine wpList_store_Row (Row.new _ _ _) rfl rfl _ _ _ rfl rfl rfl (obj_isz f) (by simp only [ints_size]) (ints_one _ _) ?_; rw [World.setRow_alloc_new]; (try replace HP := Lib.hid (HP.out.alloc (.cells (ints 18 f) 31))); have HP := Lib.hid (Row.new wv (ints 18 f) 31); replace HR := Lib.hid (HR.out.alloc (.cells (ints 18 f) 31)); replace HB := Lib.hid (HB.out.alloc HB.out.size (.cells (ints 18 f) 31)); generalize wv.alloc (.cells (ints 18 f) 31) = wv at *)
      | (refine wpList_load_RowW HP.out rfl _ _ rfl rfl _ Tryd.underlying31 rfl (obj_isz _) ?_)
      | (refine wpList_load_RowW HQ.out rfl _ _ rfl rfl _ Tryd.underlying31 rfl (obj_isz _) ?_)
      | (refine wpList_load_RowW HR.out rfl _ _ rfl rfl _ Tryd.underlying31 rfl (obj_isz _) ?_))
    go_wp2_with (first
      | (go_at_call 7; refine (alive_c _ (HT.out.below HB.out)).mono ?_; rintro e wv ⟨rfl, hb⟩; (try replace HP := Lib.hid (HP.out.below hb)); (try replace HQ := Lib.hid (HQ.out.below hb)); replace HR := Lib.hid (HR.out.below hb); replace HB := Lib.hid (HB.out.trans (hb.mono HB.out.size)); clear hb)
      | (go_at_call 11; first | ((with_reducible refine (Head_c f _ (HT.out.below HB.out) HFB.out).mono ?_); rintro e wv ⟨rfl, hb⟩; rw [E1.out, E2.out, errV_zero]; (try replace HP := Lib.hid (HP.out.below hb)); (try replace HQ := Lib.hid (HQ.out.below hb)); replace HR := Lib.hid (HR.out.below hb); replace HB := Lib.hid (HB.out.trans (hb.mono HB.out.size)); clear hb))
      | (go_at_call 14; refine (Rest_c f _ (HT2.out.below HB.out)).mono ?_; rintro e wv ⟨rfl, hb⟩; (try replace HP := Lib.hid (HP.out.below hb)); (try replace HQ := Lib.hid (HQ.out.below hb)); replace HR := Lib.hid (HR.out.below hb); replace HB := Lib.hid (HB.out.trans (hb.mono HB.out.size)); clear hb)
      | (go_at_call 16; first | ((with_reducible refine (Object_c x (restF f) _ hx (HT.out.below HB.out) (HT2.out.below HB.out)).mono ?_); rintro e wv ⟨rfl, hb⟩; rw [E3.out, E4.out, errV_zero]; (try replace HP := Lib.hid (HP.out.below hb)); (try replace HQ := Lib.hid (HQ.out.below hb)); replace HR := Lib.hid (HR.out.below hb); replace HB := Lib.hid (HB.out.trans (hb.mono HB.out.size)); clear hb) | ((with_reducible refine (Object_c h (restF f) _ hh (HT.out.below HB.out) (HT2.out.below HB.out)).mono ?_); rintro e wv ⟨rfl, hb⟩; rw [HZ.out.1, HZ.out.2, errV_ne (by decide)]; (try replace HP := Lib.hid (HP.out.below hb)); (try replace HQ := Lib.hid (HQ.out.below hb)); replace HR := Lib.hid (HR.out.below hb); replace HB := Lib.hid (HB.out.trans (hb.mono HB.out.size)); clear hb))
      | (refine wpList_alloc_agg rfl _ rfl _ obj_zeroV ?_)
      | (refine wpList_store_Row (Row.new _ _ _) rfl rfl _ _ _ rfl rfl rfl (obj_isz (fun _ => 0)) (by simp only [ints_size]) (ints_one _ _) ?_; rw [World.setRow_alloc_new]; (try replace HP := Lib.hid (HP.out.alloc (.cells (ints 18 (fun _ => 0)) 31))); have HQ := Lib.hid (Row.new wv (ints 18 (fun _ => 0)) 31); replace HR := Lib.hid (HR.out.alloc (.cells (ints 18 (fun _ => 0)) 31)); replace HB := Lib.hid (HB.out.alloc HB.out.size (.cells (ints 18 (fun _ => 0)) 31)); generalize wv.alloc (.cells (ints 18 (fun _ => 0)) 31) = wv at *)
      | (refine wpList_load_RowW HP.out rfl _ _ rfl rfl _ Tryd.underlying31 rfl (obj_isz _) ?_)
      | (refine wpList_load_RowW HQ.out rfl _ _ rfl rfl _ Tryd.underlying31 rfl (obj_isz _) ?_)
      | (refine wpList_load_RowW HR.out rfl _ _ rfl rfl _ Tryd.underlying31 rfl (obj_isz _) ?_))
    go_ret
    exact ⟨rfl, HB.out⟩
  · obtain ⟨g1, g2, g3, g4⟩ := objBack h f hb
    have HOB := Lib.hid (objF_bd hb HFB.out)
    have hb' : ¬ (2097152 : Int) ≤ h := by omega
    have G1 := Lib.hid g1
    have G2 := Lib.hid g2
    have G3 := Lib.hid g3
    have G4 := Lib.hid g4
    clear g1 g2 g3 g4 hb
    generalize hFq : objF h (restF f) = F at *
    have HFQ := Lib.hid hFq
    clear hFq
    have E1 := Lib.hid e1
    clear e1
    go_enter Tryd.func6, Tryd.ntmps6
    go_wp2_with (refine wpList_box_agg rfl _ _ rfl (ints 18 f) rfl ?_)
    have HR := Lib.hid (Row.new w (ints 18 f) 31)
    have HB := Lib.hid ((Below.refl w.heap.size w).alloc (Nat.le_refl _) (.cells (ints 18 f) 31))
    generalize w.alloc (.cells (ints 18 f) 31) = wv at *
    go_wp2_with (first
      | (go_at_call 7; refine (alive_c _ (HT.out.below HB.out)).mono ?_; rintro e wv ⟨rfl, hb⟩; (try replace HP := Lib.hid (HP.out.below hb)); (try replace HQ := Lib.hid (HQ.out.below hb)); replace HR := Lib.hid (HR.out.below hb); replace HB := Lib.hid (HB.out.trans (hb.mono HB.out.size)); clear hb)
      | (go_at_call 11; first | ((with_reducible refine (Head_c f _ (HT.out.below HB.out) HFB.out).mono ?_); rintro e wv ⟨rfl, hb⟩; rw [E1.out, errV_ne (by decide)]; (try replace HP := Lib.hid (HP.out.below hb)); (try replace HQ := Lib.hid (HQ.out.below hb)); replace HR := Lib.hid (HR.out.below hb); replace HB := Lib.hid (HB.out.trans (hb.mono HB.out.size)); clear hb) | ((with_reducible refine (Head_c F _ (HT.out.below HB.out) HOB.out).mono ?_); rintro e wv ⟨rfl, hb⟩; rw [G1.out, G2.out, errV_zero]; (try replace HP := Lib.hid (HP.out.below hb)); (try replace HQ := Lib.hid (HQ.out.below hb)); replace HR := Lib.hid (HR.out.below hb); replace HB := Lib.hid (HB.out.trans (hb.mono HB.out.size)); clear hb))
      | (go_at_call 14; refine (Rest_c f _ (HT2.out.below HB.out)).mono ?_; rintro e wv ⟨rfl, hb⟩; (try replace HP := Lib.hid (HP.out.below hb)); (try replace HQ := Lib.hid (HQ.out.below hb)); replace HR := Lib.hid (HR.out.below hb); replace HB := Lib.hid (HB.out.trans (hb.mono HB.out.size)); clear hb)
      | (go_at_call 16; first | ((with_reducible refine (Object_c h (restF f) _ hh (HT.out.below HB.out) (HT2.out.below HB.out)).mono ?_); rintro e wv ⟨rfl, hb⟩; rw [HFQ.out, G3.out, errV_zero]; (try replace HP := Lib.hid (HP.out.below hb)); (try replace HQ := Lib.hid (HQ.out.below hb)); replace HR := Lib.hid (HR.out.below hb); replace HB := Lib.hid (HB.out.trans (hb.mono HB.out.size)); clear hb))
      | (refine wpList_alloc_agg rfl _ rfl _ obj_zeroV ?_)
      | (refine wpList_store_Row (Row.new _ _ _) rfl rfl _ _ _ rfl rfl rfl (obj_isz F) (by simp only [ints_size]) (ints_one _ _) ?_; rw [World.setRow_alloc_new]; (try replace HP := Lib.hid (HP.out.alloc (.cells (ints 18 F) 31))); have HQ := Lib.hid (Row.new wv (ints 18 F) 31); replace HR := Lib.hid (HR.out.alloc (.cells (ints 18 F) 31)); replace HB := Lib.hid (HB.out.alloc HB.out.size (.cells (ints 18 F) 31)); generalize wv.alloc (.cells (ints 18 F) 31) = wv at *)
      | (refine wpList_load_RowW HQ.out rfl _ _ rfl rfl _ Tryd.underlying31 rfl (obj_isz _) ?_)
      | (refine wpList_load_RowW HR.out rfl _ _ rfl rfl _ Tryd.underlying31 rfl (obj_isz _) ?_))
    replace HR := Lib.hid HR.out.drew
    replace HQ := Lib.hid HQ.out.drew
    replace HB := Lib.hid HB.out.drew
    refine wp_region_E [(true, 0), (true, 1), (true, 2), (true, 3), (true, 4), (true, 5), (true, 6), (true, 7), (true, 8), (true, 10), (false, 9), (false, 11), (true, 12), (true, 13), (true, 14)] (by kernel_rfl) (by kernel_rfl) (by kernel_rfl) (by kernel_rfl) ?_
    iterate 8 (refine wpE_quiet rfl ?_; go_big_quiet_step (fail); refine wpQuiet_nil ?_)
    refine wpE_load HQ.out rfl rfl _ rfl rfl Tryd.underlying31 rfl (obj_isz _) ?_
    refine wpE_load HR.out rfl rfl _ rfl rfl Tryd.underlying31 rfl (obj_isz _) ?_
    refine wpE_event rfl rfl (fun K hK => ?_)
    go_step
    refine (Rest_c F _ (HT2.out.below HB.out)).mono ?_
    rintro e w4 ⟨rfl, hb4⟩
    rw [G4.out]
    refine hK _ _ (Lat.of hb4) ?_
    clear hK K
    replace HB := Lib.hid (HB.out.trans (hb4.mono HB.out.size))
    clear hb4
    refine wpE_event rfl rfl (fun K hK => ?_)
    go_step
    refine (Rest_c f _ (HT2.out.below HB.out)).mono ?_
    rintro e w5 ⟨rfl, hb5⟩
    refine hK _ _ (Lat.of hb5) ?_
    clear hK K
    replace HB := Lib.hid (HB.out.trans (hb5.mono HB.out.size))
    clear hb5
    repeat (refine wpE_quiet rfl ?_; go_big_quiet_step (fail); refine wpQuiet_nil ?_)
    refine wpE_nil ?_
    go_wp2_with fail
    go_ret
    exact ⟨rfl, HB.out⟩
  · have HZ := Lib.hid (objBad h (restF f) hb)
    have hb' : (2097152 : Int) ≤ h := by omega
    clear hb
    have E1 := Lib.hid e1
    clear e1
    go_enter Tryd.func6, Tryd.ntmps6
    go_wp2_with (refine wpList_box_agg rfl _ _ rfl (ints 18 f) rfl ?_)
    have HR := Lib.hid (Row.new w (ints 18 f) 31)
    have HB := Lib.hid ((Below.refl w.heap.size w).alloc (Nat.le_refl _) (.cells (ints 18 f) 31))
    generalize w.alloc (.cells (ints 18 f) 31) = wv at *
    go_wp2_with (first
      | (go_at_call 7; refine (alive_c _ (HT.out.below HB.out)).mono ?_; rintro e wv ⟨rfl, hb⟩; (try replace HP := Lib.hid (HP.out.below hb)); (try replace HQ := Lib.hid (HQ.out.below hb)); replace HR := Lib.hid (HR.out.below hb); replace HB := Lib.hid (HB.out.trans (hb.mono HB.out.size)); clear hb)
      | (go_at_call 11; first | ((with_reducible refine (Head_c f _ (HT.out.below HB.out) HFB.out).mono ?_); rintro e wv ⟨rfl, hb⟩; rw [E1.out, errV_ne (by decide)]; (try replace HP := Lib.hid (HP.out.below hb)); (try replace HQ := Lib.hid (HQ.out.below hb)); replace HR := Lib.hid (HR.out.below hb); replace HB := Lib.hid (HB.out.trans (hb.mono HB.out.size)); clear hb))
      | (go_at_call 14; refine (Rest_c f _ (HT2.out.below HB.out)).mono ?_; rintro e wv ⟨rfl, hb⟩; (try replace HP := Lib.hid (HP.out.below hb)); (try replace HQ := Lib.hid (HQ.out.below hb)); replace HR := Lib.hid (HR.out.below hb); replace HB := Lib.hid (HB.out.trans (hb.mono HB.out.size)); clear hb)
      | (go_at_call 16; first | ((with_reducible refine (Object_c h (restF f) _ hh (HT.out.below HB.out) (HT2.out.below HB.out)).mono ?_); rintro e wv ⟨rfl, hb⟩; rw [HZ.out.1, HZ.out.2, errV_ne (by decide)]; (try replace HP := Lib.hid (HP.out.below hb)); (try replace HQ := Lib.hid (HQ.out.below hb)); replace HR := Lib.hid (HR.out.below hb); replace HB := Lib.hid (HB.out.trans (hb.mono HB.out.size)); clear hb))
      | (refine wpList_alloc_agg rfl _ rfl _ obj_zeroV ?_)
      | (refine wpList_store_Row (Row.new _ _ _) rfl rfl _ _ _ rfl rfl rfl (obj_isz (fun _ => 0)) (by simp only [ints_size]) (ints_one _ _) ?_; rw [World.setRow_alloc_new]; (try replace HP := Lib.hid (HP.out.alloc (.cells (ints 18 (fun _ => 0)) 31))); have HQ := Lib.hid (Row.new wv (ints 18 (fun _ => 0)) 31); replace HR := Lib.hid (HR.out.alloc (.cells (ints 18 (fun _ => 0)) 31)); replace HB := Lib.hid (HB.out.alloc HB.out.size (.cells (ints 18 (fun _ => 0)) 31)); generalize wv.alloc (.cells (ints 18 (fun _ => 0)) 31) = wv at *)
      | (refine wpList_load_RowW HQ.out rfl _ _ rfl rfl _ Tryd.underlying31 rfl (obj_isz _) ?_)
      | (refine wpList_load_RowW HR.out rfl _ _ rfl rfl _ Tryd.underlying31 rfl (obj_isz _) ?_))
    go_ret
    exact ⟨rfl, HB.out⟩
theorem PackBack_c (f : Nat → Int) (h : Int) (w : World) (ht : Tabs w) (ht2 : Tabs2 w) (hf : Ok18 f 18) (h0 : 0 ≤ h) (hh : h ≤ 4294967295) :
    Calls Tryd.prog 6 #[.agg (ints 18 f), .int .u32 h] w (Ret w (.bool true)) := by
  obtain ⟨n, rfl⟩ := Int.eq_ofNat_of_zero_le h0
  exact PackBack_n f n w ht ht2 hf hh
end Go.Proofs.YtpmkdbiejeedeaaDoor
