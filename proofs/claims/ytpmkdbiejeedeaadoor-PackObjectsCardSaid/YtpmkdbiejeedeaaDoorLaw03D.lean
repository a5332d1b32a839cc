/-
  PackObjects: for any head and any rest the law answers true, in a world in which the two tables lie.
-/
import Derived.Test.YtpmkdbiejeedeaaDoorLaw03A
import Derived.Test.YtpmkdbiejeedeaaDoorPackF
namespace Go.Proofs.YtpmkdbiejeedeaaDoor
open Go.RowKit
set_option linter.unusedVariables false

theorem same_obj (f : Nat → Int) (W : World) : (binOp .eql 31 (.agg (ints 18 f)) (.agg (ints 18 f))).run Tryd.prog W = .ok (.bool true) W := by
  have := run_eql_arr W 18 31 3 .i64 f f Tryd.underlying31 Tryd.underlying3 int_size1
  rw [sameTo_iff, decide_eq_true (fun i _ => rfl)] at this
  exact this

set_option maxRecDepth 100000 in
set_option maxHeartbeats 1000000 in
theorem PackObjects_n (h : Nat) (r : Nat → Int) (w : World) (ht : Tabs w) (ht2 : Tabs2 w) (hh : (h : Int) ≤ 4294967295) :
    Calls Tryd.prog 5 #[.int .u32 (h : Nat), .agg (ints 9 r)] w (Ret w (.bool true)) := by
  have HT := Lib.hid ht
  have HT2 := Lib.hid ht2
  clear ht ht2
  obtain ⟨F, hF⟩ : ∃ F, objF h r = F := ⟨_, rfl⟩
  obtain ⟨E, hE⟩ : ∃ E, objE h = E := ⟨_, rfl⟩
  have HF := Lib.hid hF
  have HE := Lib.hid hE
  have hso := same_obj F
  clear hF hE
  go_enter Tryd.func5, Tryd.ntmps5
  go_wp2_with (refine wpList_box_agg rfl _ _ rfl (ints 9 r) rfl ?_)
  have HR := Lib.hid (Row.new w (ints 9 r) 39)
  have HB := Lib.hid ((Below.refl w.heap.size w).alloc (Nat.le_refl _) (.cells (ints 9 r) 39))
  generalize w.alloc (.cells (ints 9 r) 39) = wv at *
  go_wp2_with (first
    | (go_at_call 7; refine (alive_c _ (HT.out.below HB.out)).mono ?_; rintro e wv ⟨rfl, hb⟩; replace HR := Lib.hid (HR.out.below hb); replace HB := Lib.hid (HB.out.trans (hb.mono HB.out.size)); clear hb)
    | (go_at_call 7; fail)
    | (refine wpList_load_Row HR.out rfl _ _ rfl rfl _ Tryd.underlying39 rfl (nine_isz _) ?_)
    | (go_at_call 16; refine (Object_c h r _ hh (HT.out.below HB.out) (HT2.out.below HB.out)).mono ?_; rintro e wv ⟨rfl, hb⟩; rw [HF.out, HE.out]; replace HR := Lib.hid (HR.out.below hb); replace HB := Lib.hid (HB.out.trans (hb.mono HB.out.size)); clear hb)
    | (go_at_call 17; refine (refObject_c h r _ hh).mono ?_; rintro e wv ⟨rfl, hb⟩; rw [HF.out, HE.out]; replace HP := Lib.hid (HP.out.below hb); replace HB := Lib.hid (HB.out.trans (hb.mono HB.out.size)); clear hb)
    | (refine wpList_alloc_agg rfl _ rfl _ obj_zeroV ?_)
    | (refine wpList_store_Row (Row.new _ _ _) rfl rfl _ _ _ rfl rfl rfl (obj_isz F) (by rw [ints_size, ints_size]) (ints_one _ _) ?_; rw [World.setRow_alloc_new]; first | (have HP2 := Lib.hid (HP.out.alloc (.cells (ints 18 F) 31)); have HQ := Lib.hid (Row.new wv (ints 18 F) 31); replace HB := Lib.hid (HB.out.alloc HB.out.size (.cells (ints 18 F) 31))) | (have HP := Lib.hid (Row.new wv (ints 18 F) 31); replace HR := Lib.hid (HR.out.alloc (.cells (ints 18 F) 31)); replace HB := Lib.hid (HB.out.alloc HB.out.size (.cells (ints 18 F) 31))))
    | (refine wpList_load_Row HP2.out rfl _ _ rfl rfl _ Tryd.underlying31 rfl (obj_isz _) ?_)
    | (refine wpList_load_Row HQ.out rfl _ _ rfl rfl _ Tryd.underlying31 rfl (obj_isz _) ?_)
    | (go_at_call 13; refine (Num_c E _).mono ?_; rintro e w' ⟨rfl, rfl⟩))
  go_ret
  exact ⟨rfl, HB.out⟩
theorem PackObjects_c (h : Int) (r : Nat → Int) (w : World) (ht : Tabs w) (ht2 : Tabs2 w) (h0 : 0 ≤ h) (hh : h ≤ 4294967295) :
    Calls Tryd.prog 5 #[.int .u32 h, .agg (ints 9 r)] w (Ret w (.bool true)) := by
  obtain ⟨n, rfl⟩ := Int.eq_ofNat_of_zero_le h0
  exact PackObjects_n n r w ht ht2 hh
end Go.Proofs.YtpmkdbiejeedeaaDoor
