/-
  PackHeads: for any object the law answers true, in a world in which the two tables lie.
-/
import Derived.Test.YtpmkdbiejeedeaaDoorLaw03A
import Derived.Test.YtpmkdbiejeedeaaDoorKitG
namespace Go.Proofs.YtpmkdbiejeedeaaDoor
open Go.RowKit
set_option linter.unusedVariables false

theorem same_nine (f : Nat → Int) (W : World) : (binOp .eql 39 (.agg (ints 9 f)) (.agg (ints 9 f))).run Tryd.prog W = .ok (.bool true) W := by
  have := run_eql_arr W 9 39 3 .i64 f f Tryd.underlying39 Tryd.underlying3 int_size1
  rw [sameTo_iff, decide_eq_true (fun i _ => rfl)] at this
  exact this
set_option maxRecDepth 100000 in
set_option maxHeartbeats 1000000 in
theorem PackHeads_c (f : Nat → Int) (w : World) (ht : Tabs w) (ht2 : Tabs2 w) (hf : Ok18 f 18) :
    Calls Tryd.prog 4 #[.agg (ints 18 f)] w (Ret w (.bool true)) := by
  have HT := Lib.hid ht
  have HT2 := Lib.hid ht2
  have HF := Lib.hid hf
  clear ht ht2 hf
  obtain ⟨X, hX⟩ : ∃ X, headX f = X := ⟨_, rfl⟩
  obtain ⟨E, hE⟩ : ∃ E, headE f = E := ⟨_, rfl⟩
  have HX := Lib.hid hX
  have HE := Lib.hid hE
  clear hX hE
  go_enter Tryd.func4, Tryd.ntmps4
  go_wp2_with (refine wpList_box_agg rfl _ _ rfl (ints 18 f) rfl ?_)
  have HR0 := Lib.hid (Row.new w (ints 18 f) 31)
  have HB0 := Lib.hid ((Below.refl w.heap.size w).alloc (Nat.le_refl _) (.cells (ints 18 f) 31))
  have hsz : (w.alloc (.cells (ints 18 f) 31)).heap.size = w.heap.size + 1 := by simp
  generalize w.alloc (.cells (ints 18 f) 31) = wa at *
  clear hsz
  go_wp2_with (first
    | (go_at_call 7; refine (alive_c _ (HT.out.below HB0.out)).mono ?_; rintro e w1 ⟨rfl, hb1⟩; have HR1 := Lib.hid (HR0.out.below hb1); have HB1 := Lib.hid (HB0.out.trans (hb1.mono HB0.out.size)); clear hb1)
    | (refine wpList_load_Row HR1.out rfl _ _ rfl rfl _ Tryd.underlying31 rfl (obj_isz _) ?_)
    | (refine wpList_load_Row HR2.out rfl _ _ rfl rfl _ Tryd.underlying31 rfl (obj_isz _) ?_)
    | (go_at_call 11; refine (Head_c f _ (HT.out.below HB1.out) HF.out).mono ?_; rintro e w2 ⟨rfl, hb2⟩; rw [HX.out, HE.out]; have HR2 := Lib.hid (HR1.out.below hb2); have HB2 := Lib.hid (HB1.out.trans (hb2.mono HB1.out.size)); clear hb2)
    | (go_at_call 12; refine (refHead_c f _ HF.out).mono ?_; rintro e w3 ⟨rfl, hb3⟩; rw [HX.out, HE.out]; have HR3 := Lib.hid (HR2.out.below hb3); have HB3 := Lib.hid (HB2.out.trans (hb3.mono HB2.out.size)); clear hb3))
  have hN := same_nine (restF f)
  refine wp_region_E [(true, 0), (true, 1), (true, 2), (true, 3), (true, 4), (true, 6), (false, 5), (true, 7), (true, 8), (true, 9), (true, 10), (true, 12), (false, 11), (false, 13), (true, 14), (true, 15), (true, 16)] (by kernel_rfl) (by kernel_rfl) (by kernel_rfl) (by kernel_rfl) ?_
  repeat (refine wpE_quiet rfl ?_; go_big_quiet_step (fail); refine wpQuiet_nil ?_)
  refine wpE_event rfl rfl (fun K hK => ?_)
  go_step
  refine (Num_c E _).mono ?_
  rintro e w4 ⟨rfl, rfl⟩
  refine hK _ _ (Lat.self _) ?_
  clear hK K
  repeat (refine wpE_quiet rfl ?_; go_big_quiet_step (fail); refine wpQuiet_nil ?_)
  have HRD := Lib.hid HR3.out.drew
  refine wpE_load HRD.out rfl rfl _ rfl rfl Tryd.underlying31 rfl (obj_isz _) ?_
  refine wpE_load HRD.out rfl rfl _ rfl rfl Tryd.underlying31 rfl (obj_isz _) ?_
  have HBD := Lib.hid HB3.out.drew
  refine wpE_event rfl rfl (fun K hK => ?_)
  go_step
  refine (Rest_c f _ (HT2.out.below HBD.out)).mono ?_
  rintro e w4 ⟨rfl, hb4⟩
  refine hK _ _ (Lat.of hb4) ?_
  clear hK K
  have HB4 := Lib.hid (HBD.out.trans (hb4.mono HBD.out.size))
  clear hb4
  refine wpE_event rfl rfl (fun K hK => ?_)
  go_step
  refine (refRest_c f _).mono ?_
  rintro e w5 ⟨rfl, hb5⟩
  refine hK _ _ (Lat.of hb5) ?_
  clear hK K
  have HB5 := Lib.hid (HB4.out.trans (hb5.mono HB4.out.size))
  clear hb5
  repeat (refine wpE_quiet rfl ?_; go_big_quiet_step (fail); refine wpQuiet_nil ?_)
  refine wpE_nil ?_
  go_wp2_with fail
  go_ret
  exact ⟨rfl, HB5.out⟩
end Go.Proofs.YtpmkdbiejeedeaaDoor
