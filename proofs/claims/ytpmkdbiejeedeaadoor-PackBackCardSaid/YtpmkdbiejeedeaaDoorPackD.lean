/-
  Contracts: an object's rest, in the program and in the document.
-/
import Derived.Test.YtpmkdbiejeedeaaDoorPackC
namespace Go.Proofs.YtpmkdbiejeedeaaDoor
open Go.RowKit
set_option linter.unusedVariables false

theorem nine_zero : (Tryd.prog.info? 39).map (fun i => i.zero) = some (some (.agg (ints 9 fun _ => 0))) := by kernel_rfl
theorem obj_zeroV : (Tryd.prog.info? 31).map (fun i => i.zero) = some (some (.agg (ints 18 fun _ => 0))) := by kernel_rfl
theorem nine_isz (f : Nat → Int) : (Tryd.prog.info? 39).map (·.size) = some (ints 9 f).size := by rw [ints_size]; exact nine_size
theorem obj_isz (f : Nat → Int) : (Tryd.prog.info? 31).map (·.size) = some (ints 18 f).size := by rw [ints_size]; exact obj_size
def restF (f : Nat → Int) : Nat → Int := fun i => f (mth.ot i)
def restTo (f : Nat → Int) (k : Nat) : Nat → Int := fun i => if i < k then f (mth.ot i) else 0
theorem restTo_set (f : Nat → Int) (k : Nat) : (ints 9 (restTo f k)).setIfInBounds k (.int .i64 (f (mth.ot k))) = ints 9 (restTo f (k + 1)) := by
  rw [ints_set]
  refine ints_congr fun i hi => ?_
  unfold restTo
  by_cases h : i = k
  · subst h; simp
  · by_cases h2 : i < k
    · simp [h, h2, show i < k + 1 by omega]
    · simp [h, h2, show ¬ i < k + 1 by omega]
theorem restTo_all (f : Nat → Int) : ints 9 (restTo f 9) = ints 9 (restF f) := ints_congr fun i hi => by simp [restTo, restF, hi]

set_option maxRecDepth 100000 in
set_option maxHeartbeats 2000000 in
theorem Rest_c (f : Nat → Int) (w : World) (ht : Tabs2 w) :
    Calls Tryd.prog 14 #[.agg (ints 18 f)] w (Ret w (.agg (ints 9 (restF f)))) := by
  have HT := Lib.hid ht
  clear ht
  go_enter Tryd.func14, Tryd.ntmps14
  go_wp2_with (first
    | (refine wpList_box_agg rfl _ _ rfl (ints 18 f) rfl ?_)
    | (refine wpList_alloc_agg rfl _ rfl _ nine_zero ?_)
    | (refine wpList_load_cells rfl _ _ rfl ⟨1, 0, none⟩ rfl othersV _ Tryd.underlying39 rfl others_size (HT.out.below ((((Below.refl _ _).alloc (Nat.le_refl _) _).alloc (by simp) _).alloc (by simp; omega) _)).others ?_))
  have HR1 := Lib.hid (((Row.new w (ints 18 f) 31).alloc (.cells (ints 9 fun _ => 0) 39)).alloc (.cells (ints 9 fun _ => 0) 39))
  have HR2 := Lib.hid ((Row.new (w.alloc (.cells (ints 18 f) 31)) (ints 9 fun _ => 0) 39).alloc (.cells (ints 9 fun _ => 0) 39))
  have HR3 := Lib.hid (Row.new ((w.alloc (.cells (ints 18 f) 31)).alloc (.cells (ints 9 fun _ => 0) 39)) (ints 9 fun _ => 0) 39)
  have HB0 := Lib.hid ((((Below.refl w.heap.size w).alloc (Nat.le_refl _) (.cells (ints 18 f) 31)).alloc (by simp) (.cells (ints 9 fun _ => 0) 39)).alloc (by simp; omega) (.cells (ints 9 fun _ => 0) 39))
  simp only [World.size_alloc] at HR2 HR3
  go_loopw [7] (fun iv wr => ∃ k : Nat, k ≤ 9 ∧ iv = .int .i64 k ∧ Row wr w.heap.size (ints 18 f) 31 ∧ Row wr (w.heap.size + 1) (ints 9 fun _ => 0) 39 ∧ Row wr (w.heap.size + 1 + 1) (ints 9 (restTo f k)) 39 ∧ Below w.heap.size w wr) (fun iv _ => 9 - (intOf iv).toNat)
  case atStart => exact ⟨0, by omega, rfl, HR1.out, HR2.out, HR3.out, HB0.out⟩
  case round =>
    obtain ⟨k, hk, rfl, h1, h2, h3, hbr⟩ := hrel
    have H1 := Lib.hid h1
    have H2 := Lib.hid h2
    have H3 := Lib.hid h3
    have HB := Lib.hid hbr
    clear h1 h2 h3 hbr HR1 HR2 HR3
    have hk' : (k : Int) ≤ 9 := by omega
    clear hk
    by_cases hlt : (k : Int) < 9
    · have hpa := others_at (k := k) (by omega)
      obtain ⟨_, _, _, _, _, _, t1, _⟩ := mth.tab (k := k) (by omega)
      have t1' : ((mth.ot k : Nat) : Int) < 18 := by omega
      have hcell := H1.out.cell (ints_get f t1)
      have hfree := H3.out.free k
      have hcur := H3.out.cell (ints_get (restTo f k) (show k < 9 by omega))
      have HSET := Lib.hid (restTo_set f k)
      clear t1
      generalize mth.ot k = p at *
      generalize f p = n at *
      go_wp2_with fail
      go_roundw
      case rel => exact ⟨k + 1, by omega, by go_num, H1.out.other (by omega) _ _, H2.out.other (by omega) _ _, by rw [← HSET.out]; exact H3.out.set _ _, HB.out.setCell (by show w.heap.size ≤ w.heap.size + 1 + 1; omega) _⟩
      case measure => simp [intOf]; omega
    · obtain rfl : k = 9 := by omega
      have h3 := H3.out
      rw [restTo_all] at h3
      have H3' := Lib.hid h3
      clear h3
      go_wp2_with (first
        | (refine wpList_load_Row H3'.out rfl _ _ rfl rfl _ Tryd.underlying39 rfl (nine_isz _) ?_)
        | (refine wpList_store_Row H2.out rfl rfl _ _ _ rfl rfl rfl (nine_isz _) (by rw [ints_size, ints_size]) (ints_one _ _) ?_))
      refine bodyPost_ret (results_Row (H2.out.setRow _) rfl _ _ rfl Tryd.underlying39 rfl (nine_isz _)) rfl ?_
      exact ⟨rfl, below_setRow HB.out (by omega) _⟩

set_option maxRecDepth 100000 in
set_option maxHeartbeats 2000000 in
theorem refRest_c (f : Nat → Int) (w : World) :
    Calls Tryd.prog 15 #[.agg (ints 18 f)] w (Ret w (.agg (ints 9 (restF f)))) := by
  have c0 := ints_get (n := 18) f (show 0 < 18 by omega)
  have c1 := ints_get (n := 18) f (show 6 < 18 by omega)
  have c2 := ints_get (n := 18) f (show 7 < 18 by omega)
  have c3 := ints_get (n := 18) f (show 8 < 18 by omega)
  have c4 := ints_get (n := 18) f (show 9 < 18 by omega)
  have c5 := ints_get (n := 18) f (show 12 < 18 by omega)
  have c6 := ints_get (n := 18) f (show 14 < 18 by omega)
  have c7 := ints_get (n := 18) f (show 15 < 18 by omega)
  have c8 := ints_get (n := 18) f (show 16 < 18 by omega)
  have HR2 : Row ((w.alloc (.cells (ints 18 f) 31)).alloc (.cells (ints 9 fun _ => 0) 39)) (w.heap.size + 1) (ints 9 fun _ => 0) 39 := by
    have := Row.new (w.alloc (.cells (ints 18 f) 31)) (ints 9 fun _ => 0) 39
    simpa only [World.size_alloc] using this
  have H2 := Lib.hid HR2
  clear HR2
  go_enter Tryd.func15, Tryd.ntmps15
  go_wp2_with (first
    | (refine wpList_box_agg rfl _ _ rfl (ints 18 f) rfl ?_)
    | (refine wpList_alloc_agg rfl _ rfl _ nine_zero ?_)
    | (refine wpList_store_Row H2.out rfl rfl _ _ _ rfl rfl (cs' := ints 9 (restF f)) rfl (nine_isz (restF f)) (by rw [ints_size, ints_size]) (ints_one _ _) ?_))
  refine bodyPost_ret (results_Row (H2.out.setRow _) rfl _ _ rfl Tryd.underlying39 rfl (nine_isz _)) rfl ?_
  exact ⟨rfl, below_setRow (((Below.refl _ _).alloc (Nat.le_refl _) _).alloc (by simp) _) (by omega) _⟩
end Go.Proofs.YtpmkdbiejeedeaaDoor
