/-
  Contracts: the document's object.
-/
import Derived.Test.YtpmkdbiejeedeaaDoorPackE
import Derived.Test.YtpmkdbiejeedeaaDoorKitG
namespace Go.Proofs.YtpmkdbiejeedeaaDoor
open Go.RowKit
set_option linter.unusedVariables false

set_option maxRecDepth 100000 in
set_option maxHeartbeats 1000000 in
theorem refObject_c (h : Nat) (r : Nat → Int) (w : World) (hh : (h : Int) ≤ 4294967295) :
    Calls Tryd.prog 17 #[.int .u32 (h : Nat), .agg (ints 9 r)] w (Ret w (.tuple #[.agg (ints 18 (objF h r)), .int .i64 (objE h)])) := by
  have HBA := Lib.hid (((Below.refl w.heap.size w).alloc (Nat.le_refl _) (.cells (ints 9 r) 39)).alloc (by simp) (.cells (ints 18 fun _ => 0) 31))
  have HRA := Lib.hid ((Row.new w (ints 9 r) 39).alloc (.cells (ints 18 fun _ => 0) 31))
  have HRB := Lib.hid (Row.new (w.alloc (.cells (ints 9 r) 39)) (ints 18 fun _ => 0) 31)
  simp only [World.size_alloc] at HRB
  go_enter Tryd.func17, Tryd.ntmps17
  go_wp2_with (first
    | (refine wpList_box_agg rfl _ _ rfl (ints 9 r) rfl ?_)
    | (refine wpList_alloc_agg rfl _ rfl _ obj_zeroV ?_)
    | (go_at_call 19; refine (fields_c _).mono ?_; rintro e w1 ⟨T, rfl, hr1, hr2, hb1⟩; have HR1 := Lib.hid hr1; have HR2 := Lib.hid hr2; have HB1 := Lib.hid hb1; clear hr1 hr2 hb1)
    | (refine wpList_store_Row (Row.new w1 (ints 18 fun _ => 0) 31) rfl rfl _ _ _ rfl rfl ?c1 zeros_isz (by rw [ints_size]; rfl) (by rw [zeros_eq]; exact ints_one _ _) ?_; (case c1 => rfl); rw [World.setRow_alloc_new, zeros_eq]))
  have hra := (HRA.out.below HB1.out).alloc (.cells (ints 18 fun _ => 0) 31)
  have hrb := (HRB.out.below HB1.out).alloc (.cells (ints 18 fun _ => 0) 31)
  have hrc := Row.new w1 (ints 18 fun _ => 0) 31
  have hbs := HB1.out.size
  simp only [World.size_alloc] at HR1 HR2 hbs
  have hr1 := HR1.out.alloc (.cells (ints 18 fun _ => 0) 31)
  have hr2 := HR2.out.alloc (.cells (ints 18 fun _ => 0) 31)
  have hbb := (HBA.out.trans (HB1.out.mono (by simp; omega))).alloc (by omega) (.cells (ints 18 fun _ => 0) 31)
  have hs1 := HR1.out.lt
  have hs2 := HR2.out.lt
  have XA := Lib.hid hra
  have XB := Lib.hid hrb
  have XC := Lib.hid hrc
  have X1 := Lib.hid hr1
  have X2 := Lib.hid hr2
  have XBB := Lib.hid hbb
  clear hra hrb hrc hr1 hr2 hbb HR1 HR2 HRA HRB HBA HB1
  obtain ⟨b8, hb8⟩ : ∃ b, w1.heap.size = b := ⟨_, rfl⟩
  rw [hb8] at XC hs1 hs2 hbs
  rw [hb8]
  clear hb8
  generalize w1.alloc (.cells (ints 18 fun _ => 0) 31) = wx at *
  go_loopw [21, 9] (fun iv xv wr => ∃ k : Nat, k ≤ 9 ∧ iv = .int .i64 k ∧ xv = .int .i64 ((h / 2 ^ mth.atK k : Nat) : Int) ∧ Row wr w.heap.size (ints 9 r) 39 ∧ Row wr (w.heap.size + 1) (ints 18 fun _ => 0) 31 ∧ Row wr b8 (ints 18 (mth.obj h r k 0)) 31 ∧ Row wr (w.heap.size + 1 + 1) (i64s fldI).toArray T ∧ Row wr (w.heap.size + 1 + 1 + 1) (i64s sizI).toArray T ∧ Below w.heap.size w wr) (fun iv _ _ => 9 - (intOf iv).toNat)
  case atStart => exact ⟨0, by omega, rfl, by simp [mth.atK], XA.out, XB.out, by rw [obj_nil]; exact XC.out, X1.out, X2.out, XBB.out⟩
  case round =>
    obtain ⟨k, hk, rfl, rfl, h1, h2, h3, h4, h5, hbr⟩ := hrel
    have H1 := Lib.hid h1
    have H2 := Lib.hid h2
    have H3 := Lib.hid h3
    have H4 := Lib.hid h4
    have H5 := Lib.hid h5
    have HB := Lib.hid hbr
    clear h1 h2 h3 h4 h5 hbr XA XB XC X1 X2 XBB
    have hk' : (k : Int) ≤ 9 := by omega
    clear hk
    have hXh : h / 2 ^ mth.atK k ≤ h := Nat.div_le_self _ _
    by_cases hlt : (k : Int) < 9
    · obtain ⟨t1, t2, t3, t4, t5, t6, _⟩ := mth.tab (k := k) (by omega)
      obtain ⟨f1, f2⟩ := fldI_get (k := k) (by omega)
      have hc1 := row_int H4.out (k := k) (show k < 9 by omega)
      have hc2 := row_int H5.out (k := k) (show k < 9 by omega)
      rw [f1] at hc1
      rw [f2] at hc2
      have hl1 := H4.out.lt
      have hl2 := H5.out.lt
      have hl3 := H3.out.lt
      have HSET := Lib.hid (obj_set h r (k := k) (by omega))
      have e1 : ((h / 2 ^ mth.atK k : Nat) : Int) % ((2 ^ mth.wi k : Nat) : Int) = ((mth.ptN h k : Nat) : Int) := by rw [mth.ptN]; omega
      have e2 : ((h / 2 ^ mth.atK k : Nat) : Int) / ((2 ^ mth.wi k : Nat) : Int) = ((h / 2 ^ mth.atK (k + 1) : Nat) : Int) := by rw [← t4, Nat.pow_add, ← Nat.div_div_eq_div_mul]; omega
      have hq0 : 0 < 2 ^ mth.wi k := Nat.two_pow_pos _
      have hcur := H3.out.cell (ints_get (mth.obj h r k 0) t1)
      have hfree := H3.out.free (mth.fl k)
      clear f1 f2
      have hflI : ((mth.fl k : Nat) : Int) < 18 := by omega
      have HN := Lib.hid (rfl : h / 2 ^ mth.atK (k + 1) = h / 2 ^ mth.atK (k + 1))
      generalize mth.fl k = p at *
      have hXI : ((h / 2 ^ mth.atK k : Nat) : Int) ≤ 4294967295 := by omega
      have hq0' : ¬ ((2 ^ mth.wi k : Nat) : Int) = 0 := by omega
      have hq8 : 2 ^ mth.wi k ≤ 2 ^ 8 := mth.pow_le _ _ t3
      have hqI : ((2 ^ mth.wi k : Nat) : Int) ≤ 256 := by omega
      have hX'I : ((h / 2 ^ mth.atK (k + 1) : Nat) : Int) ≤ 4294967295 := by
        have := Nat.div_le_self h (2 ^ mth.atK (k + 1)); omega
      generalize hX' : h / 2 ^ mth.atK (k + 1) = X' at *
      have HX' := Lib.hid hX'
      generalize h / 2 ^ mth.atK k = X at *
      generalize 2 ^ mth.wi k = q at *
      generalize mth.ptN h k = pt at *
      generalize mth.obj h r k 0 p = old at *
      clear hX' t2 t3 t4 t5 t6 t1 hq8 hXh hq0
      go_wp2_with fail
      go_roundw
      case rel => exact ⟨k + 1, by omega, by go_num, by rw [HX'.out], H1.out.other (by omega) _ _, H2.out.other (by omega) _ _, by rw [← HSET.out]; exact H3.out.set _ _, H4.out.other (by omega) _ _, H5.out.other (by omega) _ _, HB.out.setCell (by show w.heap.size ≤ b8; omega) _⟩
      case measure => simp [intOf]; omega
    · obtain rfl : k = 9 := by omega
      clear H4 H5 hXh
      rw [show mth.atK 9 = 21 from rfl]
      have hl3 := H3.out.lt
      by_cases hbig : h < 2097152
      · have e0 : h / 2 ^ 21 = 0 := Nat.div_eq_of_lt (by omega)
        have HF : Hid (objF h r = mth.obj h r 9 9 ∧ objE h = 0) := Lib.hid (by unfold objF objE; rw [if_pos hbig, if_pos hbig]; exact ⟨rfl, rfl⟩)
        rw [e0]
        clear hbig e0
        have c0 := H1.out.cell (ints_get r (show 0 < 9 by omega))
        have c1 := H1.out.cell (ints_get r (show 1 < 9 by omega))
        have c2 := H1.out.cell (ints_get r (show 2 < 9 by omega))
        have c3 := H1.out.cell (ints_get r (show 3 < 9 by omega))
        have c4 := H1.out.cell (ints_get r (show 4 < 9 by omega))
        have c5 := H1.out.cell (ints_get r (show 5 < 9 by omega))
        have c6 := H1.out.cell (ints_get r (show 6 < 9 by omega))
        have c7 := H1.out.cell (ints_get r (show 7 < 9 by omega))
        have c8 := H1.out.cell (ints_get r (show 8 < 9 by omega))
        have HFIN : Hid ((((((((((ints 18 (mth.obj h r 9 0)).setIfInBounds 0 (.int .i64 (r 0))).setIfInBounds 6 (.int .i64 (r 1))).setIfInBounds 7 (.int .i64 (r 2))).setIfInBounds 8 (.int .i64 (r 3))).setIfInBounds 9 (.int .i64 (r 4))).setIfInBounds 12 (.int .i64 (r 5))).setIfInBounds 14 (.int .i64 (r 6))).setIfInBounds 15 (.int .i64 (r 7))).setIfInBounds 16 (.int .i64 (r 8)) = ints 18 (mth.obj h r 9 9)) := Lib.hid (by
          rw [← obj_set2 h r (k := 8) (by omega), ← obj_set2 h r (k := 7) (by omega), ← obj_set2 h r (k := 6) (by omega), ← obj_set2 h r (k := 5) (by omega), ← obj_set2 h r (k := 4) (by omega), ← obj_set2 h r (k := 3) (by omega), ← obj_set2 h r (k := 2) (by omega), ← obj_set2 h r (k := 1) (by omega), ← obj_set2 h r (k := 0) (by omega)]
          rfl)
        have hb8 : w.heap.size ≤ b8 := by omega
        have hne : w.heap.size + 1 ≠ b8 := by omega
        have hne0 : w.heap.size ≠ b8 := by omega
        have hlt0 : w.heap.size < wr.heap.size := H1.out.lt
        go_wp2_with fail
        replace H3 := Lib.hid H3.out.drew
        replace H2 := Lib.hid H2.out.drew
        replace HB := Lib.hid HB.out.drew
        have q0 : ∀ x : Gro (some b8) wr.drew, (gro (some b8) wr.drew x).cell? ⟨w.heap.size, 0, none⟩ = some (.int .i64 (r 0)) := fun x => (gro_cell1 (w := wr.drew) hlt0 hne0).trans c0
        have q1 : ∀ x : Gro (some b8) wr.drew, (gro (some b8) wr.drew x).cell? ⟨w.heap.size, 1, none⟩ = some (.int .i64 (r 1)) := fun x => (gro_cell1 (w := wr.drew) hlt0 hne0).trans c1
        have q2 : ∀ x : Gro (some b8) wr.drew, (gro (some b8) wr.drew x).cell? ⟨w.heap.size, 2, none⟩ = some (.int .i64 (r 2)) := fun x => (gro_cell1 (w := wr.drew) hlt0 hne0).trans c2
        have q3 : ∀ x : Gro (some b8) wr.drew, (gro (some b8) wr.drew x).cell? ⟨w.heap.size, 3, none⟩ = some (.int .i64 (r 3)) := fun x => (gro_cell1 (w := wr.drew) hlt0 hne0).trans c3
        have q4 : ∀ x : Gro (some b8) wr.drew, (gro (some b8) wr.drew x).cell? ⟨w.heap.size, 4, none⟩ = some (.int .i64 (r 4)) := fun x => (gro_cell1 (w := wr.drew) hlt0 hne0).trans c4
        have q5 : ∀ x : Gro (some b8) wr.drew, (gro (some b8) wr.drew x).cell? ⟨w.heap.size, 5, none⟩ = some (.int .i64 (r 5)) := fun x => (gro_cell1 (w := wr.drew) hlt0 hne0).trans c5
        have q6 : ∀ x : Gro (some b8) wr.drew, (gro (some b8) wr.drew x).cell? ⟨w.heap.size, 6, none⟩ = some (.int .i64 (r 6)) := fun x => (gro_cell1 (w := wr.drew) hlt0 hne0).trans c6
        have q7 : ∀ x : Gro (some b8) wr.drew, (gro (some b8) wr.drew x).cell? ⟨w.heap.size, 7, none⟩ = some (.int .i64 (r 7)) := fun x => (gro_cell1 (w := wr.drew) hlt0 hne0).trans c7
        have q8 : ∀ x : Gro (some b8) wr.drew, (gro (some b8) wr.drew x).cell? ⟨w.heap.size, 8, none⟩ = some (.int .i64 (r 8)) := fun x => (gro_cell1 (w := wr.drew) hlt0 hne0).trans c8
        clear c0 c1 c2 c3 c4 c5 c6 c7 c8
        refine wp_region_G (bo := some b8) [(true, 0), (true, 1), (true, 2), (true, 3), (true, 4), (true, 5), (true, 6), (true, 7), (true, 8), (true, 9), (true, 10), (true, 11), (true, 12), (true, 13), (true, 14), (true, 15), (true, 16), (true, 17), (true, 18), (false, 19), (true, 20), (false, 21), (true, 22), (false, 23), (true, 24), (false, 25), (true, 26), (false, 27), (true, 28), (false, 29), (true, 30), (false, 31), (true, 32), (false, 33), (true, 34), (false, 35)] (by kernel_rfl) (by kernel_rfl) (by kernel_rfl) (by kernel_rfl) ?_
        iterate 19 (refine wpG_quiet rfl ?_; go_big_quiet_step (fail); refine wpQuiet_nil ?_)
        refine wpG_store H3.out rfl rfl rfl 3 _ _ rfl rfl (.int .i64 (r 0)) rfl (by simp [ints_size]) int_size1 rfl ?_
        intro wn hst
        replace H3 := Lib.hid hst.row
        replace H2 := Lib.hid (hst.others _ _ _ hne H2.out)
        replace HB := Lib.hid (hst.below _ _ HB.out hb8)
        clear hst
        refine wpG_quiet rfl ?_
        go_big_quiet_step (fail)
        refine wpQuiet_nil ?_
        refine wpG_store H3.out rfl rfl rfl 3 _ _ rfl rfl (.int .i64 (r 1)) rfl (by simp [ints_size]) int_size1 rfl ?_
        intro wn hst
        replace H3 := Lib.hid hst.row
        replace H2 := Lib.hid (hst.others _ _ _ hne H2.out)
        replace HB := Lib.hid (hst.below _ _ HB.out hb8)
        clear hst
        refine wpG_quiet rfl ?_
        go_big_quiet_step (fail)
        refine wpQuiet_nil ?_
        refine wpG_store H3.out rfl rfl rfl 3 _ _ rfl rfl (.int .i64 (r 2)) rfl (by simp [ints_size]) int_size1 rfl ?_
        intro wn hst
        replace H3 := Lib.hid hst.row
        replace H2 := Lib.hid (hst.others _ _ _ hne H2.out)
        replace HB := Lib.hid (hst.below _ _ HB.out hb8)
        clear hst
        refine wpG_quiet rfl ?_
        go_big_quiet_step (fail)
        refine wpQuiet_nil ?_
        refine wpG_store H3.out rfl rfl rfl 3 _ _ rfl rfl (.int .i64 (r 3)) rfl (by simp [ints_size]) int_size1 rfl ?_
        intro wn hst
        replace H3 := Lib.hid hst.row
        replace H2 := Lib.hid (hst.others _ _ _ hne H2.out)
        replace HB := Lib.hid (hst.below _ _ HB.out hb8)
        clear hst
        refine wpG_quiet rfl ?_
        go_big_quiet_step (fail)
        refine wpQuiet_nil ?_
        refine wpG_store H3.out rfl rfl rfl 3 _ _ rfl rfl (.int .i64 (r 4)) rfl (by simp [ints_size]) int_size1 rfl ?_
        intro wn hst
        replace H3 := Lib.hid hst.row
        replace H2 := Lib.hid (hst.others _ _ _ hne H2.out)
        replace HB := Lib.hid (hst.below _ _ HB.out hb8)
        clear hst
        refine wpG_quiet rfl ?_
        go_big_quiet_step (fail)
        refine wpQuiet_nil ?_
        refine wpG_store H3.out rfl rfl rfl 3 _ _ rfl rfl (.int .i64 (r 5)) rfl (by simp [ints_size]) int_size1 rfl ?_
        intro wn hst
        replace H3 := Lib.hid hst.row
        replace H2 := Lib.hid (hst.others _ _ _ hne H2.out)
        replace HB := Lib.hid (hst.below _ _ HB.out hb8)
        clear hst
        refine wpG_quiet rfl ?_
        go_big_quiet_step (fail)
        refine wpQuiet_nil ?_
        refine wpG_store H3.out rfl rfl rfl 3 _ _ rfl rfl (.int .i64 (r 6)) rfl (by simp [ints_size]) int_size1 rfl ?_
        intro wn hst
        replace H3 := Lib.hid hst.row
        replace H2 := Lib.hid (hst.others _ _ _ hne H2.out)
        replace HB := Lib.hid (hst.below _ _ HB.out hb8)
        clear hst
        refine wpG_quiet rfl ?_
        go_big_quiet_step (fail)
        refine wpQuiet_nil ?_
        refine wpG_store H3.out rfl rfl rfl 3 _ _ rfl rfl (.int .i64 (r 7)) rfl (by simp [ints_size]) int_size1 rfl ?_
        intro wn hst
        replace H3 := Lib.hid hst.row
        replace H2 := Lib.hid (hst.others _ _ _ hne H2.out)
        replace HB := Lib.hid (hst.below _ _ HB.out hb8)
        clear hst
        refine wpG_quiet rfl ?_
        go_big_quiet_step (fail)
        refine wpQuiet_nil ?_
        refine wpG_store H3.out rfl rfl rfl 3 _ _ rfl rfl (.int .i64 (r 8)) rfl (by simp [ints_size]) int_size1 rfl ?_
        intro wn hst
        replace H3 := Lib.hid hst.row
        replace H2 := Lib.hid (hst.others _ _ _ hne H2.out)
        replace HB := Lib.hid (hst.below _ _ HB.out hb8)
        clear hst
        refine wpG_nil ?_
        have h3 : Row wn b8 (ints 18 (mth.obj h r 9 9)) 31 := by rw [← HFIN.out]; exact H3.out
        replace H3 := Lib.hid h3
        clear h3 q0 q1 q2 q3 q4 q5 q6 q7 q8
        go_wp2_with (first
          | (refine wpList_load_Row H3.out rfl _ _ rfl rfl _ Tryd.underlying31 rfl (obj_isz _) ?_)
          | (refine wpList_store_Row H2.out rfl rfl _ _ _ rfl rfl rfl (obj_isz _) (by rw [ints_size, ints_size]) (ints_one _ _) ?_))
        refine bodyPost_ret (results_Row2 (H2.out.setRow _) rfl _ _ rfl Tryd.underlying31 rfl (obj_isz _)) rfl ?_
        exact ⟨by rw [HF.out.1, HF.out.2]; rfl, below_setRow HB.out (by omega) _⟩
      · have e0 : 0 < h / 2 ^ 21 := Nat.div_pos (by omega) (by omega)
        have e1 : (0 : Int) < ((h / 2 ^ 21 : Nat) : Int) := by omega
        have HF : Hid (objF h r = (fun _ => 0) ∧ objE h = 2) := Lib.hid (by unfold objF objE; rw [if_neg hbig, if_neg hbig]; exact ⟨rfl, rfl⟩)
        clear hbig e0
        generalize h / 2 ^ 21 = X at *
        go_wp2_with (refine wpList_store_Row H2.out rfl rfl _ _ _ rfl rfl ?c1 zeros_isz (by rw [ints_size]; rfl) (by rw [zeros_eq]; exact ints_one _ _) ?_; case c1 => rfl)
        refine bodyPost_ret (results_Row2 (cs := zeros18) (H2.out.setRow _) rfl _ _ rfl Tryd.underlying31 rfl zeros_isz) rfl ?_
        exact ⟨by rw [HF.out.1, HF.out.2, ← zeros_eq]; rfl, below_setRow HB.out (by omega) _⟩
end Go.Proofs.YtpmkdbiejeedeaaDoor
