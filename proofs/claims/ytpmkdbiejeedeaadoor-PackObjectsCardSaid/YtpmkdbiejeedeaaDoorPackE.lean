/-
  Contracts: the object of a head and a rest, in the program and in the document.
-/
import Derived.Test.YtpmkdbiejeedeaaDoorPackD
import Derived.StillTailTactics
import Derived.Deep.CutBlock
namespace Go.Proofs.YtpmkdbiejeedeaaDoor
open Go.RowKit
set_option linter.unusedVariables false

theorem Part_ok (X m wd : Nat) (hx : X < 2 ^ 32) (hw : 1 ≤ wd) (hm : m + wd ≤ 21) (w : World) :
    Calls Tryd.prog 20 #[.int .u64 (X : Nat), .int .i64 m, .int .i64 wd] w fun e w' => e = .returned (.int .u64 ((X / 2 ^ m % 2 ^ wd : Nat) : Int)) ∧ w = w' := by
  refine (Part_c X m wd (by omega) (by omega) w).mono ?_
  rintro e w' ⟨rfl, rfl⟩
  refine ⟨?_, rfl⟩
  have hP : mth.isP m wd := ⟨by omega, by omega, by omega, by omega⟩
  unfold partV
  rw [if_pos hP]
  simp only [Int.toNat_natCast]
  rw [mth.part_small _ _ _ (by omega)]

theorem Part_k (X m wd pt : Nat) (hx : X < 2 ^ 32) (hw : 1 ≤ wd) (hm : m + wd ≤ 21) (w : World) (h : X / 2 ^ m % 2 ^ wd = pt) :
    Calls Tryd.prog 20 #[.int .u64 (X : Nat), .int .i64 m, .int .i64 wd] w fun e w' => e = .returned (.int .u64 (pt : Int)) ∧ w' = w := by
  subst h
  exact (Part_ok X m wd hx hw hm w).mono fun e w' hh => ⟨hh.1, hh.2.symm⟩
/-- what Object hands back -/
def objF (h : Nat) (r : Nat → Int) : Nat → Int := if h < 2097152 then mth.obj h r 9 9 else fun _ => 0
def objE (h : Nat) : Int := if h < 2097152 then 0 else 2
theorem obj_set (h : Nat) (r : Nat → Int) {k : Nat} (hk : k < 9) : (ints 18 (mth.obj h r k 0)).setIfInBounds (mth.fl k) (.int .i64 ((mth.ptN h k : Nat) : Int)) = ints 18 (mth.obj h r (k + 1) 0) := by
  rw [ints_set]
  exact ints_congr fun i hi => mth.obj_part hk hi
theorem obj_set2 (h : Nat) (r : Nat → Int) {k : Nat} (hk : k < 9) : (ints 18 (mth.obj h r 9 k)).setIfInBounds (mth.ot k) (.int .i64 (r k)) = ints 18 (mth.obj h r 9 (k + 1)) := by
  rw [ints_set]
  exact ints_congr fun i hi => mth.obj_rest hk hi
theorem obj_nil (h : Nat) (r : Nat → Int) : ints 18 (mth.obj h r 0 0) = ints 18 fun _ => 0 := ints_congr fun i _ => mth.obj_zero h r i
theorem obj_mid (h : Nat) (r : Nat → Int) : mth.obj h r 9 0 = mth.obj h r 9 0 := rfl

def zeros18 : Array Value := #[.int .i64 0, .int .i64 0, .int .i64 0, .int .i64 0, .int .i64 0, .int .i64 0, .int .i64 0, .int .i64 0, .int .i64 0, .int .i64 0, .int .i64 0, .int .i64 0, .int .i64 0, .int .i64 0, .int .i64 0, .int .i64 0, .int .i64 0, .int .i64 0]
theorem zeros_eq : zeros18 = ints 18 fun _ => 0 := by rfl
theorem zeros_isz : (Tryd.prog.info? 31).map (·.size) = some zeros18.size := by kernel_rfl
set_option maxRecDepth 100000 in
set_option maxHeartbeats 1000000 in
theorem Object_c (h : Nat) (r : Nat → Int) (w : World) (hh : (h : Int) ≤ 4294967295) (ht : Tabs w) (ht2 : Tabs2 w) :
    Calls Tryd.prog 16 #[.int .u32 (h : Nat), .agg (ints 9 r)] w (Ret w (.tuple #[.agg (ints 18 (objF h r)), errV (objE h)])) := by
  have HT := Lib.hid ht
  have HT2 := Lib.hid ht2
  clear ht ht2
  have HB3 := Lib.hid ((((Below.refl w.heap.size w).alloc (Nat.le_refl _) (.cells (ints 9 r) 39)).alloc (by simp) (.cells (ints 18 fun _ => 0) 31)).alloc (by simp; omega) (.cells (ints 18 fun _ => 0) 31))
  go_enter Tryd.func16, Tryd.ntmps16
  go_wp2_with (first
    | (refine wpList_box_agg rfl _ _ rfl (ints 9 r) rfl ?_)
    | (refine wpList_alloc_agg rfl _ rfl _ obj_zeroV ?_)
    | (refine wpList_load_cells rfl _ _ rfl ⟨0, 0, none⟩ rfl partsV _ Tryd.underlying53 rfl parts_size (HT.out.below (HB3.out)).parts ?_))
  have HR1 := Lib.hid (((Row.new w (ints 9 r) 39).alloc (.cells (ints 18 fun _ => 0) 31)).alloc (.cells (ints 18 fun _ => 0) 31))
  have HR2 := Lib.hid ((Row.new (w.alloc (.cells (ints 9 r) 39)) (ints 18 fun _ => 0) 31).alloc (.cells (ints 18 fun _ => 0) 31))
  have HR3 := Lib.hid (Row.new ((w.alloc (.cells (ints 9 r) 39)).alloc (.cells (ints 18 fun _ => 0) 31)) (ints 18 fun _ => 0) 31)
  simp only [World.size_alloc] at HR2 HR3
  go_loopw [13, 7] (fun iv av wr => ∃ k : Nat, k ≤ 9 ∧ iv = .int .i64 k ∧ av = .int .i64 (mth.atK k : Nat) ∧ Row wr w.heap.size (ints 9 r) 39 ∧ Row wr (w.heap.size + 1) (ints 18 fun _ => 0) 31 ∧ Row wr (w.heap.size + 1 + 1) (ints 18 (mth.obj h r k 0)) 31 ∧ Below w.heap.size w wr) (fun iv _ _ => 9 - (intOf iv).toNat)
  case atStart => exact ⟨0, by omega, rfl, rfl, HR1.out, HR2.out, by rw [obj_nil]; exact HR3.out, HB3.out⟩
  case round =>
    obtain ⟨k, hk, rfl, rfl, h1, h2, h3, hbr⟩ := hrel
    have H1 := Lib.hid h1
    have H2 := Lib.hid h2
    have H3 := Lib.hid h3
    have HB := Lib.hid hbr
    clear h1 h2 h3 hbr HR1 HR2 HR3
    have hk' : (k : Int) ≤ 9 := by omega
    clear hk
    by_cases hlt : (k : Int) < 9
    · have hpa := parts_at (k := k) (by omega)
      obtain ⟨t1, t2, t3, t4, t5, t6, _⟩ := mth.tab (k := k) (by omega)
      have HOLD := Lib.hid (ints_get (mth.obj h r k 0) t1)
      have hps := H3.out.lt
      have HSET := Lib.hid (obj_set h r (k := k) (by omega))
      have HPT : Hid (h / 2 ^ mth.atK k % 2 ^ mth.wi k = mth.ptN h k) := Lib.hid rfl
      have hpt : mth.ptN h k < 2 ^ mth.wi k := Nat.mod_lt _ (Nat.two_pow_pos _)
      have hp8 : 2 ^ mth.wi k ≤ 2 ^ 8 := mth.pow_le _ _ t3
      have hpI : ((mth.ptN h k : Nat) : Int) ≤ 256 := by omega
      have hflI : ((mth.fl k : Nat) : Int) < 18 := by omega
      generalize mth.obj h r k 0 (mth.fl k) = old at *
      generalize mth.ptN h k = pt at *
      generalize mth.fl k = p at *
      generalize mth.wi k = q at *
      have hps := H3.out.lt
      clear hp8 hpt
      go_wp2_with (first
        | (refine wpList_alloc_agg rfl _ rfl _ part_zero ?_)
        | (refine wpList_store_Row (Row.new _ _ _) rfl rfl _ _ _ rfl rfl rfl part_size rfl rfl ?_; rw [World.setRow_alloc_new]))
      have HRP := Lib.hid (Row.new wr #[.int .i64 (p : Int), .int .i64 (q : Int)] 52)
      have H1' := Lib.hid (H1.out.alloc (.cells #[.int .i64 (p : Int), .int .i64 (q : Int)] 52))
      have H2' := Lib.hid (H2.out.alloc (.cells #[.int .i64 (p : Int), .int .i64 (q : Int)] 52))
      have H3' := Lib.hid (H3.out.alloc (.cells #[.int .i64 (p : Int), .int .i64 (q : Int)] 52))
      have HB' := Lib.hid (HB.out.alloc HB.out.size (.cells #[.int .i64 (p : Int), .int .i64 (q : Int)] 52))
      have hfree := H3'.out.free p
      have hcur := H3'.out.cell (i := p) HOLD.out
      have hp1 := HRP.out.cell (i := 0) rfl
      have hp2 := HRP.out.cell (i := 1) rfl
      generalize wr.alloc (.cells #[.int .i64 (p : Int), .int .i64 (q : Int)] 52) = wx at *
      have hwh : IntKind.u64.wrap (h : Int) = h := by rw [IntKind.wrap_u64]; omega
      have hwp : IntKind.i64.wrap (pt : Int) = pt := by rw [IntKind.wrap_i64]; omega
      refine wp_region_still_tail 10 (by kernel_rfl) (by kernel_rfl) ?_
      change wpStill _ _ wx.drew (fun a' => wpList _ _ _ _ a' wx.drew) _ _
      simp only [List.take_succ_cons, List.take_zero, List.drop_succ_cons, List.drop_zero]
      repeat still_step
      still_call (Part_k h (mth.atK k) q pt (by omega) t2 (by omega) _ HPT.out)
      repeat still_step
      refine wpStill_nil ?_
      go_wp2_with fail
      go_roundw
      case rel => exact ⟨k + 1, by omega, by go_num, by rw [← t4]; go_num, (H1'.out.drew).other (by omega) _ _, (H2'.out.drew).other (by omega) _ _, by rw [← HSET.out]; exact (H3'.out.drew).set _ _, HB'.out.drew.setCell (by show w.heap.size ≤ w.heap.size + 1 + 1; omega) _⟩
      case measure => simp [intOf]; omega
    · obtain rfl : k = 9 := by omega
      have h0 : (0 : Int) ≤ (h : Int) := by omega
      have hsz := shr_zero (n := (h : Int)) (q := 21) h0
      rw [show (2 : Int) ^ 21 = 2097152 by decide] at hsz
      rw [show mth.atK 9 = 21 from rfl]
      by_cases hbig : h < 2097152
      · have e1 : ((h : Int) / 2097152 != 0) = false := by rw [hsz, decide_eq_true (by show (h : Int) < ((2097152 : Nat) : Int); omega)]; rfl
        have HF : Hid (objF h r = mth.obj h r 9 9 ∧ objE h = 0) := Lib.hid (by unfold objF objE; rw [if_pos hbig, if_pos hbig]; exact ⟨rfl, rfl⟩)
        clear hsz hbig
        go_wp2_with (refine wpList_load_cells rfl _ _ rfl ⟨1, 0, none⟩ rfl othersV _ Tryd.underlying39 rfl others_size (HT2.out.below HB.out).others ?_)
        go_loopw [40] (fun iv wr => ∃ k : Nat, k ≤ 9 ∧ iv = .int .i64 k ∧ Row wr w.heap.size (ints 9 r) 39 ∧ Row wr (w.heap.size + 1) (ints 18 fun _ => 0) 31 ∧ Row wr (w.heap.size + 1 + 1) (ints 18 (mth.obj h r 9 k)) 31 ∧ Below w.heap.size w wr) (fun iv _ => 9 - (intOf iv).toNat)
        case atStart => exact ⟨0, by omega, rfl, H1.out, H2.out, H3.out, HB.out⟩
        case round =>
          obtain ⟨k, hk, rfl, h1, h2, h3, hbr⟩ := hrel
          have H1 := Lib.hid h1
          have H2 := Lib.hid h2
          have H3 := Lib.hid h3
          have HB := Lib.hid hbr
          clear h1 h2 h3 hbr e1
          have hk' : (k : Int) ≤ 9 := by omega
          clear hk
          by_cases hlt : (k : Int) < 9
          · have hpa := others_at (k := k) (by omega)
            obtain ⟨_, _, _, _, _, _, t1, _⟩ := mth.tab (k := k) (by omega)
            have t1' : ((mth.ot k : Nat) : Int) < 18 := by omega
            have hcell := H1.out.cell (ints_get r (show k < 9 by omega))
            have hfree := H3.out.free (mth.ot k)
            have hcur := H3.out.cell (ints_get (mth.obj h r 9 k) t1)
            have HSET := Lib.hid (obj_set2 h r (k := k) (by omega))
            clear t1
            generalize mth.obj h r 9 k (mth.ot k) = old at *
            generalize mth.ot k = p at *
            generalize r k = n at *
            go_wp2_with fail
            go_roundw
            case rel => exact ⟨k + 1, by omega, by go_num, H1.out.other (by omega) _ _, H2.out.other (by omega) _ _, by rw [← HSET.out]; exact H3.out.set _ _, HB.out.setCell (by show w.heap.size ≤ w.heap.size + 1 + 1; omega) _⟩
            case measure => simp [intOf]; omega
          · obtain rfl : k = 9 := by omega
            go_wp2_with (first
              | (refine wpList_load_Row H3.out rfl _ _ rfl rfl _ Tryd.underlying31 rfl (obj_isz _) ?_)
              | (refine wpList_store_Row H2.out rfl rfl _ _ _ rfl rfl rfl (obj_isz _) (by rw [ints_size, ints_size]) (ints_one _ _) ?_))
            refine bodyPost_ret (results_Row2 (H2.out.setRow _) rfl _ _ rfl Tryd.underlying31 rfl (obj_isz _)) rfl ?_
            exact ⟨by rw [HF.out.1, HF.out.2]; rfl, below_setRow HB.out (by omega) _⟩
      · have e1 : ((h : Int) / 2097152 != 0) = true := by rw [hsz, decide_eq_false (by show ¬ (h : Int) < ((2097152 : Nat) : Int); omega)]; rfl
        have HF : Hid (objF h r = (fun _ => 0) ∧ objE h = 2) := Lib.hid (by unfold objF objE; rw [if_neg hbig, if_neg hbig]; exact ⟨rfl, rfl⟩)
        clear hsz hbig
        go_wp2_with (refine wpList_store_Row H2.out rfl rfl _ _ _ rfl rfl ?c1 zeros_isz (by rw [ints_size]; rfl) (by rw [zeros_eq]; exact ints_one _ _) ?_; case c1 => rfl)
        refine bodyPost_ret (results_Row2 (cs := zeros18) (H2.out.setRow _) rfl _ _ rfl Tryd.underlying31 rfl zeros_isz) rfl ?_
        exact ⟨by rw [HF.out.1, HF.out.2, ← zeros_eq]; rfl, below_setRow HB.out (by omega) _⟩
end Go.Proofs.YtpmkdbiejeedeaaDoor
