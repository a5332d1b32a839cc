/-
  Contracts: by which events a player gains, or loses.
-/
import Derived.Test.YtlgfnimahmmgeaaKnowA
import Derived.Test.YtlgfnimahmmgeaaKitJ
namespace Go.Proofs.Ytlgfnimahmmgeaa
open Go.RowKit
set_option linter.unusedVariables false

theorem last_eq (n : Int) : zeros18.setIfInBounds 17 (.int .i64 n) = ints 18 (fun i => if i = 17 then n else 0) := by rfl
theorem bit_c (n p : Int) (w : World) (n1 : -9223372036854775808 ≤ n) (n2 : n ≤ 9223372036854775807) : Calls Try.prog 23 #[.int .i64 n, .int .i64 p] w (Ret w (.bool (kn n p))) := by
  have HR := Lib.hid (Row.new w zeros18 39)
  have HR2 : Hid (Row (w.alloc (.cells (zeros18.setIfInBounds 17 (.int .i64 n)) 39)) w.heap.size (ints 18 (fun i => if i = 17 then n else 0)) 39) := Lib.hid (by rw [last_eq]; exact Row.new _ _ _)
  have hz : zeros18[17]? = some (.int .i64 0) := rfl
  go_enter Try.func23, Try.ntmps23
  go_wp2_with (first
    | (refine wpList_alloc_agg rfl _ rfl _ obj_zeroV ?_; rw [← zeros_eq])
    | (refine wpList_store_Row HR.out rfl rfl _ _ _ rfl rfl ?c1 zeros_isz rfl (by rw [zeros_eq]; exact ints_one _ _) ?_; (case c1 => rfl); rw [World.setRow_alloc_new])
    | (refine wpList_load_Row HR2.out rfl _ _ rfl rfl _ Try.underlying39 rfl (obj_isz _) ?_)
    | (go_at_call 13; refine (refKnows_c _ _ _).mono ?_; rintro e w1 ⟨rfl, hb1⟩))
  go_ret
  exact ⟨rfl, ((Below.refl _ _).alloc (Nat.le_refl _) _).trans (hb1.mono (by simp))⟩

theorem bit0_c (n : Int) (w : World) (b : Bool) (h : mth.bt n 0 = b) (n1 : -9223372036854775808 ≤ n) (n2 : n ≤ 9223372036854775807) : Calls Try.prog 23 #[.int .i64 n, .int .i64 0] w (Ret w (.bool b)) := by
  rw [← h, ← kn0]; exact bit_c n 0 w n1 n2
theorem bit1_c (n : Int) (w : World) (b : Bool) (h : mth.bt n 1 = b) (n1 : -9223372036854775808 ≤ n) (n2 : n ≤ 9223372036854775807) : Calls Try.prog 23 #[.int .i64 n, .int .i64 1] w (Ret w (.bool b)) := by
  rw [← h, ← kn1]; exact bit_c n 1 w n1 n2

set_option maxHeartbeats 1000000 in
theorem More_c (a b : Int) (w : World) (a1 : -9223372036854775808 ≤ a) (a2 : a ≤ 9223372036854775807) (b1 : -9223372036854775808 ≤ b) (b2 : b ≤ 9223372036854775807) :
    Calls Try.prog 9 #[.int .i64 a, .int .i64 b] w (Ret w (.bool (mth.gain a b))) := by
  unfold mth.gain
  cases h1 : mth.bt b 0 <;> cases h2 : mth.bt a 0 <;> cases h3 : mth.bt b 1 <;> cases h4 : mth.bt a 1
  all_goals (
    have H1 := Lib.hid h1
    have H2 := Lib.hid h2
    have H3 := Lib.hid h3
    have H4 := Lib.hid h4
    have HB := Lib.hid (Below.refl w.heap.size w)
    clear h1 h2 h3 h4
    go_enter Try.func9, Try.ntmps9
    go_wp2_with (go_at_call 23; first
      | ((with_reducible refine (bit0_c b _ _ H1.out b1 b2).mono ?_); rintro e wv ⟨rfl, hb⟩; replace HB := Lib.hid (HB.out.trans (hb.mono HB.out.size)); clear hb)
      | ((with_reducible refine (bit0_c a _ _ H2.out a1 a2).mono ?_); rintro e wv ⟨rfl, hb⟩; replace HB := Lib.hid (HB.out.trans (hb.mono HB.out.size)); clear hb)
      | ((with_reducible refine (bit1_c b _ _ H3.out b1 b2).mono ?_); rintro e wv ⟨rfl, hb⟩; replace HB := Lib.hid (HB.out.trans (hb.mono HB.out.size)); clear hb)
      | ((with_reducible refine (bit1_c a _ _ H4.out a1 a2).mono ?_); rintro e wv ⟨rfl, hb⟩; replace HB := Lib.hid (HB.out.trans (hb.mono HB.out.size)); clear hb))
    go_ret
    exact ⟨rfl, HB.out⟩)

/-- an event about what players know -/
def isAb (f : Nat → Int) : Bool := f 0 == 2 && f 2 == 17
def gains (f : Nat → Int) : Bool := isAb f && mth.gain (f 3) (f 4)
def loses (f : Nat → Int) : Bool := isAb f && mth.gain (f 4) (f 3)
theorem ev_size (f : Nat → Int) : (Try.prog.info? 25).map (·.size) = some (ints 6 f).size := by rw [ints_size]; kernel_rfl
theorem ev_zeroV : (Try.prog.info? 25).map (fun i => i.zero) = some (some (.agg (ints 6 fun _ => 0))) := by kernel_rfl

theorem about_c (f : Nat → Int) (w : World) : Calls Try.prog 22 #[.agg (ints 6 f)] w (Ret w (.bool (isAb f))) := by
  have c0 := ints_get (n := 6) f (show 0 < 6 by omega)
  have c2 := ints_get (n := 6) f (show 2 < 6 by omega)
  unfold isAb
  cases h0 : f 0 == 2 <;> cases h2 : f 2 == 17
  all_goals (
    go_enter Try.func22, Try.ntmps22
    go_wp2_with (refine wpList_box_agg rfl _ _ rfl (ints 6 f) rfl ?_)
    go_ret
    exact ⟨rfl, (Below.refl _ _).alloc (Nat.le_refl _) _⟩)
set_option maxHeartbeats 1000000 in
theorem refGains_c (f : Nat → Int) (w : World) (hf : Ok18 f 6) : Calls Try.prog 6 #[.agg (ints 6 f)] w (Ret w (.bool (gains f))) := by
  have c0 := ints_get (n := 6) f (show 0 < 6 by omega)
  have c2 := ints_get (n := 6) f (show 2 < 6 by omega)
  have c3 := ints_get (n := 6) f (show 3 < 6 by omega)
  have c4 := ints_get (n := 6) f (show 4 < 6 by omega)
  obtain ⟨b1, b2⟩ := hf 3 (by omega)
  obtain ⟨b3, b4⟩ := hf 4 (by omega)
  clear hf
  unfold gains isAb
  have HB := Lib.hid ((Below.refl w.heap.size w).alloc (Nat.le_refl _) (.cells (ints 6 f) 25))
  cases h0 : f 0 == 2 <;> cases h2 : f 2 == 17
  all_goals (
    go_enter Try.func6, Try.ntmps6
    go_wp2_with (first
      | (refine wpList_box_agg rfl _ _ rfl (ints 6 f) rfl ?_)
      | (go_at_call 9; refine (More_c _ _ _ b1 b2 b3 b4).mono ?_; rintro e wv ⟨rfl, hb⟩; replace HB := Lib.hid (HB.out.trans (hb.mono (by simp))); clear hb))
    go_ret
    exact ⟨rfl, HB.out⟩)
set_option maxHeartbeats 1000000 in
theorem Gains_c (f : Nat → Int) (w : World) : Calls Try.prog 7 #[.agg (ints 6 f)] w (Ret w (.bool (gains f))) := by
  have HR := Lib.hid (Row.new w (ints 6 f) 25)
  have HB := Lib.hid ((Below.refl w.heap.size w).alloc (Nat.le_refl _) (.cells (ints 6 f) 25))
  have HG := Lib.hid (mth.gain_ne (f 3) (f 4))
  unfold gains
  cases ha : isAb f
  all_goals (
    have HAB := Lib.hid ha
    clear ha
    go_enter Try.func7, Try.ntmps7
    go_wp2_with (first
      | (refine wpList_box_agg rfl _ _ rfl (ints 6 f) rfl ?_)
      | (refine wpList_load_Row HR.out rfl _ _ rfl rfl _ Try.underlying25 rfl (ev_size _) ?_)
      | (go_at_call 22; refine (about_c f _).mono ?_; rintro e wv ⟨rfl, hb⟩; rw [HAB.out]; replace HR := Lib.hid (HR.out.below hb); replace HB := Lib.hid (HB.out.trans (hb.mono (by simp))); clear hb; have c3 := HR.out.cell (ints_get f (show 3 < 6 by omega)); have c4 := HR.out.cell (ints_get f (show 4 < 6 by omega)); have hg := HG.out))
    go_ret
    exact ⟨ret_bool (by simp), HB.out⟩)
set_option maxHeartbeats 1000000 in
theorem Loses_c (f : Nat → Int) (w : World) : Calls Try.prog 8 #[.agg (ints 6 f)] w (Ret w (.bool (loses f))) := by
  have HR := Lib.hid (Row.new w (ints 6 f) 25)
  have HB := Lib.hid ((Below.refl w.heap.size w).alloc (Nat.le_refl _) (.cells (ints 6 f) 25))
  have HG := Lib.hid (mth.gain_ne (f 4) (f 3))
  unfold loses
  cases ha : isAb f
  all_goals (
    have HAB := Lib.hid ha
    clear ha
    go_enter Try.func8, Try.ntmps8
    go_wp2_with (first
      | (refine wpList_box_agg rfl _ _ rfl (ints 6 f) rfl ?_)
      | (refine wpList_load_Row HR.out rfl _ _ rfl rfl _ Try.underlying25 rfl (ev_size _) ?_)
      | (go_at_call 22; refine (about_c f _).mono ?_; rintro e wv ⟨rfl, hb⟩; rw [HAB.out]; replace HR := Lib.hid (HR.out.below hb); replace HB := Lib.hid (HB.out.trans (hb.mono (by simp))); clear hb; have c3 := HR.out.cell (ints_get f (show 3 < 6 by omega)); have c4 := HR.out.cell (ints_get f (show 4 < 6 by omega)); have hg := HG.out))
    go_ret
    exact ⟨ret_bool (by simp), HB.out⟩)
end Go.Proofs.Ytlgfnimahmmgeaa
