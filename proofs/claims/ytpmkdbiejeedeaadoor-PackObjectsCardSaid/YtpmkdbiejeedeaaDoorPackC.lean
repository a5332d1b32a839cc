/-
  Contracts: the document's head.
-/
import Derived.Test.YtpmkdbiejeedeaaDoorPackB
namespace Go.Proofs.YtpmkdbiejeedeaaDoor
open Go.RowKit
set_option linter.unusedVariables false

def fldI : List Int := [1, 2, 3, 4, 5, 11, 13, 17, 10]
def sizI : List Int := [2, 2, 16, 2, 2, 2, 4, 4, 256]
theorem fldI_at : ∀ k : Fin 9, fldI.getD k 0 = (mth.fl k : Nat) ∧ sizI.getD k 0 = ((2 ^ mth.wi k : Nat) : Int) := by decide
theorem fldI_get {k : Nat} (h : k < 9) : fldI.getD k 0 = (mth.fl k : Nat) ∧ sizI.getD k 0 = ((2 ^ mth.wi k : Nat) : Int) := fldI_at ⟨k, h⟩
theorem at_row {w : World} {b n : Nat} {T : TypeId} {l : List Int} (h : Row w b (i64s l).toArray T) (hn : l.length = n) : At w (some ⟨b, 0, none⟩) n (i64s l) := fun _ => by
  refine ⟨_, rfl, h.lt, fun j u hu => ?_⟩
  rw [Addr.add_lit, Nat.zero_add]
  exact h.cell (by simpa using hu)
theorem row_int {w : World} {b k : Nat} {T : TypeId} {l : List Int} (h : Row w b (i64s l).toArray T) (hk : k < l.length) : w.cell? ⟨b, k, none⟩ = some (.int .i64 (l.getD k 0)) := by
  refine h.cell ?_
  simp [i64s, hk, List.getD_eq_getElem?_getD]

theorem fields_c (w : World) : Calls Tryd.prog 19 #[] w fun e w' => ∃ T, e = .returned (.tuple #[.slice (some ⟨w.heap.size, 0, none⟩) 9 9, .slice (some ⟨w.heap.size + 1, 0, none⟩) 9 9]) ∧
    Row w' w.heap.size (i64s fldI).toArray T ∧ Row w' (w.heap.size + 1) (i64s sizI).toArray T ∧ Below w.heap.size w w' := by
  go_enter Tryd.func19, Tryd.ntmps19
  go_wp2_with fail
  go_ret2
  refine ⟨_, rfl, (Row.new _ _ _).alloc _, ?_, ((Below.refl _ _).alloc (Nat.le_refl _) _).alloc (by simp) _⟩
  have := Row.new (w.alloc (.cells (i64s fldI).toArray 3)) (i64s sizI).toArray 3
  rw [World.size_alloc] at this
  exact this

set_option maxRecDepth 100000 in
set_option maxHeartbeats 2000000 in
theorem refHead_c (f : Nat → Int) (w : World) (hf : Ok18 f 18) :
    Calls Tryd.prog 12 #[.agg (ints 18 f)] w (Ret w (.tuple #[.int .u32 (headX f), .int .i64 (headE f)])) := by
  have HF := Lib.hid hf
  clear hf
  go_enter Tryd.func12, Tryd.ntmps12
  go_wp2_with (first
    | (refine wpList_box_agg rfl _ _ rfl (ints 18 f) rfl ?_)
    | (go_at_call 19; refine (fields_c _).mono ?_; rintro e w1 ⟨T, rfl, hr1, hr2, hb1⟩; have HR1 := Lib.hid hr1; have HR2 := Lib.hid hr2; have HB1 := Lib.hid hb1; clear hr1 hr2 hb1))
  have hR0 := (Row.new w (ints 18 f) 31).below HB1.out
  have HR0 := Lib.hid hR0
  have HBW := Lib.hid (((Below.refl w.heap.size w).alloc (Nat.le_refl _) (.cells (ints 18 f) 31)).trans (HB1.out.mono (by simp)))
  clear hR0
  simp only [World.size_alloc] at *
  go_loopw [16, 6, 7] (fun iv xv pv wr => ∃ k : Nat, k ≤ 9 ∧ iv = .int .i64 k ∧ xv = .int .i64 (mth.hdN f k : Nat) ∧ pv = .int .i64 ((2 ^ mth.atK k : Nat) : Int) ∧ mth.okH f k ∧ Below w1.heap.size w1 wr) (fun iv _ _ _ => 9 - (intOf iv).toNat)
  case atStart => exact ⟨0, by omega, rfl, rfl, rfl, mth.okH_zero f, Below.refl _ _⟩
  case round =>
    obtain ⟨k, hk, rfl, rfl, rfl, hok, hbr⟩ := hrel
    have HOK := Lib.hid hok
    have HB := Lib.hid hbr
    have hlw := HB.out.size
    clear hok hbr
    have hk' : (k : Int) ≤ 9 := by omega
    clear hk
    by_cases hlt : (k : Int) < 9
    · obtain ⟨t1, t2, t3, t4, t5, t6, _⟩ := mth.tab (k := k) (by omega)
      obtain ⟨f1, f2⟩ := fldI_get (k := k) (by omega)
      have hc1 := row_int (HR1.out.below HB.out) (k := k) (show k < 9 by omega)
      have hc2 := row_int (HR2.out.below HB.out) (k := k) (show k < 9 by omega)
      rw [f1] at hc1
      rw [f2] at hc2
      have hl1 := (HR1.out.below HB.out).lt
      have hl2 := (HR2.out.below HB.out).lt
      have hl0 := (HR0.out.below HB.out).lt
      have hbd := HF.out (mth.fl k) t1
      have HH := Lib.hid (fun h1 h2 => mth.okH_succ HOK.out h1 h2)
      have HBAD := Lib.hid (fun h => head_bad (f := f) (k := k) (by omega) h)
      have HQ2 := Lib.hid f2
      clear f1 f2
      generalize hp : mth.fl k = p at *
      have HP := Lib.hid hp
      clear hp
      have hcell := (HR0.out.below HB.out).cell (ints_get f t1)
      have HPL := Lib.hid t1
      generalize hn : f p = n at *
      have HNP := Lib.hid hn
      clear hn
      have HNX : Hid (mth.hdN f k + n.toNat * 2 ^ mth.atK k = mth.hdN f (k + 1)) := Lib.hid (by rw [mth.hdN, HP.out, HNP.out])
      have HW : Hid (2 ^ mth.atK k * 2 ^ mth.wi k = 2 ^ mth.atK (k + 1)) := Lib.hid (by rw [← Nat.pow_add, t4])
      have hs8 : 2 ^ mth.wi k ≤ 2 ^ 8 := mth.pow_le _ _ t3
      have hw21 : 2 ^ mth.atK (k + 1) ≤ 2 ^ 21 := mth.pow_le _ _ t5
      have HLT := Lib.hid (mth.hdN_lt (f := f) (k := k) (by omega) HOK.out)
      generalize 2 ^ mth.wi k = q at *
      have hq : (q : Int) ≤ 256 := by omega
      have hW1 : ((2 ^ mth.atK (k + 1) : Nat) : Int) ≤ 2097152 := by omega
      have hp18 : (p : Int) < 18 := by omega
      have hp0 : 0 ≤ (p : Int) := by omega
      have hk0 : 0 ≤ (k : Int) := by omega
      clear hs8 hw21 t2 t3 t4 t5 t6 t1
      have hc : n < 0 ∨ (0 ≤ n ∧ ¬ n < (q : Int)) ∨ (0 ≤ n ∧ n < (q : Int)) := by omega
      rcases hc with h1 | ⟨h1, h2⟩ | ⟨h1, h2⟩
      · have HE := Lib.hid (HBAD.out (by omega))
        go_wp2_with fail
        refine wp_region_later (by kernel_rfl) (by kernel_rfl) ?_
        repeat (go_big_quiet_step (fail))
        refine wpQuiet_nil ?_
        intro w2 hb2
        go_wp2_with fail
        go_ret2
        exact ⟨by rw [HE.out.1, HE.out.2]; rfl, HBW.out.trans ((HB.out.mono HBW.out.size).trans (hb2.mono (Nat.le_trans HBW.out.size HB.out.size)))⟩
      · have HE := Lib.hid (HBAD.out (by omega))
        have d1 : decide (n < 0) = false := by simp; omega
        have d2 : decide ((q : Int) ≤ n) = true := by simp; omega
        go_wp2_with fail
        refine wp_region_later (by kernel_rfl) (by kernel_rfl) ?_
        repeat (go_big_quiet_step (fail))
        refine wpQuiet_nil ?_
        intro w2 hb2
        go_wp2_with fail
        go_ret2
        exact ⟨by rw [HE.out.1, HE.out.2]; rfl, HBW.out.trans ((HB.out.mono HBW.out.size).trans (hb2.mono (Nat.le_trans HBW.out.size HB.out.size)))⟩
      · have HH2 := Lib.hid (HH.out h1 h2)
        obtain ⟨N, rfl⟩ : ∃ N : Nat, n = (N : Int) := ⟨n.toNat, by omega⟩
        have hNX := HNX.out
        rw [Int.toNat_natCast] at hNX
        have hWq := HW.out
        have hlt2 := HLT.out
        generalize 2 ^ mth.atK k = W at *
        obtain ⟨M, hM⟩ : ∃ M : Nat, N * W = M := ⟨_, rfl⟩
        rw [hM] at hNX
        have m1 : (W : Int) * (N : Int) = (M : Int) := by rw [← hM, Int.natCast_mul, Int.mul_comm]
        have m2 : (W : Int) * (q : Int) = ((2 ^ mth.atK (k + 1) : Nat) : Int) := by rw [← hWq, Int.natCast_mul]
        have hMle : M ≤ W * q := by rw [← hM, Nat.mul_comm]; exact Nat.mul_le_mul_left _ (by omega)
        have hMI : (M : Int) ≤ 2097152 := by omega
        have hXI : (mth.hdN f k : Int) ≤ 2097152 := by
          have : W ≤ W * q := by
            have : W * 1 ≤ W * q := Nat.mul_le_mul_left _ (by omega)
            omega
          omega
        have HMX := Lib.hid hNX
        clear hNX hWq hlt2 hM hMle HNX HLT
        generalize hW' : 2 ^ mth.atK (k + 1) = W' at *
        have HW' := Lib.hid hW'
        clear hW'
        have d1 : decide ((N : Int) < 0) = false := by simp
        have d2 : decide ((q : Int) ≤ N) = false := by simp; omega
        go_wp2_with fail
        refine wp_region_later (by kernel_rfl) (by kernel_rfl) ?_
        repeat (go_big_quiet_step (fail))
        refine wpQuiet_nil ?_
        intro w2 hb2
        have hcell2 := ((HR0.out.below HB.out).below hb2).cell (ints_get f (show p < 18 from HPL.out))
        rw [HNP.out] at hcell2
        have hc22 := row_int ((HR2.out.below HB.out).below hb2) (k := k) (show k < 9 by omega)
        rw [HQ2.out] at hc22
        have hb2s := hb2.size
        go_wp2_with fail
        go_roundw
        case rel => exact ⟨k + 1, by omega, by go_num, by rw [← HMX.out]; go_num, by rw [HW'.out], HH2.out, HB.out.trans (hb2.mono HB.out.size)⟩
        case measure => simp [intOf]; omega
    · obtain rfl : k = 9 := by omega
      have HE := Lib.hid (head_ok HOK.out)
      have hlt := mth.hdN_lt (f := f) (k := 9) (by omega) HOK.out
      have hlt' : ((mth.hdN f 9 : Nat) : Int) < 2097152 := by have : mth.atK 9 = 21 := rfl; rw [this] at hlt; omega
      clear hlt
      go_wp2_with fail
      go_ret2
      exact ⟨by rw [HE.out.1, HE.out.2]; rfl, HBW.out.trans (HB.out.mono HBW.out.size)⟩
end Go.Proofs.YtpmkdbiejeedeaaDoor
