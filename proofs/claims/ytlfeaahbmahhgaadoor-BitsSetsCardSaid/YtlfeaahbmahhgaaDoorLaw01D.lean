/-
  BitsSets: for any set and any number the law answers true, in a world in which the library's table lies.
-/
import Derived.Test.YtlfeaahbmahhgaaDoorBitsE
import Derived.Test.YtlfeaahbmahhgaaDoorLaw01A
namespace Go.Proofs.YtlfeaahbmahhgaaDoor
open Go.RowKit
set_option linter.unusedVariables false

set_option maxHeartbeats 800000 in
theorem BitsSets_c (x i : Int) (h1 : 0 ≤ x) (h2 : x ≤ 18446744073709551615) (w : World) (ht : Tab w) :
    Calls Tryd.prog 3 #[.int .u64 x, .int .i64 i] w (Ret w (.bool true)) := by
  obtain ⟨X, rfl⟩ := Int.eq_ofNat_of_zero_le h1
  have HT := Lib.hid ht
  clear ht
  go_enter Tryd.func3, Tryd.ntmps3
  go_wp2_with (first
    | (go_at_call 4; refine (alive_c _).mono ?_; rintro e w' ⟨rfl, rfl⟩)
    | fail)
  refine (Bits_ci _ h1 h2 _).mono ?_
  rintro e w1 ⟨rfl, hb1⟩
  rw [Int.toNat_natCast]
  have hs1 := hb1.size
  go_wp2_with (first
    | (refine wpList_alloc_agg rfl _ rfl _ boolArr_zero ?_)
    | (refine wpList_store_row rfl rfl _ _ _ rfl w1.heap.size rfl _ (rowOf 64 (fun _ => .bool false)) (bitRow X 64) rfl (heap_alloc_new _ _) (by rw [boolArr_size]; rfl) rfl (rowOf_oneCell fun _ _ => rfl) ?_; rw [World.setRow_alloc_new]))
  have hcells : ∀ k, k < 64 → (bitRow X 64)[k]? = some (.bool (X.testBit k)) := fun k hk => by
    unfold bitRow; rw [rowOf_get _ hk]; simp [hk]
  have HX := Lib.hid hcells
  clear hcells
  go_loop [6, 7, 8] (fun nv lv iv => ∃ k : Nat, k ≤ 64 ∧ iv = .int .i64 ((k : Int) - 1) ∧ nv = .int .i64 (mth.cntFrom X k : Nat) ∧ lv = .int .i64 (mth.leastFrom X k (64 - k))) (fun _ _ iv => (intOf iv + 1).toNat)
  case atStart => exact ⟨64, by omega, rfl, rfl, rfl⟩
  case round =>
    obtain ⟨k, hk, rfl, rfl, rfl⟩ := hrel
    by_cases hlt : 1 ≤ k
    · obtain ⟨j, rfl⟩ : ∃ j, k = j + 1 := ⟨k - 1, by omega⟩
      have hc := HX.out j (by omega)
      have hcl := mth.cntFrom_le X (j + 1)
      have HC := Lib.hid (mth.cntFrom_step X j (by omega))
      have HL := Lib.hid (mth.leastFrom_step X j (by omega))
      generalize mth.cntFrom X (j + 1) = c at *
      generalize mth.leastFrom X (j + 1) (64 - (j + 1)) = l at *
      have ej : ((j + 1 : Nat) : Int) - 1 = (j : Int) := by omega
      rw [ej]
      clear ej
      cases hb : X.testBit j
      all_goals
        have HB := Lib.hid hb
        rw [hb] at hc
        clear hb
        go_wp2
        go_round
        case rel =>
          refine ⟨j, by omega, rfl, ?_, ?_⟩
          · rw [HC.out, HB.out]; simp; try omega
          · rw [HL.out, HB.out]; rfl
        case measure => simp [intOf]
    · obtain rfl : k = 0 := by omega
      rw [mth.cntFrom_all]
      simp only [Nat.sub_zero]
      have q := mth.popc_le X
      by_cases hi : 0 ≤ i ∧ i < 64
      · obtain ⟨i1, i2⟩ := hi
        obtain ⟨I, rfl⟩ := Int.eq_ofNat_of_zero_le i1
        have d1 : decide (0 ≤ (I : Int)) = true := by simp
        have d2 : decide ((I : Int) < 64) = true := by simpa using i2
        have hc := HX.out I (by omega)
        have hh : hasB (X : Int) (I : Int) = X.testBit I := by simp [hasB, i2]
        go_wp2_with (first
          | (go_at_call 6; refine (Has_c _ _ h1 h2 _).mono ?_; rintro e w' ⟨rfl, rfl⟩)
          | (go_at_call 7; refine (Count_c _ h1 h2 _).mono ?_; rintro e w' ⟨rfl, rfl⟩; rw [Int.toNat_natCast])
          | (go_at_call 8; refine (Least_c _ h1 h2 _ (HT.out.below (hb1.alloc hs1 _))).mono ?_; rintro e w' ⟨rfl, rfl⟩; rw [Int.toNat_natCast])
          | (go_at_call 9; refine (With_c _ _ h1 h2 _).mono ?_; rintro e w' ⟨rfl, rfl⟩)
          | (go_at_call 11; refine (Without_c _ _ h1 h2 _).mono ?_; rintro e w' ⟨rfl, rfl⟩)
          | (go_at_call 10; refine (Set_ref _ _ _ h1 h2 _).mono ?_; rintro e w2 ⟨rfl, hb2⟩))
        rename_i wa hba
        have hsa := hba.size
        simp at hsa
        go_ret
        exact ⟨rfl, ((hb1.alloc hs1 _).trans (hba.mono (by simp; omega))).trans (hb2.mono (by omega))⟩
      · have hh : hasB (X : Int) i = false := by
          unfold hasB
          rw [← Bool.and_assoc, Bool.and_eq_false_iff]
          left
          simpa using hi
        have d : (decide (0 ≤ i) = true ∧ decide (i < 64) = false) ∨ decide (0 ≤ i) = false := by
          by_cases h : 0 ≤ i
          · left; exact ⟨by simpa using h, by simp; omega⟩
          · right; simpa using h
        clear hi
        rcases d with ⟨d1, d2⟩ | d1
        all_goals
          go_wp2_with (first
            | (go_at_call 6; refine (Has_c _ _ h1 h2 _).mono ?_; rintro e w' ⟨rfl, rfl⟩)
            | (go_at_call 7; refine (Count_c _ h1 h2 _).mono ?_; rintro e w' ⟨rfl, rfl⟩; rw [Int.toNat_natCast])
            | (go_at_call 8; refine (Least_c _ h1 h2 _ (HT.out.below (hb1.alloc hs1 _))).mono ?_; rintro e w' ⟨rfl, rfl⟩; rw [Int.toNat_natCast])
            | (go_at_call 9; refine (With_c _ _ h1 h2 _).mono ?_; rintro e w' ⟨rfl, rfl⟩)
            | (go_at_call 11; refine (Without_c _ _ h1 h2 _).mono ?_; rintro e w' ⟨rfl, rfl⟩)
            | (go_at_call 10; refine (Set_ref _ _ _ h1 h2 _).mono ?_; rintro e w2 ⟨rfl, hb2⟩))
          rename_i wa hba
          have hsa := hba.size
          simp at hsa
          go_ret
          exact ⟨rfl, ((hb1.alloc hs1 _).trans (hba.mono (by simp; omega))).trans (hb2.mono (by omega))⟩
end Go.Proofs.YtlfeaahbmahhgaaDoor
