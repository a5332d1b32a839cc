/-
  KnowSees: the law.
-/
import Derived.Test.YtlgfnimahmmgeaaDoorKnT
import Derived.Test.YtlgfnimahmmgeaaDoorSymIs
namespace Go.Proofs.YtlgfnimahmmgeaaDoor
open Go.RowKit
set_option linter.unusedVariables false
set_option linter.unusedSimpArgs false

/-! Parts of what is known so far. -/
def vs (k n : Nat) : List Tm := (List.range n).map fun i => .var (k + i)
section
variable {Δ : Tab} {ρ C B : List Dat} {k n : Nat}
theorem map_vs (h : k + n ≤ ρ.length) : (vs k n).map (den Δ ρ) = (ρ.drop k).take n := by
  refine List.ext_getElem ?_ fun i h1 h2 => ?_
  · simp [vs]; omega
  · have hi : i < n := by simpa [vs] using h1
    simp only [vs, List.getElem_map, List.getElem_range, List.getElem_take, List.getElem_drop, den, List.getD_eq_getElem?_getD]
    rw [List.getElem?_eq_getElem (by omega)]; rfl
theorem seg_ext (h : (ρ.drop k).take n = B) (hk : k + n ≤ ρ.length) : ((ρ ++ C).drop k).take n = B := by
  rw [List.drop_append_of_le_length (by omega), List.take_append_of_le_length (by rw [List.length_drop]; omega), h]
theorem seg_new {e : List Dat} (hk : ρ.length = k) (hn : B.length = n) : ((ρ ++ (B ++ e)).drop k).take n = B := by
  subst hk hn
  rw [List.drop_left, List.take_left]
theorem seg_new0 (hk : ρ.length = k) (hn : B.length = n) : ((ρ ++ B).drop k).take n = B := by
  subst hk hn
  rw [List.drop_left, List.take_length]
theorem den_ext (h : k < ρ.length) : den Δ (ρ ++ C) (.var k) = den Δ ρ (.var k) := by
  rw [den_varA h]; rfl
theorem den_new {x : Dat} {e : List Dat} (h : ρ.length = k) : den Δ (ρ ++ x :: e) (.var k) = x := by
  rw [den_varB (by omega), h, Nat.sub_self]; rfl
end
theorem argI_tail {ds e : List Dat} {i : Nat} (h : ds.length ≤ i) : argI (ds ++ e) i = argI e (i - ds.length) := by
  simp [argI, List.getD_eq_getElem?_getD, List.getElem?_append_right h]
theorem argI_head {ds e : List Dat} {i : Nat} (h : i < ds.length) : argI (ds ++ e) i = argI ds i := by
  simp [argI, List.getD_eq_getElem?_getD, List.getElem?_append_left h]
theorem argL_tail {ds e : List Dat} {i : Nat} (h : ds.length ≤ i) : argL (ds ++ e) i = argL e (i - ds.length) := by
  simp [argL, List.getD_eq_getElem?_getD, List.getElem?_append_right h]
theorem argL_head {ds e : List Dat} {i : Nat} (h : i < ds.length) : argL (ds ++ e) i = argL ds i := by
  simp [argL, List.getD_eq_getElem?_getD, List.getElem?_append_left h]
theorem longP_head {ds e : List Dat} {m : Int} (h : 12 ≤ ds.length) : LongP m (ds ++ e) ↔ LongP m ds := by
  unfold LongP
  rw [argL_head (by omega)]
  refine or_congr Iff.rfl (exists_congr fun z => ?_)
  constructor
  · rintro ⟨h1, h2⟩
    rw [argL_head (by omega)] at h2; exact ⟨h1, h2⟩
  · rintro ⟨h1, h2⟩
    rw [argL_head (by omega)]; exact ⟨h1, h2⟩
theorem sm_head {ds e : List Dat} (h : 12 ≤ ds.length) (hs : Sm ds) : Sm (ds ++ e) := fun i hi => by rw [argL_head (by omega)]; exact hs i hi
/-- which two states are the same -/
def SameR (A B : List Dat) : Prop := (argL A 0).length = (argL B 0).length ∧ (∀ i, i < 25 → argI A (12 + i) = argI B (12 + i)) ∧ (∀ k, k < (argL A 0).length → ∀ c, c < 18 → rowI ((argL A 0).getD k []) c = rowI ((argL B 0).getD k []) c) ∧ ∀ z, z < 11 → nums (argL A (z + 1)) = nums (argL B (z + 1))
theorem same_iff {A B : List Dat} (hA : A.length = 37) : SameS (A ++ B) ↔ SameR A B := by
  have e0 : argL (A ++ B) 37 = argL B 0 := by rw [argL_tail (by omega), hA]
  unfold SameS SameR
  rw [argL_head (by omega), e0]
  refine and_congr Iff.rfl (and_congr (forall_congr' fun i => imp_congr_right fun hi => ?_) (and_congr Iff.rfl (forall_congr' fun z => imp_congr_right fun hz => ?_)))
  · rw [argI_head (by omega), argI_tail (by omega), hA, show 49 + i - 37 = 12 + i by omega]
  · rw [argL_head (by omega), argL_tail (by omega), hA, show z + 38 - 37 = z + 1 by omega]
theorem SameR.refl (A : List Dat) : SameR A A := ⟨rfl, fun _ _ => rfl, fun _ _ _ _ => rfl, fun _ _ => rfl⟩
theorem copy_same {A B : List Dat} (h : CopyR A B) : SameR A B := by
  refine ⟨by rw [h.1 0 (by omega)], fun i hi => (h.2 i hi).symm, fun k hk c hc => by rw [h.1 0 (by omega)], fun z hz => by rw [h.1 (z + 1) (by omega)]⟩
theorem copy_sm {A B : List Dat} (h : CopyR A B) (hs : Sm A) : Sm B := fun i hi => by rw [h.1 i hi]; exact hs i hi
theorem sees_same {p : Int} {ds A B : List Dat} (h1 : SeesR p ds A) (h2 : SeesR p ds B) : SameR A B :=
  ⟨by rw [h1.1, h2.1], fun i hi => by rw [h1.2.2 i hi, h2.2.2 i hi], fun k hk c hc => by rw [h1.1, h2.1], fun z hz => by rw [h1.2.1 z hz, h2.2.1 z hz]⟩
theorem sees_sm {p : Int} {ds A : List Dat} (h : SeesR p ds A) (hs : Sm ds) : Sm A := fun i hi => by
  match i with
  | 0 => rw [h.1, List.length_map]; exact hs 0 (by omega)
  | i + 1 => rw [h.2.1 i (by omega)]; exact hs (i + 1) hi
theorem stV_sm : Sm stV := fun i hi => by
  match i, hi with
  | 0, _ | 1, _ | 2, _ | 3, _ | 4, _ | 5, _ | 6, _ | 7, _ | 8, _ | 9, _ | 10, _ | 11, _ => exact Nat.zero_le _
theorem sm_take {ds : List Dat} (h : Sm (ds.take 37)) : Sm ds := fun i hi => by have := h i hi; rwa [argL_take (by omega)] at this
theorem Sees_mono {ds : List Dat} {Q : List Dat → Prop} (hsm : Sm (ds.take 37)) (h : ∀ (T : List Dat) (n n' : Int), T.length = 37 → errP (ds.take 37) n → ((n ≠ 0 ∧ n' = n ∧ T = stV) ∨ (n = 0 ∧ ¬ (argI ds 37 = 0 ∨ argI ds 37 = 1) ∧ n' = 1 ∧ T = stV) ∨ (n = 0 ∧ (argI ds 37 = 0 ∨ argI ds 37 = 1) ∧ n' = 0 ∧ SeesR (argI ds 37) ds T)) → Q (T ++ [errV n'])) : Sees_s ds Q :=
  ⟨hsm, fun n hn => ⟨fun h0 => h stV n n rfl hn (.inl ⟨h0, rfl, rfl⟩), fun h0 => ⟨fun hp => h stV n 1 rfl hn (.inr (.inl ⟨h0, hp, rfl, rfl⟩)), fun hp rs hr hR => h rs n 0 hr hn (.inr (.inr ⟨h0, hp, rfl, hR⟩))⟩⟩⟩
theorem nStates_mono {A B : List Dat} {Q : List Dat → Prop} (hA : A.length = 37) (h1 : Sm A) (h2 : Sm B) (hS : SameR A B) (h : Q [.bool true]) : nStates_s (A ++ B) Q :=
  ⟨sm_head (by omega) h1, by rw [← hA, List.drop_left]; exact h2, fun b hb => by
    have : b = true := hb.2 ((same_iff hA).2 hS)
    rw [this]; exact h⟩
def k_alive15 : Nat := 5
def sg_alive15 : Sig := ⟨[], [(false, [.bool])], false, false, false⟩
def tr_alive15 : Tree := (.ret [(.and (.bool true) (.and (.bool true) (.and (.bool true) (.and (.bool true) (.and (.bool true) (.bool true))))))])
theorem wk_alive15 : walk E0.cx (sgsN []) 0 5 sg_alive15 = tr_alive15 := by kernel_rfl
theorem bo_alive15 : ∃ x, bodyOf E0.P 5 = some x := bo_of (by kernel_rfl)
def alive15_s : Spec := true_s
theorem alive15_h : Holds E0 k_alive15 sg_alive15 alive15_s := con_fn wf0 mix0 g0 [] rfl wk_alive15 rfl (by
  intro Φ hΦ ds Q hs h
  exact h)
noncomputable def con_alive15 : Con E0 := ⟨k_alive15, sg_alive15, alive15_s, rfl, bo_alive15, alive15_h⟩
def k_lsees : Nat := 3
def sg_lsees : Sig := ⟨[(true, [.list 49] ++ List.replicate 11 (.list 3) ++ List.replicate 25 (.int .i64)), (false, [.int .i64])], [(false, [.bool])], false, false, true⟩
def tr_lsees_1 : Tree := (.call k_nStates [(.var 77), (.var 78), (.var 79), (.var 80), (.var 81), (.var 82), (.var 83), (.var 84), (.var 85), (.var 86), (.var 87), (.var 88), (.var 89), (.var 90), (.var 91), (.var 92), (.var 93), (.var 94), (.var 95), (.var 96), (.var 97), (.var 98), (.var 99), (.var 100), (.var 101), (.var 102), (.var 103), (.var 104), (.var 105), (.var 106), (.var 107), (.var 108), (.var 109), (.var 110), (.var 111), (.var 112), (.var 113), (.nil 49), (.nil 3), (.nil 3), (.nil 3), (.nil 3), (.nil 3), (.nil 3), (.nil 3), (.nil 3), (.nil 3), (.nil 3), (.nil 3), (.int .i64 0), (.int .i64 0), (.int .i64 0), (.int .i64 0), (.int .i64 0), (.int .i64 0), (.int .i64 0), (.int .i64 0), (.int .i64 0), (.int .i64 0), (.int .i64 0), (.int .i64 0), (.int .i64 0), (.int .i64 0), (.int .i64 0), (.int .i64 0), (.int .i64 0), (.int .i64 0), (.int .i64 0), (.int .i64 0), (.int .i64 0), (.int .i64 0), (.int .i64 0), (.int .i64 0), (.int .i64 0)] [.bool] (.ret [(.var 118)]))
def tr_lsees : Tree := (.call k_alive15 [] [.bool] (.ite (.not (.var 38)) (.ret [(.bool false)]) (.call k_Long [(.var 0), (.var 1), (.var 2), (.var 3), (.var 4), (.var 5), (.var 6), (.var 7), (.var 8), (.var 9), (.var 10), (.var 11), (.var 12), (.var 13), (.var 14), (.var 15), (.var 16), (.var 17), (.var 18), (.var 19), (.var 20), (.var 21), (.var 22), (.var 23), (.var 24), (.var 25), (.var 26), (.var 27), (.var 28), (.var 29), (.var 30), (.var 31), (.var 32), (.var 33), (.var 34), (.var 35), (.var 36), (.int .i64 60)] [.bool] (.ite (.var 39) (.ret [(.bool true)]) (.call k_nCopy [(.var 0), (.var 1), (.var 2), (.var 3), (.var 4), (.var 5), (.var 6), (.var 7), (.var 8), (.var 9), (.var 10), (.var 11), (.var 12), (.var 13), (.var 14), (.var 15), (.var 16), (.var 17), (.var 18), (.var 19), (.var 20), (.var 21), (.var 22), (.var 23), (.var 24), (.var 25), (.var 26), (.var 27), (.var 28), (.var 29), (.var 30), (.var 31), (.var 32), (.var 33), (.var 34), (.var 35), (.var 36)] [(.list 49), (.list 3), (.list 3), (.list 3), (.list 3), (.list 3), (.list 3), (.list 3), (.list 3), (.list 3), (.list 3), (.list 3), (.int .i64), (.int .i64), (.int .i64), (.int .i64), (.int .i64), (.int .i64), (.int .i64), (.int .i64), (.int .i64), (.int .i64), (.int .i64), (.int .i64), (.int .i64), (.int .i64), (.int .i64), (.int .i64), (.int .i64), (.int .i64), (.int .i64), (.int .i64), (.int .i64), (.int .i64), (.int .i64), (.int .i64), (.int .i64)] (.call k_Sees [(.var 0), (.var 1), (.var 2), (.var 3), (.var 4), (.var 5), (.var 6), (.var 7), (.var 8), (.var 9), (.var 10), (.var 11), (.var 12), (.var 13), (.var 14), (.var 15), (.var 16), (.var 17), (.var 18), (.var 19), (.var 20), (.var 21), (.var 22), (.var 23), (.var 24), (.var 25), (.var 26), (.var 27), (.var 28), (.var 29), (.var 30), (.var 31), (.var 32), (.var 33), (.var 34), (.var 35), (.var 36), (.var 37)] [(.list 49), (.list 3), (.list 3), (.list 3), (.list 3), (.list 3), (.list 3), (.list 3), (.list 3), (.list 3), (.list 3), (.list 3), (.int .i64), (.int .i64), (.int .i64), (.int .i64), (.int .i64), (.int .i64), (.int .i64), (.int .i64), (.int .i64), (.int .i64), (.int .i64), (.int .i64), (.int .i64), (.int .i64), (.int .i64), (.int .i64), (.int .i64), (.int .i64), (.int .i64), (.int .i64), (.int .i64), (.int .i64), (.int .i64), (.int .i64), (.int .i64), .err] (.call k_nStates [(.var 0), (.var 1), (.var 2), (.var 3), (.var 4), (.var 5), (.var 6), (.var 7), (.var 8), (.var 9), (.var 10), (.var 11), (.var 12), (.var 13), (.var 14), (.var 15), (.var 16), (.var 17), (.var 18), (.var 19), (.var 20), (.var 21), (.var 22), (.var 23), (.var 24), (.var 25), (.var 26), (.var 27), (.var 28), (.var 29), (.var 30), (.var 31), (.var 32), (.var 33), (.var 34), (.var 35), (.var 36), (.var 40), (.var 41), (.var 42), (.var 43), (.var 44), (.var 45), (.var 46), (.var 47), (.var 48), (.var 49), (.var 50), (.var 51), (.var 52), (.var 53), (.var 54), (.var 55), (.var 56), (.var 57), (.var 58), (.var 59), (.var 60), (.var 61), (.var 62), (.var 63), (.var 64), (.var 65), (.var 66), (.var 67), (.var 68), (.var 69), (.var 70), (.var 71), (.var 72), (.var 73), (.var 74), (.var 75), (.var 76)] [.bool] (.ite (.not (.var 115)) (.ret [(.bool false)]) (.call k_rCheck [(.var 0), (.var 1), (.var 2), (.var 3), (.var 4), (.var 5), (.var 6), (.var 7), (.var 8), (.var 9), (.var 10), (.var 11), (.var 12), (.var 13), (.var 14), (.var 15), (.var 16), (.var 17), (.var 18), (.var 19), (.var 20), (.var 21), (.var 22), (.var 23), (.var 24), (.var 25), (.var 26), (.var 27), (.var 28), (.var 29), (.var 30), (.var 31), (.var 32), (.var 33), (.var 34), (.var 35), (.var 36)] [(.int .i64)] (.ite (.cmp .ne (.var 116) (.int .i64 0)) (.call k_Num [(.var 114)] [(.int .i64)] (.ite (.cmp .eq (.var 117) (.var 116)) tr_lsees_1 (.ret [(.bool false)]))) (.ite (.and (.cmp .ne (.var 37) (.int .i64 0)) (.cmp .ne (.var 37) (.int .i64 1))) (.call k_Is [(.var 114), (.int .i64 1)] [.bool] (.ite (.var 117) tr_lsees_1 (.ret [(.bool false)]))) (.ite (.isnil (.var 114)) (.call k_rSees [(.var 0), (.var 1), (.var 2), (.var 3), (.var 4), (.var 5), (.var 6), (.var 7), (.var 8), (.var 9), (.var 10), (.var 11), (.var 12), (.var 13), (.var 14), (.var 15), (.var 16), (.var 17), (.var 18), (.var 19), (.var 20), (.var 21), (.var 22), (.var 23), (.var 24), (.var 25), (.var 26), (.var 27), (.var 28), (.var 29), (.var 30), (.var 31), (.var 32), (.var 33), (.var 34), (.var 35), (.var 36), (.var 37)] [(.list 49), (.list 3), (.list 3), (.list 3), (.list 3), (.list 3), (.list 3), (.list 3), (.list 3), (.list 3), (.list 3), (.list 3), (.int .i64), (.int .i64), (.int .i64), (.int .i64), (.int .i64), (.int .i64), (.int .i64), (.int .i64), (.int .i64), (.int .i64), (.int .i64), (.int .i64), (.int .i64), (.int .i64), (.int .i64), (.int .i64), (.int .i64), (.int .i64), (.int .i64), (.int .i64), (.int .i64), (.int .i64), (.int .i64), (.int .i64), (.int .i64)] (.call k_nStates [(.var 77), (.var 78), (.var 79), (.var 80), (.var 81), (.var 82), (.var 83), (.var 84), (.var 85), (.var 86), (.var 87), (.var 88), (.var 89), (.var 90), (.var 91), (.var 92), (.var 93), (.var 94), (.var 95), (.var 96), (.var 97), (.var 98), (.var 99), (.var 100), (.var 101), (.var 102), (.var 103), (.var 104), (.var 105), (.var 106), (.var 107), (.var 108), (.var 109), (.var 110), (.var 111), (.var 112), (.var 113), (.var 117), (.var 118), (.var 119), (.var 120), (.var 121), (.var 122), (.var 123), (.var 124), (.var 125), (.var 126), (.var 127), (.var 128), (.var 129), (.var 130), (.var 131), (.var 132), (.var 133), (.var 134), (.var 135), (.var 136), (.var 137), (.var 138), (.var 139), (.var 140), (.var 141), (.var 142), (.var 143), (.var 144), (.var 145), (.var 146), (.var 147), (.var 148), (.var 149), (.var 150), (.var 151), (.var 152), (.var 153)] [.bool] (.ret [(.var 154)]))) (.ret [(.bool false)])))))))))))))
theorem wk_lsees : walk E0.cx (sgsN [(5, sg_alive15), (6, sg_Long), (7, sg_nCopy), (8, sg_Sees), (9, sg_nStates), (10, sg_rCheck), (11, sg_Num), (12, sg_Is), (13, sg_rSees)]) 0 3 sg_lsees = tr_lsees := by kernel_rfl
theorem bo_lsees : ∃ x, bodyOf E0.P 3 = some x := bo_of (by kernel_rfl)
theorem sp_lsees_alive15 : specC [con_alive15, con_Long, con_nCopy, con_Sees, con_nStates, con_rCheck, con_Num, con_Is, con_rSees] k_alive15 = alive15_s := rfl
theorem sp_lsees_Long : specC [con_alive15, con_Long, con_nCopy, con_Sees, con_nStates, con_rCheck, con_Num, con_Is, con_rSees] k_Long = Long_s := rfl
theorem sp_lsees_nCopy : specC [con_alive15, con_Long, con_nCopy, con_Sees, con_nStates, con_rCheck, con_Num, con_Is, con_rSees] k_nCopy = nCopy_s := rfl
theorem sp_lsees_Sees : specC [con_alive15, con_Long, con_nCopy, con_Sees, con_nStates, con_rCheck, con_Num, con_Is, con_rSees] k_Sees = Sees_s := rfl
theorem sp_lsees_nStates : specC [con_alive15, con_Long, con_nCopy, con_Sees, con_nStates, con_rCheck, con_Num, con_Is, con_rSees] k_nStates = nStates_s := rfl
theorem sp_lsees_rCheck : specC [con_alive15, con_Long, con_nCopy, con_Sees, con_nStates, con_rCheck, con_Num, con_Is, con_rSees] k_rCheck = rCheck_s := rfl
theorem sp_lsees_Num : specC [con_alive15, con_Long, con_nCopy, con_Sees, con_nStates, con_rCheck, con_Num, con_Is, con_rSees] k_Num = Num_s := rfl
theorem sp_lsees_Is : specC [con_alive15, con_Long, con_nCopy, con_Sees, con_nStates, con_rCheck, con_Num, con_Is, con_rSees] k_Is = Is_s := rfl
theorem sp_lsees_rSees : specC [con_alive15, con_Long, con_nCopy, con_Sees, con_nStates, con_rCheck, con_Num, con_Is, con_rSees] k_rSees = rSees_s := rfl
theorem lsees1 {Φ : Nat → Spec} (s5 : Φ k_nStates = nStates_s) {Q : List Dat → Prop} {ρ : List Dat} (hl : ρ.length = 118) (hT : (ρ.drop 77).take 37 = stV) (h : Q [.bool true]) : wp E0.Δ Φ Q tr_lsees_1 ρ [] := by
  simp only [tr_lsees_1, wp, s5]
  change nStates_s (List.map (den E0.Δ ρ) (vs 77 37) ++ stV) _
  rw [map_vs (by omega), hT]
  refine nStates_mono rfl stV_sm stV_sm (SameR.refl _) ?_
  simp only [List.map_cons, List.map_nil, den_new hl]
  exact h
theorem lsees_h : Holds E0 k_lsees sg_lsees true_s := con_fn wf0 mix0 g0 [con_alive15, con_Long, con_nCopy, con_Sees, con_nStates, con_rCheck, con_Num, con_Is, con_rSees] rfl wk_lsees rfl (by
  intro Φ hΦ ds Q hs h
  have hl : ds.length = 38 := hs.length.symm
  have s1 : Φ k_alive15 = alive15_s := by rw [hΦ]; rfl
  have s2 : Φ k_Long = Long_s := by rw [hΦ]; rfl
  have s3 : Φ k_nCopy = nCopy_s := by rw [hΦ]; rfl
  have s4 : Φ k_Sees = Sees_s := by rw [hΦ]; rfl
  have s5 : Φ k_nStates = nStates_s := by rw [hΦ]; rfl
  have s6 : Φ k_rCheck = rCheck_s := by rw [hΦ]; rfl
  have s7 : Φ k_Num = Num_s := by rw [hΦ]; rfl
  have s8 : Φ k_Is = Is_s := by rw [hΦ]; rfl
  have s9 : Φ k_rSees = rSees_s := by rw [hΦ]; rfl
  clear hΦ
  have h : Q [.bool true] := h
  have hS : (ds.take 37).length = 37 := by rw [List.length_take, hl]; rfl
  simp only [tr_lsees, wp, allS, s1, s2, s3, s4, s5, s6, s7, s8, s9, alive15_s, true_s]
  -- alive
  obtain ⟨ρ, hρ⟩ : ∃ ρ, ρ = ds ++ [Dat.bool true] := ⟨_, rfl⟩
  have a1 : den E0.Δ ρ (.var 38) = .bool true := by rw [hρ]; exact den_new hl
  have l1 : ρ.length = 39 := by rw [hρ, List.length_append, hl]; rfl
  have g0 : (ρ.drop 0).take 37 = ds.take 37 := by rw [hρ]; exact seg_ext rfl (by omega)
  have g1 : (ρ.drop 0).take 38 = ds := by rw [hρ]; exact seg_ext (by rw [List.drop_zero, List.take_of_length_le (by omega)]) (by omega)
  have gp : den E0.Δ ρ (.var 37) = ds.getD 37 (.bool false) := by rw [hρ, den_ext (by omega)]; rfl
  rw [← hρ]
  clear hρ
  refine ⟨fun hx => ?_, fun _ => ?_⟩
  · rw [den_not, a1] at hx; exact Bool.noConfusion (Dat.bool.inj hx)
  change Long_s (List.map (den E0.Δ ρ) (vs 0 37 ++ [.int .i64 60])) _
  rw [List.map_append, map_vs (by omega), g0]
  have e60 : argI (ds.take 37 ++ List.map (den E0.Δ ρ) [.int .i64 60]) 37 = 60 := by rw [argI_tail (by omega), hS]; rfl
  refine ⟨by rw [e60]; decide, by rw [e60]; decide, fun b hb => ?_⟩
  rw [e60, longP_head (by omega)] at hb
  refine ⟨fun _ => h, fun hx => ?_⟩
  have hbf : b = false := by rw [den_new l1] at hx; exact Dat.bool.inj hx
  subst hbf
  have hsm : Sm (ds.take 37) := sm_of_long (fun hL => Bool.noConfusion (hb.2 hL)) (by decide)
  clear hx hb e60
  -- a copy
  obtain ⟨ρ1, hρ⟩ : ∃ ρ1, ρ1 = ρ ++ [Dat.bool false] := ⟨_, rfl⟩
  have l2 : ρ1.length = 40 := by rw [hρ, List.length_append, l1]; rfl
  replace g0 : (ρ1.drop 0).take 37 = ds.take 37 := by rw [hρ]; exact seg_ext g0 (by omega)
  replace g1 : (ρ1.drop 0).take 38 = ds := by rw [hρ]; exact seg_ext g1 (by omega)
  replace gp : den E0.Δ ρ1 (.var 37) = ds.getD 37 (.bool false) := by rw [hρ, den_ext (by omega)]; exact gp
  rw [← hρ]
  clear hρ a1
  change nCopy_s (List.map (den E0.Δ ρ1) (vs 0 37)) _
  rw [map_vs (by omega), g0]
  refine ⟨hsm, fun rs1 hr1 hC => ?_⟩
  obtain ⟨ρ2, hρ⟩ : ∃ ρ2, ρ2 = ρ1 ++ rs1 := ⟨_, rfl⟩
  have l3 : ρ2.length = 77 := by rw [hρ, List.length_append, l2, hr1]
  have gC : (ρ2.drop 40).take 37 = rs1 := by rw [hρ]; exact seg_new0 l2 hr1
  replace g0 : (ρ2.drop 0).take 37 = ds.take 37 := by rw [hρ]; exact seg_ext g0 (by omega)
  replace g1 : (ρ2.drop 0).take 38 = ds := by rw [hρ]; exact seg_ext g1 (by omega)
  replace gp : den E0.Δ ρ2 (.var 37) = ds.getD 37 (.bool false) := by rw [hρ, den_ext (by omega)]; exact gp
  rw [← hρ]
  clear hρ
  -- what is seen
  change Sees_s (List.map (den E0.Δ ρ2) (vs 0 38)) _
  rw [map_vs (by omega), g1]
  refine Sees_mono hsm fun T n n' hT hn hcase => ?_
  have hTs : Sm T := by
    rcases hcase with ⟨_, _, rfl⟩ | ⟨_, _, _, rfl⟩ | ⟨_, _, _, hR⟩
    · exact stV_sm
    · exact stV_sm
    · exact sees_sm hR (sm_take hsm)
  obtain ⟨ρ3, hρ⟩ : ∃ ρ3, ρ3 = ρ2 ++ (T ++ [errV n']) := ⟨_, rfl⟩
  have l4 : ρ3.length = 115 := by rw [hρ, List.length_append, l3, List.length_append, hT]; rfl
  have gT : (ρ3.drop 77).take 37 = T := by rw [hρ]; exact seg_new l3 hT
  have ge : den E0.Δ ρ3 (.var 114) = errV n' := by rw [hρ, ← List.append_assoc]; exact den_new (by rw [List.length_append, l3, hT])
  replace gC : (ρ3.drop 40).take 37 = rs1 := by rw [hρ]; exact seg_ext gC (by omega)
  replace g0 : (ρ3.drop 0).take 37 = ds.take 37 := by rw [hρ]; exact seg_ext g0 (by omega)
  replace g1 : (ρ3.drop 0).take 38 = ds := by rw [hρ]; exact seg_ext g1 (by omega)
  replace gp : den E0.Δ ρ3 (.var 37) = ds.getD 37 (.bool false) := by rw [hρ, den_ext (by omega)]; exact gp
  rw [← hρ]
  clear hρ
  -- nothing was changed
  change nStates_s (List.map (den E0.Δ ρ3) (vs 0 37 ++ vs 40 37)) _
  rw [List.map_append, map_vs (by omega), map_vs (by omega), g0, gC]
  refine nStates_mono hS hsm (copy_sm hC hsm) (copy_same hC) ?_
  obtain ⟨ρ4, hρ⟩ : ∃ ρ4, ρ4 = ρ3 ++ [Dat.bool true] := ⟨_, rfl⟩
  have a1 : den E0.Δ ρ4 (.var 115) = .bool true := by rw [hρ]; exact den_new l4
  have l5 : ρ4.length = 116 := by rw [hρ, List.length_append, l4]; rfl
  replace gT : (ρ4.drop 77).take 37 = T := by rw [hρ]; exact seg_ext gT (by omega)
  replace ge : den E0.Δ ρ4 (.var 114) = errV n' := by rw [hρ, den_ext (by omega)]; exact ge
  replace g0 : (ρ4.drop 0).take 37 = ds.take 37 := by rw [hρ]; exact seg_ext g0 (by omega)
  replace g1 : (ρ4.drop 0).take 38 = ds := by rw [hρ]; exact seg_ext g1 (by omega)
  replace gp : den E0.Δ ρ4 (.var 37) = ds.getD 37 (.bool false) := by rw [hρ, den_ext (by omega)]; exact gp
  rw [← hρ]
  clear hρ gC
  refine ⟨fun hx => ?_, fun _ => ?_⟩
  · rw [den_not, a1] at hx; exact Bool.noConfusion (Dat.bool.inj hx)
  change rCheck_s (List.map (den E0.Δ ρ4) (vs 0 37)) _
  rw [map_vs (by omega), g0]
  refine ⟨hsm, fun n2 hn2 => ?_⟩
  obtain rfl := errP_inj hn hn2
  obtain ⟨ρ5, hρ⟩ : ∃ ρ5, ρ5 = ρ4 ++ [Dat.int .i64 n] := ⟨_, rfl⟩
  have b1 : den E0.Δ ρ5 (.var 116) = .int .i64 n := by rw [hρ]; exact den_new l5
  have l6 : ρ5.length = 117 := by rw [hρ, List.length_append, l5]; rfl
  replace gT : (ρ5.drop 77).take 37 = T := by rw [hρ]; exact seg_ext gT (by omega)
  replace ge : den E0.Δ ρ5 (.var 114) = errV n' := by rw [hρ, den_ext (by omega)]; exact ge
  replace g1 : (ρ5.drop 0).take 38 = ds := by rw [hρ]; exact seg_ext g1 (by omega)
  replace gp : (den E0.Δ ρ5 (.var 37)).toInt = argI ds 37 := by rw [hρ, den_ext (by omega), gp]; exact argI_fold ds 37
  rw [← hρ]
  clear hρ
  simp only [den_cmp, den_and, den_isnil, b1, ge, gp, den_int, toInt_int, toBool_bool, of_ne, Dat.bool.injEq, bne_iff_ne, bne_eq_false_iff_eq, errV_nil]
  refine ⟨fun hne => ?_, fun heq => ⟨fun hpn => ?_, fun hpy => ?_⟩⟩
  · rcases hcase with ⟨h0, rfl, rfl⟩ | ⟨h0, _⟩ | ⟨h0, _⟩
    · refine ⟨n', by rw [List.map_cons, List.map_nil, ge], ?_⟩
      refine ⟨fun _ => lsees1 s5 (by rw [List.length_append, l6]; rfl) (seg_ext gT (by omega)) h, fun hx => ?_⟩
      rw [den_ext (k := 116) (by omega), b1, den_new l6] at hx
      simp [of_eq] at hx
    · exact absurd h0 hne
    · exact absurd h0 hne
  · rcases hcase with ⟨h0, _⟩ | ⟨h0, hp, rfl, rfl⟩ | ⟨h0, hp, _⟩
    · exact absurd heq h0
    · refine ⟨1, 1, by rw [List.map_cons, List.map_cons, List.map_nil, ge]; rfl, ?_⟩
      refine ⟨fun _ => lsees1 s5 (by rw [List.length_append, l6]; rfl) (seg_ext gT (by omega)) h, fun hx => ?_⟩
      rw [den_new l6] at hx
      simp at hx
    · simp at hpn; omega
  · rcases hcase with ⟨h0, _⟩ | ⟨h0, hp, rfl, rfl⟩ | ⟨h0, hp, rfl, hR⟩
    · exact absurd heq h0
    · simp at hpy; omega
    · refine ⟨fun _ => ?_, fun hx => ?_⟩
      · change rSees_s (List.map (den E0.Δ ρ5) (vs 0 38)) _
        rw [map_vs (by omega), g1]
        refine ⟨hsm, hp, fun rs hr hR2 => ?_⟩
        have l7 : (ρ5 ++ rs).length = 154 := by rw [List.length_append, l6, hr]
        change nStates_s (List.map (den E0.Δ (ρ5 ++ rs)) (vs 77 37 ++ vs 117 37)) _
        rw [List.map_append, map_vs (by omega), map_vs (by omega), seg_ext gT (by omega), seg_new0 l6 hr]
        refine nStates_mono hT hTs (sees_sm hR2 (sm_take hsm)) (sees_same hR hR2) ?_
        simp only [List.map_cons, List.map_nil, den_new l7]
        exact h
      · exact Bool.noConfusion hx)
end Go.Proofs.YtlgfnimahmmgeaaDoor
