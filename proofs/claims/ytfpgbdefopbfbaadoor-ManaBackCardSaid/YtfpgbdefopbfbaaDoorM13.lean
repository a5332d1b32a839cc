import Derived.Test.YtfpgbdefopbfbaaDoorM12

set_option linter.unusedVariables false
set_option linter.unusedSimpArgs false

section
namespace Go.Proofs.YtfpgbdefopbfbaaDoor
open Go.RowKit
set_option linter.unusedVariables false
set_option linter.unusedSimpArgs false

theorem dec_len4 {n : Nat} (h : n ≤ 1000) : (Lib.decDigits n).length ≤ 4 := by
  have d1 : ∀ m, m < 10 → (Lib.decDigits m).length ≤ 1 := fun m hm => by rw [Lib.decDigits, dif_pos hm]; exact Nat.le_refl _
  have d2 : ∀ m, m < 100 → (Lib.decDigits m).length ≤ 2 := fun m hm => by
    rw [Lib.decDigits]
    split
    · show 1 ≤ 2; omega
    · rw [List.length_append]
      have := d1 (m / 10) (by omega)
      show _ + 1 ≤ 2; omega
  have d3 : ∀ m, m < 1000 → (Lib.decDigits m).length ≤ 3 := fun m hm => by
    rw [Lib.decDigits]
    split
    · show 1 ≤ 3; omega
    · rw [List.length_append]
      have := d2 (m / 10) (by omega)
      show _ + 1 ≤ 3; omega
  rw [Lib.decDigits]
  split
  · show 1 ≤ 4; omega
  · rw [List.length_append]
    have := d3 (n / 10) (by omega)
    show _ + 1 ≤ 4; omega
theorem text_back {n0 n1 n2 n3 n4 n5 : Nat} (h : textN (costD n0 n1 n2 n3 n4 n5) = 0) : refOk (textL (costD n0 n1 n2 n3 n4 n5)) ∧ refC (textL (costD n0 n1 n2 n3 n4 n5)) = costD n0 n1 n2 n3 n4 n5 ∧ (textL (costD n0 n1 n2 n3 n4 n5)).length ≤ 300 := by
  have hb := textN0.1 h
  have hdd : ∀ c ∈ (if 0 < n5 ∨ n0 + n1 + n2 + n3 + n4 = 0 then Lib.decDigits n5 else []), 48 ≤ c.toNat ∧ c.toNat ≤ 57 := by
    split
    · exact dec_all n5
    · intro c hc; cases hc
  obtain ⟨e1, e2⟩ := fig_of hdd (fun c hc => (low_nodig (seg_low (n0 := n0) (n1 := n1) (n2 := n2) (n3 := n3) (n4 := n4) c hc)).1)
  rw [← textL0 h] at e1 e2
  have hn : numF (figL (textL (costD n0 n1 n2 n3 n4 n5))) = n5 := by
    rw [e1]
    split
    · rw [num_val _ (dec_all n5) (by rw [dec_val]; omega), dec_val]
    · show (0 : Int) = n5
      omega
  obtain ⟨r1, r2⟩ := text_ref hn h rfl
  refine ⟨r1, r2, ?_⟩
  rw [textL0 h, List.length_append, seg_len2]
  have h4 := dec_len4 (n := n5) (by omega)
  split
  · omega
  · rw [List.length_nil]; omega
/-- a cost that has a text is what the text tells -/
theorem cost_back {a0 a1 a2 a3 a4 a5 : Int} (h : textN (costD a0 a1 a2 a3 a4 a5) = 0) : refOk (textL (costD a0 a1 a2 a3 a4 a5)) ∧ refC (textL (costD a0 a1 a2 a3 a4 a5)) = costD a0 a1 a2 a3 a4 a5 ∧ (textL (costD a0 a1 a2 a3 a4 a5)).length ≤ 300 ∧ goodC (costD a0 a1 a2 a3 a4 a5) = true := by
  have hg : goodC (costD a0 a1 a2 a3 a4 a5) = true := by
    cases hg : goodC (costD a0 a1 a2 a3 a4 a5) with
    | true => rfl
    | false => rw [(textN_bad hg).1] at h; exact absurd h (by decide)
  have gd := goodC_t.1 hg
  obtain ⟨n0, rfl⟩ := Int.eq_ofNat_of_zero_le (show 0 ≤ a0 from (gd 0 (by omega)).1)
  obtain ⟨n1, rfl⟩ := Int.eq_ofNat_of_zero_le (show 0 ≤ a1 from (gd 1 (by omega)).1)
  obtain ⟨n2, rfl⟩ := Int.eq_ofNat_of_zero_le (show 0 ≤ a2 from (gd 2 (by omega)).1)
  obtain ⟨n3, rfl⟩ := Int.eq_ofNat_of_zero_le (show 0 ≤ a3 from (gd 3 (by omega)).1)
  obtain ⟨n4, rfl⟩ := Int.eq_ofNat_of_zero_le (show 0 ≤ a4 from (gd 4 (by omega)).1)
  obtain ⟨n5, rfl⟩ := Int.eq_ofNat_of_zero_le (show 0 ≤ a5 from (gd 5 (by omega)).1)
  obtain ⟨h1, h2, h3⟩ := text_back h
  exact ⟨h1, h2, h3, hg⟩
theorem cost_str {ds : List Dat} (h : All2 (Has E0.Δ) [.int .i64, .int .i64, .int .i64, .int .i64, .int .i64, .int .i64, .str] ds) : ∃ a0 a1 a2 a3 a4 a5 l, ds = costD a0 a1 a2 a3 a4 a5 ++ [strV l] := by
  match ds, h with
  | [d0, d1, d2, d3, d4, d5, d6], .cons h0 (.cons h1 (.cons h2 (.cons h3 (.cons h4 (.cons h5 h6))))) =>
    cases h0; cases h1; cases h2; cases h3; cases h4; cases h5
    obtain ⟨l, hl⟩ := str_one h6
    obtain rfl : d6 = strV l := (List.cons.inj hl).1
    exact ⟨_, _, _, _, _, _, l, rfl⟩
def k_lback04 : Nat := 6
def sg_lback04 : Sig := ⟨[(true, List.replicate 6 (.int .i64)), (false, [.str])], [(false, [.bool])], false, false, true, false, false⟩
def tr_lback04 : Tree := (.call k_alive04 [] [.bool]
(.ite (.not (.var 7))
 (.ret [(.bool false)])
 (.ite (.cmp .gt (.slen (.var 6)) (.int .i64 300))
  (.ret [(.bool true)])
  (.call k_mText [(.var 0), (.var 1), (.var 2), (.var 3), (.var 4), (.var 5)] [.str, .err]
  (.ite (.isnil (.var 9))
   (.call k_mParse [(.var 8)] [(.int .i64), (.int .i64), (.int .i64), (.int .i64), (.int .i64), (.int .i64), .err]
   (.ite (.or (.not (.isnil (.var 16))) (.not (.and (.cmp .eq (.var 10) (.var 0)) (.and (.cmp .eq (.var 11) (.var 1)) (.and (.cmp .eq (.var 12) (.var 2)) (.and (.cmp .eq (.var 13) (.var 3)) (.and (.cmp .eq (.var 14) (.var 4)) (.cmp .eq (.var 15) (.var 5)))))))))
    (.ret [(.bool false)])
    (.call k_mParse [(.var 6)] [(.int .i64), (.int .i64), (.int .i64), (.int .i64), (.int .i64), (.int .i64), .err]
    (.ite (.not (.isnil (.var 23)))
     (.ret [(.and (.cmp .eq (.var 17) (.int .i64 0)) (.and (.cmp .eq (.var 18) (.int .i64 0)) (.and (.cmp .eq (.var 19) (.int .i64 0)) (.and (.cmp .eq (.var 20) (.int .i64 0)) (.and (.cmp .eq (.var 21) (.int .i64 0)) (.cmp .eq (.var 22) (.int .i64 0)))))))])
     (.call k_mText [(.var 17), (.var 18), (.var 19), (.var 20), (.var 21), (.var 22)] [.str, .err]
     (.ite (.isnil (.var 25))
      (.ite (.seq (.var 24) (.var 6))
       (.call k_mGood [(.var 17), (.var 18), (.var 19), (.var 20), (.var 21), (.var 22)] [.bool]
       (.ret [(.var 26)]))
       (.ret [(.bool false)]))
      (.ret [(.bool false)])))))))
   (.call k_mParse [(.var 6)] [(.int .i64), (.int .i64), (.int .i64), (.int .i64), (.int .i64), (.int .i64), .err]
   (.ite (.not (.isnil (.var 16)))
    (.ret [(.and (.cmp .eq (.var 10) (.int .i64 0)) (.and (.cmp .eq (.var 11) (.int .i64 0)) (.and (.cmp .eq (.var 12) (.int .i64 0)) (.and (.cmp .eq (.var 13) (.int .i64 0)) (.and (.cmp .eq (.var 14) (.int .i64 0)) (.cmp .eq (.var 15) (.int .i64 0)))))))])
    (.call k_mText [(.var 10), (.var 11), (.var 12), (.var 13), (.var 14), (.var 15)] [.str, .err]
    (.ite (.isnil (.var 18))
     (.ite (.seq (.var 17) (.var 6))
      (.call k_mGood [(.var 10), (.var 11), (.var 12), (.var 13), (.var 14), (.var 15)] [.bool]
      (.ret [(.var 19)]))
      (.ret [(.bool false)]))
     (.ret [(.bool false)]))))))))))
theorem wk_lback04 : walk E0.cx (sgsN [(7, sg_alive04), (17, sg_mParse), (8, sg_mText), (13, sg_mGood)]) 0 6 sg_lback04 = tr_lback04 := by kernel_rfl
theorem bo_lback04 : ∃ x, bodyOf E0.P 6 = some x := bo_of (by kernel_rfl)
theorem sp_lback04_alive04 : specC [con_alive04, con_mParse, con_mText, con_mGood] k_alive04 = alive04_s := rfl
theorem sp_lback04_mParse : specC [con_alive04, con_mParse, con_mText, con_mGood] k_mParse = mParse_s := rfl
theorem sp_lback04_mText : specC [con_alive04, con_mParse, con_mText, con_mGood] k_mText = mText_s := rfl
theorem sp_lback04_mGood : specC [con_alive04, con_mParse, con_mText, con_mGood] k_mGood = mGood_s := rfl
def lback04_s : Spec := law_s
theorem lback04_h : Holds E0 k_lback04 sg_lback04 lback04_s := con_fn wf0 mix0 g0 [con_alive04, con_mParse, con_mText, con_mGood] rfl wk_lback04 rfl (by
  intro Φ hΦ ds Q hs ⟨hin, h⟩
  have s1 : Φ k_alive04 = alive04_s := by rw [hΦ]; rfl
  have s2 : Φ k_mParse = mParse_s := by rw [hΦ]; rfl
  have s3 : Φ k_mText = mText_s := by rw [hΦ]; rfl
  have s4 : Φ k_mGood = mGood_s := by rw [hΦ]; rfl
  clear hΦ hin
  obtain ⟨a0, a1, a2, a3, a4, a5, l, rfl⟩ := cost_str hs
  show Φ k_alive04 [] _
  rw [s1]
  refine ⟨fun hx => Bool.noConfusion (Dat.bool.inj hx), fun _ => ⟨fun _ => h, fun hx => ?_⟩⟩
  have hx : decide ((300 : Int) < ((strD (strV l)).size : Int)) = false := Dat.bool.inj hx
  rw [size_V] at hx
  have hx := of_decide_eq_false hx
  have hl : l.length ≤ 300 := by omega
  show Φ k_mText (costD a0 a1 a2 a3 a4 a5) _
  rw [s3]
  refine ⟨fun hn => ?_, fun hn => ?_⟩
  · have hn : isNilI (errV (textN (costD a0 a1 a2 a3 a4 a5))) = true := Dat.bool.inj hn
    rw [errV_isNil] at hn
    obtain ⟨r1, r2, r3, _⟩ := cost_back (of_decide_eq_true hn)
    show Φ k_mParse [strV (textL (costD a0 a1 a2 a3 a4 a5))] _
    rw [s2]
    refine ⟨_, rfl, r3, ?_⟩
    rw [(par_ok r1).1, (par_ok r1).2, r2]
    refine ⟨fun hx => ?_, fun _ => ?_⟩
    · have hx : (!(isNilI (errV 0)) || !((a0 == a0) && ((a1 == a1) && ((a2 == a2) && ((a3 == a3) && ((a4 == a4) && (a5 == a5))))))) = true := Dat.bool.inj hx
      simp only [beq_self_eq_true, Bool.and_self] at hx
      exact absurd hx (by decide)
    · show Φ k_mParse [strV l] _
      rw [s2]
      refine ⟨l, rfl, hl, ?_⟩
      by_cases hr : refOk l
      · obtain ⟨t1, t2, _⟩ := ref_text hr
        rw [(par_ok hr).1, (par_ok hr).2]
        obtain ⟨b0, b1, b2, b3, b4, b5, hb⟩ : ∃ b0 b1 b2 b3 b4 b5 : Int, refC l = costD b0 b1 b2 b3 b4 b5 := ⟨_, _, _, _, _, _, rfl⟩
        rw [hb] at t1 t2 ⊢
        obtain ⟨_, _, _, q4⟩ := cost_back t1
        refine ⟨fun hx => ?_, fun _ => ?_⟩
        · have hx : (!(isNilI (errV 0))) = true := Dat.bool.inj hx
          exact absurd hx (by decide)
        · show Φ k_mText (costD b0 b1 b2 b3 b4 b5) _
          rw [s3]
          simp only [mText_s]
          rw [t1, t2]
          refine ⟨fun _ => ⟨fun _ => ?_, fun hx => ?_⟩, fun hx => ?_⟩
          · show Φ k_mGood (costD b0 b1 b2 b3 b4 b5) _
            rw [s4]
            show Q [Dat.bool (goodC (costD b0 b1 b2 b3 b4 b5))]
            rw [q4]; exact h
          · have hx : ((strD (strV l)).toList == (strD (strV l)).toList) = false := Dat.bool.inj hx
            rw [beq_self_eq_true] at hx; cases hx
          · have hx : isNilI (errV 0) = false := Dat.bool.inj hx
            exact absurd hx (by decide)
      · rw [(par_bad hr).1, (par_bad hr).2]
        refine ⟨fun _ => h, fun hx => ?_⟩
        have hx : (!(isNilI (errV 2))) = false := Dat.bool.inj hx
        exact absurd hx (by decide)
  · show Φ k_mParse [strV l] _
    rw [s2]
    refine ⟨l, rfl, hl, ?_⟩
    by_cases hr : refOk l
    · obtain ⟨t1, t2, _⟩ := ref_text hr
      rw [(par_ok hr).1, (par_ok hr).2]
      obtain ⟨b0, b1, b2, b3, b4, b5, hb⟩ : ∃ b0 b1 b2 b3 b4 b5 : Int, refC l = costD b0 b1 b2 b3 b4 b5 := ⟨_, _, _, _, _, _, rfl⟩
      rw [hb] at t1 t2 ⊢
      obtain ⟨_, _, _, q4⟩ := cost_back t1
      refine ⟨fun hx => ?_, fun _ => ?_⟩
      · have hx : (!(isNilI (errV 0))) = true := Dat.bool.inj hx
        exact absurd hx (by decide)
      · show Φ k_mText (costD b0 b1 b2 b3 b4 b5) _
        rw [s3]
        simp only [mText_s]
        rw [t1, t2]
        refine ⟨fun _ => ⟨fun _ => ?_, fun hx => ?_⟩, fun hx => ?_⟩
        · show Φ k_mGood (costD b0 b1 b2 b3 b4 b5) _
          rw [s4]
          show Q [Dat.bool (goodC (costD b0 b1 b2 b3 b4 b5))]
          rw [q4]; exact h
        · have hx : ((strD (strV l)).toList == (strD (strV l)).toList) = false := Dat.bool.inj hx
          rw [beq_self_eq_true] at hx; cases hx
        · have hx : isNilI (errV 0) = false := Dat.bool.inj hx
          exact absurd hx (by decide)
    · rw [(par_bad hr).1, (par_bad hr).2]
      refine ⟨fun _ => h, fun hx => ?_⟩
      have hx : (!(isNilI (errV 2))) = false := Dat.bool.inj hx
      exact absurd hx (by decide))
noncomputable def con_lback04 : Con E0 := ⟨k_lback04, sg_lback04, lback04_s, rfl, bo_lback04, lback04_h⟩
end Go.Proofs.YtfpgbdefopbfbaaDoor
end
