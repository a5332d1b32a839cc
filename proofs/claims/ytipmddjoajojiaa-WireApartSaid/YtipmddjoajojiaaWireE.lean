/-
  Contracts: a list taken from bytes.
-/
import Derived.Test.YtipmddjoajojiaaWireD
namespace Go.Proofs.Ytipmddjoajojiaa
open Go.RowKit
set_option linter.unusedVariables false

theorem i64_info : (Try.prog.info? 3).map (fun i => (i.zero, i.size, i.bytes)) = some (some (.int .i64 0), 1, 8) := by kernel_rfl

theorem Take_ok {A : Option Addr} {n c : Nat} {l : List Nat} {w : World} {V : Int} {K : Nat} (ht : mth.tk 0 0 l = (V, K, 0)) (ha : At w A n (u8s l)) (hl : l.length = n) (hb : ∀ x ∈ l, x < 256) (hc : n ≤ c) (hn : n ≤ 65536) :
    Calls Try.prog 14 #[.slice A n c] w fun e w' => ∃ v, e = .returned (.tuple #[.int .i64 V, v, .nilIface]) ∧ Below w.heap.size w w' ∧ Sl w' w.heap.size 1 v (n - K) (u8s (l.drop K)) ∧ Fresh w.heap.size v := by
  have hT := Take_c A n c l w ha hl hb hc hn
  unfold RetTake at hT
  rw [ht] at hT
  refine hT.mono ?_
  rintro e w' ⟨v, rfl, hb1, ⟨_, hs⟩ | ⟨h0, _⟩⟩
  · exact ⟨v, by rw [errV_zero], hb1, hs⟩
  · exact absurd rfl h0
theorem Take_bad {A : Option Addr} {n c : Nat} {l : List Nat} {w : World} {V : Int} {K : Nat} {E : Int} (ht : mth.tk 0 0 l = (V, K, E)) (hE : E ≠ 0) (ha : At w A n (u8s l)) (hl : l.length = n) (hb : ∀ x ∈ l, x < 256) (hc : n ≤ c) (hn : n ≤ 65536) :
    Calls Try.prog 14 #[.slice A n c] w fun e w' => e = .returned (.tuple #[.int .i64 V, .slice none 0 0, .iface 51 (.int .i64 E)]) ∧ Below w.heap.size w w' := by
  have hT := Take_c A n c l w ha hl hb hc hn
  unfold RetTake at hT
  rw [ht] at hT
  refine hT.mono ?_
  rintro e w' ⟨v, rfl, hb1, ⟨h0, hs⟩ | ⟨_, rfl⟩⟩
  · exact absurd h0 hE
  · exact ⟨by rw [errV_ne hE], hb1⟩

/-- what TakeList hands back -/
def RetL (w : World) (t : List Int × List Nat × Int) (e : Ending) (w' : World) : Prop :=
  ∃ v r, e = .returned (.tuple #[v, r, errV t.2.2]) ∧ Sl w' w.heap.size 1 v t.1.length (i64s t.1) ∧ Sl w' w.heap.size 1 r t.2.1.length (u8s t.2.1) ∧ Below w.heap.size w w'

theorem retL_bad {w w' : World} {t : List Int × List Nat × Int} {E : Int} (ht : t = ([], [], E)) (hE : E ≠ 0) (hb : Below w.heap.size w w') :
    RetL w t (.returned (.tuple #[.slice none 0 0, .slice none 0 0, .iface 51 (.int .i64 E)])) w' := by
  subst ht
  exact ⟨_, _, by rw [errV_ne hE], Sl.nil _ _ _, Sl.nil _ _ _, hb⟩

set_option maxHeartbeats 2000000 in
theorem TakeList_c (A : Option Addr) (n c : Nat) (l : List Nat) (many : Int) (w : World) (ha : At w A n (u8s l)) (hl : l.length = n) (hb : ∀ x ∈ l, x < 256) (hc : n ≤ c) (hn : n ≤ 65536) :
    Calls Try.prog 17 #[.slice A n c, .int .i64 many] w (RetL w (mth.tkL l many)) := by
  obtain ⟨i0, hi, hz0, hz1, hz2⟩ := info_parts i64_info
  obtain ⟨V, K, E, ht⟩ : ∃ V K E, mth.tk 0 0 l = (V, K, E) := ⟨_, _, _, rfl⟩
  have HN := Lib.hid hn
  have HL := Lib.hid hl
  by_cases hE : E = 0
  · subst hE
    have HT := Lib.hid (Take_ok ht ha hl hb hc hn)
    have HC := Lib.hid (mth.tk_canon l V K hb ht)
    have HB := Lib.hid hb
    clear ha hb hl hn
    go_enter Try.func17, Try.ntmps17
    go_wp2_with fail
    refine HT.out.mono ?_
    rintro e w1 ⟨v1, rfl, hb1, hs1, _⟩
    have HS1 := Lib.hid hs1
    clear hs1
    by_cases hneg : V < 0
    · have HR : Hid (mth.tkL l many = ([], [], 1)) := Lib.hid (by simp [mth.tkL, ht, hneg])
      go_wp2_with fail
      go_ret3
      exact retL_bad HR.out (by decide) hb1
    by_cases hmany : many < V
    · have HR : Hid (mth.tkL l many = ([], [], 19)) := Lib.hid (by simp [mth.tkL, ht, hneg, hmany])
      go_wp2_with fail
      go_ret3
      exact retL_bad HR.out (by decide) hb1
    have HV : Hid (V ≤ 9223372036854775807) := Lib.hid HC.out.2.2.2.2
    obtain ⟨N, rfl⟩ : ∃ N : Nat, V = (N : Int) := ⟨V.toNat, by omega⟩
    have HR : Hid (mth.tkL l many = mth.tkN N (l.drop K)) := Lib.hid (by simp only [mth.tkL, ht, if_true]; rw [if_neg hneg, if_neg hmany]; rfl)
    have HK : Hid (n - K ≤ n) := Lib.hid (by omega)
    go_wp2_with fail
    go_loopw [8, 10, 34] (fun rv ov iv wr => ∃ (j : Nat) (o : List Int) (r : List Nat), j ≤ N ∧ iv = .int .i64 j ∧ o.length = j ∧ j + r.length ≤ n ∧ (∀ x ∈ r, x < 256) ∧
      mth.tkN N (l.drop K) = mth.pre o (mth.tkN (N - j) r) ∧ Sl wr w.heap.size 1 ov j (i64s o) ∧ Sl wr w.heap.size 1 rv r.length (u8s r) ∧ Below w.heap.size w wr) (fun _ _ iv _ => N - (intOf iv).toNat)
    case atStart =>
      refine ⟨0, [], l.drop K, by omega, rfl, rfl, by simp; have := HL.out; omega, fun x hx => HB.out x (List.mem_of_mem_drop hx), mth.pre_start _ _, Sl.nil _ _ _, ?_, hb1⟩
      have := HS1.out
      rw [List.length_drop, HL.out]
      exact this
    case round =>
      obtain ⟨j, o, r, hj, rfl, ho, hjr, hrb, heq, hso, hsr, hbr⟩ := hrel
      have HO := Lib.hid ho
      have HRB := Lib.hid hrb
      have HEQ := Lib.hid heq
      have HSO := Lib.hid hso
      have HSR := Lib.hid hsr
      have HBR := Lib.hid hbr
      have HJ := Lib.hid hjr
      clear ho hrb heq hso hsr hbr hjr
      by_cases hlt : j < N
      · obtain ⟨M, hM⟩ : ∃ M, N - j = M + 1 := ⟨N - j - 1, by omega⟩
        have HM := Lib.hid hM
        clear hM
        obtain ⟨V', K', E', ht'⟩ : ∃ V K E, mth.tk 0 0 r = (V, K, E) := ⟨_, _, _, rfl⟩
        obtain ⟨A', c', rfl, hc', _, ha', _⟩ := HSR.out
        have hsw := HBR.out.size
        have HRL : Hid (r.length ≤ 65536) := Lib.hid (by have := HN.out; have := HJ.out; omega)
        have HAT := Lib.hid ha'
        clear ha'
        by_cases hE' : E' = 0
        · subst hE'
          have HT' := Lib.hid (Take_ok ht' HAT.out rfl HRB.out hc' HRL.out)
          have HC' := Lib.hid (mth.tk_canon r V' K' HRB.out ht')
          have HP := Lib.hid (mth.pre_step (o := o) (m := M) ht')
          have hNV := HV.out
          have HLEN : Hid (r.length - K' = (r.drop K').length) := Lib.hid (by simp)
          go_wp2_with (first
            | (go_at_call 14; refine HT'.out.mono ?_; rintro e w2 ⟨v2, rfl, hb2, hs2, hf2⟩)
            | (at_builtin; (refine wpList_append_sl rfl (.tmp 45) (.tmp 47) _ rfl 3 i0 _ 8 Try.underlying23 hi hz0 hz1 hz2 rfl (HSO.out.below (hb2.alloc hb2.size _)) news_one (by intro u hu; simp at hu; subst hu; rfl) (by have := HJ.out; have := HN.out; simp only [maxLen]; omega) (by have := HJ.out; have := HN.out; omega) (by have := hb2.size; simp; omega) ?_; intro ov' w3 hs3 hb3 hg3)))
          go_roundw
          case rel =>
            have hb4 := (HBR.out.trans ((hb2.alloc hb2.size _).mono hsw)).trans hb3
            refine ⟨j + 1, o ++ [V'], r.drop K', by omega, by go_num, by simp [HO.out], ?_, fun x hx => HRB.out x (List.mem_of_mem_drop hx), ?_, ?_, ?_, hb4⟩
            · have := HC'.out.2.1
              have := HJ.out
              have := HC'.out.2.2.1
              simp only [List.length_drop]
              omega
            · rw [HEQ.out, HM.out, HP.out, show N - (j + 1) = M by have := HM.out; omega]
            · rw [i64s_append]; exact hs3
            · rw [← HLEN.out]
              exact ((hs2.below ((Below.refl _ _).alloc (Nat.le_refl _) _)).grown hf2 hg3 HSO.out.ownOf_lt).weak hsw
          case measure => simp [intOf]; omega
        · have HT' := Lib.hid (Take_bad ht' hE' HAT.out rfl HRB.out hc' HRL.out)
          have HR2 : Hid (mth.tkL l many = ([], [], E')) := Lib.hid (by rw [HR.out, HEQ.out, HM.out, mth.pre_bad ht' hE'])
          go_wp2_with (go_at_call 14; refine HT'.out.mono ?_; rintro e w2 ⟨rfl, hb2⟩)
          go_ret3
          exact retL_bad HR2.out hE' (HBR.out.trans (hb2.mono hsw))
      · have HR2 : Hid (mth.tkL l many = (o, r, 0)) := Lib.hid (by rw [HR.out, HEQ.out, show N - j = 0 by omega, mth.pre_end])
        go_wp2_with fail
        go_ret3
        refine ⟨_, _, by rw [HR2.out]; rfl, ?_, ?_, HBR.out⟩
        · rw [HR2.out]; have := HO.out; subst this; exact HSO.out
        · rw [HR2.out]; exact HSR.out
  · have HT := Lib.hid (Take_bad ht hE ha hl hb hc hn)
    have HR : Hid (mth.tkL l many = ([], [], E)) := Lib.hid (by simp [mth.tkL, ht, hE])
    clear ha hb hl hn
    go_enter Try.func17, Try.ntmps17
    go_wp2_with (go_at_call 14; refine HT.out.mono ?_; rintro e w2 ⟨rfl, hb2⟩)
    go_ret3
    exact retL_bad HR.out hE hb2
end Go.Proofs.Ytipmddjoajojiaa
