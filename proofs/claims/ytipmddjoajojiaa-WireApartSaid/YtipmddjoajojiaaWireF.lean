/-
  Contracts: a list taken from bytes, as the document tells it.
-/
import Derived.Test.YtipmddjoajojiaaWireE
namespace Go.Proofs.Ytipmddjoajojiaa
open Go.RowKit
set_option linter.unusedVariables false

theorem TakeRef_k {A : Option Addr} {n c : Nat} {l : List Nat} {w : World} {V : Int} {K : Nat} {E : Int} (ht : mth.tk 0 0 l = (V, K, E)) (ha : At w A n (u8s l)) (hl : l.length = n) (hb : ∀ x ∈ l, x < 256) (hc : n ≤ c) (hn : n ≤ 65536) :
    Calls Try.prog 15 #[.slice A n c] w (Ret w (.tuple #[.int .i64 V, .int .i64 K, .int .i64 E])) := by
  have hT := TakeRef_c A n c l w ha hl hb hc hn
  rw [ht] at hT
  exact hT

theorem at_drop {w : World} {ad : Addr} {n p : Nat} {xs : List Value} (h : At w (some ad) n xs) : At w (some (ad.add p)) (n - p) (xs.drop p) := fun hp => by
  obtain ⟨ad', e, hb, hcell⟩ := h (by omega)
  cases e
  refine ⟨_, rfl, by rw [block_add]; exact hb, fun i u hu => ?_⟩
  rw [List.getElem?_drop] at hu
  rw [add_add']
  exact hcell (p + i) u hu

/-- what the document's TakeList hands back -/
def RetLR (w : World) (n : Nat) (l : List Nat) (t : List Int × List Nat × Int) (e : Ending) (w' : World) : Prop :=
  ∃ (v : Value) (at_ : Nat), e = .returned (.tuple #[v, .int .i64 at_, .int .i64 t.2.2]) ∧ Sl w' w.heap.size 1 v t.1.length (i64s t.1) ∧ Below w.heap.size w w' ∧ (t.2.2 = 0 → l.drop at_ = t.2.1 ∧ at_ ≤ n ∧ 1 ≤ at_)

theorem retLR_bad {w w' : World} {n : Nat} {l : List Nat} {t : List Int × List Nat × Int} {E : Int} (ht : t = ([], [], E)) (hE : E ≠ 0) (hb : Below w.heap.size w w') :
    RetLR w n l t (.returned (.tuple #[.slice none 0 0, .int .i64 0, .int .i64 E])) w' := by
  subst ht
  exact ⟨_, 0, rfl, Sl.nil _ _ _, hb, fun h => absurd h hE⟩

set_option maxHeartbeats 2000000 in
theorem TakeListRef_c (A : Option Addr) (n c : Nat) (l : List Nat) (many : Int) (w : World) (ha : At w A n (u8s l)) (hl : l.length = n) (hb : ∀ x ∈ l, x < 256) (hc : n ≤ c) (hn : n ≤ 65536) :
    Calls Try.prog 18 #[.slice A n c, .int .i64 many] w (RetLR w n l (mth.tkL l many)) := by
  obtain ⟨i0, hi, hz0, hz1, hz2⟩ := info_parts i64_info
  obtain ⟨V, K, E, ht⟩ : ∃ V K E, mth.tk 0 0 l = (V, K, E) := ⟨_, _, _, rfl⟩
  have HN := Lib.hid hn
  have HL := Lib.hid hl
  have HT := Lib.hid (TakeRef_k ht ha hl hb hc hn)
  by_cases hE : E = 0
  · subst hE
    have HC := Lib.hid (mth.tk_canon l V K hb ht)
    have HB := Lib.hid hb
    have HA := Lib.hid ha
    clear ha hb hl hn
    go_enter Try.func18, Try.ntmps18
    go_wp2_with fail
    refine HT.out.mono ?_
    rintro e w1 ⟨rfl, hb1⟩
    by_cases hneg : V < 0
    · have HR : Hid (mth.tkL l many = ([], [], 1)) := Lib.hid (by simp [mth.tkL, ht, hneg])
      go_wp2_with fail
      go_ret3
      exact retLR_bad HR.out (by decide) hb1
    by_cases hmany : many < V
    · have HR : Hid (mth.tkL l many = ([], [], 19)) := Lib.hid (by simp [mth.tkL, ht, hneg, hmany])
      go_wp2_with fail
      go_ret3
      exact retLR_bad HR.out (by decide) hb1
    have hV : V ≤ 9223372036854775807 := HC.out.2.2.2.2
    obtain ⟨N, rfl⟩ : ∃ N : Nat, V = (N : Int) := ⟨V.toNat, by omega⟩
    have HR : Hid (mth.tkL l many = mth.tkN N (l.drop K)) := Lib.hid (by simp only [mth.tkL, ht, if_true]; rw [if_neg hneg, if_neg hmany]; rfl)
    go_wp2_with fail
    go_loopw [8, 10, 11] (fun av ov iv wr => ∃ (j at_ : Nat) (o : List Int), j ≤ N ∧ iv = .int .i64 j ∧ av = .int .i64 at_ ∧ o.length = j ∧ j ≤ at_ ∧ 1 ≤ at_ ∧ at_ ≤ n ∧
      mth.tkN N (l.drop K) = mth.pre o (mth.tkN (N - j) (l.drop at_)) ∧ Sl wr w.heap.size 1 ov j (i64s o) ∧ Below w.heap.size w wr) (fun _ _ iv _ => N - (intOf iv).toNat)
    case atStart =>
      have := HC.out.2.1
      have := HC.out.2.2.1
      have := HL.out
      exact ⟨0, K, [], by omega, rfl, rfl, rfl, by omega, by omega, by omega, mth.pre_start _ _, sl_empty _ _ _ _, hb1.alloc hb1.size _⟩
    case round =>
      obtain ⟨j, p, o, hj, rfl, rfl, ho, hjp, hp1, hpn, heq, hso, hbr⟩ := hrel
      have HO := Lib.hid ho
      have HEQ := Lib.hid heq
      have HSO := Lib.hid hso
      have HBR := Lib.hid hbr
      clear ho heq hso hbr
      by_cases hlt : j < N
      · obtain ⟨M, hM⟩ : ∃ M, N - j = M + 1 := ⟨N - j - 1, by omega⟩
        have HM := Lib.hid hM
        clear hM
        obtain ⟨ad, rfl, _⟩ := HA.out (by omega)
        have ha' : At wr (some (ad.add p)) (n - p) (u8s (l.drop p)) := by
          have h := (at_drop (p := p) HA.out).mono HBR.out.size (fun q hq => HBR.out.cell hq)
          rwa [show (u8s l).drop p = u8s (l.drop p) from by simp [u8s]] at h
        have HRB : Hid (∀ x ∈ l.drop p, x < 256) := Lib.hid (fun x hx => HB.out x (List.mem_of_mem_drop hx))
        obtain ⟨V', K', E', ht'⟩ : ∃ V K E, mth.tk 0 0 (l.drop p) = (V, K, E) := ⟨_, _, _, rfl⟩
        have hsw := HBR.out.size
        have HT' := Lib.hid (TakeRef_k ht' ha' (by rw [List.length_drop, HL.out]) HRB.out (c := c - p) (by omega) (by have := HN.out; omega))
        clear ha'
        by_cases hE' : E' = 0
        · subst hE'
          have HC' := Lib.hid (mth.tk_canon _ V' K' HRB.out ht')
          have HP := Lib.hid (mth.pre_step (o := o) (m := M) ht')
          have hK' : K' ≤ n - p := by have := HC'.out.2.2.1; rw [List.length_drop, HL.out] at this; exact this
          have hK1 : 1 ≤ K' := HC'.out.2.1
          have hn63 : (n : Int) ≤ 65536 := by have := HN.out; omega
          go_wp2_with (first
            | (go_at_call 15; refine HT'.out.mono ?_; rintro e w2 ⟨rfl, hb2⟩)
            | (at_builtin; refine wpList_append_sl rfl (.tmp 46) (.tmp 48) _ rfl 3 i0 _ 8 Try.underlying23 hi hz0 hz1 hz2 rfl (HSO.out.below (hb2.alloc hb2.size _)) news_one (by intro u hu; simp at hu; subst hu; rfl) (by have := HN.out; simp only [maxLen]; omega) (by have := HN.out; omega) (by have := hb2.size; simp; omega) ?_; intro ov' w3 hs3 hb3 _))
          go_roundw
          case rel =>
            have hb4 := (HBR.out.trans ((hb2.alloc hb2.size _).mono hsw)).trans hb3
            refine ⟨j + 1, p + K', o ++ [V'], by omega, by go_num, by go_num, by simp [HO.out], by omega, by omega, by omega, ?_, ?_, hb4⟩
            · rw [HEQ.out, HM.out, HP.out, show N - (j + 1) = M by have := HM.out; omega, List.drop_drop]
            · rw [i64s_append]; exact hs3
          case measure => simp [intOf]; omega
        · have HR2 : Hid (mth.tkL l many = ([], [], E')) := Lib.hid (by rw [HR.out, HEQ.out, HM.out, mth.pre_bad ht' hE'])
          have e1 : (E' != 0) = true := by simpa using hE'
          go_wp2_with fail
          · have HT1 := Lib.hid (TakeRef_k (A := some ad) (n := n - p) (c := 0) (w := wr) ht' (fun hp => absurd hp (by omega)) (by rw [List.length_drop, HL.out]) HRB.out (by omega) (by have := HN.out; omega))
            refine HT1.out.mono ?_
            rintro e w2 ⟨rfl, hb2⟩
            go_wp2_with fail
            go_ret3
            exact retLR_bad HR2.out hE' (HBR.out.trans (hb2.mono hsw))
          · refine HT'.out.mono ?_
            rintro e w2 ⟨rfl, hb2⟩
            go_wp2_with fail
            go_ret3
            exact retLR_bad HR2.out hE' (HBR.out.trans (hb2.mono hsw))
      · have HR2 : Hid (mth.tkL l many = (o, l.drop p, 0)) := Lib.hid (by rw [HR.out, HEQ.out, show N - j = 0 by omega, mth.pre_end])
        go_wp2_with fail
        go_ret3
        refine ⟨_, p, by rw [HR2.out]; rfl, ?_, HBR.out, fun _ => ⟨by rw [HR2.out], hpn, hp1⟩⟩
        rw [HR2.out]; have := HO.out; subst this; exact HSO.out
  · have HR : Hid (mth.tkL l many = ([], [], E)) := Lib.hid (by simp [mth.tkL, ht, hE])
    have e1 : (E != 0) = true := by simpa using hE
    clear ha hb hl hn
    go_enter Try.func18, Try.ntmps18
    go_wp2_with (go_at_call 15; refine HT.out.mono ?_; rintro e w2 ⟨rfl, hb2⟩)
    go_ret3
    exact retLR_bad HR.out hE hb2
end Go.Proofs.Ytipmddjoajojiaa
