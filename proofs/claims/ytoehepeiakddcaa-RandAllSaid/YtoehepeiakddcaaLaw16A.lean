/-
  RandOrders: for any draws, cursor and number the law answers true.
-/
import Derived.Test.YtoehepeiakddcaaRandC
namespace Go.Proofs.Ytoehepeiakddcaa
open Go.RowKit
set_option linter.unusedVariables false

theorem Ints_own {v1 v2 : Value} {n n' : Nat} {a b : List Int} {w : World} (ha : Rd w 1 v1 n (i64s a)) (hb : Rd w 1 v2 n' (i64s b)) (hn : (n : Int) ≤ 9223372036854775807) (hn' : (n' : Int) ≤ 9223372036854775807) :
    Calls Try.prog 10 #[v1, v2] w (Ret w (.bool (decide (a = b)))) := by
  obtain ⟨A, c, rfl, hc, hl, h⟩ := ha
  obtain ⟨A', c', rfl, hc', hl', h'⟩ := hb
  rw [i64s_len] at hl hl'
  exact Ints_c A A' n c n' c' a b w h h' (by omega) (by omega) hc hc' (by omega) (by omega)

theorem at_lit (w : World) (T : TypeId) (l : List Int) : At (w.alloc (.cells (i64s l).toArray T)) (some ⟨w.heap.size, 0, none⟩) l.length (i64s l) := fun hn => by
  refine ⟨_, rfl, by simp, fun j u hu => ?_⟩
  rw [Addr.add_lit, Nat.zero_add]
  have h := World.cell?_alloc_new (w := w) (i64s l).toArray T j
  rw [h]; simpa using hu
theorem rd_lit (w : World) (T : TypeId) (l : List Int) : Rd (w.alloc (.cells (i64s l).toArray T)) 1 (.slice (some ⟨w.heap.size, 0, none⟩) l.length l.length) l.length (i64s l) :=
  ⟨_, _, rfl, Nat.le_refl _, by rw [i64s_len]; omega, at_lit w T l⟩

theorem ex_ord : mth.ordL [1, 0] 0 3 = [2, 0, 1] ∧ mth.ordC [1, 0] 0 3 = 2 ∧ mth.ordErr 2 0 3 = 0 := by decide +kernel
set_option maxRecDepth 100000 in
theorem alive_c (w : World) : Calls Try.prog 7 #[] w (Ret w (.bool true)) := by
  go_enter Try.func7, Try.ntmps7
  go_wp2_with fail
  refine (Order_c _ 2 2 [1, 0] 0 3 _ (at_lit w 3 [1, 0]) rfl (by intro x hx; simp at hx; omega) (by omega) (by omega) (by omega) (by omega) (by omega)).mono ?_
  rintro e w1 ⟨v1, rfl, hs1, hb1⟩
  obtain ⟨x1, x2, x3⟩ := ex_ord
  simp only [x1, List.length_cons, List.length_nil] at hs1
  rw [show mth.ordErr ([1, 0] : List Int).length 0 3 = 0 from x3, x2, errV_zero]
  have HS1 := Lib.hid hs1
  have HB1 := Lib.hid ((((Below.refl w.heap.size w).alloc (Nat.le_refl _) _).trans (hb1.mono (by simp))))
  clear hs1 hb1 x1 x2 x3
  go_wp2_with (go_at_call 10; refine (Ints_own (HS1.out.rd.below ((Below.refl _ _).alloc (Nat.le_refl _) _)) (rd_lit w1 3 [2, 0, 1]) (by omega) (by simp)).mono ?_; rintro e w2 ⟨rfl, hb2⟩)
  go_ret
  exact ⟨ret_bool (by decide), (HB1.out.alloc HB1.out.size _).trans (hb2.mono (by have := HB1.out.size; simp; omega))⟩

/-- the fixed fact stands ahead of each law: what was there stays -/
theorem At.keep {w w' : World} {A : Option Addr} {n : Nat} {xs : List Value} (h : At w A n xs) (hb : Below w.heap.size w w') : At w' A n xs := h.mono hb.size fun p hp => hb.cell hp

set_option maxRecDepth 100000 in
set_option maxHeartbeats 1000000 in
theorem RandOrders_c (A : Option Addr) (n cp : Nat) (l : List Int) (c m : Int) (w : World) (ha : At w A n (i64s l)) (hl : l.length = n) (hok : Ok64 l) (hcap : n ≤ cp)
    (c1 : -9223372036854775808 ≤ c) (c2 : c ≤ 9223372036854775807) (m1 : -9223372036854775808 ≤ m) (m2 : m ≤ 9223372036854775807) :
    Calls Try.prog 3 #[.slice A n cp, .int .i64 c, .int .i64 m] w (Ret w (.bool true)) := by
  obtain ⟨i0, hi, hz0, hz1, hz2⟩ := info_parts i64_info
  have HA := Lib.hid ha
  have HL := Lib.hid hl
  have HO := Lib.hid hok
  have HR : Hid (Rd w 1 (.slice A n cp) n (i64s l)) := Lib.hid ⟨A, cp, rfl, hcap, by rw [i64s_len]; omega, ha⟩
  clear ha hl hok
  by_cases hn : (5000 : Int) < (n : Int)
  · go_enter Try.func3, Try.ntmps3
    go_wp2_with (go_at_call 7; refine (alive_c _).mono ?_; rintro e w1 ⟨rfl, hb1⟩)
    go_ret
    exact ⟨rfl, hb1⟩
  obtain ⟨E, hE⟩ : ∃ E, mth.ordErr l.length c m = E := ⟨_, rfl⟩
  have HLEN : Hid (((mth.ordL l c m).length : Int) ≤ 400) := Lib.hid (by
    rcases mth.ord_cases l c m with ⟨_, _, h, _⟩ | ⟨_, _, _, h, _⟩ | ⟨_, _, _, _, h, _⟩ | ⟨_, h0, _, _, h, _⟩
    · rw [h]; simp
    · rw [h]; simp
    · rw [h]; simp
    · rw [h, mth.shuf_len, mth.iota_len]; omega)
  have HEE := Lib.hid hE
  clear hE
  go_enter Try.func3, Try.ntmps3
  go_wp2_with (first
    | (go_at_call 7; refine (alive_c _).mono ?_; rintro e w1 ⟨rfl, hb1⟩; have HB1 := Lib.hid hb1; clear hb1)
    | (at_builtin; refine wpList_append_ow rfl (.tmp 19) (.tmp 20) _ rfl 3 i0 _ 8 Try.underlying22 hi hz0 hz1 hz2 rfl (Ow.empty w1 3 w.heap.size 1) (HR.out.below ((HB1.out.alloc HB1.out.size _).mono (Nat.le_refl _))) (i64s_one _) (by simp only [maxLen]; omega) (by omega) (by have := HB1.out.size; simp; omega) ?_; intro own w2 hap; have HAP := Lib.hid hap; clear hap; have HB2 := Lib.hid ((HB1.out.alloc HB1.out.size (.cells #[] 3)).trans HAP.out.below))
    | (go_at_call 8; refine (Order_c A n cp l c m _ (HA.out.keep HB2.out) HL.out HO.out (by omega) c1 c2 m1 m2).mono ?_; rintro e w3 ⟨v3, rfl, hs3, hb3⟩; rw [HEE.out]; have HS3 := Lib.hid hs3; have HB3 := Lib.hid hb3; have HB3' := Lib.hid (HB2.out.trans (hb3.mono HB2.out.size)); clear hs3 hb3)
    | (go_at_call 9; refine (refOrder_c A n cp l c m _ (HA.out.keep HB3'.out) HL.out HO.out (by omega) c1 c2 m1 m2).mono ?_; rintro e w4 ⟨v4, rfl, hs4, hb4⟩; rw [HEE.out]; simp only [intV]; have HS4 := Lib.hid hs4; have HB4 := Lib.hid hb4; have HB4' := Lib.hid (HB3'.out.trans (hb4.mono HB3'.out.size)); clear hs4 hb4))
  refine (Ints_own (HS3.out.rd.below (HB4.out.mono (Nat.le_refl _))) HS4.out.rd (by have := HLEN.out; omega) (by have := HLEN.out; omega)).mono ?_
  rintro e w5 ⟨rfl, hb5⟩
  rw [decide_eq_true (rfl : mth.ordL l c m = mth.ordL l c m)]
  have HB5 := Lib.hid (HB4'.out.trans (hb5.mono HB4'.out.size))
  have hOWN : Rd w5 1 own n (i64s l) := by
    have h := HAP.out.ow.rd
    rw [Nat.zero_add, List.nil_append] at h
    exact h.below ((HB3.out.trans (HB4.out.mono HB3.out.size)).trans (hb5.mono (Nat.le_trans HB3.out.size HB4.out.size)))
  have HOWN := Lib.hid hOWN
  clear hb5 hOWN
  go_wp2_with (first
    | (go_at_call 11; refine (Num_c E _).mono ?_; rintro e w' ⟨rfl, rfl⟩)
    | (go_at_call 10; refine (Ints_own (HR.out.below HB5.out) HOWN.out (by omega) (by omega)).mono ?_; rintro e w6 ⟨rfl, hb6⟩; rw [decide_eq_true (rfl : l = l)]))
  go_ret
  exact ⟨rfl, HB5.out.trans (hb6.mono HB5.out.size)⟩
end Go.Proofs.Ytoehepeiakddcaa
