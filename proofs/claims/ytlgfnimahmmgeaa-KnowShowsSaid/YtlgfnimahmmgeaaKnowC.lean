/-
  Contracts: whether one of many events gains.
-/
import Derived.Test.YtlgfnimahmmgeaaKnowB
import Derived.Test.YtlgfnimahmmgeaaKitSt
namespace Go.Proofs.Ytlgfnimahmmgeaa
open Go.RowKit
set_option linter.unusedVariables false

theorem at_elem {w wr : World} {ad : Addr} {n sz k : Nat} {l : List (Nat → Int)} (h : At w (some ad) n (rowsC sz l)) (hl : l.length = n) (hk : k < n) (hb : Below w.heap.size w wr) :
    ∀ j v, (ints sz (l[k]'(by omega)))[j]? = some v → wr.cell? ((ad.add (k * sz)).add j) = some v := fun j v hv => by
  obtain ⟨ad', e, hlt, hc⟩ := h (by omega)
  cases e
  have hj : j < sz := by have := (Array.getElem?_eq_some_iff.1 hv).1; rwa [ints_size] at this
  rw [ints_get _ hj] at hv
  cases hv
  rw [hb.cell (by rw [block_add, block_add]; exact hlt), add_add']
  exact hc _ _ (rowsC_get sz l k j (by omega) hj)

def anyG (l : List (Nat → Int)) : Bool := l.any gains
def RetIdx (w : World) (b : Bool) (e : Ending) (w' : World) : Prop := ∃ i : Int, e = .returned (.int .i64 i) ∧ -1 ≤ i ∧ i ≤ 9223372036854775807 ∧ decide (0 ≤ i) = b ∧ Below w.heap.size w w'
theorem anyG_all {l : List (Nat → Int)} {n : Nat} (hl : l.length = n) (h : ∀ j (hj : j < l.length), j < n → gains l[j] = false) : anyG l = false := by
  unfold anyG
  rw [List.any_eq_false]
  intro f hf
  obtain ⟨j, hj, rfl⟩ := List.getElem_of_mem hf
  rw [h j hj (by omega)]; exact Bool.false_ne_true
theorem anyG_at {l : List (Nat → Int)} {k : Nat} (hk : k < l.length) (h : gains l[k] = true) : anyG l = true := by
  unfold anyG
  rw [List.any_eq_true]
  exact ⟨l[k], List.getElem_mem _, h⟩

set_option maxHeartbeats 1000000 in
theorem IndexG_c (A : Option Addr) (n c : Nat) (l : List (Nat → Int)) (w : World) (ha : At w A n (rowsC 6 l)) (hl : l.length = n) (hn : (n : Int) ≤ 9223372036854775807) :
    Calls Try.prog 31 #[.slice A n c, .func (.func 7) #[] #[]] w (RetIdx w (anyG l)) := by
  have HA := Lib.hid ha
  have HL := Lib.hid hl
  clear ha hl
  go_enter Try.func31, Try.ntmps31
  go_wp2_with fail
  go_loopw [8] (fun iv wr => ∃ k : Nat, k ≤ n ∧ iv = .int .i64 k ∧ (∀ j (hj : j < l.length), j < k → gains l[j] = false) ∧ Below w.heap.size w wr) (fun iv _ => n - (intOf iv).toNat)
  case atStart => exact ⟨0, by omega, rfl, fun j _ h => absurd h (by omega), Below.refl _ _⟩
  case round =>
    obtain ⟨k, hk, rfl, hall, hbr⟩ := hrel
    have HALL := Lib.hid hall
    have HBR := Lib.hid hbr
    clear hall hbr
    by_cases hlt : k < n
    · have hkl : k < l.length := by have := HL.out; omega
      obtain ⟨ad, hA, _⟩ := HA.out (by omega)
      subst hA
      have HE := Lib.hid (at_elem HA.out HL.out hlt HBR.out)
      cases hg : gains l[k]
      · have HG := Lib.hid hg
        clear hg
        generalize hlk : l[k] = f at *
        have HLK := Lib.hid hlk
        clear hlk
        go_wp2_with (first
          | (refine wpList_load_cells rfl _ _ rfl (ad.add (k * 6)) rfl (ints 6 f) _ Try.underlying25 rfl (ev_size _) HE.out ?_)
          | (go_at_call 7; refine (Gains_c f _).mono ?_; rintro e w1 ⟨rfl, hb1⟩; rw [HG.out]; have HB1 := Lib.hid (HBR.out.trans (hb1.mono HBR.out.size)); clear hb1))
        go_roundw
        case rel =>
          refine ⟨k + 1, by omega, by go_num, fun j hj h => ?_, HB1.out⟩
          by_cases e : j = k
          · subst e; rw [HLK.out]; exact HG.out
          · exact HALL.out j hj (by omega)
        case measure => simp [intOf]; omega
      · have HG := Lib.hid hg
        have HT := Lib.hid (anyG_at hkl hg)
        clear hg
        generalize l[k] = f at *
        go_wp2_with (first
          | (refine wpList_load_cells rfl _ _ rfl (ad.add (k * 6)) rfl (ints 6 f) _ Try.underlying25 rfl (ev_size _) HE.out ?_)
          | (go_at_call 7; refine (Gains_c f _).mono ?_; rintro e w1 ⟨rfl, hb1⟩; rw [HG.out]; have HB1 := Lib.hid (HBR.out.trans (hb1.mono HBR.out.size)); clear hb1))
        go_ret
        exact ⟨k, rfl, by omega, by omega, by rw [HT.out]; simp, HB1.out⟩
    · obtain rfl : k = n := by omega
      have HF := Lib.hid (anyG_all HL.out HALL.out)
      go_wp2_with fail
      go_ret
      exact ⟨-1, rfl, by omega, by omega, by rw [HF.out]; rfl, HBR.out⟩
theorem ContainsG_c (A : Option Addr) (n c : Nat) (l : List (Nat → Int)) (w : World) (ha : At w A n (rowsC 6 l)) (hl : l.length = n) (hn : (n : Int) ≤ 9223372036854775807) :
    Calls Try.prog 24 #[.slice A n c, .func (.func 7) #[] #[]] w (Ret w (.bool (anyG l))) := by
  go_enter Try.func24, Try.ntmps24
  go_wp2_with (go_at_call 31; refine (IndexG_c A n c l _ ha hl hn).mono ?_; rintro e w1 ⟨i, rfl, i1, i2, hi, hb1⟩)
  go_ret
  first | exact ⟨ret_bool hi, hb1⟩ | exact ⟨rfl, hb1⟩
theorem Gained_c (A : Option Addr) (n c : Nat) (l : List (Nat → Int)) (w : World) (ha : At w A n (rowsC 6 l)) (hl : l.length = n) (hn : (n : Int) ≤ 9223372036854775807) :
    Calls Try.prog 10 #[.slice A n c] w (Ret w (.bool (anyG l))) := by
  go_enter Try.func10, Try.ntmps10
  go_wp2_with (go_at_call 24; refine (ContainsG_c A n c l _ ha hl hn).mono ?_; rintro e w1 ⟨rfl, hb1⟩)
  go_ret
  exact ⟨rfl, hb1⟩
end Go.Proofs.Ytlgfnimahmmgeaa
