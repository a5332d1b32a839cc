/-
  Contracts that many chapters share: an error's number, lists side by side, bytes side by side.
-/
import Derived.Test.YtlgfnimahmmgeaaKitS
namespace Go.Proofs.Ytlgfnimahmmgeaa
open Go.RowKit
set_option linter.unusedVariables false

/-- an element, asked for in a later world, and in the worlds of a region that draws its order -/
theorem At.cell' {w wr : World} {A : Option Addr} {n k : Nat} {xs : List Value} {u : Value} (h : At w A n xs) (hk : k < n) (hu : xs[k]? = some u) (hb : Below w.heap.size w wr) :
    ∃ ad, A = some ad ∧ wr.cell? (ad.add k) = some u ∧ ∀ x : Later wr, (later wr x).cell? (ad.add k) = some u := by
  obtain ⟨ad, e, hlt, hc⟩ := h (by omega)
  have h1 : wr.cell? (ad.add k) = some u := by
    rw [hb.cell (p := ad.add k) (by rw [block_add]; exact hlt)]
    exact hc k _ hu
  refine ⟨ad, e, h1, fun x => ?_⟩
  rw [later_cell' (p := ad.add k) (by rw [block_add]; exact Nat.lt_of_lt_of_le hlt hb.size)]
  exact h1
theorem At.int' {w wr : World} {A : Option Addr} {n k : Nat} {l : List Int} (h : At w A n (i64s l)) (hl : l.length = n) (hk : k < n) (hb : Below w.heap.size w wr) :
    ∃ ad, A = some ad ∧ wr.cell? (ad.add k) = some (.int .i64 (l[k]'(by omega))) ∧ ∀ x : Later wr, (later wr x).cell? (ad.add k) = some (.int .i64 (l[k]'(by omega))) :=
  h.cell' hk (by simp only [i64s, List.getElem?_map]; rw [List.getElem?_eq_getElem (by omega)]; rfl) hb
theorem At.u8' {w wr : World} {A : Option Addr} {n k : Nat} {l : List Nat} (h : At w A n (u8s l)) (hl : l.length = n) (hk : k < n) (hb : Below w.heap.size w wr) :
    ∃ ad, A = some ad ∧ wr.cell? (ad.add k) = some (.int .u8 ((l[k]'(by omega) : Nat) : Int)) ∧ ∀ x : Later wr, (later wr x).cell? (ad.add k) = some (.int .u8 ((l[k]'(by omega) : Nat) : Int)) :=
  h.cell' hk (by simp only [u8s, List.getElem?_map]; rw [List.getElem?_eq_getElem (by omega)]; rfl) hb

theorem drop_ne {a b : List Int} {k : Nat} (hk : k < a.length) (hk' : k < b.length) (h : a[k] ≠ b[k]) : a ≠ b := by
  intro e; subst e; exact h rfl
theorem drop_all {a b : List Int} (hl : a.length = b.length) (h : ∀ j, (hj : j < a.length) → a[j] = b[j]'(by omega)) : a = b := by
  apply List.ext_getElem hl
  intro i h1 h2
  exact h i h1

theorem Ints_c (A B : Option Addr) (n c n' c' : Nat) (a b : List Int) (w : World) (ha : At w A n (i64s a)) (hb : At w B n' (i64s b)) (hla : a.length = n) (hlb : b.length = n') (hc : n ≤ c) (hc' : n' ≤ c') (hn : n ≤ 9223372036854775807) (hn' : n' ≤ 9223372036854775807) :
    Calls Try.prog 14 #[.slice A n c, .slice B n' c'] w (Ret w (.bool (decide (a = b)))) := by
  by_cases hl : n = n'
  · subst hl
    have HA := Lib.hid ha
    have HB := Lib.hid hb
    have HLA := Lib.hid hla
    have HLB := Lib.hid hlb
    clear ha hb hla hlb
    go_enter Try.func14, Try.ntmps14
    go_wp2_with fail
    go_loopw [13] (fun iv wr => ∃ k : Nat, k ≤ n ∧ iv = .int .i64 k ∧ (∀ j (h1 : j < a.length) (h2 : j < b.length), j < k → a[j] = b[j]) ∧ Below w.heap.size w wr) (fun iv _ => n - (intOf iv).toNat)
    case atStart => exact ⟨0, by omega, rfl, fun j h1 h2 h3 => absurd h3 (by omega), Below.refl _ _⟩
    case round =>
      obtain ⟨k, hk, rfl, hall, hbr⟩ := hrel
      have HALL := Lib.hid hall
      have HBR := Lib.hid hbr
      clear hall hbr
      by_cases hlt : k < n
      · obtain ⟨ad, rfl, _, hcell⟩ := HA.out.int' HLA.out hlt HBR.out
        obtain ⟨bd, rfl, _, hcell'⟩ := HB.out.int' HLB.out hlt HBR.out
        have hk1 : k < a.length := by have := HLA.out; omega
        have hk2 : k < b.length := by have := HLB.out; omega
        by_cases he : a[k] = b[k]
        · have e1 : (a[k] != b[k]) = false := by simpa using he
          have HE := Lib.hid he
          clear he
          go_wp2_with fail
          refine wp_region_later (by kernel_rfl) (by kernel_rfl) ?_
          repeat (go_big_quiet_step (fail))
          refine wpQuiet_nil ?_
          intro w2 hb2
          go_wp2_with fail
          go_roundw
          case rel =>
            refine ⟨k + 1, by omega, by go_num, fun j h1 h2 h3 => ?_, HBR.out.trans (hb2.mono HBR.out.size)⟩
            by_cases hj : j = k
            · subst hj; exact HE.out
            · exact HALL.out j h1 h2 (by omega)
          case measure => simp [intOf]; omega
        · have e1 : (a[k] != b[k]) = true := by simpa using he
          have hne : a ≠ b := drop_ne hk1 hk2 he
          clear he
          go_wp2_with fail
          refine wp_region_later (by kernel_rfl) (by kernel_rfl) ?_
          repeat (go_big_quiet_step (fail))
          refine wpQuiet_nil ?_
          intro w2 hb2
          go_wp2_with fail
          go_ret
          exact ⟨ret_bool (by simp [hne]), HBR.out.trans (hb2.mono HBR.out.size)⟩
      · obtain rfl : k = n := by omega
        have heq : a = b := drop_all (by rw [HLA.out, HLB.out]) (fun j hj => HALL.out j hj (by have := HLA.out; have := HLB.out; omega) (by have := HLA.out; omega))
        clear HALL
        go_wp2_with fail
        go_ret
        exact ⟨ret_bool (by simp [heq]), HBR.out⟩
  · have hne : a ≠ b := by intro e; subst e; omega
    clear ha hb
    go_enter Try.func14, Try.ntmps14
    go_wp2_with fail
    go_ret
    exact ⟨ret_bool (by simp [hne]), Below.refl _ _⟩
end Go.Proofs.Ytlgfnimahmmgeaa
