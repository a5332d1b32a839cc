/-
  Contracts that many chapters share: an error's number, lists side by side, bytes side by side.
-/
import Derived.Test.YtpmkdbiejeedeaaDoorKitS
namespace Go.Proofs.YtpmkdbiejeedeaaDoor
open Go.RowKit
set_option linter.unusedVariables false

/-- an error as the program makes it: its number, or none -/
def errV (n : Int) : Value := if n = 0 then .nilIface else .iface 54 (.int .i64 n)
theorem errV_zero : errV 0 = .nilIface := rfl
theorem errV_ne {n : Int} (h : n ≠ 0) : errV n = .iface 54 (.int .i64 n) := by rw [errV, if_neg h]

theorem Num_nil (w : World) : Calls Tryd.prog 13 #[.nilIface] w fun e w' => e = .returned (.int .i64 0) ∧ w = w' := by
  go_enter Tryd.func13, Tryd.ntmps13
  go_wp2
  go_ret
  exact ⟨rfl, rfl⟩
theorem run_assert_errno (n : Int) (w : World) : (Instr.typeAssert (.iface 54 (.int .i64 n)) 33 54 true).run Tryd.prog w = .ok (.tuple #[.int .i64 n, .bool true]) w := by
  simp [Instr.typeAssert, run_underlying Tryd.underlying54]
theorem Num_err (n : Int) (hn : n ≠ 0) (w : World) : Calls Tryd.prog 13 #[.iface 54 (.int .i64 n)] w fun e w' => e = .returned (.int .i64 n) ∧ w = w' := by
  have h1 : ((n : Int) == 0) = false := by simpa using hn
  have h2 : ((n : Int) != 0) = true := by simpa using hn
  have ha := run_assert_errno n
  go_enter Tryd.func13, Tryd.ntmps13
  go_wp2
  go_ret
  exact ⟨rfl, rfl⟩
theorem Num_c (n : Int) (w : World) : Calls Tryd.prog 13 #[errV n] w fun e w' => e = .returned (.int .i64 n) ∧ w = w' := by
  unfold errV
  by_cases h : n = 0
  · subst h; exact Num_nil w
  · rw [if_neg h]; exact Num_err n h w

/-- an element, asked for in a later world, and in the worlds of a region that draws its order -/
theorem At.cell' {w wr : World} {A : Option Addr} {n k : Nat} {xs : List Value} {u : Value} (h : At w A n xs) (hk : k < n) (hu : xs[k]? = some u) (hb : Below w.heap.size w wr) :
    ∃ ad, A = some ad ∧ wr.cell? (ad.add k) = some u ∧ ∀ x : Later wr, (later wr x).cell? (ad.add k) = some u := by
  obtain ⟨ad, e, hlt, hc⟩ := h (by omega)
  have h1 : wr.cell? (ad.add k) = some u := by
    rw [hb.cell (p := ad.add k) (by rw [block_add]; exact hlt)]
    exact hc k _ hu
  refine ⟨ad, e, h1, fun x => ?_⟩
  rw [later_cell' (p := ad.add k) (by rw [block_add]; exact Nat.lt_of_lt_of_le hlt hb.size)]
  exact h1
theorem At.int' {w wr : World} {A : Option Addr} {n k : Nat} {l : List Int} (h : At w A n (i64s l)) (hl : l.length = n) (hk : k < n) (hb : Below w.heap.size w wr) :
    ∃ ad, A = some ad ∧ wr.cell? (ad.add k) = some (.int .i64 (l[k]'(by omega))) ∧ ∀ x : Later wr, (later wr x).cell? (ad.add k) = some (.int .i64 (l[k]'(by omega))) :=
  h.cell' hk (by simp only [i64s, List.getElem?_map]; rw [List.getElem?_eq_getElem (by omega)]; rfl) hb
theorem At.u8' {w wr : World} {A : Option Addr} {n k : Nat} {l : List Nat} (h : At w A n (u8s l)) (hl : l.length = n) (hk : k < n) (hb : Below w.heap.size w wr) :
    ∃ ad, A = some ad ∧ wr.cell? (ad.add k) = some (.int .u8 ((l[k]'(by omega) : Nat) : Int)) ∧ ∀ x : Later wr, (later wr x).cell? (ad.add k) = some (.int .u8 ((l[k]'(by omega) : Nat) : Int)) :=
  h.cell' hk (by simp only [u8s, List.getElem?_map]; rw [List.getElem?_eq_getElem (by omega)]; rfl) hb

theorem drop_ne {a b : List Int} {k : Nat} (hk : k < a.length) (hk' : k < b.length) (h : a[k] ≠ b[k]) : a ≠ b := by
  intro e; subst e; exact h rfl
theorem drop_all {a b : List Int} (hl : a.length = b.length) (h : ∀ j, (hj : j < a.length) → a[j] = b[j]'(by omega)) : a = b := by
  apply List.ext_getElem hl
  intro i h1 h2
  exact h i h1

end Go.Proofs.YtpmkdbiejeedeaaDoor
