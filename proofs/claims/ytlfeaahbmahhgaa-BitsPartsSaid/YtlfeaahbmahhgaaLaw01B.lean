/-
  BitsParts: for any bits, place, width and part the law answers true.
-/
import Derived.Test.YtlfeaahbmahhgaaBitsC
import Derived.Test.YtlfeaahbmahhgaaLaw01A
namespace Go.Proofs.Ytlfeaahbmahhgaa
open Go.RowKit
set_option linter.unusedVariables false

theorem BitsParts_c (x p m wd : Int) (h1 : 0 ≤ x) (h2 : x ≤ 18446744073709551615) (h3 : 0 ≤ p) (h4 : p ≤ 18446744073709551615) (w : World) :
    Calls Try.prog 4 #[.agg #[.int .u64 x, .int .u64 p, .int .i64 m, .int .i64 wd]] w (Ret w (.bool true)) := by
  go_enter Try.func4, Try.ntmps4
  go_wp2_with (first
    | (go_at_call 6; refine (alive_c _).mono ?_; rintro e w' ⟨rfl, rfl⟩)
    | (go_at_call 10; refine (Put_c _ _ _ _ h1 h2 h3 h4 _).mono ?_; rintro e w' ⟨rfl, rfl⟩)
    | (go_at_call 11; refine (Put_ref _ _ _ _ h1 h2 h3 h4 _).mono ?_; rintro e w1 ⟨rfl, hb1⟩))
  have c0 : w1.cell? ⟨w.heap.size, 0, none⟩ = some (.int .u64 x) := (hb1.cell (p := ⟨w.heap.size, 0, none⟩) (by simp)).trans (by simp)
  have c1 : w1.cell? ⟨w.heap.size, 1, none⟩ = some (.int .u64 p) := (hb1.cell (p := ⟨w.heap.size, 1, none⟩) (by simp)).trans (by simp)
  have c2 : w1.cell? ⟨w.heap.size, 2, none⟩ = some (.int .i64 m) := (hb1.cell (p := ⟨w.heap.size, 2, none⟩) (by simp)).trans (by simp)
  have c3 : w1.cell? ⟨w.heap.size, 3, none⟩ = some (.int .i64 wd) := (hb1.cell (p := ⟨w.heap.size, 3, none⟩) (by simp)).trans (by simp)
  have hsz : w.heap.size < w1.heap.size := by have := hb1.size; simp at this; omega
  have hbw : Below w.heap.size w w1 := ((Below.refl _ _).alloc (Nat.le_refl _) _).trans (hb1.mono (by simp))
  clear hb1
  refine wp_region_later (by kernel_rfl) (by kernel_rfl) ?_
  repeat (go_big_quiet_step ((first
    | (go_at_call 12; exact calls_later_same (Num_c _ _))
    | (go_at_call 13; exact calls_later_same (Part_c _ _ _ h1 h2 _))
    | (go_at_call 14; exact calls_later (Part_ref _ _ _ h1 h2 _))
    | (go_at_call 15; exact calls_later_same (Span_c _ _ _))
    | (go_at_call 16; exact calls_later (Span_ref _ _ _)))))
  refine wpQuiet_nil ?_
  intro w2 hb2
  go_wp2
  go_ret
  exact ⟨rfl, hbw.trans (hb2.mono (by omega))⟩
end Go.Proofs.Ytlfeaahbmahhgaa
