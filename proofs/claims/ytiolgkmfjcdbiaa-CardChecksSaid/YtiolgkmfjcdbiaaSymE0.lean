/-
  The program's types as sorts.
-/
import Derived.Test.YtiolgkmfjcdbiaaSymN
namespace Go.Proofs.Ytiolgkmfjcdbiaa
open Go.RowKit
set_option linter.unusedVariables false
def tab : Tab := [(38, List.replicate 7 (.int .i64) ++ [.bool] ++ List.replicate 5 (.int .i64) ++ [.list 36]), (36, List.replicate 4 (.int .i64) ++ [.list 36]), (3, [.int .i64])]
def gts : List (Nat × List (Tm × Srt) × Nat) := []
noncomputable def E0 : Env := ⟨Try.prog, tab, gts, [], fun _ => False⟩
theorem g0 : E0.γ = [] := rfl
theorem wf0 : E0.Wf := wf_lit (by kernel_rfl)
theorem mix0 : E0.P.follows .mixedOrders = true := by kernel_rfl
end Go.Proofs.Ytiolgkmfjcdbiaa
