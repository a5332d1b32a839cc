/-
  The program's types as sorts.
-/
import Derived.Test.YtonjilfbcofoaaaDoorSymN
namespace Go.Proofs.YtonjilfbcofoaaaDoor
open Go.RowKit
set_option linter.unusedVariables false
def tab : Tab := [(50, List.replicate 18 (.int .i64)), (3, [.int .i64]), (81, List.replicate 7 (.int .i64) ++ [.bool] ++ List.replicate 5 (.int .i64) ++ [.list 79]), (4, [.bool]), (79, List.replicate 4 (.int .i64) ++ [.list 79]), (23, [.list 3]), (61, [.int .i64, .int .i64] ++ [.bool] ++ List.replicate 9 (.int .i64) ++ [.list 81])]
def gts : List (Nat × List (Tm × Srt) × Nat) := [(2, [(.int .i64 (-1073741824), .int .i64), (.int .i64 1073741824, .int .i64)], 67), (1, [(.int .i64 0, .int .i64), (.int .i64 1, .int .i64)], 67), (0, [(.int .i64 4, .int .i64), (.int .i64 5, .int .i64), (.int .i64 6, .int .i64), (.int .i64 7, .int .i64), (.int .i64 8, .int .i64), (.int .i64 9, .int .i64), (.int .i64 10, .int .i64), (.int .i64 11, .int .i64), (.int .i64 12, .int .i64)], 25)]
noncomputable def E0 : Env := ⟨Tryd.prog, tab, gts, [], fun _ => False⟩
theorem g0 : E0.γ = [] := rfl
theorem wf0 : E0.Wf := wf_lit (by kernel_rfl)
theorem mix0 : E0.P.follows .mixedOrders = true := by kernel_rfl
end Go.Proofs.YtonjilfbcofoaaaDoor
