/-
  Objects: rows of eighteen numbers.
-/
import Derived.Test.YtlgfnimahmmgeaaKitI
namespace Go.Proofs.Ytlgfnimahmmgeaa
open Go.RowKit
set_option linter.unusedVariables false

theorem obj_size : (Try.prog.info? 39).map (·.size) = some 18 := by kernel_rfl
theorem int_size1 : (Try.prog.info? 3).map (·.size) = some 1 := by kernel_rfl
theorem obj_zeroV : (Try.prog.info? 39).map (fun i => i.zero) = some (some (.agg (ints 18 fun _ => 0))) := by kernel_rfl
theorem obj_isz (f : Nat → Int) : (Try.prog.info? 39).map (·.size) = some (ints 18 f).size := by rw [ints_size]; exact obj_size
def zeros18 : Array Value := #[.int .i64 0, .int .i64 0, .int .i64 0, .int .i64 0, .int .i64 0, .int .i64 0, .int .i64 0, .int .i64 0, .int .i64 0, .int .i64 0, .int .i64 0, .int .i64 0, .int .i64 0, .int .i64 0, .int .i64 0, .int .i64 0, .int .i64 0, .int .i64 0]
theorem zeros_eq : zeros18 = ints 18 fun _ => 0 := by rfl
theorem zeros_isz : (Try.prog.info? 39).map (·.size) = some zeros18.size := by kernel_rfl
theorem same_obj (f : Nat → Int) (W : World) : (binOp .eql 39 (.agg (ints 18 f)) (.agg (ints 18 f))).run Try.prog W = .ok (.bool true) W := by
  have := run_eql_arr W 18 39 3 .i64 f f Try.underlying39 Try.underlying3 int_size1
  rw [sameTo_iff, decide_eq_true (fun i _ => rfl)] at this
  exact this

theorem differ_obj (f : Nat → Int) (W : World) : (binOp .neq 39 (.agg (ints 18 f)) (.agg (ints 18 f))).run Try.prog W = .ok (.bool false) W := by
  have := run_neq_arr W 18 39 3 .i64 f f Try.underlying39 Try.underlying3 int_size1
  rw [sameTo_iff, decide_eq_true (fun i _ => rfl)] at this
  exact this
end Go.Proofs.Ytlgfnimahmmgeaa
