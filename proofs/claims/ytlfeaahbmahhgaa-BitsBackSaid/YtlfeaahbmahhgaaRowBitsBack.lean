/-
  For any bits, part, place and width, BitsBack answers true: the row of the statement, proved; no condition.
-/
import Derived.Test.YtlfeaahbmahhgaaKitR
import Derived.Lib.SmallJoins
import Derived.Test.YtlfeaahbmahhgaaLaw01C
namespace Go.Proofs.Ytlfeaahbmahhgaa.bitsBack
open Go.ChangeShapes Go.WideShapes Go.ChangeAt Go.RowKit
set_option linter.unusedVariables false

theorem own : ownKnob Try.prog.godebug = none := by kernel_rfl
theorem laidOut : laidOutB Try.prog = true := by kernel_rfl
theorem params_ok : ∀ t ∈ Try.f5.params.toList, Try.prog.readableRec t = true ∧ t < Try.prog.types.size := by
  have h : Try.f5.params.toList.all (fun t => Try.prog.readableRec t && decide (t < Try.prog.types.size)) = true := by kernel_rfl
  intro t ht
  have := List.all_eq_true.1 h t ht
  simpa using this

set_option maxRecDepth 100000 in
theorem lifted (os : Os) (started : os.Started) (H : Type) (enc : TypeId × Value → H) :
    ReturnsInHanded {} Try.checked os 5 .any (Rows.bitsBackSpec.pre6 enc Try.prog Try.f5 Rows.bitsBackRow.domain false) (Rows.bitsBackSpec.post enc Try.prog Try.f5 false true false false) := by
  refine returnsInHanded_of_change (C := Try.checked) own started (by kernel_rfl) Try.func5
    (ChangeSpec.witness6 (enc := enc) (C := Try.checked) false ⟨#[], #[.agg #[.int .u64 0, .int .u64 0, .int .i64 0, .int .i64 0]], []⟩ 8 (by kernel_rfl) (by kernel_rfl) (by kernel_rfl) (by kernel_rfl)) ?_
  intro W base args ds gs before hval0 hW hcnd _
  have hval : ∀ (j : Nat) t v, Try.f5.params[j]? = some t → args[j]? = some v → Value.okWide Try.prog W .any base t v := hval0
  have hW' := hW
  obtain ⟨p, q, hA0, hV, rfl, hfz, hnd⟩ := hW
  have hA : DataW.TrodAll enc Try.prog W 0 (fun _ => true) true Try.f5.params.toList args.toList ds p := hA0
  rw [Try.params5] at hA hval
  obtain ⟨v0, vs0, d0, ds0, p0, q0, hargs, rfl, rfl, h0, r0⟩ := trodAll_cons hA
  obtain ⟨rfl, rfl, rfl⟩ := trodAll_nil r0
  obtain rfl : args = #[v0] := by cases args; simp_all
  obtain ⟨rfl, rfl⟩ := trodVars_none hV
  clear hA0 hval0
  obtain ⟨z0, z1, z2, z3, y0, y1, y2, y3, n, rfl, _, _, t0, t1, t2, t3⟩ := Joins.open_agg4 Try.underlying27 (by kernel_rfl) (by kernel_rfl) (hval 0 27 v0 rfl rfl) h0
  obtain ⟨x0, e0, _, w0⟩ := DataW.trod_int Try.underlying25 t0
  obtain ⟨x1, e1, _, w1⟩ := DataW.trod_int Try.underlying25 t1
  obtain ⟨x2, e2, _, w2⟩ := DataW.trod_int Try.underlying3 t2
  obtain ⟨x3, e3, _, w3⟩ := DataW.trod_int Try.underlying3 t3
  simp only [List.cons.injEq, and_true] at e0 e1 e2 e3
  subst e0 e1 e2 e3
  obtain ⟨lo0, hi0⟩ := bd_u64 w0
  obtain ⟨lo1, hi1⟩ := bd_u64 w1
  obtain ⟨lo2, hi2⟩ := bd_i64 w2
  obtain ⟨lo3, hi3⟩ := bd_i64 w3
  refine (BitsBack_c x0 x1 x2 x3 lo0 hi0 lo1 hi1 lo2 hi2 W).mono fun e W' ⟨he, hb⟩ => ?_
  subst he
  exact ⟨_, rfl, post_law laidOut hW' rfl rfl rfl Try.underlying4 params_ok hb⟩

theorem over : Rows.bitsBackRow.holds Try.pinned (OpenSpec.ofChange Rows.bitsBackSpec) :=
  OpenClaim.holds_of_wide 5 Try.f5 rfl rfl rfl rfl rfl rfl rfl ⟨rfl, rfl, rfl, rfl, rfl⟩ rfl rfl rfl rfl rfl (by kernel_rfl) Try.func5 (by kernel_rfl)
    (of_decide_eq_true (by kernel_rfl)) (by unfold Func.isWrapper; first | (rw [if_pos (by decide +kernel)]; kernel_rfl) | (rw [if_neg (by decide +kernel)]; exact ⟨rfl, rfl⟩))
    (fun os started H enc _ => lifted os started H enc)

theorem proved : Rows.BitsBackSaid := over
end Go.Proofs.Ytlfeaahbmahhgaa.bitsBack
