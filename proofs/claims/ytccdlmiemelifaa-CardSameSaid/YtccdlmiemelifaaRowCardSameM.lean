/-
  CardSame: the row, by the walk of the proof's own program.
-/
import Derived.Test.YtccdlmiemelifaaM0
import Derived.Lib.SmallJoins
import Derived.Test.YtccdlmiemelifaaM7
import Derived.Test.YtccdlmiemelifaaM14

namespace Go.Proofs.Ytccdlmiemelifaa.cardSame
open Go.ChangeShapes Go.WideShapes Go.ChangeAt Go.RowKit
set_option linter.unusedVariables false

theorem own : ownKnob Try.prog.godebug = none := by kernel_rfl
theorem laidOut : laidOutB Try.prog = true := by kernel_rfl
theorem params_ok : ∀ t ∈ Try.f4.params.toList, Try.prog.readableRec t = true ∧ t < Try.prog.types.size := by
  have h : Try.f4.params.toList.all (fun t => Try.prog.readableRec t && decide (t < Try.prog.types.size)) = true := by kernel_rfl
  intro t ht
  have := List.all_eq_true.1 h t ht
  simpa using this

def witArgs : Array Value := #[.agg #[.int .i64 0, .int .i64 0, .bool false, .int .i64 0, .int .i64 0, .int .i64 0, .int .i64 0, .int .i64 0, .int .i64 0, .int .i64 0, .int .i64 0, .int .i64 0, .slice none 0 0], .agg #[.int .i64 0, .int .i64 0, .bool false, .int .i64 0, .int .i64 0, .int .i64 0, .int .i64 0, .int .i64 0, .int .i64 0, .int .i64 0, .int .i64 0, .int .i64 0, .slice none 0 0]]
theorem globs_ok (W : World) : E0.globs W := ⟨fun x hx => absurd hx (by simp [E0, gts]), fun x hx => absurd hx (by simp [E0])⟩

set_option maxRecDepth 100000 in
theorem lifted (os : Os) (started : os.Started) (H : Type) (enc : TypeId × Value → H) :
    ReturnsInHanded {} Try.checked os 4 .any (Rows.cardSameSpec.pre6 enc Try.prog Try.f4 Rows.cardSameRow.domain false) (Rows.cardSameSpec.post enc Try.prog Try.f4 false true false false) := by
  refine returnsInHanded_of_change (C := Try.checked) own started (by kernel_rfl) Try.func4
    (ChangeSpec.witness6 (enc := enc) (C := Try.checked) false ⟨#[], witArgs, []⟩ 8 (by kernel_rfl) (by kernel_rfl) (by kernel_rfl) (by kernel_rfl)) ?_
  intro W base args ds gs before hval0 hW hcnd _
  have hval : ∀ (j : Nat) t v, Try.f4.params[j]? = some t → args[j]? = some v → Value.okWide Try.prog W .any base t v := hval0
  have hW' := hW
  obtain ⟨p, q, hA0, hV, rfl, hfz, hnd⟩ := hW
  have hA : DataW.TrodAll enc Try.prog W 0 (fun _ => true) true Try.f4.params.toList args.toList ds p := hA0
  obtain ⟨rfl, rfl⟩ := trodVars_none hV
  clear hA0 hval0
  obtain ⟨xs, hargs, hs, hok, hin⟩ := open_all (Δ := tab) (R := [42, 24]) (D := 8) (d := 8) (by kernel_rfl) (gs := sg_lcardsame.params) (by kernel_rfl) (fun j t v a b => hval j t v (by simpa using a) (by simpa using b)) hA
  rw [Try.params4] at hA
  obtain ⟨v0, vs0, d0, ds0, p0, q0, hv0, rfl, rfl, h0, r0⟩ := trodAll_cons hA
  obtain ⟨v1, vs1, d1, ds1, p1, q1, hv1, rfl, rfl, h1, r1⟩ := trodAll_cons r0
  obtain ⟨_, rfl, rfl⟩ := trodAll_nil r1
  obtain rfl : args = (groupV sg_lcardsame.params xs).toArray := by rw [← hargs]
  refine (lcardsame_h W xs (fun rs => rs = [.bool true]) hs hok (fun d hd => absurd hd (by simp [E0])) (globs_ok W) ⟨hin, rfl⟩).mono fun e W' ⟨rs, hrs, _, hb, _, _, he⟩ => ?_
  subst hrs
  have he : e = .returned (.bool true) := he
  subst he
  exact ⟨_, rfl, post_law laidOut hW' rfl rfl rfl Try.underlying4 params_ok hb⟩

theorem over : Rows.cardSameRow.holds Try.pinned (OpenSpec.ofChange Rows.cardSameSpec) :=
  OpenClaim.holds_of_wide 4 Try.f4 rfl rfl rfl rfl rfl rfl rfl ⟨rfl, rfl, rfl, rfl, rfl⟩ rfl rfl rfl rfl rfl (by kernel_rfl) Try.func4 (by kernel_rfl)
    (of_decide_eq_true (by kernel_rfl)) (by unfold Func.isWrapper; first | (rw [if_pos (by decide +kernel)]; kernel_rfl) | (rw [if_neg (by decide +kernel)]; exact ⟨rfl, rfl⟩))
    (fun os started H enc _ => lifted os started H enc)

theorem proved : Rows.CardSameSaid := over
end Go.Proofs.Ytccdlmiemelifaa.cardSame
