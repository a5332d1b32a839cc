/-
  ScriptBack: the row, by the walk of the proof's own program.
-/
import Derived.Test.YtbpbdanggilnpaaDoorM0
import Derived.Test.YtbpbdanggilnpaaDoorCards
import Derived.Test.YtbpbdanggilnpaaDoorTie
import Derived.Deep.DeepHandedRow
import Derived.Lib.LaidTab
import Derived.Lib.SmallJoins
import Derived.Test.YtbpbdanggilnpaaDoorM8
import Derived.Test.YtbpbdanggilnpaaDoorM18

namespace Go.Proofs.YtbpbdanggilnpaaDoor.scriptBack
set_option maxRecDepth 100000
open Go.ChangeShapes Go.WideShapes Go.ChangeAt Go.RowKit
set_option linter.unusedVariables false

theorem own : ownKnob Tryd.prog.godebug = none := by kernel_rfl
theorem laidOut : laidOutB Tryd.prog = true := by kernel_rfl
theorem params_ok : ∀ t ∈ Tryd.f4.params.toList, Tryd.prog.readableRec t = true ∧ t < Tryd.prog.types.size := by
  have h : Tryd.f4.params.toList.all (fun t => Tryd.prog.readableRec t && decide (t < Tryd.prog.types.size)) = true := by kernel_rfl
  intro t ht
  have := List.all_eq_true.1 h t ht
  simpa using this

def witArgs : Array Value := #[.agg #[.slice none 0 0, .slice none 0 0, .slice none 0 0, .slice none 0 0], .slice none 0 0]
noncomputable def layRow (cs : Array Value) : Obj → Obj
  | .cells _ t frozen => .cells cs t frozen
  | o => o
theorem globs_ok {W : World} (hL0 : laidMetH Tryd.prog Rows.scriptBackRow.laid W) : E0.globs W := by
  have hL : laidMet Tryd.prog Rows.scriptBackRow.laid W := hL0
  exact ⟨List.forall_mem_cons.2 ⟨(by
    obtain ⟨T, h⟩ := glob_row (d := 8) hL (n := "mulligan/script.forms") (x := Rows.laid_mulligan_script_forms) (.tail _ (.head _)) (g := 0) (by kernel_rfl) rfl (by kernel_rfl) (by intro h; cases h)
    exact ⟨T, h⟩), List.forall_mem_cons.2 ⟨(by
    obtain ⟨T, h⟩ := glob_row (d := 8) hL (n := "mulligan/decide.asks") (x := Rows.laid_mulligan_decide_asks) (.head _) (g := 1) (by kernel_rfl) rfl (by kernel_rfl) (by intro h; cases h)
    exact ⟨T, h⟩), (by simp)⟩⟩, fun x hx => absurd hx (by simp [E0]), trivial⟩

theorem contract (H : Type) (enc : TypeId × Value → H) (W : World) (base : Nat) (args : Array Value) (ds gs : List (DataW H)) (before : List MemPlace)
    (hval0 : ∀ (j : Nat) t v, Tryd.f4.params[j]? = some t → args[j]? = some v → Value.okWide Tryd.prog W .any base t v)
    (hW : DataW.Whole enc Tryd.prog Tryd.f4.params.toList Rows.scriptBackSpec.vars false W args.toList ds gs before) (hL : laidMetH Tryd.prog Rows.scriptBackRow.laid W) :
    Calls Tryd.prog 4 args W fun e W' => ∃ v, e = .returned v ∧ Rows.scriptBackSpec.post enc Tryd.prog Tryd.f4 false true false false W args v W' := by
  have hval := hval0
  have hW' := hW
  obtain ⟨p, q, hA0, hV, rfl, hfz, hnd⟩ := hW
  have hA : DataW.TrodAll enc Tryd.prog W 0 (fun _ => true) true Tryd.f4.params.toList args.toList ds p := hA0
  obtain ⟨rfl, rfl⟩ := trodVars_none hV
  clear hA0 hval0
  obtain ⟨xs, hargs, hs, hok, hin⟩ := open_all (Δ := tab) (R := [3, 68, 64, 5]) (D := 8) (d := 8) (by kernel_rfl) (gs := sg_lback35.params) (by kernel_rfl) (fun j t v a b => hval j t v (by simpa using a) (by simpa using b)) hA
  rw [Tryd.params4] at hA
  obtain ⟨v0, vs0, d0, ds0, p0, q0, hv0, rfl, rfl, h0, r0⟩ := trodAll_cons hA
  obtain ⟨v1, vs1, d1, ds1, p1, q1, hv1, rfl, rfl, h1, r1⟩ := trodAll_cons r0
  obtain ⟨_, rfl, rfl⟩ := trodAll_nil r1
  obtain rfl : args = (groupV sg_lback35.params xs).toArray := by rw [← hargs]
  refine (lback35_h W xs (fun rs => rs = [.bool true]) hs hok (fun d hd => absurd hd (by simp [E0])) (globs_ok hL) ⟨hin, rfl⟩).mono fun e W' ⟨rs, hrs, _, hb, _, _, he⟩ => ?_
  subst hrs
  have he : e = .returned (.bool true) := he
  subst he
  exact ⟨_, rfl, post_law laidOut hW' rfl rfl rfl Tryd.underlying4 params_ok hb⟩

noncomputable def laidWorld (os : Os) : World :=
  { World.holding Tryd.prog os ⟨#[], #[], []⟩ with heap := (((World.holding Tryd.prog os ⟨#[], #[], []⟩).heap).modify 0 (layRow #[.string ⟨#[100, 101, 99, 105, 100, 101]⟩, .int .i64 0, .int .i64 1, .int .i64 1, .string ⟨#[116, 97, 107, 101, 98, 97, 99, 107]⟩, .int .i64 1, .int .i64 0, .int .i64 0, .string ⟨#[114, 101, 119, 105, 110, 100]⟩, .int .i64 1, .int .i64 0, .int .i64 0, .string ⟨#[98, 97, 99, 107, 117, 112]⟩, .int .i64 2, .int .i64 0, .int .i64 0, .string ⟨#[108, 111, 111, 112]⟩, .int .i64 2, .int .i64 1, .int .i64 16, .string ⟨#[121, 105, 101, 108, 100]⟩, .int .i64 2, .int .i64 0, .int .i64 0, .string ⟨#[98, 108, 111, 99, 107]⟩, .int .i64 0, .int .i64 1, .int .i64 5, .string ⟨#[112, 117, 110, 105, 115, 104]⟩, .int .i64 2, .int .i64 0, .int .i64 0, .string ⟨#[110, 101, 120, 116]⟩, .int .i64 0, .int .i64 0, .int .i64 0])).modify 1 (layRow #[.int .u64 0, .int .u64 5, .int .u64 7, .int .u64 8, .int .u64 8, .int .u64 1, .int .u64 2]) }
theorem laid_met (os : Os) : laidMet Tryd.prog Rows.scriptBackRow.laid ((laidWorld os).forCall (fun _ _ => 0) ⟨#[], witArgs, []⟩).memory :=
  laidMet_of_run' 8 (by kernel_rfl) (by kernel_rfl)
theorem reads (os : Os) {H : Type} (enc : TypeId × Value → H) : ∃ places, DataW.whole enc Tryd.prog ((laidWorld os).forCall (fun _ _ => 0) ⟨#[], witArgs, []⟩).memory Tryd.f4.params.toList Rows.scriptBackSpec.vars false witArgs.toList 8 = some ([.agg [.agg [.nil, .nil], .nil, .nil], .nil], [], places) :=
  ⟨[], by kernel_rfl⟩

set_option maxRecDepth 100000 in
theorem lifted (os : Os) (started : os.Started) (H : Type) (enc : TypeId × Value → H) (F : Stop.Interp) :
    ReturnsInHanded {} Tryd.checked os 4 .any ((OpenSpec.ofChange Rows.scriptBackSpec).preRow enc Tryd.prog Tryd.f4 Rows.scriptBackRow.domain false Rows.scriptBackRow.laid) (((OpenSpec.ofChange Rows.scriptBackSpec).at F).post enc Tryd.prog Tryd.f4 false true false false) := by
  obtain ⟨places, hx⟩ := reads os enc
  refine returnsInHanded_of_row (C := Tryd.checked) (s := OpenSpec.ofChange Rows.scriptBackSpec) own started (by kernel_rfl) Tryd.func4
    (witness_row_at (enc := enc) (C := Tryd.checked) false (laidWorld os) witArgs rfl (by kernel_rfl) (by kernel_rfl) (by kernel_rfl)
      (OpenSpec.preRow_of_cond 8 hx (by kernel_rfl) (fun k hk => by cases hk) (by kernel_rfl) (laid_met os))) ?_
  intro W base args ds gs before hval hW _ _ _ hL _ _
  exact contract H enc W base args ds gs before hval hW hL

theorem said : Rows.ScriptBackSaid :=
  OpenClaim.holds_of_cond 4 Tryd.f4 rfl rfl rfl rfl rfl rfl rfl ⟨rfl, rfl, rfl, rfl, rfl⟩ rfl rfl rfl rfl rfl (by kernel_rfl) Tryd.func4 (by kernel_rfl)
    (of_decide_eq_true (by kernel_rfl)) (by unfold Func.isWrapper; first | (rw [if_pos (by decide +kernel)]; kernel_rfl) | (rw [if_neg (by decide +kernel)]; exact ⟨rfl, rfl⟩))
    (fun os started H enc _ F => by rw [OpenClaim.pre_eq_preRow]; exact lifted os started H enc F)

theorem stand_ok : ∀ t ∈ Tryd.f4.params.toList, Tryd.prog.wantsStandIn t = false := by
  have h : Tryd.f4.params.toList.all (fun t => !Tryd.prog.wantsStandIn t) = true := by kernel_rfl
  intro t ht
  have := List.all_eq_true.1 h t ht
  simpa using this
theorem plain (f : FuncId) (fn : Func) (hf : Tryd.pinned.checked.prog.funcNamed "mulligan/mulliganlaw35.ScriptBack" = some f) (hfn : Tryd.pinned.checked.prog.funcs[f]? = some fn) :
    true = Tryd.pinned.checked.prog.looks [] ∧ ∀ (j : Nat) t, fn.params[j]? = some t → Tryd.pinned.checked.prog.wantsStandIn t = false := by
  obtain rfl : f = 4 := Option.some.inj ((show Tryd.prog.funcNamed "mulligan/mulliganlaw35.ScriptBack" = some 4 by kernel_rfl).symm.trans hf) |>.symm
  obtain rfl : fn = Tryd.f4 := (Option.some.inj (Tryd.func4.symm.trans hfn)).symm
  refine ⟨by kernel_rfl, fun j t ht => stand_ok t ?_⟩
  have := Array.mem_of_getElem? ht
  simpa using this

theorem card : Rows.ScriptBackCardSaid :=
  Claim7.holds_tied_plain_at .later [] _ _ _ _ said (fun _ h => by cases h) (by kernel_rfl) (fun _ h => by cases h) scriptBack_row_tie rfl ⟨rfl, rfl⟩ (by kernel_rfl) rfl plain (by kernel_rfl)
end Go.Proofs.YtbpbdanggilnpaaDoor.scriptBack
