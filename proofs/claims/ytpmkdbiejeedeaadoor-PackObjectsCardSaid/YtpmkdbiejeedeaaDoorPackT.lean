/-
  The two tables, read out of what the row says of them.
-/
import Derived.Test.YtpmkdbiejeedeaaDoorPackB
import Derived.Test.YtpmkdbiejeedeaaDoorKitR
import Derived.Deep.DeepHandedRow
import Derived.Lib.LaidTab
import Derived.Lib.SmallJoins
namespace Go.Proofs.YtpmkdbiejeedeaaDoor
open Go.RowKit Go.ChangeShapes Go.WideShapes Go.ChangeAt
set_option linter.unusedVariables false

theorem pairs_of_tab {H : Type} {enc : TypeId × Value → H} {P : Program} {w : World} {base : Nat} {sp : Nat → Bool} {held : Bool} {fuel : Nat} {t e : TypeId} {n : Nat} {f0 f1 : Field} {cs : List Value} {zs : List (Int × Int)} {p : List MemPlace}
    (ht : P.underlying t = some (.array n e)) (he : P.underlying e = some (.struct #[f0, f1])) (h0 : P.underlying f0.type = some (.int .i64)) (h1 : P.underlying f1.type = some (.int .i64)) (hc0 : P.cellsOf f0.type = 1) (hc1 : P.cellsOf f1.type = 1)
    (ho0 : f0.offset = 0) (ho1 : f1.offset = 1) (hce : P.cellsOf e = 2) (hct : P.cellsOf t = 2 * n)
    (h : DataW.trod enc P w base sp held fuel t cs = some (.agg (zs.map fun z => .agg [.lit (.int .i64 z.1), .lit (.int .i64 z.2)]), p)) :
    ∀ i, i < n → cs[2 * i]? = some (.int .i64 (zs.getD i (0, 0)).1) ∧ cs[2 * i + 1]? = some (.int .i64 (zs.getD i (0, 0)).2) := by
  obtain ⟨xs, m, _, hx, hl, hxl, hel⟩ := DataW.trod_array ht h
  intro i hi
  have hx1 : xs.map (·.1) = zs.map fun z => DataW.agg [.lit (.int .i64 z.1), .lit (.int .i64 z.2)] := by
    have := (Prod.mk.injEq _ _ _ _ ▸ hx : _ ∧ _).1
    simpa using this.symm
  have hix : i < xs.length := by omega
  have hzl : zs.length = xs.length := by have := congrArg List.length hx1; simpa using this.symm
  have h2 := hel i hi
  rw [hce, List.getElem?_eq_getElem hix] at h2
  have hxi : (xs[i]).1 = .agg [.lit (.int .i64 (zs[i]'(by omega)).1), .lit (.int .i64 (zs[i]'(by omega)).2)] := by
    have := congrArg (fun l => l[i]?) hx1
    simpa [hix, show i < zs.length by omega] using this
  obtain ⟨y0, y1, k, hy, hl2, g0, g1⟩ := trod_struct2 he h2
  rw [hc0, ho0] at g0
  rw [hc1, ho1] at g1
  have hlen : ((cs.drop (i * 2)).take 2).length = 2 := by rw [hl2, hce]
  match hh : (cs.drop (i * 2)).take 2, hlen with
  | [c0, c1], _ =>
    rw [hh] at g0 g1
    simp only [List.drop_zero, List.take_succ_cons, List.take_zero, List.drop_succ_cons] at g0 g1
    obtain ⟨a0, e0, rfl, _⟩ := DataW.trod_int h0 g0
    obtain ⟨a1, e1, rfl, _⟩ := DataW.trod_int h1 g1
    simp only [List.cons.injEq, and_true] at e0 e1
    subst e0 e1
    rw [hy] at hxi
    simp only [DataW.agg.injEq, List.cons.injEq, DataW.lit.injEq, Lit.int.injEq, true_and, and_true] at hxi
    have a := congrArg (fun l => l[0]?) hh
    have b := congrArg (fun l => l[1]?) hh
    simp only [List.getElem?_take, List.getElem?_drop, List.getElem?_cons_zero, List.getElem?_cons_succ] at a b
    have hz : zs.getD i (0, 0) = zs[i]'(by omega) := by simp [List.getD_eq_getElem?_getD, show i < zs.length by omega]
    rw [hz, ← hxi.1, ← hxi.2]
    refine ⟨?_, ?_⟩
    · rw [show 2 * i = i * 2 + 0 by omega]; simpa using a
    · rw [show 2 * i + 1 = i * 2 + 1 by omega]; simpa using b

theorem gP : Tryd.prog.globalNamed "mulligan/pack.parts" = some 0 := by kernel_rfl
theorem gPt : (Tryd.prog.globals[0]?).map (·.type) = some 53 := by kernel_rfl
theorem gO : Tryd.prog.globalNamed "mulligan/pack.others" = some 1 := by kernel_rfl
theorem gOt : (Tryd.prog.globals[1]?).map (·.type) = some 39 := by kernel_rfl
def partZ : List (Int × Int) := [(1, 1), (2, 1), (3, 4), (4, 1), (5, 1), (11, 1), (13, 2), (17, 2), (10, 8)]
theorem partZ_ok : ∀ i : Fin 9, partsV[2 * i.val]? = some (.int .i64 (partZ.getD i (0, 0)).1) ∧ partsV[2 * i.val + 1]? = some (.int .i64 (partZ.getD i (0, 0)).2) := by
  intro i
  match i with
  | ⟨0, _⟩ | ⟨1, _⟩ | ⟨2, _⟩ | ⟨3, _⟩ | ⟨4, _⟩ | ⟨5, _⟩ | ⟨6, _⟩ | ⟨7, _⟩ | ⟨8, _⟩ => exact ⟨rfl, rfl⟩
theorem var_cell {W : World} {name : String} {g : Nat} {cs : Array Value} (hg : Tryd.prog.globalNamed name = some g) (h : W.var? Tryd.prog name = some cs) (i : Nat) : W.cell? ⟨g, i, none⟩ = cs[i]? := World.var?_cell hg h i
theorem parts_of {W : World} {rest : List (String × DataW Unit)} {ps : List MemPlace} (h : DataW.LaidVars Tryd.prog W (("mulligan/pack.parts", Rows.laid_mulligan_pack_parts) :: rest) ps) : Tabs W ∧ ∃ q, DataW.LaidVars Tryd.prog W rest q := by
  obtain ⟨g', t', cs, fuel, p, q, hg', ht', hvar, hd, hr, _⟩ := h
  obtain rfl := Option.some.inj (gP.symm.trans hg')
  obtain rfl := Option.some.inj (gPt.symm.trans ht')
  have hp := pairs_of_tab (zs := partZ) (f0 := _) (f1 := _) Tryd.underlying53 Tryd.underlying52 Tryd.underlying3 Tryd.underlying3 (by kernel_rfl) (by kernel_rfl) rfl rfl (by kernel_rfl) (by kernel_rfl) hd
  have hcell : ∀ j v, partsV[j]? = some v → W.cell? ⟨0, j, none⟩ = some v := fun j v hv => by
    have hj : j < 18 := (Array.getElem?_eq_some_iff.1 hv).1
    rw [var_cell gP hvar j]
    have h9 := hp (j / 2) (by omega)
    have k9 := partZ_ok ⟨j / 2, by omega⟩
    simp only [Array.getElem?_toList] at h9
    by_cases e : j % 2 = 0
    · rw [show j = 2 * (j / 2) by omega] at hv ⊢
      rw [h9.1, ← hv]; exact k9.1.symm
    · rw [show j = 2 * (j / 2) + 1 by omega] at hv ⊢
      rw [h9.2, ← hv]; exact k9.2.symm
  refine ⟨⟨fun j v hv => ?_, block_lt_of_cell (hcell 0 _ rfl)⟩, q, hr⟩
  rw [Addr.add_lit, Nat.zero_add]
  exact hcell j v hv
theorem others_of {W : World} {ps : List MemPlace} {rest : List (String × DataW Unit)} (h : DataW.LaidVars Tryd.prog W (("mulligan/pack.others", Rows.laid_mulligan_pack_others) :: rest) ps) : Tabs2 W := by
  obtain ⟨g', t', cs, fuel, p, q, hg', ht', hvar, hd, hr, _⟩ := h
  obtain rfl := Option.some.inj (gO.symm.trans hg')
  obtain rfl := Option.some.inj (gOt.symm.trans ht')
  have hp := Lib.cells_of_tab (zs := [0, 6, 7, 8, 9, 12, 14, 15, 16]) Tryd.underlying39 Tryd.underlying3 (by kernel_rfl) (by kernel_rfl) hd
  have hcell : ∀ j v, othersV[j]? = some v → W.cell? ⟨1, j, none⟩ = some v := fun j v hv => by
    rw [var_cell gO hvar j, ← Array.getElem?_toList, hp]
    rw [← hv, show othersV = (List.map (fun z => Value.int IntKind.i64 z) [0, 6, 7, 8, 9, 12, 14, 15, 16]).toArray from rfl, List.getElem?_toArray]
  refine ⟨fun j v hv => ?_, block_lt_of_cell (hcell 0 _ rfl)⟩
  rw [Addr.add_lit, Nat.zero_add]
  exact hcell j v hv
theorem tabs1 {W : World} (h : laidMetH Tryd.prog [("mulligan/pack.parts", Rows.laid_mulligan_pack_parts)] W) : Tabs W := by
  obtain ⟨ps, hv, _⟩ := (h : laidMet Tryd.prog _ W)
  exact (parts_of hv).1
theorem tabs2 {W : World} (h : laidMetH Tryd.prog [("mulligan/pack.parts", Rows.laid_mulligan_pack_parts), ("mulligan/pack.others", Rows.laid_mulligan_pack_others)] W) : Tabs W ∧ Tabs2 W := by
  obtain ⟨ps, hv, _⟩ := (h : laidMet Tryd.prog _ W)
  obtain ⟨h1, q, h2⟩ := parts_of hv
  exact ⟨h1, others_of h2⟩
end Go.Proofs.YtpmkdbiejeedeaaDoor
