/-
  A state as a player sees it: program and checker.
-/
import Derived.Test.YtlgfnimahmmgeaaDoorStLong
import Derived.Test.YtlgfnimahmmgeaaDoorNums
import Derived.Test.YtlgfnimahmmgeaaDoorKnM
namespace Go.Proofs.YtlgfnimahmmgeaaDoor
open Go.RowKit
set_option linter.unusedVariables false
set_option linter.unusedSimpArgs false

theorem take37 {ds : List Dat} (h : ds.length = 38) : [ds.getD 0 (.bool false), ds.getD 1 (.bool false), ds.getD 2 (.bool false), ds.getD 3 (.bool false), ds.getD 4 (.bool false), ds.getD 5 (.bool false), ds.getD 6 (.bool false), ds.getD 7 (.bool false), ds.getD 8 (.bool false), ds.getD 9 (.bool false), ds.getD 10 (.bool false), ds.getD 11 (.bool false), ds.getD 12 (.bool false), ds.getD 13 (.bool false), ds.getD 14 (.bool false), ds.getD 15 (.bool false), ds.getD 16 (.bool false), ds.getD 17 (.bool false), ds.getD 18 (.bool false), ds.getD 19 (.bool false), ds.getD 20 (.bool false), ds.getD 21 (.bool false), ds.getD 22 (.bool false), ds.getD 23 (.bool false), ds.getD 24 (.bool false), ds.getD 25 (.bool false), ds.getD 26 (.bool false), ds.getD 27 (.bool false), ds.getD 28 (.bool false), ds.getD 29 (.bool false), ds.getD 30 (.bool false), ds.getD 31 (.bool false), ds.getD 32 (.bool false), ds.getD 33 (.bool false), ds.getD 34 (.bool false), ds.getD 35 (.bool false), ds.getD 36 (.bool false)] = ds.take 37 := by
  refine List.ext_getElem (by rw [List.length_take, h]; rfl) fun i h1 h2 => ?_
  rw [List.getElem_take]
  have e : ∀ j (hj : j < ds.length), ds.getD j (.bool false) = ds[j] := fun j hj => by rw [List.getD_eq_getElem?_getD, List.getElem?_eq_getElem hj]; rfl
  have h3 : i < 37 := h1
  match i, h3 with
  | 0, _ => exact e 0 (by omega)
  | 1, _ => exact e 1 (by omega)
  | 2, _ => exact e 2 (by omega)
  | 3, _ => exact e 3 (by omega)
  | 4, _ => exact e 4 (by omega)
  | 5, _ => exact e 5 (by omega)
  | 6, _ => exact e 6 (by omega)
  | 7, _ => exact e 7 (by omega)
  | 8, _ => exact e 8 (by omega)
  | 9, _ => exact e 9 (by omega)
  | 10, _ => exact e 10 (by omega)
  | 11, _ => exact e 11 (by omega)
  | 12, _ => exact e 12 (by omega)
  | 13, _ => exact e 13 (by omega)
  | 14, _ => exact e 14 (by omega)
  | 15, _ => exact e 15 (by omega)
  | 16, _ => exact e 16 (by omega)
  | 17, _ => exact e 17 (by omega)
  | 18, _ => exact e 18 (by omega)
  | 19, _ => exact e 19 (by omega)
  | 20, _ => exact e 20 (by omega)
  | 21, _ => exact e 21 (by omega)
  | 22, _ => exact e 22 (by omega)
  | 23, _ => exact e 23 (by omega)
  | 24, _ => exact e 24 (by omega)
  | 25, _ => exact e 25 (by omega)
  | 26, _ => exact e 26 (by omega)
  | 27, _ => exact e 27 (by omega)
  | 28, _ => exact e 28 (by omega)
  | 29, _ => exact e 29 (by omega)
  | 30, _ => exact e 30 (by omega)
  | 31, _ => exact e 31 (by omega)
  | 32, _ => exact e 32 (by omega)
  | 33, _ => exact e 33 (by omega)
  | 34, _ => exact e 34 (by omega)
  | 35, _ => exact e 35 (by omega)
  | 36, _ => exact e 36 (by omega)
  | i + 37, h => exact absurd h (by omega)
def seenR (o : List Dat) : List Dat := [.int .i64 0, o.getD 1 (.int .i64 0), o.getD 2 (.int .i64 0), o.getD 3 (.int .i64 0), .int .i64 0, .int .i64 0, .int .i64 0, .int .i64 0, .int .i64 0, .int .i64 0, .int .i64 0, .int .i64 0, .int .i64 0, .int .i64 0, .int .i64 0, .int .i64 0, .int .i64 0, .int .i64 0]
def seenF (p : Int) (o : List Dat) : List Dat := if kn p (rowI o 17) then o else seenR o
noncomputable def stV : List Dat := .list (.slice none 0 0) (E0.Δ.row 49).length [] :: (List.replicate 11 (.list (.slice none 0 0) (E0.Δ.row 3).length []) ++ List.replicate 25 (.int .i64 0))
def SeesR (p : Int) (ds rs : List Dat) : Prop := argL rs 0 = (argL ds 0).map (seenF p) ∧ (∀ y, y < 11 → argL rs (y + 1) = argL ds (y + 1)) ∧ ∀ i, i < 25 → argI rs (12 + i) = argI ds (12 + i)
def seen_s : Spec := fun ds Q => (argI ds 18 = 0 ∨ argI ds 18 = 1) ∧ kn (argI ds 18) (argI ds 17) = false ∧ Q (seenR ds)
def k_seen : Nat := 24
def sg_seen : Sig := ⟨[(true, List.replicate 18 (.int .i64)), (false, [.int .i64])], [(true, List.replicate 18 (.int .i64))], false, false, true⟩
def tr_seen : Tree := (.ob (.cmp .ge (.conv .u64 (.var 18)) (.int .u64 0))
(.ret [(.int .i64 0), (.var 1), (.var 2), (.var 3), (.int .i64 0), (.int .i64 0), (.int .i64 0), (.int .i64 0), (.int .i64 0), (.int .i64 0), (.int .i64 0), (.int .i64 0), (.int .i64 0), (.int .i64 0), (.int .i64 0), (.int .i64 0), (.int .i64 0), (.ar .and .i64 (.var 17) (.ar .shl .i64 (.int .i64 1) (.conv .u64 (.var 18))))]))
theorem wk_seen : walk E0.cx (sgsN []) 0 24 sg_seen = tr_seen := by kernel_rfl
theorem bo_seen : ∃ x, bodyOf E0.P 24 = some x := bo_of (by kernel_rfl)
theorem seen_h : Holds E0 k_seen sg_seen seen_s := con_fn wf0 mix0 g0 [] rfl wk_seen rfl (by
  intro Φ hΦ ds Q hs ⟨hp, hk, h⟩
  have hl : ds.length = 19 := hs.length.symm
  clear hΦ
  simp only [tr_seen, wp, den_int, den_bool, den_nili, den_ar, den_cmp, den_not, den_len, den_elem, den_isnil, den_errI, den_ifc, den_rep, den_push, den_app, den_emp, den_upd, row0_econs, row0_enil, den_and, den_beq, den_nil, toInt_int, toBool_bool, xs_rows, xs_list, dflt_int, dflt_bool, of_eq, of_ne, of_lt, of_le, of_gt, of_ge, of_add, of_sub, of_rem, List.map_cons, List.map_nil, Dat.bool.injEq, decide_eq_true_eq, decide_eq_false_iff_not, Bool.not_eq_true', Bool.not_eq_false', beq_iff_eq, bne_iff_ne, beq_eq_false_iff_ne, bne_eq_false_iff_eq, ne_eq, List.append_assoc, List.cons_append, List.nil_append, allS, @den_var0 E0.Δ ds, den_varA, den_varB, hl, Nat.reduceLT, Nat.reduceLeDiff, Nat.reduceSub, List.getD_cons_zero, List.getD_cons_succ, argL_fold ds, argI_fold ds, List.append_assoc, List.cons_append, List.nil_append, toInt_int, toBool_bool, xs_rows, xs_list, Int.toNat_natCast, Dat.bool.injEq, den_conv]
  rw [seen_bit hp hk, wrapU]
  refine ⟨by omega, ?_⟩
  unfold seenR at h
  have e : ∀ i a b, i < 19 → ds.getD i a = ds.getD i b := fun i a b hi => by rw [List.getD_eq_getElem?_getD, List.getD_eq_getElem?_getD, List.getElem?_eq_getElem (by omega)]; rfl
  rw [e 1 _ (.bool false) (by decide), e 2 _ (.bool false) (by decide), e 3 _ (.bool false) (by decide)] at h
  exact h)
noncomputable def con_seen : Con E0 := ⟨k_seen, sg_seen, seen_s, rfl, bo_seen, seen_h⟩
def Sees_s : Spec := fun ds Q => Sm (ds.take 37) ∧ ∀ n, errP (ds.take 37) n → (n ≠ 0 → Q (stV ++ [errV n])) ∧ (n = 0 → (¬ (argI ds 37 = 0 ∨ argI ds 37 = 1) → Q (stV ++ [errV 1])) ∧ (argI ds 37 = 0 ∨ argI ds 37 = 1 → ∀ rs, rs.length = 37 → SeesR (argI ds 37) ds rs → Q (rs ++ [errV 0])))
def I1 (ds : List Dat) : Inv := fun xs m => ∃ z : Nat, z ≤ 11 ∧ m = 11 - z ∧ xs.length = 12 ∧ xs.getD 0 (.bool false) = .int .i64 z ∧ (∀ y, y < z → (xs.getD (y + 1) (.bool false)).xs = argL ds (y + 1)) ∧ ∀ y, z ≤ y → y < 11 → xs.getD (y + 1) (.bool false) = ds.getD (y + 1) (.bool false)
def I2 (p : Int) (ds : List Dat) : Inv := fun xs m => ∃ i : Nat, i ≤ (argL ds 0).length ∧ m = (argL ds 0).length - i ∧ xs = [.int .i64 i, .rows (((argL ds 0).take i).map (seenF p) ++ (argL ds 0).drop i)]
theorem ites11 {z : Nat} (hz : z < 11) (n d0 d1 d2 d3 d4 d5 d6 d7 d8 d9 d10 : Dat) : [if (z : Int) = 0 then n else d0, if (z : Int) = 1 then n else d1, if (z : Int) = 2 then n else d2, if (z : Int) = 3 then n else d3, if (z : Int) = 4 then n else d4, if (z : Int) = 5 then n else d5, if (z : Int) = 6 then n else d6, if (z : Int) = 7 then n else d7, if (z : Int) = 8 then n else d8, if (z : Int) = 9 then n else d9, if (z : Int) = 10 then n else d10] = [d0, d1, d2, d3, d4, d5, d6, d7, d8, d9, d10].set z n := by
  match z, hz with
  | 0, _ | 1, _ | 2, _ | 3, _ | 4, _ | 5, _ | 6, _ | 7, _ | 8, _ | 9, _ | 10, _ => rfl
theorem getD_any {α : Type} {l : List α} {i : Nat} (h : i < l.length) (a b : α) : l.getD i a = l.getD i b := by
  rw [List.getD_eq_getElem?_getD, List.getD_eq_getElem?_getD, List.getElem?_eq_getElem h]; rfl
theorem I1_step {ds l : List Dat} {z m : Nat} {n : Dat} (h : I1 ds (.int .i64 z :: l) m) (hz : z < 11) (hn : n.xs = argL ds (z + 1)) : I1 ds (.int .i64 (IntKind.i64.wrap ((z : Int) + 1)) :: l.set z n) (11 - (z + 1)) := by
  obtain ⟨z', h1, rfl, h2, h3, h4, h5⟩ := h
  have e : z' = z := by
    have h3 : Dat.int .i64 z = .int .i64 z' := h3
    cases h3; rfl
  subst e
  have hl : l.length = 11 := by simpa using h2
  refine ⟨z' + 1, by omega, rfl, by simpa using h2, by rw [wrap64 (by omega) (by omega)]; rfl, fun y hy => ?_, fun y hy1 hy2 => ?_⟩
  · by_cases hyz : y = z'
    · subst hyz
      rw [List.getD_cons_succ, List.getD_eq_getElem?_getD, List.getElem?_set_self (by omega)]; exact hn
    · have := h4 y (by omega)
      rw [List.getD_cons_succ] at this ⊢
      rw [List.getD_eq_getElem?_getD, List.getElem?_set_ne (by omega), ← List.getD_eq_getElem?_getD]; exact this
  · have := h5 y (by omega) hy2
    rw [List.getD_cons_succ] at this ⊢
    rw [List.getD_eq_getElem?_getD, List.getElem?_set_ne (by omega), ← List.getD_eq_getElem?_getD]; exact this
theorem I1_sel {ds l : List Dat} {z m : Nat} (h : I1 ds (.int .i64 z :: l) m) (hz : z < 11) (x : Dat) : l.getD z x = ds.getD (z + 1) (.bool false) := by
  obtain ⟨z', h1, rfl, h2, h3, h4, h5⟩ := h
  have e : z' = z := by
    have h3 : Dat.int .i64 z = .int .i64 z' := h3
    cases h3; rfl
  subst e
  have := h5 z' (Nat.le_refl _) hz
  rw [List.getD_cons_succ] at this
  rw [← this]; exact getD_any (by have : l.length = 11 := by simpa using h2
                                  omega) _ _
def k_Sees : Nat := 8
def sg_Sees : Sig := ⟨[(true, [.list 49] ++ List.replicate 11 (.list 3) ++ List.replicate 25 (.int .i64)), (false, [.int .i64])], [(true, [.list 49] ++ List.replicate 11 (.list 3) ++ List.replicate 25 (.int .i64)), (false, [.err])], false, false, true⟩
def tr_Sees_1 : Tree := (.ob (.cmp .ge (.var 39) (.int .i64 0)) (.ite (.isnil (.sel (.econs (.var 40) (.econs (.var 41) (.econs (.var 42) (.econs (.var 43) (.econs (.var 44) (.econs (.var 45) (.econs (.var 46) (.econs (.var 47) (.econs (.var 48) (.econs (.var 49) (.econs (.var 50) .enil))))))))))) (.var 39) (.list 3))) (.ob (.cmp .ge (.var 39) (.int .i64 0)) (.share 3 .emp (.again 0 [(.ar .add .i64 (.var 39) (.int .i64 1)), (.ite (.cmp .eq (.var 39) (.int .i64 0)) (.var 51) (.var 40)), (.ite (.cmp .eq (.var 39) (.int .i64 1)) (.var 51) (.var 41)), (.ite (.cmp .eq (.var 39) (.int .i64 2)) (.var 51) (.var 42)), (.ite (.cmp .eq (.var 39) (.int .i64 3)) (.var 51) (.var 43)), (.ite (.cmp .eq (.var 39) (.int .i64 4)) (.var 51) (.var 44)), (.ite (.cmp .eq (.var 39) (.int .i64 5)) (.var 51) (.var 45)), (.ite (.cmp .eq (.var 39) (.int .i64 6)) (.var 51) (.var 46)), (.ite (.cmp .eq (.var 39) (.int .i64 7)) (.var 51) (.var 47)), (.ite (.cmp .eq (.var 39) (.int .i64 8)) (.var 51) (.var 48)), (.ite (.cmp .eq (.var 39) (.int .i64 9)) (.var 51) (.var 49)), (.ite (.cmp .eq (.var 39) (.int .i64 10)) (.var 51) (.var 50))]))) (.ob (.cmp .le (.len (.app .emp (.sel (.econs (.var 40) (.econs (.var 41) (.econs (.var 42) (.econs (.var 43) (.econs (.var 44) (.econs (.var 45) (.econs (.var 46) (.econs (.var 47) (.econs (.var 48) (.econs (.var 49) (.econs (.var 50) .enil))))))))))) (.var 39) (.list 3)))) (.int .i64 17592186044416)) (.ob (.cmp .ge (.var 39) (.int .i64 0)) (.share 3 (.app .emp (.sel (.econs (.var 40) (.econs (.var 41) (.econs (.var 42) (.econs (.var 43) (.econs (.var 44) (.econs (.var 45) (.econs (.var 46) (.econs (.var 47) (.econs (.var 48) (.econs (.var 49) (.econs (.var 50) .enil))))))))))) (.var 39) (.list 3))) (.again 0 [(.ar .add .i64 (.var 39) (.int .i64 1)), (.ite (.cmp .eq (.var 39) (.int .i64 0)) (.var 51) (.var 40)), (.ite (.cmp .eq (.var 39) (.int .i64 1)) (.var 51) (.var 41)), (.ite (.cmp .eq (.var 39) (.int .i64 2)) (.var 51) (.var 42)), (.ite (.cmp .eq (.var 39) (.int .i64 3)) (.var 51) (.var 43)), (.ite (.cmp .eq (.var 39) (.int .i64 4)) (.var 51) (.var 44)), (.ite (.cmp .eq (.var 39) (.int .i64 5)) (.var 51) (.var 45)), (.ite (.cmp .eq (.var 39) (.int .i64 6)) (.var 51) (.var 46)), (.ite (.cmp .eq (.var 39) (.int .i64 7)) (.var 51) (.var 47)), (.ite (.cmp .eq (.var 39) (.int .i64 8)) (.var 51) (.var 48)), (.ite (.cmp .eq (.var 39) (.int .i64 9)) (.var 51) (.var 49)), (.ite (.cmp .eq (.var 39) (.int .i64 10)) (.var 51) (.var 50))]))))))
def tr_Sees_2 : Tree := (.ob (.cmp .ge (.var 51) (.int .i64 0)) (.ob (.cmp .lt (.var 51) (.len (.var 52))) (.ob (.or (.not (.and (.cmp .ge (.var 37) (.int .i64 0)) (.cmp .lt (.var 37) (.int .i64 64)))) (.cmp .ge (.conv .u64 (.var 37)) (.int .u64 0))) (.ite (.not (.and (.and (.cmp .ge (.var 37) (.int .i64 0)) (.cmp .lt (.var 37) (.int .i64 64))) (.cmp .eq (.ar .and .u64 (.ar .shr .u64 (.conv .u64 (.elem (.var 52) (.var 51) 17 (.int .i64))) (.conv .u64 (.var 37))) (.int .u64 1)) (.int .u64 1)))) (.call k_seen [(.elem (.var 52) (.var 51) 0 (.int .i64)), (.elem (.var 52) (.var 51) 1 (.int .i64)), (.elem (.var 52) (.var 51) 2 (.int .i64)), (.elem (.var 52) (.var 51) 3 (.int .i64)), (.elem (.var 52) (.var 51) 4 (.int .i64)), (.elem (.var 52) (.var 51) 5 (.int .i64)), (.elem (.var 52) (.var 51) 6 (.int .i64)), (.elem (.var 52) (.var 51) 7 (.int .i64)), (.elem (.var 52) (.var 51) 8 (.int .i64)), (.elem (.var 52) (.var 51) 9 (.int .i64)), (.elem (.var 52) (.var 51) 10 (.int .i64)), (.elem (.var 52) (.var 51) 11 (.int .i64)), (.elem (.var 52) (.var 51) 12 (.int .i64)), (.elem (.var 52) (.var 51) 13 (.int .i64)), (.elem (.var 52) (.var 51) 14 (.int .i64)), (.elem (.var 52) (.var 51) 15 (.int .i64)), (.elem (.var 52) (.var 51) 16 (.int .i64)), (.elem (.var 52) (.var 51) 17 (.int .i64)), (.var 37)] [(.int .i64), (.int .i64), (.int .i64), (.int .i64), (.int .i64), (.int .i64), (.int .i64), (.int .i64), (.int .i64), (.int .i64), (.int .i64), (.int .i64), (.int .i64), (.int .i64), (.int .i64), (.int .i64), (.int .i64), (.int .i64)] (.ob (.cmp .ge (.var 51) (.int .i64 0)) (.ob (.cmp .lt (.var 51) (.len (.var 52))) (.again 1 [(.ar .add .i64 (.var 51) (.int .i64 1)), (.upd (.upd (.upd (.upd (.upd (.upd (.upd (.upd (.upd (.upd (.upd (.upd (.upd (.upd (.upd (.upd (.upd (.upd (.var 52) (.var 51) 0 (.var 53)) (.var 51) 1 (.var 54)) (.var 51) 2 (.var 55)) (.var 51) 3 (.var 56)) (.var 51) 4 (.var 57)) (.var 51) 5 (.var 58)) (.var 51) 6 (.var 59)) (.var 51) 7 (.var 60)) (.var 51) 8 (.var 61)) (.var 51) 9 (.var 62)) (.var 51) 10 (.var 63)) (.var 51) 11 (.var 64)) (.var 51) 12 (.var 65)) (.var 51) 13 (.var 66)) (.var 51) 14 (.var 67)) (.var 51) 15 (.var 68)) (.var 51) 16 (.var 69)) (.var 51) 17 (.var 70))])))) (.again 1 [(.ar .add .i64 (.var 51) (.int .i64 1)), (.var 52)])))))
def tr_Sees_3 : Tree := (.share 49 (.var 52) (.ret [(.var 53), (.var 40), (.var 41), (.var 42), (.var 43), (.var 44), (.var 45), (.var 46), (.var 47), (.var 48), (.var 49), (.var 50), (.var 12), (.var 13), (.var 14), (.var 15), (.var 16), (.var 17), (.var 18), (.var 19), (.var 20), (.var 21), (.var 22), (.var 23), (.var 24), (.var 25), (.var 26), (.var 27), (.var 28), (.var 29), (.var 30), (.var 31), (.var 32), (.var 33), (.var 34), (.var 35), (.var 36), .nili]))
def tr_Sees : Tree := (.call k_Check [(.var 0), (.var 1), (.var 2), (.var 3), (.var 4), (.var 5), (.var 6), (.var 7), (.var 8), (.var 9), (.var 10), (.var 11), (.var 12), (.var 13), (.var 14), (.var 15), (.var 16), (.var 17), (.var 18), (.var 19), (.var 20), (.var 21), (.var 22), (.var 23), (.var 24), (.var 25), (.var 26), (.var 27), (.var 28), (.var 29), (.var 30), (.var 31), (.var 32), (.var 33), (.var 34), (.var 35), (.var 36)] [.err] (.ite (.not (.isnil (.var 38))) (.ret [(.nil 49), (.nil 3), (.nil 3), (.nil 3), (.nil 3), (.nil 3), (.nil 3), (.nil 3), (.nil 3), (.nil 3), (.nil 3), (.nil 3), (.int .i64 0), (.int .i64 0), (.int .i64 0), (.int .i64 0), (.int .i64 0), (.int .i64 0), (.int .i64 0), (.int .i64 0), (.int .i64 0), (.int .i64 0), (.int .i64 0), (.int .i64 0), (.int .i64 0), (.int .i64 0), (.int .i64 0), (.int .i64 0), (.int .i64 0), (.int .i64 0), (.int .i64 0), (.int .i64 0), (.int .i64 0), (.int .i64 0), (.int .i64 0), (.int .i64 0), (.int .i64 0), (.var 38)]) (.ite (.not (.or (.cmp .eq (.var 37) (.int .i64 0)) (.cmp .eq (.var 37) (.int .i64 1)))) (.ret [(.nil 49), (.nil 3), (.nil 3), (.nil 3), (.nil 3), (.nil 3), (.nil 3), (.nil 3), (.nil 3), (.nil 3), (.nil 3), (.nil 3), (.int .i64 0), (.int .i64 0), (.int .i64 0), (.int .i64 0), (.int .i64 0), (.int .i64 0), (.int .i64 0), (.int .i64 0), (.int .i64 0), (.int .i64 0), (.int .i64 0), (.int .i64 0), (.int .i64 0), (.int .i64 0), (.int .i64 0), (.int .i64 0), (.int .i64 0), (.int .i64 0), (.int .i64 0), (.int .i64 0), (.int .i64 0), (.int .i64 0), (.int .i64 0), (.int .i64 0), (.int .i64 0), (.ifc (.int .i64 1))]) (.ite (.isnil (.var 0)) (.loop [(.int .i64 0), (.var 1), (.var 2), (.var 3), (.var 4), (.var 5), (.var 6), (.var 7), (.var 8), (.var 9), (.var 10), (.var 11)] [(.int .i64), (.list 3), (.list 3), (.list 3), (.list 3), (.list 3), (.list 3), (.list 3), (.list 3), (.list 3), (.list 3), (.list 3)] (.ite (.cmp .lt (.var 39) (.int .i64 11)) tr_Sees_1 (.loop [(.int .i64 0), .emp] [(.int .i64), (.rows 49)] (.ite (.cmp .lt (.var 51) (.int .i64 0)) tr_Sees_2 tr_Sees_3)))) (.ob (.cmp .le (.len (.app .emp (.var 0))) (.int .i64 977343669134)) (.loop [(.int .i64 0), (.var 1), (.var 2), (.var 3), (.var 4), (.var 5), (.var 6), (.var 7), (.var 8), (.var 9), (.var 10), (.var 11)] [(.int .i64), (.list 3), (.list 3), (.list 3), (.list 3), (.list 3), (.list 3), (.list 3), (.list 3), (.list 3), (.list 3), (.list 3)] (.ite (.cmp .lt (.var 39) (.int .i64 11)) tr_Sees_1 (.loop [(.int .i64 0), (.app .emp (.var 0))] [(.int .i64), (.rows 49)] (.ite (.cmp .lt (.var 51) (.len (.app .emp (.var 0)))) tr_Sees_2 tr_Sees_3)))))))))
theorem wk_Sees : walk E0.cx (sgsN [(21, sg_Check), (24, sg_seen)]) 0 8 sg_Sees = tr_Sees := by kernel_rfl
theorem bo_Sees : ∃ x, bodyOf E0.P 8 = some x := bo_of (by kernel_rfl)
theorem sp_Sees_Check : specC [con_Check, con_seen] k_Check = Check_s := rfl
theorem sp_Sees_seen : specC [con_Check, con_seen] k_seen = seen_s := rfl
theorem sees1 {Φ : Nat → Spec} {Q : List Dat → Prop} {ds : List Dat} (hl : ds.length = 38) (hnl : ∀ d ∈ ds, NilOk d) (hsm : Sm (ds.take 37)) {e d0 d1 d2 d3 d4 d5 d6 d7 d8 d9 d10 : Dat} {z : Nat} (hz : z < 11)
    (hI : I1 ds [.int .i64 z, d0, d1, d2, d3, d4, d5, d6, d7, d8, d9, d10] (11 - z)) : wp E0.Δ Φ Q tr_Sees_1 (ds ++ [e, .int .i64 z, d0, d1, d2, d3, d4, d5, d6, d7, d8, d9, d10]) [(I1 ds, 11 - z)] := by
  simp only [tr_Sees_1, wp, den_int, den_bool, den_nili, den_ar, den_cmp, den_not, den_len, den_elem, den_isnil, den_errI, den_ifc, den_rep, den_push, den_app, den_emp, den_upd, row0_econs, row0_enil, den_and, den_beq, den_nil, toInt_int, toBool_bool, xs_rows, xs_list, dflt_int, dflt_bool, of_eq, of_ne, of_lt, of_le, of_gt, of_ge, of_add, of_sub, of_rem, List.map_cons, List.map_nil, Dat.bool.injEq, decide_eq_true_eq, decide_eq_false_iff_not, Bool.not_eq_true', Bool.not_eq_false', beq_iff_eq, bne_iff_ne, beq_eq_false_iff_ne, bne_eq_false_iff_eq, ne_eq, List.append_assoc, List.cons_append, List.nil_append, allS, den_sel, row0_econs, row0_enil, den_elem, den_len, @den_var0 E0.Δ ds, den_varA, den_varB, hl, Nat.reduceLT, Nat.reduceLeDiff, Nat.reduceSub, List.getD_cons_zero, List.getD_cons_succ, argL_fold ds, argI_fold ds, List.append_assoc, List.cons_append, List.nil_append, toInt_int, toBool_bool, xs_rows, xs_list, Int.toNat_natCast, Dat.bool.injEq, den_ite]
  simp only [ites11 hz, I1_sel hI hz, List.getElem?_cons_zero]
  have hx : (ds.getD (z + 1) (.bool false)).xs = argL ds (z + 1) := rfl
  have hlen := hsm (z + 1) (by omega)
  have e37 : argL (ds.take 37) (z + 1) = argL ds (z + 1) := by
    unfold argL
    rw [List.getD_eq_getElem?_getD, List.getD_eq_getElem?_getD, List.getElem?_take_of_lt (by omega)]
  rw [e37] at hlen
  refine ⟨by omega, fun hn => ⟨by omega, fun A c => ⟨11 - (z + 1), by omega, I1_step hI hz ?_⟩⟩, fun hn => ⟨by rw [hx]; omega, by omega, fun A c => ⟨11 - (z + 1), by omega, I1_step hI hz rfl⟩⟩⟩
  rw [← hx, hnl _ (getD_memL (by omega)) hn]; rfl
theorem obj_len {d : Dat} (h : Has E0.Δ (.list 49) d) : ∀ r ∈ d.xs, r.length = 18 := by
  cases h with
  | list _ A n c xs hl _ => exact fun r hr => hl r hr
theorem argL_take {ds : List Dat} {k i : Nat} (h : i < k) : argL (ds.take k) i = argL ds i := by
  unfold argL; rw [List.getD_eq_getElem?_getD, List.getD_eq_getElem?_getD, List.getElem?_take_of_lt h]
theorem sees2 {Φ : Nat → Spec} (s2 : Φ k_seen = seen_s) {Q : List Dat → Prop} {ds : List Dat} (hl : ds.length = 38) (hsm : Sm (ds.take 37)) {e d0 d1 d2 d3 d4 d5 d6 d7 d8 d9 d10 : Dat} {i : Nat} (hi : i < (argL ds 0).length) {J : Inv × Nat} (hp : argI ds 37 = 0 ∨ argI ds 37 = 1) (hrow : ∀ r ∈ argL ds 0, r.length = 18) :
    wp E0.Δ Φ Q tr_Sees_2 (ds ++ [e, .int .i64 11, d0, d1, d2, d3, d4, d5, d6, d7, d8, d9, d10, .int .i64 i, .rows (((argL ds 0).take i).map (seenF (argI ds 37)) ++ (argL ds 0).drop i)]) [J, (I2 (argI ds 37) ds, (argL ds 0).length - i)] := by
  have hlt : 37 < ds.length := by omega
  simp only [tr_Sees_2, wp, den_int, den_bool, den_nili, den_ar, den_cmp, den_not, den_len, den_elem, den_isnil, den_errI, den_ifc, den_rep, den_push, den_app, den_emp, row0_econs, row0_enil, den_and, den_beq, den_nil, toInt_int, toBool_bool, xs_rows, xs_list, dflt_int, dflt_bool, of_eq, of_ne, of_lt, of_le, of_gt, of_ge, of_add, of_sub, of_rem, List.map_cons, List.map_nil, Dat.bool.injEq, decide_eq_true_eq, decide_eq_false_iff_not, Bool.not_eq_true', Bool.not_eq_false', beq_iff_eq, bne_iff_ne, beq_eq_false_iff_ne, bne_eq_false_iff_eq, ne_eq, List.append_assoc, List.cons_append, List.nil_append, allS, s2, seen_s, @den_var0 E0.Δ ds, den_varA, den_varB, hl, Nat.reduceLT, Nat.reduceLeDiff, Nat.reduceSub, List.getD_cons_zero, List.getD_cons_succ, argL_fold ds, argI_fold ds, List.append_assoc, List.cons_append, List.nil_append, toInt_int, toBool_bool, xs_rows, xs_list, Int.toNat_natCast, Dat.bool.injEq, den_or, den_conv, argI_c0, argI_c1, map_get _ hi, map_len, List.getElem?_cons_zero, List.getElem?_cons_succ, seenR]
  have hb : ∀ c : Bool, (decide (0 ≤ argI ds 37) && decide (argI ds 37 < 64) && c) = c := fun c => by
    rw [decide_eq_true (show 0 ≤ argI ds 37 by omega), decide_eq_true (show argI ds 37 < 64 by omega)]; rfl
  rw [has_kn hp, hb]
  have hmem := getD_memL (d := []) hi
  have h18 : (((argL ds 0).take i).map (seenF (argI ds 37)) ++ (argL ds 0).drop i).getD i [] = (argL ds 0).getD i [] := map_get _ hi
  have h1m : ((argL ds 0).length : Int) ≤ 1000000 := by have := hsm 0 (by omega); rw [argL_take (by omega)] at this; omega
  refine ⟨by omega, by omega, ?_, fun hk => ⟨hp, hk, by omega, by omega, (argL ds 0).length - (i + 1), by omega, i + 1, by omega, rfl, ?_⟩, fun hk => ⟨(argL ds 0).length - (i + 1), by omega, i + 1, by omega, rfl, ?_⟩⟩
  · rw [decide_eq_true (show 0 ≤ IntKind.u64.wrap (argI ds 37) by rw [wrapU]; omega), Bool.or_true]
  · refine congr (congrArg List.cons ?_) (congrArg (fun x => [x]) ((upds_all (a := .var 52) (ix := .var 51) (i := i) (L := ((argL ds 0).take i).map (seenF (argI ds 37)) ++ (argL ds 0).drop i) (ts := [.var 53, .var 54, .var 55, .var 56, .var 57, .var 58, .var 59, .var 60, .var 61, .var 62, .var 63, .var 64, .var 65, .var 66, .var 67, .var 68, .var 69, .var 70]) (by simp only [@den_var0 E0.Δ ds, den_varA, den_varB, hl, Nat.reduceLT, Nat.reduceLeDiff, Nat.reduceSub, List.getD_cons_zero, List.getD_cons_succ, argL_fold ds, argI_fold ds, List.append_assoc, List.cons_append, List.nil_append, toInt_int, toBool_bool, xs_rows, xs_list, Int.toNat_natCast, Dat.bool.injEq]) (by simp only [@den_var0 E0.Δ ds, den_varA, den_varB, hl, Nat.reduceLT, Nat.reduceLeDiff, Nat.reduceSub, List.getD_cons_zero, List.getD_cons_succ, argL_fold ds, argI_fold ds, List.append_assoc, List.cons_append, List.nil_append, toInt_int, toBool_bool, xs_rows, xs_list, Int.toNat_natCast, Dat.bool.injEq]) (by rw [map_len]; exact hi) (by rw [h18]; exact hrow _ hmem)).trans ?_))
    · rw [wrap64 (by omega) (by omega)]; rfl
    · simp only [List.map_cons, List.map_nil, @den_var0 E0.Δ ds, den_varA, den_varB, hl, Nat.reduceLT, Nat.reduceLeDiff, Nat.reduceSub, List.getD_cons_zero, List.getD_cons_succ, argL_fold ds, argI_fold ds, List.append_assoc, List.cons_append, List.nil_append, toInt_int, toBool_bool, xs_rows, xs_list, Int.toNat_natCast, Dat.bool.injEq]
      rw [← map_set _ hi]
      congr 2
      unfold seenF
      have hk' : kn (argI ds 37) (rowI ((argL ds 0).getD i []) 17) = false := hk
      rw [hk']; rfl
  · rw [wrap64 (by omega) (by omega), map_keep _ hi]
    · rfl
    · have hk' : kn (argI ds 37) (rowI ((argL ds 0).getD i []) 17) = true := hk
      unfold seenF; rw [if_pos hk']
theorem Sees_h : Holds E0 k_Sees sg_Sees Sees_s := con_fnN wf0 mix0 g0 [con_Check, con_seen] rfl wk_Sees rfl (by
  intro Φ hΦ ds Q hs hnl ⟨hsm, h⟩
  have hl : ds.length = 38 := hs.length.symm
  have s1 : Φ k_Check = Check_s := by rw [hΦ]; rfl
  have s2 : Φ k_seen = seen_s := by rw [hΦ]; rfl
  clear hΦ
  have hrow := obj_len (all2_get hs (i := 0) rfl)
  rw [argL_fold] at hrow
  simp only [tr_Sees, wp, den_int, den_bool, den_nili, den_ar, den_cmp, den_not, den_len, den_elem, den_isnil, den_errI, den_ifc, den_rep, den_push, den_app, den_emp, den_upd, row0_econs, row0_enil, den_and, den_beq, den_nil, toInt_int, toBool_bool, xs_rows, xs_list, dflt_int, dflt_bool, of_eq, of_ne, of_lt, of_le, of_gt, of_ge, of_add, of_sub, of_rem, List.map_cons, List.map_nil, Dat.bool.injEq, decide_eq_true_eq, decide_eq_false_iff_not, Bool.not_eq_true', Bool.not_eq_false', beq_iff_eq, bne_iff_ne, beq_eq_false_iff_ne, bne_eq_false_iff_eq, ne_eq, List.append_assoc, List.cons_append, List.nil_append, allS, s1, s2, Check_s, @den_var0 E0.Δ ds, den_varA, den_varB, hl, Nat.reduceLT, Nat.reduceLeDiff, Nat.reduceSub, List.getD_cons_zero, List.getD_cons_succ, argL_fold ds, argI_fold ds, List.append_assoc, List.cons_append, List.nil_append, toInt_int, toBool_bool, xs_rows, xs_list, Int.toNat_natCast, Dat.bool.injEq, take37 hl, den_or]
  refine ⟨hsm, fun n hn => ?_⟩
  have hh := h n hn
  rw [errV_nil]
  refine ⟨fun h0 => hh.1 (of_decide_eq_false h0), fun h0 => ?_⟩
  obtain ⟨h1, h2⟩ := hh.2 (of_decide_eq_true h0)
  refine ⟨fun hp => h1 (by simpa using hp), fun hp => ?_⟩
  have hp : argI ds 37 = 0 ∨ argI ds 37 = 1 := by simpa using hp
  have h2 := h2 hp
  refine ⟨fun hn => ?_, fun hn => ⟨by have := hsm 0 (by omega); rw [argL_take (by omega)] at this; omega, ?_⟩⟩
  · have hzz : argL ds 0 = [] := hnl _ (getD_memL (by omega)) hn
    refine ⟨I1 ds, ⟨11, 0, by omega, rfl, rfl, rfl, fun y hy => absurd hy (by omega), fun y _ hy => match y, hy with
      | 0, _ => rfl
      | 1, _ => rfl
      | 2, _ => rfl
      | 3, _ => rfl
      | 4, _ => rfl
      | 5, _ => rfl
      | 6, _ => rfl
      | 7, _ => rfl
      | 8, _ => rfl
      | 9, _ => rfl
      | 10, _ => rfl⟩, ?_⟩
    intro z' d0 hd0 d1 hd1 d2 hd2 d3 hd3 d4 hd4 d5 hd5 d6 hd6 d7 hd7 d8 hd8 d9 hd9 d10 hd10 m hI
    have hI2 := hI
    obtain ⟨z, hz, hm, _, hz0, hA, hB⟩ := hI2
    have hz0 : Dat.int .i64 z' = .int .i64 z := hz0
    cases hz0
    refine ⟨fun hlt => ?_, fun hge => ?_⟩
    · subst hm; exact sees1 hl hnl hsm (by omega) hI
    obtain rfl : z = 11 := by omega
    refine ⟨fun xs m => xs = [.int .i64 0, .rows []], ⟨0, rfl⟩, ?_⟩
    intro n2 d11 hd m1 e
    cases e
    refine ⟨fun hlt => absurd hlt (by omega), fun hge => ?_⟩
    · simp only [tr_Sees_3, wp, den_int, den_bool, den_nili, den_ar, den_cmp, den_not, den_len, den_elem, den_isnil, den_errI, den_ifc, den_rep, den_push, den_app, den_emp, den_upd, row0_econs, row0_enil, den_and, den_beq, den_nil, toInt_int, toBool_bool, xs_rows, xs_list, dflt_int, dflt_bool, of_eq, of_ne, of_lt, of_le, of_gt, of_ge, of_add, of_sub, of_rem, List.map_cons, List.map_nil, Dat.bool.injEq, decide_eq_true_eq, decide_eq_false_iff_not, Bool.not_eq_true', Bool.not_eq_false', beq_iff_eq, bne_iff_ne, beq_eq_false_iff_ne, bne_eq_false_iff_eq, ne_eq, List.append_assoc, List.cons_append, List.nil_append, allS, @den_var0 E0.Δ ds, den_varA, den_varB, hl, Nat.reduceLT, Nat.reduceLeDiff, Nat.reduceSub, List.getD_cons_zero, List.getD_cons_succ, argL_fold ds, argI_fold ds, List.append_assoc, List.cons_append, List.nil_append, toInt_int, toBool_bool, xs_rows, xs_list, Int.toNat_natCast, Dat.bool.injEq]
      intro A c
      refine h2 [.list (.slice A _ c) _ _, d0, d1, d2, d3, d4, d5, d6, d7, d8, d9, d10, ds.getD 12 (.bool false), ds.getD 13 (.bool false), ds.getD 14 (.bool false), ds.getD 15 (.bool false), ds.getD 16 (.bool false), ds.getD 17 (.bool false), ds.getD 18 (.bool false), ds.getD 19 (.bool false), ds.getD 20 (.bool false), ds.getD 21 (.bool false), ds.getD 22 (.bool false), ds.getD 23 (.bool false), ds.getD 24 (.bool false), ds.getD 25 (.bool false), ds.getD 26 (.bool false), ds.getD 27 (.bool false), ds.getD 28 (.bool false), ds.getD 29 (.bool false), ds.getD 30 (.bool false), ds.getD 31 (.bool false), ds.getD 32 (.bool false), ds.getD 33 (.bool false), ds.getD 34 (.bool false), ds.getD 35 (.bool false), ds.getD 36 (.bool false)] rfl ⟨?_, fun y hy => match y, hy with
        | 0, _ => hA 0 (by omega)
        | 1, _ => hA 1 (by omega)
        | 2, _ => hA 2 (by omega)
        | 3, _ => hA 3 (by omega)
        | 4, _ => hA 4 (by omega)
        | 5, _ => hA 5 (by omega)
        | 6, _ => hA 6 (by omega)
        | 7, _ => hA 7 (by omega)
        | 8, _ => hA 8 (by omega)
        | 9, _ => hA 9 (by omega)
        | 10, _ => hA 10 (by omega), fun i hi => match i, hi with
        | 0, _ => argI_fold ds 12
        | 1, _ => argI_fold ds 13
        | 2, _ => argI_fold ds 14
        | 3, _ => argI_fold ds 15
        | 4, _ => argI_fold ds 16
        | 5, _ => argI_fold ds 17
        | 6, _ => argI_fold ds 18
        | 7, _ => argI_fold ds 19
        | 8, _ => argI_fold ds 20
        | 9, _ => argI_fold ds 21
        | 10, _ => argI_fold ds 22
        | 11, _ => argI_fold ds 23
        | 12, _ => argI_fold ds 24
        | 13, _ => argI_fold ds 25
        | 14, _ => argI_fold ds 26
        | 15, _ => argI_fold ds 27
        | 16, _ => argI_fold ds 28
        | 17, _ => argI_fold ds 29
        | 18, _ => argI_fold ds 30
        | 19, _ => argI_fold ds 31
        | 20, _ => argI_fold ds 32
        | 21, _ => argI_fold ds 33
        | 22, _ => argI_fold ds 34
        | 23, _ => argI_fold ds 35
        | 24, _ => argI_fold ds 36
        | i + 25, h => absurd h (by omega)⟩
      rw [hzz]; rfl
  · refine ⟨I1 ds, ⟨11, 0, by omega, rfl, rfl, rfl, fun y hy => absurd hy (by omega), fun y _ hy => match y, hy with
      | 0, _ => rfl
      | 1, _ => rfl
      | 2, _ => rfl
      | 3, _ => rfl
      | 4, _ => rfl
      | 5, _ => rfl
      | 6, _ => rfl
      | 7, _ => rfl
      | 8, _ => rfl
      | 9, _ => rfl
      | 10, _ => rfl⟩, ?_⟩
    intro z' d0 hd0 d1 hd1 d2 hd2 d3 hd3 d4 hd4 d5 hd5 d6 hd6 d7 hd7 d8 hd8 d9 hd9 d10 hd10 m hI
    have hI2 := hI
    obtain ⟨z, hz, hm, _, hz0, hA, hB⟩ := hI2
    have hz0 : Dat.int .i64 z' = .int .i64 z := hz0
    cases hz0
    refine ⟨fun hlt => ?_, fun hge => ?_⟩
    · subst hm; exact sees1 hl hnl hsm (by omega) hI
    obtain rfl : z = 11 := by omega
    refine ⟨I2 (argI ds 37) ds, ⟨_, 0, by omega, rfl, rfl⟩, ?_⟩
    rintro n2 d11 hd m1 ⟨i, hi, hm1, e⟩
    cases e
    refine ⟨fun hlt => ?_, fun hge => ?_⟩
    · subst hm1; exact sees2 s2 hl hsm (by omega) hp hrow
    · simp only [tr_Sees_3, wp, den_int, den_bool, den_nili, den_ar, den_cmp, den_not, den_len, den_elem, den_isnil, den_errI, den_ifc, den_rep, den_push, den_app, den_emp, den_upd, row0_econs, row0_enil, den_and, den_beq, den_nil, toInt_int, toBool_bool, xs_rows, xs_list, dflt_int, dflt_bool, of_eq, of_ne, of_lt, of_le, of_gt, of_ge, of_add, of_sub, of_rem, List.map_cons, List.map_nil, Dat.bool.injEq, decide_eq_true_eq, decide_eq_false_iff_not, Bool.not_eq_true', Bool.not_eq_false', beq_iff_eq, bne_iff_ne, beq_eq_false_iff_ne, bne_eq_false_iff_eq, ne_eq, List.append_assoc, List.cons_append, List.nil_append, allS, @den_var0 E0.Δ ds, den_varA, den_varB, hl, Nat.reduceLT, Nat.reduceLeDiff, Nat.reduceSub, List.getD_cons_zero, List.getD_cons_succ, argL_fold ds, argI_fold ds, List.append_assoc, List.cons_append, List.nil_append, toInt_int, toBool_bool, xs_rows, xs_list, Int.toNat_natCast, Dat.bool.injEq]
      intro A c
      refine h2 [.list (.slice A _ c) _ _, d0, d1, d2, d3, d4, d5, d6, d7, d8, d9, d10, ds.getD 12 (.bool false), ds.getD 13 (.bool false), ds.getD 14 (.bool false), ds.getD 15 (.bool false), ds.getD 16 (.bool false), ds.getD 17 (.bool false), ds.getD 18 (.bool false), ds.getD 19 (.bool false), ds.getD 20 (.bool false), ds.getD 21 (.bool false), ds.getD 22 (.bool false), ds.getD 23 (.bool false), ds.getD 24 (.bool false), ds.getD 25 (.bool false), ds.getD 26 (.bool false), ds.getD 27 (.bool false), ds.getD 28 (.bool false), ds.getD 29 (.bool false), ds.getD 30 (.bool false), ds.getD 31 (.bool false), ds.getD 32 (.bool false), ds.getD 33 (.bool false), ds.getD 34 (.bool false), ds.getD 35 (.bool false), ds.getD 36 (.bool false)] rfl ⟨?_, fun y hy => match y, hy with
        | 0, _ => hA 0 (by omega)
        | 1, _ => hA 1 (by omega)
        | 2, _ => hA 2 (by omega)
        | 3, _ => hA 3 (by omega)
        | 4, _ => hA 4 (by omega)
        | 5, _ => hA 5 (by omega)
        | 6, _ => hA 6 (by omega)
        | 7, _ => hA 7 (by omega)
        | 8, _ => hA 8 (by omega)
        | 9, _ => hA 9 (by omega)
        | 10, _ => hA 10 (by omega), fun i hi => match i, hi with
        | 0, _ => argI_fold ds 12
        | 1, _ => argI_fold ds 13
        | 2, _ => argI_fold ds 14
        | 3, _ => argI_fold ds 15
        | 4, _ => argI_fold ds 16
        | 5, _ => argI_fold ds 17
        | 6, _ => argI_fold ds 18
        | 7, _ => argI_fold ds 19
        | 8, _ => argI_fold ds 20
        | 9, _ => argI_fold ds 21
        | 10, _ => argI_fold ds 22
        | 11, _ => argI_fold ds 23
        | 12, _ => argI_fold ds 24
        | 13, _ => argI_fold ds 25
        | 14, _ => argI_fold ds 26
        | 15, _ => argI_fold ds 27
        | 16, _ => argI_fold ds 28
        | 17, _ => argI_fold ds 29
        | 18, _ => argI_fold ds 30
        | 19, _ => argI_fold ds 31
        | 20, _ => argI_fold ds 32
        | 21, _ => argI_fold ds 33
        | 22, _ => argI_fold ds 34
        | 23, _ => argI_fold ds 35
        | 24, _ => argI_fold ds 36
        | i + 25, h => absurd h (by omega)⟩
      show ((argL ds 0).take i).map (seenF (argI ds 37)) ++ (argL ds 0).drop i = _
      rw [List.take_of_length_le (by omega), List.drop_of_length_le (by omega), List.append_nil])
noncomputable def con_Sees : Con E0 := ⟨k_Sees, sg_Sees, Sees_s, rfl, bo_Sees, Sees_h⟩
end Go.Proofs.YtlgfnimahmmgeaaDoor
