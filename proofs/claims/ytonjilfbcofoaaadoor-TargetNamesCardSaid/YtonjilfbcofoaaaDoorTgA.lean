/-
  TargetNames: which object, or player, any target is.
-/
import Derived.Test.YtonjilfbcofoaaaDoorStLong
import Derived.Test.YtonjilfbcofoaaaDoorNums
namespace Go.Proofs.YtonjilfbcofoaaaDoor
open Go.RowKit
set_option linter.unusedVariables false
set_option linter.unusedSimpArgs false

/-! shape.Is where it is not reached -/
def k_sIs0 : Nat := 34
def sg_sIs0 : Sig := ⟨[(true, [.list 50] ++ List.replicate 11 (.list 3) ++ List.replicate 25 (.int .i64)), (false, [.int .i64])], [(false, [.bool])], false, false, false⟩
theorem bo_sIs0 : ∃ x, bodyOf E0.P 34 = some x := bo_of (by kernel_rfl)
def sIs0_s : Spec := fun _ _ => False
theorem sIs0_h : Holds E0 k_sIs0 sg_sIs0 sIs0_s := fun w ds Q _ _ _ _ h => h.elim
noncomputable def con_sIs0 : Con E0 := ⟨k_sIs0, sg_sIs0, sIs0_s, rfl, bo_sIs0, sIs0_h⟩
theorem take37' {ds : List Dat} (h : 37 ≤ ds.length) : [ds.getD 0 (.bool false), ds.getD 1 (.bool false), ds.getD 2 (.bool false), ds.getD 3 (.bool false), ds.getD 4 (.bool false), ds.getD 5 (.bool false), ds.getD 6 (.bool false), ds.getD 7 (.bool false), ds.getD 8 (.bool false), ds.getD 9 (.bool false), ds.getD 10 (.bool false), ds.getD 11 (.bool false), ds.getD 12 (.bool false), ds.getD 13 (.bool false), ds.getD 14 (.bool false), ds.getD 15 (.bool false), ds.getD 16 (.bool false), ds.getD 17 (.bool false), ds.getD 18 (.bool false), ds.getD 19 (.bool false), ds.getD 20 (.bool false), ds.getD 21 (.bool false), ds.getD 22 (.bool false), ds.getD 23 (.bool false), ds.getD 24 (.bool false), ds.getD 25 (.bool false), ds.getD 26 (.bool false), ds.getD 27 (.bool false), ds.getD 28 (.bool false), ds.getD 29 (.bool false), ds.getD 30 (.bool false), ds.getD 31 (.bool false), ds.getD 32 (.bool false), ds.getD 33 (.bool false), ds.getD 34 (.bool false), ds.getD 35 (.bool false), ds.getD 36 (.bool false)] = ds.take 37 := by
  refine List.ext_getElem (by rw [List.length_take, Nat.min_eq_left h]; rfl) fun i h1 h2 => ?_
  rw [List.getElem_take]
  have e : ∀ j (hj : j < ds.length), ds.getD j (.bool false) = ds[j] := fun j hj => by rw [List.getD_eq_getElem?_getD, List.getElem?_eq_getElem hj]; rfl
  have h3 : i < 37 := h1
  match i, h3 with
  | 0, _ => exact e 0 (by omega)
  | 1, _ => exact e 1 (by omega)
  | 2, _ => exact e 2 (by omega)
  | 3, _ => exact e 3 (by omega)
  | 4, _ => exact e 4 (by omega)
  | 5, _ => exact e 5 (by omega)
  | 6, _ => exact e 6 (by omega)
  | 7, _ => exact e 7 (by omega)
  | 8, _ => exact e 8 (by omega)
  | 9, _ => exact e 9 (by omega)
  | 10, _ => exact e 10 (by omega)
  | 11, _ => exact e 11 (by omega)
  | 12, _ => exact e 12 (by omega)
  | 13, _ => exact e 13 (by omega)
  | 14, _ => exact e 14 (by omega)
  | 15, _ => exact e 15 (by omega)
  | 16, _ => exact e 16 (by omega)
  | 17, _ => exact e 17 (by omega)
  | 18, _ => exact e 18 (by omega)
  | 19, _ => exact e 19 (by omega)
  | 20, _ => exact e 20 (by omega)
  | 21, _ => exact e 21 (by omega)
  | 22, _ => exact e 22 (by omega)
  | 23, _ => exact e 23 (by omega)
  | 24, _ => exact e 24 (by omega)
  | 25, _ => exact e 25 (by omega)
  | 26, _ => exact e 26 (by omega)
  | 27, _ => exact e 27 (by omega)
  | 28, _ => exact e 28 (by omega)
  | 29, _ => exact e 29 (by omega)
  | 30, _ => exact e 30 (by omega)
  | 31, _ => exact e 31 (by omega)
  | 32, _ => exact e 32 (by omega)
  | 33, _ => exact e 33 (by omega)
  | 34, _ => exact e 34 (by omega)
  | 35, _ => exact e 35 (by omega)
  | 36, _ => exact e 36 (by omega)
  | i + 37, h => exact absurd h (by omega)
def preT (b : Bool) (k : Nat) : List (List Dat) := if b then ([[.int .i64 (-2)], [.int .i64 (-1)]] : List (List Dat)).take k else if k = 3 then [[.int .i64 0]] else []
def tList0_s : Spec := fun ds Q => Sm (ds.take 37) ∧ errP (ds.take 37) 0 ∧ argL ds 0 = [] ∧ ∃ b : Bool, argI ds 37 = (if b then 3 else 0) ∧ Q [.rows (preT b 3)]
def k_tList0 : Nat := 12
def sg_tList0 : Sig := ⟨[(true, [.list 50] ++ List.replicate 11 (.list 3) ++ List.replicate 25 (.int .i64)), (false, [.int .i64]), (false, [.int .i64])], [(false, [.rows 3])], true, false, true⟩
def tr_tList0 : Tree := (.call k_Check [(.var 0), (.var 1), (.var 2), (.var 3), (.var 4), (.var 5), (.var 6), (.var 7), (.var 8), (.var 9), (.var 10), (.var 11), (.var 12), (.var 13), (.var 14), (.var 15), (.var 16), (.var 17), (.var 18), (.var 19), (.var 20), (.var 21), (.var 22), (.var 23), (.var 24), (.var 25), (.var 26), (.var 27), (.var 28), (.var 29), (.var 30), (.var 31), (.var 32), (.var 33), (.var 34), (.var 35), (.var 36)] [.err]
(.ite (.not (.isnil (.var 39)))
 (.ret [.emp])
 (.loop [.emp, (.int .i64 (-2))] [(.rows 3), (.int .i64)]
  (.ite (.cmp .le (.var 41) (.len (.var 0)))
   (.ite (.cmp .ge (.var 37) (.int .i64 0))
    (.ite (.cmp .lt (.var 37) (.int .i64 6))
     (.ite (.cmp .eq (.var 37) (.int .i64 0))
      (.ite (.cmp .eq (.var 41) (.int .i64 0))
       (.ob (.cmp .le (.len (.push (.var 40) (.econs (.var 41) .enil))) (.int .i64 17592186044416))
       (.again 0 [(.push (.var 40) (.econs (.var 41) .enil)), (.ar .add .i64 (.var 41) (.int .i64 1))]))
       (.again 0 [(.var 40), (.ar .add .i64 (.var 41) (.int .i64 1))]))
      (.ite (.not (.and (.cmp .ne (.var 41) (.int .i64 (-1))) (.cmp .ne (.var 41) (.int .i64 (-2)))))
       (.ite (.or (.cmp .eq (.var 37) (.int .i64 2)) (.cmp .eq (.var 37) (.int .i64 3)))
        (.ob (.cmp .le (.len (.push (.var 40) (.econs (.var 41) .enil))) (.int .i64 17592186044416))
        (.again 0 [(.push (.var 40) (.econs (.var 41) .enil)), (.ar .add .i64 (.var 41) (.int .i64 1))]))
        (.again 0 [(.var 40), (.ar .add .i64 (.var 41) (.int .i64 1))]))
       (.ite (.or (.not (.not (.cmp .le (.var 41) (.int .i64 0)))) (.cmp .ge (.ite (.cmp .le (.var 41) (.int .i64 0)) (.int .i64 0) (.ar .sub .i64 (.var 41) (.int .i64 1))) (.len (.var 0))))
        (.again 0 [(.var 40), (.ar .add .i64 (.var 41) (.int .i64 1))])
        (.ite (.or (.cmp .eq (.var 37) (.int .i64 1)) (.cmp .eq (.var 37) (.int .i64 3)))
         (.call k_sIs0 [(.var 0), (.var 1), (.var 2), (.var 3), (.var 4), (.var 5), (.var 6), (.var 7), (.var 8), (.var 9), (.var 10), (.var 11), (.var 12), (.var 13), (.var 14), (.var 15), (.var 16), (.var 17), (.var 18), (.var 19), (.var 20), (.var 21), (.var 22), (.var 23), (.var 24), (.var 25), (.var 26), (.var 27), (.var 28), (.var 29), (.var 30), (.var 31), (.var 32), (.var 33), (.var 34), (.var 35), (.var 36), (.ite (.cmp .le (.var 41) (.int .i64 0)) (.int .i64 0) (.ar .sub .i64 (.var 41) (.int .i64 1)))] [.bool]
         (.ite (.var 42)
          (.ob (.cmp .le (.len (.push (.var 40) (.econs (.var 41) .enil))) (.int .i64 17592186044416))
          (.again 0 [(.push (.var 40) (.econs (.var 41) .enil)), (.ar .add .i64 (.var 41) (.int .i64 1))]))
          (.again 0 [(.var 40), (.ar .add .i64 (.var 41) (.int .i64 1))])))
         (.ite (.cmp .eq (.var 37) (.int .i64 4))
          (.ob (.cmp .ge (.ite (.cmp .le (.var 41) (.int .i64 0)) (.int .i64 0) (.ar .sub .i64 (.var 41) (.int .i64 1))) (.int .i64 0))
          (.ite (.and (.cmp .ne (.ite (.cmp .le (.var 41) (.int .i64 0)) (.int .i64 0) (.ar .sub .i64 (.var 41) (.int .i64 1))) (.var 38)) (.and (.cmp .eq (.elem (.var 0) (.ite (.cmp .le (.var 41) (.int .i64 0)) (.int .i64 0) (.ar .sub .i64 (.var 41) (.int .i64 1))) 3 (.int .i64)) (.int .i64 9)) (.cmp .ne (.elem (.var 0) (.ite (.cmp .le (.var 41) (.int .i64 0)) (.int .i64 0) (.ar .sub .i64 (.var 41) (.int .i64 1))) 13 (.int .i64)) (.int .i64 2))))
           (.ob (.cmp .le (.len (.push (.var 40) (.econs (.var 41) .enil))) (.int .i64 17592186044416))
           (.again 0 [(.push (.var 40) (.econs (.var 41) .enil)), (.ar .add .i64 (.var 41) (.int .i64 1))]))
           (.again 0 [(.var 40), (.ar .add .i64 (.var 41) (.int .i64 1))])))
          (.ite (.cmp .eq (.var 37) (.int .i64 5))
           (.ob (.cmp .ge (.ite (.cmp .le (.var 41) (.int .i64 0)) (.int .i64 0) (.ar .sub .i64 (.var 41) (.int .i64 1))) (.int .i64 0))
           (.ite (.cmp .eq (.elem (.var 0) (.ite (.cmp .le (.var 41) (.int .i64 0)) (.int .i64 0) (.ar .sub .i64 (.var 41) (.int .i64 1))) 3 (.int .i64)) (.int .i64 8))
            (.ob (.cmp .le (.len (.push (.var 40) (.econs (.var 41) .enil))) (.int .i64 17592186044416))
            (.again 0 [(.push (.var 40) (.econs (.var 41) .enil)), (.ar .add .i64 (.var 41) (.int .i64 1))]))
            (.again 0 [(.var 40), (.ar .add .i64 (.var 41) (.int .i64 1))])))
           (.again 0 [(.var 40), (.ar .add .i64 (.var 41) (.int .i64 1))])))))))
     (.again 0 [(.var 40), (.ar .add .i64 (.var 41) (.int .i64 1))]))
    (.again 0 [(.var 40), (.ar .add .i64 (.var 41) (.int .i64 1))]))
   (.ret [(.var 40)])))))
theorem wk_tList0 : walk E0.cx (sgsN [(24, sg_Check), (34, sg_sIs0)]) 0 12 sg_tList0 = tr_tList0 := by kernel_rfl
theorem bo_tList0 : ∃ x, bodyOf E0.P 12 = some x := bo_of (by kernel_rfl)
theorem sp_tList0_Check : specC [con_Check, con_sIs0] k_Check = Check_s := rfl
theorem sp_tList0_sIs0 : specC [con_Check, con_sIs0] k_sIs0 = sIs0_s := rfl
theorem tList0_h : Holds E0 k_tList0 sg_tList0 tList0_s := con_fn wf0 mix0 g0 [con_Check, con_sIs0] rfl wk_tList0 rfl (by
  intro Φ hΦ ds Q hs ⟨hsm, herr, h0, b, hb, h⟩
  have hl : ds.length = 39 := hs.length.symm
  have s1 : Φ k_Check = Check_s := by rw [hΦ]; rfl
  have s2 : Φ k_sIs0 = sIs0_s := by rw [hΦ]; rfl
  clear hΦ
  simp only [tr_tList0, wp, den_int, den_bool, den_nili, den_ar, den_cmp, den_not, den_len, den_elem, den_isnil, den_errI, den_ifc, den_rep, den_push, den_app, den_emp, den_upd, row0_econs, row0_enil, den_and, den_beq, den_nil, toInt_int, toBool_bool, xs_rows, xs_list, dflt_int, dflt_bool, of_eq, of_ne, of_lt, of_le, of_gt, of_ge, of_add, of_sub, of_rem, List.map_cons, List.map_nil, Dat.bool.injEq, decide_eq_true_eq, decide_eq_false_iff_not, Bool.not_eq_true', Bool.not_eq_false', beq_iff_eq, bne_iff_ne, beq_eq_false_iff_ne, bne_eq_false_iff_eq, ne_eq, List.append_assoc, List.cons_append, List.nil_append, allS, s1, s2, Check_s, sIs0_s, @den_var0 E0.Δ ds, den_varA, den_varB, hl, Nat.reduceLT, Nat.reduceLeDiff, Nat.reduceSub, List.getD_cons_zero, List.getD_cons_succ, argL_fold ds, argI_fold ds, List.append_assoc, List.cons_append, List.nil_append, toInt_int, toBool_bool, xs_rows, xs_list, Int.toNat_natCast, Dat.bool.injEq, den_or, den_ite, h0, take37' (show 37 ≤ ds.length by omega)]
  refine ⟨hsm, fun n hn => ?_⟩
  obtain rfl := errP_inj herr hn
  rw [errV_nil]
  refine ⟨fun hx => absurd hx (by decide), fun _ => ?_⟩
  refine ⟨fun xs m => ∃ k : Nat, k ≤ 3 ∧ m = 3 - k ∧ xs = [.rows (preT b k), .int .i64 ((k : Int) - 2)], ⟨3, 0, by omega, rfl, by cases b <;> rfl⟩, ?_⟩
  rintro d hd n m ⟨k, hk, hm, e⟩
  cases e
  subst hm
  refine ⟨fun hlt => ?_, fun hge => ?_⟩
  · have hk2 : k ≤ 2 := by simp only [List.length_nil] at hlt; omega
    clear hlt hd
    have nx : ∀ R : List (List Dat), R = preT b (k + 1) → ∃ m', m' < 3 - k ∧ ∃ k' : Nat, k' ≤ 3 ∧ m' = 3 - k' ∧ [Dat.rows R, .int .i64 (IntKind.i64.wrap ((k : Int) - 2 + 1))] = [.rows (preT b k'), .int .i64 ((k' : Int) - 2)] := fun R hR =>
      ⟨3 - (k + 1), by omega, k + 1, by omega, rfl, by rw [hR, wrap64 (by omega) (by omega), show (k : Int) - 2 + 1 = ((k + 1 : Nat) : Int) - 2 by omega]⟩
    simp only [hb, List.getElem?_cons_zero, xs_rows]
    cases b
    · match k, hk2 with
      | 0, _ | 1, _ | 2, _ =>
        repeat' (first | refine And.intro ?_ ?_ | intro _)
        all_goals first | exact nx _ rfl | (exfalso; simp_all; done) | decide
    · match k, hk2 with
      | 0, _ | 1, _ | 2, _ =>
        repeat' (first | refine And.intro ?_ ?_ | intro _)
        all_goals first | exact nx _ rfl | (exfalso; simp_all; done) | decide
  · have hk3 : k = 3 := by simp only [List.length_nil] at hge; omega
    subst hk3
    exact h)
noncomputable def con_tList0 : Con E0 := ⟨k_tList0, sg_tList0, tList0_s, rfl, bo_tList0, tList0_h⟩
end Go.Proofs.YtonjilfbcofoaaaDoor
