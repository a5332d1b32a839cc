import Derived.Test.YtelfhmeobfimiaaDoorM11
import Derived.Test.YtelfhmeobfimiaaDoorM18
import Derived.Test.YtelfhmeobfimiaaDoorM16
import Derived.Test.YtelfhmeobfimiaaDoorM7

section
namespace Go.Proofs.YtelfhmeobfimiaaDoor
open Go.RowKit
set_option linter.unusedVariables false
set_option linter.unusedSimpArgs false

/-! shape.Is where it is not reached -/
def k_sIs0 : Nat := 36
def sg_sIs0 : Sig := ⟨[(true, [.list 36] ++ List.replicate 11 (.list 3) ++ List.replicate 25 (.int .i64)), (false, [.int .i64])], [(false, [.bool])], false, false, false, false, false⟩
theorem bo_sIs0 : ∃ x, bodyOf E0.P 36 = some x := bo_of (by kernel_rfl)
def sIs0_s : Spec := fun _ _ => False
theorem sIs0_h : Holds E0 k_sIs0 sg_sIs0 sIs0_s := fun w ds Q _ _ _ _ h => h.elim
noncomputable def con_sIs0 : Con E0 := ⟨k_sIs0, sg_sIs0, sIs0_s, rfl, bo_sIs0, sIs0_h⟩
theorem take37' {ds : List Dat} (h : 37 ≤ ds.length) : [ds.getD 0 (.bool false), ds.getD 1 (.bool false), ds.getD 2 (.bool false), ds.getD 3 (.bool false), ds.getD 4 (.bool false), ds.getD 5 (.bool false), ds.getD 6 (.bool false), ds.getD 7 (.bool false), ds.getD 8 (.bool false), ds.getD 9 (.bool false), ds.getD 10 (.bool false), ds.getD 11 (.bool false), ds.getD 12 (.bool false), ds.getD 13 (.bool false), ds.getD 14 (.bool false), ds.getD 15 (.bool false), ds.getD 16 (.bool false), ds.getD 17 (.bool false), ds.getD 18 (.bool false), ds.getD 19 (.bool false), ds.getD 20 (.bool false), ds.getD 21 (.bool false), ds.getD 22 (.bool false), ds.getD 23 (.bool false), ds.getD 24 (.bool false), ds.getD 25 (.bool false), ds.getD 26 (.bool false), ds.getD 27 (.bool false), ds.getD 28 (.bool false), ds.getD 29 (.bool false), ds.getD 30 (.bool false), ds.getD 31 (.bool false), ds.getD 32 (.bool false), ds.getD 33 (.bool false), ds.getD 34 (.bool false), ds.getD 35 (.bool false), ds.getD 36 (.bool false)] = ds.take 37 := by
  refine List.ext_getElem (by rw [List.length_take, Nat.min_eq_left h]; rfl) fun i h1 h2 => ?_
  rw [List.getElem_take]
  have e : ∀ j (hj : j < ds.length), ds.getD j (.bool false) = ds[j] := fun j hj => by rw [List.getD_eq_getElem?_getD, List.getElem?_eq_getElem hj]; rfl
  have h3 : i < 37 := h1
  match i, h3 with
  | 0, _ => exact e 0 (by omega)
  | 1, _ => exact e 1 (by omega)
  | 2, _ => exact e 2 (by omega)
  | 3, _ => exact e 3 (by omega)
  | 4, _ => exact e 4 (by omega)
  | 5, _ => exact e 5 (by omega)
  | 6, _ => exact e 6 (by omega)
  | 7, _ => exact e 7 (by omega)
  | 8, _ => exact e 8 (by omega)
  | 9, _ => exact e 9 (by omega)
  | 10, _ => exact e 10 (by omega)
  | 11, _ => exact e 11 (by omega)
  | 12, _ => exact e 12 (by omega)
  | 13, _ => exact e 13 (by omega)
  | 14, _ => exact e 14 (by omega)
  | 15, _ => exact e 15 (by omega)
  | 16, _ => exact e 16 (by omega)
  | 17, _ => exact e 17 (by omega)
  | 18, _ => exact e 18 (by omega)
  | 19, _ => exact e 19 (by omega)
  | 20, _ => exact e 20 (by omega)
  | 21, _ => exact e 21 (by omega)
  | 22, _ => exact e 22 (by omega)
  | 23, _ => exact e 23 (by omega)
  | 24, _ => exact e 24 (by omega)
  | 25, _ => exact e 25 (by omega)
  | 26, _ => exact e 26 (by omega)
  | 27, _ => exact e 27 (by omega)
  | 28, _ => exact e 28 (by omega)
  | 29, _ => exact e 29 (by omega)
  | 30, _ => exact e 30 (by omega)
  | 31, _ => exact e 31 (by omega)
  | 32, _ => exact e 32 (by omega)
  | 33, _ => exact e 33 (by omega)
  | 34, _ => exact e 34 (by omega)
  | 35, _ => exact e 35 (by omega)
  | 36, _ => exact e 36 (by omega)
  | i + 37, h => exact absurd h (by omega)
def preT (b : Bool) (k : Nat) : List (List Dat) := if b then ([[.int .i64 (-2)], [.int .i64 (-1)]] : List (List Dat)).take k else if k = 3 then [[.int .i64 0]] else []
def tList0_s : Spec := fun ds Q => Sm (ds.take 37) ∧ errP (ds.take 37) 0 ∧ argL ds 0 = [] ∧ ∃ b : Bool, argI ds 37 = (if b then 3 else 0) ∧ Q [.rows (preT b 3)]
def k_tList0 : Nat := 26
def sg_tList0 : Sig := ⟨[(true, [.list 36] ++ List.replicate 11 (.list 3) ++ List.replicate 25 (.int .i64)), (false, [.int .i64]), (false, [.int .i64])], [(false, [.rows 3])], true, false, true, false, false⟩
def tr_tList0 : Tree := (.call k_Check [(.var 0), (.var 1), (.var 2), (.var 3), (.var 4), (.var 5), (.var 6), (.var 7), (.var 8), (.var 9), (.var 10), (.var 11), (.var 12), (.var 13), (.var 14), (.var 15), (.var 16), (.var 17), (.var 18), (.var 19), (.var 20), (.var 21), (.var 22), (.var 23), (.var 24), (.var 25), (.var 26), (.var 27), (.var 28), (.var 29), (.var 30), (.var 31), (.var 32), (.var 33), (.var 34), (.var 35), (.var 36)] [.err]
(.ite (.not (.isnil (.var 39)))
 (.ret [.emp])
 (.loop [.emp, (.int .i64 (-2))] [(.rows 3), (.int .i64)]
  (.ite (.cmp .le (.var 41) (.len (.var 0)))
   (.ite (.cmp .ge (.var 37) (.int .i64 0))
    (.ite (.cmp .lt (.var 37) (.int .i64 6))
     (.ite (.cmp .eq (.var 37) (.int .i64 0))
      (.ite (.cmp .eq (.var 41) (.int .i64 0))
       (.ob (.cmp .le (.len (.push (.var 40) (.econs (.var 41) .enil))) (.int .i64 17592186044416))
       (.again 0 [(.push (.var 40) (.econs (.var 41) .enil)), (.ar .add .i64 (.var 41) (.int .i64 1))]))
       (.again 0 [(.var 40), (.ar .add .i64 (.var 41) (.int .i64 1))]))
      (.ite (.not (.and (.cmp .ne (.var 41) (.int .i64 (-1))) (.cmp .ne (.var 41) (.int .i64 (-2)))))
       (.ite (.or (.cmp .eq (.var 37) (.int .i64 2)) (.cmp .eq (.var 37) (.int .i64 3)))
        (.ob (.cmp .le (.len (.push (.var 40) (.econs (.var 41) .enil))) (.int .i64 17592186044416))
        (.again 0 [(.push (.var 40) (.econs (.var 41) .enil)), (.ar .add .i64 (.var 41) (.int .i64 1))]))
        (.again 0 [(.var 40), (.ar .add .i64 (.var 41) (.int .i64 1))]))
       (.ite (.or (.not (.not (.cmp .le (.var 41) (.int .i64 0)))) (.cmp .ge (.ite (.cmp .le (.var 41) (.int .i64 0)) (.int .i64 0) (.ar .sub .i64 (.var 41) (.int .i64 1))) (.len (.var 0))))
        (.again 0 [(.var 40), (.ar .add .i64 (.var 41) (.int .i64 1))])
        (.ite (.or (.cmp .eq (.var 37) (.int .i64 1)) (.cmp .eq (.var 37) (.int .i64 3)))
         (.call k_sIs0 [(.var 0), (.var 1), (.var 2), (.var 3), (.var 4), (.var 5), (.var 6), (.var 7), (.var 8), (.var 9), (.var 10), (.var 11), (.var 12), (.var 13), (.var 14), (.var 15), (.var 16), (.var 17), (.var 18), (.var 19), (.var 20), (.var 21), (.var 22), (.var 23), (.var 24), (.var 25), (.var 26), (.var 27), (.var 28), (.var 29), (.var 30), (.var 31), (.var 32), (.var 33), (.var 34), (.var 35), (.var 36), (.ite (.cmp .le (.var 41) (.int .i64 0)) (.int .i64 0) (.ar .sub .i64 (.var 41) (.int .i64 1)))] [.bool]
         (.ite (.var 42)
          (.ob (.cmp .le (.len (.push (.var 40) (.econs (.var 41) .enil))) (.int .i64 17592186044416))
          (.again 0 [(.push (.var 40) (.econs (.var 41) .enil)), (.ar .add .i64 (.var 41) (.int .i64 1))]))
          (.again 0 [(.var 40), (.ar .add .i64 (.var 41) (.int .i64 1))])))
         (.ite (.cmp .eq (.var 37) (.int .i64 4))
          (.ob (.cmp .ge (.ite (.cmp .le (.var 41) (.int .i64 0)) (.int .i64 0) (.ar .sub .i64 (.var 41) (.int .i64 1))) (.int .i64 0))
          (.ite (.and (.cmp .ne (.ite (.cmp .le (.var 41) (.int .i64 0)) (.int .i64 0) (.ar .sub .i64 (.var 41) (.int .i64 1))) (.var 38)) (.and (.cmp .eq (.elem (.var 0) (.ite (.cmp .le (.var 41) (.int .i64 0)) (.int .i64 0) (.ar .sub .i64 (.var 41) (.int .i64 1))) 3 (.int .i64)) (.int .i64 9)) (.cmp .ne (.elem (.var 0) (.ite (.cmp .le (.var 41) (.int .i64 0)) (.int .i64 0) (.ar .sub .i64 (.var 41) (.int .i64 1))) 13 (.int .i64)) (.int .i64 2))))
           (.ob (.cmp .le (.len (.push (.var 40) (.econs (.var 41) .enil))) (.int .i64 17592186044416))
           (.again 0 [(.push (.var 40) (.econs (.var 41) .enil)), (.ar .add .i64 (.var 41) (.int .i64 1))]))
           (.again 0 [(.var 40), (.ar .add .i64 (.var 41) (.int .i64 1))])))
          (.ite (.cmp .eq (.var 37) (.int .i64 5))
           (.ob (.cmp .ge (.ite (.cmp .le (.var 41) (.int .i64 0)) (.int .i64 0) (.ar .sub .i64 (.var 41) (.int .i64 1))) (.int .i64 0))
           (.ite (.cmp .eq (.elem (.var 0) (.ite (.cmp .le (.var 41) (.int .i64 0)) (.int .i64 0) (.ar .sub .i64 (.var 41) (.int .i64 1))) 3 (.int .i64)) (.int .i64 8))
            (.ob (.cmp .le (.len (.push (.var 40) (.econs (.var 41) .enil))) (.int .i64 17592186044416))
            (.again 0 [(.push (.var 40) (.econs (.var 41) .enil)), (.ar .add .i64 (.var 41) (.int .i64 1))]))
            (.again 0 [(.var 40), (.ar .add .i64 (.var 41) (.int .i64 1))])))
           (.again 0 [(.var 40), (.ar .add .i64 (.var 41) (.int .i64 1))])))))))
     (.again 0 [(.var 40), (.ar .add .i64 (.var 41) (.int .i64 1))]))
    (.again 0 [(.var 40), (.ar .add .i64 (.var 41) (.int .i64 1))]))
   (.ret [(.var 40)])))))
theorem wk_tList0 : walk E0.cx (sgsN [(54, sg_Check), (36, sg_sIs0)]) 0 26 sg_tList0 = tr_tList0 := by kernel_rfl
theorem bo_tList0 : ∃ x, bodyOf E0.P 26 = some x := bo_of (by kernel_rfl)
theorem sp_tList0_Check : specC [con_Check, con_sIs0] k_Check = Check_s := rfl
theorem sp_tList0_sIs0 : specC [con_Check, con_sIs0] k_sIs0 = sIs0_s := rfl
theorem tList0_h : Holds E0 k_tList0 sg_tList0 tList0_s := con_fn wf0 mix0 g0 [con_Check, con_sIs0] rfl wk_tList0 rfl (by
  intro Φ hΦ ds Q hs ⟨hsm, herr, h0, b, hb, h⟩
  have hl : ds.length = 39 := hs.length.symm
  have s1 : Φ k_Check = Check_s := by rw [hΦ]; rfl
  have s2 : Φ k_sIs0 = sIs0_s := by rw [hΦ]; rfl
  clear hΦ
  simp only [tr_tList0, wp, den_int, den_bool, den_nili, den_ar, den_cmp, den_not, den_len, den_elem, den_isnil, den_errI, den_ifc, den_rep, den_push, den_app, den_emp, den_upd, row0_econs, row0_enil, den_and, den_beq, den_nil, toInt_int, toBool_bool, xs_rows, xs_list, dflt_int, dflt_bool, of_eq, of_ne, of_lt, of_le, of_gt, of_ge, of_add, of_sub, of_rem, List.map_cons, List.map_nil, Dat.bool.injEq, decide_eq_true_eq, decide_eq_false_iff_not, Bool.not_eq_true', Bool.not_eq_false', beq_iff_eq, bne_iff_ne, beq_eq_false_iff_ne, bne_eq_false_iff_eq, ne_eq, List.append_assoc, List.cons_append, List.nil_append, allS, s1, s2, Check_s, sIs0_s, @den_var0 E0.Δ ds, den_varA, den_varB, hl, Nat.reduceLT, Nat.reduceLeDiff, Nat.reduceSub, List.getD_cons_zero, List.getD_cons_succ, argL_fold ds, argI_fold ds, List.append_assoc, List.cons_append, List.nil_append, toInt_int, toBool_bool, xs_rows, xs_list, Int.toNat_natCast, Dat.bool.injEq, den_or, den_ite, h0, take37' (show 37 ≤ ds.length by omega)]
  refine ⟨hsm, fun n hn => ?_⟩
  obtain rfl := errP_inj herr hn
  rw [errV_nil]
  refine ⟨fun hx => absurd hx (by decide), fun _ => ?_⟩
  refine ⟨fun xs m => ∃ k : Nat, k ≤ 3 ∧ m = 3 - k ∧ xs = [.rows (preT b k), .int .i64 ((k : Int) - 2)], ⟨3, 0, by omega, rfl, by cases b <;> rfl⟩, ?_⟩
  rintro d hd n m ⟨k, hk, hm, e⟩
  cases e
  subst hm
  refine ⟨fun hlt => ?_, fun hge => ?_⟩
  · have hk2 : k ≤ 2 := by simp only [List.length_nil] at hlt; omega
    clear hlt hd
    have nx : ∀ R : List (List Dat), R = preT b (k + 1) → ∃ m', m' < 3 - k ∧ ∃ k' : Nat, k' ≤ 3 ∧ m' = 3 - k' ∧ [Dat.rows R, .int .i64 (IntKind.i64.wrap ((k : Int) - 2 + 1))] = [.rows (preT b k'), .int .i64 ((k' : Int) - 2)] := fun R hR =>
      ⟨3 - (k + 1), by omega, k + 1, by omega, rfl, by rw [hR, wrap64 (by omega) (by omega), show (k : Int) - 2 + 1 = ((k + 1 : Nat) : Int) - 2 by omega]⟩
    simp only [hb, List.getElem?_cons_zero, xs_rows]
    cases b
    · match k, hk2 with
      | 0, _ | 1, _ | 2, _ =>
        repeat' (first | refine And.intro ?_ ?_ | intro _)
        all_goals first | exact nx _ rfl | (exfalso; simp_all; done) | decide
    · match k, hk2 with
      | 0, _ | 1, _ | 2, _ =>
        repeat' (first | refine And.intro ?_ ?_ | intro _)
        all_goals first | exact nx _ rfl | (exfalso; simp_all; done) | decide
  · have hk3 : k = 3 := by simp only [List.length_nil] at hge; omega
    subst hk3
    exact h)
noncomputable def con_tList0 : Con E0 := ⟨k_tList0, sg_tList0, tList0_s, rfl, bo_tList0, tList0_h⟩
end Go.Proofs.YtelfhmeobfimiaaDoor
end

section
namespace Go.Proofs.YtelfhmeobfimiaaDoor
open Go.RowKit
set_option linter.unusedVariables false
set_option linter.unusedSimpArgs false

/-- does a kind allow a target? -/
def allowB (S : List Dat) (kind self t : Int) : Bool :=
  if kind = 0 then decide (t = 0)
  else if t = -1 ∨ t = -2 then decide (kind = 2 ∨ kind = 3)
  else if t ≤ 0 ∨ ((argL S 0).length : Int) ≤ t - 1 then false
  else if kind = 1 ∨ kind = 3 then isC S (t - 1)
  else if kind = 4 then decide (t - 1 ≠ self) && decide (rowI (obj S (t - 1)) 3 = 9) && decide (rowI (obj S (t - 1)) 13 ≠ 2)
  else if kind = 5 then decide (rowI (obj S (t - 1)) 3 = 8)
  else false
def listP (S : List Dat) (kind self : Int) (n : Nat) : List Int := ((List.range n).map fun k : Nat => (k : Int) - 2).filter (allowB S kind self)
theorem listP_s (S : List Dat) (kind self : Int) (n : Nat) : listP S kind self (n + 1) = listP S kind self n ++ (if allowB S kind self ((n : Int) - 2) = true then [(n : Int) - 2] else []) := by
  unfold listP
  rw [List.range_succ, List.map_append, List.filter_append]
  congr 1
  rw [List.map_cons, List.map_nil, List.filter_cons, List.filter_nil]
theorem listP_len (S : List Dat) (kind self : Int) (n : Nat) : (listP S kind self n).length ≤ n := by
  have := List.length_filter_le (allowB S kind self) ((List.range n).map fun k : Nat => (k : Int) - 2)
  rw [List.length_map, List.length_range] at this
  exact this
theorem allowB_in {S : List Dat} {kind self t : Int} (h : allowB S kind self t = true) : -2 ≤ t ∧ t ≤ (argL S 0).length := by
  unfold allowB at h
  split at h
  · have := of_decide_eq_true h; omega
  · split at h
    · omega
    · split at h
      · cases h
      · omega
theorem allowB_kind {S : List Dat} {kind self t : Int} (h : kind < 0 ∨ 6 ≤ kind) : allowB S kind self t = false := by
  unfold allowB
  rw [if_neg (by omega), if_neg (show ¬ (kind = 1 ∨ kind = 3) by omega), if_neg (show ¬ kind = 4 by omega), if_neg (show ¬ kind = 5 by omega), decide_eq_false (show ¬ (kind = 2 ∨ kind = 3) by omega)]
  simp
theorem mem_listP {S : List Dat} {kind self t : Int} : t ∈ listP S kind self ((argL S 0).length + 3) ↔ allowB S kind self t = true := by
  unfold listP
  rw [List.mem_filter]
  refine ⟨fun h => h.2, fun h => ⟨?_, h⟩⟩
  have := allowB_in h
  exact List.mem_map.2 ⟨(t + 2).toNat, List.mem_range.2 (by omega), by omega⟩
theorem listP_kind {S : List Dat} {kind self : Int} (h : kind < 0 ∨ 6 ≤ kind) (n : Nat) : listP S kind self n = [] := by
  unfold listP
  rw [List.filter_eq_nil_iff]
  intro t _
  rw [allowB_kind h]
  exact Bool.false_ne_true
theorem listP_3 (S : List Dat) (kind self : Int) : listP S kind self 3 = if kind = 0 then [0] else if kind = 2 ∨ kind = 3 then [-2, -1] else [] := by
  have e : ((List.range 3).map fun k : Nat => (k : Int) - 2) = [-2, -1, 0] := rfl
  unfold listP
  rw [e]
  by_cases h0 : kind = 0
  · subst h0; rfl
  · have a0 : allowB S kind self 0 = false := by
      unfold allowB
      rw [if_neg h0, if_neg (by decide), if_pos (.inl (by decide))]
    have a1 : allowB S kind self (-1) = decide (kind = 2 ∨ kind = 3) := by
      unfold allowB
      rw [if_neg h0, if_pos (by decide)]
    have a2 : allowB S kind self (-2) = decide (kind = 2 ∨ kind = 3) := by
      unfold allowB
      rw [if_neg h0, if_pos (by decide)]
    rw [if_neg h0, List.filter_cons, List.filter_cons, List.filter_cons, a0, a1, a2, List.filter_nil]
    by_cases h2 : kind = 2 ∨ kind = 3
    · rw [decide_eq_true h2, if_pos h2]; rfl
    · rw [decide_eq_false h2, if_neg h2]; rfl
theorem allowB_o {S : List Dat} {k : Nat} (hk : k < (argL S 0).length) (kind self : Int) : allowB S kind self ((k : Int) + 1) = if kind = 1 ∨ kind = 3 then isC S k else if kind = 4 then decide ((k : Int) ≠ self) && decide (rowI (obj S k) 3 = 9) && decide (rowI (obj S k) 13 ≠ 2) else if kind = 5 then decide (rowI (obj S k) 3 = 8) else false := by
  unfold allowB
  rw [show (k : Int) + 1 - 1 = k by omega]
  by_cases h0 : kind = 0
  · rw [if_pos h0, decide_eq_false (by omega), if_neg (by omega), if_neg (by omega), if_neg (by omega)]
  · rw [if_neg h0, if_neg (by omega), if_neg (by omega)]
end Go.Proofs.YtelfhmeobfimiaaDoor
end

section
namespace Go.Proofs.YtelfhmeobfimiaaDoor
open Go.RowKit
set_option linter.unusedVariables false
set_option linter.unusedSimpArgs false

theorem okS_tIs {S : List Dat} (h : errP S 0) {Q : List Dat → Prop} {id : Int} (hQ : Q [.bool (isC S id)]) : ∀ n, errP S n → Q [.bool (decide (n = 0) && isC S id)] := fun n hn => by
  obtain rfl := errP_inj h hn
  exact hQ
def k_tAllows : Nat := 62
def sg_tAllows : Sig := ⟨[(true, [.list 36] ++ List.replicate 11 (.list 3) ++ List.replicate 25 (.int .i64)), (false, [.int .i64]), (false, [.int .i64]), (false, [.int .i64])], [(false, [.bool])], false, false, true, false, false⟩
def tr_tAllows : Tree := (.ite (.cmp .eq (.var 37) (.int .i64 0))
 (.ret [(.cmp .eq (.var 39) (.int .i64 0))])
 (.ite (.not (.and (.cmp .ne (.var 39) (.int .i64 (-1))) (.cmp .ne (.var 39) (.int .i64 (-2)))))
  (.ret [(.or (.cmp .eq (.var 37) (.int .i64 2)) (.cmp .eq (.var 37) (.int .i64 3)))])
  (.ite (.or (.not (.not (.cmp .le (.var 39) (.int .i64 0)))) (.cmp .ge (.ite (.cmp .le (.var 39) (.int .i64 0)) (.int .i64 0) (.ar .sub .i64 (.var 39) (.int .i64 1))) (.len (.var 0))))
   (.ret [(.bool false)])
   (.ite (.or (.cmp .eq (.var 37) (.int .i64 1)) (.cmp .eq (.var 37) (.int .i64 3)))
    (.call k_tIs [(.var 0), (.var 1), (.var 2), (.var 3), (.var 4), (.var 5), (.var 6), (.var 7), (.var 8), (.var 9), (.var 10), (.var 11), (.var 12), (.var 13), (.var 14), (.var 15), (.var 16), (.var 17), (.var 18), (.var 19), (.var 20), (.var 21), (.var 22), (.var 23), (.var 24), (.var 25), (.var 26), (.var 27), (.var 28), (.var 29), (.var 30), (.var 31), (.var 32), (.var 33), (.var 34), (.var 35), (.var 36), (.ite (.cmp .le (.var 39) (.int .i64 0)) (.int .i64 0) (.ar .sub .i64 (.var 39) (.int .i64 1)))] [.bool]
    (.ret [(.var 40)]))
    (.ite (.cmp .eq (.var 37) (.int .i64 4))
     (.ob (.cmp .ge (.ite (.cmp .le (.var 39) (.int .i64 0)) (.int .i64 0) (.ar .sub .i64 (.var 39) (.int .i64 1))) (.int .i64 0))
     (.ret [(.and (.cmp .ne (.ite (.cmp .le (.var 39) (.int .i64 0)) (.int .i64 0) (.ar .sub .i64 (.var 39) (.int .i64 1))) (.var 38)) (.and (.cmp .eq (.elem (.var 0) (.ite (.cmp .le (.var 39) (.int .i64 0)) (.int .i64 0) (.ar .sub .i64 (.var 39) (.int .i64 1))) 3 (.int .i64)) (.int .i64 9)) (.cmp .ne (.elem (.var 0) (.ite (.cmp .le (.var 39) (.int .i64 0)) (.int .i64 0) (.ar .sub .i64 (.var 39) (.int .i64 1))) 13 (.int .i64)) (.int .i64 2))))]))
     (.ite (.cmp .eq (.var 37) (.int .i64 5))
      (.ob (.cmp .ge (.ite (.cmp .le (.var 39) (.int .i64 0)) (.int .i64 0) (.ar .sub .i64 (.var 39) (.int .i64 1))) (.int .i64 0))
      (.ret [(.cmp .eq (.elem (.var 0) (.ite (.cmp .le (.var 39) (.int .i64 0)) (.int .i64 0) (.ar .sub .i64 (.var 39) (.int .i64 1))) 3 (.int .i64)) (.int .i64 8))]))
      (.ret [(.bool false)])))))))
theorem wk_tAllows : walk E0.cx (sgsN [(36, sg_tIs)]) 0 62 sg_tAllows = tr_tAllows := by kernel_rfl
theorem bo_tAllows : ∃ x, bodyOf E0.P 62 = some x := bo_of (by kernel_rfl)
theorem sp_tAllows_tIs : specC [con_tIs] k_tIs = tIs_s := rfl
def tAllows_s : Spec := fun ds Q => Sm (ds.take 37) ∧ errP (ds.take 37) 0 ∧ (-9223372036854775808 ≤ argI ds 39 ∧ argI ds 39 ≤ 9223372036854775807) ∧ Q [.bool (allowB (ds.take 37) (argI ds 37) (argI ds 38) (argI ds 39))]
theorem tAllows_h : Holds E0 k_tAllows sg_tAllows tAllows_s := con_fn wf0 mix0 g0 [con_tIs] rfl wk_tAllows rfl (by
  intro Φ hΦ ds Q hs ⟨hsm, herr, hr, h⟩
  have hl : ds.length = 40 := hs.length.symm
  have s1 : Φ k_tIs = tIs_s := by rw [hΦ]; rfl
  clear hΦ
  have hol : (argL (ds.take 37) 0).length = (argL ds 0).length := by rw [argL_t (by omega)]
  unfold allowB at h
  rw [hol] at h
  simp only [tr_tAllows, wp, den_int, den_bool, den_nili, den_ar, den_cmp, den_not, den_len, den_elem, den_isnil, den_errI, den_ifc, den_rep, den_push, den_app, den_emp, den_upd, row0_econs, row0_enil, den_and, den_beq, den_nil, toInt_int, toBool_bool, xs_rows, xs_list, dflt_int, dflt_bool, of_eq, of_ne, of_lt, of_le, of_gt, of_ge, of_add, of_sub, of_rem, List.map_cons, List.map_nil, Dat.bool.injEq, decide_eq_true_eq, decide_eq_false_iff_not, Bool.not_eq_true', Bool.not_eq_false', beq_iff_eq, bne_iff_ne, beq_eq_false_iff_ne, bne_eq_false_iff_eq, ne_eq, List.append_assoc, List.cons_append, List.nil_append, allS, s1, tIs_s, @den_var0 E0.Δ ds, den_varA, den_varB, hl, Nat.reduceLT, Nat.reduceLeDiff, Nat.reduceSub, List.getD_cons_zero, List.getD_cons_succ, argL_fold ds, argI_fold ds, List.append_assoc, List.cons_append, List.nil_append, toInt_int, toBool_bool, xs_rows, xs_list, Int.toNat_natCast, Dat.bool.injEq, dflt_int, fold37x (show 37 ≤ ds.length by omega), take_ta (show 37 ≤ ds.length by omega), argI_ta (show 37 ≤ ds.length by omega) 0, argL_ta (i := 0) (show 0 < 37 by omega) (show 37 ≤ ds.length by omega), argI_c0, argI_fold ds, toInt_getD, den_or, den_ite, ite_dati, ite_datb, ← obj_t]
  refine ⟨fun h0 => ?_, fun h0 => ⟨fun h1 => ?_, fun h1 => ⟨fun h2 => ?_, fun h2 => ?_⟩⟩⟩
  · rw [if_pos h0] at h
    exact h
  · have h1 : argI ds 39 = -1 ∨ argI ds 39 = -2 := by
      simp only [bne, Bool.and_eq_false_iff, Bool.not_eq_false', beq_iff_eq] at h1
      exact h1
    rw [if_neg h0, if_pos h1, show decide (argI ds 37 = 2 ∨ argI ds 37 = 3) = (argI ds 37 == 2 || argI ds 37 == 3) by rw [Bool.eq_iff_iff]; simp] at h
    exact h
  · have h1 : ¬ (argI ds 39 = -1 ∨ argI ds 39 = -2) := by
      simp only [bne, Bool.and_eq_true, Bool.not_eq_true', beq_eq_false_iff_ne] at h1
      omega
    rw [if_neg h0, if_neg h1] at h
    rw [if_pos] at h
    · exact h
    · by_cases ht : argI ds 39 ≤ 0
      · exact .inl ht
      · rw [if_neg ht, wrap64 (by omega) (by omega), decide_eq_false ht, Bool.not_not, Bool.false_or, decide_eq_true_eq] at h2
        exact .inr h2
  · have h1 : ¬ (argI ds 39 = -1 ∨ argI ds 39 = -2) := by
      simp only [bne, Bool.and_eq_true, Bool.not_eq_true', beq_eq_false_iff_ne] at h1
      omega
    have ht : ¬ argI ds 39 ≤ 0 := fun ht => by
      rw [decide_eq_true ht] at h2
      cases h2
    simp only [if_neg ht] at h2 ⊢
    rw [wrap64 (by omega) (by omega)] at h2 ⊢
    rw [decide_eq_false ht, Bool.not_not, Bool.false_or, decide_eq_false_iff_not] at h2
    rw [if_neg h0, if_neg h1, if_neg (by omega)] at h
    refine ⟨fun h3 => ⟨hsm, fun n hn => ?_⟩, fun h3 => ⟨fun h4 => ⟨by omega, ?_⟩, fun h4 => ⟨fun h5 => ⟨by omega, ?_⟩, fun h5 => ?_⟩⟩⟩
    · obtain rfl := errP_inj herr hn
      rw [if_pos (by simpa using h3)] at h
      exact h
    · rw [if_neg (by omega), if_pos h4] at h
      refine Eq.mp (congrArg (fun b => Q [.bool b]) ?_) h
      rw [Bool.eq_iff_iff]
      simp only [Bool.and_eq_true, decide_eq_true_eq, bne_iff_ne, beq_iff_eq, ne_eq, and_assoc]
    · rw [if_neg (by omega), if_neg h4, if_pos h5] at h
      exact h
    · have h3 : ¬ (argI ds 37 = 1 ∨ argI ds 37 = 3) := by
        simp only [Bool.or_eq_false_iff, beq_eq_false_iff_ne] at h3
        omega
      rw [if_neg h3, if_neg h4, if_neg h5] at h
      exact h)
noncomputable def con_tAllows : Con E0 := ⟨k_tAllows, sg_tAllows, tAllows_s, rfl, bo_tAllows, tAllows_h⟩
def k_tCheck18 : Nat := 39
def sg_tCheck18 : Sig := ⟨[(true, [.list 36] ++ List.replicate 11 (.list 3) ++ List.replicate 25 (.int .i64)), (false, [.int .i64]), (false, [.int .i64]), (false, [.int .i64])], [(false, [.err])], false, false, true, false, false⟩
def tr_tCheck18 : Tree := (.call k_Check [(.var 0), (.var 1), (.var 2), (.var 3), (.var 4), (.var 5), (.var 6), (.var 7), (.var 8), (.var 9), (.var 10), (.var 11), (.var 12), (.var 13), (.var 14), (.var 15), (.var 16), (.var 17), (.var 18), (.var 19), (.var 20), (.var 21), (.var 22), (.var 23), (.var 24), (.var 25), (.var 26), (.var 27), (.var 28), (.var 29), (.var 30), (.var 31), (.var 32), (.var 33), (.var 34), (.var 35), (.var 36)] [.err]
(.ite (.not (.isnil (.var 40)))
 (.ret [(.var 40)])
 (.ite (.or (.cmp .lt (.var 37) (.int .i64 0)) (.cmp .ge (.var 37) (.int .i64 6)))
  (.ret [(.ifc (.int .i64 6))])
  (.call k_tAllows [(.var 0), (.var 1), (.var 2), (.var 3), (.var 4), (.var 5), (.var 6), (.var 7), (.var 8), (.var 9), (.var 10), (.var 11), (.var 12), (.var 13), (.var 14), (.var 15), (.var 16), (.var 17), (.var 18), (.var 19), (.var 20), (.var 21), (.var 22), (.var 23), (.var 24), (.var 25), (.var 26), (.var 27), (.var 28), (.var 29), (.var 30), (.var 31), (.var 32), (.var 33), (.var 34), (.var 35), (.var 36), (.var 37), (.var 38), (.var 39)] [.bool]
  (.ite (.not (.var 41))
   (.ret [(.ifc (.int .i64 11))])
   (.ret [.nili]))))))
theorem wk_tCheck18 : walk E0.cx (sgsN [(54, sg_Check), (62, sg_tAllows)]) 0 39 sg_tCheck18 = tr_tCheck18 := by kernel_rfl
theorem bo_tCheck18 : ∃ x, bodyOf E0.P 39 = some x := bo_of (by kernel_rfl)
theorem sp_tCheck18_Check : specC [con_Check, con_tAllows] k_Check = Check_s := rfl
theorem sp_tCheck18_tAllows : specC [con_Check, con_tAllows] k_tAllows = tAllows_s := rfl
def chk18 (S : List Dat) (kind self t : Int) : Int := if kind < 0 ∨ 6 ≤ kind then 6 else if allowB S kind self t = true then 0 else 11
def tCheck18_s : Spec := fun ds Q => Sm (ds.take 37) ∧ (-9223372036854775808 ≤ argI ds 39 ∧ argI ds 39 ≤ 9223372036854775807) ∧ ∀ n, errP (ds.take 37) n → Q [errV (if n = 0 then chk18 (ds.take 37) (argI ds 37) (argI ds 38) (argI ds 39) else n)]
theorem tCheck18_h : Holds E0 k_tCheck18 sg_tCheck18 tCheck18_s := con_fn wf0 mix0 g0 [con_Check, con_tAllows] rfl wk_tCheck18 rfl (by
  intro Φ hΦ ds Q hs ⟨hsm, hr, h⟩
  have hl : ds.length = 40 := hs.length.symm
  have s1 : Φ k_Check = Check_s := by rw [hΦ]; rfl
  have s2 : Φ k_tAllows = tAllows_s := by rw [hΦ]; rfl
  clear hΦ
  simp only [tr_tCheck18, wp, den_int, den_bool, den_nili, den_ar, den_cmp, den_not, den_len, den_elem, den_isnil, den_errI, den_ifc, den_rep, den_push, den_app, den_emp, den_upd, row0_econs, row0_enil, den_and, den_beq, den_nil, toInt_int, toBool_bool, xs_rows, xs_list, dflt_int, dflt_bool, of_eq, of_ne, of_lt, of_le, of_gt, of_ge, of_add, of_sub, of_rem, List.map_cons, List.map_nil, Dat.bool.injEq, decide_eq_true_eq, decide_eq_false_iff_not, Bool.not_eq_true', Bool.not_eq_false', beq_iff_eq, bne_iff_ne, beq_eq_false_iff_ne, bne_eq_false_iff_eq, ne_eq, List.append_assoc, List.cons_append, List.nil_append, allS, s1, s2, Check_s, tAllows_s, @den_var0 E0.Δ ds, den_varA, den_varB, hl, Nat.reduceLT, Nat.reduceLeDiff, Nat.reduceSub, List.getD_cons_zero, List.getD_cons_succ, argL_fold ds, argI_fold ds, List.append_assoc, List.cons_append, List.nil_append, toInt_int, toBool_bool, xs_rows, xs_list, Int.toNat_natCast, Dat.bool.injEq, dflt_int, fold37x (show 37 ≤ ds.length by omega), take_ta (show 37 ≤ ds.length by omega), argI_ta (show 37 ≤ ds.length by omega) 0, argL_ta (i := 0) (show 0 < 37 by omega) (show 37 ≤ ds.length by omega), argI_c0, argI_fold ds, toInt_getD, List.append_nil, den_or, argI_ta (show 37 ≤ ds.length by omega) 1, argI_ta (show 37 ≤ ds.length by omega) 2, argI_c1]
  refine ⟨hsm, fun n hn => ?_⟩
  have h := h n hn
  rw [errV_nil]
  refine ⟨fun hx => ?_, fun hx => ?_⟩
  · have e : n ≠ 0 := of_decide_eq_false (by simpa using hx)
    rw [if_neg e] at h
    exact h
  have e : n = 0 := of_decide_eq_true (by simpa using hx)
  subst e
  rw [if_pos rfl] at h
  unfold chk18 at h
  refine ⟨fun hk => ?_, fun hk => ⟨hsm, hn, hr, fun hc => ?_, fun hc => ?_⟩⟩
  · rw [if_pos (by simpa using hk)] at h
    exact h
  · rw [if_neg (by simpa using hk), if_neg (by rw [hc]; exact Bool.false_ne_true)] at h
    exact h
  · rw [if_neg (by simpa using hk), if_pos hc] at h
    exact h)
noncomputable def con_tCheck18 : Con E0 := ⟨k_tCheck18, sg_tCheck18, tCheck18_s, rfl, bo_tCheck18, tCheck18_h⟩
end Go.Proofs.YtelfhmeobfimiaaDoor
end

section
namespace Go.Proofs.YtelfhmeobfimiaaDoor
open Go.RowKit
set_option linter.unusedVariables false
set_option linter.unusedSimpArgs false

def intR (l : List Int) : List (List Dat) := l.map fun n => [.int .i64 n]
theorem intR_len (l : List Int) : (intR l).length = l.length := List.length_map _
theorem intR_app (l m : List Int) : intR (l ++ m) = intR l ++ intR m := List.map_append
def k_tList : Nat := 26
def sg_tList : Sig := ⟨[(true, [.list 36] ++ List.replicate 11 (.list 3) ++ List.replicate 25 (.int .i64)), (false, [.int .i64]), (false, [.int .i64])], [(false, [.list 3])], false, false, true, false, false⟩
def tr_tList : Tree := (.call k_Check [(.var 0), (.var 1), (.var 2), (.var 3), (.var 4), (.var 5), (.var 6), (.var 7), (.var 8), (.var 9), (.var 10), (.var 11), (.var 12), (.var 13), (.var 14), (.var 15), (.var 16), (.var 17), (.var 18), (.var 19), (.var 20), (.var 21), (.var 22), (.var 23), (.var 24), (.var 25), (.var 26), (.var 27), (.var 28), (.var 29), (.var 30), (.var 31), (.var 32), (.var 33), (.var 34), (.var 35), (.var 36)] [.err]
(.ite (.not (.isnil (.var 39)))
 (.share 3 .emp
 (.ret [(.var 40)]))
 (.loop [.emp, (.int .i64 (-2))] [(.rows 3), (.int .i64)]
  (.ite (.cmp .le (.var 41) (.len (.var 0)))
   (.ite (.cmp .ge (.var 37) (.int .i64 0))
    (.ite (.cmp .lt (.var 37) (.int .i64 6))
     (.call k_tAllows [(.var 0), (.var 1), (.var 2), (.var 3), (.var 4), (.var 5), (.var 6), (.var 7), (.var 8), (.var 9), (.var 10), (.var 11), (.var 12), (.var 13), (.var 14), (.var 15), (.var 16), (.var 17), (.var 18), (.var 19), (.var 20), (.var 21), (.var 22), (.var 23), (.var 24), (.var 25), (.var 26), (.var 27), (.var 28), (.var 29), (.var 30), (.var 31), (.var 32), (.var 33), (.var 34), (.var 35), (.var 36), (.var 37), (.var 38), (.var 41)] [.bool]
     (.ite (.var 42)
      (.ob (.cmp .le (.len (.push (.var 40) (.econs (.var 41) .enil))) (.int .i64 17592186044416))
      (.again 0 [(.push (.var 40) (.econs (.var 41) .enil)), (.ar .add .i64 (.var 41) (.int .i64 1))]))
      (.again 0 [(.var 40), (.ar .add .i64 (.var 41) (.int .i64 1))])))
     (.again 0 [(.var 40), (.ar .add .i64 (.var 41) (.int .i64 1))]))
    (.again 0 [(.var 40), (.ar .add .i64 (.var 41) (.int .i64 1))]))
   (.share 3 (.var 40)
   (.ret [(.var 42)]))))))
theorem wk_tList : walk E0.cx (sgsN [(54, sg_Check), (62, sg_tAllows)]) 0 26 sg_tList = tr_tList := by kernel_rfl
theorem bo_tList : ∃ x, bodyOf E0.P 26 = some x := bo_of (by kernel_rfl)
theorem sp_tList_Check : specC [con_Check, con_tAllows] k_Check = Check_s := rfl
theorem sp_tList_tAllows : specC [con_Check, con_tAllows] k_tAllows = tAllows_s := rfl
def tList_s : Spec := fun ds Q => Sm (ds.take 37) ∧ ∀ n, errP (ds.take 37) n → ∀ v, Q [.list v 1 (intR (if n = 0 then listP (ds.take 37) (argI ds 37) (argI ds 38) ((argL ds 0).length + 3) else []))]
theorem tList_h : Holds E0 k_tList sg_tList tList_s := con_fn wf0 mix0 g0 [con_Check, con_tAllows] rfl wk_tList rfl (by
  intro Φ hΦ ds Q hs ⟨hsm, h⟩
  have hl : ds.length = 39 := hs.length.symm
  have s1 : Φ k_Check = Check_s := by rw [hΦ]; rfl
  have s2 : Φ k_tAllows = tAllows_s := by rw [hΦ]; rfl
  clear hΦ
  have hol : (argL (ds.take 37) 0).length = (argL ds 0).length := by rw [argL_t (by omega)]
  have hsm0 := hsm 0 (by omega)
  rw [hol] at hsm0
  simp only [tr_tList, wp, den_int, den_bool, den_nili, den_ar, den_cmp, den_not, den_len, den_elem, den_isnil, den_errI, den_ifc, den_rep, den_push, den_app, den_emp, den_upd, row0_econs, row0_enil, den_and, den_beq, den_nil, toInt_int, toBool_bool, xs_rows, xs_list, dflt_int, dflt_bool, of_eq, of_ne, of_lt, of_le, of_gt, of_ge, of_add, of_sub, of_rem, List.map_cons, List.map_nil, Dat.bool.injEq, decide_eq_true_eq, decide_eq_false_iff_not, Bool.not_eq_true', Bool.not_eq_false', beq_iff_eq, bne_iff_ne, beq_eq_false_iff_ne, bne_eq_false_iff_eq, ne_eq, List.append_assoc, List.cons_append, List.nil_append, allS, s1, s2, Check_s, tAllows_s, @den_var0 E0.Δ ds, den_varA, den_varB, hl, Nat.reduceLT, Nat.reduceLeDiff, Nat.reduceSub, List.getD_cons_zero, List.getD_cons_succ, argL_fold ds, argI_fold ds, List.append_assoc, List.cons_append, List.nil_append, toInt_int, toBool_bool, xs_rows, xs_list, Int.toNat_natCast, Dat.bool.injEq, dflt_int, fold37x (show 37 ≤ ds.length by omega), take_ta (show 37 ≤ ds.length by omega), argI_ta (show 37 ≤ ds.length by omega) 0, argL_ta (i := 0) (show 0 < 37 by omega) (show 37 ≤ ds.length by omega), argI_c0, argI_fold ds, toInt_getD, List.append_nil, List.getElem?_cons_zero, argI_ta (show 37 ≤ ds.length by omega) 1, argI_ta (show 37 ≤ ds.length by omega) 2, argI_c1]
  refine ⟨hsm, fun n hn => ?_⟩
  have h := h n hn
  rw [errV_nil]
  refine ⟨fun hx => ?_, fun hx => ?_⟩
  · have e : n ≠ 0 := of_decide_eq_false (by simpa using hx)
    rw [if_neg e] at h
    exact fun A c => h _
  have e : n = 0 := of_decide_eq_true (by simpa using hx)
  subst e
  rw [if_pos rfl] at h
  refine ⟨fun xs m => ∃ k : Nat, k ≤ (argL ds 0).length + 3 ∧ m = (argL ds 0).length + 3 - k ∧ xs = [.rows (intR (listP (ds.take 37) (argI ds 37) (argI ds 38) k)), .int .i64 ((k : Int) - 2)], ⟨_, 0, by omega, rfl, rfl⟩, ?_⟩
  rintro d hd n m ⟨k, hk, hm, e⟩
  cases e
  subst hm
  have hll := listP_len (ds.take 37) (argI ds 37) (argI ds 38) k
  refine ⟨fun hlt => ?_, fun hge => ?_⟩
  · have hk2 : k < (argL ds 0).length + 3 := by omega
    have hw : IntKind.i64.wrap ((k : Int) - 2 + 1) = ((k + 1 : Nat) : Int) - 2 := by rw [wrap64 (by omega) (by omega)]; omega
    have hst := listP_s (ds.take 37) (argI ds 37) (argI ds 38) k
    rw [hw]
    have no : allowB (ds.take 37) (argI ds 37) (argI ds 38) ((k : Int) - 2) = false → ∃ m', m' < (argL ds 0).length + 3 - k ∧ ∃ k' : Nat, k' ≤ (argL ds 0).length + 3 ∧ m' = (argL ds 0).length + 3 - k' ∧ [Dat.rows (intR (listP (ds.take 37) (argI ds 37) (argI ds 38) k)), Dat.int .i64 (((k + 1 : Nat) : Int) - 2)] = [.rows (intR (listP (ds.take 37) (argI ds 37) (argI ds 38) k')), .int .i64 ((k' : Int) - 2)] := fun hf =>
      ⟨_, (by omega : (argL ds 0).length + 3 - (k + 1) < _), k + 1, by omega, rfl, by rw [hst, hf, if_neg Bool.false_ne_true, List.append_nil]⟩
    refine ⟨fun h0 => ⟨fun h6 => ⟨hsm, hn, ⟨by omega, by omega⟩, fun hy => ⟨?_, _, (by omega : (argL ds 0).length + 3 - (k + 1) < _), k + 1, by omega, rfl, ?_⟩, fun hy => no hy⟩, fun h6 => no (allowB_kind (by omega))⟩, fun h0 => no (allowB_kind (by omega))⟩
    · simp only [xs_rows, List.length_append, List.length_cons, List.length_nil, intR_len]
      omega
    · rw [hst, hy, if_pos rfl, intR_app]; rfl
  · intro A c
    obtain rfl : k = (argL ds 0).length + 3 := by omega
    exact h _)
noncomputable def con_tList : Con E0 := ⟨k_tList, sg_tList, tList_s, rfl, bo_tList, tList_h⟩
def k_rList18 : Nat := 24
def sg_rList18 : Sig := ⟨[(true, [.list 36] ++ List.replicate 11 (.list 3) ++ List.replicate 25 (.int .i64)), (false, [.int .i64]), (false, [.int .i64])], [(false, [.list 3])], false, false, true, false, false⟩
def tr_rList18 : Tree := (.ite (.or (.cmp .eq (.var 37) (.int .i64 2)) (.cmp .eq (.var 37) (.int .i64 3)))
 (.ob (.cmp .le (.len (.app .emp (.push (.push .emp (.econs (.int .i64 (-2)) .enil)) (.econs (.int .i64 (-1)) .enil)))) (.int .i64 17592186044416))
 (.ite (.cmp .eq (.var 37) (.int .i64 0))
  (.ob (.cmp .le (.len (.push (.app .emp (.push (.push .emp (.econs (.int .i64 (-2)) .enil)) (.econs (.int .i64 (-1)) .enil))) (.econs (.int .i64 0) .enil))) (.int .i64 17592186044416))
  (.loop [(.push (.app .emp (.push (.push .emp (.econs (.int .i64 (-2)) .enil)) (.econs (.int .i64 (-1)) .enil))) (.econs (.int .i64 0) .enil)), (.int .i64 0)] [(.rows 3), (.int .i64)]
   (.ite (.cmp .lt (.var 40) (.len (.var 0)))
    (.ob (.cmp .ge (.var 40) (.int .i64 0))
    (.again 0 [(.var 39), (.ar .add .i64 (.var 40) (.int .i64 1))]))
    (.share 3 (.var 39)
    (.ret [(.var 41)])))))
  (.loop [(.app .emp (.push (.push .emp (.econs (.int .i64 (-2)) .enil)) (.econs (.int .i64 (-1)) .enil))), (.int .i64 0)] [(.rows 3), (.int .i64)]
   (.ite (.cmp .lt (.var 40) (.len (.var 0)))
    (.ob (.cmp .ge (.var 40) (.int .i64 0))
    (.ite (.or (.cmp .eq (.var 37) (.int .i64 1)) (.cmp .eq (.var 37) (.int .i64 3)))
     (.call k_rIs [(.var 0), (.var 1), (.var 2), (.var 3), (.var 4), (.var 5), (.var 6), (.var 7), (.var 8), (.var 9), (.var 10), (.var 11), (.var 12), (.var 13), (.var 14), (.var 15), (.var 16), (.var 17), (.var 18), (.var 19), (.var 20), (.var 21), (.var 22), (.var 23), (.var 24), (.var 25), (.var 26), (.var 27), (.var 28), (.var 29), (.var 30), (.var 31), (.var 32), (.var 33), (.var 34), (.var 35), (.var 36), (.var 40)] [.bool]
     (.ite (.var 41)
      (.ob (.cmp .le (.len (.push (.var 39) (.econs (.ar .add .i64 (.var 40) (.int .i64 1)) .enil))) (.int .i64 17592186044416))
      (.again 0 [(.push (.var 39) (.econs (.ar .add .i64 (.var 40) (.int .i64 1)) .enil)), (.ar .add .i64 (.var 40) (.int .i64 1))]))
      (.again 0 [(.var 39), (.ar .add .i64 (.var 40) (.int .i64 1))])))
     (.ite (.ite (.cmp .eq (.var 37) (.int .i64 4)) (.and (.cmp .eq (.elem (.var 0) (.var 40) 3 (.int .i64)) (.int .i64 9)) (.and (.cmp .ne (.elem (.var 0) (.var 40) 13 (.int .i64)) (.int .i64 2)) (.cmp .ne (.var 40) (.var 38)))) (.and (.cmp .eq (.var 37) (.int .i64 5)) (.cmp .eq (.elem (.var 0) (.var 40) 3 (.int .i64)) (.int .i64 8))))
      (.ob (.cmp .le (.len (.push (.var 39) (.econs (.ar .add .i64 (.var 40) (.int .i64 1)) .enil))) (.int .i64 17592186044416))
      (.again 0 [(.push (.var 39) (.econs (.ar .add .i64 (.var 40) (.int .i64 1)) .enil)), (.ar .add .i64 (.var 40) (.int .i64 1))]))
      (.again 0 [(.var 39), (.ar .add .i64 (.var 40) (.int .i64 1))]))))
    (.share 3 (.var 39)
    (.ret [(.var 41)]))))))
 (.ite (.cmp .eq (.var 37) (.int .i64 0))
  (.ob (.cmp .le (.len (.push .emp (.econs (.int .i64 0) .enil))) (.int .i64 17592186044416))
  (.loop [(.push .emp (.econs (.int .i64 0) .enil)), (.int .i64 0)] [(.rows 3), (.int .i64)]
   (.ite (.cmp .lt (.var 40) (.len (.var 0)))
    (.ob (.cmp .ge (.var 40) (.int .i64 0))
    (.again 0 [(.var 39), (.ar .add .i64 (.var 40) (.int .i64 1))]))
    (.share 3 (.var 39)
    (.ret [(.var 41)])))))
  (.loop [.emp, (.int .i64 0)] [(.rows 3), (.int .i64)]
   (.ite (.cmp .lt (.var 40) (.len (.var 0)))
    (.ob (.cmp .ge (.var 40) (.int .i64 0))
    (.ite (.or (.cmp .eq (.var 37) (.int .i64 1)) (.cmp .eq (.var 37) (.int .i64 3)))
     (.call k_rIs [(.var 0), (.var 1), (.var 2), (.var 3), (.var 4), (.var 5), (.var 6), (.var 7), (.var 8), (.var 9), (.var 10), (.var 11), (.var 12), (.var 13), (.var 14), (.var 15), (.var 16), (.var 17), (.var 18), (.var 19), (.var 20), (.var 21), (.var 22), (.var 23), (.var 24), (.var 25), (.var 26), (.var 27), (.var 28), (.var 29), (.var 30), (.var 31), (.var 32), (.var 33), (.var 34), (.var 35), (.var 36), (.var 40)] [.bool]
     (.ite (.var 41)
      (.ob (.cmp .le (.len (.push (.var 39) (.econs (.ar .add .i64 (.var 40) (.int .i64 1)) .enil))) (.int .i64 17592186044416))
      (.again 0 [(.push (.var 39) (.econs (.ar .add .i64 (.var 40) (.int .i64 1)) .enil)), (.ar .add .i64 (.var 40) (.int .i64 1))]))
      (.again 0 [(.var 39), (.ar .add .i64 (.var 40) (.int .i64 1))])))
     (.ite (.ite (.cmp .eq (.var 37) (.int .i64 4)) (.and (.cmp .eq (.elem (.var 0) (.var 40) 3 (.int .i64)) (.int .i64 9)) (.and (.cmp .ne (.elem (.var 0) (.var 40) 13 (.int .i64)) (.int .i64 2)) (.cmp .ne (.var 40) (.var 38)))) (.and (.cmp .eq (.var 37) (.int .i64 5)) (.cmp .eq (.elem (.var 0) (.var 40) 3 (.int .i64)) (.int .i64 8))))
      (.ob (.cmp .le (.len (.push (.var 39) (.econs (.ar .add .i64 (.var 40) (.int .i64 1)) .enil))) (.int .i64 17592186044416))
      (.again 0 [(.push (.var 39) (.econs (.ar .add .i64 (.var 40) (.int .i64 1)) .enil)), (.ar .add .i64 (.var 40) (.int .i64 1))]))
      (.again 0 [(.var 39), (.ar .add .i64 (.var 40) (.int .i64 1))]))))
    (.share 3 (.var 39)
    (.ret [(.var 41)]))))))
theorem wk_rList18 : walk E0.cx (sgsN [(41, sg_rIs)]) 0 24 sg_rList18 = tr_rList18 := by kernel_rfl
theorem bo_rList18 : ∃ x, bodyOf E0.P 24 = some x := bo_of (by kernel_rfl)
theorem sp_rList18_rIs : specC [con_rIs] k_rIs = rIs_s := rfl
def rList18_s : Spec := fun ds Q => OkS (ds.take 37) ∧ ∀ v, Q [.list v 1 (intR (listP (ds.take 37) (argI ds 37) (argI ds 38) ((argL ds 0).length + 3)))]
theorem rList18_h : Holds E0 k_rList18 sg_rList18 rList18_s := con_fn wf0 mix0 g0 [con_rIs] rfl wk_rList18 rfl (by
  intro Φ hΦ ds Q hs ⟨hok, h⟩
  have hl : ds.length = 39 := hs.length.symm
  have s1 : Φ k_rIs = rIs_s := by rw [hΦ]; rfl
  clear hΦ
  have hol : (argL (ds.take 37) 0).length = (argL ds 0).length := by rw [argL_t (by omega)]
  have hsm0 := hok.small 0 (by omega)
  rw [hol] at hsm0
  have hb := listP_3 (ds.take 37) (argI ds 37) (argI ds 38)
  have hst := fun k => listP_s (ds.take 37) (argI ds 37) (argI ds 38) (k + 3)
  have hll := fun k => listP_len (ds.take 37) (argI ds 37) (argI ds 38) k
  have hal : ∀ k : Nat, k < (argL ds 0).length → _ := fun k hk => allowB_o (S := ds.take 37) (by rw [hol]; exact hk) (argI ds 37) (argI ds 38)
  have h3 : ∀ k : Nat, ((k + 3 : Nat) : Int) - 2 = (k : Int) + 1 := fun k => by omega
  simp only [h3] at hst
  generalize listP (ds.take 37) (argI ds 37) (argI ds 38) = LP at *
  generalize allowB (ds.take 37) (argI ds 37) (argI ds 38) = AB at *
  have next : ∀ (k : Nat) (R : List (List Dat)), k < (argL ds 0).length → R = intR (LP (k + 1 + 3)) → ∃ m', m' < (argL ds 0).length - k ∧ ∃ k' : Nat, k' ≤ (argL ds 0).length ∧ m' = (argL ds 0).length - k' ∧ [Dat.rows R, Dat.int .i64 (IntKind.i64.wrap ((k : Int) + 1))] = [.rows (intR (LP (k' + 3))), .int .i64 (k' : Int)] := fun k R hk hR =>
    ⟨_, (by omega : (argL ds 0).length - (k + 1) < _), k + 1, by omega, rfl, by rw [hR, wrap64 (by omega) (by omega)]; rfl⟩
  have yes : ∀ k : Nat, AB ((k : Int) + 1) = true → k < (argL ds 0).length → ∃ m', m' < (argL ds 0).length - k ∧ ∃ k' : Nat, k' ≤ (argL ds 0).length ∧ m' = (argL ds 0).length - k' ∧ [Dat.rows (intR (LP (k + 3)) ++ [[Dat.int .i64 (IntKind.i64.wrap ((k : Int) + 1))]]), Dat.int .i64 (IntKind.i64.wrap ((k : Int) + 1))] = [.rows (intR (LP (k' + 3))), .int .i64 (k' : Int)] := fun k hy hk => next k _ hk (by
    rw [show k + 1 + 3 = k + 3 + 1 by omega, hst, hy, if_pos rfl, intR_app, wrap64 (by omega) (by omega)]; rfl)
  have no : ∀ k : Nat, AB ((k : Int) + 1) = false → k < (argL ds 0).length → ∃ m', m' < (argL ds 0).length - k ∧ ∃ k' : Nat, k' ≤ (argL ds 0).length ∧ m' = (argL ds 0).length - k' ∧ [Dat.rows (intR (LP (k + 3))), Dat.int .i64 (IntKind.i64.wrap ((k : Int) + 1))] = [.rows (intR (LP (k' + 3))), .int .i64 (k' : Int)] := fun k hy hk => next k _ hk (by
    rw [show k + 1 + 3 = k + 3 + 1 by omega, hst, hy, if_neg Bool.false_ne_true, List.append_nil])
  simp only [tr_rList18, wp, den_int, den_bool, den_nili, den_ar, den_cmp, den_not, den_len, den_elem, den_isnil, den_errI, den_ifc, den_rep, den_push, den_app, den_emp, den_upd, row0_econs, row0_enil, den_and, den_beq, den_nil, toInt_int, toBool_bool, xs_rows, xs_list, dflt_int, dflt_bool, of_eq, of_ne, of_lt, of_le, of_gt, of_ge, of_add, of_sub, of_rem, List.map_cons, List.map_nil, Dat.bool.injEq, decide_eq_true_eq, decide_eq_false_iff_not, Bool.not_eq_true', Bool.not_eq_false', beq_iff_eq, bne_iff_ne, beq_eq_false_iff_ne, bne_eq_false_iff_eq, ne_eq, List.append_assoc, List.cons_append, List.nil_append, allS, s1, rIs_s, @den_var0 E0.Δ ds, den_varA, den_varB, hl, Nat.reduceLT, Nat.reduceLeDiff, Nat.reduceSub, List.getD_cons_zero, List.getD_cons_succ, argL_fold ds, argI_fold ds, List.append_assoc, List.cons_append, List.nil_append, toInt_int, toBool_bool, xs_rows, xs_list, Int.toNat_natCast, Dat.bool.injEq, dflt_int, fold37x (show 37 ≤ ds.length by omega), take_ta (show 37 ≤ ds.length by omega), argI_ta (show 37 ≤ ds.length by omega) 0, argL_ta (i := 0) (show 0 < 37 by omega) (show 37 ≤ ds.length by omega), argI_c0, argI_fold ds, toInt_getD, List.append_nil, List.getElem?_cons_zero, den_or, den_ite, toBool_bool, toBool_ite, ite_datb, ← obj_t, Dat.bool.injEq]
  refine ⟨fun h23 => ⟨by decide, fun h0 => ?_, fun h0 => ?_⟩, fun h23 => ⟨fun h0 => ⟨by decide, ?_⟩, fun h0 => ?_⟩⟩
  · rw [h0] at h23
    exact absurd h23 (by decide)
  · have h23 : argI ds 37 = 2 ∨ argI ds 37 = 3 := by simpa using h23
    refine ⟨fun xs m => ∃ k : Nat, k ≤ (argL ds 0).length ∧ m = (argL ds 0).length - k ∧ xs = [.rows (intR (LP (k + 3))), .int .i64 (k : Int)], ⟨_, 0, by omega, rfl, by rw [Nat.zero_add, hb, if_neg h0, if_pos h23]; rfl⟩, ?_⟩
    rintro d hd n m ⟨k, hk, hm, e⟩
    cases e
    subst hm
    refine ⟨fun hlt => ?_, fun hge => ?_⟩
    · have hk2 : k < (argL ds 0).length := by omega
      have hak := hal k hk2
      have hlk := hll (k + 3)
      refine ⟨by omega, fun h1 => ⟨hok, fun hy => ⟨?_, yes k ?_ hk2⟩, fun hy => no k ?_ hk2⟩, fun h1 => ⟨fun hy => ⟨?_, yes k ?_ hk2⟩, fun hy => no k ?_ hk2⟩⟩
      · simp only [xs_rows, List.length_append, List.length_cons, List.length_nil, intR_len]; omega
      · rw [hak, if_pos (by simpa using h1)]; exact hy
      · rw [hak, if_pos (by simpa using h1)]; exact hy
      · simp only [xs_rows, List.length_append, List.length_cons, List.length_nil, intR_len]; omega
      · rw [hak, if_neg (by simpa using h1), ← hy]
        by_cases h4 : argI ds 37 = 4
        · rw [if_pos h4, if_pos h4, Bool.eq_iff_iff]
          simp only [Bool.and_eq_true, decide_eq_true_eq, bne_iff_ne, beq_iff_eq, ne_eq]
          exact ⟨fun ⟨⟨a, b⟩, c⟩ => ⟨b, c, a⟩, fun ⟨b, c, a⟩ => ⟨⟨a, b⟩, c⟩⟩
        · rw [if_neg h4, if_neg h4, Bool.eq_iff_iff]
          by_cases h5 : argI ds 37 = 5
          · rw [if_pos h5]; simp [h5]
          · simp [h5]
      · rw [hak, if_neg (by simpa using h1), ← hy]
        by_cases h4 : argI ds 37 = 4
        · rw [if_pos h4, if_pos h4, Bool.eq_iff_iff]
          simp only [Bool.and_eq_true, decide_eq_true_eq, bne_iff_ne, beq_iff_eq, ne_eq]
          exact ⟨fun ⟨⟨a, b⟩, c⟩ => ⟨b, c, a⟩, fun ⟨b, c, a⟩ => ⟨⟨a, b⟩, c⟩⟩
        · rw [if_neg h4, if_neg h4, Bool.eq_iff_iff]
          by_cases h5 : argI ds 37 = 5
          · rw [if_pos h5]; simp [h5]
          · simp [h5]
    · intro A c
      obtain rfl : k = (argL ds 0).length := by omega
      exact h _
  · refine ⟨fun xs m => ∃ k : Nat, k ≤ (argL ds 0).length ∧ m = (argL ds 0).length - k ∧ xs = [.rows (intR (LP (k + 3))), .int .i64 (k : Int)], ⟨_, 0, by omega, rfl, by rw [Nat.zero_add, hb, if_pos h0]; rfl⟩, ?_⟩
    rintro d hd n m ⟨k, hk, hm, e⟩
    cases e
    subst hm
    refine ⟨fun hlt => ?_, fun hge => ?_⟩
    · have hk2 : k < (argL ds 0).length := by omega
      have hak := hal k hk2
      have hlk := hll (k + 3)
      exact ⟨by omega, no k (by rw [hak, if_neg (by omega), if_neg (by omega), if_neg (by omega)]) hk2⟩
    · intro A c
      obtain rfl : k = (argL ds 0).length := by omega
      exact h _
  · have h23 : ¬ (argI ds 37 = 2 ∨ argI ds 37 = 3) := by simpa using h23
    refine ⟨fun xs m => ∃ k : Nat, k ≤ (argL ds 0).length ∧ m = (argL ds 0).length - k ∧ xs = [.rows (intR (LP (k + 3))), .int .i64 (k : Int)], ⟨_, 0, by omega, rfl, by rw [Nat.zero_add, hb, if_neg h0, if_neg h23]; rfl⟩, ?_⟩
    rintro d hd n m ⟨k, hk, hm, e⟩
    cases e
    subst hm
    refine ⟨fun hlt => ?_, fun hge => ?_⟩
    · have hk2 : k < (argL ds 0).length := by omega
      have hak := hal k hk2
      have hlk := hll (k + 3)
      refine ⟨by omega, fun h1 => ⟨hok, fun hy => ⟨?_, yes k ?_ hk2⟩, fun hy => no k ?_ hk2⟩, fun h1 => ⟨fun hy => ⟨?_, yes k ?_ hk2⟩, fun hy => no k ?_ hk2⟩⟩
      · simp only [xs_rows, List.length_append, List.length_cons, List.length_nil, intR_len]; omega
      · rw [hak, if_pos (by simpa using h1)]; exact hy
      · rw [hak, if_pos (by simpa using h1)]; exact hy
      · simp only [xs_rows, List.length_append, List.length_cons, List.length_nil, intR_len]; omega
      · rw [hak, if_neg (by simpa using h1), ← hy]
        by_cases h4 : argI ds 37 = 4
        · rw [if_pos h4, if_pos h4, Bool.eq_iff_iff]
          simp only [Bool.and_eq_true, decide_eq_true_eq, bne_iff_ne, beq_iff_eq, ne_eq]
          exact ⟨fun ⟨⟨a, b⟩, c⟩ => ⟨b, c, a⟩, fun ⟨b, c, a⟩ => ⟨⟨a, b⟩, c⟩⟩
        · rw [if_neg h4, if_neg h4, Bool.eq_iff_iff]
          by_cases h5 : argI ds 37 = 5
          · rw [if_pos h5]; simp [h5]
          · simp [h5]
      · rw [hak, if_neg (by simpa using h1), ← hy]
        by_cases h4 : argI ds 37 = 4
        · rw [if_pos h4, if_pos h4, Bool.eq_iff_iff]
          simp only [Bool.and_eq_true, decide_eq_true_eq, bne_iff_ne, beq_iff_eq, ne_eq]
          exact ⟨fun ⟨⟨a, b⟩, c⟩ => ⟨b, c, a⟩, fun ⟨b, c, a⟩ => ⟨⟨a, b⟩, c⟩⟩
        · rw [if_neg h4, if_neg h4, Bool.eq_iff_iff]
          by_cases h5 : argI ds 37 = 5
          · rw [if_pos h5]; simp [h5]
          · simp [h5]
    · intro A c
      obtain rfl : k = (argL ds 0).length := by omega
      exact h _)
noncomputable def con_rList18 : Con E0 := ⟨k_rList18, sg_rList18, rList18_s, rfl, bo_rList18, rList18_h⟩
end Go.Proofs.YtelfhmeobfimiaaDoor
end

section
namespace Go.Proofs.YtelfhmeobfimiaaDoor
open Go.RowKit
set_option linter.unusedVariables false
set_option linter.unusedSimpArgs false

theorem errP_none {S : List Dat} (hL : ∀ i, i < 12 → argL S i = []) (hI : ∀ i, i < 25 → argI S (12 + i) = 0) : errP S 0 := by
  have el : ∀ z, z < 11 → lst S z = [] := fun z hz => by unfold lst; rw [hL (z + 1) (by omega)]; rfl
  have ei : ∀ z, z ≤ 11 → ids S z = [] := by
    intro z
    induction z with
    | zero => intro _; rfl
    | succ z ih => intro hz; rw [ids, ih (by omega)]; unfold idz; rw [el z (by omega)]; rfl
  have e : ∀ j, j < 18 → pl S j = 0 := fun j hj => hI j (by omega)
  have eg : ∀ j, j < 7 → gm S j = 0 := fun j hj => by
    have := hI (18 + j) (by omega)
    rwa [show 12 + (18 + j) = 30 + j by omega] at this
  unfold errP
  rw [hL 0 (by omega)]
  refine (if_neg (by decide)).mpr (.inr (.inr (.inr ⟨⟨?_, ?_, ?_⟩, ⟨?_, ?_, ?_⟩, ?_, rfl⟩)))
  · intro o ho; rw [hL 0 (by omega)] at ho; cases ho
  · intro i hi
    rw [e _ (by omega), e _ (by omega), e _ (by omega)]
    refine ⟨by decide, by decide, by decide, fun k h1 h2 => ?_⟩
    rw [e _ (by omega)]; decide
  · unfold gmP
    rw [eg 0 (by decide), eg 1 (by decide), eg 2 (by decide), eg 3 (by decide), eg 4 (by decide), eg 5 (by decide), eg 6 (by decide)]
    decide
  · intro q hq; rw [ei 11 (by omega)] at hq; cases hq
  · rw [ei 11 (by omega)]; exact List.nodup_nil
  · rw [ei 11 (by omega), hL 0 (by omega)]; rfl
  · intro o ho; cases ho
noncomputable def stX : List Dat := .list (.slice none 0 0) (E0.Δ.row 36).length [] :: (List.replicate 11 (.list (.slice none 0 0) (E0.Δ.row 3).length []) ++ List.replicate 25 (.int .i64 0))
def k_alive18 : Nat := 22
def sg_alive18 : Sig := ⟨[], [(false, [.bool])], false, false, true, false, false⟩
def tr_alive18 : Tree := (.call k_tList0 [(.nil 36), (.nil 3), (.nil 3), (.nil 3), (.nil 3), (.nil 3), (.nil 3), (.nil 3), (.nil 3), (.nil 3), (.nil 3), (.nil 3), (.int .i64 0), (.int .i64 0), (.int .i64 0), (.int .i64 0), (.int .i64 0), (.int .i64 0), (.int .i64 0), (.int .i64 0), (.int .i64 0), (.int .i64 0), (.int .i64 0), (.int .i64 0), (.int .i64 0), (.int .i64 0), (.int .i64 0), (.int .i64 0), (.int .i64 0), (.int .i64 0), (.int .i64 0), (.int .i64 0), (.int .i64 0), (.int .i64 0), (.int .i64 0), (.int .i64 0), (.int .i64 0), (.int .i64 3), (.int .i64 0)] [(.rows 3)]
(.share 3 (.app .emp (.var 0))
(.share 3 (.push (.push .emp (.econs (.int .i64 (-2)) .enil)) (.econs (.int .i64 (-1)) .enil))
(.call k_Ints [(.var 1), (.var 2)] [.bool]
(.ite (.var 3)
 (.call k_tList0 [(.nil 36), (.nil 3), (.nil 3), (.nil 3), (.nil 3), (.nil 3), (.nil 3), (.nil 3), (.nil 3), (.nil 3), (.nil 3), (.nil 3), (.int .i64 0), (.int .i64 0), (.int .i64 0), (.int .i64 0), (.int .i64 0), (.int .i64 0), (.int .i64 0), (.int .i64 0), (.int .i64 0), (.int .i64 0), (.int .i64 0), (.int .i64 0), (.int .i64 0), (.int .i64 0), (.int .i64 0), (.int .i64 0), (.int .i64 0), (.int .i64 0), (.int .i64 0), (.int .i64 0), (.int .i64 0), (.int .i64 0), (.int .i64 0), (.int .i64 0), (.int .i64 0), (.int .i64 0), (.int .i64 0)] [(.rows 3)]
 (.share 3 (.app .emp (.var 4))
 (.share 3 (.push .emp (.econs (.int .i64 0) .enil))
 (.call k_Ints [(.var 5), (.var 6)] [.bool]
 (.ret [(.var 7)])))))
 (.ret [(.bool false)]))))))
theorem wk_alive18 : walk E0.cx (sgsN [(26, sg_tList0), (25, sg_Ints)]) 0 22 sg_alive18 = tr_alive18 := by kernel_rfl
theorem bo_alive18 : ∃ x, bodyOf E0.P 22 = some x := bo_of (by kernel_rfl)
theorem sp_alive18_tList0 : specC [con_tList0, con_Ints] k_tList0 = tList0_s := rfl
theorem sp_alive18_Ints : specC [con_tList0, con_Ints] k_Ints = Ints_s := rfl
def alive18_s : Spec := true_s
theorem alive18_h : Holds E0 k_alive18 sg_alive18 alive18_s := con_fn wf0 mix0 g0 [con_tList0, con_Ints] rfl wk_alive18 rfl (by
  intro Φ hΦ ds Q hs h
  have s1 : Φ k_tList0 = tList0_s := by rw [hΦ]; rfl
  have s2 : Φ k_Ints = Ints_s := by rw [hΦ]; rfl
  have h : Q [.bool true] := h
  clear hΦ
  have hl : ds.length = 0 := hs.length.symm
  obtain rfl : ds = [] := List.length_eq_zero_iff.1 hl
  unfold tr_alive18
  simp only [wp, s1, s2]
  have hL : ∀ L : List Dat, ∀ i, i < 12 → argL ((stX ++ L).take 37) i = [] := fun L i hi => by
    match i, hi with
    | 0, _ | 1, _ | 2, _ | 3, _ | 4, _ | 5, _ | 6, _ | 7, _ | 8, _ | 9, _ | 10, _ | 11, _ => rfl
    | i + 12, h => exact absurd h (by omega)
  have hI : ∀ L : List Dat, ∀ i, i < 25 → argI ((stX ++ L).take 37) (12 + i) = 0 := fun L i hi => by
    match i, hi with
    | 0, _ | 1, _ | 2, _ | 3, _ | 4, _ | 5, _ | 6, _ | 7, _ | 8, _ | 9, _ | 10, _ | 11, _ | 12, _ | 13, _ | 14, _ | 15, _ | 16, _ | 17, _ | 18, _ | 19, _ | 20, _ | 21, _ | 22, _ | 23, _ | 24, _ => rfl
    | i + 25, h => exact absurd h (by omega)
  have hsm : ∀ L : List Dat, Sm ((stX ++ L).take 37) := fun L i hi => by rw [hL L i hi]; exact Nat.zero_le _
  have h2 : ∀ b : Bool, b = true → Q [.bool b] := fun b hb => by rw [hb]; exact h
  refine ⟨hsm [.int .i64 3, .int .i64 0], errP_none (hL [.int .i64 3, .int .i64 0]) (hI [.int .i64 3, .int .i64 0]), rfl, true, rfl, ?_⟩
  intro A c A1 c1
  refine ⟨show 2 ≤ 1000000 by decide, fun _ => ?_, fun hx => absurd rfl (of_decide_eq_false (Dat.bool.inj hx))⟩
  refine ⟨hsm [.int .i64 0, .int .i64 0], errP_none (hL [.int .i64 0, .int .i64 0]) (hI [.int .i64 0, .int .i64 0]), rfl, false, rfl, ?_⟩
  intro A2 c2 A3 c3
  refine ⟨show 1 ≤ 1000000 by decide, ?_⟩
  exact h2 _ (decide_eq_true rfl))
noncomputable def con_alive18 : Con E0 := ⟨k_alive18, sg_alive18, alive18_s, rfl, bo_alive18, alive18_h⟩
end Go.Proofs.YtelfhmeobfimiaaDoor
end

section
namespace Go.Proofs.YtelfhmeobfimiaaDoor
open Go.RowKit
set_option linter.unusedVariables false
set_option linter.unusedSimpArgs false

def k_rAllows18 : Nat := 38
def sg_rAllows18 : Sig := ⟨[(true, [.list 36] ++ List.replicate 11 (.list 3) ++ List.replicate 25 (.int .i64)), (false, [.int .i64]), (false, [.int .i64]), (false, [.int .i64])], [(false, [.bool])], false, false, true, false, false⟩
def tr_rAllows18 : Tree := (.call k_rList18 [(.var 0), (.var 1), (.var 2), (.var 3), (.var 4), (.var 5), (.var 6), (.var 7), (.var 8), (.var 9), (.var 10), (.var 11), (.var 12), (.var 13), (.var 14), (.var 15), (.var 16), (.var 17), (.var 18), (.var 19), (.var 20), (.var 21), (.var 22), (.var 23), (.var 24), (.var 25), (.var 26), (.var 27), (.var 28), (.var 29), (.var 30), (.var 31), (.var 32), (.var 33), (.var 34), (.var 35), (.var 36), (.var 37), (.var 38)] [(.list 3)]
(.loop [(.bool false), (.int .i64 0)] [.bool, (.int .i64)]
 (.ite (.cmp .lt (.var 42) (.len (.var 40)))
  (.ob (.cmp .ge (.var 42) (.int .i64 0))
  (.ite (.cmp .eq (.elem (.var 40) (.var 42) 0 (.int .i64)) (.var 39))
   (.ret [(.bool true)])
   (.again 0 [(.var 41), (.ar .add .i64 (.var 42) (.int .i64 1))])))
  (.ret [(.bool false)]))))
theorem wk_rAllows18 : walk E0.cx (sgsN [(24, sg_rList18)]) 0 38 sg_rAllows18 = tr_rAllows18 := by kernel_rfl
theorem bo_rAllows18 : ∃ x, bodyOf E0.P 38 = some x := bo_of (by kernel_rfl)
theorem sp_rAllows18_rList18 : specC [con_rList18] k_rList18 = rList18_s := rfl
def rAllows18_s : Spec := fun ds Q => OkS (ds.take 37) ∧ Q [.bool (allowB (ds.take 37) (argI ds 37) (argI ds 38) (argI ds 39))]
theorem intR_get (l : List Int) {k : Nat} (hk : k < l.length) : rowI ((intR l).getD k []) 0 = l.getD k 0 := by
  have e : (intR l).getD k [] = [.int .i64 (l.getD k 0)] := by
    unfold intR
    rw [List.getD_eq_getElem?_getD, List.getElem?_map, List.getD_eq_getElem?_getD, List.getElem?_eq_getElem hk]; rfl
  rw [e]; rfl
theorem rAllows18_h : Holds E0 k_rAllows18 sg_rAllows18 rAllows18_s := con_fn wf0 mix0 g0 [con_rList18] rfl wk_rAllows18 rfl (by
  intro Φ hΦ ds Q hs ⟨hok, h⟩
  have hl : ds.length = 40 := hs.length.symm
  have s1 : Φ k_rList18 = rList18_s := by rw [hΦ]; rfl
  clear hΦ
  have hol : (argL (ds.take 37) 0).length = (argL ds 0).length := by rw [argL_t (by omega)]
  have hsm0 := hok.small 0 (by omega)
  rw [hol] at hsm0
  have hmem := fun t => mem_listP (S := ds.take 37) (kind := argI ds 37) (self := argI ds 38) (t := t)
  have hll := listP_len (ds.take 37) (argI ds 37) (argI ds 38) ((argL ds 0).length + 3)
  rw [hol] at hmem
  simp only [tr_rAllows18, wp, den_int, den_bool, den_nili, den_ar, den_cmp, den_not, den_len, den_elem, den_isnil, den_errI, den_ifc, den_rep, den_push, den_app, den_emp, den_upd, row0_econs, row0_enil, den_and, den_beq, den_nil, toInt_int, toBool_bool, xs_rows, xs_list, dflt_int, dflt_bool, of_eq, of_ne, of_lt, of_le, of_gt, of_ge, of_add, of_sub, of_rem, List.map_cons, List.map_nil, Dat.bool.injEq, decide_eq_true_eq, decide_eq_false_iff_not, Bool.not_eq_true', Bool.not_eq_false', beq_iff_eq, bne_iff_ne, beq_eq_false_iff_ne, bne_eq_false_iff_eq, ne_eq, List.append_assoc, List.cons_append, List.nil_append, allS, s1, rList18_s, @den_var0 E0.Δ ds, den_varA, den_varB, hl, Nat.reduceLT, Nat.reduceLeDiff, Nat.reduceSub, List.getD_cons_zero, List.getD_cons_succ, argL_fold ds, argI_fold ds, List.append_assoc, List.cons_append, List.nil_append, toInt_int, toBool_bool, xs_rows, xs_list, Int.toNat_natCast, Dat.bool.injEq, dflt_int, fold37x (show 37 ≤ ds.length by omega), take_ta (show 37 ≤ ds.length by omega), argI_ta (show 37 ≤ ds.length by omega) 0, argL_ta (i := 0) (show 0 < 37 by omega) (show 37 ≤ ds.length by omega), argI_c0, argI_fold ds, toInt_getD, List.append_nil, List.getElem?_cons_zero, argI_ta (show 37 ≤ ds.length by omega) 1, argI_ta (show 37 ≤ ds.length by omega) 2, argI_c1]
  refine ⟨hok, fun v => ?_⟩
  have hmem := hmem (argI ds 39)
  generalize listP (ds.take 37) (argI ds 37) (argI ds 38) ((argL ds 0).length + 3) = L at *
  generalize allowB (ds.take 37) (argI ds 37) (argI ds 38) (argI ds 39) = B at *
  refine ⟨fun xs m => ∃ (b : Bool) (k : Nat), k ≤ L.length ∧ m = L.length - k ∧ xs = [.bool b, .int .i64 k] ∧ argI ds 39 ∉ L.take k, ⟨_, false, 0, by omega, rfl, rfl, by simp⟩, ?_⟩
  intro b1 n1 m ⟨b, k, hk, hm, e, hno⟩
  obtain ⟨rfl, rfl⟩ : b1 = b ∧ n1 = (k : Int) := by simpa using e
  subst hm
  rw [intR_len]
  refine ⟨fun hlt => ?_, fun hge => ?_⟩
  · have hk2 : k < L.length := by omega
    rw [Int.toNat_natCast, intR_get L hk2]
    refine ⟨by omega, fun hy => ?_, fun hy => ⟨_, (by omega : L.length - (k + 1) < _), b1, k + 1, by omega, rfl, by rw [wrap64 (by omega) (by omega)]; rfl, ?_⟩⟩
    · have : argI ds 39 ∈ L := by rw [← hy]; exact getD_memL hk2
      rw [hmem.1 this] at h
      exact h
    · rw [take_succ_getD (d := 0) hk2, List.mem_append, List.mem_singleton]
      rintro (hx | hx)
      · exact hno hx
      · exact hy hx.symm
  · have hk3 : k = L.length := by omega
    rw [hk3, List.take_length] at hno
    have : B = false := by
      cases hB : B
      · rfl
      · exact absurd (hmem.2 hB) hno
    rw [this] at h
    exact h)
noncomputable def con_rAllows18 : Con E0 := ⟨k_rAllows18, sg_rAllows18, rAllows18_s, rfl, bo_rAllows18, rAllows18_h⟩
theorem inI {ds : List Dat} {k : Nat} (hi : InL ds) (h : k < ds.length) (hd : ds.getD k (.bool false) = .int .i64 (argI ds k)) : -9223372036854775808 ≤ argI ds k ∧ argI ds k ≤ 9223372036854775807 := by
  have hm : ds.getD k (.bool false) ∈ ds := by rw [List.getD_eq_getElem?_getD, List.getElem?_eq_getElem h]; exact List.getElem_mem h
  have := hi _ hm
  rw [hd] at this
  cases this with
  | int k n hw =>
    have hw2 : (decide (IntKind.i64.min ≤ argI ds k) && decide (argI ds k ≤ IntKind.i64.max)) = true := hw
    rw [Bool.and_eq_true, decide_eq_true_eq, decide_eq_true_eq] at hw2
    exact hw2
def law_s : Spec := fun ds Q => InL ds ∧ Q [.bool true]
def k_ltchecks : Nat := 8
def sg_ltchecks : Sig := ⟨[(true, [.list 36] ++ List.replicate 11 (.list 3) ++ List.replicate 25 (.int .i64)), (true, [.int .i64, .int .i64, .int .i64])], [(false, [.bool])], false, false, true, false, false⟩
def tr_ltchecks : Tree := (.call k_alive18 [] [.bool]
(.ite (.not (.var 40))
 (.ret [(.bool false)])
 (.call k_Long [(.var 0), (.var 1), (.var 2), (.var 3), (.var 4), (.var 5), (.var 6), (.var 7), (.var 8), (.var 9), (.var 10), (.var 11), (.var 12), (.var 13), (.var 14), (.var 15), (.var 16), (.var 17), (.var 18), (.var 19), (.var 20), (.var 21), (.var 22), (.var 23), (.var 24), (.var 25), (.var 26), (.var 27), (.var 28), (.var 29), (.var 30), (.var 31), (.var 32), (.var 33), (.var 34), (.var 35), (.var 36), (.int .i64 60)] [.bool]
 (.ite (.var 41)
  (.ret [(.bool true)])
  (.call k_rCheck [(.var 0), (.var 1), (.var 2), (.var 3), (.var 4), (.var 5), (.var 6), (.var 7), (.var 8), (.var 9), (.var 10), (.var 11), (.var 12), (.var 13), (.var 14), (.var 15), (.var 16), (.var 17), (.var 18), (.var 19), (.var 20), (.var 21), (.var 22), (.var 23), (.var 24), (.var 25), (.var 26), (.var 27), (.var 28), (.var 29), (.var 30), (.var 31), (.var 32), (.var 33), (.var 34), (.var 35), (.var 36)] [(.int .i64)]
  (.ite (.cmp .eq (.ite (.and (.cmp .eq (.var 42) (.int .i64 0)) (.or (.cmp .lt (.var 37) (.int .i64 0)) (.cmp .gt (.var 37) (.int .i64 5)))) (.int .i64 6) (.var 42)) (.int .i64 0))
   (.call k_rAllows18 [(.var 0), (.var 1), (.var 2), (.var 3), (.var 4), (.var 5), (.var 6), (.var 7), (.var 8), (.var 9), (.var 10), (.var 11), (.var 12), (.var 13), (.var 14), (.var 15), (.var 16), (.var 17), (.var 18), (.var 19), (.var 20), (.var 21), (.var 22), (.var 23), (.var 24), (.var 25), (.var 26), (.var 27), (.var 28), (.var 29), (.var 30), (.var 31), (.var 32), (.var 33), (.var 34), (.var 35), (.var 36), (.var 37), (.var 38), (.var 39)] [.bool]
   (.call k_tCheck18 [(.var 0), (.var 1), (.var 2), (.var 3), (.var 4), (.var 5), (.var 6), (.var 7), (.var 8), (.var 9), (.var 10), (.var 11), (.var 12), (.var 13), (.var 14), (.var 15), (.var 16), (.var 17), (.var 18), (.var 19), (.var 20), (.var 21), (.var 22), (.var 23), (.var 24), (.var 25), (.var 26), (.var 27), (.var 28), (.var 29), (.var 30), (.var 31), (.var 32), (.var 33), (.var 34), (.var 35), (.var 36), (.var 37), (.var 38), (.var 39)] [.err]
   (.call k_Num [(.var 44)] [(.int .i64)]
   (.ret [(.cmp .eq (.var 45) (.ite (.not (.var 43)) (.int .i64 11) (.ite (.and (.cmp .eq (.var 42) (.int .i64 0)) (.or (.cmp .lt (.var 37) (.int .i64 0)) (.cmp .gt (.var 37) (.int .i64 5)))) (.int .i64 6) (.var 42))))]))))
   (.call k_tCheck18 [(.var 0), (.var 1), (.var 2), (.var 3), (.var 4), (.var 5), (.var 6), (.var 7), (.var 8), (.var 9), (.var 10), (.var 11), (.var 12), (.var 13), (.var 14), (.var 15), (.var 16), (.var 17), (.var 18), (.var 19), (.var 20), (.var 21), (.var 22), (.var 23), (.var 24), (.var 25), (.var 26), (.var 27), (.var 28), (.var 29), (.var 30), (.var 31), (.var 32), (.var 33), (.var 34), (.var 35), (.var 36), (.var 37), (.var 38), (.var 39)] [.err]
   (.call k_Num [(.var 43)] [(.int .i64)]
   (.ret [(.cmp .eq (.var 44) (.ite (.and (.cmp .eq (.var 42) (.int .i64 0)) (.or (.cmp .lt (.var 37) (.int .i64 0)) (.cmp .gt (.var 37) (.int .i64 5)))) (.int .i64 6) (.var 42)))])))))))))
theorem wk_ltchecks : walk E0.cx (sgsN [(22, sg_alive18), (16, sg_Long), (23, sg_rCheck), (38, sg_rAllows18), (39, sg_tCheck18), (32, sg_Num)]) 0 8 sg_ltchecks = tr_ltchecks := by kernel_rfl
theorem bo_ltchecks : ∃ x, bodyOf E0.P 8 = some x := bo_of (by kernel_rfl)
theorem sp_ltchecks_alive18 : specC [con_alive18, con_Long, con_rCheck, con_rAllows18, con_tCheck18, con_Num] k_alive18 = alive18_s := rfl
theorem sp_ltchecks_Long : specC [con_alive18, con_Long, con_rCheck, con_rAllows18, con_tCheck18, con_Num] k_Long = Long_s := rfl
theorem sp_ltchecks_rCheck : specC [con_alive18, con_Long, con_rCheck, con_rAllows18, con_tCheck18, con_Num] k_rCheck = rCheck_s := rfl
theorem sp_ltchecks_rAllows18 : specC [con_alive18, con_Long, con_rCheck, con_rAllows18, con_tCheck18, con_Num] k_rAllows18 = rAllows18_s := rfl
theorem sp_ltchecks_tCheck18 : specC [con_alive18, con_Long, con_rCheck, con_rAllows18, con_tCheck18, con_Num] k_tCheck18 = tCheck18_s := rfl
theorem sp_ltchecks_Num : specC [con_alive18, con_Long, con_rCheck, con_rAllows18, con_tCheck18, con_Num] k_Num = Num_s := rfl
theorem ltchecks_h : Holds E0 k_ltchecks sg_ltchecks law_s := con_fn wf0 mix0 g0 [con_alive18, con_Long, con_rCheck, con_rAllows18, con_tCheck18, con_Num] rfl wk_ltchecks rfl (by
  intro Φ hΦ ds Q hs ⟨hin, h⟩
  have hl : ds.length = 40 := hs.length.symm
  have s1 : Φ k_alive18 = alive18_s := by rw [hΦ]; rfl
  have s2 : Φ k_Long = Long_s := by rw [hΦ]; rfl
  have s3 : Φ k_rCheck = rCheck_s := by rw [hΦ]; rfl
  have s4 : Φ k_rAllows18 = rAllows18_s := by rw [hΦ]; rfl
  have s5 : Φ k_tCheck18 = tCheck18_s := by rw [hΦ]; rfl
  have s6 : Φ k_Num = Num_s := by rw [hΦ]; rfl
  clear hΦ
  have hol : (argL (ds.take 37) 0).length = (argL ds 0).length := by rw [argL_t (by omega)]
  have et : (ds.take 37).take 37 = ds.take 37 := by rw [List.take_take]; rfl
  have hi39 := inI hin (k := 39) (by omega) (argV (all2_get hs (i := 39) rfl))
  simp (config := {maxSteps := 2000000}) only [tr_ltchecks, wp, den_int, den_bool, den_nili, den_ar, den_cmp, den_not, den_len, den_elem, den_isnil, den_errI, den_ifc, den_rep, den_push, den_app, den_emp, den_upd, row0_econs, row0_enil, den_and, den_beq, den_nil, toInt_int, toBool_bool, xs_rows, xs_list, dflt_int, dflt_bool, of_eq, of_ne, of_lt, of_le, of_gt, of_ge, of_add, of_sub, of_rem, List.map_cons, List.map_nil, Dat.bool.injEq, decide_eq_true_eq, decide_eq_false_iff_not, Bool.not_eq_true', Bool.not_eq_false', beq_iff_eq, bne_iff_ne, beq_eq_false_iff_ne, bne_eq_false_iff_eq, ne_eq, List.append_assoc, List.cons_append, List.nil_append, allS, s1, s2, s3, s4, s5, s6, alive18_s, true_s, Long_s, rCheck_s, rAllows18_s, tCheck18_s, Num_s, @den_var0 E0.Δ ds, den_varA, den_varB, hl, Nat.reduceLT, Nat.reduceLeDiff, Nat.reduceSub, List.getD_cons_zero, List.getD_cons_succ, argL_fold ds, argI_fold ds, List.append_assoc, List.cons_append, List.nil_append, toInt_int, toBool_bool, xs_rows, xs_list, Int.toNat_natCast, Dat.bool.injEq, dflt_int, fold37x (show 37 ≤ ds.length by omega), take_ta (show 37 ≤ ds.length by omega), argI_ta (show 37 ≤ ds.length by omega) 0, argL_ta (i := 0) (show 0 < 37 by omega) (show 37 ≤ ds.length by omega), argI_c0, argI_fold ds, toInt_getD, List.append_nil, ← obj_t, den_ite, den_not, toBool_bool, argI_ta (show 37 ≤ ds.length by omega) 1, argI_ta (show 37 ≤ ds.length by omega) 2, argI_c1, et, den_or, List.getElem?_cons_zero]
  refine ⟨fun hx => absurd hx (by decide), fun _ => ⟨by decide, by decide, fun b hb => ⟨fun _ => h, fun hbf => ?_⟩⟩⟩
  have hsm : Sm (ds.take 37) := sm_t60 (m := 60) (by omega) (fun hL => by rw [hb.2 hL] at hbf; exact absurd hbf (by decide)) (by decide)
  refine ⟨hsm, fun n hn => ?_⟩
  by_cases h0 : n = 0
  · subst h0
    have hok := okS_of hsm hn
    by_cases hk : argI ds 37 < 0 ∨ 5 < argI ds 37
    · have e : ((0 : Int) == 0 && (decide (argI ds 37 < 0) || decide (5 < argI ds 37))) = true := by
        rw [beq_self_eq_true, Bool.true_and, Bool.or_eq_true, decide_eq_true_eq, decide_eq_true_eq]; exact hk
      rw [e]
      refine ⟨fun hx => absurd hx (by decide), fun _ => ⟨hsm, hi39, fun n1 h1 => ⟨6, ?_, h⟩⟩⟩
      obtain rfl := errP_inj hn h1
      unfold chk18
      rw [if_pos rfl, if_pos (by omega)]
    · have e : ((0 : Int) == 0 && (decide (argI ds 37 < 0) || decide (5 < argI ds 37))) = false := by
        rw [beq_self_eq_true, Bool.true_and, Bool.or_eq_false_iff, decide_eq_false_iff_not, decide_eq_false_iff_not]; omega
      rw [e]
      refine ⟨fun _ => ⟨hok, hsm, hi39, fun n1 h1 => ⟨_, rfl, ?_⟩⟩, fun hx => absurd rfl hx⟩
      obtain rfl := errP_inj hn h1
      unfold chk18
      rw [if_pos rfl, if_neg (by omega)]
      cases allowB (ds.take 37) (argI ds 37) (argI ds 38) (argI ds 39)
      · exact h
      · exact h
  · have e : (n == 0 && (decide (argI ds 37 < 0) || decide (5 < argI ds 37))) = false := by
      rw [beq_eq_false_iff_ne.2 h0, Bool.false_and]
    rw [e]
    refine ⟨fun hx => absurd hx h0, fun _ => ⟨hsm, hi39, fun n1 h1 => ⟨n, ?_, ?_⟩⟩⟩
    · obtain rfl := errP_inj hn h1
      rw [if_neg h0]
    · show Q [.bool (n == n)]
      rw [beq_self_eq_true]
      exact h)
theorem nums_intR (l : List Int) : nums (intR l) = l := by
  unfold nums intR
  rw [List.map_map]
  exact (List.map_congr_left fun n _ => rfl).trans (List.map_id _)
def k_ltlists : Nat := 4
def sg_ltlists : Sig := ⟨[(true, [.list 36] ++ List.replicate 11 (.list 3) ++ List.replicate 25 (.int .i64)), (true, [.int .i64, .int .i64, .int .i64])], [(false, [.bool])], false, false, true, false, false⟩
def tr_ltlists : Tree := (.call k_alive18 [] [.bool]
(.ite (.not (.var 40))
 (.ret [(.bool false)])
 (.call k_Long [(.var 0), (.var 1), (.var 2), (.var 3), (.var 4), (.var 5), (.var 6), (.var 7), (.var 8), (.var 9), (.var 10), (.var 11), (.var 12), (.var 13), (.var 14), (.var 15), (.var 16), (.var 17), (.var 18), (.var 19), (.var 20), (.var 21), (.var 22), (.var 23), (.var 24), (.var 25), (.var 26), (.var 27), (.var 28), (.var 29), (.var 30), (.var 31), (.var 32), (.var 33), (.var 34), (.var 35), (.var 36), (.int .i64 60)] [.bool]
 (.ite (.var 41)
  (.ret [(.bool true)])
  (.call k_rCheck [(.var 0), (.var 1), (.var 2), (.var 3), (.var 4), (.var 5), (.var 6), (.var 7), (.var 8), (.var 9), (.var 10), (.var 11), (.var 12), (.var 13), (.var 14), (.var 15), (.var 16), (.var 17), (.var 18), (.var 19), (.var 20), (.var 21), (.var 22), (.var 23), (.var 24), (.var 25), (.var 26), (.var 27), (.var 28), (.var 29), (.var 30), (.var 31), (.var 32), (.var 33), (.var 34), (.var 35), (.var 36)] [(.int .i64)]
  (.ite (.and (.cmp .eq (.var 42) (.int .i64 0)) (.and (.cmp .ge (.var 37) (.int .i64 0)) (.cmp .le (.var 37) (.int .i64 5))))
   (.call k_rList18 [(.var 0), (.var 1), (.var 2), (.var 3), (.var 4), (.var 5), (.var 6), (.var 7), (.var 8), (.var 9), (.var 10), (.var 11), (.var 12), (.var 13), (.var 14), (.var 15), (.var 16), (.var 17), (.var 18), (.var 19), (.var 20), (.var 21), (.var 22), (.var 23), (.var 24), (.var 25), (.var 26), (.var 27), (.var 28), (.var 29), (.var 30), (.var 31), (.var 32), (.var 33), (.var 34), (.var 35), (.var 36), (.var 37), (.var 38)] [(.list 3)]
   (.call k_tList [(.var 0), (.var 1), (.var 2), (.var 3), (.var 4), (.var 5), (.var 6), (.var 7), (.var 8), (.var 9), (.var 10), (.var 11), (.var 12), (.var 13), (.var 14), (.var 15), (.var 16), (.var 17), (.var 18), (.var 19), (.var 20), (.var 21), (.var 22), (.var 23), (.var 24), (.var 25), (.var 26), (.var 27), (.var 28), (.var 29), (.var 30), (.var 31), (.var 32), (.var 33), (.var 34), (.var 35), (.var 36), (.var 37), (.var 38)] [(.list 3)]
   (.call k_Ints [(.var 44), (.var 43)] [.bool]
   (.ret [(.var 45)]))))
   (.call k_tList [(.var 0), (.var 1), (.var 2), (.var 3), (.var 4), (.var 5), (.var 6), (.var 7), (.var 8), (.var 9), (.var 10), (.var 11), (.var 12), (.var 13), (.var 14), (.var 15), (.var 16), (.var 17), (.var 18), (.var 19), (.var 20), (.var 21), (.var 22), (.var 23), (.var 24), (.var 25), (.var 26), (.var 27), (.var 28), (.var 29), (.var 30), (.var 31), (.var 32), (.var 33), (.var 34), (.var 35), (.var 36), (.var 37), (.var 38)] [(.list 3)]
   (.share 3 .emp
   (.call k_Ints [(.var 43), (.var 44)] [.bool]
   (.ret [(.var 45)]))))))))))
theorem wk_ltlists : walk E0.cx (sgsN [(22, sg_alive18), (16, sg_Long), (23, sg_rCheck), (24, sg_rList18), (26, sg_tList), (25, sg_Ints)]) 0 4 sg_ltlists = tr_ltlists := by kernel_rfl
theorem bo_ltlists : ∃ x, bodyOf E0.P 4 = some x := bo_of (by kernel_rfl)
theorem sp_ltlists_alive18 : specC [con_alive18, con_Long, con_rCheck, con_rList18, con_tList, con_Ints] k_alive18 = alive18_s := rfl
theorem sp_ltlists_Long : specC [con_alive18, con_Long, con_rCheck, con_rList18, con_tList, con_Ints] k_Long = Long_s := rfl
theorem sp_ltlists_rCheck : specC [con_alive18, con_Long, con_rCheck, con_rList18, con_tList, con_Ints] k_rCheck = rCheck_s := rfl
theorem sp_ltlists_rList18 : specC [con_alive18, con_Long, con_rCheck, con_rList18, con_tList, con_Ints] k_rList18 = rList18_s := rfl
theorem sp_ltlists_tList : specC [con_alive18, con_Long, con_rCheck, con_rList18, con_tList, con_Ints] k_tList = tList_s := rfl
theorem sp_ltlists_Ints : specC [con_alive18, con_Long, con_rCheck, con_rList18, con_tList, con_Ints] k_Ints = Ints_s := rfl
theorem ltlists_h : Holds E0 k_ltlists sg_ltlists true_s := con_fn wf0 mix0 g0 [con_alive18, con_Long, con_rCheck, con_rList18, con_tList, con_Ints] rfl wk_ltlists rfl (by
  intro Φ hΦ ds Q hs h
  have hl : ds.length = 40 := hs.length.symm
  have s1 : Φ k_alive18 = alive18_s := by rw [hΦ]; rfl
  have s2 : Φ k_Long = Long_s := by rw [hΦ]; rfl
  have s3 : Φ k_rCheck = rCheck_s := by rw [hΦ]; rfl
  have s4 : Φ k_rList18 = rList18_s := by rw [hΦ]; rfl
  have s5 : Φ k_tList = tList_s := by rw [hΦ]; rfl
  have s6 : Φ k_Ints = Ints_s := by rw [hΦ]; rfl
  have h : Q [.bool true] := h
  clear hΦ
  have hol : (argL (ds.take 37) 0).length = (argL ds 0).length := by rw [argL_t (by omega)]
  have et : (ds.take 37).take 37 = ds.take 37 := by rw [List.take_take]; rfl
  simp (config := {maxSteps := 2000000}) only [tr_ltlists, wp, den_int, den_bool, den_nili, den_ar, den_cmp, den_not, den_len, den_elem, den_isnil, den_errI, den_ifc, den_rep, den_push, den_app, den_emp, den_upd, row0_econs, row0_enil, den_and, den_beq, den_nil, toInt_int, toBool_bool, xs_rows, xs_list, dflt_int, dflt_bool, of_eq, of_ne, of_lt, of_le, of_gt, of_ge, of_add, of_sub, of_rem, List.map_cons, List.map_nil, Dat.bool.injEq, decide_eq_true_eq, decide_eq_false_iff_not, Bool.not_eq_true', Bool.not_eq_false', beq_iff_eq, bne_iff_ne, beq_eq_false_iff_ne, bne_eq_false_iff_eq, ne_eq, List.append_assoc, List.cons_append, List.nil_append, allS, s1, s2, s3, s4, s5, s6, alive18_s, true_s, Long_s, rCheck_s, rList18_s, tList_s, Ints_s, @den_var0 E0.Δ ds, den_varA, den_varB, hl, Nat.reduceLT, Nat.reduceLeDiff, Nat.reduceSub, List.getD_cons_zero, List.getD_cons_succ, argL_fold ds, argI_fold ds, List.append_assoc, List.cons_append, List.nil_append, toInt_int, toBool_bool, xs_rows, xs_list, Int.toNat_natCast, Dat.bool.injEq, dflt_int, fold37x (show 37 ≤ ds.length by omega), take_ta (show 37 ≤ ds.length by omega), argI_ta (show 37 ≤ ds.length by omega) 0, argL_ta (i := 0) (show 0 < 37 by omega) (show 37 ≤ ds.length by omega), argI_c0, argI_fold ds, toInt_getD, List.append_nil, ← obj_t, den_ite, den_not, toBool_bool, argI_ta (show 37 ≤ ds.length by omega) 1, argI_ta (show 37 ≤ ds.length by omega) 2, argI_c1, et, den_or, List.getElem?_cons_zero]
  refine ⟨fun hx => absurd hx (by decide), fun _ => ⟨by decide, by decide, fun b hb => ⟨fun _ => h, fun hbf => ?_⟩⟩⟩
  have hsm : Sm (ds.take 37) := sm_t60 (m := 60) (by omega) (fun hL => by rw [hb.2 hL] at hbf; exact absurd hbf (by decide)) (by decide)
  refine ⟨hsm, fun n hn => ?_⟩
  have h60 : (argL ds 0).length ≤ 60 := by
    apply Classical.byContradiction
    intro hx
    rw [hb.2 (.inl (by rw [argL_ta (by omega) (by omega)]; omega))] at hbf
    cases hbf
  have hll := listP_len (ds.take 37) (argI ds 37) (argI ds 38) ((argL ds 0).length + 3)
  have c0 : ∀ a b : Dat, argL [a, b] 0 = a.xs := fun _ _ => rfl
  have c1 : ∀ a b : Dat, argL [a, b] 1 = b.xs := fun _ _ => rfl
  simp only [c0, c1, xs_list, nums_intR, intR_len]
  refine ⟨fun hx => ?_, fun hx => ?_⟩
  · rw [Bool.and_eq_true, beq_iff_eq] at hx
    obtain ⟨h0, _⟩ := hx
    subst h0
    refine ⟨okS_of hsm hn, fun v => ⟨hsm, fun n1 h1 v1 => ?_⟩⟩
    obtain rfl := errP_inj hn h1
    rw [if_pos rfl]
    exact ⟨by omega, by rw [decide_eq_true rfl]; exact h⟩
  · refine ⟨hsm, fun n1 h1 v A c => ?_⟩
    obtain rfl := errP_inj hn h1
    have e : (if n = 0 then listP (ds.take 37) (argI ds 37) (argI ds 38) ((argL ds 0).length + 3) else []) = [] := by
      split
      · rename_i h0
        rw [h0, beq_self_eq_true, Bool.true_and, Bool.and_eq_false_iff, decide_eq_false_iff_not, decide_eq_false_iff_not] at hx
        exact listP_kind (by omega) _
      · rfl
    rw [e]
    exact ⟨by decide, h⟩)
end Go.Proofs.YtelfhmeobfimiaaDoor
end
