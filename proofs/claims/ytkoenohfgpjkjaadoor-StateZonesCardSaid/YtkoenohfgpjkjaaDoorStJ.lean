/-
  The law on whose a list is, as a function.
-/
import Derived.Test.YtkoenohfgpjkjaaDoorStI
namespace Go.Proofs.YtkoenohfgpjkjaaDoor
open Go.RowKit
set_option linter.unusedVariables false
set_option linter.unusedSimpArgs false

theorem fold_take {α : Type} {ds : List α} {d : α} {n : Nat} (hl : n ≤ ds.length) : (List.range' 0 n).map (fun i => ds.getD i d) = ds.take n := by
  have := fold_getD d (ds.take n)
  rw [List.length_take, Nat.min_eq_left hl] at this
  rw [← this]
  apply List.map_congr_left
  intro i hi
  have hi : i < n := by simp [List.mem_range'] at hi; omega
  simp [List.getD_eq_getElem?_getD, List.getElem?_take, hi]
theorem fold37t {ds : List Dat} {d : Dat} {k : IntKind} {n : Int} (hl : 37 ≤ ds.length) : [ds.getD 0 d, ds.getD 1 d, ds.getD 2 d, ds.getD 3 d, ds.getD 4 d, ds.getD 5 d, ds.getD 6 d, ds.getD 7 d, ds.getD 8 d, ds.getD 9 d, ds.getD 10 d, ds.getD 11 d, ds.getD 12 d, ds.getD 13 d, ds.getD 14 d, ds.getD 15 d, ds.getD 16 d, ds.getD 17 d, ds.getD 18 d, ds.getD 19 d, ds.getD 20 d, ds.getD 21 d, ds.getD 22 d, ds.getD 23 d, ds.getD 24 d, ds.getD 25 d, ds.getD 26 d, ds.getD 27 d, ds.getD 28 d, ds.getD 29 d, ds.getD 30 d, ds.getD 31 d, ds.getD 32 d, ds.getD 33 d, ds.getD 34 d, ds.getD 35 d, ds.getD 36 d, .int k n] = ds.take 37 ++ [.int k n] := by
  have := congrArg (· ++ [.int k n]) (fold_take hl (d := d))
  exact this
theorem fold38t {α : Type} {ds : List α} {d : α} (hl : 38 ≤ ds.length) : [ds.getD 0 d, ds.getD 1 d, ds.getD 2 d, ds.getD 3 d, ds.getD 4 d, ds.getD 5 d, ds.getD 6 d, ds.getD 7 d, ds.getD 8 d, ds.getD 9 d, ds.getD 10 d, ds.getD 11 d, ds.getD 12 d, ds.getD 13 d, ds.getD 14 d, ds.getD 15 d, ds.getD 16 d, ds.getD 17 d, ds.getD 18 d, ds.getD 19 d, ds.getD 20 d, ds.getD 21 d, ds.getD 22 d, ds.getD 23 d, ds.getD 24 d, ds.getD 25 d, ds.getD 26 d, ds.getD 27 d, ds.getD 28 d, ds.getD 29 d, ds.getD 30 d, ds.getD 31 d, ds.getD 32 d, ds.getD 33 d, ds.getD 34 d, ds.getD 35 d, ds.getD 36 d, ds.getD 37 d] = ds.take 38 := fold_take hl
theorem argI_take {ds : List Dat} {i n : Nat} (h : i < n) : argI (ds.take n) i = argI ds i := by
  simp [argI, List.getD_eq_getElem?_getD, List.getElem?_take, h]
theorem argL_take {ds : List Dat} {i n : Nat} (h : i < n) : argL (ds.take n) i = argL ds i := by
  simp [argL, List.getD_eq_getElem?_getD, List.getElem?_take, h]
theorem lst_take {ds : List Dat} {z n : Nat} (h : z + 1 < n) : lst (ds.take n) z = lst ds z := by
  rw [lst, lst, argL_take h]
theorem longP_take {ds : List Dat} {m : Int} {n : Nat} (h : 12 ≤ n) : LongP m (ds.take n) ↔ LongP m ds := by
  unfold LongP
  rw [argL_take (by omega)]
  refine or_congr Iff.rfl (exists_congr fun z => ?_)
  constructor
  · rintro ⟨h1, h2⟩
    rw [argL_take (by omega)] at h2; exact ⟨h1, h2⟩
  · rintro ⟨h1, h2⟩
    rw [argL_take (by omega)]; exact ⟨h1, h2⟩
/-- what Top says of a list -/
def TopOk (ds : List Dat) (base x : Int) (is : Bool) : Prop := ((base < 0 ∨ 11 ≤ base) → x = 0 ∧ is = false) ∧ ∀ z : Nat, base = z → z < 11 → (lst ds z = [] → x = 0 ∧ is = false) ∧ ∀ h : lst ds z ≠ [], x = (lst ds z).getLast h ∧ is = true
def sg_lzones : Sig := ⟨[(true, [.list 33] ++ List.replicate 11 (.list 3) ++ List.replicate 25 (.int .i64)), (false, [.int .i64]), (false, [.int .i64])], [(false, [.bool])], false⟩
def tr_lzones_1 : Tree := (.ite (.var 45) (.ob (.cmp .ge (.ar .sub .i64 (.len (.sel (.econs (.var 1) (.econs (.var 2) (.econs (.var 3) (.econs (.var 4) (.econs (.var 5) (.econs (.var 6) (.econs (.var 7) (.econs (.var 8) (.econs (.var 9) (.econs (.var 10) (.econs (.var 11) .enil))))))))))) (.var 37) (.list 3))) (.int .i64 1)) (.int .i64 0)) (.ob (.cmp .lt (.ar .sub .i64 (.len (.sel (.econs (.var 1) (.econs (.var 2) (.econs (.var 3) (.econs (.var 4) (.econs (.var 5) (.econs (.var 6) (.econs (.var 7) (.econs (.var 8) (.econs (.var 9) (.econs (.var 10) (.econs (.var 11) .enil))))))))))) (.var 37) (.list 3))) (.int .i64 1)) (.len (.sel (.econs (.var 1) (.econs (.var 2) (.econs (.var 3) (.econs (.var 4) (.econs (.var 5) (.econs (.var 6) (.econs (.var 7) (.econs (.var 8) (.econs (.var 9) (.econs (.var 10) (.econs (.var 11) .enil))))))))))) (.var 37) (.list 3)))) (.ret [(.cmp .eq (.var 44) (.elem (.sel (.econs (.var 1) (.econs (.var 2) (.econs (.var 3) (.econs (.var 4) (.econs (.var 5) (.econs (.var 6) (.econs (.var 7) (.econs (.var 8) (.econs (.var 9) (.econs (.var 10) (.econs (.var 11) .enil))))))))))) (.var 37) (.list 3)) (.ar .sub .i64 (.len (.sel (.econs (.var 1) (.econs (.var 2) (.econs (.var 3) (.econs (.var 4) (.econs (.var 5) (.econs (.var 6) (.econs (.var 7) (.econs (.var 8) (.econs (.var 9) (.econs (.var 10) (.econs (.var 11) .enil))))))))))) (.var 37) (.list 3))) (.int .i64 1)) 0 (.int .i64)))]))) (.ret [(.bool false)]))
def tr_lzones_2 : Tree := (.ob (.cmp .ge (.var 37) (.int .i64 0)) (.ob (.cmp .lt (.var 37) (.int .i64 11)) (.ite (.beq (.var 45) (.cmp .gt (.len (.sel (.econs (.var 1) (.econs (.var 2) (.econs (.var 3) (.econs (.var 4) (.econs (.var 5) (.econs (.var 6) (.econs (.var 7) (.econs (.var 8) (.econs (.var 9) (.econs (.var 10) (.econs (.var 11) .enil))))))))))) (.var 37) (.list 3))) (.int .i64 0))) (.ite (.not (.var 45)) (.ite (.cmp .eq (.var 44) (.int .i64 0)) (.ret [(.bool true)]) tr_lzones_1) tr_lzones_1) (.ret [(.bool false)]))))
def tr_lzones_3 : Tree := (.ite (.cmp .ge (.var 37) (.int .i64 8)) (.ite (.var 43) (.ret [(.bool false)]) (.ite (.cmp .ne (.var 41) (.var 37)) (.ret [(.bool false)]) (.ite (.cmp .ne (.var 42) (.int .i64 0)) (.ret [(.bool false)]) tr_lzones_2))) tr_lzones_2)
def tr_lzones_4 : Tree := (.ite (.cmp .lt (.var 37) (.int .i64 0)) (.ite (.cmp .eq (.var 41) (.int .i64 0)) (.ite (.cmp .eq (.var 42) (.int .i64 0)) (.ite (.not (.var 43)) (.ite (.cmp .eq (.var 44) (.int .i64 0)) (.ret [(.not (.var 45))]) (.ret [(.bool false)])) (.ret [(.bool false)])) (.ret [(.bool false)])) (.ret [(.bool false)])) (.ite (.cmp .gt (.var 37) (.int .i64 10)) (.ite (.cmp .eq (.var 41) (.int .i64 0)) (.ite (.cmp .eq (.var 42) (.int .i64 0)) (.ite (.not (.var 43)) (.ite (.cmp .eq (.var 44) (.int .i64 0)) (.ret [(.not (.var 45))]) (.ret [(.bool false)])) (.ret [(.bool false)])) (.ret [(.bool false)])) (.ret [(.bool false)])) (.ite (.cmp .lt (.var 37) (.int .i64 8)) (.ite (.not (.var 43)) (.ret [(.bool false)]) (.ite (.cmp .ne (.var 42) (.ar .rem .i64 (.var 37) (.int .i64 2))) (.ret [(.bool false)]) (.ite (.cmp .ne (.var 41) (.ar .sub .i64 (.var 37) (.var 42))) (.ret [(.bool false)]) tr_lzones_3))) tr_lzones_3)))
def tr_lzones_5 : Tree := (.call k_Side [(.var 37)] [(.int .i64), (.int .i64), .bool] (.call k_Top [(.var 0), (.var 1), (.var 2), (.var 3), (.var 4), (.var 5), (.var 6), (.var 7), (.var 8), (.var 9), (.var 10), (.var 11), (.var 12), (.var 13), (.var 14), (.var 15), (.var 16), (.var 17), (.var 18), (.var 19), (.var 20), (.var 21), (.var 22), (.var 23), (.var 24), (.var 25), (.var 26), (.var 27), (.var 28), (.var 29), (.var 30), (.var 31), (.var 32), (.var 33), (.var 34), (.var 35), (.var 36), (.var 37)] [(.int .i64), .bool] (.call k_Zone [(.var 37), (.var 38)] [(.int .i64)] (.ite (.cmp .ne (.var 46) (.ar .add .i64 (.var 37) (.var 38))) (.ret [(.bool false)]) tr_lzones_4))))
def tr_lzones_6 : Tree := (.call k_Side [(.var 37)] [(.int .i64), (.int .i64), .bool] (.call k_Top [(.var 0), (.var 1), (.var 2), (.var 3), (.var 4), (.var 5), (.var 6), (.var 7), (.var 8), (.var 9), (.var 10), (.var 11), (.var 12), (.var 13), (.var 14), (.var 15), (.var 16), (.var 17), (.var 18), (.var 19), (.var 20), (.var 21), (.var 22), (.var 23), (.var 24), (.var 25), (.var 26), (.var 27), (.var 28), (.var 29), (.var 30), (.var 31), (.var 32), (.var 33), (.var 34), (.var 35), (.var 36), (.var 37)] [(.int .i64), .bool] (.call k_Zone [(.var 37), (.var 38)] [(.int .i64)] (.ite (.cmp .ne (.var 46) (.int .i64 (-1))) (.ret [(.bool false)]) tr_lzones_4))))
def tr_lzones_7 : Tree := (.ite (.cmp .eq (.var 38) (.int .i64 0)) tr_lzones_5 (.ite (.cmp .eq (.var 38) (.int .i64 1)) tr_lzones_5 tr_lzones_6))
def tr_lzones : Tree := (.call k_alive [] [.bool] (.ite (.not (.var 39)) (.ret [(.bool false)]) (.call k_Long [(.var 0), (.var 1), (.var 2), (.var 3), (.var 4), (.var 5), (.var 6), (.var 7), (.var 8), (.var 9), (.var 10), (.var 11), (.var 12), (.var 13), (.var 14), (.var 15), (.var 16), (.var 17), (.var 18), (.var 19), (.var 20), (.var 21), (.var 22), (.var 23), (.var 24), (.var 25), (.var 26), (.var 27), (.var 28), (.var 29), (.var 30), (.var 31), (.var 32), (.var 33), (.var 34), (.var 35), (.var 36), (.int .i64 200)] [.bool] (.ite (.var 40) (.ret [(.bool true)]) (.ite (.cmp .eq (.var 37) (.int .i64 0)) tr_lzones_7 (.ite (.cmp .eq (.var 37) (.int .i64 2)) tr_lzones_7 (.ite (.cmp .eq (.var 37) (.int .i64 4)) tr_lzones_7 (.ite (.cmp .eq (.var 37) (.int .i64 6)) tr_lzones_7 tr_lzones_6))))))))
theorem wk_lzones : walk E0.cx (sgsN [(7, sg_alive), (8, sg_Long), (13, sg_Side), (14, sg_Zone), (15, sg_Top)]) 0 5 sg_lzones = tr_lzones := by kernel_rfl
theorem bo_lzones : ∃ x, bodyOf E0.P 5 = some x := bo_of (by kernel_rfl)
def k_lzones : Nat := 5
theorem sp_lzones_alive : specC [con_alive, con_Long, con_Side, con_Zone, con_Top] k_alive = alive_s := rfl
theorem sp_lzones_Long : specC [con_alive, con_Long, con_Side, con_Zone, con_Top] k_Long = Long_s := rfl
theorem sp_lzones_Side : specC [con_alive, con_Long, con_Side, con_Zone, con_Top] k_Side = Side_s := rfl
theorem sp_lzones_Zone : specC [con_alive, con_Long, con_Side, con_Zone, con_Top] k_Zone = Zone_s := rfl
theorem sp_lzones_Top : specC [con_alive, con_Long, con_Side, con_Zone, con_Top] k_Top = Top_s := rfl
end Go.Proofs.YtkoenohfgpjkjaaDoor
