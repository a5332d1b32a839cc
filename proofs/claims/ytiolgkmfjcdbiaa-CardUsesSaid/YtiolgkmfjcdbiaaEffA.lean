/-
  Effects as trees, and what rows of data tell of them.
-/
import Derived.Test.YtiolgkmfjcdbiaaSymU
namespace Go.Proofs.Ytiolgkmfjcdbiaa
open Go.RowKit
set_option linter.unusedVariables false
set_option linter.unusedSimpArgs false

inductive Eff where
  | mk (op n m who : Int) (subs : List Eff)
namespace Eff
def op : Eff → Int | .mk o _ _ _ _ => o
def n : Eff → Int | .mk _ x _ _ _ => x
def m : Eff → Int | .mk _ _ x _ _ => x
def who : Eff → Int | .mk _ _ _ x _ => x
def subs : Eff → List Eff | .mk _ _ _ _ l => l
end Eff
theorem sizeOf_getD_lt {l : List Dat} {i : Nat} {d : Dat} (h : i < l.length) : SizeOf.sizeOf (l.getD i d) < SizeOf.sizeOf l := by
  rw [List.getD_eq_getElem?_getD, List.getElem?_eq_getElem h]
  exact List.sizeOf_lt_of_mem (List.getElem_mem h)
theorem sizeOf_xs_lt {d : Dat} {r : List Dat} (h : r ∈ d.xs) : SizeOf.sizeOf r < SizeOf.sizeOf d := by
  cases d with
  | list v sz xs =>
    have := List.sizeOf_lt_of_mem (show r ∈ xs from h)
    simp only [Dat.list.sizeOf_spec]; omega
  | rows xs =>
    have := List.sizeOf_lt_of_mem (show r ∈ xs from h)
    simp only [Dat.rows.sizeOf_spec]; omega
  | _ => cases h
/-- the rows of an effect's parts -/
def subR (r : List Dat) : List (List Dat) := (r.getD 4 (.bool false)).xs
theorem subR_lt {r x : List Dat} (h : x ∈ subR r) : SizeOf.sizeOf x < SizeOf.sizeOf r := by
  have h1 := sizeOf_xs_lt h
  by_cases hl : 4 < r.length
  · exact Nat.lt_trans h1 (sizeOf_getD_lt hl)
  · rw [subR, List.getD_eq_getElem?_getD, List.getElem?_eq_none (by omega)] at h
    cases h
def effOf (r : List Dat) : Eff := .mk (rowI r 0) (rowI r 1) (rowI r 2) (rowI r 3) ((subR r).attach.map fun x => effOf x.1)
termination_by SizeOf.sizeOf r
decreasing_by exact subR_lt x.2
theorem effOf_eq (r : List Dat) : effOf r = .mk (rowI r 0) (rowI r 1) (rowI r 2) (rowI r 3) ((subR r).map effOf) := by
  rw [effOf]
  congr 1
  exact List.attach_map_val (l := subR r) (f := effOf)
mutual
/-- how many -/
def Eff.size : Eff → Nat
  | .mk _ _ _ _ l => 1 + Eff.sizes l
def Eff.sizes : List Eff → Nat
  | [] => 0
  | e :: l => e.size + Eff.sizes l
end
mutual
/-- how deep -/
def Eff.depth : Eff → Nat
  | .mk _ _ _ _ l => Eff.depths l + 1
def Eff.depths : List Eff → Nat
  | [] => 0
  | e :: l => max e.depth (Eff.depths l)
end
mutual
def Eff.has (o : Int) : Eff → Bool
  | .mk p _ _ _ l => p == o || Eff.hass o l
def Eff.hass (o : Int) : List Eff → Bool
  | [] => false
  | e :: l => e.has o || Eff.hass o l
end
theorem Eff.sizes_append : ∀ (a b : List Eff), Eff.sizes (a ++ b) = Eff.sizes a + Eff.sizes b
  | [], b => by simp [Eff.sizes]
  | e :: a, b => by simp [Eff.sizes, Eff.sizes_append a b, Nat.add_assoc]
theorem Eff.depths_append : ∀ (a b : List Eff), Eff.depths (a ++ b) = max (Eff.depths a) (Eff.depths b)
  | [], b => by simp [Eff.depths]
  | e :: a, b => by simp [Eff.depths, Eff.depths_append a b, Nat.max_assoc]
theorem Eff.hass_append (o : Int) : ∀ (a b : List Eff), Eff.hass o (a ++ b) = (Eff.hass o a || Eff.hass o b)
  | [], b => by simp [Eff.hass]
  | e :: a, b => by simp [Eff.hass, Eff.hass_append o a b, Bool.or_assoc]
theorem Eff.sizes_take (l : List (List Dat)) (i : Nat) : Eff.sizes ((l.take i).map effOf) ≤ Eff.sizes (l.map effOf) := by
  conv => rhs; rw [← List.take_append_drop i l, List.map_append, Eff.sizes_append]
  omega
theorem Eff.depths_take (l : List (List Dat)) (i : Nat) : Eff.depths ((l.take i).map effOf) ≤ Eff.depths (l.map effOf) := by
  conv => rhs; rw [← List.take_append_drop i l, List.map_append, Eff.depths_append]
  omega
theorem Eff.size_pos (e : Eff) : 0 < e.size := by cases e; simp only [Eff.size]; omega
theorem Eff.length_le_sizes : ∀ l : List Eff, l.length ≤ Eff.sizes l
  | [] => by simp
  | e :: l => by have := Eff.length_le_sizes l; have := Eff.size_pos e; simp only [List.length_cons, Eff.sizes]; omega
theorem Eff.size_eq (e : Eff) : e.size = 1 + Eff.sizes e.subs := by cases e; rfl
theorem Eff.depth_eq (e : Eff) : e.depth = Eff.depths e.subs + 1 := by cases e; rfl
theorem Eff.has_eq (o : Int) (e : Eff) : e.has o = (e.op == o || Eff.hass o e.subs) := by cases e; rfl
theorem Eff.size_le_sizes {e : Eff} : ∀ {l : List Eff}, e ∈ l → e.size ≤ Eff.sizes l
  | x :: l, h => by
    rcases List.mem_cons.1 h with rfl | h
    · simp [Eff.sizes]
    · have := Eff.size_le_sizes h; simp only [Eff.sizes]; omega
theorem Eff.sub_lt {e x : Eff} (h : x ∈ e.subs) : x.size < e.size := by
  have := Eff.size_le_sizes h
  rw [Eff.size_eq e]; omega
mutual
theorem Eff.depth_le_size : ∀ e : Eff, e.depth ≤ e.size
  | .mk _ _ _ _ l => by have := Eff.depths_le_sizes l; simp only [Eff.depth, Eff.size]; omega
theorem Eff.depths_le_sizes : ∀ l : List Eff, Eff.depths l ≤ Eff.sizes l
  | [] => by simp [Eff.depths]
  | e :: l => by have h1 := Eff.depth_le_size e; have h2 := Eff.depths_le_sizes l; simp only [Eff.depths, Eff.sizes]; omega
end
theorem effOf_subs (r : List Dat) : (effOf r).subs = (subR r).map effOf := by rw [effOf_eq]; rfl
theorem effOf_op (r : List Dat) : (effOf r).op = rowI r 0 := by rw [effOf_eq]; rfl
theorem effOf_n (r : List Dat) : (effOf r).n = rowI r 1 := by rw [effOf_eq]; rfl
theorem effOf_m (r : List Dat) : (effOf r).m = rowI r 2 := by rw [effOf_eq]; rfl
theorem effOf_who (r : List Dat) : (effOf r).who = rowI r 3 := by rw [effOf_eq]; rfl
/-- a row out of its cells -/
theorem fold5 {r : List Dat} (h : r.length = 5) (a b c d e : Dat) : [r.getD 0 a, r.getD 1 b, r.getD 2 c, r.getD 3 d, r.getD 4 e] = r := by
  match r, h with
  | [_, _, _, _, _], _ => rfl
/-- the rows of a list of effects have five cells -/
theorem eff_len {d : Dat} (h : Has E0.Δ (.list 36) d) : ∀ r ∈ d.xs, r.length = 5 := by
  cases h with
  | list _ A n c xs hl _ => exact fun r hr => hl r hr
/-- the effect that stands first in a call's arguments -/
def argE (ds : List Dat) : Eff := effOf (ds.take 5)
def mE (ds : List Dat) : Nat := (argE ds).size
theorem argE_row {r e : List Dat} (h : r.length = 5) : argE (r ++ e) = effOf r := by
  rw [argE, List.take_append_of_le_length (by omega), List.take_of_length_le (by omega)]
theorem argE_row0 {r : List Dat} (h : r.length = 5) : argE r = effOf r := by
  rw [argE, List.take_of_length_le (by omega)]
theorem argE_subs (ds : List Dat) : (argE ds).subs = (argL ds 4).map effOf := by
  rw [argE, effOf_subs, subR, argL]
  congr 2
  rw [List.getD_eq_getElem?_getD, List.getElem?_take, if_pos (by omega), List.getD_eq_getElem?_getD]
theorem argE_op {ds : List Dat} (h : 0 < ds.length) : (argE ds).op = argI ds 0 := by
  cases ds with
  | nil => cases h
  | cons d l =>
    rw [argE, effOf_op, rowI, argI]; rfl
theorem fold5x {r : List Dat} (h : r.length = 5) (a b c d e x : Dat) : [r.getD 0 a, r.getD 1 b, r.getD 2 c, r.getD 3 d, r.getD 4 e, x] = r ++ [x] := by
  match r, h with
  | [_, _, _, _, _], _ => rfl
theorem fold5xy {r : List Dat} (h : r.length = 5) (a b c d e x y : Dat) : [r.getD 0 a, r.getD 1 b, r.getD 2 c, r.getD 3 d, r.getD 4 e, x, y] = r ++ [x, y] := by
  match r, h with
  | [_, _, _, _, _], _ => rfl
end Go.Proofs.Ytiolgkmfjcdbiaa
