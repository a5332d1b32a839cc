import Derived.Test.YtelfhmeobfimiaaDoorM11
import Derived.Test.YtelfhmeobfimiaaDoorM12
import Derived.Test.YtelfhmeobfimiaaDoorM0

section
namespace Go.Proofs.YtelfhmeobfimiaaDoor
open Go.RowKit
set_option linter.unusedVariables false
set_option linter.unusedSimpArgs false

def pI : PD → Int
  | .int n => n
  | _ => 0
def pL : PD → List (List PD)
  | .list _ l => l
  | _ => []
def cI (n : Int) (i : Nat) : Int := pI ((cardP n).getD i .odd)
def absP (n : Int) : List (List PD) := pL ((cardP n).getD 12 .odd)
/-- the form of a card's row -/
def isI : PD → Bool
  | .int _ => true
  | _ => false
def formC (l : List PD) : Bool := match l with
  | [a0, a1, .bool _, a3, a4, a5, a6, a7, a8, a9, a10, a11, .list 14 _] => isI a0 && isI a1 && isI a3 && isI a4 && isI a5 && isI a6 && isI a7 && isI a8 && isI a9 && isI a10 && isI a11
  | _ => false
theorem all120 {p : Int → Bool} (h : (List.range 120).all (fun k => p (k : Int)) = true) {n : Int} (h0 : 0 ≤ n) (h1 : n < 120) : p n = true := by
  obtain ⟨k, rfl⟩ := Int.eq_ofNat_of_zero_le h0
  exact List.all_eq_true.1 h k (List.mem_range.2 (by omega))
theorem formC_all : (List.range 120).all (fun k => formC (cardP (k : Int))) = true := by kernel_rfl
theorem formC_ok {n : Int} (h0 : 0 ≤ n) (h1 : n < 120) : formC (cardP n) = true := all120 (p := fun n => formC (cardP n)) formC_all h0 h1
theorem card_len {n : Int} (h0 : 0 ≤ n) (h1 : n < 120) : (cardP n).length = 13 := by
  have h := formC_ok h0 h1
  unfold formC at h
  split at h
  · rename_i e; rw [e]; rfl
  · cases h
def intAt (i : Nat) : Bool := i < 2 || (3 ≤ i && i < 12)
theorem card_get {n : Int} (h0 : 0 ≤ n) (h1 : n < 120) {i : Nat} (hi : intAt i = true) : (cardP n)[i]? = some (.int (cI n i)) := by
  have h := formC_ok h0 h1
  unfold cI
  unfold formC at h
  split at h
  · rename_i a0 a1 b a3 a4 a5 a6 a7 a8 a9 a10 a11 l e
    rw [e]
    simp only [Bool.and_eq_true] at h
    obtain ⟨⟨⟨⟨⟨⟨⟨⟨⟨⟨q0, q1⟩, q3⟩, q4⟩, q5⟩, q6⟩, q7⟩, q8⟩, q9⟩, q10⟩, q11⟩ := h
    have key : ∀ a : PD, isI a = true → a = .int (pI a) := fun a ha => by cases a <;> first | rfl | cases ha
    match i, hi with
    | 0, _ => exact congrArg some (key a0 q0)
    | 1, _ => exact congrArg some (key a1 q1)
    | 3, _ => exact congrArg some (key a3 q3)
    | 4, _ => exact congrArg some (key a4 q4)
    | 5, _ => exact congrArg some (key a5 q5)
    | 6, _ => exact congrArg some (key a6 q6)
    | 7, _ => exact congrArg some (key a7 q7)
    | 8, _ => exact congrArg some (key a8 q8)
    | 9, _ => exact congrArg some (key a9 q9)
    | 10, _ => exact congrArg some (key a10 q10)
    | 11, _ => exact congrArg some (key a11 q11)
    | 2, h => cases h
    | i + 12, h => simp [intAt] at h; omega
  · cases h
theorem card_abs {n : Int} (h0 : 0 ≤ n) (h1 : n < 120) : (cardP n)[12]? = some (.list 14 (absP n)) := by
  have h := formC_ok h0 h1
  unfold absP
  unfold formC at h
  split at h
  · rename_i e
    rw [e]; rfl
  · cases h
section
variable {n : Int} {rs : List Dat}
theorem card_int (h0 : 0 ≤ n) (h1 : n < 120) (hr : rs.map strip = cardP n) {i : Nat} (hi : intAt i = true) (d : Dat) : (rs.getD i d).toInt = cI n i :=
  strip_isInt (getD_strip hr (card_get h0 h1 hi) d)
theorem card_row (h0 : 0 ≤ n) (h1 : n < 120) (hr : rs.map strip = cardP n) (d : Dat) : ∃ v xs, rs.getD 12 d = .list v 14 xs ∧ absP n = xs.map fun r => r.map strip :=
  strip_isList (getD_strip hr (card_abs h0 h1) d)
theorem card_rlen (h0 : 0 ≤ n) (h1 : n < 120) (hr : rs.map strip = cardP n) : rs.length = 13 := by
  have := congrArg List.length hr
  rw [List.length_map, card_len h0 h1] at this
  exact this
end
theorem take37g {ds : List Dat} (h : 37 ≤ ds.length) : [ds.getD 0 (.bool false), ds.getD 1 (.bool false), ds.getD 2 (.bool false), ds.getD 3 (.bool false), ds.getD 4 (.bool false), ds.getD 5 (.bool false), ds.getD 6 (.bool false), ds.getD 7 (.bool false), ds.getD 8 (.bool false), ds.getD 9 (.bool false), ds.getD 10 (.bool false), ds.getD 11 (.bool false), ds.getD 12 (.bool false), ds.getD 13 (.bool false), ds.getD 14 (.bool false), ds.getD 15 (.bool false), ds.getD 16 (.bool false), ds.getD 17 (.bool false), ds.getD 18 (.bool false), ds.getD 19 (.bool false), ds.getD 20 (.bool false), ds.getD 21 (.bool false), ds.getD 22 (.bool false), ds.getD 23 (.bool false), ds.getD 24 (.bool false), ds.getD 25 (.bool false), ds.getD 26 (.bool false), ds.getD 27 (.bool false), ds.getD 28 (.bool false), ds.getD 29 (.bool false), ds.getD 30 (.bool false), ds.getD 31 (.bool false), ds.getD 32 (.bool false), ds.getD 33 (.bool false), ds.getD 34 (.bool false), ds.getD 35 (.bool false), ds.getD 36 (.bool false)] = ds.take 37 := by
  refine List.ext_getElem (by rw [List.length_take, Nat.min_eq_left h]; rfl) fun i h1 h2 => ?_
  rw [List.getElem_take]
  have e : ∀ j (hj : j < ds.length), ds.getD j (.bool false) = ds[j] := fun j hj => by rw [List.getD_eq_getElem?_getD, List.getElem?_eq_getElem hj]; rfl
  have h3 : i < 37 := h1
  match i, h3 with
  | 0, _ => exact e 0 (by omega)
  | 1, _ => exact e 1 (by omega)
  | 2, _ => exact e 2 (by omega)
  | 3, _ => exact e 3 (by omega)
  | 4, _ => exact e 4 (by omega)
  | 5, _ => exact e 5 (by omega)
  | 6, _ => exact e 6 (by omega)
  | 7, _ => exact e 7 (by omega)
  | 8, _ => exact e 8 (by omega)
  | 9, _ => exact e 9 (by omega)
  | 10, _ => exact e 10 (by omega)
  | 11, _ => exact e 11 (by omega)
  | 12, _ => exact e 12 (by omega)
  | 13, _ => exact e 13 (by omega)
  | 14, _ => exact e 14 (by omega)
  | 15, _ => exact e 15 (by omega)
  | 16, _ => exact e 16 (by omega)
  | 17, _ => exact e 17 (by omega)
  | 18, _ => exact e 18 (by omega)
  | 19, _ => exact e 19 (by omega)
  | 20, _ => exact e 20 (by omega)
  | 21, _ => exact e 21 (by omega)
  | 22, _ => exact e 22 (by omega)
  | 23, _ => exact e 23 (by omega)
  | 24, _ => exact e 24 (by omega)
  | 25, _ => exact e 25 (by omega)
  | 26, _ => exact e 26 (by omega)
  | 27, _ => exact e 27 (by omega)
  | 28, _ => exact e 28 (by omega)
  | 29, _ => exact e 29 (by omega)
  | 30, _ => exact e 30 (by omega)
  | 31, _ => exact e 31 (by omega)
  | 32, _ => exact e 32 (by omega)
  | 33, _ => exact e 33 (by omega)
  | 34, _ => exact e 34 (by omega)
  | 35, _ => exact e 35 (by omega)
  | 36, _ => exact e 36 (by omega)
  | i + 37, h => exact absurd h (by omega)
theorem fold37x {ds : List Dat} (h : 37 ≤ ds.length) (e : List Dat) : ds.getD 0 (.bool false) :: ds.getD 1 (.bool false) :: ds.getD 2 (.bool false) :: ds.getD 3 (.bool false) :: ds.getD 4 (.bool false) :: ds.getD 5 (.bool false) :: ds.getD 6 (.bool false) :: ds.getD 7 (.bool false) :: ds.getD 8 (.bool false) :: ds.getD 9 (.bool false) :: ds.getD 10 (.bool false) :: ds.getD 11 (.bool false) :: ds.getD 12 (.bool false) :: ds.getD 13 (.bool false) :: ds.getD 14 (.bool false) :: ds.getD 15 (.bool false) :: ds.getD 16 (.bool false) :: ds.getD 17 (.bool false) :: ds.getD 18 (.bool false) :: ds.getD 19 (.bool false) :: ds.getD 20 (.bool false) :: ds.getD 21 (.bool false) :: ds.getD 22 (.bool false) :: ds.getD 23 (.bool false) :: ds.getD 24 (.bool false) :: ds.getD 25 (.bool false) :: ds.getD 26 (.bool false) :: ds.getD 27 (.bool false) :: ds.getD 28 (.bool false) :: ds.getD 29 (.bool false) :: ds.getD 30 (.bool false) :: ds.getD 31 (.bool false) :: ds.getD 32 (.bool false) :: ds.getD 33 (.bool false) :: ds.getD 34 (.bool false) :: ds.getD 35 (.bool false) :: ds.getD 36 (.bool false) :: e = ds.take 37 ++ e := by
  rw [← take37g h]; rfl
theorem argL_t {ds : List Dat} {i : Nat} (h : i < 37) : argL (ds.take 37) i = argL ds i := by
  unfold argL
  rw [List.getD_eq_getElem?_getD, List.getD_eq_getElem?_getD, List.getElem?_take, if_pos h]
theorem argL_ta {ds e : List Dat} {i : Nat} (h : i < 37) (hl : 37 ≤ ds.length) : argL (ds.take 37 ++ e) i = argL ds i := by
  unfold argL
  rw [List.getD_eq_getElem?_getD, List.getD_eq_getElem?_getD, List.getElem?_append_left (by rw [List.length_take]; omega), List.getElem?_take, if_pos h]
theorem take_ta {ds e : List Dat} (hl : 37 ≤ ds.length) : (ds.take 37 ++ e).take 37 = ds.take 37 := by
  rw [List.take_append_of_le_length (by rw [List.length_take]; omega), List.take_take]
  simp
theorem argI_ta {ds e : List Dat} (hl : 37 ≤ ds.length) (i : Nat) : argI (ds.take 37 ++ e) (37 + i) = argI e i := by
  unfold argI
  rw [List.getD_eq_getElem?_getD, List.getD_eq_getElem?_getD, List.getElem?_append_right (by rw [List.length_take]; omega), List.length_take, Nat.min_eq_left hl, Nat.add_sub_cancel_left]
def cardI (S : List Dat) (id : Int) : Int := rowI (obj S id) 0
/-- what of a right state counts here -/
structure OkS (S : List Dat) : Prop where
  card : ∀ o ∈ argL S 0, 0 ≤ rowI o 0 ∧ rowI o 0 < 120
  field : ∀ x ∈ lst S 8, 0 ≤ x ∧ x < (argL S 0).length
  word : ∀ o ∈ argL S 0, 0 ≤ rowI o 10 ∧ rowI o 10 < 256
  num : ∀ o ∈ argL S 0, ∀ c, 6 ≤ c → c < 10 → -1073741824 ≤ rowI o c ∧ rowI o c ≤ 1073741824
  small : Sm S
theorem obj_mem {S : List Dat} {id : Int} (h0 : 0 ≤ id) (h1 : id < (argL S 0).length) : obj S id ∈ argL S 0 := getD_memL (by omega)
theorem OkS.cards {S : List Dat} (h : OkS S) {id : Int} (h0 : 0 ≤ id) (h1 : id < (argL S 0).length) : 0 ≤ cardI S id ∧ cardI S id < 120 := h.card _ (obj_mem h0 h1)
def isC (S : List Dat) (id : Int) : Bool := decide (0 ≤ id) && decide (id < (argL S 0).length) && (rowI (obj S id) 3 == 8) && (cI (cardI S id) 0 == 1)
theorem obj_t (ds : List Dat) (id : Int) : obj (ds.take 37) id = (argL ds 0).getD id.toNat [] := by
  unfold obj; rw [argL_t (by omega)]
def k_rCard17 : Nat := 79
def sg_rCard17 : Sig := ⟨[(true, [.list 36] ++ List.replicate 11 (.list 3) ++ List.replicate 25 (.int .i64)), (false, [.int .i64])], [(true, [.int .i64, .int .i64] ++ [.bool] ++ List.replicate 9 (.int .i64) ++ [.list 59])], false, false, true, false, false⟩
def tr_rCard17 : Tree := (.ob (.cmp .ge (.var 37) (.int .i64 0))
(.ob (.cmp .lt (.var 37) (.len (.var 0)))
(.call k_rcard [(.elem (.var 0) (.var 37) 0 (.int .i64))] [(.int .i64), (.int .i64), .bool, (.int .i64), (.int .i64), (.int .i64), (.int .i64), (.int .i64), (.int .i64), (.int .i64), (.int .i64), (.int .i64), (.list 59), .bool]
(.ret [(.var 38), (.var 39), (.var 40), (.var 41), (.var 42), (.var 43), (.var 44), (.var 45), (.var 46), (.var 47), (.var 48), (.var 49), (.var 50)]))))
theorem wk_rCard17 : walk E0.cx (sgsN [(29, sg_rcard)]) 0 79 sg_rCard17 = tr_rCard17 := by kernel_rfl
theorem bo_rCard17 : ∃ x, bodyOf E0.P 79 = some x := bo_of (by kernel_rfl)
theorem sp_rCard17_rcard : specC [con_rcard] k_rcard = rcard_s := rfl
def rCard17_s : Spec := fun ds Q => OkS (ds.take 37) ∧ 0 ≤ argI ds 37 ∧ argI ds 37 < (argL ds 0).length ∧ ∀ rs, rs.map strip = cardP (cardI (ds.take 37) (argI ds 37)) → Q rs
theorem take13 {l : List Dat} (hl : 13 ≤ l.length) : [l.getD 0 (.bool false), l.getD 1 (.bool false), l.getD 2 (.bool false), l.getD 3 (.bool false), l.getD 4 (.bool false), l.getD 5 (.bool false), l.getD 6 (.bool false), l.getD 7 (.bool false), l.getD 8 (.bool false), l.getD 9 (.bool false), l.getD 10 (.bool false), l.getD 11 (.bool false), l.getD 12 (.bool false)] = l.take 13 := by
  match l, hl with
  | x0 :: x1 :: x2 :: x3 :: x4 :: x5 :: x6 :: x7 :: x8 :: x9 :: x10 :: x11 :: x12 :: r, _ => rfl
theorem card13 {n : Int} (h0 : 0 ≤ n) (h1 : n < 120) {l : List Dat} {e : PD} (h : l.map strip = cardP n ++ [e]) : 13 ≤ l.length ∧ (l.take 13).map strip = cardP n := by
  have hl := congrArg List.length h
  rw [List.length_map, List.length_append, card_len h0 h1] at hl
  refine ⟨by rw [hl]; exact Nat.le_add_right _ _, ?_⟩
  rw [List.map_take, h, List.take_left' (card_len h0 h1)]
theorem rCard17_h : Holds E0 k_rCard17 sg_rCard17 rCard17_s := con_fn wf0 mix0 g0 [con_rcard] rfl wk_rCard17 rfl (by
  intro Φ hΦ ds Q hs ⟨hok, h0, h1, h⟩
  have hl : ds.length = 38 := hs.length.symm
  have s1 : Φ k_rcard = rcard_s := by rw [hΦ]; rfl
  clear hΦ
  simp only [tr_rCard17, wp, den_int, den_bool, den_nili, den_ar, den_cmp, den_not, den_len, den_elem, den_isnil, den_errI, den_ifc, den_rep, den_push, den_app, den_emp, den_upd, row0_econs, row0_enil, den_and, den_beq, den_nil, toInt_int, toBool_bool, xs_rows, xs_list, dflt_int, dflt_bool, of_eq, of_ne, of_lt, of_le, of_gt, of_ge, of_add, of_sub, of_rem, List.map_cons, List.map_nil, Dat.bool.injEq, decide_eq_true_eq, decide_eq_false_iff_not, Bool.not_eq_true', Bool.not_eq_false', beq_iff_eq, bne_iff_ne, beq_eq_false_iff_ne, bne_eq_false_iff_eq, ne_eq, List.append_assoc, List.cons_append, List.nil_append, allS, s1, rcard_s, psp, @den_var0 E0.Δ ds, den_varA, den_varB, hl, Nat.reduceLT, Nat.reduceLeDiff, Nat.reduceSub, List.getD_cons_zero, List.getD_cons_succ, argL_fold ds, argI_fold ds, List.append_assoc, List.cons_append, List.nil_append, toInt_int, toBool_bool, xs_rows, xs_list, Int.toNat_natCast, Dat.bool.injEq]
  have h0' := h0
  obtain ⟨c0, c1⟩ := hok.cards h0 (by rw [argL_t (by omega)]; exact h1)
  have e : ∀ d, strip (((argL ds 0).getD (argI ds 37).toNat []).getD 0 d) = .int (cardI (ds.take 37) (argI ds 37)) := fun d => by
    have := int_el hs (i := 0) (r := 36) (c := 0) (k := .i64) (j := (argI ds 37).toNat) rfl rfl (by omega) d
    rw [this, strip_int, cardI, obj_t]
  refine ⟨h0, h1, _, (by rw [e]; exact rcard_in c0 c1), fun rs hr => ?_⟩
  obtain ⟨l1, l2⟩ := card13 c0 c1 hr
  rw [take13 l1]
  exact h _ l2)
noncomputable def con_rCard17 : Con E0 := ⟨k_rCard17, sg_rCard17, rCard17_s, rfl, bo_rCard17, rCard17_h⟩
def k_rIs : Nat := 41
def sg_rIs : Sig := ⟨[(true, [.list 36] ++ List.replicate 11 (.list 3) ++ List.replicate 25 (.int .i64)), (false, [.int .i64])], [(false, [.bool])], false, false, true, false, false⟩
def tr_rIs : Tree := (.ite (.cmp .ge (.var 37) (.int .i64 0))
 (.ite (.cmp .lt (.var 37) (.len (.var 0)))
  (.ite (.cmp .eq (.elem (.var 0) (.var 37) 3 (.int .i64)) (.int .i64 8))
   (.call k_rCard17 [(.var 0), (.var 1), (.var 2), (.var 3), (.var 4), (.var 5), (.var 6), (.var 7), (.var 8), (.var 9), (.var 10), (.var 11), (.var 12), (.var 13), (.var 14), (.var 15), (.var 16), (.var 17), (.var 18), (.var 19), (.var 20), (.var 21), (.var 22), (.var 23), (.var 24), (.var 25), (.var 26), (.var 27), (.var 28), (.var 29), (.var 30), (.var 31), (.var 32), (.var 33), (.var 34), (.var 35), (.var 36), (.var 37)] [(.int .i64), (.int .i64), .bool, (.int .i64), (.int .i64), (.int .i64), (.int .i64), (.int .i64), (.int .i64), (.int .i64), (.int .i64), (.int .i64), (.list 59)]
   (.ret [(.cmp .eq (.var 38) (.int .i64 1))]))
   (.ret [(.bool false)]))
  (.ret [(.bool false)]))
 (.ret [(.bool false)]))
theorem wk_rIs : walk E0.cx (sgsN [(79, sg_rCard17)]) 0 41 sg_rIs = tr_rIs := by kernel_rfl
theorem bo_rIs : ∃ x, bodyOf E0.P 41 = some x := bo_of (by kernel_rfl)
theorem sp_rIs_rCard17 : specC [con_rCard17] k_rCard17 = rCard17_s := rfl
def rIs_s : Spec := fun ds Q => OkS (ds.take 37) ∧ Q [.bool (isC (ds.take 37) (argI ds 37))]
theorem rIs_h : Holds E0 k_rIs sg_rIs rIs_s := con_fn wf0 mix0 g0 [con_rCard17] rfl wk_rIs rfl (by
  intro Φ hΦ ds Q hs ⟨hok, h⟩
  have hl : ds.length = 38 := hs.length.symm
  have s1 : Φ k_rCard17 = rCard17_s := by rw [hΦ]; rfl
  clear hΦ
  have hl2 : (argL (ds.take 37) 0).length = (argL ds 0).length := by rw [argL_t (by omega)]
  have no : isC (ds.take 37) (argI ds 37) = false → Q [.bool false] := fun e => by rw [← e]; exact h
  simp only [tr_rIs, wp, den_int, den_bool, den_nili, den_ar, den_cmp, den_not, den_len, den_elem, den_isnil, den_errI, den_ifc, den_rep, den_push, den_app, den_emp, den_upd, row0_econs, row0_enil, den_and, den_beq, den_nil, toInt_int, toBool_bool, xs_rows, xs_list, dflt_int, dflt_bool, of_eq, of_ne, of_lt, of_le, of_gt, of_ge, of_add, of_sub, of_rem, List.map_cons, List.map_nil, Dat.bool.injEq, decide_eq_true_eq, decide_eq_false_iff_not, Bool.not_eq_true', Bool.not_eq_false', beq_iff_eq, bne_iff_ne, beq_eq_false_iff_ne, bne_eq_false_iff_eq, ne_eq, List.append_assoc, List.cons_append, List.nil_append, allS, s1, rCard17_s, @den_var0 E0.Δ ds, den_varA, den_varB, hl, Nat.reduceLT, Nat.reduceLeDiff, Nat.reduceSub, List.getD_cons_zero, List.getD_cons_succ, argL_fold ds, argI_fold ds, List.append_assoc, List.cons_append, List.nil_append, toInt_int, toBool_bool, xs_rows, xs_list, Int.toNat_natCast, Dat.bool.injEq, dflt_int, fold37x (show 37 ≤ ds.length by omega), take_ta (show 37 ≤ ds.length by omega), argI_ta (show 37 ≤ ds.length by omega) 0, argL_ta (i := 0) (show 0 < 37 by omega) (show 37 ≤ ds.length by omega), argI_c0, argI_fold ds, toInt_getD]
  have hobj : rowI ((argL ds 0).getD (argI ds 37).toNat []) 3 = rowI (obj (ds.take 37) (argI ds 37)) 3 := by rw [obj_t]
  have eC : ∀ b0 b1 b2 b3 : Bool, decide (0 ≤ argI ds 37) = b0 → decide (argI ds 37 < (argL ds 0).length) = b1 → (rowI ((argL ds 0).getD (argI ds 37).toNat []) 3 == 8) = b2 → (cI (cardI (ds.take 37) (argI ds 37)) 0 == 1) = b3 → isC (ds.take 37) (argI ds 37) = (b0 && b1 && b2 && b3) := fun b0 b1 b2 b3 e0 e1 e2 e3 => by
    unfold isC
    rw [hl2, ← hobj, e0, e1, e2, e3]
  refine ⟨fun h0 => ⟨fun h1 => ⟨fun h2 => ?_, fun h2 => no ?_⟩, fun h1 => no ?_⟩, fun h0 => no ?_⟩
  · obtain ⟨c0, c1⟩ := hok.cards h0 (by rw [hl2]; exact h1)
    refine ⟨hok, h0, h1, fun rs hr => ?_⟩
    rw [card_int c0 c1 hr (i := 0) rfl]
    have := eC true true true _ (decide_eq_true h0) (decide_eq_true h1) (by rw [h2]; rfl) rfl
    rw [Bool.true_and, Bool.true_and, Bool.true_and] at this
    rw [← this]
    exact h
  · rw [eC _ _ false _ rfl rfl (by simpa using h2) rfl]; simp
  · rw [eC _ false _ _ rfl (decide_eq_false h1) rfl rfl]; simp
  · rw [eC false _ _ _ (decide_eq_false h0) rfl rfl rfl]; simp)
noncomputable def con_rIs : Con E0 := ⟨k_rIs, sg_rIs, rIs_s, rfl, bo_rIs, rIs_h⟩
/-- those of a list that are so -/
def beastsP (S : List Dat) (p : Int) : List Int := (lst S 8).filter fun x => isC S x && (rowI (obj S x) 2 == p)
def k_rBeasts : Nat := 47
def sg_rBeasts : Sig := ⟨[(true, [.list 36] ++ List.replicate 11 (.list 3) ++ List.replicate 25 (.int .i64)), (false, [.int .i64])], [(false, [.list 3])], false, false, true, false, false⟩
def tr_rBeasts : Tree := (.loop [.emp, (.int .i64 0)] [(.rows 3), (.int .i64)]
 (.ite (.cmp .lt (.var 39) (.len (.var 9)))
  (.ob (.cmp .ge (.var 39) (.int .i64 0))
  (.call k_rIs [(.var 0), (.var 1), (.var 2), (.var 3), (.var 4), (.var 5), (.var 6), (.var 7), (.var 8), (.var 9), (.var 10), (.var 11), (.var 12), (.var 13), (.var 14), (.var 15), (.var 16), (.var 17), (.var 18), (.var 19), (.var 20), (.var 21), (.var 22), (.var 23), (.var 24), (.var 25), (.var 26), (.var 27), (.var 28), (.var 29), (.var 30), (.var 31), (.var 32), (.var 33), (.var 34), (.var 35), (.var 36), (.elem (.var 9) (.var 39) 0 (.int .i64))] [.bool]
  (.ob (.or (.not (.var 40)) (.cmp .ge (.elem (.var 9) (.var 39) 0 (.int .i64)) (.int .i64 0)))
  (.ob (.or (.not (.var 40)) (.cmp .lt (.elem (.var 9) (.var 39) 0 (.int .i64)) (.len (.var 0))))
  (.ite (.and (.var 40) (.cmp .eq (.elem (.var 0) (.elem (.var 9) (.var 39) 0 (.int .i64)) 2 (.int .i64)) (.var 37)))
   (.ob (.cmp .le (.len (.push (.var 38) (.econs (.elem (.var 9) (.var 39) 0 (.int .i64)) .enil))) (.int .i64 17592186044416))
   (.again 0 [(.push (.var 38) (.econs (.elem (.var 9) (.var 39) 0 (.int .i64)) .enil)), (.ar .add .i64 (.var 39) (.int .i64 1))]))
   (.again 0 [(.var 38), (.ar .add .i64 (.var 39) (.int .i64 1))]))))))
  (.share 3 (.var 38)
  (.ret [(.var 40)]))))
theorem wk_rBeasts : walk E0.cx (sgsN [(41, sg_rIs)]) 0 47 sg_rBeasts = tr_rBeasts := by kernel_rfl
theorem bo_rBeasts : ∃ x, bodyOf E0.P 47 = some x := bo_of (by kernel_rfl)
theorem sp_rBeasts_rIs : specC [con_rIs] k_rIs = rIs_s := rfl
def rBeasts_s : Spec := fun ds Q => OkS (ds.take 37) ∧ ∀ v, Q [.list v 1 ((beastsP (ds.take 37) (argI ds 37)).map fun n => [.int .i64 n])]
theorem lst_lenT (ds : List Dat) {z : Nat} (hz : z + 1 < 37) : (lst (ds.take 37) z).length = (argL ds (z + 1)).length := by unfold lst; rw [List.length_map, argL_t hz]
theorem lst_getDT (ds : List Dat) {z : Nat} (hz : z + 1 < 37) {k : Nat} (hk : k < (argL ds (z + 1)).length) : (lst (ds.take 37) z).getD k 0 = rowI ((argL ds (z + 1)).getD k []) 0 := by
  unfold lst
  rw [argL_t hz, List.getD_eq_getElem?_getD, List.getD_eq_getElem?_getD, List.getElem?_map, List.getElem?_eq_getElem hk]
  rfl
theorem rBeasts_h : Holds E0 k_rBeasts sg_rBeasts rBeasts_s := con_fn wf0 mix0 g0 [con_rIs] rfl wk_rBeasts rfl (by
  intro Φ hΦ ds Q hs ⟨hok, h⟩
  have hl : ds.length = 38 := hs.length.symm
  have s1 : Φ k_rIs = rIs_s := by rw [hΦ]; rfl
  clear hΦ
  have hml : (lst (ds.take 37) 8).length = (argL ds 9).length := lst_lenT ds (z := 8) (by omega)
  have hsm := hok.small 9 (by omega)
  rw [argL_t (by omega)] at hsm
  have hol : (argL (ds.take 37) 0).length = (argL ds 0).length := by rw [argL_t (by omega)]
  simp only [tr_rBeasts, wp, den_int, den_bool, den_nili, den_ar, den_cmp, den_not, den_len, den_elem, den_isnil, den_errI, den_ifc, den_rep, den_push, den_app, den_emp, den_upd, row0_econs, row0_enil, den_and, den_beq, den_nil, toInt_int, toBool_bool, xs_rows, xs_list, dflt_int, dflt_bool, of_eq, of_ne, of_lt, of_le, of_gt, of_ge, of_add, of_sub, of_rem, List.map_cons, List.map_nil, Dat.bool.injEq, decide_eq_true_eq, decide_eq_false_iff_not, Bool.not_eq_true', Bool.not_eq_false', beq_iff_eq, bne_iff_ne, beq_eq_false_iff_ne, bne_eq_false_iff_eq, ne_eq, List.append_assoc, List.cons_append, List.nil_append, allS, s1, rIs_s, @den_var0 E0.Δ ds, den_varA, den_varB, hl, Nat.reduceLT, Nat.reduceLeDiff, Nat.reduceSub, List.getD_cons_zero, List.getD_cons_succ, argL_fold ds, argI_fold ds, List.append_assoc, List.cons_append, List.nil_append, toInt_int, toBool_bool, xs_rows, xs_list, Int.toNat_natCast, Dat.bool.injEq, dflt_int, fold37x (show 37 ≤ ds.length by omega), take_ta (show 37 ≤ ds.length by omega), argI_ta (show 37 ≤ ds.length by omega) 0, argL_ta (i := 0) (show 0 < 37 by omega) (show 37 ≤ ds.length by omega), argI_c0, argI_fold ds, toInt_getD, den_or, List.getElem?_cons_zero]
  refine ⟨fun xs m => ∃ k : Nat, k ≤ (argL ds 9).length ∧ m = (argL ds 9).length - k ∧ xs = [.rows ((((lst (ds.take 37) 8).take k).filter fun x => isC (ds.take 37) x && (rowI (obj (ds.take 37) x) 2 == argI ds 37)).map fun n => [.int .i64 n]), .int .i64 k], ⟨_, 0, by omega, rfl, rfl⟩, ?_⟩
  rintro d hd n m ⟨k, hk, hm, e⟩
  cases e
  subst hm
  refine ⟨fun hlt => ?_, fun hge => ?_⟩
  · have hk2 : k < (argL ds 9).length := by omega
    rw [Int.toNat_natCast]
    have hx : ∀ dd, ((argL ds 9).getD k []).getD 0 dd = .int .i64 (rowI ((argL ds 9).getD k []) 0) := fun dd => int_el hs (i := 9) (r := 3) (c := 0) (k := .i64) rfl rfl hk2 dd
    have hg := lst_getDT ds (z := 8) (by omega) hk2
    have htk : (lst (ds.take 37) 8).take (k + 1) = (lst (ds.take 37) 8).take k ++ [rowI ((argL ds 9).getD k []) 0] := by rw [take_succ_getD (d := 0) (by omega), hg]
    have hmem : rowI ((argL ds 9).getD k []) 0 ∈ lst (ds.take 37) 8 := by rw [← hg]; exact getD_memL (by omega)
    obtain ⟨f0, f1⟩ := hok.field _ hmem
    rw [hol] at f1
    rw [hx, ← obj_t]
    generalize rowI ((argL ds 9).getD k []) 0 = x at *
    have hw : IntKind.i64.wrap ((k : Int) + 1) = ((k + 1 : Nat) : Int) := by rw [wrap64 (by omega) (by omega)]; rfl
    refine ⟨by omega, hok, by rw [decide_eq_true f0, Bool.or_true], by rw [decide_eq_true f1, Bool.or_true], fun hy => ⟨?_, _, (by omega : (argL ds 9).length - (k + 1) < _), k + 1, by omega, rfl, ?_⟩, fun hy => ⟨_, (by omega : (argL ds 9).length - (k + 1) < _), k + 1, by omega, rfl, ?_⟩⟩
    · have h1 := List.length_filter_le (fun x => isC (ds.take 37) x && (rowI (obj (ds.take 37) x) 2 == argI ds 37)) ((lst (ds.take 37) 8).take k)
      rw [List.length_take] at h1
      simp only [xs_rows, List.length_append, List.length_map, List.length_cons, List.length_nil]
      omega
    · rw [hw, htk, List.filter_append, List.filter_cons_of_pos (by simpa using hy), List.filter_nil, List.map_append]; rfl
    · rw [hw, htk, List.filter_append, List.filter_cons_of_neg (by simpa using hy), List.filter_nil, List.append_nil]
  · intro A c
    have hk3 : k = (argL ds 9).length := by omega
    have ht : (lst (ds.take 37) 8).take k = lst (ds.take 37) 8 := List.take_of_length_le (by omega)
    rw [ht]
    exact h _)
noncomputable def con_rBeasts : Con E0 := ⟨k_rBeasts, sg_rBeasts, rBeasts_s, rfl, bo_rBeasts, rBeasts_h⟩
end Go.Proofs.YtelfhmeobfimiaaDoor
end

section
namespace Go.Proofs.YtelfhmeobfimiaaDoor
open Go.RowKit
set_option linter.unusedVariables false
set_option linter.unusedSimpArgs false

/-- a static: whom it reaches, what it does -/
abbrev Stc := Int × Int × Int × Int
def stcOf (a : List PD) : Stc :=
  let sub := (pL (a.getD 13 .odd)).getD 0 []
  (pI (a.getD 10 .odd), pI (sub.getD 0 .odd), pI (sub.getD 1 .odd), pI (sub.getD 2 .odd))
def whenP (w : Int) (a : List PD) : Bool := pI (a.getD 0 .odd) == w
def statsOf (n : Int) : List Stc := ((absP n).filter (whenP 5)).map stcOf
def encD (t : Stc) : List PD := [.int 20, .int t.1, .int 0, .int 0, .list 5 [[.int t.2.1, .int t.2.2.1, .int t.2.2.2, .int 2, .list 5 []]]]
def okStc (t : Stc) : Bool := decide (0 ≤ t.1) && decide (t.1 ≤ 3) &&
  (t.2.1 == 10 && decide (-2 ≤ t.2.2.1) && decide (t.2.2.1 ≤ 2) && decide (-2 ≤ t.2.2.2) && decide (t.2.2.2 ≤ 2) || t.2.1 == 23 && t.2.2.1 == 1 || t.2.1 == 24 && t.2.2.1 == 1 && t.2.2.2 == 1 || t.2.1 == 25 && t.2.2.1 == 1)
def okCard (n : Int) : Bool := sameRs (((absP n).filter (whenP 5)).map (·.drop 9)) ((statsOf n).map encD) && (statsOf n).all okStc && decide ((absP n).length ≤ 2) && (absP n).all (fun a => a.length == 14 && isI (a.getD 0 .odd)) && decide (0 ≤ cI n 9) && decide (cI n 9 ≤ 99) && decide (0 ≤ cI n 10) && decide (cI n 10 ≤ 99) && decide (0 ≤ cI n 11) && decide (cI n 11 < 256)
theorem okCard_all : (List.range 120).all (fun k => okCard (k : Int)) = true := by kernel_rfl
structure CardF (n : Int) : Prop where
  enc : ((absP n).filter (whenP 5)).map (·.drop 9) = (statsOf n).map encD
  stc : ∀ t ∈ statsOf n, okStc t = true
  two : (absP n).length ≤ 2
  len : ∀ a ∈ absP n, a.length = 14
  int : ∀ a ∈ absP n, ∃ w, a.getD 0 .odd = .int w
  pow : 0 ≤ cI n 9 ∧ cI n 9 ≤ 99
  tou : 0 ≤ cI n 10 ∧ cI n 10 ≤ 99
  say : 0 ≤ cI n 11 ∧ cI n 11 < 256
theorem cardF {n : Int} (h0 : 0 ≤ n) (h1 : n < 120) : CardF n := by
  have h := all120 (p := okCard) okCard_all h0 h1
  unfold okCard at h
  simp only [Bool.and_eq_true, decide_eq_true_eq, List.all_eq_true, beq_iff_eq] at h
  obtain ⟨⟨⟨⟨⟨⟨⟨⟨⟨a1, a2⟩, a3⟩, a4⟩, a5⟩, a6⟩, a7⟩, a8⟩, a9⟩, a10⟩ := h
  refine ⟨sameRs_ok a1, a2, a3, fun a ha => (a4 a ha).1, fun a ha => ?_, ⟨a5, a6⟩, ⟨a7, a8⟩, ⟨a9, a10⟩⟩
  have := (a4 a ha).2
  generalize a.getD 0 .odd = p at this
  cases p <;> first | exact ⟨_, rfl⟩ | cases this
theorem stats_len (n : Int) : (statsOf n).length ≤ (absP n).length := by
  unfold statsOf
  rw [List.length_map]
  exact List.length_filter_le _ _
def statF (S : List Dat) (x : Int) : List (List PD) := (statsOf (cardI S x)).map fun t => .int x :: encD t
def staticsR (S : List Dat) : List (List PD) := (lst S 8).flatMap (statF S)
theorem drop9_14 {a : List Dat} (h : a.length = 14) (d9 d10 d11 d12 d13 : Dat) : [a.getD 9 d9, a.getD 10 d10, a.getD 11 d11, a.getD 12 d12, a.getD 13 d13] = a.drop 9 := by
  match a, h with
  | [x0, x1, x2, x3, x4, x5, x6, x7, x8, x9, x10, x11, x12, x13], _ => rfl
def k_rStatics : Nat := 48
def sg_rStatics : Sig := ⟨[(true, [.list 36] ++ List.replicate 11 (.list 3) ++ List.replicate 25 (.int .i64))], [(false, [.list 118])], false, false, true, false, false⟩
def tr_rStatics : Tree := (.loop [.emp, (.int .i64 0)] [(.rows 118), (.int .i64)]
 (.ite (.cmp .lt (.var 38) (.len (.var 9)))
  (.ob (.cmp .ge (.var 38) (.int .i64 0))
  (.call k_rCard17 [(.var 0), (.var 1), (.var 2), (.var 3), (.var 4), (.var 5), (.var 6), (.var 7), (.var 8), (.var 9), (.var 10), (.var 11), (.var 12), (.var 13), (.var 14), (.var 15), (.var 16), (.var 17), (.var 18), (.var 19), (.var 20), (.var 21), (.var 22), (.var 23), (.var 24), (.var 25), (.var 26), (.var 27), (.var 28), (.var 29), (.var 30), (.var 31), (.var 32), (.var 33), (.var 34), (.var 35), (.var 36), (.elem (.var 9) (.var 38) 0 (.int .i64))] [(.int .i64), (.int .i64), .bool, (.int .i64), (.int .i64), (.int .i64), (.int .i64), (.int .i64), (.int .i64), (.int .i64), (.int .i64), (.int .i64), (.list 59)]
  (.loop [(.var 37), (.int .i64 0)] [(.rows 118), (.int .i64)]
   (.ite (.cmp .lt (.var 53) (.len (.var 51)))
    (.ob (.cmp .ge (.var 53) (.int .i64 0))
    (.ite (.cmp .eq (.elem (.var 51) (.var 53) 0 (.int .i64)) (.int .i64 5))
     (.ob (.cmp .le (.len (.push (.var 52) (.econs (.elem (.var 9) (.var 38) 0 (.int .i64)) (.econs (.elem (.var 51) (.var 53) 9 (.int .i64)) (.econs (.elem (.var 51) (.var 53) 10 (.int .i64)) (.econs (.elem (.var 51) (.var 53) 11 (.int .i64)) (.econs (.elem (.var 51) (.var 53) 12 (.int .i64)) (.econs (.elem (.var 51) (.var 53) 13 (.list 57)) .enil)))))))) (.int .i64 2199023255552))
     (.again 1 [(.push (.var 52) (.econs (.elem (.var 9) (.var 38) 0 (.int .i64)) (.econs (.elem (.var 51) (.var 53) 9 (.int .i64)) (.econs (.elem (.var 51) (.var 53) 10 (.int .i64)) (.econs (.elem (.var 51) (.var 53) 11 (.int .i64)) (.econs (.elem (.var 51) (.var 53) 12 (.int .i64)) (.econs (.elem (.var 51) (.var 53) 13 (.list 57)) .enil))))))), (.ar .add .i64 (.var 53) (.int .i64 1))]))
     (.again 1 [(.var 52), (.ar .add .i64 (.var 53) (.int .i64 1))])))
    (.again 0 [(.var 52), (.ar .add .i64 (.var 38) (.int .i64 1))])))))
  (.share 118 (.var 37)
  (.ret [(.var 39)]))))
theorem wk_rStatics : walk E0.cx (sgsN [(79, sg_rCard17)]) 0 48 sg_rStatics = tr_rStatics := by kernel_rfl
theorem bo_rStatics : ∃ x, bodyOf E0.P 48 = some x := bo_of (by kernel_rfl)
theorem sp_rStatics_rCard17 : specC [con_rCard17] k_rCard17 = rCard17_s := rfl
def rStatics_s : Spec := fun ds Q => OkS (ds.take 37) ∧ ∀ v xs, (xs.map fun r => r.map strip) = staticsR (ds.take 37) → Q [.list v 6 xs]
theorem rStatics_h : Holds E0 k_rStatics sg_rStatics rStatics_s := con_fn wf0 mix0 g0 [con_rCard17] rfl wk_rStatics rfl (by
  intro Φ hΦ ds Q hs ⟨hok, h⟩
  have hl : ds.length = 37 := hs.length.symm
  have s1 : Φ k_rCard17 = rCard17_s := by rw [hΦ]; rfl
  clear hΦ
  have hml : (lst (ds.take 37) 8).length = (argL ds 9).length := lst_lenT ds (z := 8) (by omega)
  have hsm := hok.small 9 (by omega)
  rw [argL_t (by omega)] at hsm
  have hol : (argL (ds.take 37) 0).length = (argL ds 0).length := by rw [argL_t (by omega)]
  simp only [tr_rStatics, wp, den_int, den_bool, den_nili, den_ar, den_cmp, den_not, den_len, den_elem, den_isnil, den_errI, den_ifc, den_rep, den_push, den_app, den_emp, den_upd, row0_econs, row0_enil, den_and, den_beq, den_nil, toInt_int, toBool_bool, xs_rows, xs_list, dflt_int, dflt_bool, of_eq, of_ne, of_lt, of_le, of_gt, of_ge, of_add, of_sub, of_rem, List.map_cons, List.map_nil, Dat.bool.injEq, decide_eq_true_eq, decide_eq_false_iff_not, Bool.not_eq_true', Bool.not_eq_false', beq_iff_eq, bne_iff_ne, beq_eq_false_iff_ne, bne_eq_false_iff_eq, ne_eq, List.append_assoc, List.cons_append, List.nil_append, allS, s1, rCard17_s, @den_var0 E0.Δ ds, den_varA, den_varB, hl, Nat.reduceLT, Nat.reduceLeDiff, Nat.reduceSub, List.getD_cons_zero, List.getD_cons_succ, argL_fold ds, argI_fold ds, List.append_assoc, List.cons_append, List.nil_append, toInt_int, toBool_bool, xs_rows, xs_list, Int.toNat_natCast, Dat.bool.injEq, dflt_int, fold37x (show 37 ≤ ds.length by omega), take_ta (show 37 ≤ ds.length by omega), argI_ta (show 37 ≤ ds.length by omega) 0, argL_ta (i := 0) (show 0 < 37 by omega) (show 37 ≤ ds.length by omega), argI_c0, argI_fold ds, toInt_getD, den_or, List.getElem?_cons_zero]
  refine ⟨fun xs m => ∃ (k : Nat) (ys : List (List Dat)), k ≤ (argL ds 9).length ∧ m = (argL ds 9).length - k ∧ xs = [.rows ys, .int .i64 k] ∧ (ys.map fun r => r.map strip) = ((lst (ds.take 37) 8).take k).flatMap (statF (ds.take 37)) ∧ ys.length ≤ 2 * k, ⟨_, 0, [], by omega, rfl, rfl, rfl, Nat.le_refl _⟩, ?_⟩
  rintro d hd n m ⟨k, ys, hk, hm, e, hys, hyl⟩
  cases e
  subst hm
  refine ⟨fun hlt => ?_, fun hge A c => ?_⟩
  · have hk2 : k < (argL ds 9).length := by omega
    rw [Int.toNat_natCast]
    have hx : ∀ dd, ((argL ds 9).getD k []).getD 0 dd = .int .i64 (rowI ((argL ds 9).getD k []) 0) := fun dd => int_el hs (i := 9) (r := 3) (c := 0) (k := .i64) rfl rfl hk2 dd
    have hg := lst_getDT ds (z := 8) (by omega) hk2
    have htk : (lst (ds.take 37) 8).take (k + 1) = (lst (ds.take 37) 8).take k ++ [rowI ((argL ds 9).getD k []) 0] := by rw [take_succ_getD (d := 0) (by omega), hg]
    have hmem : rowI ((argL ds 9).getD k []) 0 ∈ lst (ds.take 37) 8 := by rw [← hg]; exact getD_memL (by omega)
    obtain ⟨f0, f1⟩ := hok.field _ hmem
    have hcd := hok.cards f0 f1
    rw [hol] at f1
    rw [hx]
    generalize rowI ((argL ds 9).getD k []) 0 = x at *
    have hw : IntKind.i64.wrap ((k : Int) + 1) = ((k + 1 : Nat) : Int) := by rw [wrap64 (by omega) (by omega)]; rfl
    refine ⟨by omega, hok, f0, f1, fun rs hr => ?_⟩
    have hrl := card_rlen hcd.1 hcd.2 hr
    obtain ⟨v, bs, hv, ha⟩ := card_row hcd.1 hcd.2 hr (.bool false)
    have F := cardF hcd.1 hcd.2
    have r12 : ∀ (e : List Dat) b, (rs ++ e).getD 12 b = rs.getD 12 b := fun e b => by
      rw [List.getD_eq_getElem?_getD, List.getD_eq_getElem?_getD, List.getElem?_append_left (by omega)]
    have r13 : ∀ (d : Dat) (e : List Dat) b, (rs ++ d :: e).getD 13 b = d := fun d e b => by
      rw [List.getD_eq_getElem?_getD, List.getElem?_append_right (by omega), hrl]; rfl
    have r14 : ∀ (d d' : Dat) (e : List Dat) b, (rs ++ d :: d' :: e).getD 14 b = d' := fun d d' e b => by
      rw [List.getD_eq_getElem?_getD, List.getElem?_append_right (by omega), hrl]; rfl
    simp only [r12, r13, r14, hv, xs_list, toInt_int, List.getElem?_cons_succ, List.getElem?_cons_zero]
    generalize hT : ((lst (ds.take 37) 8).take k).flatMap (statF (ds.take 37)) = T at *
    have hal : bs.length ≤ 2 := by
      have := F.two
      rw [ha, List.length_map] at this
      exact this
    refine ⟨fun xs m => ∃ (j : Nat) (zs : List (List Dat)), j ≤ bs.length ∧ m = bs.length - j ∧ xs = [.rows zs, .int .i64 j] ∧ (zs.map fun r => r.map strip) = T ++ (((absP (cardI (ds.take 37) x)).take j).filter (whenP 5)).map (fun a => .int x :: a.drop 9) ∧ zs.length ≤ 2 * k + j, ⟨_, 0, ys, by omega, rfl, rfl, by rw [hys]; simp, by omega⟩, ?_⟩
    rintro d2 hd2 n2 m2 ⟨j, zs, hj, hm2, e2, hzs, hzl⟩
    cases e2
    subst hm2
    refine ⟨fun hlt2 => ?_, fun hge2 => ?_⟩
    · have hj2 : j < bs.length := by omega
      rw [Int.toNat_natCast]
      have hab : (absP (cardI (ds.take 37) x)).getD j [] = (bs.getD j []).map strip := by
        rw [ha, List.getD_eq_getElem?_getD, List.getD_eq_getElem?_getD, List.getElem?_map]
        cases bs[j]? <;> rfl
      have hjl : j < (absP (cardI (ds.take 37) x)).length := by rw [ha, List.length_map]; exact hj2
      have hmA : (absP (cardI (ds.take 37) x)).getD j [] ∈ absP (cardI (ds.take 37) x) := getD_memL hjl
      have hla := F.len _ hmA
      obtain ⟨w, hwn⟩ := F.int _ hmA
      have htj : (absP (cardI (ds.take 37) x)).take (j + 1) = (absP (cardI (ds.take 37) x)).take j ++ [(absP (cardI (ds.take 37) x)).getD j []] := take_succ_getD hjl
      rw [hab] at hla hwn htj
      rw [List.length_map] at hla
      generalize bs.getD j [] = a at *
      have h0w : rowI a 0 = w := strip_isInt (getD_strip (l := a) (f := strip) rfl (i := 0) (by
        rw [List.getD_eq_getElem?_getD] at hwn
        cases hq : (a.map strip)[0]? with
        | none =>
          rw [List.getElem?_map] at hq
          cases a with
          | nil => cases hla
          | cons y a => cases hq
        | some p => rw [hq] at hwn; exact congrArg some hwn) _)
      have hw2 : IntKind.i64.wrap ((j : Int) + 1) = ((j + 1 : Nat) : Int) := by rw [wrap64 (by omega) (by omega)]; rfl
      have hwp : whenP 5 (a.map strip) = decide (rowI a 0 = 5) := by
        unfold whenP
        rw [hwn, h0w]; rfl
      rw [drop9_14 hla]
      refine ⟨by omega, fun hy => ⟨?_, _, (by omega : bs.length - (j + 1) < _), j + 1, _, by omega, rfl, by rw [hw2], ?_, ?_⟩, fun hy => ⟨_, (by omega : bs.length - (j + 1) < _), j + 1, _, by omega, rfl, by rw [hw2], ?_, ?_⟩⟩
      · simp only [xs_rows, List.length_append, List.length_cons, List.length_nil]; omega
      · rw [xs_rows, List.map_append, hzs, htj, List.filter_append, List.filter_cons_of_pos (by rw [hwp, decide_eq_true hy]), List.filter_nil, List.map_append, List.append_assoc]
        simp only [List.map_cons, List.map_nil, strip_int, List.map_drop]
      · simp only [xs_rows, List.length_append, List.length_cons, List.length_nil]; omega
      · rw [hzs, htj, List.filter_append, List.filter_cons_of_neg (by rw [hwp, decide_eq_false hy]; exact Bool.false_ne_true), List.filter_nil, List.append_nil]
      · omega
    · have hj3 : j = bs.length := by omega
      refine ⟨_, (by omega : (argL ds 9).length - (k + 1) < _), k + 1, zs, by omega, rfl, by rw [hw], ?_, by omega⟩
      rw [hzs, htk, List.flatMap_append, hT, List.take_of_length_le (by rw [ha, List.length_map]; omega)]
      congr 1
      rw [List.flatMap_cons, List.flatMap_nil, List.append_nil]
      unfold statF
      have := congrArg (List.map fun l => PD.int x :: l) F.enc
      rw [List.map_map, List.map_map] at this
      exact this
  · have hk3 : k = (argL ds 9).length := by omega
    refine h _ _ ?_
    have ht : (lst (ds.take 37) 8).take k = lst (ds.take 37) 8 := List.take_of_length_le (by omega)
    rw [xs_rows, hys, ht]
    rfl)
noncomputable def con_rStatics : Con E0 := ⟨k_rStatics, sg_rStatics, rStatics_s, rfl, bo_rStatics, rStatics_h⟩
end Go.Proofs.YtelfhmeobfimiaaDoor
end

section
namespace Go.Proofs.YtelfhmeobfimiaaDoor.mth

/-- the number of the first n bits -/
def ofBits (f : Nat → Bool) : Nat → Nat
  | 0 => 0
  | n + 1 => ofBits f n + if f n then 2 ^ n else 0

theorem ofBits_lt (f : Nat → Bool) (n : Nat) : ofBits f n < 2 ^ n := by
  induction n with
  | zero => simp [ofBits]
  | succ n ih =>
    have : 2 ^ (n + 1) = 2 ^ n + 2 ^ n := by rw [Nat.pow_succ]; omega
    unfold ofBits
    split <;> omega

theorem testBit_ofBits (f : Nat → Bool) (n i : Nat) : (ofBits f n).testBit i = (decide (i < n) && f i) := by
  induction n with
  | zero => simp [ofBits]
  | succ n ih =>
    unfold ofBits
    have hl := ofBits_lt f n
    by_cases hf : f n = true
    · rw [if_pos hf, Nat.add_comm, Nat.testBit_two_pow_add_eq_or_lt f n i hl ih hf]
    · rw [if_neg hf, Nat.add_zero, ih]
      by_cases hi : i = n
      · subst hi; simp [hf]
      · have : decide (i < n + 1) = decide (i < n) := by
          rw [Bool.eq_iff_iff]; simp; omega
        rw [this]
where
  Nat.testBit_two_pow_add_eq_or_lt (f : Nat → Bool) (n i : Nat) {x : Nat} (hl : x < 2 ^ n) (ih : x.testBit i = (decide (i < n) && f i)) (hf : f n = true) :
      (2 ^ n + x).testBit i = (decide (i < n + 1) && f i) := by
    rcases Nat.lt_trichotomy i n with h | h | h
    · rw [Nat.testBit_two_pow_add_gt h, ih]
      have : decide (i < n + 1) = decide (i < n) := by rw [Bool.eq_iff_iff]; simp; omega
      rw [this]
    · subst h
      rw [Nat.testBit_two_pow_add_eq, Nat.testBit_lt_two_pow hl]
      simp [hf]
    · have h1 : (2 ^ n + x) < 2 ^ i := by
        have : 2 ^ (n + 1) ≤ 2 ^ i := Nat.pow_le_pow_right (by omega) (by omega)
        have : 2 ^ (n + 1) = 2 ^ n + 2 ^ n := by rw [Nat.pow_succ]; omega
        omega
      rw [Nat.testBit_lt_two_pow h1]
      simp; omega

theorem ofBits_congr {f g : Nat → Bool} {n : Nat} (h : ∀ i, i < n → f i = g i) : ofBits f n = ofBits g n := by
  induction n with
  | zero => rfl
  | succ n ih =>
    unfold ofBits
    rw [ih (fun i hi => h i (by omega)), h n (by omega)]

/-- a number is the number of its bits -/
theorem ofBits_testBit (x n : Nat) (h : x < 2 ^ n) : ofBits (fun i => x.testBit i) n = x := by
  apply Nat.eq_of_testBit_eq
  intro i
  rw [testBit_ofBits]
  by_cases hi : i < n
  · simp [hi]
  · have : x < 2 ^ i := Nat.lt_of_lt_of_le h (Nat.pow_le_pow_right (by omega) (by omega))
    rw [Nat.testBit_lt_two_pow this]
    simp [hi]

theorem eq_ofBits {x n : Nat} {f : Nat → Bool} (hx : x < 2 ^ n) (h : ∀ i, i < n → x.testBit i = f i) : x = ofBits f n := by
  rw [← ofBits_testBit x n hx]
  exact ofBits_congr h

/-- Narrow, by arithmetic. -/
def narrow (n w : Int) : Int := if w < 1 ∨ 64 < w then n else (n + 2 ^ (w.toNat - 1)) % 2 ^ w.toNat - 2 ^ (w.toNat - 1)

/-- the bits of a narrowed number -/
def nbits (u w : Nat) : Nat → Bool := fun i => if i < w then u.testBit i else u.testBit (w - 1)

theorem ofBits_low (u w n : Nat) (h : n ≤ w) : ofBits (nbits u w) n = u % 2 ^ n := by
  have : ofBits (nbits u w) n = ofBits (fun i => (u % 2 ^ n).testBit i) n := by
    apply ofBits_congr
    intro i hi
    simp only [nbits]
    rw [if_pos (by omega), Nat.testBit_mod_two_pow]
    simp [hi]
  rw [this, ofBits_testBit _ _ (Nat.mod_lt _ (Nat.two_pow_pos n))]

theorem ofBits_high (u w k : Nat) : ofBits (nbits u w) (w + k) = u % 2 ^ w + if u.testBit (w - 1) then 2 ^ (w + k) - 2 ^ w else 0 := by
  induction k with
  | zero =>
    rw [Nat.add_zero, ofBits_low u w w (Nat.le_refl _)]
    simp
  | succ k ih =>
    show ofBits (nbits u w) (w + k) + (if nbits u w (w + k) then 2 ^ (w + k) else 0) = _
    have hn : nbits u w (w + k) = u.testBit (w - 1) := by simp only [nbits]; rw [if_neg (by omega)]
    have h2 : 2 ^ (w + (k + 1)) = 2 ^ (w + k) + 2 ^ (w + k) := by rw [← Nat.add_assoc, Nat.pow_succ]; omega
    have h3 : 2 ^ w ≤ 2 ^ (w + k) := Nat.pow_le_pow_right (by omega) (by omega)
    rw [ih, hn]
    split <;> omega

theorem testBit_top (u w : Nat) (hw : 1 ≤ w) : u.testBit (w - 1) = decide (2 ^ (w - 1) ≤ u % 2 ^ w) := by
  have h2 : 2 ^ w = 2 ^ (w - 1) + 2 ^ (w - 1) := by
    have : w = (w - 1) + 1 := by omega
    rw [this, Nat.pow_succ]; simp; omega
  have h1 : (u % 2 ^ w).testBit (w - 1) = u.testBit (w - 1) := by
    rw [Nat.testBit_mod_two_pow]; simp; omega
  rw [← h1]
  have hl : u % 2 ^ w < 2 ^ w := Nat.mod_lt _ (Nat.two_pow_pos w)
  generalize u % 2 ^ w = x at *
  by_cases hx : 2 ^ (w - 1) ≤ x
  · have e : x = 2 ^ (w - 1) + (x - 2 ^ (w - 1)) := by omega
    rw [e, Nat.testBit_two_pow_add_eq, Nat.testBit_lt_two_pow (by omega)]
    simp
  · rw [Nat.testBit_lt_two_pow (by omega)]
    simp; omega

theorem two_split (w : Nat) (h1 : 1 ≤ w) (h2 : w ≤ 64) : ∃ p q : Int, 0 < p ∧ 0 < q ∧ (2 : Int) ^ (w - 1) = p ∧ (2 : Int) ^ w = 2 * p ∧ (2 : Int) ^ (64 - w) = q ∧ q * (2 * p) = 18446744073709551616 ∧ q * p = 9223372036854775808 := by
  refine ⟨2 ^ (w - 1), 2 ^ (64 - w), Int.pow_pos (by omega), Int.pow_pos (by omega), rfl, ?_, rfl, ?_, ?_⟩
  · have : w = (w - 1) + 1 := by omega
    rw (config := { occs := .pos [1] }) [this]
    rw [Int.pow_succ]; omega
  · have e : (2 : Int) * 2 ^ (w - 1) = 2 ^ w := by
      have : w = (w - 1) + 1 := by omega
      rw (config := { occs := .pos [2] }) [this]
      rw [Int.pow_succ]; omega
    rw [e, ← Int.pow_add]
    have : 64 - w + w = 64 := by omega
    rw [this]; rfl
  · rw [← Int.pow_add]
    have : 64 - w + (w - 1) = 63 := by omega
    rw [this]; rfl

/-- the shifts -/
theorem narrow_shifts (n : Int) (w : Nat) (h1 : 1 ≤ w) (h2 : w ≤ 64) :
    ((n * 2 ^ (64 - w) + 9223372036854775808) % 18446744073709551616 - 9223372036854775808) / (2 ^ (64 - w)) = narrow n w := by
  obtain ⟨p, q, hp, hq, e1, e2, e3, e4, e5⟩ := two_split w h1 h2
  unfold narrow
  rw [if_neg (by omega), Int.toNat_natCast, e1, e2, e3, ← e4, ← e5]
  have : n * q + q * p = q * (n + p) := by rw [Int.mul_add, Int.mul_comm n q]
  rw [this, Int.mul_emod_mul_of_pos _ _ hq, ← Int.mul_sub, Int.mul_ediv_cancel_left _ (by omega)]

/-- the bits -/
theorem narrow_bits (n : Int) (u w : Nat) (h1 : 1 ≤ w) (h2 : w ≤ 64) (hu : (u : Int) = n % 18446744073709551616) :
    ((ofBits (nbits u w) 64 : Nat) + 9223372036854775808 : Int) % 18446744073709551616 - 9223372036854775808 = narrow n w := by
  obtain ⟨p, q, hp, hq, e1, e2, e3, e4, e5⟩ := two_split w h1 h2
  have h64 : 64 = w + (64 - w) := by omega
  rw (config := { occs := .pos [1] }) [h64]
  have hnr : narrow n w = (n + p) % (2 * p) - p := by
    unfold narrow
    rw [if_neg (by omega), Int.toNat_natCast, e1, e2]
  rw [hnr, ofBits_high, ← h64, testBit_top u w h1]
  clear hnr
  have c1 : ((2 ^ (w - 1) : Nat) : Int) = p := by rw [Int.natCast_pow]; exact e1
  have c2 : ((2 ^ w : Nat) : Int) = 2 * p := by rw [Int.natCast_pow]; exact e2
  have c3 : (u % 2 ^ w : Nat) = (n % (2 * p)) := by
    rw [Int.natCast_emod, c2, hu, ← e4]
    exact Int.emod_emod_of_dvd n ⟨q, by rw [Int.mul_comm]⟩
  have hl : 0 ≤ n % (2 * p) := Int.emod_nonneg _ (by omega)
  have hl' : n % (2 * p) < 2 * p := Int.emod_lt_of_pos _ (by omega)
  have hle : 2 * p ≤ 18446744073709551616 := by
    rw [← e4]
    have := Int.mul_le_mul_of_nonneg_right (show (1 : Int) ≤ q by omega) (show 0 ≤ 2 * p by omega)
    omega
  have hx : (n + p) % (2 * p) = (n % (2 * p) + p) % (2 * p) := by rw [Int.emod_add_emod]
  rw [hx]
  generalize hm : n % (2 * p) = m at *
  generalize hu2 : u % 2 ^ w = v at *
  have h2w : (2 ^ w : Nat) ≤ 2 ^ 64 := Nat.pow_le_pow_right (by omega) h2
  have h64' : (2 : Nat) ^ 64 = 18446744073709551616 := rfl
  rw [h64'] at *
  by_cases hb : 2 ^ (w - 1) ≤ v
  · rw [if_pos (decide_eq_true hb)]
    have : (m + p) % (2 * p) = m - p := by
      have : m + p = (m - p) + 2 * p := by omega
      rw [this, Int.add_emod_right]
      exact Int.emod_eq_of_lt (by omega) (by omega)
    rw [this]
    omega
  · rw [if_neg (by rw [decide_eq_true_eq]; exact hb)]
    have : (m + p) % (2 * p) = m + p := Int.emod_eq_of_lt (by omega) (by omega)
    rw [this]
    omega

/-- all bits below n -/
def mask (n : Int) : Nat := 2 ^ (min n.toNat 64) - 1
theorem mask_lt (n : Int) : mask n < 18446744073709551616 := by
  have : 2 ^ (min n.toNat 64) ≤ 2 ^ 64 := Nat.pow_le_pow_right (by omega) (by omega)
  have h64 : (2 : Nat) ^ 64 = 18446744073709551616 := rfl
  have := Nat.two_pow_pos (min n.toNat 64)
  unfold mask; omega
theorem testBit_mask (n : Int) (i : Nat) : (mask n).testBit i = (decide ((i : Int) < n) && decide (i < 64)) := by
  unfold mask
  rw [Nat.testBit_two_pow_sub_one, Bool.eq_iff_iff]
  simp; omega
theorem testBit_not64 (b i : Nat) (h : b < 18446744073709551616) : (18446744073709551615 - b).testBit i = (decide (i < 64) && !b.testBit i) := by
  have : 18446744073709551615 - b = 2 ^ 64 - (b + 1) := by
    have h64 : (2 : Nat) ^ 64 = 18446744073709551616 := rfl
    omega
  rw [this, Nat.testBit_two_pow_sub_succ h]

def span (a b : Int) : Nat := ofBits (fun i => decide (a ≤ (i : Int)) && decide ((i : Int) < b)) 64
theorem span_eq (a b : Int) : mask b &&& (18446744073709551615 - mask a) = span a b := by
  unfold span
  apply eq_ofBits
  · exact Nat.and_lt_two_pow _ (by have := mask_lt a; have h64 : (2 : Nat) ^ 64 = 18446744073709551616 := rfl; omega)
  · intro i hi
    rw [Nat.testBit_and, testBit_not64 _ _ (mask_lt a), testBit_mask, testBit_mask, Bool.eq_iff_iff]
    simp [hi]; omega

/-- is there such a part? -/
def isP (m wd : Int) : Prop := 0 ≤ m ∧ m < 64 ∧ 1 ≤ wd ∧ wd ≤ 64 - m
instance (m wd : Int) : Decidable (isP m wd) := by unfold isP; infer_instance

def partB (x m wd : Nat) : Nat → Bool := fun i => decide (i < wd) && x.testBit (m + i)
def putB (x m wd p : Nat) : Nat → Bool := fun i => if m ≤ i ∧ i < m + wd then p.testBit (i - m) else x.testBit i

theorem part_eq (x m wd : Nat) : (x / 2 ^ m) &&& mask wd = ofBits (partB x m wd) 64 := by
  apply eq_ofBits
  · exact Nat.and_lt_two_pow _ (mask_lt _)
  · intro i hi
    rw [Nat.testBit_and, Nat.testBit_div_two_pow, testBit_mask, partB, Nat.add_comm i m, Bool.and_comm]
    congr 1
    rw [Bool.eq_iff_iff]; simp; omega

theorem testBit_shl64 (x m i : Nat) : (x * 2 ^ m % 18446744073709551616).testBit i = (decide (i < 64) && (decide (m ≤ i) && x.testBit (i - m))) := by
  have h64 : (18446744073709551616 : Nat) = 2 ^ 64 := rfl
  rw [h64, Nat.testBit_mod_two_pow, Nat.testBit_mul_two_pow]

theorem put_eq (x m wd p : Nat) (hp : p < 2 ^ wd) :
    (x &&& (18446744073709551615 - mask wd * 2 ^ m % 18446744073709551616)) ||| (p * 2 ^ m % 18446744073709551616) = ofBits (putB x m wd p) 64 := by
  have h64 : (2 : Nat) ^ 64 = 18446744073709551616 := rfl
  apply eq_ofBits
  · apply Nat.or_lt_two_pow
    · exact Nat.and_lt_two_pow _ (by omega)
    · omega
  · intro i hi
    rw [Nat.testBit_or, Nat.testBit_and, testBit_not64 _ _ (by omega), testBit_shl64, testBit_shl64, testBit_mask, putB]
    simp only [hi, decide_true, Bool.true_and]
    by_cases h1 : m ≤ i
    · simp only [h1, decide_true, Bool.true_and, true_and]
      have hlt : i - m < 64 := by omega
      simp only [hlt, decide_true, Bool.and_true]
      by_cases h2 : i < m + wd
      · have h3 : ((i - m : Nat) : Int) < (wd : Int) := by omega
        simp [h2, h3]
      · have h3 : ¬ ((i - m : Nat) : Int) < (wd : Int) := by omega
        have h4 : p < 2 ^ (i - m) := Nat.lt_of_lt_of_le hp (Nat.pow_le_pow_right (by omega) (by omega))
        simp [h2, h3, Nat.testBit_lt_two_pow h4]
    · simp [h1]

/-- a number has no bit from wd on just where it is below 2^wd -/
theorem fits_iff (p wd : Nat) (hp : p < 18446744073709551616) : p &&& (18446744073709551615 - mask wd) = 0 ↔ p < 2 ^ wd := by
  constructor
  · intro h
    apply Nat.lt_pow_two_of_testBit
    intro i hi
    have := congrArg (fun y => y.testBit i) h
    simp only [Nat.testBit_and, testBit_not64 _ _ (mask_lt _), testBit_mask, Nat.zero_testBit] at this
    by_cases hi64 : i < 64
    · have h3 : ¬ (i : Int) < (wd : Int) := by omega
      simpa [hi64, h3] using this
    · exact Nat.testBit_lt_two_pow (Nat.lt_of_lt_of_le hp (Nat.pow_le_pow_right (n := 2) (by omega) (show 64 ≤ i by omega)))
  · intro h
    apply Nat.eq_of_testBit_eq
    intro i
    simp only [Nat.testBit_and, testBit_not64 _ _ (mask_lt _), testBit_mask, Nat.zero_testBit]
    by_cases hi : i < wd
    · have h3 : (i : Int) < (wd : Int) := by omega
      by_cases h64 : i < 64 <;> simp [h3, h64]
    · rw [Nat.testBit_lt_two_pow (Nat.lt_of_lt_of_le h (Nat.pow_le_pow_right (by omega) (by omega)))]
      simp

theorem bit_of_not_fits (p wd : Nat) (h : ¬ p < 2 ^ wd) : ∃ i, wd ≤ i ∧ p.testBit i = true := by
  apply Classical.byContradiction
  intro hn
  apply h
  apply Nat.lt_pow_two_of_testBit
  intro i hi
  cases hb : p.testBit i
  · rfl
  · exact absurd ⟨i, hi, hb⟩ hn

theorem span_ex : span 62 70 = 13835058055282163712 := by decide +kernel
theorem narrow_ex : narrow 200 8 = -56 := by decide +kernel

end Go.Proofs.YtelfhmeobfimiaaDoor.mth
end

section
namespace Go.Proofs.YtelfhmeobfimiaaDoor
open Go.RowKit
set_option linter.unusedVariables false

/-- the bits of a number below n, the others false -/
def bitRow (x n : Nat) : Array Value := rowOf 64 fun i => .bool (decide (i < n) && x.testBit i)

theorem zero64 : rowOf 64 (fun _ => .bool false) = (Array.replicate 64 (Value.bool false)) := by
  apply Array.ext_getElem?
  intro j
  by_cases hj : j < 64
  · rw [rowOf_get _ hj]; simp [hj]
  · rw [rowOf_get_none _ (by omega)]; simp; omega

theorem boolArr_zero : (Tryd.prog.info? 144).map (fun i => i.zero) = some (some (.agg (rowOf 64 (fun _ => .bool false)))) := by
  rw [zero64]; kernel_rfl
theorem boolArr_size : (Tryd.prog.info? 144).map (·.size) = some 64 := by kernel_rfl

theorem bitRow_zero (x : Nat) : bitRow x 0 = rowOf 64 (fun _ => .bool false) := by
  unfold bitRow; exact rowOf_congr fun i _ => by simp
theorem bitRow_succ (x k : Nat) : (bitRow x k).setIfInBounds k (.bool ((((x / 2 ^ k : Nat) : Int) % 2) == 1)) = bitRow x (k + 1) := by
  unfold bitRow
  rw [rowOf_set]
  refine rowOf_congr fun i _ => ?_
  by_cases e : i = k
  · subst e
    have : (((x / 2 ^ i : Nat) : Int) % 2 == 1) = x.testBit i := by
      rw [Nat.testBit_eq_decide_div_mod_eq, Bool.eq_iff_iff, beq_iff_eq, decide_eq_true_eq]; omega
    rw [if_pos rfl, this]; simp
  · have : decide (i < k + 1) = decide (i < k) := by rw [Bool.eq_iff_iff]; simp; omega
    simp [e, this]
theorem div_pow_succ (x k : Nat) : x / 2 ^ k / 2 = x / 2 ^ (k + 1) := by rw [Nat.div_div_eq_div_mul, Nat.pow_succ]

theorem Bits_c (x : Nat) (hx : x < 18446744073709551616) (w : World) : Calls Tryd.prog 119 #[.int .u64 x] w (Ret w (.agg (bitRow x 64))) := by
  go_enter Tryd.func119, Tryd.ntmps119
  go_wp2_with (refine wpList_alloc_agg rfl _ rfl _ boolArr_zero ?_)
  go_loopw [0, 4] (fun xv iv wr => ∃ k : Nat, k ≤ 64 ∧ iv = .int .i64 k ∧ xv = .int .u64 ((x / 2 ^ k : Nat) : Int) ∧ wr = (w.alloc (.cells (bitRow x 0) 144)).alloc (.cells (bitRow x k) 144)) (fun _ iv _ => 64 - (intOf iv).toNat)
  case atStart => exact ⟨0, by omega, by go_num, by simp, by rw [bitRow_zero]⟩
  case round =>
    obtain ⟨k, hk, rfl, rfl, rfl⟩ := hrel
    have hb : x / 2 ^ k ≤ x := Nat.div_le_self _ _
    have hs : 0 ≤ (k : Int) := by omega
    generalize hy : x / 2 ^ k = y at *
    have HY := Lib.hid hy
    clear hy
    by_cases hlt : k < 64
    · have hc : (bitRow x k)[k]? = some (.bool (decide (k < k) && x.testBit k)) := rowOf_get _ hlt
      go_wp2
      go_roundw
      case rel =>
        refine ⟨k + 1, by omega, by go_num, ?_, ?_⟩
        · rw [← div_pow_succ, HY.out]; rfl
        · rw [← bitRow_succ, HY.out]
      case measure => simp [intOf]; omega
    · obtain rfl : k = 64 := by omega
      go_wp2_with (first
        | (refine wpList_load_row rfl _ _ rfl (w.heap.size + 1) rfl _ (bitRow x 64) (0, 0) _ (heap_alloc2_new _ _ _) Tryd.underlying144 rfl (by rw [boolArr_size]; rfl) ?_)
        | (refine wpList_store_row rfl rfl _ _ _ rfl w.heap.size rfl _ (bitRow x 0) (bitRow x 64) rfl (heap_alloc2_old _ _ _) (by rw [boolArr_size]; rfl) rfl (rowOf_oneCell fun _ _ => rfl) ?_))
      refine bodyPost_ret (results_cell_row rfl _ _ w.heap.size _ (bitRow x 64) (0, 0) _ rfl (setRow_heap _ _ _ _ _ _ (heap_alloc2_old _ _ _)) Tryd.underlying144 rfl (by rw [boolArr_size]; rfl)) rfl ?_
      exact ⟨rfl, below_setRow (((Below.refl _ _).alloc (Nat.le_refl _) _).alloc (by simp) _) (Nat.le_refl _) _⟩

/-- a row of 64 bools -/
def bools (f : Nat → Bool) : Array Value := rowOf 64 fun i => .bool (f i)

theorem ofBits_step (f : Nat → Bool) (k : Nat) : mth.ofBits f (k + 1) = mth.ofBits f k + if f k then 2 ^ k else 0 := rfl

theorem Of_c (f : Nat → Bool) (w : World) : Calls Tryd.prog 142 #[.agg (bools f)] w (Ret w (.int .u64 (mth.ofBits f 64 : Nat))) := by
  go_enter Tryd.func142, Tryd.ntmps142
  go_wp2_with (refine wpList_box_agg rfl _ _ rfl (bools f) rfl ?_)
  go_loop [3, 4, 5] (fun xv yv iv => ∃ k : Nat, k ≤ 64 ∧ iv = .int .i64 k ∧ xv = .int .u64 (mth.ofBits f k : Nat) ∧ yv = .int .u64 ((2 ^ k % 18446744073709551616 : Nat) : Int)) (fun _ _ iv => 64 - (intOf iv).toNat)
  case atStart => exact ⟨0, by omega, by go_num, by rfl, by rfl⟩
  case round =>
    obtain ⟨k, hk, rfl, rfl, rfl⟩ := hrel
    by_cases hlt : k < 64
    · have h1 := mth.ofBits_lt f k
      have h2 : 2 ^ (k + 1) ≤ 2 ^ 64 := Nat.pow_le_pow_right (by omega) (by omega)
      have h3 : 2 ^ (k + 1) = 2 * 2 ^ k := by rw [Nat.pow_succ]; omega
      have HX := Lib.hid (ofBits_step f k)
      have HY := Lib.hid h3
      have h64 : (2 : Nat) ^ 64 = 18446744073709551616 := rfl
      have h4 : 2 ^ k ≤ 9223372036854775808 := by omega
      have h5 : 2 ^ k % 18446744073709551616 = 2 ^ k := Nat.mod_eq_of_lt (by omega)
      rw [h5]
      clear h2 h3 h64 h5
      generalize mth.ofBits f k = x at *
      generalize 2 ^ k = y at *
      have h6 : (x : Int) + y ≤ 18446744073709551615 := by omega
      have hc : (bools f)[k]? = some (.bool (f k)) := rowOf_get _ hlt
      cases hf : f k
      all_goals
        have HF := Lib.hid hf
        rw [hf] at hc
        clear hf
        go_wp2
        go_round
        case rel =>
          refine ⟨k + 1, by omega, by go_num, ?_, ?_⟩
          · rw [HX.out, HF.out]; first | rfl | go_num
          · rw [HY.out, IntKind.wrap_u64]; go_num
        case measure => simp [intOf]; omega
    · obtain rfl : k = 64 := by omega
      go_wp2
      go_ret
      exact ⟨rfl, (Below.refl _ _).alloc (Nat.le_refl _) _⟩

theorem Bits_ci (x : Int) (h1 : 0 ≤ x) (h2 : x ≤ 18446744073709551615) (w : World) : Calls Tryd.prog 119 #[.int .u64 x] w (Ret w (.agg (bitRow x.toNat 64))) := by
  obtain ⟨n, rfl⟩ := Int.eq_ofNat_of_zero_le h1
  rw [Int.toNat_natCast]
  exact Bits_c n (by omega) w

/-- a number's bits, those from wd on below k being its bit wd-1 -/
def tops (u wd k : Nat) : Nat → Bool := fun i => if wd ≤ i ∧ i < k then u.testBit (wd - 1) else u.testBit i
theorem tops_none (u wd : Nat) : bools (tops u wd wd) = bitRow u 64 := by
  unfold bools bitRow
  exact rowOf_congr fun i hi => by simp [tops, hi]; intro h1 h2; omega
theorem tops_all (u wd : Nat) : bools (tops u wd 64) = bools (mth.nbits u wd) := by
  unfold bools
  refine rowOf_congr fun i hi => ?_
  simp only [tops, mth.nbits]
  by_cases h : i < wd
  · rw [if_neg (by omega), if_pos h]
  · rw [if_pos (by omega), if_neg h]
theorem tops_succ (u wd k : Nat) (h : wd ≤ k) : (bools (tops u wd k)).setIfInBounds k (.bool (u.testBit (wd - 1))) = bools (tops u wd (k + 1)) := by
  unfold bools
  rw [rowOf_set]
  refine rowOf_congr fun i hi => ?_
  by_cases e : i = k
  · subst e; simp [tops, h]
  · have : (wd ≤ i ∧ i < k + 1) = (wd ≤ i ∧ i < k) := by apply propext; omega
    simp [tops, e, this]
end Go.Proofs.YtelfhmeobfimiaaDoor
end

section
namespace Go.Proofs.YtelfhmeobfimiaaDoor
open Go.RowKit
set_option linter.unusedVariables false
set_option linter.unusedSimpArgs false

/-- a contract that was shown without the walk -/
theorem holds_calls {f : FuncId} {sg : Sig} {Φ : Spec} (hown : sg.own = false) (h : ∀ (w : World) (ds : List Dat) (Q : List Dat → Prop), All2 (Has E0.Δ) (Sig.sorts sg.params) ds → Φ ds Q →
    ∃ rs, Q rs ∧ All2 (Has E0.Δ) (Sig.sorts sg.res) rs ∧ (∀ w', OkL w' rs) ∧ (∀ k, ¬ AtL rs k) ∧ Calls E0.P f (groupV sg.params ds).toArray w (Ret w (retV (groupV sg.res rs)))) : Holds E0 f sg Φ := by
  intro w ds Q h1 h2 h3 h4 h5
  obtain ⟨rs, r1, r2, r3, r4, r5⟩ := h w ds Q h1 h5
  refine r5.mono fun e w' ⟨he, hb⟩ => ⟨rs, r1, r2, hb, r3 w', fun k hk => (r4 k hk).elim, ?_⟩
  rw [hown]
  exact he
def bitsD (g : Nat → Bool) : List Dat := (List.range 64).map fun i => .bool (g i)
theorem bitsD_has (g : Nat → Bool) : All2 (Has E0.Δ) (List.replicate 64 Srt.bool) (bitsD g) := by
  refine All2.of (by simp [bitsD]) fun i s d hs hd => ?_
  simp only [bitsD, List.getElem?_map, Option.map_eq_some_iff] at hd
  obtain ⟨k, _, rfl⟩ := hd
  rw [List.getElem?_replicate] at hs
  split at hs
  · cases hs; exact .bool _
  · cases hs
theorem bitsD_ok (g : Nat → Bool) (w : World) : OkL w (bitsD g) := fun d hd => by
  simp only [bitsD, List.mem_map] at hd
  obtain ⟨k, _, rfl⟩ := hd
  exact .bool _
theorem bitsD_at (g : Nat → Bool) (k : Nat) : ¬ AtL (bitsD g) k := fun ⟨d, hd, hk⟩ => by
  simp only [bitsD, List.mem_map] at hd
  obtain ⟨j, _, rfl⟩ := hd
  cases hk
theorem bitsD_v (g : Nat → Bool) : ((bitsD g).map Dat.toV).toArray = rowOf 64 fun i => .bool (g i) := by
  simp [bitsD, rowOf, Function.comp_def, Dat.toV]
def k_rBits : Nat := 119
def sg_rBits : Sig := ⟨[(false, [.int .u64])], [(true, (List.replicate 32 ([.bool, .bool])).flatten)], false, false, false, false, false⟩
noncomputable def tr_rBits : Tree := walk E0.cx (sgsN []) 0 119 sg_rBits
theorem wk_rBits : walk E0.cx (sgsN []) 0 119 sg_rBits = tr_rBits := rfl
theorem bo_rBits : ∃ x, bodyOf E0.P 119 = some x := bo_of (by kernel_rfl)
def rBits_s : Spec := fun ds Q => ∃ x : Nat, x < 18446744073709551616 ∧ ds = [.int .u64 x] ∧ Q (bitsD fun i => x.testBit i)
theorem rBits_h : Holds E0 k_rBits sg_rBits rBits_s := holds_calls rfl fun w ds Q hs ⟨x, hx, e, h⟩ => by
  subst e
  refine ⟨_, h, bitsD_has _, bitsD_ok _, bitsD_at _, ?_⟩
  have := Bits_c x hx w
  have e1 : bitRow x 64 = rowOf 64 fun i => .bool (x.testBit i) := rowOf_congr fun i hi => by simp [hi]
  have e2 : retV (groupV sg_rBits.res (bitsD fun i => x.testBit i)) = .agg (bitRow x 64) := by
    rw [e1, ← bitsD_v]
    show Value.agg _ = _
    congr 2
  rw [e2]
  exact this
noncomputable def con_rBits : Con E0 := ⟨k_rBits, sg_rBits, rBits_s, rfl, bo_rBits, rBits_h⟩
def k_rOf : Nat := 142
def sg_rOf : Sig := ⟨[(true, (List.replicate 32 ([.bool, .bool])).flatten)], [(false, [.int .u64])], false, false, false, false, false⟩
noncomputable def tr_rOf : Tree := walk E0.cx (sgsN []) 0 142 sg_rOf
theorem wk_rOf : walk E0.cx (sgsN []) 0 142 sg_rOf = tr_rOf := rfl
theorem bo_rOf : ∃ x, bodyOf E0.P 142 = some x := bo_of (by kernel_rfl)
def rOf_s : Spec := fun ds Q => ∃ g : Nat → Bool, ds = bitsD g ∧ Q [.int .u64 (mth.ofBits g 64 : Nat)]
theorem rOf_h : Holds E0 k_rOf sg_rOf rOf_s := holds_calls rfl fun w ds Q hs ⟨g, e, h⟩ => by
  subst e
  refine ⟨_, h, .cons (.int _ _) .nil, fun w' d hd => by rw [List.mem_singleton.1 hd]; exact .int _ _, fun k ⟨d, hd, hk⟩ => (by rw [List.mem_singleton.1 hd] at hk; cases hk), ?_⟩
  have := Of_c g w
  have e2 : groupV sg_rOf.params (bitsD g) = [.agg (bools g)] := by
    unfold bools
    rw [← bitsD_v]
    show [Value.agg _] = _
    congr 3
  rw [e2]
  exact this
noncomputable def con_rOf : Con E0 := ⟨k_rOf, sg_rOf, rOf_s, rfl, bo_rOf, rOf_h⟩
def k_rSet : Nat := 120
def sg_rSet : Sig := ⟨[(false, [.int .u64]), (false, [.int .i64]), (false, [.bool])], [(false, [.int .u64])], false, false, true, false, false⟩
def tr_rSet : Tree := (.call k_rBits [(.var 0)] [.bool, .bool, .bool, .bool, .bool, .bool, .bool, .bool, .bool, .bool, .bool, .bool, .bool, .bool, .bool, .bool, .bool, .bool, .bool, .bool, .bool, .bool, .bool, .bool, .bool, .bool, .bool, .bool, .bool, .bool, .bool, .bool, .bool, .bool, .bool, .bool, .bool, .bool, .bool, .bool, .bool, .bool, .bool, .bool, .bool, .bool, .bool, .bool, .bool, .bool, .bool, .bool, .bool, .bool, .bool, .bool, .bool, .bool, .bool, .bool, .bool, .bool, .bool, .bool]
(.ob (.or (.not (.and (.cmp .ge (.var 1) (.int .i64 0)) (.cmp .lt (.var 1) (.int .i64 64)))) (.cmp .ge (.var 1) (.int .i64 0)))
(.ob (.or (.not (.and (.cmp .ge (.var 1) (.int .i64 0)) (.cmp .lt (.var 1) (.int .i64 64)))) (.cmp .lt (.var 1) (.int .i64 64)))
(.call k_rOf [(.ite (.and (.cmp .ge (.var 1) (.int .i64 0)) (.cmp .lt (.var 1) (.int .i64 64))) (.ite (.cmp .eq (.var 1) (.int .i64 0)) (.var 2) (.var 3)) (.var 3)), (.ite (.and (.cmp .ge (.var 1) (.int .i64 0)) (.cmp .lt (.var 1) (.int .i64 64))) (.ite (.cmp .eq (.var 1) (.int .i64 1)) (.var 2) (.var 4)) (.var 4)), (.ite (.and (.cmp .ge (.var 1) (.int .i64 0)) (.cmp .lt (.var 1) (.int .i64 64))) (.ite (.cmp .eq (.var 1) (.int .i64 2)) (.var 2) (.var 5)) (.var 5)), (.ite (.and (.cmp .ge (.var 1) (.int .i64 0)) (.cmp .lt (.var 1) (.int .i64 64))) (.ite (.cmp .eq (.var 1) (.int .i64 3)) (.var 2) (.var 6)) (.var 6)), (.ite (.and (.cmp .ge (.var 1) (.int .i64 0)) (.cmp .lt (.var 1) (.int .i64 64))) (.ite (.cmp .eq (.var 1) (.int .i64 4)) (.var 2) (.var 7)) (.var 7)), (.ite (.and (.cmp .ge (.var 1) (.int .i64 0)) (.cmp .lt (.var 1) (.int .i64 64))) (.ite (.cmp .eq (.var 1) (.int .i64 5)) (.var 2) (.var 8)) (.var 8)), (.ite (.and (.cmp .ge (.var 1) (.int .i64 0)) (.cmp .lt (.var 1) (.int .i64 64))) (.ite (.cmp .eq (.var 1) (.int .i64 6)) (.var 2) (.var 9)) (.var 9)), (.ite (.and (.cmp .ge (.var 1) (.int .i64 0)) (.cmp .lt (.var 1) (.int .i64 64))) (.ite (.cmp .eq (.var 1) (.int .i64 7)) (.var 2) (.var 10)) (.var 10)), (.ite (.and (.cmp .ge (.var 1) (.int .i64 0)) (.cmp .lt (.var 1) (.int .i64 64))) (.ite (.cmp .eq (.var 1) (.int .i64 8)) (.var 2) (.var 11)) (.var 11)), (.ite (.and (.cmp .ge (.var 1) (.int .i64 0)) (.cmp .lt (.var 1) (.int .i64 64))) (.ite (.cmp .eq (.var 1) (.int .i64 9)) (.var 2) (.var 12)) (.var 12)), (.ite (.and (.cmp .ge (.var 1) (.int .i64 0)) (.cmp .lt (.var 1) (.int .i64 64))) (.ite (.cmp .eq (.var 1) (.int .i64 10)) (.var 2) (.var 13)) (.var 13)), (.ite (.and (.cmp .ge (.var 1) (.int .i64 0)) (.cmp .lt (.var 1) (.int .i64 64))) (.ite (.cmp .eq (.var 1) (.int .i64 11)) (.var 2) (.var 14)) (.var 14)), (.ite (.and (.cmp .ge (.var 1) (.int .i64 0)) (.cmp .lt (.var 1) (.int .i64 64))) (.ite (.cmp .eq (.var 1) (.int .i64 12)) (.var 2) (.var 15)) (.var 15)), (.ite (.and (.cmp .ge (.var 1) (.int .i64 0)) (.cmp .lt (.var 1) (.int .i64 64))) (.ite (.cmp .eq (.var 1) (.int .i64 13)) (.var 2) (.var 16)) (.var 16)), (.ite (.and (.cmp .ge (.var 1) (.int .i64 0)) (.cmp .lt (.var 1) (.int .i64 64))) (.ite (.cmp .eq (.var 1) (.int .i64 14)) (.var 2) (.var 17)) (.var 17)), (.ite (.and (.cmp .ge (.var 1) (.int .i64 0)) (.cmp .lt (.var 1) (.int .i64 64))) (.ite (.cmp .eq (.var 1) (.int .i64 15)) (.var 2) (.var 18)) (.var 18)), (.ite (.and (.cmp .ge (.var 1) (.int .i64 0)) (.cmp .lt (.var 1) (.int .i64 64))) (.ite (.cmp .eq (.var 1) (.int .i64 16)) (.var 2) (.var 19)) (.var 19)), (.ite (.and (.cmp .ge (.var 1) (.int .i64 0)) (.cmp .lt (.var 1) (.int .i64 64))) (.ite (.cmp .eq (.var 1) (.int .i64 17)) (.var 2) (.var 20)) (.var 20)), (.ite (.and (.cmp .ge (.var 1) (.int .i64 0)) (.cmp .lt (.var 1) (.int .i64 64))) (.ite (.cmp .eq (.var 1) (.int .i64 18)) (.var 2) (.var 21)) (.var 21)), (.ite (.and (.cmp .ge (.var 1) (.int .i64 0)) (.cmp .lt (.var 1) (.int .i64 64))) (.ite (.cmp .eq (.var 1) (.int .i64 19)) (.var 2) (.var 22)) (.var 22)), (.ite (.and (.cmp .ge (.var 1) (.int .i64 0)) (.cmp .lt (.var 1) (.int .i64 64))) (.ite (.cmp .eq (.var 1) (.int .i64 20)) (.var 2) (.var 23)) (.var 23)), (.ite (.and (.cmp .ge (.var 1) (.int .i64 0)) (.cmp .lt (.var 1) (.int .i64 64))) (.ite (.cmp .eq (.var 1) (.int .i64 21)) (.var 2) (.var 24)) (.var 24)), (.ite (.and (.cmp .ge (.var 1) (.int .i64 0)) (.cmp .lt (.var 1) (.int .i64 64))) (.ite (.cmp .eq (.var 1) (.int .i64 22)) (.var 2) (.var 25)) (.var 25)), (.ite (.and (.cmp .ge (.var 1) (.int .i64 0)) (.cmp .lt (.var 1) (.int .i64 64))) (.ite (.cmp .eq (.var 1) (.int .i64 23)) (.var 2) (.var 26)) (.var 26)), (.ite (.and (.cmp .ge (.var 1) (.int .i64 0)) (.cmp .lt (.var 1) (.int .i64 64))) (.ite (.cmp .eq (.var 1) (.int .i64 24)) (.var 2) (.var 27)) (.var 27)), (.ite (.and (.cmp .ge (.var 1) (.int .i64 0)) (.cmp .lt (.var 1) (.int .i64 64))) (.ite (.cmp .eq (.var 1) (.int .i64 25)) (.var 2) (.var 28)) (.var 28)), (.ite (.and (.cmp .ge (.var 1) (.int .i64 0)) (.cmp .lt (.var 1) (.int .i64 64))) (.ite (.cmp .eq (.var 1) (.int .i64 26)) (.var 2) (.var 29)) (.var 29)), (.ite (.and (.cmp .ge (.var 1) (.int .i64 0)) (.cmp .lt (.var 1) (.int .i64 64))) (.ite (.cmp .eq (.var 1) (.int .i64 27)) (.var 2) (.var 30)) (.var 30)), (.ite (.and (.cmp .ge (.var 1) (.int .i64 0)) (.cmp .lt (.var 1) (.int .i64 64))) (.ite (.cmp .eq (.var 1) (.int .i64 28)) (.var 2) (.var 31)) (.var 31)), (.ite (.and (.cmp .ge (.var 1) (.int .i64 0)) (.cmp .lt (.var 1) (.int .i64 64))) (.ite (.cmp .eq (.var 1) (.int .i64 29)) (.var 2) (.var 32)) (.var 32)), (.ite (.and (.cmp .ge (.var 1) (.int .i64 0)) (.cmp .lt (.var 1) (.int .i64 64))) (.ite (.cmp .eq (.var 1) (.int .i64 30)) (.var 2) (.var 33)) (.var 33)), (.ite (.and (.cmp .ge (.var 1) (.int .i64 0)) (.cmp .lt (.var 1) (.int .i64 64))) (.ite (.cmp .eq (.var 1) (.int .i64 31)) (.var 2) (.var 34)) (.var 34)), (.ite (.and (.cmp .ge (.var 1) (.int .i64 0)) (.cmp .lt (.var 1) (.int .i64 64))) (.ite (.cmp .eq (.var 1) (.int .i64 32)) (.var 2) (.var 35)) (.var 35)), (.ite (.and (.cmp .ge (.var 1) (.int .i64 0)) (.cmp .lt (.var 1) (.int .i64 64))) (.ite (.cmp .eq (.var 1) (.int .i64 33)) (.var 2) (.var 36)) (.var 36)), (.ite (.and (.cmp .ge (.var 1) (.int .i64 0)) (.cmp .lt (.var 1) (.int .i64 64))) (.ite (.cmp .eq (.var 1) (.int .i64 34)) (.var 2) (.var 37)) (.var 37)), (.ite (.and (.cmp .ge (.var 1) (.int .i64 0)) (.cmp .lt (.var 1) (.int .i64 64))) (.ite (.cmp .eq (.var 1) (.int .i64 35)) (.var 2) (.var 38)) (.var 38)), (.ite (.and (.cmp .ge (.var 1) (.int .i64 0)) (.cmp .lt (.var 1) (.int .i64 64))) (.ite (.cmp .eq (.var 1) (.int .i64 36)) (.var 2) (.var 39)) (.var 39)), (.ite (.and (.cmp .ge (.var 1) (.int .i64 0)) (.cmp .lt (.var 1) (.int .i64 64))) (.ite (.cmp .eq (.var 1) (.int .i64 37)) (.var 2) (.var 40)) (.var 40)), (.ite (.and (.cmp .ge (.var 1) (.int .i64 0)) (.cmp .lt (.var 1) (.int .i64 64))) (.ite (.cmp .eq (.var 1) (.int .i64 38)) (.var 2) (.var 41)) (.var 41)), (.ite (.and (.cmp .ge (.var 1) (.int .i64 0)) (.cmp .lt (.var 1) (.int .i64 64))) (.ite (.cmp .eq (.var 1) (.int .i64 39)) (.var 2) (.var 42)) (.var 42)), (.ite (.and (.cmp .ge (.var 1) (.int .i64 0)) (.cmp .lt (.var 1) (.int .i64 64))) (.ite (.cmp .eq (.var 1) (.int .i64 40)) (.var 2) (.var 43)) (.var 43)), (.ite (.and (.cmp .ge (.var 1) (.int .i64 0)) (.cmp .lt (.var 1) (.int .i64 64))) (.ite (.cmp .eq (.var 1) (.int .i64 41)) (.var 2) (.var 44)) (.var 44)), (.ite (.and (.cmp .ge (.var 1) (.int .i64 0)) (.cmp .lt (.var 1) (.int .i64 64))) (.ite (.cmp .eq (.var 1) (.int .i64 42)) (.var 2) (.var 45)) (.var 45)), (.ite (.and (.cmp .ge (.var 1) (.int .i64 0)) (.cmp .lt (.var 1) (.int .i64 64))) (.ite (.cmp .eq (.var 1) (.int .i64 43)) (.var 2) (.var 46)) (.var 46)), (.ite (.and (.cmp .ge (.var 1) (.int .i64 0)) (.cmp .lt (.var 1) (.int .i64 64))) (.ite (.cmp .eq (.var 1) (.int .i64 44)) (.var 2) (.var 47)) (.var 47)), (.ite (.and (.cmp .ge (.var 1) (.int .i64 0)) (.cmp .lt (.var 1) (.int .i64 64))) (.ite (.cmp .eq (.var 1) (.int .i64 45)) (.var 2) (.var 48)) (.var 48)), (.ite (.and (.cmp .ge (.var 1) (.int .i64 0)) (.cmp .lt (.var 1) (.int .i64 64))) (.ite (.cmp .eq (.var 1) (.int .i64 46)) (.var 2) (.var 49)) (.var 49)), (.ite (.and (.cmp .ge (.var 1) (.int .i64 0)) (.cmp .lt (.var 1) (.int .i64 64))) (.ite (.cmp .eq (.var 1) (.int .i64 47)) (.var 2) (.var 50)) (.var 50)), (.ite (.and (.cmp .ge (.var 1) (.int .i64 0)) (.cmp .lt (.var 1) (.int .i64 64))) (.ite (.cmp .eq (.var 1) (.int .i64 48)) (.var 2) (.var 51)) (.var 51)), (.ite (.and (.cmp .ge (.var 1) (.int .i64 0)) (.cmp .lt (.var 1) (.int .i64 64))) (.ite (.cmp .eq (.var 1) (.int .i64 49)) (.var 2) (.var 52)) (.var 52)), (.ite (.and (.cmp .ge (.var 1) (.int .i64 0)) (.cmp .lt (.var 1) (.int .i64 64))) (.ite (.cmp .eq (.var 1) (.int .i64 50)) (.var 2) (.var 53)) (.var 53)), (.ite (.and (.cmp .ge (.var 1) (.int .i64 0)) (.cmp .lt (.var 1) (.int .i64 64))) (.ite (.cmp .eq (.var 1) (.int .i64 51)) (.var 2) (.var 54)) (.var 54)), (.ite (.and (.cmp .ge (.var 1) (.int .i64 0)) (.cmp .lt (.var 1) (.int .i64 64))) (.ite (.cmp .eq (.var 1) (.int .i64 52)) (.var 2) (.var 55)) (.var 55)), (.ite (.and (.cmp .ge (.var 1) (.int .i64 0)) (.cmp .lt (.var 1) (.int .i64 64))) (.ite (.cmp .eq (.var 1) (.int .i64 53)) (.var 2) (.var 56)) (.var 56)), (.ite (.and (.cmp .ge (.var 1) (.int .i64 0)) (.cmp .lt (.var 1) (.int .i64 64))) (.ite (.cmp .eq (.var 1) (.int .i64 54)) (.var 2) (.var 57)) (.var 57)), (.ite (.and (.cmp .ge (.var 1) (.int .i64 0)) (.cmp .lt (.var 1) (.int .i64 64))) (.ite (.cmp .eq (.var 1) (.int .i64 55)) (.var 2) (.var 58)) (.var 58)), (.ite (.and (.cmp .ge (.var 1) (.int .i64 0)) (.cmp .lt (.var 1) (.int .i64 64))) (.ite (.cmp .eq (.var 1) (.int .i64 56)) (.var 2) (.var 59)) (.var 59)), (.ite (.and (.cmp .ge (.var 1) (.int .i64 0)) (.cmp .lt (.var 1) (.int .i64 64))) (.ite (.cmp .eq (.var 1) (.int .i64 57)) (.var 2) (.var 60)) (.var 60)), (.ite (.and (.cmp .ge (.var 1) (.int .i64 0)) (.cmp .lt (.var 1) (.int .i64 64))) (.ite (.cmp .eq (.var 1) (.int .i64 58)) (.var 2) (.var 61)) (.var 61)), (.ite (.and (.cmp .ge (.var 1) (.int .i64 0)) (.cmp .lt (.var 1) (.int .i64 64))) (.ite (.cmp .eq (.var 1) (.int .i64 59)) (.var 2) (.var 62)) (.var 62)), (.ite (.and (.cmp .ge (.var 1) (.int .i64 0)) (.cmp .lt (.var 1) (.int .i64 64))) (.ite (.cmp .eq (.var 1) (.int .i64 60)) (.var 2) (.var 63)) (.var 63)), (.ite (.and (.cmp .ge (.var 1) (.int .i64 0)) (.cmp .lt (.var 1) (.int .i64 64))) (.ite (.cmp .eq (.var 1) (.int .i64 61)) (.var 2) (.var 64)) (.var 64)), (.ite (.and (.cmp .ge (.var 1) (.int .i64 0)) (.cmp .lt (.var 1) (.int .i64 64))) (.ite (.cmp .eq (.var 1) (.int .i64 62)) (.var 2) (.var 65)) (.var 65)), (.ite (.and (.cmp .ge (.var 1) (.int .i64 0)) (.cmp .lt (.var 1) (.int .i64 64))) (.ite (.cmp .eq (.var 1) (.int .i64 63)) (.var 2) (.var 66)) (.var 66))] [(.int .u64)]
(.ret [(.var 67)])))))
theorem wk_rSet : walk E0.cx (sgsN [(119, sg_rBits), (142, sg_rOf)]) 0 120 sg_rSet = tr_rSet := by kernel_rfl
theorem bo_rSet : ∃ x, bodyOf E0.P 120 = some x := bo_of (by kernel_rfl)
theorem sp_rSet_rBits : specC [con_rBits, con_rOf] k_rBits = rBits_s := rfl
theorem sp_rSet_rOf : specC [con_rBits, con_rOf] k_rOf = rOf_s := rfl
def setW (x : Nat) (k : Nat) (is : Bool) : Nat := mth.ofBits (fun j => if j = k then is else x.testBit j) 64
def rSet_s : Spec := fun ds Q => ∃ (x k : Nat) (is : Bool), x < 18446744073709551616 ∧ k < 8 ∧ ds = [.int .u64 x, .int .i64 k, .bool is] ∧ Q [.int .u64 (setW x k is : Nat)]
theorem rSet_h : Holds E0 k_rSet sg_rSet rSet_s := con_fn wf0 mix0 g0 [con_rBits, con_rOf] rfl wk_rSet rfl (by
  intro Φ hΦ ds Q hs ⟨x, k, is, hx, hk, e, h⟩
  subst e
  have s1 : Φ k_rBits = rBits_s := by rw [hΦ]; rfl
  have s2 : Φ k_rOf = rOf_s := by rw [hΦ]; rfl
  clear hΦ
  unfold tr_rSet
  simp only [wp, s1, s2, rBits_s, rOf_s]
  refine ⟨x, hx, rfl, ?_⟩
  match k, hk with
  | 0, _ | 1, _ | 2, _ | 3, _ | 4, _ | 5, _ | 6, _ | 7, _ => exact ⟨rfl, rfl, _, rfl, h⟩)
noncomputable def con_rSet : Con E0 := ⟨k_rSet, sg_rSet, rSet_s, rfl, bo_rSet, rSet_h⟩
/-- words with those of a number, or without them, as far as a bit -/
def turnK (w n : Nat) (is : Bool) (k : Nat) : Nat := mth.ofBits (fun j => if (decide (j < k) && n.testBit j) = true then is else w.testBit j) 64
theorem turnK_0 {w n : Nat} {is : Bool} (hw : w < 256) : turnK w n is 0 = w := by
  unfold turnK
  refine Eq.trans (mth.ofBits_congr fun j _ => ?_) (mth.ofBits_testBit w 64 (by omega))
  simp
theorem turnK_lt (w n : Nat) (is : Bool) (k : Nat) : turnK w n is k < 18446744073709551616 := mth.ofBits_lt _ 64
theorem turnK_yes {w n : Nat} {is : Bool} {k : Nat} (h : n.testBit k = true) : turnK w n is (k + 1) = setW (turnK w n is k) k is := by
  unfold setW
  refine mth.ofBits_congr fun j hj => ?_
  rw [turnK, mth.testBit_ofBits]
  simp only [hj, decide_true, Bool.true_and]
  by_cases e : j = k
  · subst e; simp [h]
  · have : decide (j < k + 1) = decide (j < k) := by rw [Bool.eq_iff_iff]; simp; omega
    rw [if_neg e, this]
theorem turnK_no {w n : Nat} {is : Bool} {k : Nat} (h : n.testBit k = false) : turnK w n is (k + 1) = turnK w n is k := by
  unfold turnK
  refine mth.ofBits_congr fun j hj => ?_
  by_cases e : j = k
  · subst e; simp [h]
  · have : decide (j < k + 1) = decide (j < k) := by rw [Bool.eq_iff_iff]; simp; omega
    rw [this]
def k_rturned : Nat := 81
def sg_rturned : Sig := ⟨[(false, [.int .u64]), (false, [.int .i64]), (false, [.bool])], [(false, [.int .u64])], false, false, true, false, false⟩
def tr_rturned : Tree := (.call k_rBits [(.conv .u64 (.var 1))] [.bool, .bool, .bool, .bool, .bool, .bool, .bool, .bool, .bool, .bool, .bool, .bool, .bool, .bool, .bool, .bool, .bool, .bool, .bool, .bool, .bool, .bool, .bool, .bool, .bool, .bool, .bool, .bool, .bool, .bool, .bool, .bool, .bool, .bool, .bool, .bool, .bool, .bool, .bool, .bool, .bool, .bool, .bool, .bool, .bool, .bool, .bool, .bool, .bool, .bool, .bool, .bool, .bool, .bool, .bool, .bool, .bool, .bool, .bool, .bool, .bool, .bool, .bool, .bool]
(.loop [(.var 0), (.int .i64 0)] [(.int .u64), (.int .i64)]
 (.ite (.cmp .lt (.var 68) (.int .i64 8))
  (.ob (.cmp .ge (.var 68) (.int .i64 0))
  (.ite (.sel (.econs (.var 3) (.econs (.var 4) (.econs (.var 5) (.econs (.var 6) (.econs (.var 7) (.econs (.var 8) (.econs (.var 9) (.econs (.var 10) (.econs (.var 11) (.econs (.var 12) (.econs (.var 13) (.econs (.var 14) (.econs (.var 15) (.econs (.var 16) (.econs (.var 17) (.econs (.var 18) (.econs (.var 19) (.econs (.var 20) (.econs (.var 21) (.econs (.var 22) (.econs (.var 23) (.econs (.var 24) (.econs (.var 25) (.econs (.var 26) (.econs (.var 27) (.econs (.var 28) (.econs (.var 29) (.econs (.var 30) (.econs (.var 31) (.econs (.var 32) (.econs (.var 33) (.econs (.var 34) (.econs (.var 35) (.econs (.var 36) (.econs (.var 37) (.econs (.var 38) (.econs (.var 39) (.econs (.var 40) (.econs (.var 41) (.econs (.var 42) (.econs (.var 43) (.econs (.var 44) (.econs (.var 45) (.econs (.var 46) (.econs (.var 47) (.econs (.var 48) (.econs (.var 49) (.econs (.var 50) (.econs (.var 51) (.econs (.var 52) (.econs (.var 53) (.econs (.var 54) (.econs (.var 55) (.econs (.var 56) (.econs (.var 57) (.econs (.var 58) (.econs (.var 59) (.econs (.var 60) (.econs (.var 61) (.econs (.var 62) (.econs (.var 63) (.econs (.var 64) (.econs (.var 65) (.econs (.var 66) .enil)))))))))))))))))))))))))))))))))))))))))))))))))))))))))))))))) (.var 68) .bool)
   (.call k_rSet [(.var 67), (.var 68), (.var 2)] [(.int .u64)]
   (.again 0 [(.var 69), (.ar .add .i64 (.var 68) (.int .i64 1))]))
   (.again 0 [(.var 67), (.ar .add .i64 (.var 68) (.int .i64 1))])))
  (.ret [(.var 67)]))))
theorem wk_rturned : walk E0.cx (sgsN [(119, sg_rBits), (120, sg_rSet)]) 0 81 sg_rturned = tr_rturned := by kernel_rfl
theorem bo_rturned : ∃ x, bodyOf E0.P 81 = some x := bo_of (by kernel_rfl)
theorem sp_rturned_rBits : specC [con_rBits, con_rSet] k_rBits = rBits_s := rfl
theorem sp_rturned_rSet : specC [con_rBits, con_rSet] k_rSet = rSet_s := rfl
def rturned_s : Spec := fun ds Q => ∃ (w n : Nat) (is : Bool), w < 256 ∧ n < 256 ∧ argI ds 0 = w ∧ argI ds 1 = n ∧ ds.getD 2 (.bool false) = .bool is ∧ Q [.int .u64 (turnK w n is 8 : Nat)]
theorem rturned_h : Holds E0 k_rturned sg_rturned rturned_s := con_fn wf0 mix0 g0 [con_rBits, con_rSet] rfl wk_rturned rfl (by
  intro Φ hΦ ds Q hs ⟨w, n, is, hw, hn, e0, e1, e2, h⟩
  obtain rfl : ds = [.int .u64 w, .int .i64 n, .bool is] := by
    cases hs with
    | cons a hs =>
    cases hs with
    | cons b hs =>
    cases hs with
    | cons c hs =>
    cases hs
    cases a
    cases b
    cases c
    have e0' : _ = (w : Int) := e0
    have e1' : _ = (n : Int) := e1
    have e2' := e2
    simp only [argI_c0, argI_c1, toInt_int, List.getD_cons_succ, List.getD_cons_zero, Dat.bool.injEq] at e0' e1' e2'
    rw [e0', e1', e2']
  have s1 : Φ k_rBits = rBits_s := by rw [hΦ]; rfl
  have s2 : Φ k_rSet = rSet_s := by rw [hΦ]; rfl
  clear hΦ
  unfold tr_rturned
  simp only [wp, s1, s2, rBits_s, rSet_s]
  refine ⟨n, by omega, ?_, ?_⟩
  · show [Dat.int .u64 (IntKind.u64.wrap (n : Int))] = _
    rw [IntWalk.u64_in _ (by omega)]
  refine ⟨fun xs m => ∃ k : Nat, k ≤ 8 ∧ m = 8 - k ∧ xs = [.int .u64 (turnK w n is k : Nat), .int .i64 k], ⟨8, 0, by omega, rfl, by rw [turnK_0 hw]; rfl⟩, allS_of fun xs m ⟨k, hk, hm, e⟩ => ?_⟩
  subst e hm
  have next : ∀ q : Nat, q = turnK w n is (k + 1) → k < 8 → ∃ m', m' < 8 - k ∧ ∃ k' : Nat, k' ≤ 8 ∧ m' = 8 - k' ∧ [Dat.int .u64 (q : Int), .int .i64 (IntKind.i64.wrap ((k : Int) + 1))] = [.int .u64 (turnK w n is k' : Nat), .int .i64 k'] := fun q hq hk8 =>
    ⟨8 - (k + 1), by omega, k + 1, by omega, rfl, by rw [hq, wrap64 (by omega) (by omega)]; rfl⟩
  refine ⟨fun hlt => ?_, fun hge => ?_⟩
  · have hk8 : k < 8 := by
      have : decide ((k : Int) < 8) = true := Dat.bool.inj hlt
      have := of_decide_eq_true this
      omega
    refine ⟨?_, ?_⟩
    · show Dat.bool (decide ((k : Int) ≥ 0)) = _
      rw [decide_eq_true (by omega)]
    have hb : ∀ b : Bool, den E0.Δ ([Dat.int .u64 w, .int .i64 n, .bool is] ++ bitsD (fun i => n.testBit i) ++ [.int .u64 (turnK w n is k : Nat), .int .i64 k]) (.sel (.econs (.var 3) (.econs (.var 4) (.econs (.var 5) (.econs (.var 6) (.econs (.var 7) (.econs (.var 8) (.econs (.var 9) (.econs (.var 10) (.econs (.var 11) (.econs (.var 12) (.econs (.var 13) (.econs (.var 14) (.econs (.var 15) (.econs (.var 16) (.econs (.var 17) (.econs (.var 18) (.econs (.var 19) (.econs (.var 20) (.econs (.var 21) (.econs (.var 22) (.econs (.var 23) (.econs (.var 24) (.econs (.var 25) (.econs (.var 26) (.econs (.var 27) (.econs (.var 28) (.econs (.var 29) (.econs (.var 30) (.econs (.var 31) (.econs (.var 32) (.econs (.var 33) (.econs (.var 34) (.econs (.var 35) (.econs (.var 36) (.econs (.var 37) (.econs (.var 38) (.econs (.var 39) (.econs (.var 40) (.econs (.var 41) (.econs (.var 42) (.econs (.var 43) (.econs (.var 44) (.econs (.var 45) (.econs (.var 46) (.econs (.var 47) (.econs (.var 48) (.econs (.var 49) (.econs (.var 50) (.econs (.var 51) (.econs (.var 52) (.econs (.var 53) (.econs (.var 54) (.econs (.var 55) (.econs (.var 56) (.econs (.var 57) (.econs (.var 58) (.econs (.var 59) (.econs (.var 60) (.econs (.var 61) (.econs (.var 62) (.econs (.var 63) (.econs (.var 64) (.econs (.var 65) (.econs (.var 66) (.enil))))))))))))))))))))))))))))))))))))))))))))))))))))))))))))))))) (.var 68) .bool) = .bool b → b = n.testBit k := by
      intro b
      clear hlt next hk
      match k, hk8 with
      | 0, _ => exact fun h1 => (Dat.bool.inj (show Dat.bool (n.testBit 0) = Dat.bool b from h1)).symm
      | 1, _ => exact fun h1 => (Dat.bool.inj (show Dat.bool (n.testBit 1) = Dat.bool b from h1)).symm
      | 2, _ => exact fun h1 => (Dat.bool.inj (show Dat.bool (n.testBit 2) = Dat.bool b from h1)).symm
      | 3, _ => exact fun h1 => (Dat.bool.inj (show Dat.bool (n.testBit 3) = Dat.bool b from h1)).symm
      | 4, _ => exact fun h1 => (Dat.bool.inj (show Dat.bool (n.testBit 4) = Dat.bool b from h1)).symm
      | 5, _ => exact fun h1 => (Dat.bool.inj (show Dat.bool (n.testBit 5) = Dat.bool b from h1)).symm
      | 6, _ => exact fun h1 => (Dat.bool.inj (show Dat.bool (n.testBit 6) = Dat.bool b from h1)).symm
      | 7, _ => exact fun h1 => (Dat.bool.inj (show Dat.bool (n.testBit 7) = Dat.bool b from h1)).symm
    refine ⟨fun hyes => ?_, fun hno => ?_⟩
    · have hb1 := (hb true hyes).symm
      refine ⟨turnK w n is k, k, is, turnK_lt _ _ _ _, hk8, rfl, ?_⟩
      exact next _ (turnK_yes hb1).symm hk8
    · have hb1 := (hb false hno).symm
      exact next _ (turnK_no hb1).symm hk8
  · have hk8 : k = 8 := by
      have : decide ((k : Int) < 8) = false := Dat.bool.inj hge
      have := of_decide_eq_false this
      omega
    subst hk8
    exact h)
noncomputable def con_rturned : Con E0 := ⟨k_rturned, sg_rturned, rturned_s, rfl, bo_rturned, rturned_h⟩
theorem turnK_256 {w n : Nat} {is : Bool} (hw : w < 256) (hn : n < 256) : turnK w n is 8 < 256 := by
  refine Nat.lt_pow_two_of_testBit (n := 8) _ fun i hi => ?_
  unfold turnK
  rw [mth.testBit_ofBits]
  have h1 : w.testBit i = false := Nat.testBit_lt_two_pow (Nat.lt_of_lt_of_le hw (show 2 ^ 8 ≤ 2 ^ i from Nat.pow_le_pow_right (by omega) hi))
  rw [decide_eq_false (show ¬ i < 8 by omega), h1]
  simp
end Go.Proofs.YtelfhmeobfimiaaDoor
end

section
namespace Go.Proofs.YtelfhmeobfimiaaDoor
open Go.RowKit
set_option linter.unusedVariables false
set_option linter.unusedSimpArgs false

/-- does a static reach an object? -/
def inG (S : List Dat) (src g id : Int) : Bool :=
  (g == 0) || (if g = 1 then rowI (obj S id) 2 == rowI (obj S src) 2 else if g = 2 then !(rowI (obj S id) 2 == rowI (obj S src) 2) else (g == 3) && ((rowI (obj S id) 2 == rowI (obj S src) 2) && (src != id)))
def k_rwithin : Nat := 80
def sg_rwithin : Sig := ⟨[(true, [.list 36] ++ List.replicate 11 (.list 3) ++ List.replicate 25 (.int .i64)), (true, List.replicate 5 (.int .i64) ++ [.list 57]), (false, [.int .i64])], [(false, [.bool])], false, false, true, false, false⟩
def tr_rwithin : Tree := (.ob (.cmp .ge (.var 43) (.int .i64 0))
(.ob (.cmp .lt (.var 43) (.len (.var 0)))
(.ob (.cmp .ge (.var 37) (.int .i64 0))
(.ob (.cmp .lt (.var 37) (.len (.var 0)))
(.ret [(.or (.cmp .eq (.var 39) (.int .i64 0)) (.ite (.cmp .eq (.var 39) (.int .i64 1)) (.cmp .eq (.elem (.var 0) (.var 43) 2 (.int .i64)) (.elem (.var 0) (.var 37) 2 (.int .i64))) (.ite (.cmp .eq (.var 39) (.int .i64 2)) (.not (.cmp .eq (.elem (.var 0) (.var 43) 2 (.int .i64)) (.elem (.var 0) (.var 37) 2 (.int .i64)))) (.and (.cmp .eq (.var 39) (.int .i64 3)) (.and (.cmp .eq (.elem (.var 0) (.var 43) 2 (.int .i64)) (.elem (.var 0) (.var 37) 2 (.int .i64))) (.cmp .ne (.var 37) (.var 43)))))))])))))
theorem wk_rwithin : walk E0.cx (sgsN []) 0 80 sg_rwithin = tr_rwithin := by kernel_rfl
theorem bo_rwithin : ∃ x, bodyOf E0.P 80 = some x := bo_of (by kernel_rfl)
def rwithin_s : Spec := fun ds Q => 0 ≤ argI ds 37 ∧ argI ds 37 < (argL ds 0).length ∧ 0 ≤ argI ds 43 ∧ argI ds 43 < (argL ds 0).length ∧ Q [.bool (inG (ds.take 37) (argI ds 37) (argI ds 39) (argI ds 43))]
theorem rwithin_h : Holds E0 k_rwithin sg_rwithin rwithin_s := con_fn wf0 mix0 g0 [] rfl wk_rwithin rfl (by
  intro Φ hΦ ds Q hs ⟨h0, h1, h2, h3, h⟩
  have hl : ds.length = 44 := hs.length.symm
  clear hΦ
  simp only [tr_rwithin, wp, den_int, den_bool, den_nili, den_ar, den_cmp, den_not, den_len, den_elem, den_isnil, den_errI, den_ifc, den_rep, den_push, den_app, den_emp, den_upd, row0_econs, row0_enil, den_and, den_beq, den_nil, toInt_int, toBool_bool, xs_rows, xs_list, dflt_int, dflt_bool, of_eq, of_ne, of_lt, of_le, of_gt, of_ge, of_add, of_sub, of_rem, List.map_cons, List.map_nil, Dat.bool.injEq, decide_eq_true_eq, decide_eq_false_iff_not, Bool.not_eq_true', Bool.not_eq_false', beq_iff_eq, bne_iff_ne, beq_eq_false_iff_ne, bne_eq_false_iff_eq, ne_eq, List.append_assoc, List.cons_append, List.nil_append, allS, @den_var0 E0.Δ ds, den_varA, den_varB, hl, Nat.reduceLT, Nat.reduceLeDiff, Nat.reduceSub, List.getD_cons_zero, List.getD_cons_succ, argL_fold ds, argI_fold ds, List.append_assoc, List.cons_append, List.nil_append, toInt_int, toBool_bool, xs_rows, xs_list, Int.toNat_natCast, Dat.bool.injEq, dflt_int, fold37x (show 37 ≤ ds.length by omega), take_ta (show 37 ≤ ds.length by omega), argI_ta (show 37 ≤ ds.length by omega) 0, argL_ta (i := 0) (show 0 < 37 by omega) (show 37 ≤ ds.length by omega), argI_c0, argI_fold ds, toInt_getD, den_or, den_ite, ite_datb]
  refine ⟨h2, h3, h0, h1, ?_⟩
  unfold inG at h
  rw [obj_t, obj_t] at h
  exact h)
noncomputable def con_rwithin : Con E0 := ⟨k_rwithin, sg_rwithin, rwithin_s, rfl, bo_rwithin, rwithin_h⟩
end Go.Proofs.YtelfhmeobfimiaaDoor
end
