import Derived.Test.YtnhahmgbgocdgaaDoorM16
import Derived.Test.YtnhahmgbgocdgaaDoorM13

set_option linter.unusedVariables false
set_option linter.unusedSimpArgs false

section
namespace Go.Proofs.YtnhahmgbgocdgaaDoor
open Go.RowKit
set_option linter.unusedVariables false
set_option linter.unusedSimpArgs false

theorem encs_all : ∀ l : List Int, encs l = mth.encAll l
  | [] => rfl
  | a :: l => by
    show mth.encI a ++ encs l = _
    rw [encs_all l]; rfl
theorem encs_cons (a : Int) (l : List Int) : encs (a :: l) = mth.encI a ++ encs l := rfl
def rowInts (o : List Dat) : List Int := (List.range 18).map fun c => rowI o c
theorem objOf_back {o : List Dat} {m : Int} (h : objB o m = true) : objOf (headN o) (restN o) = rowInts o := by
  have a := fun f hf => inB_iff ((objB_iff o m).1 h f hf)
  have g1 : (0 : Int) ≤ rowI o 1 ∧ rowI o 1 ≤ 1 := a 1 (by omega)
  have g2 : (0 : Int) ≤ rowI o 2 ∧ rowI o 2 ≤ 1 := a 2 (by omega)
  have g3 : (0 : Int) ≤ rowI o 3 ∧ rowI o 3 ≤ 10 := a 3 (by omega)
  have g4 : (0 : Int) ≤ rowI o 4 ∧ rowI o 4 ≤ 1 := a 4 (by omega)
  have g5 : (0 : Int) ≤ rowI o 5 ∧ rowI o 5 ≤ 1 := a 5 (by omega)
  have g11 : (0 : Int) ≤ rowI o 11 ∧ rowI o 11 ≤ 1 := a 11 (by omega)
  have g13 : (0 : Int) ≤ rowI o 13 ∧ rowI o 13 ≤ 2 := a 13 (by omega)
  have g17 : (0 : Int) ≤ rowI o 17 ∧ rowI o 17 ≤ 3 := a 17 (by omega)
  have g10 : (0 : Int) ≤ rowI o 10 ∧ rowI o 10 ≤ 255 := a 10 (by omega)
  clear a
  have hrow : rowInts o = [rowI o 0, rowI o 1, rowI o 2, rowI o 3, rowI o 4, rowI o 5, rowI o 6, rowI o 7, rowI o 8, rowI o 9, rowI o 10, rowI o 11, rowI o 12, rowI o 13, rowI o 14, rowI o 15, rowI o 16, rowI o 17] := rfl
  rw [hrow]
  unfold objOf headN restN
  simp only [List.getD_cons_zero, List.getD_cons_succ, List.cons.injEq, true_and, and_true]
  refine ⟨?_, ?_, ?_, ?_, ?_, ?_, ?_, ?_, ?_⟩ <;> omega
theorem objN_back {h : Int} {r : List Int} (h0 : 0 ≤ h) (h1 : h < 2097152) (hr : r.length = 9) : objN (intsD (objOf h r)) = h :: r := by
  obtain ⟨a, b, c, d, e, f, g, i, j, rfl⟩ := len9 hr
  unfold objN headN restN
  have e0 : ∀ t, rowI (intsD (objOf h [a, b, c, d, e, f, g, i, j])) t = (objOf h [a, b, c, d, e, f, g, i, j]).getD t 0 := fun t => by
    unfold rowI
    rw [List.getD_eq_getElem?_getD, intsD, List.getElem?_map, List.getD_eq_getElem?_getD]
    cases (objOf h [a, b, c, d, e, f, g, i, j])[t]? <;> rfl
  simp only [e0]
  unfold objOf
  simp only [List.getD_cons_zero, List.getD_cons_succ, List.cons.injEq, and_true]
  omega
/-- many, there and back -/
theorem pMany_back {α β : Type} {f : List Nat → α × List Nat × Int} {enc : β → List Nat} {val : β → α} : ∀ (l : List β) (rest : List Nat), (∀ x ∈ l, ∀ r, f (enc x ++ r) = (val x, r, 0)) → pMany f l.length (l.flatMap enc ++ rest) = (l.map val, rest, 0)
  | [], rest, _ => rfl
  | x :: l, rest, h => by
    have hx := h x (List.mem_cons_self ..) (l.flatMap enc ++ rest)
    rw [List.length_cons, pMany, List.flatMap_cons, List.append_assoc, hx, if_pos rfl, pMany_back l rest fun y hy => h y (List.mem_cons_of_mem _ hy)]
    rfl
theorem preA_ok {α : Type} {o : List α} {r : List α × List Nat × Int} {l : List α} {s : List Nat} (h : preA o r = (l, s, 0)) : r.2.2 = 0 ∧ l = o ++ r.1 ∧ s = r.2.1 := by
  unfold preA at h
  split at h
  · rename_i h0
    cases h
    exact ⟨h0, rfl, rfl⟩
  · rename_i h0
    have := congrArg (·.2.2) h
    exact absurd this h0
theorem pMany_canon {α : Type} {f : List Nat → α × List Nat × Int} {enc : α → List Nat} (hf : ∀ b, bytes b → (f b).2.2 = 0 → enc (f b).1 ++ (f b).2.1 = b) : ∀ (m : Nat) (b : List Nat) (l : List α) (r : List Nat), bytes b → pMany f m b = (l, r, 0) → l.flatMap enc ++ r = b ∧ l.length = m
  | 0, b, l, r, _, h => by cases h; exact ⟨rfl, rfl⟩
  | m + 1, b, l, r, hb, h => by
    rw [pMany] at h
    by_cases h0 : (f b).2.2 = 0
    · rw [if_pos h0] at h
      obtain ⟨k1, k2, k3⟩ := preA_ok h
      have e := hf b hb h0
      have hb2 : bytes (f b).2.1 := fun c hc => hb c (by rw [← e]; exact List.mem_append_right _ hc)
      obtain ⟨i1, i2⟩ := pMany_canon hf m (f b).2.1 (pMany f m (f b).2.1).1 (pMany f m (f b).2.1).2.1 hb2 (by rw [← k1])
      subst k2 k3
      rw [List.singleton_append, List.flatMap_cons, List.append_assoc, i1]
      exact ⟨e, by rw [List.length_cons, i2]⟩
    · rw [if_neg h0] at h
      have := congrArg (·.2.2) h
      exact absurd this h0
theorem tk_encI (n : Int) (hn : okN n) (r : List Nat) : (mth.tk 0 0 (mth.encI n ++ r)).2.2 = 0 ∧ (mth.tk 0 0 (mth.encI n ++ r)).1 = n ∧ (mth.encI n ++ r).drop (mth.tk 0 0 (mth.encI n ++ r)).2.1 = r := by
  rw [mth.tk_enc n r hn.1 hn.2]
  exact ⟨rfl, rfl, List.drop_left⟩
theorem pObj_back {o : List Dat} {m : Int} (h : objB o m = true) (hm : m ≤ 1000) (r : List Nat) : pObj (encs (objN o) ++ r) = (rowInts o, r, 0) := by
  obtain ⟨⟨b1, b2⟩, b3, b4⟩ := objN_ok h hm
  have a := fun f hf => inB_iff ((objB_iff o m).1 h f hf)
  have hlt : headN o < 2097152 := by
    have g1 : (0 : Int) ≤ rowI o 1 ∧ rowI o 1 ≤ 1 := a 1 (by omega)
    have g2 : (0 : Int) ≤ rowI o 2 ∧ rowI o 2 ≤ 1 := a 2 (by omega)
    have g3 : (0 : Int) ≤ rowI o 3 ∧ rowI o 3 ≤ 10 := a 3 (by omega)
    have g4 : (0 : Int) ≤ rowI o 4 ∧ rowI o 4 ≤ 1 := a 4 (by omega)
    have g5 : (0 : Int) ≤ rowI o 5 ∧ rowI o 5 ≤ 1 := a 5 (by omega)
    have g11 : (0 : Int) ≤ rowI o 11 ∧ rowI o 11 ≤ 1 := a 11 (by omega)
    have g13 : (0 : Int) ≤ rowI o 13 ∧ rowI o 13 ≤ 2 := a 13 (by omega)
    have g17 : (0 : Int) ≤ rowI o 17 ∧ rowI o 17 ≤ 3 := a 17 (by omega)
    have g10 : (0 : Int) ≤ rowI o 10 ∧ rowI o 10 ≤ 255 := a 10 (by omega)
    unfold headN
    omega
  have e : encs (objN o) ++ r = mth.encI (headN o) ++ (encs (restN o) ++ r) := by
    show encs (headN o :: restN o) ++ r = _
    rw [encs_cons, List.append_assoc]
  obtain ⟨t1, t2, t3⟩ := tk_encI (headN o) b4 (encs (restN o) ++ r)
  have t9 : mth.tkN 9 (encs (restN o) ++ r) = (restN o, r, 0) := by
    have := mth.tkN_back (restN o) r b3
    rw [← encs_all] at this
    exact this
  rw [e, pObj, if_neg (by simpa using t1), t2, if_neg (by omega), t3, t9, if_neg (by simp), if_neg (by omega), objOf_back h]
theorem tk_canon' {b : List Nat} (hb : bytes b) (h : (mth.tk 0 0 b).2.2 = 0) : b = mth.encI (mth.tk 0 0 b).1 ++ b.drop (mth.tk 0 0 b).2.1 := by
  have := (mth.tk_canon b (mth.tk 0 0 b).1 (mth.tk 0 0 b).2.1 hb (by rw [← h])).1
  rw [← this, List.take_append_drop]
theorem tkN_canon' {m : Nat} {b : List Nat} (hb : bytes b) (h : (mth.tkN m b).2.2 = 0) : encs (mth.tkN m b).1 ++ (mth.tkN m b).2.1 = b ∧ (mth.tkN m b).1.length = m := by
  have := mth.tkN_canon m b (mth.tkN m b).1 (mth.tkN m b).2.1 hb (by rw [← h])
  rw [encs_all]
  exact ⟨this.1, this.2.1⟩
theorem pObj_canon (b : List Nat) (hb : bytes b) (h : (pObj b).2.2 = 0) : encs (objN (intsD (pObj b).1)) ++ (pObj b).2.1 = b := by
  unfold pObj at h ⊢
  by_cases t0 : (mth.tk 0 0 b).2.2 = 0
  case neg => rw [if_pos t0] at h; exact absurd h t0
  rw [if_neg (by simpa using t0)] at h ⊢
  by_cases hr : (mth.tk 0 0 b).1 < 0 ∨ 4294967295 < (mth.tk 0 0 b).1
  · rw [if_pos hr] at h; exact absurd h (by decide)
  rw [if_neg hr] at h ⊢
  by_cases t9 : (mth.tkN 9 (b.drop (mth.tk 0 0 b).2.1)).2.2 = 0
  case neg => rw [if_pos t9] at h; exact absurd h t9
  rw [if_neg (by simpa using t9)] at h ⊢
  by_cases hH : 2097152 ≤ (mth.tk 0 0 b).1
  · rw [if_pos hH] at h; exact absurd h (by decide)
  rw [if_neg hH] at h ⊢
  obtain ⟨c1, c2⟩ := tkN_canon' (bytes_drop hb _) t9
  show encs (objN (intsD (objOf _ _))) ++ (mth.tkN 9 (b.drop (mth.tk 0 0 b).2.1)).2.1 = b
  rw [objN_back (by omega) (by omega) c2, encs_cons, List.append_assoc, c1]
  exact (tk_canon' hb t0).symm
theorem pList_back {l : List Int} (h : ∀ n ∈ l, okN n) (hl : l.length ≤ 400) (r : List Nat) : pList (encs ((l.length : Int) :: l) ++ r) = (l, r, 0) := by
  have := mth.tkL_back l r 400 h (by omega) (by omega)
  rw [encs_cons, encs_all]
  exact this
theorem pList_canon (b : List Nat) (hb : bytes b) (h : (pList b).2.2 = 0) : encs (((pList b).1.length : Int) :: (pList b).1) ++ (pList b).2.1 = b := by
  have := (mth.tkL_canon b 400 (pList b).1 (pList b).2.1 hb (by rw [← h]; rfl)).1
  rw [encs_cons, encs_all]
  exact this
theorem encs_flat {α : Type} (g : α → List Int) : ∀ l : List α, encs (l.flatMap g) = l.flatMap fun x => encs (g x)
  | [] => rfl
  | x :: l => by rw [List.flatMap_cons, encs_app, encs_flat g l, List.flatMap_cons]
def partS (S : List Dat) : Parts := ((argL S 0).map rowInts, (List.range 11).map (lst S), numN S)
theorem numN_len (S : List Dat) : (numN S).length = 25 := by unfold numN; rw [List.length_map, List.length_range]
theorem pState_back {S : List Dat} (h : errP S 0) : pState (encs (numsOf S)) = (partS S, 0) := by
  obtain ⟨h4, hR, hZ⟩ := errP_0 h
  have e : encs (numsOf S) = mth.encI ((argL S 0).length : Int) ++ ((argL S 0).flatMap (fun o => encs (objN o)) ++ ((List.range 11).flatMap (fun z => encs (((lst S z).length : Int) :: lst S z)) ++ (encs (numN S) ++ []))) := by
    show encs (_ :: (_ ++ (listsN S ++ _))) = _
    rw [encs_cons, encs_app, encs_app, encs_flat, List.append_nil]
    unfold listsN
    rw [encs_flat]; rfl
  obtain ⟨t1, t2, t3⟩ := tk_encI ((argL S 0).length : Int) ⟨by omega, by omega⟩ ((argL S 0).flatMap (fun o => encs (objN o)) ++ ((List.range 11).flatMap (fun z => encs (((lst S z).length : Int) :: lst S z)) ++ (encs (numN S) ++ [])))
  have b1 := pMany_back (f := pObj) (enc := fun o => encs (objN o)) (val := rowInts) (argL S 0) ((List.range 11).flatMap (fun z => encs (((lst S z).length : Int) :: lst S z)) ++ (encs (numN S) ++ [])) fun o ho r => pObj_back (hR.1 o ho) (by omega) r
  have b2 := pMany_back (f := pList) (enc := fun z => encs (((lst S z).length : Int) :: lst S z)) (val := lst S) (List.range 11) (encs (numN S) ++ []) fun z hz r => by
    have := lst_small hZ h4 (List.mem_range.1 hz)
    exact pList_back (fun n hn => by have := this.2 n hn; exact ⟨by omega, by omega⟩) this.1 r
  rw [List.length_range] at b2
  have b3 : mth.tkN 25 (encs (numN S) ++ []) = (numN S, [], 0) := by
    have := mth.tkN_back (numN S) [] (fun n hn => by
      obtain ⟨i, hi, rfl⟩ := List.mem_map.1 hn
      exact num_ok hR i (List.mem_range.1 hi))
    rw [numN_len, ← encs_all] at this
    exact this
  rw [e, pState, if_neg (by simpa using t1), t2, if_neg (by omega), if_neg (by omega), t3, Int.toNat_natCast, b1, pObjs, if_neg (by simp), b2, pLists, if_neg (by simp), b3, pNums, if_neg (by simp), if_neg (by simp)]
  rfl
theorem flat_getD : ∀ (l : List (List Int)) (g : List Int → List Int), (List.range l.length).flatMap (fun z => g (l.getD z [])) = l.flatMap g
  | [], _ => rfl
  | x :: l, g => by
    rw [List.length_cons, List.range_succ_eq_map, List.flatMap_cons, List.flatMap_map, List.flatMap_cons, ← flat_getD l g]; rfl
theorem pState_canon {b : List Nat} (hb : bytes b) {T : List Dat} (h : (pState b).2 = 0) (hT : StOf T (pState b).1) : encs (numsOf T) = b := by
  have k0 := tk_canon' hb
  unfold pState at h hT
  by_cases t0 : (mth.tk 0 0 b).2.2 = 0
  case neg => rw [if_pos t0] at h; exact absurd h t0
  have k0 := k0 t0
  rw [if_neg (by simpa using t0)] at h hT
  by_cases n0 : (mth.tk 0 0 b).1 < 0
  · rw [if_pos n0] at h; exact absurd h (by decide)
  rw [if_neg n0] at h hT
  by_cases n4 : 400 < (mth.tk 0 0 b).1
  · rw [if_pos n4] at h; exact absurd h (by decide)
  rw [if_neg n4] at h hT
  have hb1 := bytes_drop hb (mth.tk 0 0 b).2.1
  generalize hr1 : b.drop (mth.tk 0 0 b).2.1 = r1 at *
  unfold pObjs at h hT
  by_cases o0 : (pMany pObj (mth.tk 0 0 b).1.toNat r1).2.2 = 0
  case neg => rw [if_pos o0] at h; exact absurd h o0
  rw [if_neg (by simpa using o0)] at h hT
  obtain ⟨o1, o2⟩ := pMany_canon (f := pObj) (enc := fun o => encs (objN (intsD o))) pObj_canon _ r1 _ (pMany pObj (mth.tk 0 0 b).1.toNat r1).2.1 hb1 (show _ = ((pMany pObj (mth.tk 0 0 b).1.toNat r1).1, _, 0) by rw [← o0])
  generalize (pMany pObj (mth.tk 0 0 b).1.toNat r1).1 = O at *
  generalize (pMany pObj (mth.tk 0 0 b).1.toNat r1).2.1 = r2 at *
  have hb2 : bytes r2 := fun c hc => hb1 c (by rw [← o1]; exact List.mem_append_right _ hc)
  unfold pLists at h hT
  by_cases l0 : (pMany pList 11 r2).2.2 = 0
  case neg => rw [if_pos l0] at h; exact absurd h l0
  rw [if_neg (by simpa using l0)] at h hT
  obtain ⟨l1, l2⟩ := pMany_canon (f := pList) (enc := fun l => encs ((l.length : Int) :: l)) pList_canon _ r2 _ (pMany pList 11 r2).2.1 hb2 (show _ = ((pMany pList 11 r2).1, _, 0) by rw [← l0])
  generalize (pMany pList 11 r2).1 = L at *
  generalize (pMany pList 11 r2).2.1 = r3 at *
  have hb3 : bytes r3 := fun c hc => hb2 c (by rw [← l1]; exact List.mem_append_right _ hc)
  unfold pNums at h hT
  by_cases m0 : (mth.tkN 25 r3).2.2 = 0
  case neg => rw [if_pos m0] at h; exact absurd h m0
  rw [if_neg (by simpa using m0)] at h hT
  obtain ⟨m1, m2⟩ := tkN_canon' hb3 m0
  by_cases m3 : (mth.tkN 25 r3).2.1 = []
  case neg => rw [if_pos m3] at h; exact absurd h (by decide)
  rw [if_neg (by simpa using m3)] at hT
  rw [m3, List.append_nil] at m1
  generalize (mth.tkN 25 r3).1 = C at *
  have e1 : argL T 0 = O.map intsD := hT.objs
  have e2 : listsN T = L.flatMap fun l => (l.length : Int) :: l := by
    unfold listsN
    rw [← flat_getD, l2]
    refine flatMap_eq fun z hz => ?_
    unfold listN
    rw [hT.lst (List.mem_range.1 hz)]
  have e3 : numN T = C := by
    unfold numN
    refine List.ext_getElem (by rw [List.length_map, List.length_range, m2]) fun i h1 h2 => ?_
    rw [List.getElem_map, List.getElem_range]
    have := hT.nums i (by omega)
    rw [this, List.getD_eq_getElem?_getD, List.getElem?_eq_getElem h2]; rfl
  show encs (_ :: ((argL T 0).flatMap objN ++ (listsN T ++ numN T))) = b
  rw [e1, e2, e3, encs_cons, encs_app, encs_app, List.length_map, o2, List.flatMap_map, encs_flat, encs_flat, m1, l1, o1]
  have : (((mth.tk 0 0 b).1.toNat : Nat) : Int) = (mth.tk 0 0 b).1 := by omega
  rw [this]
  exact k0.symm
end Go.Proofs.YtnhahmgbgocdgaaDoor
end

section
namespace Go.Proofs.YtnhahmgbgocdgaaDoor
open Go.RowKit
set_option linter.unusedVariables false
set_option linter.unusedSimpArgs false

def law_s : Spec := fun ds Q => InL ds ∧ Q [.bool true]
def k_lparses : Nat := 4
def sg_lparses : Sig := ⟨[(false, [.list 5])], [(false, [.bool])], false, false, true, false, false⟩
def tr_lparses : Tree := (.call k_alive11 [] [.bool]
(.ite (.not (.var 1))
 (.ret [(.bool false)])
 (.ite (.cmp .gt (.len (.var 0)) (.int .i64 2000))
  (.ret [(.bool true)])
  (.call k_tParse [(.var 0)] [(.list 50), (.list 3), (.list 3), (.list 3), (.list 3), (.list 3), (.list 3), (.list 3), (.list 3), (.list 3), (.list 3), (.list 3), (.int .i64), (.int .i64), (.int .i64), (.int .i64), (.int .i64), (.int .i64), (.int .i64), (.int .i64), (.int .i64), (.int .i64), (.int .i64), (.int .i64), (.int .i64), (.int .i64), (.int .i64), (.int .i64), (.int .i64), (.int .i64), (.int .i64), (.int .i64), (.int .i64), (.int .i64), (.int .i64), (.int .i64), (.int .i64), .err]
  (.call k_rParse [(.var 0)] [(.list 50), (.list 3), (.list 3), (.list 3), (.list 3), (.list 3), (.list 3), (.list 3), (.list 3), (.list 3), (.list 3), (.list 3), (.int .i64), (.int .i64), (.int .i64), (.int .i64), (.int .i64), (.int .i64), (.int .i64), (.int .i64), (.int .i64), (.int .i64), (.int .i64), (.int .i64), (.int .i64), (.int .i64), (.int .i64), (.int .i64), (.int .i64), (.int .i64), (.int .i64), (.int .i64), (.int .i64), (.int .i64), (.int .i64), (.int .i64), (.int .i64), (.int .i64)]
  (.call k_nStates [(.var 2), (.var 3), (.var 4), (.var 5), (.var 6), (.var 7), (.var 8), (.var 9), (.var 10), (.var 11), (.var 12), (.var 13), (.var 14), (.var 15), (.var 16), (.var 17), (.var 18), (.var 19), (.var 20), (.var 21), (.var 22), (.var 23), (.var 24), (.var 25), (.var 26), (.var 27), (.var 28), (.var 29), (.var 30), (.var 31), (.var 32), (.var 33), (.var 34), (.var 35), (.var 36), (.var 37), (.var 38), (.var 40), (.var 41), (.var 42), (.var 43), (.var 44), (.var 45), (.var 46), (.var 47), (.var 48), (.var 49), (.var 50), (.var 51), (.var 52), (.var 53), (.var 54), (.var 55), (.var 56), (.var 57), (.var 58), (.var 59), (.var 60), (.var 61), (.var 62), (.var 63), (.var 64), (.var 65), (.var 66), (.var 67), (.var 68), (.var 69), (.var 70), (.var 71), (.var 72), (.var 73), (.var 74), (.var 75), (.var 76)] [.bool]
  (.ret [(.and (.var 78) (.cmp .eq (.ite (.isnil (.var 39)) (.int .i64 0) (.ite (.cmp .ne (.errI (.var 39)) (.int .i64 0)) (.errI (.var 39)) (.int .i64 (-1)))) (.var 77)))])))))))
theorem wk_lparses : walk E0.cx (sgsN [(6, sg_alive11), (12, sg_tParse), (13, sg_rParse), (11, sg_nStates), (14, sg_Num)]) 0 4 sg_lparses = tr_lparses := by kernel_rfl
theorem bo_lparses : ∃ x, bodyOf E0.P 4 = some x := bo_of (by kernel_rfl)
theorem sp_lparses_alive11 : specC [con_alive11, con_tParse, con_rParse, con_nStates, con_Num] k_alive11 = alive11_s := rfl
theorem sp_lparses_tParse : specC [con_alive11, con_tParse, con_rParse, con_nStates, con_Num] k_tParse = tParse_s := rfl
theorem sp_lparses_rParse : specC [con_alive11, con_tParse, con_rParse, con_nStates, con_Num] k_rParse = rParse_s := rfl
theorem sp_lparses_nStates : specC [con_alive11, con_tParse, con_rParse, con_nStates, con_Num] k_nStates = nStates_s := rfl
theorem sp_lparses_Num : specC [con_alive11, con_tParse, con_rParse, con_nStates, con_Num] k_Num = Num_s := rfl
def k_lback : Nat := 5
def sg_lback : Sig := ⟨[(true, [.list 50] ++ List.replicate 11 (.list 3) ++ List.replicate 25 (.int .i64)), (false, [.list 5])], [(false, [.bool])], false, false, true, false, false⟩
def tr_lback : Tree := (.call k_alive11 [] [.bool] (.ite (.not (.var 38)) (.ret [(.bool false)]) (.call k_Long [(.var 0), (.var 1), (.var 2), (.var 3), (.var 4), (.var 5), (.var 6), (.var 7), (.var 8), (.var 9), (.var 10), (.var 11), (.var 12), (.var 13), (.var 14), (.var 15), (.var 16), (.var 17), (.var 18), (.var 19), (.var 20), (.var 21), (.var 22), (.var 23), (.var 24), (.var 25), (.var 26), (.var 27), (.var 28), (.var 29), (.var 30), (.var 31), (.var 32), (.var 33), (.var 34), (.var 35), (.var 36), (.int .i64 100)] [.bool] (.ite (.or (.var 39) (.cmp .gt (.len (.var 37)) (.int .i64 2000))) (.ret [(.bool true)]) (.call k_tBytes11 [(.var 0), (.var 1), (.var 2), (.var 3), (.var 4), (.var 5), (.var 6), (.var 7), (.var 8), (.var 9), (.var 10), (.var 11), (.var 12), (.var 13), (.var 14), (.var 15), (.var 16), (.var 17), (.var 18), (.var 19), (.var 20), (.var 21), (.var 22), (.var 23), (.var 24), (.var 25), (.var 26), (.var 27), (.var 28), (.var 29), (.var 30), (.var 31), (.var 32), (.var 33), (.var 34), (.var 35), (.var 36)] [(.list 5), .err] (.ite (.isnil (.var 41)) (.call k_tParse [(.var 40)] [(.list 50), (.list 3), (.list 3), (.list 3), (.list 3), (.list 3), (.list 3), (.list 3), (.list 3), (.list 3), (.list 3), (.list 3), (.int .i64), (.int .i64), (.int .i64), (.int .i64), (.int .i64), (.int .i64), (.int .i64), (.int .i64), (.int .i64), (.int .i64), (.int .i64), (.int .i64), (.int .i64), (.int .i64), (.int .i64), (.int .i64), (.int .i64), (.int .i64), (.int .i64), (.int .i64), (.int .i64), (.int .i64), (.int .i64), (.int .i64), (.int .i64), .err] (.ite (.not (.isnil (.var 79))) (.ret [(.bool false)]) (.call k_nStates [(.var 0), (.var 1), (.var 2), (.var 3), (.var 4), (.var 5), (.var 6), (.var 7), (.var 8), (.var 9), (.var 10), (.var 11), (.var 12), (.var 13), (.var 14), (.var 15), (.var 16), (.var 17), (.var 18), (.var 19), (.var 20), (.var 21), (.var 22), (.var 23), (.var 24), (.var 25), (.var 26), (.var 27), (.var 28), (.var 29), (.var 30), (.var 31), (.var 32), (.var 33), (.var 34), (.var 35), (.var 36), (.var 42), (.var 43), (.var 44), (.var 45), (.var 46), (.var 47), (.var 48), (.var 49), (.var 50), (.var 51), (.var 52), (.var 53), (.var 54), (.var 55), (.var 56), (.var 57), (.var 58), (.var 59), (.var 60), (.var 61), (.var 62), (.var 63), (.var 64), (.var 65), (.var 66), (.var 67), (.var 68), (.var 69), (.var 70), (.var 71), (.var 72), (.var 73), (.var 74), (.var 75), (.var 76), (.var 77), (.var 78)] [.bool] (.ite (.not (.var 80)) (.ret [(.bool false)]) (.call k_tParse [(.var 37)] [(.list 50), (.list 3), (.list 3), (.list 3), (.list 3), (.list 3), (.list 3), (.list 3), (.list 3), (.list 3), (.list 3), (.list 3), (.int .i64), (.int .i64), (.int .i64), (.int .i64), (.int .i64), (.int .i64), (.int .i64), (.int .i64), (.int .i64), (.int .i64), (.int .i64), (.int .i64), (.int .i64), (.int .i64), (.int .i64), (.int .i64), (.int .i64), (.int .i64), (.int .i64), (.int .i64), (.int .i64), (.int .i64), (.int .i64), (.int .i64), (.int .i64), .err] (.ite (.not (.isnil (.var 118))) (.call k_nStates [(.var 81), (.var 82), (.var 83), (.var 84), (.var 85), (.var 86), (.var 87), (.var 88), (.var 89), (.var 90), (.var 91), (.var 92), (.var 93), (.var 94), (.var 95), (.var 96), (.var 97), (.var 98), (.var 99), (.var 100), (.var 101), (.var 102), (.var 103), (.var 104), (.var 105), (.var 106), (.var 107), (.var 108), (.var 109), (.var 110), (.var 111), (.var 112), (.var 113), (.var 114), (.var 115), (.var 116), (.var 117), (.nil 50), (.nil 3), (.nil 3), (.nil 3), (.nil 3), (.nil 3), (.nil 3), (.nil 3), (.nil 3), (.nil 3), (.nil 3), (.nil 3), (.int .i64 0), (.int .i64 0), (.int .i64 0), (.int .i64 0), (.int .i64 0), (.int .i64 0), (.int .i64 0), (.int .i64 0), (.int .i64 0), (.int .i64 0), (.int .i64 0), (.int .i64 0), (.int .i64 0), (.int .i64 0), (.int .i64 0), (.int .i64 0), (.int .i64 0), (.int .i64 0), (.int .i64 0), (.int .i64 0), (.int .i64 0), (.int .i64 0), (.int .i64 0), (.int .i64 0), (.int .i64 0)] [.bool] (.ret [(.var 119)])) (.call k_tBytes11 [(.var 81), (.var 82), (.var 83), (.var 84), (.var 85), (.var 86), (.var 87), (.var 88), (.var 89), (.var 90), (.var 91), (.var 92), (.var 93), (.var 94), (.var 95), (.var 96), (.var 97), (.var 98), (.var 99), (.var 100), (.var 101), (.var 102), (.var 103), (.var 104), (.var 105), (.var 106), (.var 107), (.var 108), (.var 109), (.var 110), (.var 111), (.var 112), (.var 113), (.var 114), (.var 115), (.var 116), (.var 117)] [(.list 5), .err] (.ret [(.and (.isnil (.var 120)) (.seq (.sof (.var 119)) (.sof (.var 37))))])))))))) (.call k_tParse [(.var 37)] [(.list 50), (.list 3), (.list 3), (.list 3), (.list 3), (.list 3), (.list 3), (.list 3), (.list 3), (.list 3), (.list 3), (.list 3), (.int .i64), (.int .i64), (.int .i64), (.int .i64), (.int .i64), (.int .i64), (.int .i64), (.int .i64), (.int .i64), (.int .i64), (.int .i64), (.int .i64), (.int .i64), (.int .i64), (.int .i64), (.int .i64), (.int .i64), (.int .i64), (.int .i64), (.int .i64), (.int .i64), (.int .i64), (.int .i64), (.int .i64), (.int .i64), .err] (.ite (.not (.isnil (.var 79))) (.call k_nStates [(.var 42), (.var 43), (.var 44), (.var 45), (.var 46), (.var 47), (.var 48), (.var 49), (.var 50), (.var 51), (.var 52), (.var 53), (.var 54), (.var 55), (.var 56), (.var 57), (.var 58), (.var 59), (.var 60), (.var 61), (.var 62), (.var 63), (.var 64), (.var 65), (.var 66), (.var 67), (.var 68), (.var 69), (.var 70), (.var 71), (.var 72), (.var 73), (.var 74), (.var 75), (.var 76), (.var 77), (.var 78), (.nil 50), (.nil 3), (.nil 3), (.nil 3), (.nil 3), (.nil 3), (.nil 3), (.nil 3), (.nil 3), (.nil 3), (.nil 3), (.nil 3), (.int .i64 0), (.int .i64 0), (.int .i64 0), (.int .i64 0), (.int .i64 0), (.int .i64 0), (.int .i64 0), (.int .i64 0), (.int .i64 0), (.int .i64 0), (.int .i64 0), (.int .i64 0), (.int .i64 0), (.int .i64 0), (.int .i64 0), (.int .i64 0), (.int .i64 0), (.int .i64 0), (.int .i64 0), (.int .i64 0), (.int .i64 0), (.int .i64 0), (.int .i64 0), (.int .i64 0), (.int .i64 0)] [.bool] (.ret [(.var 80)])) (.call k_tBytes11 [(.var 42), (.var 43), (.var 44), (.var 45), (.var 46), (.var 47), (.var 48), (.var 49), (.var 50), (.var 51), (.var 52), (.var 53), (.var 54), (.var 55), (.var 56), (.var 57), (.var 58), (.var 59), (.var 60), (.var 61), (.var 62), (.var 63), (.var 64), (.var 65), (.var 66), (.var 67), (.var 68), (.var 69), (.var 70), (.var 71), (.var 72), (.var 73), (.var 74), (.var 75), (.var 76), (.var 77), (.var 78)] [(.list 5), .err] (.ret [(.and (.isnil (.var 81)) (.seq (.sof (.var 80)) (.sof (.var 37))))]))))))))))
theorem wk_lback : walk E0.cx (sgsN [(6, sg_alive11), (7, sg_Long), (8, sg_tBytes11), (12, sg_tParse), (11, sg_nStates), (10, sg_sameB)]) 0 5 sg_lback = tr_lback := by kernel_rfl
theorem bo_lback : ∃ x, bodyOf E0.P 5 = some x := bo_of (by kernel_rfl)
theorem sp_lback_alive11 : specC [con_alive11, con_Long, con_tBytes11, con_tParse, con_nStates, con_sameB] k_alive11 = alive11_s := rfl
theorem sp_lback_Long : specC [con_alive11, con_Long, con_tBytes11, con_tParse, con_nStates, con_sameB] k_Long = Long_s := rfl
theorem sp_lback_tBytes11 : specC [con_alive11, con_Long, con_tBytes11, con_tParse, con_nStates, con_sameB] k_tBytes11 = tBytes11_s := rfl
theorem sp_lback_tParse : specC [con_alive11, con_Long, con_tBytes11, con_tParse, con_nStates, con_sameB] k_tParse = tParse_s := rfl
theorem sp_lback_nStates : specC [con_alive11, con_Long, con_tBytes11, con_tParse, con_nStates, con_sameB] k_nStates = nStates_s := rfl
theorem sp_lback_sameB : specC [con_alive11, con_Long, con_tBytes11, con_tParse, con_nStates, con_sameB] k_sameB = sameB_s := rfl
end Go.Proofs.YtnhahmgbgocdgaaDoor
end

section
namespace Go.Proofs.YtnhahmgbgocdgaaDoor
open Go.RowKit
set_option linter.unusedVariables false
set_option linter.unusedSimpArgs false

theorem ints_of : ∀ {ss : List Srt} {row : List Dat}, (∀ s ∈ ss, s = .int .i64) → row.length = ss.length → (∀ (c : Nat) (s : Srt) (d : Dat), ss[c]? = some s → row[c]? = some d → Has E0.Δ s d) → ∃ l : List Int, row = intsD l
  | [], row, _, hl, _ => ⟨[], List.length_eq_zero_iff.1 hl⟩
  | s :: ss, [], _, hl, _ => by cases hl
  | s :: ss, d :: row, h1, hl, h2 => by
    obtain ⟨l, rfl⟩ := ints_of (fun x hx => h1 x (List.mem_cons_of_mem _ hx)) (by simpa using hl) fun c s' d' hs hd => h2 (c + 1) s' d' (by simpa using hs) (by simpa using hd)
    have := h2 0 s d rfl rfl
    rw [h1 s (List.mem_cons_self ..)] at this
    cases this with
    | int k n => exact ⟨n :: l, rfl⟩
theorem rowInts_of {l : List Int} (h : l.length = 18) : rowInts (intsD l) = l := by
  match l, h with
  | [a0, a1, a2, a3, a4, a5, a6, a7, a8, a9, a10, a11, a12, a13, a14, a15, a16, a17], _ => rfl
theorem rows18 {d : Dat} (h : Has E0.Δ (.list 50) d) : d.xs = (d.xs.map rowInts).map intsD := by
  cases h with
  | list _ A n c xs hl hh =>
    show xs = _
    rw [List.map_map]
    refine ((List.map_congr_left (g := id) fun row hr => ?_).trans (List.map_id xs)).symm
    have h18 : (E0.Δ.row 50).length = 18 := rfl
    obtain ⟨l, e⟩ := ints_of (ss := E0.Δ.row 50) (by decide) (hl row hr) fun c s d hs hd => hh row hr c s d hs hd
    have hlen : l.length = 18 := by
      have := hl row hr
      rw [e, h18, intsD, List.length_map] at this
      exact this
    show intsD (rowInts row) = row
    rw [e, rowInts_of hlen]
theorem rows1 {d : Dat} (h : Has E0.Δ (.list 3) d) : d.xs = i64R (nums d.xs) := by
  cases h with
  | list _ A n c xs hl hh =>
    show xs = i64R (nums xs)
    unfold i64R nums
    rw [List.map_map]
    refine ((List.map_congr_left (g := id) fun row hr => ?_).trans (List.map_id xs)).symm
    obtain ⟨l, e⟩ := ints_of (ss := E0.Δ.row 3) (by decide) (hl row hr) fun c s d hs hd => hh row hr c s d hs hd
    have hlen : row.length = 1 := hl row hr
    match row, hlen, l, e with
    | [d], _, [n], e => rw [e]; rfl
theorem self_of {S : List Dat} (h0 : Has E0.Δ (.list 50) (S.getD 0 (.bool false))) (hL : ∀ z, z < 11 → Has E0.Δ (.list 3) (S.getD (z + 1) (.bool false))) : StOf S (partS S) := by
  refine ⟨rows18 h0, fun z hz => ?_, fun i hi => ?_⟩
  · have : (partS S).2.1.getD z [] = lst S z := by
      show ((List.range 11).map (lst S)).getD z [] = _
      rw [List.getD_eq_getElem?_getD, List.getElem?_map, List.getElem?_range hz]; rfl
    rw [this]
    exact rows1 (hL z hz)
  · show _ = (numN S).getD i 0
    unfold numN
    rw [List.getD_eq_getElem?_getD, List.getElem?_map, List.getElem?_range hi]; rfl
theorem Parsed.good {l : List Nat} {rs : List Dat} (h : Parsed l rs 0) : errP rs 0 ∧ (pState l).2 = 0 ∧ StOf rs (pState l).1 := by
  rcases h with ⟨h1, h2, _⟩ | ⟨h1, S, h2, h3, h4⟩
  · exact absurd h2.symm h1
  · rcases h4 with ⟨h4, _⟩ | ⟨_, h4⟩
    · exact absurd rfl h4
    · exact ⟨h2.err h4 h3, h1, h4⟩
theorem Parsed.zero {l : List Nat} {rs : List Dat} {e : Int} (h : Parsed l rs e) (he : e ≠ 0) : ZeroS rs := by
  rcases h with ⟨_, _, h⟩ | ⟨_, S, _, _, h4⟩
  · exact h
  · rcases h4 with ⟨_, h4⟩ | ⟨h4, _⟩
    · exact h4
    · exact absurd h4 he
theorem sm_right {S : List Dat} (h : errP S 0) : Sm S := by
  obtain ⟨h4, _, hZ⟩ := errP_0 h
  intro i hi
  cases i with
  | zero => omega
  | succ z =>
    have := (lst_small hZ h4 (show z < 11 by omega)).1
    have h2 : (lst S z).length = (argL S (z + 1)).length := List.length_map _
    omega
theorem sm_zero {S : List Dat} (h : ZeroS S) : Sm S := fun i hi => by rw [h.1 i hi]; exact Nat.zero_le _
theorem Parsed.sm {l : List Nat} {rs : List Dat} {e : Int} (h : Parsed l rs e) : Sm rs := by
  by_cases he : e = 0
  · subst he; exact sm_right h.good.1
  · exact sm_zero (h.zero he)
theorem same_of {rs ss : List Dat} (hr : rs.length = 37) (hs : ss.length = 37) (h0 : argL rs 0 = argL ss 0) (h1 : ∀ z, z < 11 → argL rs (z + 1) = argL ss (z + 1)) (h2 : ∀ i, i < 25 → argI rs (12 + i) = argI ss (12 + i)) : SameS (rs ++ ss) := by
  rw [sameS_iff, List.take_left' hr, List.drop_left' hr, List.take_of_length_le (by omega)]
  exact ⟨by rw [h0], h2, fun k _ c _ => by rw [h0], fun z hz => by unfold lst; rw [h1 z hz]⟩
theorem sm_app {rs ss : List Dat} (hr : rs.length = 37) (h : Sm rs) : Sm (rs ++ ss) := fun i hi => by
  rw [argL_old (by omega)]; exact h i hi
theorem args_at {A B C : List Dat} {a n : Nat} (hA : A.length = a) (hB : B.length = n) : ((List.range' a n).map Tm.var).map (den E0.Δ (A ++ (B ++ C))) = B := by
  have := argsT (ds := A ++ (B ++ C)) (E := []) (a := a) (n := n) (by simp only [List.length_append]; omega)
  rw [List.append_nil] at this
  rw [this, List.drop_left' hA, List.take_left' hB]
theorem den_end {A B : List Dat} {a : Nat} (k : Nat) (hA : A.length = a) : den E0.Δ (A ++ B) (.var (a + k)) = B.getD k (.bool false) := getD_end hA _
theorem num_of (n : Int) {ρ : List Dat} {t : Tm} (h : den E0.Δ ρ t = errV n) : den E0.Δ ρ (.ite (.isnil t) (.int .i64 0) (.ite (.cmp .ne (.errI t) (.int .i64 0)) (.errI t) (.int .i64 (-1)))) = .int .i64 n := by
  simp only [den_ite, den, h, errV_nil]
  by_cases h0 : n = 0
  · subst h0; rfl
  · rw [decide_eq_false h0]
    simp [errV, h0, errN]
    have hc : (Dat.bool (Cmp.ne.of (Dat.int .i64 n).toInt (Dat.int .i64 0).toInt)).toBool = true := by
      show (n != 0) = true
      simpa using h0
    rw [if_neg (show ¬ ((Dat.bool false).toBool = true) by decide), if_pos hc]
def lparses_s : Spec := law_s
theorem lparses_h : Holds E0 k_lparses sg_lparses lparses_s := con_fn wf0 mix0 g0 [con_alive11, con_tParse, con_rParse, con_nStates, con_Num] rfl wk_lparses rfl (by
  intro Φ hΦ ds Q hs ⟨hin, h⟩
  have hl : ds.length = 1 := hs.length.symm
  have s1 : Φ k_alive11 = alive11_s := by rw [hΦ]; rfl
  have s2 : Φ k_tParse = tParse_s := by rw [hΦ]; rfl
  have s3 : Φ k_rParse = rParse_s := by rw [hΦ]; rfl
  have s4 : Φ k_nStates = nStates_s := by rw [hΦ]; rfl
  clear hΦ
  obtain ⟨x, rfl⟩ := List.length_eq_one_iff.1 hl
  obtain ⟨l, e1, e2, e3⟩ := byte_has (all2_get hs (i := 0) rfl) (hin x (List.mem_cons_self ..))
  have e1 : x.xs = u8R l := e1
  clear hs hin
  unfold tr_lparses
  refine wp_callE (args := []) rfl ?_
  rw [s1]
  show wp E0.Δ Φ Q _ [x, .bool true] []
  refine wp_no rfl ?_
  refine wp_two (v := decide ((2000 : Int) < (x.xs.length : Int))) rfl (fun _ => h) fun hlen => ?_
  have hlen : l.length ≤ 2000 := by
    have := of_decide_eq_false hlen
    rw [e1, u8R_len] at this
    omega
  refine wp_callE (args := [x]) rfl ?_
  rw [s2]
  refine ⟨l, e1, e2, by omega, fun rs e hrs hp => ?_⟩
  refine wp_callE (args := [x]) rfl ?_
  rw [s3]
  refine ⟨l, e1, e2, by omega, fun ss f hss hq => ?_⟩
  obtain ⟨k1, k2, k3, k4⟩ := hp.same hq
  subst k1
  have env : [x, Dat.bool true] ++ (rs ++ [errV e]) ++ (ss ++ [.int .i64 e]) = [x, Dat.bool true] ++ (rs ++ ([errV e] ++ (ss ++ [.int .i64 e]))) := by simp only [List.append_assoc]
  have env2 : [x, Dat.bool true] ++ (rs ++ ([errV e] ++ (ss ++ [.int .i64 e]))) = ([x, Dat.bool true] ++ rs ++ [errV e]) ++ (ss ++ [.int .i64 e]) := by simp only [List.append_assoc]
  have hA : ([x, Dat.bool true] ++ rs ++ [errV e]).length = 40 := by simp only [List.length_append, hrs, List.length_cons, List.length_nil]
  refine wp_callE (args := rs ++ ss) ?_ ?_
  · show ((List.range' 2 37).map Tm.var ++ (List.range' 40 37).map Tm.var).map (den E0.Δ _) = _
    rw [List.map_append, env, args_at (a := 2) (n := 37) (A := [x, Dat.bool true]) rfl hrs, env2, args_at hA hss]
  rw [s4]
  have hdr : (rs ++ ss).drop 37 = ss := List.drop_left' hrs
  refine ⟨sm_app hrs hp.sm, by rw [hdr]; exact hq.sm, fun b hb => ?_⟩
  obtain rfl : b = true := hb.2 (same_of hrs hss k2 k3 k4)
  rw [env, env2]
  have hB : ([x, Dat.bool true] ++ rs).length = 39 := by simp only [List.length_append, hrs, List.length_cons, List.length_nil]
  have env3 : ([x, Dat.bool true] ++ rs ++ [errV e]) ++ (ss ++ [.int .i64 e]) ++ [Dat.bool true] = ([x, Dat.bool true] ++ rs) ++ ([errV e] ++ (ss ++ ([Dat.int .i64 e, Dat.bool true]))) := by simp only [List.append_assoc, List.cons_append, List.nil_append]
  rw [env3]
  have d39 := den_end (A := [x, Dat.bool true] ++ rs) (B := [errV e] ++ (ss ++ ([Dat.int .i64 e, Dat.bool true]))) 0 hB
  have d77 := den_end (A := [x, Dat.bool true] ++ rs) (B := [errV e] ++ (ss ++ ([Dat.int .i64 e, Dat.bool true]))) 38 hB
  have d78 := den_end (A := [x, Dat.bool true] ++ rs) (B := [errV e] ++ (ss ++ ([Dat.int .i64 e, Dat.bool true]))) 39 hB
  have f77 : ([errV e] ++ (ss ++ ([Dat.int .i64 e, Dat.bool true]))).getD 38 (.bool false) = .int .i64 e := getD_end (ρ := ss) (k := 0) hss _
  have f78 : ([errV e] ++ (ss ++ ([Dat.int .i64 e, Dat.bool true]))).getD 39 (.bool false) = .bool true := getD_end (ρ := ss) (k := 1) hss _
  rw [f77] at d77
  rw [f78] at d78
  have hn := num_of e d39
  generalize ([x, Dat.bool true] ++ rs) ++ ([errV e] ++ (ss ++ ([Dat.int .i64 e, Dat.bool true]))) = ρ at *
  show Q [Dat.bool ((den E0.Δ ρ (.var 78)).toBool && (den E0.Δ ρ (.cmp .eq (.ite (.isnil (.var 39)) (.int .i64 0) (.ite (.cmp .ne (.errI (.var 39)) (.int .i64 0)) (.errI (.var 39)) (.int .i64 (-1)))) (.var 77))).toBool)]
  have hc : den E0.Δ ρ (.cmp .eq (.ite (.isnil (.var 39)) (.int .i64 0) (.ite (.cmp .ne (.errI (.var 39)) (.int .i64 0)) (.errI (.var 39)) (.int .i64 (-1)))) (.var 77)) = .bool true := by
    show Dat.bool (Cmp.eq.of (den E0.Δ ρ (.ite (.isnil (.var 39)) (.int .i64 0) (.ite (.cmp .ne (.errI (.var 39)) (.int .i64 0)) (.errI (.var 39)) (.int .i64 (-1))))).toInt (den E0.Δ ρ (.var 77)).toInt) = _
    rw [hn, show den E0.Δ ρ (.var 77) = .int .i64 e from d77]
    exact congrArg Dat.bool (beq_self_eq_true _)
  rw [hc, show den E0.Δ ρ (.var 78) = .bool true from d78]
  exact h)
noncomputable def con_lparses : Con E0 := ⟨k_lparses, sg_lparses, lparses_s, rfl, bo_lparses, lparses_h⟩
end Go.Proofs.YtnhahmgbgocdgaaDoor
end
