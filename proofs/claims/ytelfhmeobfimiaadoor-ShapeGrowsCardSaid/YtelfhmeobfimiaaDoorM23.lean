import Derived.Test.YtelfhmeobfimiaaDoorM16
import Derived.Test.YtelfhmeobfimiaaDoorM19
import Derived.Test.YtelfhmeobfimiaaDoorM17

section
namespace Go.Proofs.YtelfhmeobfimiaaDoor
open Go.RowKit
set_option linter.unusedVariables false
set_option linter.unusedSimpArgs false

theorem getD_set {α : Type} {l : List α} {i j : Nat} {a d : α} (h : i < l.length) : (l.set i a).getD j d = if j = i then a else l.getD j d := by
  rw [List.getD_eq_getElem?_getD, List.getD_eq_getElem?_getD, List.getElem?_set]
  by_cases e : i = j
  · subst e
    rw [if_pos rfl, if_pos rfl, if_pos h]; rfl
  · rw [if_neg e, if_neg (Ne.symm e)]
theorem rowI_set {o : List Dat} {c : Nat} {n : Int} (h : 7 < o.length) : rowI (o.set 7 (.int .i64 n)) c = if c = 7 then n else rowI o c := by
  unfold rowI
  rw [getD_set h]
  split <;> rfl
/-- the same state, but for a counter more -/
structure Grown (S T : List Dat) (id : Int) : Prop where
  at0 : 0 ≤ id
  atn : id < (argL S 0).length
  row : 7 < (obj S id).length
  objs : argL T 0 = (argL S 0).set id.toNat ((obj S id).set 7 (.int .i64 (oI S id 7 + 1)))
  lists : ∀ z, z < 11 → argL T (z + 1) = argL S (z + 1)
  nums : ∀ i, 12 ≤ i → i < 37 → argI T i = argI S i
theorem stepP_add (S : List Dat) (id : Int) (d : Int) : ∀ (l : List (Int × Stc)) (a : Int × Int), l.foldl (stepP S id) (a.1 + d, a.2 + d) = ((l.foldl (stepP S id) a).1 + d, (l.foldl (stepP S id) a).2 + d)
  | [], a => rfl
  | y :: l, a => by
    rw [List.foldl_cons, List.foldl_cons, ← stepP_add S id d l]
    congr 1
    unfold stepP
    split
    · split
      · simp only [Prod.mk.injEq]; omega
      · rfl
    · rfl
section
variable {S T : List Dat} {id : Int} (g : Grown S T id)
include g
theorem gr_len : (argL T 0).length = (argL S 0).length := by rw [g.objs, List.length_set]
theorem gr_obj (k : Int) : obj T k = if k.toNat = id.toNat then (obj S id).set 7 (.int .i64 (oI S id 7 + 1)) else obj S k := by
  have := g.at0
  have := g.atn
  show (argL T 0).getD k.toNat [] = _
  rw [g.objs, getD_set (by omega)]
  rfl
theorem gr_at (k : Int) (c : Nat) (hc : c ≠ 7) : rowI (obj T k) c = rowI (obj S k) c := by
  rw [(gr_obj g)]
  split
  · rename_i e
    rw [rowI_set g.row, if_neg hc]
    unfold obj
    rw [e]
  · rfl
theorem gr_seven (k : Int) (h0 : 0 ≤ k) : oI T k 7 = if k = id then oI S id 7 + 1 else oI S k 7 := by
  have := g.at0
  unfold oI
  rw [(gr_obj g)]
  by_cases e : k = id
  · rw [if_pos (by rw [e]), if_pos e, rowI_set g.row, if_pos rfl]; rfl
  · rw [if_neg (by omega), if_neg e]
theorem gr_lst (z : Nat) (hz : z < 11) : lst T z = lst S z := by
  unfold lst
  rw [g.lists z hz]
theorem gr_ids : ∀ z, z ≤ 11 → ids T z = ids S z
  | 0, _ => rfl
  | z + 1, h => by
    show ids T z ++ idz T z = ids S z ++ idz S z
    unfold idz
    rw [gr_ids z (by omega), (gr_lst g) z (by omega)]
theorem gr_mem {o : List Dat} (h : o ∈ argL T 0) : o ∈ argL S 0 ∨ o = (obj S id).set 7 (.int .i64 (oI S id 7 + 1)) := by
  rw [g.objs] at h
  exact List.mem_or_eq_of_mem_set h
theorem gr_card (k : Int) : cardI T k = cardI S k := (gr_at g) k 0 (by decide)
theorem gr_isC (k : Int) : isC T k = isC S k := by
  unfold isC
  rw [(gr_len g), (gr_card g), (gr_at g) k 3 (by decide)]
theorem gr_inG (src w k : Int) : inG T src w k = inG S src w k := by
  unfold inG
  rw [(gr_at g) k 2 (by decide), (gr_at g) src 2 (by decide)]
theorem gr_stcs : stcs T = stcs S := by
  unfold stcs
  rw [(gr_lst g) 8 (by decide)]
  refine congrArg (fun f => (lst S 8).flatMap f) (funext fun x => ?_)
  rw [(gr_card g)]
theorem gr_stepB (k : Int) : stepB T k = stepB S k := by
  funext a y
  unfold stepB
  rw [(gr_inG g)]
theorem gr_stepP (k : Int) : stepP T k = stepP S k := by
  funext a y
  unfold stepP
  rw [(gr_inG g)]
theorem gr_stepW (k : Int) : stepW T k = stepW S k := by
  funext a y
  unfold stepW
  rw [(gr_inG g)]
theorem gr_beR (k : Int) : beR T k = beR S k := by
  unfold beR bK
  rw [(gr_stcs g), (gr_stepB g), (gr_card g)]
theorem gr_woR (k : Int) : woR T k = woR S k := by
  unfold woR wK
  rw [(gr_stcs g), (gr_stepW g), (gr_card g)]
  unfold oI
  rw [(gr_at g) k 10 (by decide)]
theorem gr_puR (k : Int) (h0 : 0 ≤ k) : puR T k = if k = id then ((puR S k).1 + 1, (puR S k).2 + 1) else puR S k := by
  unfold puR pK
  rw [(gr_stcs g), (gr_stepP g), (gr_beR g), (gr_seven g) k h0]
  by_cases e : k = id
  · subst e
    rw [if_pos rfl, if_pos rfl, ← stepP_add S k 1]
    congr 1
    simp only [Prod.mk.injEq]
    omega
  · rw [if_neg e, if_neg e]
theorem gr_err (h : errP S 0) (hC : isC S id = true) (h7 : oI S id 7 ≤ 1000) : errP T 0 := by
  have hin := obj_mem g.at0 g.atn
  have hz : rowI (obj S id) 3 = 8 := by
    unfold isC at hC
    simp only [Bool.and_eq_true, beq_iff_eq] at hC
    exact hC.1.2
  have hrow : ∀ c, c ≠ 7 → rowI ((obj S id).set 7 (.int .i64 (oI S id 7 + 1))) c = rowI (obj S id) c := fun c hc => by rw [rowI_set g.row, if_neg hc]
  have hrow7 : rowI ((obj S id).set 7 (.int .i64 (oI S id 7 + 1))) 7 = oI S id 7 + 1 := by rw [rowI_set g.row, if_pos rfl]
  have hn : ∀ i, 12 ≤ i → i < 37 → argI T i = argI S i := g.nums
  unfold errP at h ⊢
  rw [(gr_len g)]
  split at h
  · exact absurd h (by decide)
  · rename_i h4
    rw [if_neg h4]
    refine .inr (.inr (.inr ?_))
    rcases h with h | h | h | h
    · exact absurd h.2 (by decide)
    · exact absurd h.2.2 (by decide)
    · exact absurd h.2.2.2 (by decide)
    · obtain ⟨hR, hZ, hF, _⟩ := h
      refine ⟨⟨fun o ho => ?_, ?_, ?_⟩, ⟨fun p hp => ?_, ?_, ?_⟩, fun o ho => ?_, rfl⟩
      · rw [(gr_len g)]
        rcases (gr_mem g) ho with ho | rfl
        · exact hR.1 o ho
        · rw [objB_iff]
          intro f hf
          have hf2 := (objB_iff _ _).1 (hR.1 _ hin) f hf
          by_cases e : f = 7
          · subst e
            rw [hrow7]
            have h1 := inB_iff hf2
            have h2 : (0 : Int) ≤ rowI (obj S id) 7 := h1.1
            unfold oI at h7 ⊢
            show inB _ 0 1073741824 = true
            unfold inB
            rw [decide_eq_true (by omega), decide_eq_true (by omega)]; rfl
          · rw [hrow f e]; exact hf2
      · intro i hi
        have e : ∀ c, c < 9 → pl T (9 * i + c) = pl S (9 * i + c) := fun c hc => hn _ (by omega) (by omega)
        obtain ⟨q0, q7, q8, qk⟩ := hR.2.1 i hi
        have e0 := e 0 (by omega)
        rw [Nat.add_zero] at e0
        rw [e0, e 7 (by omega), e 8 (by omega)]
        exact ⟨q0, q7, q8, fun k h1 h2 => by rw [e k (by omega)]; exact qk k h1 h2⟩
      · have e : ∀ c, c < 7 → gm T c = gm S c := fun c hc => hn _ (by omega) (by omega)
        have := hR.2.2
        unfold gmP at this ⊢
        rw [e 0 (by omega), e 1 (by omega), e 2 (by omega), e 3 (by omega), e 4 (by omega), e 5 (by omega), e 6 (by omega)]
        exact this
      · rw [(gr_ids g) 11 (by omega)] at hp
        obtain ⟨p0, p1, p2, p3⟩ := hZ.1 p hp
        refine ⟨p0, by rw [(gr_len g)]; exact p1, by rw [(gr_at g) _ 3 (by decide)]; exact p2, ?_⟩
        unfold standsP at p3 ⊢
        rw [(gr_at g) _ 1 (by decide), (gr_at g) _ 13 (by decide)]
        exact p3
      · rw [(gr_ids g) 11 (by omega)]; exact hZ.2.1
      · rw [(gr_ids g) 11 (by omega), (gr_len g)]; exact hZ.2.2
      · rcases (gr_mem g) ho with ho | rfl
        · exact hF o ho
        · have := hF _ hin
          unfold formedP at this ⊢
          rw [hrow 3 (by decide), hrow 2 (by decide), hrow 1 (by decide), hrow 16 (by decide)]
          exact ⟨fun hx => absurd hz hx, this.2⟩
theorem gr_sm (h : Sm S) : Sm T := fun i hi => by
  match i with
  | 0 => rw [(gr_len g)]; exact h 0 hi
  | i + 1 => rw [g.lists i (by omega)]; exact h _ hi
end
end Go.Proofs.YtelfhmeobfimiaaDoor
end

section
namespace Go.Proofs.YtelfhmeobfimiaaDoor
open Go.RowKit
set_option linter.unusedVariables false
set_option linter.unusedSimpArgs false

/-! lists that are copied, one after the other -/
def I1 (ds : List Dat) : Inv := fun xs m => ∃ z : Nat, z ≤ 11 ∧ m = 11 - z ∧ xs.length = 12 ∧ xs.getD 0 (.bool false) = .int .i64 z ∧ (∀ y, y < z → (xs.getD (y + 1) (.bool false)).xs = argL ds (y + 1)) ∧ ∀ y, z ≤ y → y < 11 → xs.getD (y + 1) (.bool false) = ds.getD (y + 1) (.bool false)
theorem ites11 {z : Nat} (hz : z < 11) (n d0 d1 d2 d3 d4 d5 d6 d7 d8 d9 d10 : Dat) : [if (z : Int) = 0 then n else d0, if (z : Int) = 1 then n else d1, if (z : Int) = 2 then n else d2, if (z : Int) = 3 then n else d3, if (z : Int) = 4 then n else d4, if (z : Int) = 5 then n else d5, if (z : Int) = 6 then n else d6, if (z : Int) = 7 then n else d7, if (z : Int) = 8 then n else d8, if (z : Int) = 9 then n else d9, if (z : Int) = 10 then n else d10] = [d0, d1, d2, d3, d4, d5, d6, d7, d8, d9, d10].set z n := by
  match z, hz with
  | 0, _ | 1, _ | 2, _ | 3, _ | 4, _ | 5, _ | 6, _ | 7, _ | 8, _ | 9, _ | 10, _ => rfl
theorem getD_any {α : Type} {l : List α} {i : Nat} (h : i < l.length) (a b : α) : l.getD i a = l.getD i b := by
  rw [List.getD_eq_getElem?_getD, List.getD_eq_getElem?_getD, List.getElem?_eq_getElem h]; rfl
theorem I1_step {ds l : List Dat} {z m : Nat} {n : Dat} (h : I1 ds (.int .i64 z :: l) m) (hz : z < 11) (hn : n.xs = argL ds (z + 1)) : I1 ds (.int .i64 (IntKind.i64.wrap ((z : Int) + 1)) :: l.set z n) (11 - (z + 1)) := by
  obtain ⟨z', h1, rfl, h2, h3, h4, h5⟩ := h
  have e : z' = z := by
    have h3 : Dat.int .i64 z = .int .i64 z' := h3
    cases h3; rfl
  subst e
  have hl : l.length = 11 := by simpa using h2
  refine ⟨z' + 1, by omega, rfl, by simpa using h2, by rw [wrap64 (by omega) (by omega)]; rfl, fun y hy => ?_, fun y hy1 hy2 => ?_⟩
  · by_cases hyz : y = z'
    · subst hyz
      rw [List.getD_cons_succ, List.getD_eq_getElem?_getD, List.getElem?_set_self (by omega)]; exact hn
    · have := h4 y (by omega)
      rw [List.getD_cons_succ] at this ⊢
      rw [List.getD_eq_getElem?_getD, List.getElem?_set_ne (by omega), ← List.getD_eq_getElem?_getD]; exact this
  · have := h5 y (by omega) hy2
    rw [List.getD_cons_succ] at this ⊢
    rw [List.getD_eq_getElem?_getD, List.getElem?_set_ne (by omega), ← List.getD_eq_getElem?_getD]; exact this
theorem I1_sel {ds l : List Dat} {z m : Nat} (h : I1 ds (.int .i64 z :: l) m) (hz : z < 11) (x : Dat) : l.getD z x = ds.getD (z + 1) (.bool false) := by
  obtain ⟨z', h1, rfl, h2, h3, h4, h5⟩ := h
  have e : z' = z := by
    have h3 : Dat.int .i64 z = .int .i64 z' := h3
    cases h3; rfl
  subst e
  have := h5 z' (Nat.le_refl _) hz
  rw [List.getD_cons_succ] at this
  rw [← this]; exact getD_any (by have : l.length = 11 := by simpa using h2
                                  omega) _ _
theorem obj_len {d : Dat} (h : Has E0.Δ (.list 36) d) : ∀ r ∈ d.xs, r.length = 18 := by
  cases h with
  | list _ A n c xs hl _ => exact fun r hr => hl r hr
theorem lendW1 {Δ : Tab} {ρ : List Dat} {r : Nat} {t : Tm} {p : List Dat → Prop} (h : ∀ x0 : Dat, x0.xs = (den Δ ρ t).xs → p [x0]) : lendW Δ ρ [(r, t)] p := fun A c => h _ rfl
theorem grown_of {ds : List Dat} {id : Int} {x0 d0 d1 d2 d3 d4 d5 d6 d7 d8 d9 d10 y : Dat} (hl : 37 ≤ ds.length) (i0 : 0 ≤ id) (i1 : id < (argL (ds.take 37) 0).length) (hr : 7 < (obj (ds.take 37) id).length)
    (hx : x0.xs = (argL (ds.take 37) 0).set id.toNat ((obj (ds.take 37) id).set 7 (.int .i64 (oI (ds.take 37) id 7 + 1))))
    (hd : ∀ z, z < 11 → ([d0, d1, d2, d3, d4, d5, d6, d7, d8, d9, d10].getD z (.bool false)).xs = argL ds (z + 1)) : Grown (ds.take 37) (List.take 37 [x0, d0, d1, d2, d3, d4, d5, d6, d7, d8, d9, d10, ds.getD 12 (.bool false), ds.getD 13 (.bool false), ds.getD 14 (.bool false), ds.getD 15 (.bool false), ds.getD 16 (.bool false), ds.getD 17 (.bool false), ds.getD 18 (.bool false), ds.getD 19 (.bool false), ds.getD 20 (.bool false), ds.getD 21 (.bool false), ds.getD 22 (.bool false), ds.getD 23 (.bool false), ds.getD 24 (.bool false), ds.getD 25 (.bool false), ds.getD 26 (.bool false), ds.getD 27 (.bool false), ds.getD 28 (.bool false), ds.getD 29 (.bool false), ds.getD 30 (.bool false), ds.getD 31 (.bool false), ds.getD 32 (.bool false), ds.getD 33 (.bool false), ds.getD 34 (.bool false), ds.getD 35 (.bool false), ds.getD 36 (.bool false), y]) id :=
  ⟨i0, i1, hr, hx, fun z hz => by
    rw [show argL (ds.take 37) (z + 1) = argL ds (z + 1) from argL_t (by omega), ← hd z hz]
    match z, hz with
    | 0, _ | 1, _ | 2, _ | 3, _ | 4, _ | 5, _ | 6, _ | 7, _ | 8, _ | 9, _ | 10, _ => rfl, fun i h1 h2 => by
    have e : argI (ds.take 37) i = (ds.getD i (.bool false)).toInt := by
      unfold argI
      rw [List.getD_eq_getElem?_getD, List.getElem?_take, if_pos h2, ← List.getD_eq_getElem?_getD, getD_any (show i < ds.length by omega) _ (.bool false)]
    rw [e]
    match i, h1, h2 with
    | 12, _, _ => rfl
    | 13, _, _ => rfl
    | 14, _, _ => rfl
    | 15, _, _ => rfl
    | 16, _, _ => rfl
    | 17, _, _ => rfl
    | 18, _, _ => rfl
    | 19, _, _ => rfl
    | 20, _, _ => rfl
    | 21, _, _ => rfl
    | 22, _, _ => rfl
    | 23, _, _ => rfl
    | 24, _, _ => rfl
    | 25, _, _ => rfl
    | 26, _, _ => rfl
    | 27, _, _ => rfl
    | 28, _, _ => rfl
    | 29, _, _ => rfl
    | 30, _, _ => rfl
    | 31, _, _ => rfl
    | 32, _, _ => rfl
    | 33, _, _ => rfl
    | 34, _, _ => rfl
    | 35, _, _ => rfl
    | 36, _, _ => rfl
    | i + 37, _, h => exact absurd h (by omega)
    | 0, h, _ | 1, h, _ | 2, h, _ | 3, h, _ | 4, h, _ | 5, h, _ | 6, h, _ | 7, h, _ | 8, h, _ | 9, h, _ | 10, h, _ | 11, h, _ => exact absurd h (by decide)⟩
def k_lshapegrows : Nat := 7
def sg_lshapegrows : Sig := ⟨[(true, [.list 36] ++ List.replicate 11 (.list 3) ++ List.replicate 25 (.int .i64)), (false, [.int .i64])], [(false, [.bool])], false, false, true, true, false⟩
def tr_lshapegrows : Tree := (.call k_alive17 [] [.bool]
(.ite (.not (.var 38))
 (.ret [(.bool false)])
 (.call k_Long [(.var 0), (.var 1), (.var 2), (.var 3), (.var 4), (.var 5), (.var 6), (.var 7), (.var 8), (.var 9), (.var 10), (.var 11), (.var 12), (.var 13), (.var 14), (.var 15), (.var 16), (.var 17), (.var 18), (.var 19), (.var 20), (.var 21), (.var 22), (.var 23), (.var 24), (.var 25), (.var 26), (.var 27), (.var 28), (.var 29), (.var 30), (.var 31), (.var 32), (.var 33), (.var 34), (.var 35), (.var 36), (.int .i64 60)] [.bool]
 (.ite (.var 39)
  (.ret [(.bool true)])
  (.call k_tIs [(.var 0), (.var 1), (.var 2), (.var 3), (.var 4), (.var 5), (.var 6), (.var 7), (.var 8), (.var 9), (.var 10), (.var 11), (.var 12), (.var 13), (.var 14), (.var 15), (.var 16), (.var 17), (.var 18), (.var 19), (.var 20), (.var 21), (.var 22), (.var 23), (.var 24), (.var 25), (.var 26), (.var 27), (.var 28), (.var 29), (.var 30), (.var 31), (.var 32), (.var 33), (.var 34), (.var 35), (.var 36), (.var 37)] [.bool]
  (.ob (.or (.not (.var 40)) (.cmp .ge (.var 37) (.int .i64 0)))
  (.ob (.or (.not (.var 40)) (.cmp .lt (.var 37) (.len (.var 0))))
  (.ite (.or (.not (.var 40)) (.cmp .gt (.elem (.var 0) (.var 37) 7 (.int .i64)) (.int .i64 1000)))
   (.ret [(.bool true)])
   (.ob (.cmp .le (.len (.app .emp (.var 0))) (.int .i64 977343669134))
   (.loop [(.int .i64 0), (.var 1), (.var 2), (.var 3), (.var 4), (.var 5), (.var 6), (.var 7), (.var 8), (.var 9), (.var 10), (.var 11)] [(.int .i64), (.list 3), (.list 3), (.list 3), (.list 3), (.list 3), (.list 3), (.list 3), (.list 3), (.list 3), (.list 3), (.list 3)]
    (.ite (.cmp .lt (.var 41) (.int .i64 11))
     (.ob (.cmp .ge (.var 41) (.int .i64 0))
     (.ob (.cmp .le (.len (.app .emp (.sel (.econs (.var 42) (.econs (.var 43) (.econs (.var 44) (.econs (.var 45) (.econs (.var 46) (.econs (.var 47) (.econs (.var 48) (.econs (.var 49) (.econs (.var 50) (.econs (.var 51) (.econs (.var 52) .enil))))))))))) (.var 41) (.list 3)))) (.int .i64 17592186044416))
     (.ob (.cmp .ge (.var 41) (.int .i64 0))
     (.share 3 (.app .emp (.sel (.econs (.var 42) (.econs (.var 43) (.econs (.var 44) (.econs (.var 45) (.econs (.var 46) (.econs (.var 47) (.econs (.var 48) (.econs (.var 49) (.econs (.var 50) (.econs (.var 51) (.econs (.var 52) .enil))))))))))) (.var 41) (.list 3)))
     (.again 0 [(.ar .add .i64 (.var 41) (.int .i64 1)), (.ite (.cmp .eq (.var 41) (.int .i64 0)) (.var 53) (.var 42)), (.ite (.cmp .eq (.var 41) (.int .i64 1)) (.var 53) (.var 43)), (.ite (.cmp .eq (.var 41) (.int .i64 2)) (.var 53) (.var 44)), (.ite (.cmp .eq (.var 41) (.int .i64 3)) (.var 53) (.var 45)), (.ite (.cmp .eq (.var 41) (.int .i64 4)) (.var 53) (.var 46)), (.ite (.cmp .eq (.var 41) (.int .i64 5)) (.var 53) (.var 47)), (.ite (.cmp .eq (.var 41) (.int .i64 6)) (.var 53) (.var 48)), (.ite (.cmp .eq (.var 41) (.int .i64 7)) (.var 53) (.var 49)), (.ite (.cmp .eq (.var 41) (.int .i64 8)) (.var 53) (.var 50)), (.ite (.cmp .eq (.var 41) (.int .i64 9)) (.var 53) (.var 51)), (.ite (.cmp .eq (.var 41) (.int .i64 10)) (.var 53) (.var 52))])))))
     (.ob (.cmp .ge (.var 37) (.int .i64 0))
     (.ob (.cmp .lt (.var 37) (.len (.app .emp (.var 0))))
     (.ob (.cmp .ge (.var 37) (.int .i64 0))
     (.ob (.cmp .lt (.var 37) (.len (.app .emp (.var 0))))
     (.loop [(.bool false), (.int .i64 0)] [.bool, (.int .i64)]
      (.ite (.cmp .lt (.var 54) (.len (.var 0)))
       (.call k_tOf [(.var 0), (.var 1), (.var 2), (.var 3), (.var 4), (.var 5), (.var 6), (.var 7), (.var 8), (.var 9), (.var 10), (.var 11), (.var 12), (.var 13), (.var 14), (.var 15), (.var 16), (.var 17), (.var 18), (.var 19), (.var 20), (.var 21), (.var 22), (.var 23), (.var 24), (.var 25), (.var 26), (.var 27), (.var 28), (.var 29), (.var 30), (.var 31), (.var 32), (.var 33), (.var 34), (.var 35), (.var 36), (.var 54)] [(.int .i64), (.int .i64), (.int .i64), .err]
       (.lend k_tOf [(36, (.upd (.app .emp (.var 0)) (.var 37) 7 (.ar .add .i64 (.elem (.app .emp (.var 0)) (.var 37) 7 (.int .i64)) (.int .i64 1))))] [(.var 59), (.var 42), (.var 43), (.var 44), (.var 45), (.var 46), (.var 47), (.var 48), (.var 49), (.var 50), (.var 51), (.var 52), (.var 12), (.var 13), (.var 14), (.var 15), (.var 16), (.var 17), (.var 18), (.var 19), (.var 20), (.var 21), (.var 22), (.var 23), (.var 24), (.var 25), (.var 26), (.var 27), (.var 28), (.var 29), (.var 30), (.var 31), (.var 32), (.var 33), (.var 34), (.var 35), (.var 36), (.var 54)] [(.int .i64), (.int .i64), (.int .i64), .err]
       (.call k_Num [(.var 58)] [(.int .i64)]
       (.call k_Num [(.var 62)] [(.int .i64)]
       (.ite (.or (.cmp .ne (.var 63) (.var 64)) (.not (.and (.cmp .eq (.ite (.cmp .eq (.var 54) (.var 37)) (.ar .add .i64 (.var 55) (.int .i64 1)) (.var 55)) (.var 59)) (.and (.cmp .eq (.ite (.cmp .eq (.var 54) (.var 37)) (.ar .add .i64 (.var 56) (.int .i64 1)) (.var 56)) (.var 60)) (.cmp .eq (.var 57) (.var 61))))))
        (.ret [(.bool false)])
        (.again 1 [(.var 53), (.ar .add .i64 (.var 54) (.int .i64 1))]))))))
       (.ret [(.bool true)]))))))))))))))))))
theorem wk_lshapegrows : walk E0.cx (sgsN [(35, sg_alive17), (16, sg_Long), (36, sg_tIs), (37, sg_tOf), (32, sg_Num)]) 0 7 sg_lshapegrows = tr_lshapegrows := by kernel_rfl
theorem bo_lshapegrows : ∃ x, bodyOf E0.P 7 = some x := bo_of (by kernel_rfl)
theorem sp_lshapegrows_alive17 : specC [con_alive17, con_Long, con_tIs, con_tOf, con_Num] k_alive17 = alive17_s := rfl
theorem sp_lshapegrows_Long : specC [con_alive17, con_Long, con_tIs, con_tOf, con_Num] k_Long = Long_s := rfl
theorem sp_lshapegrows_tIs : specC [con_alive17, con_Long, con_tIs, con_tOf, con_Num] k_tIs = tIs_s := rfl
theorem sp_lshapegrows_tOf : specC [con_alive17, con_Long, con_tIs, con_tOf, con_Num] k_tOf = tOf_s := rfl
theorem sp_lshapegrows_Num : specC [con_alive17, con_Long, con_tIs, con_tOf, con_Num] k_Num = Num_s := rfl
theorem lshapegrows_h : Holds E0 k_lshapegrows sg_lshapegrows true_s := con_fn wf0 mix0 g0 [con_alive17, con_Long, con_tIs, con_tOf, con_Num] rfl wk_lshapegrows rfl (by
  intro Φ hΦ ds Q hs h
  have hl : ds.length = 38 := hs.length.symm
  have s1 : Φ k_alive17 = alive17_s := by rw [hΦ]; rfl
  have s2 : Φ k_Long = Long_s := by rw [hΦ]; rfl
  have s3 : Φ k_tIs = tIs_s := by rw [hΦ]; rfl
  have s4 : Φ k_tOf = tOf_s := by rw [hΦ]; rfl
  have s5 : Φ k_Num = Num_s := by rw [hΦ]; rfl
  have h : Q [.bool true] := h
  clear hΦ
  have hol : (argL (ds.take 37) 0).length = (argL ds 0).length := by rw [argL_t (by omega)]
  have et : (ds.take 37).take 37 = ds.take 37 := by rw [List.take_take]; rfl
  simp (config := {maxSteps := 2000000}) only [tr_lshapegrows, wp, den_int, den_bool, den_nili, den_ar, den_cmp, den_not, den_len, den_elem, den_isnil, den_errI, den_ifc, den_rep, den_push, den_app, den_emp, row0_econs, row0_enil, den_and, den_beq, den_nil, toInt_int, toBool_bool, xs_rows, xs_list, dflt_int, dflt_bool, of_eq, of_ne, of_lt, of_le, of_gt, of_ge, of_add, of_sub, of_rem, List.map_cons, List.map_nil, Dat.bool.injEq, decide_eq_true_eq, decide_eq_false_iff_not, Bool.not_eq_true', Bool.not_eq_false', beq_iff_eq, bne_iff_ne, beq_eq_false_iff_ne, bne_eq_false_iff_eq, ne_eq, List.append_assoc, List.cons_append, List.nil_append, allS, s1, s2, s3, s4, s5, alive17_s, true_s, Long_s, tIs_s, tOf_s, Num_s, @den_var0 E0.Δ ds, den_varA, den_varB, hl, Nat.reduceLT, Nat.reduceLeDiff, Nat.reduceSub, List.getD_cons_zero, List.getD_cons_succ, argL_fold ds, argI_fold ds, List.append_assoc, List.cons_append, List.nil_append, toInt_int, toBool_bool, xs_rows, xs_list, Int.toNat_natCast, Dat.bool.injEq, dflt_int, fold37x (show 37 ≤ ds.length by omega), take_ta (show 37 ≤ ds.length by omega), argI_ta (show 37 ≤ ds.length by omega) 0, argL_ta (i := 0) (show 0 < 37 by omega) (show 37 ≤ ds.length by omega), argI_c0, argI_fold ds, toInt_getD, List.append_nil, ← obj_t, den_not, toBool_bool, argI_c1, et, den_or, den_upd, shp, List.getElem?_cons_zero, List.getElem?_cons_succ]
  refine ⟨fun hx => absurd hx (by decide), fun _ => ⟨by decide, by decide, fun b hb => ⟨fun _ => h, fun hbf => ?_⟩⟩⟩
  have hsm : Sm (ds.take 37) := sm_t60 (m := 60) (by omega) (fun hL => by rw [hb.2 hL] at hbf; exact absurd hbf (by decide)) (by decide)
  refine ⟨hsm, fun n hn => ?_⟩
  refine ⟨?_, ?_, fun _ => h, fun hc => ?_⟩
  · cases hx : (decide (n = 0) && isC (ds.take 37) (argI ds 37))
    · rfl
    · rw [Bool.and_eq_true] at hx
      rw [decide_eq_true (isC_in hx.2).1]; rfl
  · cases hx : (decide (n = 0) && isC (ds.take 37) (argI ds 37))
    · rfl
    · rw [Bool.and_eq_true] at hx
      have := (isC_in hx.2).2
      rw [hol] at this
      rw [decide_eq_true this]; rfl
  rw [Bool.or_eq_false_iff, Bool.not_eq_false', Bool.and_eq_true, decide_eq_true_eq, decide_eq_false_iff_not] at hc
  obtain ⟨⟨h0, hC⟩, h7⟩ := hc
  subst h0
  have hok := okS_of hsm hn
  obtain ⟨i0, i1⟩ := isC_in hC
  have i1' := i1
  rw [hol] at i1
  have hsm0 := hsm 0 (by omega)
  rw [hol] at hsm0
  refine ⟨by omega, I1 ds, ⟨11, 0, by omega, rfl, rfl, rfl, fun y hy => absurd hy (by omega), fun y _ hy => match y, hy with
      | 0, _ => rfl
      | 1, _ => rfl
      | 2, _ => rfl
      | 3, _ => rfl
      | 4, _ => rfl
      | 5, _ => rfl
      | 6, _ => rfl
      | 7, _ => rfl
      | 8, _ => rfl
      | 9, _ => rfl
      | 10, _ => rfl⟩, ?_⟩
  intro z' d0 hd0 d1 hd1 d2 hd2 d3 hd3 d4 hd4 d5 hd5 d6 hd6 d7 hd7 d8 hd8 d9 hd9 d10 hd10 m hI
  have hI2 := hI
  obtain ⟨z, hz, hm, _, hz0, hA, hB⟩ := hI2
  have hz0 : Dat.int .i64 z' = .int .i64 z := hz0
  cases hz0
  refine ⟨fun hlt => ?_, fun hge => ?_⟩
  · have hz11 : z < 11 := by omega
    subst hm
    simp only [den_sel, row0_econs, row0_enil, den_elem, den_len, @den_var0 E0.Δ ds, den_varA, den_varB, hl, Nat.reduceLT, Nat.reduceLeDiff, Nat.reduceSub, List.getD_cons_zero, List.getD_cons_succ, argL_fold ds, argI_fold ds, List.append_assoc, List.cons_append, List.nil_append, toInt_int, toBool_bool, xs_rows, xs_list, Int.toNat_natCast, Dat.bool.injEq, wp, den_int, den_bool, den_nili, den_ar, den_cmp, den_not, den_len, den_elem, den_isnil, den_errI, den_ifc, den_rep, den_push, den_app, den_emp, row0_econs, row0_enil, den_and, den_beq, den_nil, toInt_int, toBool_bool, xs_rows, xs_list, dflt_int, dflt_bool, of_eq, of_ne, of_lt, of_le, of_gt, of_ge, of_add, of_sub, of_rem, List.map_cons, List.map_nil, Dat.bool.injEq, decide_eq_true_eq, decide_eq_false_iff_not, Bool.not_eq_true', Bool.not_eq_false', beq_iff_eq, bne_iff_ne, beq_eq_false_iff_ne, bne_eq_false_iff_eq, ne_eq, List.append_assoc, List.cons_append, List.nil_append, den_ite, ites11 hz11, I1_sel hI hz11, List.getElem?_cons_zero]
    have hlen := hsm (z + 1) (by omega)
    rw [argL_t (by omega)] at hlen
    exact ⟨by omega, by omega, by omega, fun A c => ⟨11 - (z + 1), by omega, I1_step hI hz11 rfl⟩⟩
  obtain rfl : z = 11 := by omega
  clear hd0 hd1 hd2 hd3 hd4 hd5 hd6 hd7 hd8 hd9 hd10
  refine ⟨i0, i1, i0, i1, fun xs m => ∃ (b : Bool) (k : Nat), k ≤ (argL ds 0).length ∧ m = (argL ds 0).length - k ∧ xs = [.bool b, .int .i64 k], ⟨_, false, 0, by omega, rfl, rfl⟩, ?_⟩
  intro b1 n1 m2 ⟨b', k, hk, hm2, e⟩
  obtain ⟨rfl, rfl⟩ : b1 = b' ∧ n1 = (k : Int) := by simpa using e
  subst hm2
  refine ⟨fun hlt => ⟨hsm, fun n1 h1 => ?_⟩, fun _ => h⟩
  obtain rfl := errP_inj hn h1
  have hd : ∀ z, z < 11 → ([d0, d1, d2, d3, d4, d5, d6, d7, d8, d9, d10].getD z (.bool false)).xs = argL ds (z + 1) := fun z hz => hA z hz
  have hrow : 7 < (obj (ds.take 37) (argI ds 37)).length := by
    have h18 := obj_len (all2_get hs (i := 0) rfl)
    rw [argL_fold] at h18
    rw [obj_t, h18 _ (getD_memL (by omega))]
    decide
  have h7' : oI (ds.take 37) (argI ds 37) 7 ≤ 1000 := by unfold oI; omega
  have b7 := hok.num _ (obj_mem i0 i1') 7 (by omega) (by omega)
  clear hA hB hI
  have k0 : (0 : Int) ≤ k := by omega
  refine ⟨fun hx => absurd rfl hx, fun _ => ⟨fun hk => lendW1 fun x0 hx0 => ?_, fun hk => lendW1 fun x0 hx0 => ?_⟩⟩
  all_goals
    have hx0 : x0.xs = (argL (ds.take 37) 0).set (argI ds 37).toNat ((obj (ds.take 37) (argI ds 37)).set 7 (.int .i64 (oI (ds.take 37) (argI ds 37) 7 + 1))) := by
      rw [hx0]
      simp only [den_sel, row0_econs, row0_enil, den_elem, den_len, @den_var0 E0.Δ ds, den_varA, den_varB, hl, Nat.reduceLT, Nat.reduceLeDiff, Nat.reduceSub, List.getD_cons_zero, List.getD_cons_succ, argL_fold ds, argI_fold ds, List.append_assoc, List.cons_append, List.nil_append, toInt_int, toBool_bool, xs_rows, xs_list, Int.toNat_natCast, Dat.bool.injEq, wp, den_int, den_bool, den_nili, den_ar, den_cmp, den_not, den_len, den_elem, den_isnil, den_errI, den_ifc, den_rep, den_push, den_app, den_emp, den_upd, row0_econs, row0_enil, den_and, den_beq, den_nil, toInt_int, toBool_bool, xs_rows, xs_list, dflt_int, dflt_bool, of_eq, of_ne, of_lt, of_le, of_gt, of_ge, of_add, of_sub, of_rem, List.map_cons, List.map_nil, Dat.bool.injEq, decide_eq_true_eq, decide_eq_false_iff_not, Bool.not_eq_true', Bool.not_eq_false', beq_iff_eq, bne_iff_ne, beq_eq_false_iff_ne, bne_eq_false_iff_eq, ne_eq, List.append_assoc, List.cons_append, List.nil_append, List.nil_append, toInt_getD, ← obj_t, argL_t (show 0 < 37 by decide)]
      unfold oI
      rw [wrap64 (by omega) (by omega)]
    simp only [List.getD_cons_zero]
    have G := grown_of (y := .int .i64 (k : Int)) (show 37 ≤ ds.length by omega) i0 i1' hrow hx0 hd
    generalize List.take 37 [x0, d0, d1, d2, d3, d4, d5, d6, d7, d8, d9, d10, ds.getD 12 (.bool false), ds.getD 13 (.bool false), ds.getD 14 (.bool false), ds.getD 15 (.bool false), ds.getD 16 (.bool false), ds.getD 17 (.bool false), ds.getD 18 (.bool false), ds.getD 19 (.bool false), ds.getD 20 (.bool false), ds.getD 21 (.bool false), ds.getD 22 (.bool false), ds.getD 23 (.bool false), ds.getD 24 (.bool false), ds.getD 25 (.bool false), ds.getD 26 (.bool false), ds.getD 27 (.bool false), ds.getD 28 (.bool false), ds.getD 29 (.bool false), ds.getD 30 (.bool false), ds.getD 31 (.bool false), ds.getD 32 (.bool false), ds.getD 33 (.bool false), ds.getD 34 (.bool false), ds.getD 35 (.bool false), ds.getD 36 (.bool false), .int .i64 (k : Int)] = T at G ⊢
    have hT0 := gr_err G hn hC h7'
    refine ⟨gr_sm G hsm, fun n1 h1 => ?_⟩
    obtain rfl := errP_inj hT0 h1
    rw [gr_isC G, hk]
    simp only [den_ite, @den_var0 E0.Δ ds, den_varA, den_varB, hl, Nat.reduceLT, Nat.reduceLeDiff, Nat.reduceSub, List.getD_cons_zero, List.getD_cons_succ, argL_fold ds, argI_fold ds, List.append_assoc, List.cons_append, List.nil_append, toInt_int, toBool_bool, xs_rows, xs_list, Int.toNat_natCast, Dat.bool.injEq, wp, den_int, den_bool, den_nili, den_ar, den_cmp, den_not, den_len, den_elem, den_isnil, den_errI, den_ifc, den_rep, den_push, den_app, den_emp, den_upd, row0_econs, row0_enil, den_and, den_beq, den_nil, toInt_int, toBool_bool, xs_rows, xs_list, dflt_int, dflt_bool, of_eq, of_ne, of_lt, of_le, of_gt, of_ge, of_add, of_sub, of_rem, List.map_cons, List.map_nil, Dat.bool.injEq, decide_eq_true_eq, decide_eq_false_iff_not, Bool.not_eq_true', Bool.not_eq_false', beq_iff_eq, bne_iff_ne, beq_eq_false_iff_ne, bne_eq_false_iff_eq, ne_eq, List.append_assoc, List.cons_append, List.nil_append, toInt_ite]
  · have hne : ¬ (k : Int) = argI ds 37 := fun e => by
      rw [e, hC] at hk
      cases hk
    refine ⟨fun hx => absurd trivial hx, fun _ => ⟨fun _ => ⟨4, rfl, 4, rfl, fun hx => ?_, fun _ => ⟨(argL ds 0).length - (k + 1), by omega, b1, k + 1, by omega, rfl, by rw [wrap64 (by omega) (by omega)]; rfl⟩⟩, fun hx => absurd hx (by decide)⟩⟩
    rw [if_neg hne] at hx
    exact absurd hx (by decide)
  · have k1 : (k : Int) < (argL (ds.take 37) 0).length := by rw [hol]; omega
    have b8 := hok.num _ (obj_mem k0 k1) 8 (by omega) (by omega)
    have b9 := hok.num _ (obj_mem k0 k1) 9 (by omega) (by omega)
    have hb8 : rowI (obj (ds.take 37) k) 8 = oI (ds.take 37) k 8 := rfl
    have hb9 : rowI (obj (ds.take 37) k) 9 = oI (ds.take 37) k 9 := rfl
    rw [hb8] at b8
    rw [hb9] at b9
    have hsl := stcs_len hok
    have hl8 : (lst (ds.take 37) 8).length = (argL (ds.take 37) 9).length := lst_len (ds.take 37) 8
    have hs9 := hsm 9 (by omega)
    have PB := pK_b hok k0 k1 _ (Nat.le_refl _)
    have P1 : pK (ds.take 37) k (stcs (ds.take 37)).length = puR (ds.take 37) k := rfl
    rw [P1] at PB
    have o8 : oI T k 8 = oI (ds.take 37) k 8 := gr_at G k 8 (by decide)
    have o9 : oI T k 9 = oI (ds.take 37) k 9 := gr_at G k 9 (by decide)
    rw [gr_puR G k k0, gr_woR G k, o8, o9]
    have w1 : IntKind.i64.wrap ((puR (ds.take 37) k).1 + oI (ds.take 37) k 8 + 1) = (puR (ds.take 37) k).1 + 1 + oI (ds.take 37) k 8 := by rw [wrap64 (by omega) (by omega)]; omega
    have w2 : IntKind.i64.wrap ((puR (ds.take 37) k).2 + oI (ds.take 37) k 9 + 1) = (puR (ds.take 37) k).2 + 1 + oI (ds.take 37) k 9 := by rw [wrap64 (by omega) (by omega)]; omega
    rw [w1, w2]
    refine ⟨fun hx => absurd trivial hx, fun _ => ⟨fun hx => absurd hx (by decide), fun _ => ⟨0, rfl, 0, rfl, fun hx => ?_, fun _ => ⟨(argL ds 0).length - (k + 1), by omega, b1, k + 1, by omega, rfl, by rw [wrap64 (by omega) (by omega)]; rfl⟩⟩⟩⟩
    by_cases e : (k : Int) = argI ds 37
    · simp only [if_pos e, beq_self_eq_true, Bool.and_self, Bool.not_true, bne_self_eq_false, Bool.or_self] at hx
      exact absurd hx (by decide)
    · simp only [if_neg e, beq_self_eq_true, Bool.and_self, Bool.not_true, bne_self_eq_false, Bool.or_self] at hx
      exact absurd hx (by decide))
end Go.Proofs.YtelfhmeobfimiaaDoor
end
