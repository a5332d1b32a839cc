import Derived.Test.YtelfhmeobfimiaaDoorM16

section
namespace Go.Proofs.YtelfhmeobfimiaaDoor
open Go.RowKit
set_option linter.unusedVariables false
set_option linter.unusedSimpArgs false

/-- are the words of one number among those of another one? -/
def subB (w W : Nat) : Bool := decide (W &&& w = w)
theorem subB_iff {w W : Nat} : subB w W = true ↔ ∀ i, w.testBit i = true → W.testBit i = true := by
  unfold subB
  rw [decide_eq_true_eq]
  constructor
  · intro h i hi
    rw [← h, Nat.testBit_and, Bool.and_eq_true] at hi
    exact hi.1
  · intro h
    refine Nat.eq_of_testBit_eq fun i => ?_
    rw [Nat.testBit_and]
    cases e : w.testBit i
    · simp
    · rw [h i e]; rfl
theorem subB_0 (W : Nat) : subB 0 W = true := by
  unfold subB
  rw [Nat.and_zero]; rfl
theorem subB_step (w W : Nat) : subB w W = ((decide (w % 2 = 0) || decide (W % 2 = 1)) && subB (w / 2) (W / 2)) := by
  rw [Bool.eq_iff_iff, Bool.and_eq_true, subB_iff, subB_iff, Bool.or_eq_true, decide_eq_true_eq, decide_eq_true_eq]
  constructor
  · intro h
    refine ⟨?_, fun i hi => ?_⟩
    · have := h 0
      rw [Nat.testBit_zero, Nat.testBit_zero, decide_eq_true_eq, decide_eq_true_eq] at this
      omega
    · rw [← Nat.testBit_succ] at hi ⊢
      exact h _ hi
  · rintro ⟨h0, h⟩ i hi
    cases i with
    | zero =>
      rw [Nat.testBit_zero, decide_eq_true_eq] at hi ⊢
      omega
    | succ i =>
      rw [Nat.testBit_succ] at hi ⊢
      exact h i hi
theorem and64 {W w : Nat} (hW : W < 256) (hw : w < 256) : Ar.and.of .i64 (W : Int) (w : Int) = (W &&& w : Nat) := by
  have e : ∀ m : Nat, m < 256 → (BitVec.ofInt 64 (m : Int)).toNat = m := fun m hm => by
    rw [BitVec.ofInt_natCast, BitVec.toNat_ofNat]; omega
  have h1 : (W &&& w) < 2 ^ 8 := Nat.and_lt_two_pow _ hw
  show IntKind.i64.wrap (((BitVec.ofInt 64 (W : Int) &&& BitVec.ofInt 64 (w : Int)).toNat : Nat) : Int) = _
  rw [BitVec.toNat_and, e W hW, e w hw, wrap64 (by omega) (by omega)]
theorem woR_lt {S : List Dat} {id : Int} (hok : OkS S) (h0 : 0 ≤ id) (h1 : id < (argL S 0).length) : woR S id < 256 := by
  have hb10 := hok.word _ (obj_mem h0 h1)
  unfold woR oI
  exact turnK_256 (wK_b hok h0 h1 _ (Nat.le_refl _)) (by omega)
/-- does it have the words? -/
def hasP (S : List Dat) (id word : Int) : Bool := isC S id && decide (1 ≤ word) && decide (word ≤ 255) && subB word.toNat (woR S id)
theorem nodup_len {l m : List Int} (hl : l.Nodup) (hm : m.Nodup) (h : ∀ x, x ∈ l ↔ x ∈ m) : l.length = m.length :=
  List.Perm.length_eq (List.perm_iff_count.2 fun x => by rw [hl.count, hm.count]; simp only [h])
theorem split_len (p : Int → Bool) (f : Int → Int) : ∀ l : List Int, (∀ x ∈ l, f x = 0 ∨ f x = 1) → (l.filter p).length = (l.filter fun x => p x && (f x == 0)).length + (l.filter fun x => p x && (f x == 1)).length
  | [], _ => rfl
  | x :: l, h => by
    have ih := split_len p f l fun y hy => h y (List.mem_cons_of_mem _ hy)
    simp only [List.filter_cons]
    have hx := h x (List.mem_cons_self ..)
    cases hp : p x
    · simp only [Bool.false_and, Bool.false_eq_true, if_false]
      exact ih
    · rcases hx with e | e
      · rw [e]
        simp only [Bool.true_and, beq_self_eq_true, if_true, show ((0 : Int) == 1) = false from rfl, Bool.false_eq_true, if_false, List.length_cons]
        omega
      · rw [e]
        simp only [Bool.true_and, beq_self_eq_true, if_true, show ((1 : Int) == 0) = false from rfl, Bool.false_eq_true, if_false, List.length_cons]
        omega
theorem errP_0 {S : List Dat} (h : errP S 0) : rangesP S ∧ zonesP S ∧ ∀ o ∈ argL S 0, formedP o := by
  unfold errP at h
  split at h
  · exact absurd h (by decide)
  · rcases h with h | h | h | h
    · exact absurd h.2 (by decide)
    · exact absurd h.2.2 (by decide)
    · exact absurd h.2.2.2 (by decide)
    · exact ⟨h.1, h.2.1, h.2.2.1⟩
def beastN (S : List Dat) (k : Nat) : Nat := ((List.range k).filter fun i => isC S (i : Nat)).length
theorem beastN_s (S : List Dat) (k : Nat) : beastN S (k + 1) = beastN S k + (if isC S k = true then 1 else 0) := by
  unfold beastN
  rw [List.range_succ, List.filter_append, List.length_append, List.filter_cons, List.filter_nil]
  split <;> rfl
theorem beastN_le (S : List Dat) (k : Nat) : beastN S k ≤ k := by
  have := List.length_filter_le (fun i : Nat => isC S (i : Nat)) (List.range k)
  rw [List.length_range] at this
  exact this
theorem alls_sub8 (S : List Dat) : (lst S 8).Sublist (alls S 11) := by
  have e : alls S 11 = alls S 8 ++ lst S 8 ++ lst S 9 ++ lst S 10 := by rw [alls_succ, alls_succ, alls_succ]
  rw [e]
  exact ((List.sublist_append_right _ _).trans (List.sublist_append_left _ _)).trans (List.sublist_append_left _ _)
theorem beasts_sum {S : List Dat} (h : errP S 0) : beastN S (argL S 0).length = (beastsP S 0).length + (beastsP S 1).length := by
  obtain ⟨hR, hZ, _⟩ := errP_0 h
  have hz := (zones_iff S).1 hZ
  have hf : ∀ x ∈ lst S 8, 0 ≤ x ∧ x < ((argL S 0).length : Int) := hz.1 8 (by omega)
  have hn : (lst S 8).Nodup := hZ.2.1.sublist (alls_sub8 S)
  have e := split_len (isC S) (fun x => rowI (obj S x) 2) (lst S 8) fun x hx => by
    have := inB_iff ((objB_iff _ _).1 (hR.1 _ (obj_mem (hf x hx).1 (hf x hx).2)) 2 (by omega))
    have h1 : (0 : Int) ≤ rowI (obj S x) 2 := this.1
    have h2 : rowI (obj S x) 2 ≤ (1 : Int) := this.2
    show rowI (obj S x) 2 = 0 ∨ rowI (obj S x) 2 = 1
    omega
  unfold beastsP
  rw [← e]
  have e2 : beastN S (argL S 0).length = (((List.range (argL S 0).length).filter fun i => isC S (i : Nat)).map fun i : Nat => (i : Int)).length := by rw [List.length_map]; rfl
  rw [e2]
  refine nodup_len ?_ (hn.filter _) fun x => ?_
  · exact List.pairwise_map.2 ((List.nodup_range.filter _).imp fun hne hab => hne (by omega))
  · rw [List.mem_map, List.mem_filter]
    constructor
    · rintro ⟨k, hk, rfl⟩
      rw [List.mem_filter, List.mem_range] at hk
      refine ⟨?_, hk.2⟩
      have ho := hz.2 k hk.1
      have hm : (k : Int) ∈ alls S 11 := List.count_pos_iff.1 (by rw [ho.1]; omega)
      obtain ⟨p, hp, hpk⟩ := List.mem_map.1 hm
      obtain ⟨z, hz1, e1, hm2⟩ := mem_ids.1 hp
      rw [hpk] at hm2
      have h3 := ho.2.1 z hz1 hm2
      have h8 : rowI (obj S k) 3 = 8 := by
        have := hk.2
        unfold isC at this
        simp only [Bool.and_eq_true, beq_iff_eq] at this
        exact this.1.2
      obtain rfl : z = 8 := by omega
      exact hm2
    · rintro ⟨h1, h2⟩
      obtain ⟨f0, f1⟩ := hf x h1
      obtain ⟨k, rfl⟩ := Int.eq_ofNat_of_zero_le f0
      exact ⟨k, List.mem_filter.2 ⟨List.mem_range.2 (by omega), h2⟩, rfl⟩
end Go.Proofs.YtelfhmeobfimiaaDoor
end

section
namespace Go.Proofs.YtelfhmeobfimiaaDoor
open Go.RowKit
set_option linter.unusedVariables false
set_option linter.unusedSimpArgs false

theorem isNil_errV (n : Int) : isNilI (errV n) = decide (n = 0) := errV_nil n
def k_tHas : Nat := 46
def sg_tHas : Sig := ⟨[(true, [.list 36] ++ List.replicate 11 (.list 3) ++ List.replicate 25 (.int .i64)), (false, [.int .i64]), (false, [.int .i64])], [(false, [.bool])], false, false, true, false, false⟩
def tr_tHas : Tree := (.call k_tOf [(.var 0), (.var 1), (.var 2), (.var 3), (.var 4), (.var 5), (.var 6), (.var 7), (.var 8), (.var 9), (.var 10), (.var 11), (.var 12), (.var 13), (.var 14), (.var 15), (.var 16), (.var 17), (.var 18), (.var 19), (.var 20), (.var 21), (.var 22), (.var 23), (.var 24), (.var 25), (.var 26), (.var 27), (.var 28), (.var 29), (.var 30), (.var 31), (.var 32), (.var 33), (.var 34), (.var 35), (.var 36), (.var 37)] [(.int .i64), (.int .i64), (.int .i64), .err]
(.ret [(.and (.isnil (.var 42)) (.and (.cmp .ge (.var 38) (.int .i64 1)) (.and (.cmp .le (.var 38) (.int .i64 255)) (.cmp .eq (.ar .and .i64 (.var 41) (.var 38)) (.var 38)))))]))
theorem wk_tHas : walk E0.cx (sgsN [(37, sg_tOf)]) 0 46 sg_tHas = tr_tHas := by kernel_rfl
theorem bo_tHas : ∃ x, bodyOf E0.P 46 = some x := bo_of (by kernel_rfl)
theorem sp_tHas_tOf : specC [con_tOf] k_tOf = tOf_s := rfl
def tHas_s : Spec := fun ds Q => Sm (ds.take 37) ∧ ∀ n, errP (ds.take 37) n → Q [.bool (decide (n = 0) && hasP (ds.take 37) (argI ds 37) (argI ds 38))]
theorem tHas_h : Holds E0 k_tHas sg_tHas tHas_s := con_fn wf0 mix0 g0 [con_tOf] rfl wk_tHas rfl (by
  intro Φ hΦ ds Q hs ⟨hsm, h⟩
  have hl : ds.length = 39 := hs.length.symm
  have s1 : Φ k_tOf = tOf_s := by rw [hΦ]; rfl
  clear hΦ
  have hol : (argL (ds.take 37) 0).length = (argL ds 0).length := by rw [argL_t (by omega)]
  simp only [tr_tHas, wp, den_int, den_bool, den_nili, den_ar, den_cmp, den_not, den_len, den_elem, den_isnil, den_errI, den_ifc, den_rep, den_push, den_app, den_emp, den_upd, row0_econs, row0_enil, den_and, den_beq, den_nil, toInt_int, toBool_bool, xs_rows, xs_list, dflt_int, dflt_bool, of_eq, of_ne, of_lt, of_le, of_gt, of_ge, of_add, of_sub, of_rem, List.map_cons, List.map_nil, Dat.bool.injEq, decide_eq_true_eq, decide_eq_false_iff_not, Bool.not_eq_true', Bool.not_eq_false', beq_iff_eq, bne_iff_ne, beq_eq_false_iff_ne, bne_eq_false_iff_eq, ne_eq, List.append_assoc, List.cons_append, List.nil_append, allS, s1, tOf_s, @den_var0 E0.Δ ds, den_varA, den_varB, hl, Nat.reduceLT, Nat.reduceLeDiff, Nat.reduceSub, List.getD_cons_zero, List.getD_cons_succ, argL_fold ds, argI_fold ds, List.append_assoc, List.cons_append, List.nil_append, toInt_int, toBool_bool, xs_rows, xs_list, Int.toNat_natCast, Dat.bool.injEq, dflt_int, fold37x (show 37 ≤ ds.length by omega), take_ta (show 37 ≤ ds.length by omega), argI_ta (show 37 ≤ ds.length by omega) 0, argL_ta (i := 0) (show 0 < 37 by omega) (show 37 ≤ ds.length by omega), argI_c0, argI_fold ds, toInt_getD, List.append_nil, shp]
  refine ⟨hsm, fun n hn => ?_⟩
  have ha := h n hn
  refine ⟨fun h0 => ?_, fun h0 => ⟨fun hc => ?_, fun hc => ?_⟩⟩
  · rw [decide_eq_false h0, Bool.false_and] at ha
    rw [isNil_errV, decide_eq_false h0, Bool.false_and]
    exact ha
  · rw [hasP, hc] at ha
    simp only [Bool.false_and, Bool.and_false] at ha
    exact ha
  · subst h0
    have hok := okS_of hsm hn
    obtain ⟨i0, i1⟩ := isC_in hc
    rw [hasP, hc] at ha
    have hlt := woR_lt hok i0 i1
    refine Eq.mp (congrArg Q ?_) ha
    refine congrArg (fun b => [Dat.bool b]) ?_
    rw [isNil_errV, Bool.true_and, Bool.and_assoc]
    by_cases h1 : 1 ≤ argI ds 38
    · by_cases h2 : argI ds 38 ≤ 255
      · rw [decide_eq_true h1, decide_eq_true h2, Bool.true_and, Bool.true_and, Bool.true_and, Bool.true_and]
        obtain ⟨w, hw⟩ := Int.eq_ofNat_of_zero_le (show 0 ≤ argI ds 38 by omega)
        rw [hw, and64 hlt (by omega), Int.toNat_natCast]
        unfold subB
        rw [show decide ((0 : Int) = 0) = true from rfl, Bool.true_and, Bool.true_and, Bool.eq_iff_iff, decide_eq_true_eq, beq_iff_eq]
        omega
      · rw [decide_eq_false h2]; simp
    · rw [decide_eq_false h1]; simp)
noncomputable def con_tHas : Con E0 := ⟨k_tHas, sg_tHas, tHas_s, rfl, bo_tHas, tHas_h⟩
def k_tBeasts : Nat := 45
def sg_tBeasts : Sig := ⟨[(true, [.list 36] ++ List.replicate 11 (.list 3) ++ List.replicate 25 (.int .i64)), (false, [.int .i64])], [(false, [.list 3])], false, false, true, false, false⟩
def tr_tBeasts : Tree := (.call k_Check [(.var 0), (.var 1), (.var 2), (.var 3), (.var 4), (.var 5), (.var 6), (.var 7), (.var 8), (.var 9), (.var 10), (.var 11), (.var 12), (.var 13), (.var 14), (.var 15), (.var 16), (.var 17), (.var 18), (.var 19), (.var 20), (.var 21), (.var 22), (.var 23), (.var 24), (.var 25), (.var 26), (.var 27), (.var 28), (.var 29), (.var 30), (.var 31), (.var 32), (.var 33), (.var 34), (.var 35), (.var 36)] [.err]
(.ite (.not (.isnil (.var 38)))
 (.share 3 .emp
 (.ret [(.var 39)]))
 (.loop [.emp, (.int .i64 0)] [(.rows 3), (.int .i64)]
  (.ite (.cmp .lt (.var 40) (.len (.var 9)))
   (.ob (.cmp .ge (.var 40) (.int .i64 0))
   (.call k_tcreature [(.var 0), (.var 1), (.var 2), (.var 3), (.var 4), (.var 5), (.var 6), (.var 7), (.var 8), (.var 9), (.var 10), (.var 11), (.var 12), (.var 13), (.var 14), (.var 15), (.var 16), (.var 17), (.var 18), (.var 19), (.var 20), (.var 21), (.var 22), (.var 23), (.var 24), (.var 25), (.var 26), (.var 27), (.var 28), (.var 29), (.var 30), (.var 31), (.var 32), (.var 33), (.var 34), (.var 35), (.var 36), (.elem (.var 9) (.var 40) 0 (.int .i64))] [.bool]
   (.ob (.or (.not (.var 41)) (.cmp .ge (.elem (.var 9) (.var 40) 0 (.int .i64)) (.int .i64 0)))
   (.ob (.or (.not (.var 41)) (.cmp .lt (.elem (.var 9) (.var 40) 0 (.int .i64)) (.len (.var 0))))
   (.ite (.and (.var 41) (.cmp .eq (.elem (.var 0) (.elem (.var 9) (.var 40) 0 (.int .i64)) 2 (.int .i64)) (.var 37)))
    (.ob (.cmp .le (.len (.push (.var 39) (.econs (.elem (.var 9) (.var 40) 0 (.int .i64)) .enil))) (.int .i64 17592186044416))
    (.again 0 [(.push (.var 39) (.econs (.elem (.var 9) (.var 40) 0 (.int .i64)) .enil)), (.ar .add .i64 (.var 40) (.int .i64 1))]))
    (.again 0 [(.var 39), (.ar .add .i64 (.var 40) (.int .i64 1))]))))))
   (.share 3 (.var 39)
   (.ret [(.var 41)]))))))
theorem wk_tBeasts : walk E0.cx (sgsN [(54, sg_Check), (77, sg_tcreature)]) 0 45 sg_tBeasts = tr_tBeasts := by kernel_rfl
theorem bo_tBeasts : ∃ x, bodyOf E0.P 45 = some x := bo_of (by kernel_rfl)
theorem sp_tBeasts_Check : specC [con_Check, con_tcreature] k_Check = Check_s := rfl
theorem sp_tBeasts_tcreature : specC [con_Check, con_tcreature] k_tcreature = tcreature_s := rfl
def tBeasts_s : Spec := fun ds Q => Sm (ds.take 37) ∧ ∀ n, errP (ds.take 37) n → ∀ v, Q [.list v 1 ((if n = 0 then beastsP (ds.take 37) (argI ds 37) else []).map fun n => [.int .i64 n])]
theorem tBeasts_h : Holds E0 k_tBeasts sg_tBeasts tBeasts_s := con_fn wf0 mix0 g0 [con_Check, con_tcreature] rfl wk_tBeasts rfl (by
  intro Φ hΦ ds Q hs ⟨hsm, h⟩
  have hl : ds.length = 38 := hs.length.symm
  have s1 : Φ k_Check = Check_s := by rw [hΦ]; rfl
  have s2 : Φ k_tcreature = tcreature_s := by rw [hΦ]; rfl
  clear hΦ
  have hml : (lst (ds.take 37) 8).length = (argL ds 9).length := lst_lenT ds (z := 8) (by omega)
  have hsm9 := hsm 9 (by omega)
  rw [argL_t (by omega)] at hsm9
  have hol : (argL (ds.take 37) 0).length = (argL ds 0).length := by rw [argL_t (by omega)]
  simp only [tr_tBeasts, wp, den_int, den_bool, den_nili, den_ar, den_cmp, den_not, den_len, den_elem, den_isnil, den_errI, den_ifc, den_rep, den_push, den_app, den_emp, den_upd, row0_econs, row0_enil, den_and, den_beq, den_nil, toInt_int, toBool_bool, xs_rows, xs_list, dflt_int, dflt_bool, of_eq, of_ne, of_lt, of_le, of_gt, of_ge, of_add, of_sub, of_rem, List.map_cons, List.map_nil, Dat.bool.injEq, decide_eq_true_eq, decide_eq_false_iff_not, Bool.not_eq_true', Bool.not_eq_false', beq_iff_eq, bne_iff_ne, beq_eq_false_iff_ne, bne_eq_false_iff_eq, ne_eq, List.append_assoc, List.cons_append, List.nil_append, allS, s1, s2, Check_s, tcreature_s, @den_var0 E0.Δ ds, den_varA, den_varB, hl, Nat.reduceLT, Nat.reduceLeDiff, Nat.reduceSub, List.getD_cons_zero, List.getD_cons_succ, argL_fold ds, argI_fold ds, List.append_assoc, List.cons_append, List.nil_append, toInt_int, toBool_bool, xs_rows, xs_list, Int.toNat_natCast, Dat.bool.injEq, dflt_int, fold37x (show 37 ≤ ds.length by omega), take_ta (show 37 ≤ ds.length by omega), argI_ta (show 37 ≤ ds.length by omega) 0, argL_ta (i := 0) (show 0 < 37 by omega) (show 37 ≤ ds.length by omega), argI_c0, argI_fold ds, toInt_getD, den_or, List.getElem?_cons_zero, List.append_nil]
  refine ⟨hsm, fun n hn => ?_⟩
  have h := h n hn
  rw [errV_nil]
  refine ⟨fun hx => ?_, fun hx => ?_⟩
  · have e : n ≠ 0 := of_decide_eq_false (by simpa using hx)
    rw [if_neg e] at h
    exact fun A c => h _
  have e : n = 0 := of_decide_eq_true (by simpa using hx)
  subst e
  rw [if_pos rfl] at h
  have hok := okS_of hsm hn
  refine ⟨fun xs m => ∃ k : Nat, k ≤ (argL ds 9).length ∧ m = (argL ds 9).length - k ∧ xs = [.rows ((((lst (ds.take 37) 8).take k).filter fun x => isC (ds.take 37) x && (rowI (obj (ds.take 37) x) 2 == argI ds 37)).map fun n => [.int .i64 n]), .int .i64 k], ⟨_, 0, by omega, rfl, rfl⟩, ?_⟩
  rintro d hd n m ⟨k, hk, hm, e⟩
  cases e
  subst hm
  refine ⟨fun hlt => ?_, fun hge => ?_⟩
  · have hk2 : k < (argL ds 9).length := by omega
    rw [Int.toNat_natCast]
    have hx : ∀ dd, ((argL ds 9).getD k []).getD 0 dd = .int .i64 (rowI ((argL ds 9).getD k []) 0) := fun dd => int_el hs (i := 9) (r := 3) (c := 0) (k := .i64) rfl rfl hk2 dd
    have hg := lst_getDT ds (z := 8) (by omega) hk2
    have htk : (lst (ds.take 37) 8).take (k + 1) = (lst (ds.take 37) 8).take k ++ [rowI ((argL ds 9).getD k []) 0] := by rw [take_succ_getD (d := 0) (by omega), hg]
    have hmem : rowI ((argL ds 9).getD k []) 0 ∈ lst (ds.take 37) 8 := by rw [← hg]; exact getD_memL (by omega)
    obtain ⟨f0, f1⟩ := hok.field _ hmem
    rw [hol] at f1
    rw [hx, ← obj_t]
    generalize rowI ((argL ds 9).getD k []) 0 = x at *
    have hw : IntKind.i64.wrap ((k : Int) + 1) = ((k + 1 : Nat) : Int) := by rw [wrap64 (by omega) (by omega)]; rfl
    refine ⟨by omega, hok, by rw [decide_eq_true f0, Bool.or_true], by rw [decide_eq_true f1, Bool.or_true], fun hy => ⟨?_, _, (by omega : (argL ds 9).length - (k + 1) < _), k + 1, by omega, rfl, ?_⟩, fun hy => ⟨_, (by omega : (argL ds 9).length - (k + 1) < _), k + 1, by omega, rfl, ?_⟩⟩
    · have h1 := List.length_filter_le (fun x => isC (ds.take 37) x && (rowI (obj (ds.take 37) x) 2 == argI ds 37)) ((lst (ds.take 37) 8).take k)
      rw [List.length_take] at h1
      simp only [xs_rows, List.length_append, List.length_map, List.length_cons, List.length_nil]
      omega
    · rw [hw, htk, List.filter_append, List.filter_cons_of_pos (by simpa using hy), List.filter_nil, List.map_append]; rfl
    · rw [hw, htk, List.filter_append, List.filter_cons_of_neg (by simpa using hy), List.filter_nil, List.append_nil]
  · intro A c
    have hk3 : k = (argL ds 9).length := by omega
    have ht : (lst (ds.take 37) 8).take k = lst (ds.take 37) 8 := List.take_of_length_le (by omega)
    rw [ht]
    exact h _)
noncomputable def con_tBeasts : Con E0 := ⟨k_tBeasts, sg_tBeasts, tBeasts_s, rfl, bo_tBeasts, tBeasts_h⟩
end Go.Proofs.YtelfhmeobfimiaaDoor
end
