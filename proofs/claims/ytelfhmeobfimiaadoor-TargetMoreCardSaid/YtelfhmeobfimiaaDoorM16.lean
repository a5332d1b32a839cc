import Derived.Test.YtelfhmeobfimiaaDoorM15
import Derived.Test.YtelfhmeobfimiaaDoorM14

section
namespace Go.Proofs.YtelfhmeobfimiaaDoor
open Go.RowKit
set_option linter.unusedVariables false
set_option linter.unusedSimpArgs false

theorem hi8 {w i : Nat} (hw : w < 256) (hi : 8 ≤ i) : w.testBit i = false := Nat.testBit_lt_two_pow (Nat.lt_of_lt_of_le hw (show 2 ^ 8 ≤ 2 ^ i from Nat.pow_le_pow_right (by omega) hi))
theorem turn_or {w n : Nat} (hw : w < 256) (hn : n < 256) : turnK w n true 8 = w ||| n := by
  refine Nat.eq_of_testBit_eq fun i => ?_
  unfold turnK
  rw [mth.testBit_ofBits, Nat.testBit_or]
  by_cases hi : i < 8
  · rw [decide_eq_true (show i < 64 by omega), decide_eq_true hi]
    cases n.testBit i <;> simp
  · rw [decide_eq_false hi, hi8 hw (by omega), hi8 hn (by omega)]; simp
theorem or64 {w n : Nat} (hw : w < 256) (hn : n < 256) : Ar.or.of .i64 (w : Int) (n : Int) = (turnK w n true 8 : Nat) := by
  rw [turn_or hw hn]
  have e : ∀ m : Nat, m < 256 → (BitVec.ofInt 64 (m : Int)).toNat = m := fun m hm => by
    rw [BitVec.ofInt_natCast, BitVec.toNat_ofNat]; omega
  have h1 : (w ||| n) < 2 ^ 8 := Nat.or_lt_two_pow hw hn
  show IntKind.i64.wrap (((BitVec.ofInt 64 (w : Int) ||| BitVec.ofInt 64 (n : Int)).toNat : Nat) : Int) = _
  rw [BitVec.toNat_or, e w hw, e n hn, wrap64 (by omega) (by omega)]
theorem andNot64 {w n : Nat} (hw : w < 256) (hn : n < 256) : Ar.andNot.of .i64 (w : Int) (n : Int) = (turnK w n false 8 : Nat) := by
  have e : ∀ m : Nat, m < 256 → (BitVec.ofInt 64 (m : Int)).toNat = m := fun m hm => by
    rw [BitVec.ofInt_natCast, BitVec.toNat_ofNat]; omega
  have h0 : (BitVec.ofInt 64 (w : Int) &&& ~~~ BitVec.ofInt 64 (n : Int)).toNat = turnK w n false 8 := by
    refine Nat.eq_of_testBit_eq fun i => ?_
    unfold turnK
    rw [mth.testBit_ofBits, BitVec.testBit_toNat, BitVec.getLsbD_and, BitVec.getLsbD_not, ← BitVec.testBit_toNat, ← BitVec.testBit_toNat, e w hw, e n hn]
    by_cases hi : i < 8
    · rw [decide_eq_true (show i < 64 by omega), decide_eq_true hi]
      cases n.testBit i <;> simp
    · rw [decide_eq_false hi, hi8 hw (by omega), hi8 hn (by omega)]; simp
  have h1 := turnK_256 (is := false) hw hn
  show IntKind.i64.wrap (((BitVec.ofInt 64 (w : Int) &&& ~~~ BitVec.ofInt 64 (n : Int)).toNat : Nat) : Int) = _
  rw [h0, wrap64 (by omega) (by omega)]
def stepS (S : List Dat) (id : Int) (a : Int × Int) (y : Int × Stc) : Int × Int := if y.2.2.1 = 10 then (if inG S y.1 y.2.1 id = true then (a.1 + y.2.2.2.1, a.2 + y.2.2.2.2) else a) else a
def sK (S : List Dat) (id : Int) (j : Nat) : Int × Int := ((stcs S).take j).foldl (stepS S id) (0, 0)
theorem sK_s {S : List Dat} {id : Int} {j : Nat} (h : j < (stcs S).length) : sK S id (j + 1) = stepS S id (sK S id j) ((stcs S).getD j y0) := foldl_take_succ _ _ h
theorem pK_sK {S : List Dat} {id : Int} : ∀ j, j ≤ (stcs S).length → pK S id j = ((beR S id).1 + oI S id 7 + (sK S id j).1, (beR S id).2 + oI S id 7 + (sK S id j).2)
  | 0, _ => by
    show ((beR S id).1 + oI S id 7, (beR S id).2 + oI S id 7) = ((beR S id).1 + oI S id 7 + 0, (beR S id).2 + oI S id 7 + 0)
    rw [Int.add_zero, Int.add_zero]
  | j + 1, hj => by
    rw [pK_s (by omega), sK_s (by omega), pK_sK j (by omega)]
    generalize (stcs S).getD j y0 = y
    unfold stepP stepS
    split
    · split
      · simp only [Prod.mk.injEq]; omega
      · rfl
    · rfl
theorem sK_b {S : List Dat} {id : Int} (hok : OkS S) : ∀ j, j ≤ (stcs S).length → -2 * (j : Int) ≤ (sK S id j).1 ∧ (sK S id j).1 ≤ 2 * (j : Int) ∧ -2 * (j : Int) ≤ (sK S id j).2 ∧ (sK S id j).2 ≤ 2 * (j : Int)
  | 0, _ => by
    show -2 * ((0 : Nat) : Int) ≤ 0 ∧ (0 : Int) ≤ 2 * ((0 : Nat) : Int) ∧ -2 * ((0 : Nat) : Int) ≤ 0 ∧ (0 : Int) ≤ 2 * ((0 : Nat) : Int)
    omega
  | j + 1, hj => by
    have ih := sK_b (id := id) hok j (by omega)
    rw [sK_s (by omega)]
    have hy := (okStc_cases (stcs_ok hok _ (getD_memL (d := y0) (show j < (stcs S).length by omega))).1).1
    generalize (stcs S).getD j y0 = y at *
    unfold stepS
    split
    · rename_i e
      have := hy e
      split
      · exact ⟨by simp only; omega, by simp only; omega, by simp only; omega, by simp only; omega⟩
      · omega
    · omega
theorem okStc_op {t : Stc} (h : okStc t = true) : t.2.1 = 10 ∨ t.2.1 = 23 ∨ t.2.1 = 24 ∨ t.2.1 = 25 := by
  obtain ⟨g, op, n, m⟩ := t
  unfold okStc at h
  simp only [Bool.and_eq_true, Bool.or_eq_true, decide_eq_true_eq, beq_iff_eq] at h
  simp only at h ⊢
  omega
/-- a row of the program's statics -/
theorem tRow {S : List Dat} {r : List Dat} {y : Int × Stc} (h : r.map strip = encT S y) : rowI r 0 = y.1 ∧ rowI r 1 = rowI (obj S y.1) 2 ∧ rowI r 2 = y.2.1 ∧ rowI r 3 = y.2.2.1 ∧ rowI r 4 = y.2.2.2.1 ∧ rowI r 5 = y.2.2.2.2 :=
  ⟨strip_isInt (getD_strip h rfl _), strip_isInt (getD_strip h rfl _), strip_isInt (getD_strip h rfl _), strip_isInt (getD_strip h rfl _), strip_isInt (getD_strip h rfl _), strip_isInt (getD_strip h rfl _)⟩
def k_teval : Nat := 78
def sg_teval : Sig := ⟨[(true, [.list 36] ++ List.replicate 11 (.list 3) ++ List.replicate 25 (.int .i64)), (false, [.int .i64])], [(true, [.int .i64, .int .i64, .int .i64])], false, false, true, false, false⟩
def tr_teval_1 : Tree := (.call k_tstatics [(.var 0), (.var 1), (.var 2), (.var 3), (.var 4), (.var 5), (.var 6), (.var 7), (.var 8), (.var 9), (.var 10), (.var 11), (.var 12), (.var 13), (.var 14), (.var 15), (.var 16), (.var 17), (.var 18), (.var 19), (.var 20), (.var 21), (.var 22), (.var 23), (.var 24), (.var 25), (.var 26), (.var 27), (.var 28), (.var 29), (.var 30), (.var 31), (.var 32), (.var 33), (.var 34), (.var 35), (.var 36)] [(.list 143)] (.loop [(.int .i64 0), (.var 47), (.var 48), (.var 49), (.ar .add .i64 (.elem (.var 0) (.var 37) 7 (.int .i64)) (.elem (.var 0) (.var 37) 8 (.int .i64))), (.ar .add .i64 (.elem (.var 0) (.var 37) 7 (.int .i64)) (.elem (.var 0) (.var 37) 9 (.int .i64)))] [(.int .i64), (.int .i64), (.int .i64), (.int .i64), (.int .i64), (.int .i64)] (.ite (.cmp .lt (.var 52) (.len (.var 51))) (.ob (.cmp .ge (.var 52) (.int .i64 0)) (.call k_treaches [(.elem (.var 51) (.var 52) 0 (.int .i64)), (.elem (.var 51) (.var 52) 1 (.int .i64)), (.elem (.var 51) (.var 52) 2 (.int .i64)), (.elem (.var 51) (.var 52) 3 (.int .i64)), (.elem (.var 51) (.var 52) 4 (.int .i64)), (.elem (.var 51) (.var 52) 5 (.int .i64)), (.elem (.var 51) (.var 52) 6 (.int .i64)), (.elem (.var 51) (.var 52) 7 (.list 57)), (.var 0), (.var 1), (.var 2), (.var 3), (.var 4), (.var 5), (.var 6), (.var 7), (.var 8), (.var 9), (.var 10), (.var 11), (.var 12), (.var 13), (.var 14), (.var 15), (.var 16), (.var 17), (.var 18), (.var 19), (.var 20), (.var 21), (.var 22), (.var 23), (.var 24), (.var 25), (.var 26), (.var 27), (.var 28), (.var 29), (.var 30), (.var 31), (.var 32), (.var 33), (.var 34), (.var 35), (.var 36), (.var 37)] [.bool] (.ite (.not (.var 58)) (.again 0 [(.ar .add .i64 (.var 52) (.int .i64 1)), (.var 53), (.var 54), (.var 55), (.var 56), (.var 57)]) (.ite (.cmp .eq (.elem (.var 51) (.var 52) 3 (.int .i64)) (.int .i64 24)) (.again 0 [(.ar .add .i64 (.var 52) (.int .i64 1)), (.elem (.var 51) (.var 52) 4 (.int .i64)), (.elem (.var 51) (.var 52) 5 (.int .i64)), (.var 55), (.var 56), (.var 57)]) (.again 0 [(.ar .add .i64 (.var 52) (.int .i64 1)), (.var 53), (.var 54), (.ite (.cmp .eq (.elem (.var 51) (.var 52) 3 (.int .i64)) (.int .i64 10)) (.var 55) (.ite (.cmp .eq (.elem (.var 51) (.var 52) 3 (.int .i64)) (.int .i64 23)) (.ar .or .i64 (.var 55) (.elem (.var 51) (.var 52) 4 (.int .i64))) (.ite (.cmp .eq (.elem (.var 51) (.var 52) 3 (.int .i64)) (.int .i64 25)) (.ar .andNot .i64 (.var 55) (.elem (.var 51) (.var 52) 4 (.int .i64))) (.var 55)))), (.ite (.cmp .eq (.elem (.var 51) (.var 52) 3 (.int .i64)) (.int .i64 10)) (.ar .add .i64 (.var 56) (.elem (.var 51) (.var 52) 4 (.int .i64))) (.var 56)), (.ite (.cmp .eq (.elem (.var 51) (.var 52) 3 (.int .i64)) (.int .i64 10)) (.ar .add .i64 (.var 57) (.elem (.var 51) (.var 52) 5 (.int .i64))) (.var 57))]))))) (.ret [(.ar .add .i64 (.var 53) (.var 56)), (.ar .add .i64 (.var 54) (.var 57)), (.ar .or .i64 (.var 55) (.elem (.var 0) (.var 37) 10 (.int .i64)))]))))
def tr_teval_2 : Tree := (.call k_tkind [(.var 0), (.var 1), (.var 2), (.var 3), (.var 4), (.var 5), (.var 6), (.var 7), (.var 8), (.var 9), (.var 10), (.var 11), (.var 12), (.var 13), (.var 14), (.var 15), (.var 16), (.var 17), (.var 18), (.var 19), (.var 20), (.var 21), (.var 22), (.var 23), (.var 24), (.var 25), (.var 26), (.var 27), (.var 28), (.var 29), (.var 30), (.var 31), (.var 32), (.var 33), (.var 34), (.var 35), (.var 36), (.var 37)] [(.int .i64), (.int .i64), .bool, (.int .i64), (.int .i64), (.int .i64), (.int .i64), (.int .i64), (.int .i64), (.int .i64), (.int .i64), (.int .i64), (.list 59)] tr_teval_1)
def tr_teval : Tree := (.ob (.cmp .ge (.var 37) (.int .i64 0)) (.ob (.cmp .lt (.var 37) (.len (.var 0))) (.both (.call k_tkind [(.var 0), (.var 1), (.var 2), (.var 3), (.var 4), (.var 5), (.var 6), (.var 7), (.var 8), (.var 9), (.var 10), (.var 11), (.var 12), (.var 13), (.var 14), (.var 15), (.var 16), (.var 17), (.var 18), (.var 19), (.var 20), (.var 21), (.var 22), (.var 23), (.var 24), (.var 25), (.var 26), (.var 27), (.var 28), (.var 29), (.var 30), (.var 31), (.var 32), (.var 33), (.var 34), (.var 35), (.var 36), (.var 37)] [(.int .i64), (.int .i64), .bool, (.int .i64), (.int .i64), (.int .i64), (.int .i64), (.int .i64), (.int .i64), (.int .i64), (.int .i64), (.int .i64), (.list 59)] (.both tr_teval_1 tr_teval_1)) (.both (.both tr_teval_2 tr_teval_2) (.both tr_teval_2 tr_teval_2)))))
theorem wk_teval : walk E0.cx (sgsN [(117, sg_tkind), (82, sg_tstatics), (118, sg_treaches)]) 0 78 sg_teval = tr_teval := by kernel_rfl
theorem bo_teval : ∃ x, bodyOf E0.P 78 = some x := bo_of (by kernel_rfl)
theorem sp_teval_tkind : specC [con_tkind, con_tstatics, con_treaches] k_tkind = tkind_s := rfl
theorem sp_teval_tstatics : specC [con_tkind, con_tstatics, con_treaches] k_tstatics = tstatics_s := rfl
theorem sp_teval_treaches : specC [con_tkind, con_tstatics, con_treaches] k_treaches = treaches_s := rfl
def teval_s : Spec := fun ds Q => OkS (ds.take 37) ∧ 0 ≤ argI ds 37 ∧ argI ds 37 < (argL ds 0).length ∧ Q [.int .i64 ((puR (ds.take 37) (argI ds 37)).1 + oI (ds.take 37) (argI ds 37) 8), .int .i64 ((puR (ds.take 37) (argI ds 37)).2 + oI (ds.take 37) (argI ds 37) 9), .int .i64 (woR (ds.take 37) (argI ds 37) : Nat)]
theorem take_d8 {ds : List Dat} (hl : 37 ≤ ds.length) {a0 a1 a2 a3 a4 a5 a6 a7 : Dat} {e : List Dat} : ((a0 :: a1 :: a2 :: a3 :: a4 :: a5 :: a6 :: a7 :: (ds.take 37 ++ e)).drop 8).take 37 = ds.take 37 := by
  show (ds.take 37 ++ e).take 37 = _
  exact take_ta hl
theorem argL_d8 {ds : List Dat} {a0 a1 a2 a3 a4 a5 a6 a7 : Dat} {e : List Dat} (hl : 37 ≤ ds.length) : argL (a0 :: a1 :: a2 :: a3 :: a4 :: a5 :: a6 :: a7 :: (ds.take 37 ++ e)) 8 = argL ds 0 := argL_ta (i := 0) (by omega) hl
theorem argI_d8 {ds : List Dat} {a0 a1 a2 a3 a4 a5 a6 a7 : Dat} {e : List Dat} (hl : 37 ≤ ds.length) : argI (a0 :: a1 :: a2 :: a3 :: a4 :: a5 :: a6 :: a7 :: (ds.take 37 ++ e)) 45 = argI e 0 := argI_ta hl 0
theorem teval_1 {Φ : Nat → Spec} (s1 : Φ k_tkind = tkind_s) (s2 : Φ k_tstatics = tstatics_s) (s3 : Φ k_treaches = treaches_s) {ds : List Dat} {Q : List Dat → Prop} (hs : All2 (Has E0.Δ) (Sig.sorts sg_teval.params) ds) (hok : OkS (ds.take 37)) (h0 : 0 ≤ argI ds 37) (h1 : argI ds 37 < (argL ds 0).length)
    (h : Q [.int .i64 ((puR (ds.take 37) (argI ds 37)).1 + oI (ds.take 37) (argI ds 37) 8), .int .i64 ((puR (ds.take 37) (argI ds 37)).2 + oI (ds.take 37) (argI ds 37) 9), .int .i64 (woR (ds.take 37) (argI ds 37) : Nat)]) {rs : List Dat} (hr : rs.map strip = cardP (cardI (ds.take 37) (argI ds 37))) : wp E0.Δ Φ Q tr_teval_1 (ds ++ rs) [] := by
  have hl : ds.length = 38 := hs.length.symm
  have hol : (argL (ds.take 37) 0).length = (argL ds 0).length := by rw [argL_t (by omega)]
  have h1' : argI ds 37 < (argL (ds.take 37) 0).length := by rw [hol]; exact h1
  have hcd := hok.cards h0 h1'
  have hrl := card_rlen hcd.1 hcd.2 hr
  have hsm := hok.small 9 (by omega)
  rw [argL_t (by omega)] at hsm
  have hml : (lst (ds.take 37) 8).length = (argL ds 9).length := lst_lenT ds (z := 8) (by omega)
  have hlen0 := stcs_len hok
  have rows : ∀ xs : List (List Dat), (xs.map fun r => r.map strip) = (stcs (ds.take 37)).map (encT (ds.take 37)) → xs.length = (stcs (ds.take 37)).length ∧ ∀ i, i < (stcs (ds.take 37)).length → (xs.getD i []).map strip = encT (ds.take 37) ((stcs (ds.take 37)).getD i y0) := fun xs hx => by
    have hlen := congrArg List.length hx
    rw [List.length_map, List.length_map] at hlen
    refine ⟨hlen, fun i hi => ?_⟩
    have := congrArg (fun l => l[i]?) hx
    simp only [List.getElem?_map] at this
    rw [List.getElem?_eq_getElem (by omega), List.getElem?_eq_getElem (by omega)] at this
    rw [List.getD_eq_getElem?_getD, List.getD_eq_getElem?_getD, List.getElem?_eq_getElem (by omega), List.getElem?_eq_getElem (by omega)]
    exact Option.some.inj this
  have T := stcs_ok hok
  have BB := bK_b hok h0 h1'
  have SB := sK_b (id := argI ds 37) hok
  have WB := wK_b hok h0 h1'
  have BS := fun j => bK_s (S := ds.take 37) (id := argI ds 37) (j := j)
  have SS := fun j => sK_s (S := ds.take 37) (id := argI ds 37) (j := j)
  have WS := fun j => wK_s (S := ds.take 37) (id := argI ds 37) (j := j)
  have PK := pK_sK (S := ds.take 37) (id := argI ds 37) _ (Nat.le_refl _)
  have x9 := card_int hcd.1 hcd.2 hr (i := 9) rfl (.bool false)
  have x10 := card_int hcd.1 hcd.2 hr (i := 10) rfl (.bool false)
  have x11 := card_int hcd.1 hcd.2 hr (i := 11) rfl (.bool false)
  have hb7 := hok.num _ (obj_mem h0 h1') 7 (by omega) (by omega)
  have hb8 := hok.num _ (obj_mem h0 h1') 8 (by omega) (by omega)
  have hb9 := hok.num _ (obj_mem h0 h1') 9 (by omega) (by omega)
  have hb10 := hok.word _ (obj_mem h0 h1')
  have F := (cardF hcd.1 hcd.2).say
  have hB0 : bK (ds.take 37) (argI ds 37) 0 = (cI (cardI (ds.take 37) (argI ds 37)) 9, cI (cardI (ds.take 37) (argI ds 37)) 10) := rfl
  have hS0 : sK (ds.take 37) (argI ds 37) 0 = (0, 0) := rfl
  have hW0 : wK (ds.take 37) (argI ds 37) 0 = (cI (cardI (ds.take 37) (argI ds 37)) 11).toNat := rfl
  have hwo : woR (ds.take 37) (argI ds 37) = turnK (wK (ds.take 37) (argI ds 37) (stcs (ds.take 37)).length) (rowI (obj (ds.take 37) (argI ds 37)) 10).toNat true 8 := rfl
  unfold puR at h
  rw [hwo, PK] at h
  unfold beR oI at h
  match rs, hrl with
  | [x0, x1, x2, x3, x4, x5, x6, x7, x8, y9, y10, y11, x12], _ =>
  simp only [List.getD_cons_succ, List.getD_cons_zero] at x9 x10 x11
  unfold tr_teval_1
  simp only [wp, den_int, den_bool, den_nili, den_ar, den_cmp, den_not, den_len, den_elem, den_isnil, den_errI, den_ifc, den_rep, den_push, den_app, den_emp, den_upd, row0_econs, row0_enil, den_and, den_beq, den_nil, toInt_int, toBool_bool, xs_rows, xs_list, dflt_int, dflt_bool, of_eq, of_ne, of_lt, of_le, of_gt, of_ge, of_add, of_sub, of_rem, List.map_cons, List.map_nil, Dat.bool.injEq, decide_eq_true_eq, decide_eq_false_iff_not, Bool.not_eq_true', Bool.not_eq_false', beq_iff_eq, bne_iff_ne, beq_eq_false_iff_ne, bne_eq_false_iff_eq, ne_eq, List.append_assoc, List.cons_append, List.nil_append, allS, s1, s2, s3, tstatics_s, treaches_s, tkind_s, @den_var0 E0.Δ ds, den_varA, den_varB, hl, Nat.reduceLT, Nat.reduceLeDiff, Nat.reduceSub, List.getD_cons_zero, List.getD_cons_succ, argL_fold ds, argI_fold ds, List.append_assoc, List.cons_append, List.nil_append, toInt_int, toBool_bool, xs_rows, xs_list, Int.toNat_natCast, Dat.bool.injEq, dflt_int, fold37x (show 37 ≤ ds.length by omega), take_ta (show 37 ≤ ds.length by omega), argI_ta (show 37 ≤ ds.length by omega) 0, argL_ta (i := 0) (show 0 < 37 by omega) (show 37 ≤ ds.length by omega), argI_c0, argI_fold ds, toInt_getD, den_or, den_ite, List.getElem?_cons_zero, List.getElem?_cons_succ, argI_c1, Int.toNat_zero, take_d8 (show 37 ≤ ds.length by omega), argL_d8 (show 37 ≤ ds.length by omega), argI_d8 (show 37 ≤ ds.length by omega)]
  simp only [← obj_t]
  generalize bK (ds.take 37) (argI ds 37) = B at *
  generalize sK (ds.take 37) (argI ds 37) = M at *
  generalize wK (ds.take 37) (argI ds 37) = W at *
  generalize hob : obj (ds.take 37) (argI ds 37) = ob at *
  rw [hol] at T
  have hlen : (stcs (ds.take 37)).length ≤ 2000000 := by omega
  clear hlen0 PK
  generalize stcs (ds.take 37) = L at *
  have hw : ∀ j, j ≤ L.length → IntKind.i64.wrap ((j : Int) + 1) = ((j + 1 : Nat) : Int) := fun j hj => by rw [wrap64 (by omega) (by omega)]; rfl
  refine ⟨hok, fun v xs hx => ?_⟩
  obtain ⟨hxl, hxr⟩ := rows xs hx
  refine ⟨fun ts m => ∃ j, j ≤ L.length ∧ m = L.length - j ∧ ts.map Dat.toInt = [(j : Int), (B j).1, (B j).2, (W j : Int), rowI ob 7 + rowI ob 8 + (M j).1, rowI ob 7 + rowI ob 9 + (M j).2], ⟨_, 0, by omega, rfl, by simp only [List.map_cons, List.map_nil, toInt_int, x9, x10, x11, hB0, hS0, hW0]; rw [Int.toNat_of_nonneg F.1, wrap64 (by omega) (by omega), wrap64 (by omega) (by omega), Int.add_zero, Int.add_zero]; rfl⟩, ?_⟩
  intro n0 p t w mp mt m ⟨j, hj, hm, e⟩
  simp only [List.map_cons, List.map_nil, toInt_int, List.cons.injEq, and_true] at e
  obtain ⟨e0, e1, e2, e3, e4, e5⟩ := e
  subst e0 hm
  refine ⟨fun hlt => ?_, fun hge => ?_⟩
  · have hj2 : j < L.length := by omega
    rw [Int.toNat_natCast]
    have hrow := hxr j hj2
    have b1 := BS j hj2
    have b2 := SS j hj2
    have b3 := WS j hj2
    have hT := T _ (getD_memL (d := y0) hj2)
    generalize L.getD j y0 = y at *
    generalize xs.getD j [] = r at *
    obtain ⟨q0, q1, q2, q3, q4, q5⟩ := tRow hrow
    simp only [q0, q1, q2, q3, q4, q5]
    have hop := okStc_op hT.1
    obtain ⟨c10, c24, c23, c25⟩ := okStc_cases hT.1
    have wb := WB j (by omega)
    have bb := BB j (by omega)
    have sb := SB j (by omega)
    have next : ∀ a b c d e : Dat, (a.toInt, b.toInt) = stepB (ds.take 37) (argI ds 37) (B j) y → c.toInt = (stepW (ds.take 37) (argI ds 37) (W j) y : Nat) → (d.toInt, e.toInt) = (rowI ob 7 + rowI ob 8 + (stepS (ds.take 37) (argI ds 37) (M j) y).1, rowI ob 7 + rowI ob 9 + (stepS (ds.take 37) (argI ds 37) (M j) y).2) →
        ∃ m', m' < L.length - j ∧ ∃ j', j' ≤ L.length ∧ m' = L.length - j' ∧ [Dat.int .i64 (IntKind.i64.wrap ((j : Int) + 1)), a, b, c, d, e].map Dat.toInt = [(j' : Int), (B j').1, (B j').2, (W j' : Int), rowI ob 7 + rowI ob 8 + (M j').1, rowI ob 7 + rowI ob 9 + (M j').2] := fun a b c d e ha hc hd => by
      refine ⟨L.length - (j + 1), by omega, j + 1, by omega, rfl, ?_⟩
      simp only [Prod.mk.injEq] at hd
      rw [b1, b2, b3, ← ha, ← hc, ← hd.1, ← hd.2]
      simp only [List.map_cons, List.map_nil, toInt_int, hw j (by omega)]
    refine ⟨by omega, y, hT.1, rfl, rfl, rfl, h0, h1, fun hin => next _ _ _ _ _ ?_ ?_ ?_, fun hin => ⟨fun h24 => next _ _ _ _ _ ?_ ?_ ?_, fun h24 => next _ _ _ _ _ ?_ ?_ ?_⟩⟩
    · unfold stepB
      rw [hin]
      simp only [Bool.false_eq_true, if_false, ite_self, toInt_int]
      rw [e1, e2]
    · unfold stepW
      rw [hin]
      simp only [Bool.false_eq_true, if_false, ite_self, toInt_int]
      rw [e3]
    · unfold stepS
      rw [hin]
      simp only [Bool.false_eq_true, if_false, ite_self, toInt_int]
      rw [e4, e5]
    · unfold stepB
      rw [if_pos h24, if_pos hin]
      exact Prod.ext q4 q5
    · unfold stepW
      rw [if_neg (by omega), if_neg (by omega), toInt_int, e3]
    · unfold stepS
      rw [if_neg (by omega)]
      simp only [toInt_int]
      rw [e4, e5]
    · unfold stepB
      rw [if_neg h24]
      simp only [toInt_int]
      rw [e1, e2]
    · unfold stepW
      rw [hin]
      simp only [if_true]
      rcases hop with g | g | g | g
      · rw [if_pos g, if_neg (by omega), if_neg (by omega), toInt_int, e3]
      · have := c23 g
        rw [if_neg (by omega), if_pos g, if_pos g, toInt_int, e3, this]
        exact or64 wb (by decide)
      · exact absurd g h24
      · have := c25 g
        rw [if_neg (by omega), if_neg (by omega), if_pos g, if_neg (by omega), if_pos g, toInt_int, e3, this]
        exact andNot64 wb (by decide)
    · unfold stepS
      rw [hin]
      simp only [if_true]
      rcases hop with g | g | g | g
      · have := c10 g
        rw [if_pos g, if_pos g, if_pos g]
        simp only [toInt_int]
        rw [wrap64 (by omega) (by omega), wrap64 (by omega) (by omega), e4, e5]
        simp only [Prod.mk.injEq]
        omega
      · rw [if_neg (by omega), if_neg (by omega), if_neg (by omega)]
        simp only [toInt_int]
        rw [e4, e5]
      · exact absurd g h24
      · rw [if_neg (by omega), if_neg (by omega), if_neg (by omega)]
        simp only [toInt_int]
        rw [e4, e5]
  · obtain rfl : j = L.length := by omega
    have t1 := BB _ (Nat.le_refl _)
    have t2 := SB _ (Nat.le_refl _)
    have t3 := WB _ (Nat.le_refl _)
    have ho : ((rowI ob 10).toNat : Int) = rowI ob 10 := Int.toNat_of_nonneg hb10.1
    have ho2 : (rowI ob 10).toNat < 256 := by omega
    have eo := or64 t3 ho2
    rw [ho] at eo
    rw [wrap64 (by omega) (by omega), wrap64 (by omega) (by omega), e3, eo, e1, e2, e4, e5]
    refine Eq.mp (congrArg Q ?_) h
    simp only [List.cons.injEq, Dat.int.injEq, true_and, and_true]
    omega
theorem teval_h : Holds E0 k_teval sg_teval teval_s := con_fn wf0 mix0 g0 [con_tkind, con_tstatics, con_treaches] rfl wk_teval rfl (by
  intro Φ hΦ ds Q hs ⟨hok, h0, h1, h⟩
  have hl : ds.length = 38 := hs.length.symm
  have s1 : Φ k_tkind = tkind_s := by rw [hΦ]; rfl
  have s2 : Φ k_tstatics = tstatics_s := by rw [hΦ]; rfl
  have s3 : Φ k_treaches = treaches_s := by rw [hΦ]; rfl
  clear hΦ
  have key : ∀ rs : List Dat, rs.map strip = cardP (cardI (ds.take 37) (argI ds 37)) → wp E0.Δ Φ Q tr_teval_1 (ds ++ rs) [] := fun rs hr => teval_1 s1 s2 s3 hs hok h0 h1 h hr
  clear s2 s3
  simp only [tr_teval, tr_teval_2, wp, den_int, den_bool, den_nili, den_ar, den_cmp, den_not, den_len, den_elem, den_isnil, den_errI, den_ifc, den_rep, den_push, den_app, den_emp, den_upd, row0_econs, row0_enil, den_and, den_beq, den_nil, toInt_int, toBool_bool, xs_rows, xs_list, dflt_int, dflt_bool, of_eq, of_ne, of_lt, of_le, of_gt, of_ge, of_add, of_sub, of_rem, List.map_cons, List.map_nil, Dat.bool.injEq, decide_eq_true_eq, decide_eq_false_iff_not, Bool.not_eq_true', Bool.not_eq_false', beq_iff_eq, bne_iff_ne, beq_eq_false_iff_ne, bne_eq_false_iff_eq, ne_eq, List.append_assoc, List.cons_append, List.nil_append, allS, s1, tkind_s, @den_var0 E0.Δ ds, den_varA, den_varB, hl, Nat.reduceLT, Nat.reduceLeDiff, Nat.reduceSub, List.getD_cons_zero, List.getD_cons_succ, argL_fold ds, argI_fold ds, List.append_assoc, List.cons_append, List.nil_append, toInt_int, toBool_bool, xs_rows, xs_list, Int.toNat_natCast, Dat.bool.injEq, dflt_int, fold37x (show 37 ≤ ds.length by omega), take_ta (show 37 ≤ ds.length by omega), argI_ta (show 37 ≤ ds.length by omega) 0, argL_ta (i := 0) (show 0 < 37 by omega) (show 37 ≤ ds.length by omega), argI_c0, argI_fold ds]
  exact ⟨h0, h1, ⟨hok, h0, h1, fun rs hr => ⟨key rs hr, key rs hr⟩⟩, ⟨⟨hok, h0, h1, key⟩, hok, h0, h1, key⟩, ⟨hok, h0, h1, key⟩, hok, h0, h1, key⟩)
noncomputable def con_teval : Con E0 := ⟨k_teval, sg_teval, teval_s, rfl, bo_teval, teval_h⟩
end Go.Proofs.YtelfhmeobfimiaaDoor
end

section
namespace Go.Proofs.YtelfhmeobfimiaaDoor
open Go.RowKit
set_option linter.unusedVariables false
set_option linter.unusedSimpArgs false

theorem inB_iff {n l m : Int} (h : inB n l m = true) : l ≤ n ∧ n ≤ m := by
  unfold inB at h
  simp only [Bool.and_eq_true, decide_eq_true_eq] at h
  exact h
theorem okS_of {S : List Dat} (hsm : Sm S) (h : errP S 0) : OkS S := by
  unfold errP at h
  split at h
  · exact absurd h (by decide)
  · rcases h with h | h | h | h
    · exact absurd h.2 (by decide)
    · exact absurd h.2.2 (by decide)
    · exact absurd h.2.2.2 (by decide)
    · obtain ⟨hR, hZ, _, _⟩ := h
      have hf : ∀ o ∈ argL S 0, ∀ f, f < 18 → inB (rowI o f) (loO f) (hiO (argL S 0).length f) = true := fun o ho => (objB_iff o _).1 (hR.1 o ho)
      refine ⟨fun o ho => ?_, fun x hx => ?_, fun o ho => ?_, fun o ho c h1 h2 => ?_, hsm⟩
      · have := inB_iff (hf o ho 0 (by omega))
        have h1 : (0 : Int) ≤ rowI o 0 := this.1
        have h2 : rowI o 0 ≤ (119 : Int) := this.2
        omega
      · have := hZ.1 ((8 : Nat), x) (mem_ids.2 ⟨8, by omega, rfl, hx⟩)
        exact ⟨this.1, this.2.1⟩
      · have := inB_iff (hf o ho 10 (by omega))
        have h1 : (0 : Int) ≤ rowI o 10 := this.1
        have h2 : rowI o 10 ≤ (255 : Int) := this.2
        omega
      · have := inB_iff (hf o ho c (by omega))
        match c, h1, h2 with
        | 6, _, _ =>
          have h1 : (0 : Int) ≤ rowI o 6 := this.1
          have h2 : rowI o 6 ≤ (1073741824 : Int) := this.2
          omega
        | 7, _, _ =>
          have h1 : (0 : Int) ≤ rowI o 7 := this.1
          have h2 : rowI o 7 ≤ (1073741824 : Int) := this.2
          omega
        | 8, _, _ =>
          have h1 : (-1073741824 : Int) ≤ rowI o 8 := this.1
          have h2 : rowI o 8 ≤ (1073741824 : Int) := this.2
          omega
        | 9, _, _ =>
          have h1 : (-1073741824 : Int) ≤ rowI o 9 := this.1
          have h2 : rowI o 9 ≤ (1073741824 : Int) := this.2
          omega
        | c + 10, _, h => exact absurd h (by omega)
        | 0, h, _ | 1, h, _ | 2, h, _ | 3, h, _ | 4, h, _ | 5, h, _ => exact absurd h (by omega)
def shp (S : List Dat) (id : Int) : List Dat := [.int .i64 ((puR S id).1 + oI S id 8), .int .i64 ((puR S id).2 + oI S id 9), .int .i64 (woR S id : Nat)]
theorem isC_in {S : List Dat} {id : Int} (h : isC S id = true) : 0 ≤ id ∧ id < (argL S 0).length := by
  unfold isC at h
  simp only [Bool.and_eq_true, decide_eq_true_eq] at h
  exact ⟨h.1.1.1, h.1.1.2⟩
theorem errV_nz {n : Int} (h : n ≠ 0) : isNilI (errV n) = false := by rw [errV_nil, decide_eq_false h]
def k_tOf : Nat := 37
def sg_tOf : Sig := ⟨[(true, [.list 36] ++ List.replicate 11 (.list 3) ++ List.replicate 25 (.int .i64)), (false, [.int .i64])], [(true, [.int .i64, .int .i64, .int .i64]), (false, [.err])], false, false, true, false, false⟩
def tr_tOf : Tree := (.call k_Check [(.var 0), (.var 1), (.var 2), (.var 3), (.var 4), (.var 5), (.var 6), (.var 7), (.var 8), (.var 9), (.var 10), (.var 11), (.var 12), (.var 13), (.var 14), (.var 15), (.var 16), (.var 17), (.var 18), (.var 19), (.var 20), (.var 21), (.var 22), (.var 23), (.var 24), (.var 25), (.var 26), (.var 27), (.var 28), (.var 29), (.var 30), (.var 31), (.var 32), (.var 33), (.var 34), (.var 35), (.var 36)] [.err]
(.ite (.not (.isnil (.var 38)))
 (.ret [(.int .i64 0), (.int .i64 0), (.int .i64 0), (.var 38)])
 (.call k_tcreature [(.var 0), (.var 1), (.var 2), (.var 3), (.var 4), (.var 5), (.var 6), (.var 7), (.var 8), (.var 9), (.var 10), (.var 11), (.var 12), (.var 13), (.var 14), (.var 15), (.var 16), (.var 17), (.var 18), (.var 19), (.var 20), (.var 21), (.var 22), (.var 23), (.var 24), (.var 25), (.var 26), (.var 27), (.var 28), (.var 29), (.var 30), (.var 31), (.var 32), (.var 33), (.var 34), (.var 35), (.var 36), (.var 37)] [.bool]
 (.ite (.not (.var 39))
  (.ret [(.int .i64 0), (.int .i64 0), (.int .i64 0), (.ifc (.int .i64 4))])
  (.call k_teval [(.var 0), (.var 1), (.var 2), (.var 3), (.var 4), (.var 5), (.var 6), (.var 7), (.var 8), (.var 9), (.var 10), (.var 11), (.var 12), (.var 13), (.var 14), (.var 15), (.var 16), (.var 17), (.var 18), (.var 19), (.var 20), (.var 21), (.var 22), (.var 23), (.var 24), (.var 25), (.var 26), (.var 27), (.var 28), (.var 29), (.var 30), (.var 31), (.var 32), (.var 33), (.var 34), (.var 35), (.var 36), (.var 37)] [(.int .i64), (.int .i64), (.int .i64)]
  (.ret [(.var 40), (.var 41), (.var 42), .nili]))))))
theorem wk_tOf : walk E0.cx (sgsN [(54, sg_Check), (77, sg_tcreature), (78, sg_teval)]) 0 37 sg_tOf = tr_tOf := by kernel_rfl
theorem bo_tOf : ∃ x, bodyOf E0.P 37 = some x := bo_of (by kernel_rfl)
theorem sp_tOf_Check : specC [con_Check, con_tcreature, con_teval] k_Check = Check_s := rfl
theorem sp_tOf_tcreature : specC [con_Check, con_tcreature, con_teval] k_tcreature = tcreature_s := rfl
theorem sp_tOf_teval : specC [con_Check, con_tcreature, con_teval] k_teval = teval_s := rfl
def tOf_s : Spec := fun ds Q => Sm (ds.take 37) ∧ ∀ n, errP (ds.take 37) n → (n ≠ 0 → Q [.int .i64 0, .int .i64 0, .int .i64 0, errV n]) ∧ (n = 0 → (isC (ds.take 37) (argI ds 37) = false → Q [.int .i64 0, .int .i64 0, .int .i64 0, errV 4]) ∧ (isC (ds.take 37) (argI ds 37) = true → Q (shp (ds.take 37) (argI ds 37) ++ [errV 0])))
theorem tOf_h : Holds E0 k_tOf sg_tOf tOf_s := con_fn wf0 mix0 g0 [con_Check, con_tcreature, con_teval] rfl wk_tOf rfl (by
  intro Φ hΦ ds Q hs ⟨hsm, h⟩
  have hl : ds.length = 38 := hs.length.symm
  have s1 : Φ k_Check = Check_s := by rw [hΦ]; rfl
  have s2 : Φ k_tcreature = tcreature_s := by rw [hΦ]; rfl
  have s3 : Φ k_teval = teval_s := by rw [hΦ]; rfl
  clear hΦ
  have hol : (argL (ds.take 37) 0).length = (argL ds 0).length := by rw [argL_t (by omega)]
  simp only [tr_tOf, wp, den_int, den_bool, den_nili, den_ar, den_cmp, den_not, den_len, den_elem, den_isnil, den_errI, den_ifc, den_rep, den_push, den_app, den_emp, den_upd, row0_econs, row0_enil, den_and, den_beq, den_nil, toInt_int, toBool_bool, xs_rows, xs_list, dflt_int, dflt_bool, of_eq, of_ne, of_lt, of_le, of_gt, of_ge, of_add, of_sub, of_rem, List.map_cons, List.map_nil, Dat.bool.injEq, decide_eq_true_eq, decide_eq_false_iff_not, Bool.not_eq_true', Bool.not_eq_false', beq_iff_eq, bne_iff_ne, beq_eq_false_iff_ne, bne_eq_false_iff_eq, ne_eq, List.append_assoc, List.cons_append, List.nil_append, allS, s1, s2, s3, Check_s, tcreature_s, teval_s, @den_var0 E0.Δ ds, den_varA, den_varB, hl, Nat.reduceLT, Nat.reduceLeDiff, Nat.reduceSub, List.getD_cons_zero, List.getD_cons_succ, argL_fold ds, argI_fold ds, List.append_assoc, List.cons_append, List.nil_append, toInt_int, toBool_bool, xs_rows, xs_list, Int.toNat_natCast, Dat.bool.injEq, dflt_int, fold37x (show 37 ≤ ds.length by omega), take_ta (show 37 ≤ ds.length by omega), argI_ta (show 37 ≤ ds.length by omega) 0, argL_ta (i := 0) (show 0 < 37 by omega) (show 37 ≤ ds.length by omega), argI_c0, argI_fold ds, List.append_nil]
  refine ⟨hsm, fun n hn => ?_⟩
  obtain ⟨ha, hb⟩ := h n hn
  refine ⟨fun hx => ha ?_, fun hx => ?_⟩
  · intro e
    subst e
    rw [errV_nil] at hx
    exact absurd hx (by decide)
  · have e : n = 0 := by
      apply Classical.byContradiction
      intro e
      rw [errV_nz e] at hx
      cases hx
    subst e
    have hok := okS_of hsm hn
    obtain ⟨hb1, hb2⟩ := hb rfl
    refine ⟨hok, fun hc => hb1 (by simpa using hc), fun hc => ?_⟩
    have hc : isC (ds.take 37) (argI ds 37) = true := by simpa using hc
    obtain ⟨i0, i1⟩ := isC_in hc
    rw [hol] at i1
    exact ⟨hok, i0, i1, hb2 hc⟩)
noncomputable def con_tOf : Con E0 := ⟨k_tOf, sg_tOf, tOf_s, rfl, bo_tOf, tOf_h⟩
def k_tIs : Nat := 36
def sg_tIs : Sig := ⟨[(true, [.list 36] ++ List.replicate 11 (.list 3) ++ List.replicate 25 (.int .i64)), (false, [.int .i64])], [(false, [.bool])], false, false, true, false, false⟩
def tr_tIs : Tree := (.call k_Check [(.var 0), (.var 1), (.var 2), (.var 3), (.var 4), (.var 5), (.var 6), (.var 7), (.var 8), (.var 9), (.var 10), (.var 11), (.var 12), (.var 13), (.var 14), (.var 15), (.var 16), (.var 17), (.var 18), (.var 19), (.var 20), (.var 21), (.var 22), (.var 23), (.var 24), (.var 25), (.var 26), (.var 27), (.var 28), (.var 29), (.var 30), (.var 31), (.var 32), (.var 33), (.var 34), (.var 35), (.var 36)] [.err]
(.ite (.isnil (.var 38))
 (.call k_tcreature [(.var 0), (.var 1), (.var 2), (.var 3), (.var 4), (.var 5), (.var 6), (.var 7), (.var 8), (.var 9), (.var 10), (.var 11), (.var 12), (.var 13), (.var 14), (.var 15), (.var 16), (.var 17), (.var 18), (.var 19), (.var 20), (.var 21), (.var 22), (.var 23), (.var 24), (.var 25), (.var 26), (.var 27), (.var 28), (.var 29), (.var 30), (.var 31), (.var 32), (.var 33), (.var 34), (.var 35), (.var 36), (.var 37)] [.bool]
 (.ret [(.var 39)]))
 (.ret [(.bool false)])))
theorem wk_tIs : walk E0.cx (sgsN [(54, sg_Check), (77, sg_tcreature)]) 0 36 sg_tIs = tr_tIs := by kernel_rfl
theorem bo_tIs : ∃ x, bodyOf E0.P 36 = some x := bo_of (by kernel_rfl)
theorem sp_tIs_Check : specC [con_Check, con_tcreature] k_Check = Check_s := rfl
theorem sp_tIs_tcreature : specC [con_Check, con_tcreature] k_tcreature = tcreature_s := rfl
def tIs_s : Spec := fun ds Q => Sm (ds.take 37) ∧ ∀ n, errP (ds.take 37) n → Q [.bool (decide (n = 0) && isC (ds.take 37) (argI ds 37))]
theorem tIs_h : Holds E0 k_tIs sg_tIs tIs_s := con_fn wf0 mix0 g0 [con_Check, con_tcreature] rfl wk_tIs rfl (by
  intro Φ hΦ ds Q hs ⟨hsm, h⟩
  have hl : ds.length = 38 := hs.length.symm
  have s1 : Φ k_Check = Check_s := by rw [hΦ]; rfl
  have s2 : Φ k_tcreature = tcreature_s := by rw [hΦ]; rfl
  clear hΦ
  simp only [tr_tIs, wp, den_int, den_bool, den_nili, den_ar, den_cmp, den_not, den_len, den_elem, den_isnil, den_errI, den_ifc, den_rep, den_push, den_app, den_emp, den_upd, row0_econs, row0_enil, den_and, den_beq, den_nil, toInt_int, toBool_bool, xs_rows, xs_list, dflt_int, dflt_bool, of_eq, of_ne, of_lt, of_le, of_gt, of_ge, of_add, of_sub, of_rem, List.map_cons, List.map_nil, Dat.bool.injEq, decide_eq_true_eq, decide_eq_false_iff_not, Bool.not_eq_true', Bool.not_eq_false', beq_iff_eq, bne_iff_ne, beq_eq_false_iff_ne, bne_eq_false_iff_eq, ne_eq, List.append_assoc, List.cons_append, List.nil_append, allS, s1, s2, Check_s, tcreature_s, @den_var0 E0.Δ ds, den_varA, den_varB, hl, Nat.reduceLT, Nat.reduceLeDiff, Nat.reduceSub, List.getD_cons_zero, List.getD_cons_succ, argL_fold ds, argI_fold ds, List.append_assoc, List.cons_append, List.nil_append, toInt_int, toBool_bool, xs_rows, xs_list, Int.toNat_natCast, Dat.bool.injEq, dflt_int, fold37x (show 37 ≤ ds.length by omega), take_ta (show 37 ≤ ds.length by omega), argI_ta (show 37 ≤ ds.length by omega) 0, argL_ta (i := 0) (show 0 < 37 by omega) (show 37 ≤ ds.length by omega), argI_c0, argI_fold ds, List.append_nil]
  refine ⟨hsm, fun n hn => ?_⟩
  have ha := h n hn
  rw [errV_nil]
  refine ⟨fun hx => ?_, fun hx => ?_⟩
  · have e : n = 0 := of_decide_eq_true (by simpa using hx)
    subst e
    exact ⟨okS_of hsm hn, ha⟩
  · have e : n ≠ 0 := of_decide_eq_false (by simpa using hx)
    rw [decide_eq_false e] at ha
    exact ha)
noncomputable def con_tIs : Con E0 := ⟨k_tIs, sg_tIs, tIs_s, rfl, bo_tIs, tIs_h⟩
def k_tStatics : Nat := 44
def sg_tStatics : Sig := ⟨[(true, [.list 36] ++ List.replicate 11 (.list 3) ++ List.replicate 25 (.int .i64))], [(false, [.int .i64])], false, false, true, false, false⟩
def tr_tStatics : Tree := (.call k_Check [(.var 0), (.var 1), (.var 2), (.var 3), (.var 4), (.var 5), (.var 6), (.var 7), (.var 8), (.var 9), (.var 10), (.var 11), (.var 12), (.var 13), (.var 14), (.var 15), (.var 16), (.var 17), (.var 18), (.var 19), (.var 20), (.var 21), (.var 22), (.var 23), (.var 24), (.var 25), (.var 26), (.var 27), (.var 28), (.var 29), (.var 30), (.var 31), (.var 32), (.var 33), (.var 34), (.var 35), (.var 36)] [.err]
(.ite (.not (.isnil (.var 37)))
 (.ret [(.int .i64 0)])
 (.call k_tstatics [(.var 0), (.var 1), (.var 2), (.var 3), (.var 4), (.var 5), (.var 6), (.var 7), (.var 8), (.var 9), (.var 10), (.var 11), (.var 12), (.var 13), (.var 14), (.var 15), (.var 16), (.var 17), (.var 18), (.var 19), (.var 20), (.var 21), (.var 22), (.var 23), (.var 24), (.var 25), (.var 26), (.var 27), (.var 28), (.var 29), (.var 30), (.var 31), (.var 32), (.var 33), (.var 34), (.var 35), (.var 36)] [(.list 143)]
 (.ret [(.len (.var 38))]))))
theorem wk_tStatics : walk E0.cx (sgsN [(54, sg_Check), (82, sg_tstatics)]) 0 44 sg_tStatics = tr_tStatics := by kernel_rfl
theorem bo_tStatics : ∃ x, bodyOf E0.P 44 = some x := bo_of (by kernel_rfl)
theorem sp_tStatics_Check : specC [con_Check, con_tstatics] k_Check = Check_s := rfl
theorem sp_tStatics_tstatics : specC [con_Check, con_tstatics] k_tstatics = tstatics_s := rfl
def tStatics_s : Spec := fun ds Q => Sm (ds.take 37) ∧ ∀ n, errP (ds.take 37) n → Q [.int .i64 (if n = 0 then ((stcs (ds.take 37)).length : Int) else 0)]
theorem tStatics_h : Holds E0 k_tStatics sg_tStatics tStatics_s := con_fn wf0 mix0 g0 [con_Check, con_tstatics] rfl wk_tStatics rfl (by
  intro Φ hΦ ds Q hs ⟨hsm, h⟩
  have hl : ds.length = 37 := hs.length.symm
  have s1 : Φ k_Check = Check_s := by rw [hΦ]; rfl
  have s2 : Φ k_tstatics = tstatics_s := by rw [hΦ]; rfl
  clear hΦ
  simp only [tr_tStatics, wp, den_int, den_bool, den_nili, den_ar, den_cmp, den_not, den_len, den_elem, den_isnil, den_errI, den_ifc, den_rep, den_push, den_app, den_emp, den_upd, row0_econs, row0_enil, den_and, den_beq, den_nil, toInt_int, toBool_bool, xs_rows, xs_list, dflt_int, dflt_bool, of_eq, of_ne, of_lt, of_le, of_gt, of_ge, of_add, of_sub, of_rem, List.map_cons, List.map_nil, Dat.bool.injEq, decide_eq_true_eq, decide_eq_false_iff_not, Bool.not_eq_true', Bool.not_eq_false', beq_iff_eq, bne_iff_ne, beq_eq_false_iff_ne, bne_eq_false_iff_eq, ne_eq, List.append_assoc, List.cons_append, List.nil_append, allS, s1, s2, Check_s, tstatics_s, @den_var0 E0.Δ ds, den_varA, den_varB, hl, Nat.reduceLT, Nat.reduceLeDiff, Nat.reduceSub, List.getD_cons_zero, List.getD_cons_succ, argL_fold ds, argI_fold ds, List.append_assoc, List.cons_append, List.nil_append, toInt_int, toBool_bool, xs_rows, xs_list, Int.toNat_natCast, Dat.bool.injEq, dflt_int, fold37x (show 37 ≤ ds.length by omega), take_ta (show 37 ≤ ds.length by omega), argI_ta (show 37 ≤ ds.length by omega) 0, argL_ta (i := 0) (show 0 < 37 by omega) (show 37 ≤ ds.length by omega), argI_c0, argI_fold ds, List.append_nil]
  have et : (ds.take 37).take 37 = ds.take 37 := by rw [List.take_take]; rfl
  rw [et]
  refine ⟨hsm, fun n hn => ?_⟩
  have ha := h n hn
  rw [errV_nil]
  refine ⟨fun hx => ?_, fun hx => ?_⟩
  · have e : n ≠ 0 := of_decide_eq_false (by simpa using hx)
    rw [if_neg e] at ha
    exact ha
  · have e : n = 0 := of_decide_eq_true (by simpa using hx)
    subst e
    rw [if_pos rfl] at ha
    refine ⟨okS_of hsm hn, fun v xs hx => ?_⟩
    have := congrArg List.length hx
    rw [List.length_map, List.length_map] at this
    rw [this]
    exact ha)
noncomputable def con_tStatics : Con E0 := ⟨k_tStatics, sg_tStatics, tStatics_s, rfl, bo_tStatics, tStatics_h⟩
end Go.Proofs.YtelfhmeobfimiaaDoor
end

section
namespace Go.Proofs.YtelfhmeobfimiaaDoor
open Go.RowKit
set_option linter.unusedVariables false
set_option linter.unusedSimpArgs false

noncomputable def zhas_g : List PD → Option (List PD) := fun ps => evL E0.Δ (pfun []) 0 [] tr_has ps
def zhas_s : Spec := psp zhas_g
theorem zhas_h : Holds E0 k_has sg_has zhas_s := con_ev wf0 mix0 g0 [] rfl wk_has rfl (fits_nil) 0
noncomputable def con_zhas : Con E0 := ⟨k_has, sg_has, zhas_s, rfl, bo_has, zhas_h⟩
noncomputable def zobjects_g : List PD → Option (List PD) := fun ps => evL E0.Δ (pfun []) 60 [] tr_objects ps
def zobjects_s : Spec := psp zobjects_g
theorem zobjects_h : Holds E0 k_objects sg_objects zobjects_s := con_ev wf0 mix0 g0 [] rfl wk_objects rfl (fits_nil) 60
noncomputable def con_zobjects : Con E0 := ⟨k_objects, sg_objects, zobjects_s, rfl, bo_objects, zobjects_h⟩
noncomputable def zplayers_g : List PD → Option (List PD) := fun ps => evL E0.Δ (pfun []) 60 [] tr_players ps
def zplayers_s : Spec := psp zplayers_g
theorem zplayers_h : Holds E0 k_players sg_players zplayers_s := con_ev wf0 mix0 g0 [] rfl wk_players rfl (fits_nil) 60
noncomputable def con_zplayers : Con E0 := ⟨k_players, sg_players, zplayers_s, rfl, bo_players, zplayers_h⟩
noncomputable def zgame_g : List PD → Option (List PD) := fun ps => evL E0.Δ (pfun []) 60 [] tr_game ps
def zgame_s : Spec := psp zgame_g
theorem zgame_h : Holds E0 k_game sg_game zgame_s := con_ev wf0 mix0 g0 [] rfl wk_game rfl (fits_nil) 60
noncomputable def con_zgame : Con E0 := ⟨k_game, sg_game, zgame_s, rfl, bo_game, zgame_h⟩
noncomputable def zranges_g : List PD → Option (List PD) := fun ps => evL E0.Δ (pfun [(k_objects, zobjects_g), (k_has, zhas_g), (k_players, zplayers_g), (k_game, zgame_g)]) 200 [] tr_ranges ps
def zranges_s : Spec := psp zranges_g
theorem sp_zranges_zobjects : specC [con_zobjects, con_zhas, con_zplayers, con_zgame] k_objects = zobjects_s := rfl
theorem sp_zranges_zhas : specC [con_zobjects, con_zhas, con_zplayers, con_zgame] k_has = zhas_s := rfl
theorem sp_zranges_zplayers : specC [con_zobjects, con_zhas, con_zplayers, con_zgame] k_players = zplayers_s := rfl
theorem sp_zranges_zgame : specC [con_zobjects, con_zhas, con_zplayers, con_zgame] k_game = zgame_s := rfl
theorem zranges_h : Holds E0 k_ranges sg_ranges zranges_s := con_ev wf0 mix0 g0 [con_zobjects, con_zhas, con_zplayers, con_zgame] rfl wk_ranges rfl (fits_cons (k := k_objects) (g := zobjects_g) sp_zranges_zobjects (fits_cons (k := k_has) (g := zhas_g) sp_zranges_zhas (fits_cons (k := k_players) (g := zplayers_g) sp_zranges_zplayers (fits_cons (k := k_game) (g := zgame_g) sp_zranges_zgame (fits_nil))))) 200
noncomputable def con_zranges : Con E0 := ⟨k_ranges, sg_ranges, zranges_s, rfl, bo_ranges, zranges_h⟩
noncomputable def zSide_g : List PD → Option (List PD) := fun ps => evL E0.Δ (pfun []) 0 [] tr_Side ps
def zSide_s : Spec := psp zSide_g
theorem zSide_h : Holds E0 k_Side sg_Side zSide_s := con_ev wf0 mix0 g0 [] rfl wk_Side rfl (fits_nil) 0
noncomputable def con_zSide : Con E0 := ⟨k_Side, sg_Side, zSide_s, rfl, bo_Side, zSide_h⟩
noncomputable def zstands_g : List PD → Option (List PD) := fun ps => evL E0.Δ (pfun [(k_Side, zSide_g)]) 0 [] tr_stands ps
def zstands_s : Spec := psp zstands_g
theorem sp_zstands_zSide : specC [con_zSide] k_Side = zSide_s := rfl
theorem zstands_h : Holds E0 k_stands sg_stands zstands_s := con_ev wf0 mix0 g0 [con_zSide] rfl wk_stands rfl (fits_cons (k := k_Side) (g := zSide_g) sp_zstands_zSide (fits_nil)) 0
noncomputable def con_zstands : Con E0 := ⟨k_stands, sg_stands, zstands_s, rfl, bo_stands, zstands_h⟩
noncomputable def zzones_g : List PD → Option (List PD) := fun ps => evL E0.Δ (pfun [(k_stands, zstands_g)]) 200 [] tr_zones ps
def zzones_s : Spec := psp zzones_g
theorem sp_zzones_zstands : specC [con_zstands] k_stands = zstands_s := rfl
theorem zzones_h : Holds E0 k_zones sg_zones zzones_s := con_ev wf0 mix0 g0 [con_zstands] rfl wk_zones rfl (fits_cons (k := k_stands) (g := zstands_g) sp_zzones_zstands (fits_nil)) 200
noncomputable def con_zzones : Con E0 := ⟨k_zones, sg_zones, zzones_s, rfl, bo_zones, zzones_h⟩
noncomputable def zformed_g : List PD → Option (List PD) := fun ps => evL E0.Δ (pfun []) 60 [] tr_formed ps
def zformed_s : Spec := psp zformed_g
theorem zformed_h : Holds E0 k_formed sg_formed zformed_s := con_ev wf0 mix0 g0 [] rfl wk_formed rfl (fits_nil) 60
noncomputable def con_zformed : Con E0 := ⟨k_formed, sg_formed, zformed_s, rfl, bo_formed, zformed_h⟩
noncomputable def zCheck_g : List PD → Option (List PD) := fun ps => evL E0.Δ (pfun [(k_ranges, zranges_g), (k_zones, zzones_g), (k_formed, zformed_g)]) 200 [] tr_Check ps
def zCheck_s : Spec := psp zCheck_g
theorem sp_zCheck_zranges : specC [con_zranges, con_zzones, con_zformed] k_ranges = zranges_s := rfl
theorem sp_zCheck_zzones : specC [con_zranges, con_zzones, con_zformed] k_zones = zzones_s := rfl
theorem sp_zCheck_zformed : specC [con_zranges, con_zzones, con_zformed] k_formed = zformed_s := rfl
theorem zCheck_h : Holds E0 k_Check sg_Check zCheck_s := con_ev wf0 mix0 g0 [con_zranges, con_zzones, con_zformed] rfl wk_Check rfl (fits_cons (k := k_ranges) (g := zranges_g) sp_zCheck_zranges (fits_cons (k := k_zones) (g := zzones_g) sp_zCheck_zzones (fits_cons (k := k_formed) (g := zformed_g) sp_zCheck_zformed (fits_nil)))) 200
noncomputable def con_zCheck : Con E0 := ⟨k_Check, sg_Check, zCheck_s, rfl, bo_Check, zCheck_h⟩
noncomputable def ztkind_g : List PD → Option (List PD) := fun ps => evL E0.Δ (pfun [(k_tcard, tcard_g)]) 0 [] tr_tkind ps
def ztkind_s : Spec := psp ztkind_g
theorem sp_ztkind_tcard : specC [con_tcard] k_tcard = tcard_s := rfl
theorem ztkind_h : Holds E0 k_tkind sg_tkind ztkind_s := con_ev wf0 mix0 g0 [con_tcard] rfl wk_tkind rfl (fits_cons (k := k_tcard) (g := tcard_g) sp_ztkind_tcard (fits_nil)) 0
noncomputable def con_ztkind : Con E0 := ⟨k_tkind, sg_tkind, ztkind_s, rfl, bo_tkind, ztkind_h⟩
noncomputable def ztcreature_g : List PD → Option (List PD) := fun ps => evL E0.Δ (pfun [(k_tkind, ztkind_g)]) 0 [] tr_tcreature ps
def ztcreature_s : Spec := psp ztcreature_g
theorem sp_ztcreature_ztkind : specC [con_ztkind] k_tkind = ztkind_s := rfl
theorem ztcreature_h : Holds E0 k_tcreature sg_tcreature ztcreature_s := con_ev wf0 mix0 g0 [con_ztkind] rfl wk_tcreature rfl (fits_cons (k := k_tkind) (g := ztkind_g) sp_ztcreature_ztkind (fits_nil)) 0
noncomputable def con_ztcreature : Con E0 := ⟨k_tcreature, sg_tcreature, ztcreature_s, rfl, bo_tcreature, ztcreature_h⟩
noncomputable def ztUses_g : List PD → Option (List PD) := fun ps => evL E0.Δ (pfun []) 200 [] tr_tUses ps
def ztUses_s : Spec := psp ztUses_g
theorem ztUses_h : Holds E0 k_tUses sg_tUses ztUses_s := con_ev wf0 mix0 g0 [] rfl wk_tUses rfl (fits_nil) 200
noncomputable def con_ztUses : Con E0 := ⟨k_tUses, sg_tUses, ztUses_s, rfl, bo_tUses, ztUses_h⟩
noncomputable def ztstatics_g : List PD → Option (List PD) := fun ps => evL E0.Δ (pfun [(k_tkind, ztkind_g), (k_tUses, ztUses_g)]) 200 [] tr_tstatics ps
def ztstatics_s : Spec := psp ztstatics_g
theorem sp_ztstatics_ztkind : specC [con_ztkind, con_ztUses] k_tkind = ztkind_s := rfl
theorem sp_ztstatics_ztUses : specC [con_ztkind, con_ztUses] k_tUses = ztUses_s := rfl
theorem ztstatics_h : Holds E0 k_tstatics sg_tstatics ztstatics_s := con_ev wf0 mix0 g0 [con_ztkind, con_ztUses] rfl wk_tstatics rfl (fits_cons (k := k_tkind) (g := ztkind_g) sp_ztstatics_ztkind (fits_cons (k := k_tUses) (g := ztUses_g) sp_ztstatics_ztUses (fits_nil))) 200
noncomputable def con_ztstatics : Con E0 := ⟨k_tstatics, sg_tstatics, ztstatics_s, rfl, bo_tstatics, ztstatics_h⟩
noncomputable def ztreaches_g : List PD → Option (List PD) := fun ps => evL E0.Δ (pfun []) 0 [] tr_treaches ps
def ztreaches_s : Spec := psp ztreaches_g
theorem ztreaches_h : Holds E0 k_treaches sg_treaches ztreaches_s := con_ev wf0 mix0 g0 [] rfl wk_treaches rfl (fits_nil) 0
noncomputable def con_ztreaches : Con E0 := ⟨k_treaches, sg_treaches, ztreaches_s, rfl, bo_treaches, ztreaches_h⟩
noncomputable def zteval_g : List PD → Option (List PD) := fun ps => evL E0.Δ (pfun [(k_tkind, ztkind_g), (k_tstatics, ztstatics_g), (k_treaches, ztreaches_g)]) 200 [] tr_teval ps
def zteval_s : Spec := psp zteval_g
theorem sp_zteval_ztkind : specC [con_ztkind, con_ztstatics, con_ztreaches] k_tkind = ztkind_s := rfl
theorem sp_zteval_ztstatics : specC [con_ztkind, con_ztstatics, con_ztreaches] k_tstatics = ztstatics_s := rfl
theorem sp_zteval_ztreaches : specC [con_ztkind, con_ztstatics, con_ztreaches] k_treaches = ztreaches_s := rfl
theorem zteval_h : Holds E0 k_teval sg_teval zteval_s := con_ev wf0 mix0 g0 [con_ztkind, con_ztstatics, con_ztreaches] rfl wk_teval rfl (fits_cons (k := k_tkind) (g := ztkind_g) sp_zteval_ztkind (fits_cons (k := k_tstatics) (g := ztstatics_g) sp_zteval_ztstatics (fits_cons (k := k_treaches) (g := ztreaches_g) sp_zteval_ztreaches (fits_nil)))) 200
noncomputable def con_zteval : Con E0 := ⟨k_teval, sg_teval, zteval_s, rfl, bo_teval, zteval_h⟩
noncomputable def ztOf_g : List PD → Option (List PD) := fun ps => evL E0.Δ (pfun [(k_Check, zCheck_g), (k_tcreature, ztcreature_g), (k_teval, zteval_g)]) 0 [] tr_tOf ps
def ztOf_s : Spec := psp ztOf_g
theorem sp_ztOf_zCheck : specC [con_zCheck, con_ztcreature, con_zteval] k_Check = zCheck_s := rfl
theorem sp_ztOf_ztcreature : specC [con_zCheck, con_ztcreature, con_zteval] k_tcreature = ztcreature_s := rfl
theorem sp_ztOf_zteval : specC [con_zCheck, con_ztcreature, con_zteval] k_teval = zteval_s := rfl
theorem ztOf_h : Holds E0 k_tOf sg_tOf ztOf_s := con_ev wf0 mix0 g0 [con_zCheck, con_ztcreature, con_zteval] rfl wk_tOf rfl (fits_cons (k := k_Check) (g := zCheck_g) sp_ztOf_zCheck (fits_cons (k := k_tcreature) (g := ztcreature_g) sp_ztOf_ztcreature (fits_cons (k := k_teval) (g := zteval_g) sp_ztOf_zteval (fits_nil)))) 0
noncomputable def con_ztOf : Con E0 := ⟨k_tOf, sg_tOf, ztOf_s, rfl, bo_tOf, ztOf_h⟩
def k_alive17 : Nat := 35
def sg_alive17 : Sig := ⟨[], [(false, [.bool])], false, false, true, false, false⟩
def tr_alive17 : Tree := (.share 36 (.push (.push .emp (.econs (.int .i64 10) (.econs (.int .i64 0) (.econs (.int .i64 0) (.econs (.int .i64 8) (.econs (.int .i64 0) (.econs (.int .i64 0) (.econs (.int .i64 0) (.econs (.int .i64 0) (.econs (.int .i64 0) (.econs (.int .i64 0) (.econs (.int .i64 0) (.econs (.int .i64 0) (.econs (.int .i64 0) (.econs (.int .i64 0) (.econs (.int .i64 0) (.econs (.int .i64 0) (.econs (.int .i64 0) (.econs (.int .i64 0) .enil))))))))))))))))))) (.econs (.int .i64 84) (.econs (.int .i64 0) (.econs (.int .i64 0) (.econs (.int .i64 8) (.econs (.int .i64 0) (.econs (.int .i64 0) (.econs (.int .i64 0) (.econs (.int .i64 0) (.econs (.int .i64 0) (.econs (.int .i64 0) (.econs (.int .i64 0) (.econs (.int .i64 0) (.econs (.int .i64 0) (.econs (.int .i64 0) (.econs (.int .i64 0) (.econs (.int .i64 0) (.econs (.int .i64 0) (.econs (.int .i64 0) .enil)))))))))))))))))))
(.share 3 (.push (.push .emp (.econs (.int .i64 0) .enil)) (.econs (.int .i64 1) .enil))
(.call k_tOf [(.var 0), (.nil 3), (.nil 3), (.nil 3), (.nil 3), (.nil 3), (.nil 3), (.nil 3), (.nil 3), (.var 1), (.nil 3), (.nil 3), (.int .i64 0), (.int .i64 0), (.int .i64 0), (.int .i64 0), (.int .i64 0), (.int .i64 0), (.int .i64 0), (.int .i64 0), (.int .i64 0), (.int .i64 0), (.int .i64 0), (.int .i64 0), (.int .i64 0), (.int .i64 0), (.int .i64 0), (.int .i64 0), (.int .i64 0), (.int .i64 0), (.int .i64 0), (.int .i64 0), (.int .i64 0), (.int .i64 0), (.int .i64 0), (.int .i64 0), (.int .i64 0), (.int .i64 0)] [(.int .i64), (.int .i64), (.int .i64), .err]
(.ret [(.and (.isnil (.var 5)) (.and (.cmp .eq (.var 2) (.int .i64 2)) (.and (.cmp .eq (.var 3) (.int .i64 2)) (.cmp .eq (.var 4) (.int .i64 1)))))]))))
theorem wk_alive17 : walk E0.cx (sgsN [(37, sg_tOf)]) 0 35 sg_alive17 = tr_alive17 := by kernel_rfl
theorem bo_alive17 : ∃ x, bodyOf E0.P 35 = some x := bo_of (by kernel_rfl)
theorem sp_alive17_tOf : specC [con_tOf] k_tOf = tOf_s := rfl
noncomputable def zalive17_g : List PD → Option (List PD) := fun ps => evL E0.Δ (pfun [(k_tOf, ztOf_g)]) 0 [] tr_alive17 ps
def zalive17_s : Spec := psp zalive17_g
theorem sp_zalive17_ztOf : specC [con_ztOf] k_tOf = ztOf_s := rfl
theorem zalive17_h : Holds E0 k_alive17 sg_alive17 zalive17_s := con_ev wf0 mix0 g0 [con_ztOf] rfl wk_alive17 rfl (fits_cons (k := k_tOf) (g := ztOf_g) sp_zalive17_ztOf (fits_nil)) 0
noncomputable def con_zalive17 : Con E0 := ⟨k_alive17, sg_alive17, zalive17_s, rfl, bo_alive17, zalive17_h⟩
theorem zalive17_ok : zalive17_g [] = some [.bool true] := by kernel_rfl
def alive17_s : Spec := true_s
theorem alive17_h : Holds E0 k_alive17 sg_alive17 alive17_s := holds_mono zalive17_h fun ds Q hs h => by
  have hl : ds.length = 0 := hs.length.symm
  obtain rfl : ds = [] := List.length_eq_zero_iff.1 hl
  refine ⟨_, zalive17_ok, fun rs' hr => ?_⟩
  obtain ⟨d, rs, rfl, h1, h2⟩ := List.map_eq_cons_iff.1 hr
  rw [List.map_eq_nil_iff] at h2
  subst h2
  rw [strip_isBool h1]
  exact h
noncomputable def con_alive17 : Con E0 := ⟨k_alive17, sg_alive17, alive17_s, rfl, bo_alive17, alive17_h⟩
end Go.Proofs.YtelfhmeobfimiaaDoor
end

section
namespace Go.Proofs.YtelfhmeobfimiaaDoor
open Go.RowKit
set_option linter.unusedVariables false
set_option linter.unusedSimpArgs false

def k_rOf17 : Nat := 42
def sg_rOf17 : Sig := ⟨[(true, [.list 36] ++ List.replicate 11 (.list 3) ++ List.replicate 25 (.int .i64)), (false, [.int .i64])], [(true, [.int .i64, .int .i64, .int .i64])], false, false, true, false, false⟩
def tr_rOf17_1 : Tree := (.call k_rwithin [(.var 0), (.var 1), (.var 2), (.var 3), (.var 4), (.var 5), (.var 6), (.var 7), (.var 8), (.var 9), (.var 10), (.var 11), (.var 12), (.var 13), (.var 14), (.var 15), (.var 16), (.var 17), (.var 18), (.var 19), (.var 20), (.var 21), (.var 22), (.var 23), (.var 24), (.var 25), (.var 26), (.var 27), (.var 28), (.var 29), (.var 30), (.var 31), (.var 32), (.var 33), (.var 34), (.var 35), (.var 36), (.elem (.var 59) (.var 61) 0 (.int .i64)), (.elem (.var 59) (.var 61) 1 (.int .i64)), (.elem (.var 59) (.var 61) 2 (.int .i64)), (.elem (.var 59) (.var 61) 3 (.int .i64)), (.elem (.var 59) (.var 61) 4 (.int .i64)), (.elem (.var 59) (.var 61) 5 (.list 57)), (.var 37)] [.bool] (.ite (.var 62) (.call k_rturned [(.var 60), (.elem (.elem (.var 59) (.var 61) 5 (.list 57)) (.int .i64 0) 1 (.int .i64)), (.cmp .eq (.elem (.elem (.var 59) (.var 61) 5 (.list 57)) (.int .i64 0) 0 (.int .i64)) (.int .i64 23))] [(.int .u64)] (.again 2 [(.var 63), (.ar .add .i64 (.var 61) (.int .i64 1))])) (.again 2 [(.var 60), (.ar .add .i64 (.var 61) (.int .i64 1))])))
def tr_rOf17_2 : Tree := (.call k_rStatics [(.var 0), (.var 1), (.var 2), (.var 3), (.var 4), (.var 5), (.var 6), (.var 7), (.var 8), (.var 9), (.var 10), (.var 11), (.var 12), (.var 13), (.var 14), (.var 15), (.var 16), (.var 17), (.var 18), (.var 19), (.var 20), (.var 21), (.var 22), (.var 23), (.var 24), (.var 25), (.var 26), (.var 27), (.var 28), (.var 29), (.var 30), (.var 31), (.var 32), (.var 33), (.var 34), (.var 35), (.var 36)] [(.list 118)] (.loop [(.var 47), (.var 48), (.int .i64 0)] [(.int .i64), (.int .i64), (.int .i64)] (.ite (.cmp .lt (.var 54) (.len (.var 51))) (.ob (.cmp .ge (.var 54) (.int .i64 0)) (.ob (.cmp .lt (.int .i64 0) (.len (.elem (.var 51) (.var 54) 5 (.list 57)))) (.ite (.cmp .eq (.elem (.elem (.var 51) (.var 54) 5 (.list 57)) (.int .i64 0) 0 (.int .i64)) (.int .i64 24)) (.call k_rwithin [(.var 0), (.var 1), (.var 2), (.var 3), (.var 4), (.var 5), (.var 6), (.var 7), (.var 8), (.var 9), (.var 10), (.var 11), (.var 12), (.var 13), (.var 14), (.var 15), (.var 16), (.var 17), (.var 18), (.var 19), (.var 20), (.var 21), (.var 22), (.var 23), (.var 24), (.var 25), (.var 26), (.var 27), (.var 28), (.var 29), (.var 30), (.var 31), (.var 32), (.var 33), (.var 34), (.var 35), (.var 36), (.elem (.var 51) (.var 54) 0 (.int .i64)), (.elem (.var 51) (.var 54) 1 (.int .i64)), (.elem (.var 51) (.var 54) 2 (.int .i64)), (.elem (.var 51) (.var 54) 3 (.int .i64)), (.elem (.var 51) (.var 54) 4 (.int .i64)), (.elem (.var 51) (.var 54) 5 (.list 57)), (.var 37)] [.bool] (.ite (.var 55) (.again 0 [(.elem (.elem (.var 51) (.var 54) 5 (.list 57)) (.int .i64 0) 1 (.int .i64)), (.elem (.elem (.var 51) (.var 54) 5 (.list 57)) (.int .i64 0) 2 (.int .i64)), (.ar .add .i64 (.var 54) (.int .i64 1))]) (.again 0 [(.var 52), (.var 53), (.ar .add .i64 (.var 54) (.int .i64 1))]))) (.again 0 [(.var 52), (.var 53), (.ar .add .i64 (.var 54) (.int .i64 1))])))) (.call k_rStatics [(.var 0), (.var 1), (.var 2), (.var 3), (.var 4), (.var 5), (.var 6), (.var 7), (.var 8), (.var 9), (.var 10), (.var 11), (.var 12), (.var 13), (.var 14), (.var 15), (.var 16), (.var 17), (.var 18), (.var 19), (.var 20), (.var 21), (.var 22), (.var 23), (.var 24), (.var 25), (.var 26), (.var 27), (.var 28), (.var 29), (.var 30), (.var 31), (.var 32), (.var 33), (.var 34), (.var 35), (.var 36)] [(.list 118)] (.loop [(.ar .add .i64 (.var 52) (.elem (.var 0) (.var 37) 7 (.int .i64))), (.ar .add .i64 (.var 53) (.elem (.var 0) (.var 37) 7 (.int .i64))), (.int .i64 0)] [(.int .i64), (.int .i64), (.int .i64)] (.ite (.cmp .lt (.var 58) (.len (.var 55))) (.ob (.cmp .ge (.var 58) (.int .i64 0)) (.ob (.cmp .lt (.int .i64 0) (.len (.elem (.var 55) (.var 58) 5 (.list 57)))) (.ite (.cmp .eq (.elem (.elem (.var 55) (.var 58) 5 (.list 57)) (.int .i64 0) 0 (.int .i64)) (.int .i64 10)) (.call k_rwithin [(.var 0), (.var 1), (.var 2), (.var 3), (.var 4), (.var 5), (.var 6), (.var 7), (.var 8), (.var 9), (.var 10), (.var 11), (.var 12), (.var 13), (.var 14), (.var 15), (.var 16), (.var 17), (.var 18), (.var 19), (.var 20), (.var 21), (.var 22), (.var 23), (.var 24), (.var 25), (.var 26), (.var 27), (.var 28), (.var 29), (.var 30), (.var 31), (.var 32), (.var 33), (.var 34), (.var 35), (.var 36), (.elem (.var 55) (.var 58) 0 (.int .i64)), (.elem (.var 55) (.var 58) 1 (.int .i64)), (.elem (.var 55) (.var 58) 2 (.int .i64)), (.elem (.var 55) (.var 58) 3 (.int .i64)), (.elem (.var 55) (.var 58) 4 (.int .i64)), (.elem (.var 55) (.var 58) 5 (.list 57)), (.var 37)] [.bool] (.ite (.var 59) (.again 1 [(.ar .add .i64 (.var 56) (.elem (.elem (.var 55) (.var 58) 5 (.list 57)) (.int .i64 0) 1 (.int .i64))), (.ar .add .i64 (.var 57) (.elem (.elem (.var 55) (.var 58) 5 (.list 57)) (.int .i64 0) 2 (.int .i64))), (.ar .add .i64 (.var 58) (.int .i64 1))]) (.again 1 [(.var 56), (.var 57), (.ar .add .i64 (.var 58) (.int .i64 1))]))) (.again 1 [(.var 56), (.var 57), (.ar .add .i64 (.var 58) (.int .i64 1))])))) (.call k_rStatics [(.var 0), (.var 1), (.var 2), (.var 3), (.var 4), (.var 5), (.var 6), (.var 7), (.var 8), (.var 9), (.var 10), (.var 11), (.var 12), (.var 13), (.var 14), (.var 15), (.var 16), (.var 17), (.var 18), (.var 19), (.var 20), (.var 21), (.var 22), (.var 23), (.var 24), (.var 25), (.var 26), (.var 27), (.var 28), (.var 29), (.var 30), (.var 31), (.var 32), (.var 33), (.var 34), (.var 35), (.var 36)] [(.list 118)] (.loop [(.conv .u64 (.var 49)), (.int .i64 0)] [(.int .u64), (.int .i64)] (.ite (.cmp .lt (.var 61) (.len (.var 59))) (.ob (.cmp .ge (.var 61) (.int .i64 0)) (.ob (.cmp .lt (.int .i64 0) (.len (.elem (.var 59) (.var 61) 5 (.list 57)))) (.ite (.cmp .eq (.elem (.elem (.var 59) (.var 61) 5 (.list 57)) (.int .i64 0) 0 (.int .i64)) (.int .i64 23)) tr_rOf17_1 (.ite (.cmp .eq (.elem (.elem (.var 59) (.var 61) 5 (.list 57)) (.int .i64 0) 0 (.int .i64)) (.int .i64 25)) tr_rOf17_1 (.again 2 [(.var 60), (.ar .add .i64 (.var 61) (.int .i64 1))]))))) (.call k_rturned [(.var 60), (.elem (.var 0) (.var 37) 10 (.int .i64)), (.bool true)] [(.int .u64)] (.ret [(.ar .add .i64 (.var 56) (.elem (.var 0) (.var 37) 8 (.int .i64))), (.ar .add .i64 (.var 57) (.elem (.var 0) (.var 37) 9 (.int .i64))), (.conv .i64 (.var 62))])))))))))))
def tr_rOf17_3 : Tree := (.call k_rCard17 [(.var 0), (.var 1), (.var 2), (.var 3), (.var 4), (.var 5), (.var 6), (.var 7), (.var 8), (.var 9), (.var 10), (.var 11), (.var 12), (.var 13), (.var 14), (.var 15), (.var 16), (.var 17), (.var 18), (.var 19), (.var 20), (.var 21), (.var 22), (.var 23), (.var 24), (.var 25), (.var 26), (.var 27), (.var 28), (.var 29), (.var 30), (.var 31), (.var 32), (.var 33), (.var 34), (.var 35), (.var 36), (.var 37)] [(.int .i64), (.int .i64), .bool, (.int .i64), (.int .i64), (.int .i64), (.int .i64), (.int .i64), (.int .i64), (.int .i64), (.int .i64), (.int .i64), (.list 59)] tr_rOf17_2)
def tr_rOf17 : Tree := (.ob (.cmp .ge (.var 37) (.int .i64 0)) (.ob (.cmp .lt (.var 37) (.len (.var 0))) (.both (.call k_rCard17 [(.var 0), (.var 1), (.var 2), (.var 3), (.var 4), (.var 5), (.var 6), (.var 7), (.var 8), (.var 9), (.var 10), (.var 11), (.var 12), (.var 13), (.var 14), (.var 15), (.var 16), (.var 17), (.var 18), (.var 19), (.var 20), (.var 21), (.var 22), (.var 23), (.var 24), (.var 25), (.var 26), (.var 27), (.var 28), (.var 29), (.var 30), (.var 31), (.var 32), (.var 33), (.var 34), (.var 35), (.var 36), (.var 37)] [(.int .i64), (.int .i64), .bool, (.int .i64), (.int .i64), (.int .i64), (.int .i64), (.int .i64), (.int .i64), (.int .i64), (.int .i64), (.int .i64), (.list 59)] (.both tr_rOf17_2 tr_rOf17_2)) (.both (.both tr_rOf17_3 tr_rOf17_3) (.both tr_rOf17_3 tr_rOf17_3)))))
theorem wk_rOf17 : walk E0.cx (sgsN [(79, sg_rCard17), (48, sg_rStatics), (80, sg_rwithin), (81, sg_rturned)]) 0 42 sg_rOf17 = tr_rOf17 := by kernel_rfl
theorem bo_rOf17 : ∃ x, bodyOf E0.P 42 = some x := bo_of (by kernel_rfl)
theorem sp_rOf17_rCard17 : specC [con_rCard17, con_rStatics, con_rwithin, con_rturned] k_rCard17 = rCard17_s := rfl
theorem sp_rOf17_rStatics : specC [con_rCard17, con_rStatics, con_rwithin, con_rturned] k_rStatics = rStatics_s := rfl
theorem sp_rOf17_rwithin : specC [con_rCard17, con_rStatics, con_rwithin, con_rturned] k_rwithin = rwithin_s := rfl
theorem sp_rOf17_rturned : specC [con_rCard17, con_rStatics, con_rwithin, con_rturned] k_rturned = rturned_s := rfl
def rOf17_s : Spec := fun ds Q => OkS (ds.take 37) ∧ 0 ≤ argI ds 37 ∧ argI ds 37 < (argL ds 0).length ∧ Q [.int .i64 ((puR (ds.take 37) (argI ds 37)).1 + oI (ds.take 37) (argI ds 37) 8), .int .i64 ((puR (ds.take 37) (argI ds 37)).2 + oI (ds.take 37) (argI ds 37) 9), .int .i64 (woR (ds.take 37) (argI ds 37) : Nat)]
theorem rOf17_2 {Φ : Nat → Spec} (s1 : Φ k_rCard17 = rCard17_s) (s2 : Φ k_rStatics = rStatics_s) (s3 : Φ k_rwithin = rwithin_s) (s4 : Φ k_rturned = rturned_s) {ds : List Dat} {Q : List Dat → Prop} (hs : All2 (Has E0.Δ) (Sig.sorts sg_rOf17.params) ds) (hok : OkS (ds.take 37)) (h0 : 0 ≤ argI ds 37) (h1 : argI ds 37 < (argL ds 0).length)
    (h : Q [.int .i64 ((puR (ds.take 37) (argI ds 37)).1 + oI (ds.take 37) (argI ds 37) 8), .int .i64 ((puR (ds.take 37) (argI ds 37)).2 + oI (ds.take 37) (argI ds 37) 9), .int .i64 (woR (ds.take 37) (argI ds 37) : Nat)]) {rs : List Dat} (hr : rs.map strip = cardP (cardI (ds.take 37) (argI ds 37))) : wp E0.Δ Φ Q tr_rOf17_2 (ds ++ rs) [] := by
  have hl : ds.length = 38 := hs.length.symm
  have hol : (argL (ds.take 37) 0).length = (argL ds 0).length := by rw [argL_t (by omega)]
  have h1' : argI ds 37 < (argL (ds.take 37) 0).length := by rw [hol]; exact h1
  have hcd := hok.cards h0 h1'
  have hrl := card_rlen hcd.1 hcd.2 hr
  have hsm := hok.small 9 (by omega)
  rw [argL_t (by omega)] at hsm
  have hml : (lst (ds.take 37) 8).length = (argL ds 9).length := lst_lenT ds (z := 8) (by omega)
  have hlen := stcs_len hok
  have rows : ∀ xs : List (List Dat), (xs.map fun r => r.map strip) = staticsR (ds.take 37) → xs.length = (stcs (ds.take 37)).length ∧ ∀ i, i < (stcs (ds.take 37)).length → (xs.getD i []).map strip = encS ((stcs (ds.take 37)).getD i y0) := fun xs hx => by
    rw [staticsR_eq] at hx
    have hlen := congrArg List.length hx
    rw [List.length_map, List.length_map] at hlen
    refine ⟨hlen, fun i hi => ?_⟩
    have := congrArg (fun l => l[i]?) hx
    simp only [List.getElem?_map] at this
    rw [List.getElem?_eq_getElem (by omega), List.getElem?_eq_getElem (by omega)] at this
    rw [List.getD_eq_getElem?_getD, List.getD_eq_getElem?_getD, List.getElem?_eq_getElem (by omega), List.getElem?_eq_getElem (by omega)]
    exact Option.some.inj this
  have T := stcs_ok hok
  have BB := bK_b hok h0 h1'
  have PB := pK_b hok h0 h1'
  have WB := wK_b hok h0 h1'
  have BS := fun j => bK_s (S := ds.take 37) (id := argI ds 37) (j := j)
  have PS := fun j => pK_s (S := ds.take 37) (id := argI ds 37) (j := j)
  have WS := fun j => wK_s (S := ds.take 37) (id := argI ds 37) (j := j)
  have x9 := card_int hcd.1 hcd.2 hr (i := 9) rfl (.bool false)
  have x10 := card_int hcd.1 hcd.2 hr (i := 10) rfl (.bool false)
  have x11 := card_int hcd.1 hcd.2 hr (i := 11) rfl (.bool false)
  have hb7 := hok.num _ (obj_mem h0 h1') 7 (by omega) (by omega)
  have hb8 := hok.num _ (obj_mem h0 h1') 8 (by omega) (by omega)
  have hb9 := hok.num _ (obj_mem h0 h1') 9 (by omega) (by omega)
  have hb10 := hok.word _ (obj_mem h0 h1')
  have F := (cardF hcd.1 hcd.2).say
  match rs, hrl with
  | [x0, x1, x2, x3, x4, x5, x6, x7, x8, y9, y10, y11, x12], _ =>
  simp only [List.getD_cons_succ, List.getD_cons_zero] at x9 x10 x11
  unfold tr_rOf17_2
  simp only [tr_rOf17_1, wp, den_int, den_bool, den_nili, den_ar, den_cmp, den_not, den_len, den_elem, den_isnil, den_errI, den_ifc, den_rep, den_push, den_app, den_emp, den_upd, row0_econs, row0_enil, den_and, den_beq, den_nil, toInt_int, toBool_bool, xs_rows, xs_list, dflt_int, dflt_bool, of_eq, of_ne, of_lt, of_le, of_gt, of_ge, of_add, of_sub, of_rem, List.map_cons, List.map_nil, Dat.bool.injEq, decide_eq_true_eq, decide_eq_false_iff_not, Bool.not_eq_true', Bool.not_eq_false', beq_iff_eq, bne_iff_ne, beq_eq_false_iff_ne, bne_eq_false_iff_eq, ne_eq, List.append_assoc, List.cons_append, List.nil_append, allS, s1, s2, s3, s4, rStatics_s, rwithin_s, rturned_s, rCard17_s, @den_var0 E0.Δ ds, den_varA, den_varB, hl, Nat.reduceLT, Nat.reduceLeDiff, Nat.reduceSub, List.getD_cons_zero, List.getD_cons_succ, argL_fold ds, argI_fold ds, List.append_assoc, List.cons_append, List.nil_append, toInt_int, toBool_bool, xs_rows, xs_list, Int.toNat_natCast, Dat.bool.injEq, dflt_int, fold37x (show 37 ≤ ds.length by omega), take_ta (show 37 ≤ ds.length by omega), argI_ta (show 37 ≤ ds.length by omega) 0, argL_ta (i := 0) (show 0 < 37 by omega) (show 37 ≤ ds.length by omega), argI_c0, argI_fold ds, toInt_getD, den_or, den_conv, List.getElem?_cons_zero, List.getElem?_cons_succ, argI_ta (show 37 ≤ ds.length by omega) 2, argI_ta (show 37 ≤ ds.length by omega) 6, argI_c1, Int.toNat_zero]
  have hB0 : bK (ds.take 37) (argI ds 37) 0 = (cI (cardI (ds.take 37) (argI ds 37)) 9, cI (cardI (ds.take 37) (argI ds 37)) 10) := rfl
  have hP0 : pK (ds.take 37) (argI ds 37) 0 = ((bK (ds.take 37) (argI ds 37) (stcs (ds.take 37)).length).1 + rowI (obj (ds.take 37) (argI ds 37)) 7, (bK (ds.take 37) (argI ds 37) (stcs (ds.take 37)).length).2 + rowI (obj (ds.take 37) (argI ds 37)) 7) := rfl
  have hW0 : wK (ds.take 37) (argI ds 37) 0 = (cI (cardI (ds.take 37) (argI ds 37)) 11).toNat := rfl
  have hwo : woR (ds.take 37) (argI ds 37) = turnK (wK (ds.take 37) (argI ds 37) (stcs (ds.take 37)).length) (rowI (obj (ds.take 37) (argI ds 37)) 10).toNat true 8 := rfl
  unfold puR oI at h
  rw [hwo] at h
  simp only [← obj_t]
  generalize bK (ds.take 37) (argI ds 37) = B at *
  generalize pK (ds.take 37) (argI ds 37) = P at *
  generalize wK (ds.take 37) (argI ds 37) = W at *
  generalize obj (ds.take 37) (argI ds 37) = ob at *
  rw [hol] at T
  clear hlen
  have hlen : (stcs (ds.take 37)).length ≤ 2000000 := by
    have := stcs_len hok
    omega
  generalize stcs (ds.take 37) = L at *
  have hw : ∀ j, j ≤ L.length → IntKind.i64.wrap ((j : Int) + 1) = ((j + 1 : Nat) : Int) := fun j hj => by rw [wrap64 (by omega) (by omega)]; rfl
  refine ⟨hok, fun v xs hx => ?_⟩
  obtain ⟨hxl, hxr⟩ := rows xs hx
  refine ⟨fun ts m => ∃ j, j ≤ L.length ∧ m = L.length - j ∧ ts.map Dat.toInt = [(B j).1, (B j).2, j], ⟨_, 0, by omega, rfl, by simp only [List.map_cons, List.map_nil, x9, x10, hB0]; rfl⟩, ?_⟩
  intro p t n m ⟨j, hj, hm, e⟩
  simp only [List.map_cons, List.map_nil, toInt_int, List.cons.injEq, and_true] at e
  obtain ⟨e1, e2, e3⟩ := e
  subst e3 hm
  refine ⟨fun hlt => ?_, fun hge => ?_⟩
  · have hj2 : j < L.length := by omega
    rw [Int.toNat_natCast]
    have hrow := hxr j hj2
    have hst := BS j hj2
    have hT := T _ (getD_memL (d := y0) hj2)
    generalize L.getD j y0 = y at *
    generalize xs.getD j [] = r at *
    obtain ⟨q0, q2, q5⟩ := stRow hrow
    obtain ⟨v5, sub, e5, w0, w1, w2⟩ := q5 (dflt E0.Δ (.list 57))
    have next : ∀ a b : Dat, (a.toInt, b.toInt) = stepB (ds.take 37) (argI ds 37) (B j) y → ∃ m', m' < L.length - j ∧ ∃ j', j' ≤ L.length ∧ m' = L.length - j' ∧ [a, b, Dat.int .i64 (IntKind.i64.wrap ((j : Int) + 1))].map Dat.toInt = [(B j').1, (B j').2, j'] := fun a b hab =>
      ⟨L.length - (j + 1), by omega, j + 1, by omega, rfl, by rw [hst, ← hab]; simp only [List.map_cons, List.map_nil, toInt_int, hw j (by omega)]⟩
    simp only [e5, xs_list, List.length_cons, List.length_nil, List.getD_cons_zero, w0, q0, q2]
    have eB : (p, t) = B j := by rw [e1, e2]
    refine ⟨by omega, by omega, fun hop => ⟨hT.2.1, hT.2.2, h0, h1, fun hin => next _ _ ?_, fun hin => next _ _ ?_⟩, fun hop => next _ _ ?_⟩
    · unfold stepB
      rw [if_pos hop, if_pos hin]
      exact Prod.ext w1 w2
    · unfold stepB
      rw [if_pos hop, if_neg (by rw [hin]; exact Bool.false_ne_true)]
      exact eB
    · unfold stepB
      rw [if_neg hop]
      exact eB
  obtain rfl : j = L.length := by omega
  clear hge hj
  have b7 := BB _ (Nat.le_refl _)
  refine ⟨hok, fun v2 xs2 hx2 => ?_⟩
  obtain ⟨hxl2, hxr2⟩ := rows xs2 hx2
  clear hxr hxl hx
  refine ⟨fun ts m => ∃ j, j ≤ L.length ∧ m = L.length - j ∧ ts.map Dat.toInt = [(P j).1, (P j).2, j], ⟨_, 0, by omega, rfl, by simp only [List.map_cons, List.map_nil, toInt_int, e1, e2, hP0]; rw [wrap64 (by omega) (by omega), wrap64 (by omega) (by omega)]; rfl⟩, ?_⟩
  clear e1 e2
  intro p2 t2 n2 m2 ⟨j, hj, hm, e⟩
  simp only [List.map_cons, List.map_nil, toInt_int, List.cons.injEq, and_true] at e
  obtain ⟨e1, e2, e3⟩ := e
  subst e3 hm
  refine ⟨fun hlt => ?_, fun hge => ?_⟩
  · have hj2 : j < L.length := by omega
    rw [Int.toNat_natCast]
    have hrow := hxr2 j hj2
    have hst := PS j hj2
    have hT := T _ (getD_memL (d := y0) hj2)
    generalize L.getD j y0 = y at *
    generalize xs2.getD j [] = r at *
    obtain ⟨q0, q2, q5⟩ := stRow hrow
    obtain ⟨v5, sub, e5, w0, w1, w2⟩ := q5 (dflt E0.Δ (.list 57))
    have next : ∀ a b : Dat, (a.toInt, b.toInt) = stepP (ds.take 37) (argI ds 37) (P j) y → ∃ m', m' < L.length - j ∧ ∃ j', j' ≤ L.length ∧ m' = L.length - j' ∧ [a, b, Dat.int .i64 (IntKind.i64.wrap ((j : Int) + 1))].map Dat.toInt = [(P j').1, (P j').2, j'] := fun a b hab =>
      ⟨L.length - (j + 1), by omega, j + 1, by omega, rfl, by rw [hst, ← hab]; simp only [List.map_cons, List.map_nil, toInt_int, hw j (by omega)]⟩
    simp only [e5, xs_list, List.length_cons, List.length_nil, List.getD_cons_zero, w0, q0, q2, w1, w2]
    have eB : (p2, t2) = P j := by rw [e1, e2]
    have hpb := PB j (by omega)
    have hy := (okStc_cases hT.1).1
    refine ⟨by omega, by omega, fun hop => ⟨hT.2.1, hT.2.2, h0, h1, fun hin => next _ _ ?_, fun hin => next _ _ ?_⟩, fun hop => next _ _ ?_⟩
    · have hy2 := hy hop
      unfold stepP
      rw [if_pos hop, if_pos hin]
      simp only [toInt_int]
      rw [wrap64 (by omega) (by omega), wrap64 (by omega) (by omega), e1, e2]
    · unfold stepP
      rw [if_pos hop, if_neg (by rw [hin]; exact Bool.false_ne_true)]
      exact eB
    · unfold stepP
      rw [if_neg hop]
      exact eB
  obtain rfl : j = L.length := by omega
  clear hge hj
  have p7 := PB _ (Nat.le_refl _)
  refine ⟨hok, fun v3 xs3 hx3 => ?_⟩
  obtain ⟨hxl3, hxr3⟩ := rows xs3 hx3
  clear hxr2 hxl2 hx2
  refine ⟨fun ts m => ∃ j, j ≤ L.length ∧ m = L.length - j ∧ ts.map Dat.toInt = [(W j : Int), j], ⟨_, 0, by omega, rfl, by simp only [List.map_cons, List.map_nil, toInt_int, x11, hW0]; rw [IntWalk.u64_in _ (by omega), Int.toNat_of_nonneg F.1]; rfl⟩, ?_⟩
  intro w n3 m3 ⟨j, hj, hm, e⟩
  simp only [List.map_cons, List.map_nil, toInt_int, List.cons.injEq, and_true] at e
  obtain ⟨e4, e5⟩ := e
  subst e4 e5 hm
  refine ⟨fun hlt => ?_, fun hge => ?_⟩
  · have hj2 : j < L.length := by omega
    rw [Int.toNat_natCast]
    have hrow := hxr3 j hj2
    have hst := WS j hj2
    have hT := T _ (getD_memL (d := y0) hj2)
    generalize L.getD j y0 = y at *
    generalize xs3.getD j [] = r at *
    obtain ⟨q0, q2, q5⟩ := stRow hrow
    obtain ⟨v5, sub, e5, w0, w1, w2⟩ := q5 (dflt E0.Δ (.list 57))
    have next : ∀ a : Dat, a.toInt = (stepW (ds.take 37) (argI ds 37) (W j) y : Nat) → ∃ m', m' < L.length - j ∧ ∃ j', j' ≤ L.length ∧ m' = L.length - j' ∧ [a, Dat.int .i64 (IntKind.i64.wrap ((j : Int) + 1))].map Dat.toInt = [(W j' : Int), j'] := fun a hab =>
      ⟨L.length - (j + 1), by omega, j + 1, by omega, rfl, by rw [hst, ← hab]; simp only [List.map_cons, List.map_nil, toInt_int, hw j (by omega)]⟩
    simp only [e5, xs_list, List.length_cons, List.length_nil, List.getD_cons_zero, List.getD_cons_succ, w0, q0, q2, w1, w2]
    have hwb := WB j (by omega)
    have hy := (okStc_cases hT.1).2.2
    refine ⟨by omega, by omega, fun hop => ⟨hT.2.1, hT.2.2, h0, h1, fun hin => ⟨W j, y.2.2.2.1.toNat, true, hwb, ?_, rfl, ?_, by rw [hop]; rfl, next _ ?_⟩, fun hin => next _ ?_⟩, fun hop => ⟨fun hop2 => ⟨hT.2.1, hT.2.2, h0, h1, fun hin => ⟨W j, y.2.2.2.1.toNat, false, hwb, ?_, rfl, ?_, by rw [hop2]; rfl, next _ ?_⟩, fun hin => next _ ?_⟩, fun hop2 => next _ ?_⟩⟩
    · have := hy.1 hop; omega
    · have := hy.1 hop; omega
    · unfold stepW
      rw [if_pos hop, if_pos hin]; rfl
    · unfold stepW
      rw [if_pos hop, if_neg (by rw [hin]; exact Bool.false_ne_true)]; rfl
    · have := hy.2 hop2; omega
    · have := hy.2 hop2; omega
    · unfold stepW
      rw [if_neg hop, if_pos hop2, if_pos hin]; rfl
    · unfold stepW
      rw [if_neg hop, if_pos hop2, if_neg (by rw [hin]; exact Bool.false_ne_true)]; rfl
    · unfold stepW
      rw [if_neg hop, if_neg hop2]; rfl
  obtain rfl : j = L.length := by omega
  have w7 := WB _ (Nat.le_refl _)
  refine ⟨W L.length, (rowI ob 10).toNat, true, w7, by omega, rfl, by rw [Int.toNat_of_nonneg hb10.1], rfl, ?_⟩
  have t7 := turnK_256 (is := true) w7 (show (rowI ob 10).toNat < 256 by omega)
  rw [wrap64 (by omega) (by omega), wrap64 (by omega) (by omega), wrap64 (by omega) (by omega), e1, e2]
  exact h
theorem rOf17_h : Holds E0 k_rOf17 sg_rOf17 rOf17_s := con_fn wf0 mix0 g0 [con_rCard17, con_rStatics, con_rwithin, con_rturned] rfl wk_rOf17 rfl (by
  intro Φ hΦ ds Q hs ⟨hok, h0, h1, h⟩
  have hl : ds.length = 38 := hs.length.symm
  have s1 : Φ k_rCard17 = rCard17_s := by rw [hΦ]; rfl
  have s2 : Φ k_rStatics = rStatics_s := by rw [hΦ]; rfl
  have s3 : Φ k_rwithin = rwithin_s := by rw [hΦ]; rfl
  have s4 : Φ k_rturned = rturned_s := by rw [hΦ]; rfl
  clear hΦ
  have key : ∀ rs : List Dat, rs.map strip = cardP (cardI (ds.take 37) (argI ds 37)) → wp E0.Δ Φ Q tr_rOf17_2 (ds ++ rs) [] := fun rs hr => rOf17_2 s1 s2 s3 s4 hs hok h0 h1 h hr
  clear s2 s3 s4
  simp only [tr_rOf17, tr_rOf17_3, wp, den_int, den_bool, den_nili, den_ar, den_cmp, den_not, den_len, den_elem, den_isnil, den_errI, den_ifc, den_rep, den_push, den_app, den_emp, den_upd, row0_econs, row0_enil, den_and, den_beq, den_nil, toInt_int, toBool_bool, xs_rows, xs_list, dflt_int, dflt_bool, of_eq, of_ne, of_lt, of_le, of_gt, of_ge, of_add, of_sub, of_rem, List.map_cons, List.map_nil, Dat.bool.injEq, decide_eq_true_eq, decide_eq_false_iff_not, Bool.not_eq_true', Bool.not_eq_false', beq_iff_eq, bne_iff_ne, beq_eq_false_iff_ne, bne_eq_false_iff_eq, ne_eq, List.append_assoc, List.cons_append, List.nil_append, allS, s1, rCard17_s, @den_var0 E0.Δ ds, den_varA, den_varB, hl, Nat.reduceLT, Nat.reduceLeDiff, Nat.reduceSub, List.getD_cons_zero, List.getD_cons_succ, argL_fold ds, argI_fold ds, List.append_assoc, List.cons_append, List.nil_append, toInt_int, toBool_bool, xs_rows, xs_list, Int.toNat_natCast, Dat.bool.injEq, dflt_int, fold37x (show 37 ≤ ds.length by omega), take_ta (show 37 ≤ ds.length by omega), argI_ta (show 37 ≤ ds.length by omega) 0, argL_ta (i := 0) (show 0 < 37 by omega) (show 37 ≤ ds.length by omega), argI_c0, argI_fold ds]
  exact ⟨h0, h1, ⟨hok, h0, h1, fun rs hr => ⟨key rs hr, key rs hr⟩⟩, ⟨⟨hok, h0, h1, key⟩, hok, h0, h1, key⟩, ⟨hok, h0, h1, key⟩, hok, h0, h1, key⟩)
noncomputable def con_rOf17 : Con E0 := ⟨k_rOf17, sg_rOf17, rOf17_s, rfl, bo_rOf17, rOf17_h⟩
end Go.Proofs.YtelfhmeobfimiaaDoor
end

section
namespace Go.Proofs.YtelfhmeobfimiaaDoor
open Go.RowKit
set_option linter.unusedVariables false
set_option linter.unusedSimpArgs false

def k_tLeft : Nat := 43
def sg_tLeft : Sig := ⟨[(true, [.list 36] ++ List.replicate 11 (.list 3) ++ List.replicate 25 (.int .i64)), (false, [.int .i64])], [(false, [.int .i64]), (false, [.err])], false, false, true, false, false⟩
def tr_tLeft : Tree := (.call k_tOf [(.var 0), (.var 1), (.var 2), (.var 3), (.var 4), (.var 5), (.var 6), (.var 7), (.var 8), (.var 9), (.var 10), (.var 11), (.var 12), (.var 13), (.var 14), (.var 15), (.var 16), (.var 17), (.var 18), (.var 19), (.var 20), (.var 21), (.var 22), (.var 23), (.var 24), (.var 25), (.var 26), (.var 27), (.var 28), (.var 29), (.var 30), (.var 31), (.var 32), (.var 33), (.var 34), (.var 35), (.var 36), (.var 37)] [(.int .i64), (.int .i64), (.int .i64), .err]
(.ite (.not (.isnil (.var 41)))
 (.ret [(.int .i64 0), (.var 41)])
 (.ob (.cmp .ge (.var 37) (.int .i64 0))
 (.ob (.cmp .lt (.var 37) (.len (.var 0)))
 (.ret [(.ar .sub .i64 (.var 39) (.elem (.var 0) (.var 37) 6 (.int .i64))), .nili])))))
theorem wk_tLeft : walk E0.cx (sgsN [(37, sg_tOf)]) 0 43 sg_tLeft = tr_tLeft := by kernel_rfl
theorem bo_tLeft : ∃ x, bodyOf E0.P 43 = some x := bo_of (by kernel_rfl)
theorem sp_tLeft_tOf : specC [con_tOf] k_tOf = tOf_s := rfl
def tLeft_s : Spec := fun ds Q => Sm (ds.take 37) ∧ ∀ n, errP (ds.take 37) n → (n ≠ 0 → Q [.int .i64 0, errV n]) ∧ (n = 0 → (isC (ds.take 37) (argI ds 37) = false → Q [.int .i64 0, errV 4]) ∧ (isC (ds.take 37) (argI ds 37) = true → Q [.int .i64 (IntKind.i64.wrap ((puR (ds.take 37) (argI ds 37)).2 + oI (ds.take 37) (argI ds 37) 9 - oI (ds.take 37) (argI ds 37) 6)), errV 0]))
theorem tLeft_h : Holds E0 k_tLeft sg_tLeft tLeft_s := con_fn wf0 mix0 g0 [con_tOf] rfl wk_tLeft rfl (by
  intro Φ hΦ ds Q hs ⟨hsm, h⟩
  have hl : ds.length = 38 := hs.length.symm
  have s1 : Φ k_tOf = tOf_s := by rw [hΦ]; rfl
  clear hΦ
  have hol : (argL (ds.take 37) 0).length = (argL ds 0).length := by rw [argL_t (by omega)]
  simp only [tr_tLeft, wp, den_int, den_bool, den_nili, den_ar, den_cmp, den_not, den_len, den_elem, den_isnil, den_errI, den_ifc, den_rep, den_push, den_app, den_emp, den_upd, row0_econs, row0_enil, den_and, den_beq, den_nil, toInt_int, toBool_bool, xs_rows, xs_list, dflt_int, dflt_bool, of_eq, of_ne, of_lt, of_le, of_gt, of_ge, of_add, of_sub, of_rem, List.map_cons, List.map_nil, Dat.bool.injEq, decide_eq_true_eq, decide_eq_false_iff_not, Bool.not_eq_true', Bool.not_eq_false', beq_iff_eq, bne_iff_ne, beq_eq_false_iff_ne, bne_eq_false_iff_eq, ne_eq, List.append_assoc, List.cons_append, List.nil_append, allS, s1, tOf_s, @den_var0 E0.Δ ds, den_varA, den_varB, hl, Nat.reduceLT, Nat.reduceLeDiff, Nat.reduceSub, List.getD_cons_zero, List.getD_cons_succ, argL_fold ds, argI_fold ds, List.append_assoc, List.cons_append, List.nil_append, toInt_int, toBool_bool, xs_rows, xs_list, Int.toNat_natCast, Dat.bool.injEq, dflt_int, fold37x (show 37 ≤ ds.length by omega), take_ta (show 37 ≤ ds.length by omega), argI_ta (show 37 ≤ ds.length by omega) 0, argL_ta (i := 0) (show 0 < 37 by omega) (show 37 ≤ ds.length by omega), argI_c0, argI_fold ds, toInt_getD, List.append_nil, shp, ← obj_t]
  refine ⟨hsm, fun n hn => ?_⟩
  obtain ⟨ha, hb⟩ := h n hn
  refine ⟨fun h0 => ⟨fun _ => ha h0, fun hx => ?_⟩, fun h0 => ?_⟩
  · rw [errV_nz h0] at hx
    exact absurd hx (by decide)
  · obtain ⟨hb1, hb2⟩ := hb h0
    refine ⟨fun hc => ⟨fun _ => hb1 hc, fun hx => absurd hx (by decide)⟩, fun hc => ⟨fun hx => absurd hx (by decide), fun _ => ?_⟩⟩
    obtain ⟨i0, i1⟩ := isC_in hc
    rw [hol] at i1
    exact ⟨i0, i1, hb2 hc⟩)
noncomputable def con_tLeft : Con E0 := ⟨k_tLeft, sg_tLeft, tLeft_s, rfl, bo_tLeft, tLeft_h⟩
theorem sm_t60 {ds : List Dat} (hl : 37 ≤ ds.length) {e : List Dat} {m : Int} (h : ¬ LongP m (ds.take 37 ++ e)) (hm : m ≤ 1000) : Sm (ds.take 37) := fun i hi => by
  have := sm_of_long h hm i hi
  rw [argL_ta (by omega) hl] at this
  rw [argL_t (by omega)]
  exact this
theorem errP_ex (S : List Dat) : ∃ n, errP S n := by
  by_cases h1 : 400 < (argL S 0).length
  · exact ⟨5, by unfold errP; rw [if_pos h1]⟩
  · by_cases h2 : rangesP S
    · by_cases h3 : zonesP S
      · by_cases h4 : ∀ o ∈ argL S 0, formedP o
        · exact ⟨0, by unfold errP; rw [if_neg h1]; exact .inr (.inr (.inr ⟨h2, h3, h4, rfl⟩))⟩
        · exact ⟨2, by unfold errP; rw [if_neg h1]; exact .inr (.inr (.inl ⟨h2, h3, h4, rfl⟩))⟩
      · exact ⟨12, by unfold errP; rw [if_neg h1]; exact .inr (.inl ⟨h2, h3, rfl⟩)⟩
    · exact ⟨1, by unfold errP; rw [if_neg h1]; exact .inl ⟨h2, rfl⟩⟩
end Go.Proofs.YtelfhmeobfimiaaDoor
end
