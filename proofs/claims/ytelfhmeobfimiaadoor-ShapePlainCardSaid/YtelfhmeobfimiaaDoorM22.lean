import Derived.Test.YtelfhmeobfimiaaDoorM19
import Derived.Test.YtelfhmeobfimiaaDoorM17

section
namespace Go.Proofs.YtelfhmeobfimiaaDoor
open Go.RowKit
set_option linter.unusedVariables false
set_option linter.unusedSimpArgs false

theorem plain_puR {S : List Dat} (h : stcs S = []) (id : Int) : puR S id = (cI (cardI S id) 9 + oI S id 7, cI (cardI S id) 10 + oI S id 7) := by
  unfold puR pK beR bK
  rw [h]; rfl
theorem plain_woR {S : List Dat} (h : stcs S = []) (id : Int) : woR S id = turnK (cI (cardI S id) 11).toNat (oI S id 10).toNat true 8 := by
  unfold woR wK
  rw [h]; rfl
def k_lshapeplain : Nat := 11
def sg_lshapeplain : Sig := ⟨[(true, [.list 36] ++ List.replicate 11 (.list 3) ++ List.replicate 25 (.int .i64))], [(false, [.bool])], false, false, true, false, false⟩
def tr_lshapeplain : Tree := (.call k_alive17 [] [.bool]
(.ite (.not (.var 37))
 (.ret [(.bool false)])
 (.call k_Long [(.var 0), (.var 1), (.var 2), (.var 3), (.var 4), (.var 5), (.var 6), (.var 7), (.var 8), (.var 9), (.var 10), (.var 11), (.var 12), (.var 13), (.var 14), (.var 15), (.var 16), (.var 17), (.var 18), (.var 19), (.var 20), (.var 21), (.var 22), (.var 23), (.var 24), (.var 25), (.var 26), (.var 27), (.var 28), (.var 29), (.var 30), (.var 31), (.var 32), (.var 33), (.var 34), (.var 35), (.var 36), (.int .i64 60)] [.bool]
 (.ite (.var 38)
  (.ret [(.bool true)])
  (.call k_rCheck [(.var 0), (.var 1), (.var 2), (.var 3), (.var 4), (.var 5), (.var 6), (.var 7), (.var 8), (.var 9), (.var 10), (.var 11), (.var 12), (.var 13), (.var 14), (.var 15), (.var 16), (.var 17), (.var 18), (.var 19), (.var 20), (.var 21), (.var 22), (.var 23), (.var 24), (.var 25), (.var 26), (.var 27), (.var 28), (.var 29), (.var 30), (.var 31), (.var 32), (.var 33), (.var 34), (.var 35), (.var 36)] [(.int .i64)]
  (.ite (.cmp .ne (.var 39) (.int .i64 0))
   (.ret [(.bool true)])
   (.call k_tStatics [(.var 0), (.var 1), (.var 2), (.var 3), (.var 4), (.var 5), (.var 6), (.var 7), (.var 8), (.var 9), (.var 10), (.var 11), (.var 12), (.var 13), (.var 14), (.var 15), (.var 16), (.var 17), (.var 18), (.var 19), (.var 20), (.var 21), (.var 22), (.var 23), (.var 24), (.var 25), (.var 26), (.var 27), (.var 28), (.var 29), (.var 30), (.var 31), (.var 32), (.var 33), (.var 34), (.var 35), (.var 36)] [(.int .i64)]
   (.ite (.cmp .ne (.var 40) (.int .i64 0))
    (.ret [(.bool true)])
    (.loop [(.bool false), (.int .i64 0), (.int .i64 0)] [.bool, (.int .i64), (.int .i64)]
     (.ite (.cmp .lt (.var 43) (.len (.var 0)))
      (.ob (.cmp .ge (.var 43) (.int .i64 0))
      (.call k_tIs [(.var 0), (.var 1), (.var 2), (.var 3), (.var 4), (.var 5), (.var 6), (.var 7), (.var 8), (.var 9), (.var 10), (.var 11), (.var 12), (.var 13), (.var 14), (.var 15), (.var 16), (.var 17), (.var 18), (.var 19), (.var 20), (.var 21), (.var 22), (.var 23), (.var 24), (.var 25), (.var 26), (.var 27), (.var 28), (.var 29), (.var 30), (.var 31), (.var 32), (.var 33), (.var 34), (.var 35), (.var 36), (.var 43)] [.bool]
      (.ite (.not (.var 44))
       (.again 0 [(.var 41), (.var 42), (.ar .add .i64 (.var 43) (.int .i64 1))])
       (.call k_rcard [(.elem (.var 0) (.var 43) 0 (.int .i64))] [(.int .i64), (.int .i64), .bool, (.int .i64), (.int .i64), (.int .i64), (.int .i64), (.int .i64), (.int .i64), (.int .i64), (.int .i64), (.int .i64), (.list 59), .bool]
       (.call k_tOf [(.var 0), (.var 1), (.var 2), (.var 3), (.var 4), (.var 5), (.var 6), (.var 7), (.var 8), (.var 9), (.var 10), (.var 11), (.var 12), (.var 13), (.var 14), (.var 15), (.var 16), (.var 17), (.var 18), (.var 19), (.var 20), (.var 21), (.var 22), (.var 23), (.var 24), (.var 25), (.var 26), (.var 27), (.var 28), (.var 29), (.var 30), (.var 31), (.var 32), (.var 33), (.var 34), (.var 35), (.var 36), (.var 43)] [(.int .i64), (.int .i64), (.int .i64), .err]
       (.ite (.or (.not (.isnil (.var 62))) (.or (.cmp .ne (.var 59) (.ar .add .i64 (.ar .add .i64 (.var 54) (.elem (.var 0) (.var 43) 7 (.int .i64))) (.elem (.var 0) (.var 43) 8 (.int .i64)))) (.or (.cmp .ne (.var 60) (.ar .add .i64 (.ar .add .i64 (.var 55) (.elem (.var 0) (.var 43) 7 (.int .i64))) (.elem (.var 0) (.var 43) 9 (.int .i64)))) (.cmp .ne (.var 61) (.ar .or .i64 (.var 56) (.elem (.var 0) (.var 43) 10 (.int .i64)))))))
        (.ret [(.bool false)])
        (.again 0 [(.var 41), (.ar .add .i64 (.var 42) (.int .i64 1)), (.ar .add .i64 (.var 43) (.int .i64 1))])))))))
      (.call k_tBeasts [(.var 0), (.var 1), (.var 2), (.var 3), (.var 4), (.var 5), (.var 6), (.var 7), (.var 8), (.var 9), (.var 10), (.var 11), (.var 12), (.var 13), (.var 14), (.var 15), (.var 16), (.var 17), (.var 18), (.var 19), (.var 20), (.var 21), (.var 22), (.var 23), (.var 24), (.var 25), (.var 26), (.var 27), (.var 28), (.var 29), (.var 30), (.var 31), (.var 32), (.var 33), (.var 34), (.var 35), (.var 36), (.int .i64 0)] [(.list 3)]
      (.call k_tBeasts [(.var 0), (.var 1), (.var 2), (.var 3), (.var 4), (.var 5), (.var 6), (.var 7), (.var 8), (.var 9), (.var 10), (.var 11), (.var 12), (.var 13), (.var 14), (.var 15), (.var 16), (.var 17), (.var 18), (.var 19), (.var 20), (.var 21), (.var 22), (.var 23), (.var 24), (.var 25), (.var 26), (.var 27), (.var 28), (.var 29), (.var 30), (.var 31), (.var 32), (.var 33), (.var 34), (.var 35), (.var 36), (.int .i64 1)] [(.list 3)]
      (.ret [(.cmp .eq (.var 42) (.ar .add .i64 (.len (.var 44)) (.len (.var 45))))])))))))))))))
theorem wk_lshapeplain : walk E0.cx (sgsN [(35, sg_alive17), (16, sg_Long), (23, sg_rCheck), (36, sg_tIs), (37, sg_tOf), (45, sg_tBeasts), (44, sg_tStatics), (29, sg_rcard)]) 0 11 sg_lshapeplain = tr_lshapeplain := by kernel_rfl
theorem bo_lshapeplain : ∃ x, bodyOf E0.P 11 = some x := bo_of (by kernel_rfl)
theorem sp_lshapeplain_alive17 : specC [con_alive17, con_Long, con_rCheck, con_tIs, con_tOf, con_tBeasts, con_tStatics, con_rcard] k_alive17 = alive17_s := rfl
theorem sp_lshapeplain_Long : specC [con_alive17, con_Long, con_rCheck, con_tIs, con_tOf, con_tBeasts, con_tStatics, con_rcard] k_Long = Long_s := rfl
theorem sp_lshapeplain_rCheck : specC [con_alive17, con_Long, con_rCheck, con_tIs, con_tOf, con_tBeasts, con_tStatics, con_rcard] k_rCheck = rCheck_s := rfl
theorem sp_lshapeplain_tIs : specC [con_alive17, con_Long, con_rCheck, con_tIs, con_tOf, con_tBeasts, con_tStatics, con_rcard] k_tIs = tIs_s := rfl
theorem sp_lshapeplain_tOf : specC [con_alive17, con_Long, con_rCheck, con_tIs, con_tOf, con_tBeasts, con_tStatics, con_rcard] k_tOf = tOf_s := rfl
theorem sp_lshapeplain_tBeasts : specC [con_alive17, con_Long, con_rCheck, con_tIs, con_tOf, con_tBeasts, con_tStatics, con_rcard] k_tBeasts = tBeasts_s := rfl
theorem sp_lshapeplain_tStatics : specC [con_alive17, con_Long, con_rCheck, con_tIs, con_tOf, con_tBeasts, con_tStatics, con_rcard] k_tStatics = tStatics_s := rfl
theorem sp_lshapeplain_rcard : specC [con_alive17, con_Long, con_rCheck, con_tIs, con_tOf, con_tBeasts, con_tStatics, con_rcard] k_rcard = rcard_s := rfl
theorem lshapeplain_h : Holds E0 k_lshapeplain sg_lshapeplain true_s := con_fn wf0 mix0 g0 [con_alive17, con_Long, con_rCheck, con_tIs, con_tOf, con_tBeasts, con_tStatics, con_rcard] rfl wk_lshapeplain rfl (by
  intro Φ hΦ ds Q hs h
  have hl : ds.length = 37 := hs.length.symm
  have s1 : Φ k_alive17 = alive17_s := by rw [hΦ]; rfl
  have s2 : Φ k_Long = Long_s := by rw [hΦ]; rfl
  have s3 : Φ k_rCheck = rCheck_s := by rw [hΦ]; rfl
  have s4 : Φ k_tIs = tIs_s := by rw [hΦ]; rfl
  have s5 : Φ k_tOf = tOf_s := by rw [hΦ]; rfl
  have s6 : Φ k_tBeasts = tBeasts_s := by rw [hΦ]; rfl
  have s7 : Φ k_tStatics = tStatics_s := by rw [hΦ]; rfl
  have s8 : Φ k_rcard = rcard_s := by rw [hΦ]; rfl
  have h : Q [.bool true] := h
  clear hΦ
  have hol : (argL (ds.take 37) 0).length = (argL ds 0).length := by rw [argL_t (by omega)]
  have et : (ds.take 37).take 37 = ds.take 37 := by rw [List.take_take]; rfl
  simp (config := {maxSteps := 2000000}) only [tr_lshapeplain, wp, den_int, den_bool, den_nili, den_ar, den_cmp, den_not, den_len, den_elem, den_isnil, den_errI, den_ifc, den_rep, den_push, den_app, den_emp, den_upd, row0_econs, row0_enil, den_and, den_beq, den_nil, toInt_int, toBool_bool, xs_rows, xs_list, dflt_int, dflt_bool, of_eq, of_ne, of_lt, of_le, of_gt, of_ge, of_add, of_sub, of_rem, List.map_cons, List.map_nil, Dat.bool.injEq, decide_eq_true_eq, decide_eq_false_iff_not, Bool.not_eq_true', Bool.not_eq_false', beq_iff_eq, bne_iff_ne, beq_eq_false_iff_ne, bne_eq_false_iff_eq, ne_eq, List.append_assoc, List.cons_append, List.nil_append, allS, s1, s2, s3, s4, s5, s6, s7, s8, alive17_s, true_s, Long_s, rCheck_s, tIs_s, tOf_s, tBeasts_s, tStatics_s, rcard_s, psp, @den_var0 E0.Δ ds, den_varA, den_varB, hl, Nat.reduceLT, Nat.reduceLeDiff, Nat.reduceSub, List.getD_cons_zero, List.getD_cons_succ, argL_fold ds, argI_fold ds, List.append_assoc, List.cons_append, List.nil_append, toInt_int, toBool_bool, xs_rows, xs_list, Int.toNat_natCast, Dat.bool.injEq, dflt_int, fold37x (show 37 ≤ ds.length by omega), take_ta (show 37 ≤ ds.length by omega), argI_ta (show 37 ≤ ds.length by omega) 0, argL_ta (i := 0) (show 0 < 37 by omega) (show 37 ≤ ds.length by omega), argI_c0, argI_fold ds, toInt_getD, List.append_nil, ← obj_t, den_ite, den_not, toBool_bool, argI_c1, et, den_or, List.getElem?_cons_zero]
  refine ⟨fun hx => absurd hx (by decide), fun _ => ⟨by decide, by decide, fun b hb => ⟨fun _ => h, fun hbf => ?_⟩⟩⟩
  have hsm : Sm (ds.take 37) := sm_t60 (m := 60) (by omega) (fun hL => by rw [hb.2 hL] at hbf; exact absurd hbf (by decide)) (by decide)
  refine ⟨hsm, fun n hn => ⟨fun h0 => h, fun h0 => ?_⟩⟩
  subst h0
  refine ⟨hsm, fun n1 h1 => ?_⟩
  obtain rfl := errP_inj hn h1
  rw [if_pos rfl]
  refine ⟨fun _ => h, fun hst => ?_⟩
  have hst : stcs (ds.take 37) = [] := List.length_eq_zero_iff.1 (by omega)
  have hok := okS_of hsm hn
  have hsm0 := hsm 0 (by omega)
  rw [hol] at hsm0
  have hsum := beasts_sum hn
  rw [hol] at hsum
  refine ⟨fun xs m => ∃ (b : Bool) (k : Nat), k ≤ (argL ds 0).length ∧ m = (argL ds 0).length - k ∧ xs = [.bool b, .int .i64 (beastN (ds.take 37) k : Nat), .int .i64 k], ⟨_, false, 0, by omega, rfl, rfl⟩, ?_⟩
  intro b1 n1 n2 m ⟨b, k, hk, hm, e⟩
  obtain ⟨rfl, rfl, rfl⟩ : b1 = b ∧ n1 = ((beastN (ds.take 37) k : Nat) : Int) ∧ n2 = (k : Int) := by simpa using e
  subst hm
  have hbs := beastN_s (ds.take 37) k
  have hble := beastN_le (ds.take 37) k
  refine ⟨fun hlt => ?_, fun hge => ?_⟩
  · have hk2 : k < (argL ds 0).length := by omega
    have hw : IntKind.i64.wrap ((k : Int) + 1) = ((k + 1 : Nat) : Int) := by rw [wrap64 (by omega) (by omega)]; rfl
    refine ⟨by omega, hsm, fun n2 h2 => ?_⟩
    obtain rfl := errP_inj hn h2
    rw [show decide ((0 : Int) = 0) = true from rfl, Bool.true_and, hw]
    refine ⟨fun hc => ⟨_, (by omega : (argL ds 0).length - (k + 1) < _), b1, k + 1, by omega, rfl, ?_⟩, fun hc => ?_⟩
    · rw [hbs, hc]; rfl
    · have i0 : (0 : Int) ≤ k := by omega
      have i1 : (k : Int) < (argL (ds.take 37) 0).length := by rw [hol]; omega
      obtain ⟨c0, c1⟩ := hok.cards i0 i1
      have e0 : ∀ d, strip ((obj (ds.take 37) k).getD 0 d) = .int (cardI (ds.take 37) k) := fun d => by
        have := int_el hs (i := 0) (r := 36) (c := 0) (k := .i64) (j := (k : Int).toNat) rfl rfl (by omega) d
        rw [obj_t, this, strip_int, cardI, obj_t]
      refine ⟨_, (by rw [e0]; exact rcard_in c0 c1), fun rs hr => ⟨hsm, fun n3 h3 => ?_⟩⟩
      obtain rfl := errP_inj hn h3
      obtain ⟨l1, l2⟩ := card13 c0 c1 hr
      have l14 : rs.length = 14 := by
        have := congrArg List.length hr
        rw [List.length_map, List.length_append, card_len c0 c1] at this
        exact this
      have gl : ∀ (e : List Dat) i d, i < 14 → (rs ++ e).getD i d = rs.getD i d := fun e i d hi => by
        rw [List.getD_eq_getElem?_getD, List.getD_eq_getElem?_getD, List.getElem?_append_left (by omega)]
      have gr : ∀ (e : List Dat) i d, (rs ++ e).getD (14 + i) d = e.getD i d := fun e i d => by
        rw [List.getD_eq_getElem?_getD, List.getD_eq_getElem?_getD, List.getElem?_append_right (by omega), l14, Nat.add_sub_cancel_left]
      have g14 := fun e => gr e 0 (.bool false)
      have g15 := fun e => gr e 1 (.bool false)
      have g16 := fun e => gr e 2 (.bool false)
      have g17 := fun e => gr e 3 (.bool false)
      have gt : ∀ i d, i < 13 → (rs.take 13).getD i d = rs.getD i d := fun i d hi => by
        rw [List.getD_eq_getElem?_getD, List.getD_eq_getElem?_getD, List.getElem?_take, if_pos hi]
      have x9 := card_int c0 c1 l2 (i := 9) rfl (.bool false)
      have x10 := card_int c0 c1 l2 (i := 10) rfl (.bool false)
      have x11 := card_int c0 c1 l2 (i := 11) rfl (.bool false)
      rw [gt _ _ (by omega)] at x9 x10 x11
      have F := cardF c0 c1
      have f1 := F.pow
      have f2 := F.tou
      have f3 := F.say
      have b7 := hok.num _ (obj_mem i0 i1) 7 (by omega) (by omega)
      have b8 := hok.num _ (obj_mem i0 i1) 8 (by omega) (by omega)
      have b9 := hok.num _ (obj_mem i0 i1) 9 (by omega) (by omega)
      have b10 := hok.word _ (obj_mem i0 i1)
      have e1 : IntKind.i64.wrap (IntKind.i64.wrap (cI (cardI (ds.take 37) k) 9 + rowI (obj (ds.take 37) k) 7) + rowI (obj (ds.take 37) k) 8) = (puR (ds.take 37) k).1 + oI (ds.take 37) k 8 := by
        rw [plain_puR hst]
        unfold oI
        rw [wrap64 (x := cI (cardI (ds.take 37) k) 9 + rowI (obj (ds.take 37) k) 7) (by omega) (by omega), wrap64 (by omega) (by omega)]
      have e2 : IntKind.i64.wrap (IntKind.i64.wrap (cI (cardI (ds.take 37) k) 10 + rowI (obj (ds.take 37) k) 7) + rowI (obj (ds.take 37) k) 9) = (puR (ds.take 37) k).2 + oI (ds.take 37) k 9 := by
        rw [plain_puR hst]
        unfold oI
        rw [wrap64 (x := cI (cardI (ds.take 37) k) 10 + rowI (obj (ds.take 37) k) 7) (by omega) (by omega), wrap64 (by omega) (by omega)]
      have e3 : Ar.or.of .i64 (cI (cardI (ds.take 37) k) 11) (rowI (obj (ds.take 37) k) 10) = (woR (ds.take 37) k : Nat) := by
        rw [plain_woR hst]
        unfold oI
        have := or64 (w := (cI (cardI (ds.take 37) k) 11).toNat) (n := (rowI (obj (ds.take 37) k) 10).toNat) (by omega) (by omega)
        rw [Int.toNat_of_nonneg f3.1, Int.toNat_of_nonneg b10.1] at this
        exact this
      simp only [gl _ 9 _ (by decide), gl _ 10 _ (by decide), gl _ 11 _ (by decide), g14, g15, g16, g17, x9, x10, x11, e1, e2, e3, List.getD_cons_zero, List.getD_cons_succ, toInt_int, isNil_errV]
      rw [hc]
      refine ⟨fun hx => absurd trivial hx, fun _ => ⟨fun hx => absurd hx (by decide), fun _ => ⟨fun hx => ?_, fun hx => ⟨_, (by omega : (argL ds 0).length - (k + 1) < _), b1, k + 1, by omega, rfl, ?_⟩⟩⟩⟩
      · unfold shp at hx
        simp only [List.cons_append, List.nil_append, List.getD_cons_zero, List.getD_cons_succ, toInt_int, bne_self_eq_false, Bool.or_false, isNil_errV] at hx
        exact absurd hx (by decide)
      · rw [hbs, hc, if_pos rfl, wrap64 (by omega) (by omega)]; rfl
  · obtain rfl : k = (argL ds 0).length := by omega
    refine ⟨hsm, fun n2 h2 v => ⟨hsm, fun n3 h3 v2 => ?_⟩⟩
    obtain rfl := errP_inj hn h2
    obtain rfl := errP_inj hn h3
    rw [if_pos rfl, if_pos rfl]
    have l0 : (beastsP (ds.take 37) 0).length ≤ 1000000 := by omega
    have l1 : (beastsP (ds.take 37) 1).length ≤ 1000000 := by omega
    simp only [List.length_map]
    rw [wrap64 (by omega) (by omega), hsum, Int.natCast_add, beq_self_eq_true]
    exact h)
end Go.Proofs.YtelfhmeobfimiaaDoor
end
