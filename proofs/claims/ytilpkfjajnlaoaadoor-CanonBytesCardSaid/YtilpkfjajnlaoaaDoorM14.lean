import Derived.Test.YtilpkfjajnlaoaaDoorM13

set_option linter.unusedVariables false
set_option linter.unusedSimpArgs false

section
namespace Go.Proofs.YtilpkfjajnlaoaaDoor
open Go.RowKit
set_option linter.unusedVariables false
set_option linter.unusedSimpArgs false

theorem toInt_u8 (r : List Dat) (c : Nat) : (r.getD c (.int .u8 0)).toInt = rowI r c := by
  unfold rowI
  rw [List.getD_eq_getElem?_getD, List.getD_eq_getElem?_getD]
  cases r[c]? <;> rfl
def hstep (x c : Int) : Int := Ar.mul.of .u64 (Ar.xor.of .u64 x (IntKind.u64.wrap c)) 1099511628211
def hashL (l : List (List Dat)) : Int := l.foldl (fun x r => hstep x (rowI r 0)) 14695981039346656037
theorem hashL_take {l : List (List Dat)} {k : Nat} (h : k < l.length) : hashL (l.take (k + 1)) = hstep (hashL (l.take k)) (rowI (l.getD k []) 0) := by
  unfold hashL
  rw [take_succ_getD (d := []) h, List.foldl_append]
  rfl
def hash_s : Spec := fun ds Q => (argL ds 0).length ≤ 90000000 ∧ Q [.int .u64 (hashL (argL ds 0))]
def k_cHash : Nat := 23
def sg_cHash : Sig := ⟨[(false, [.list 5])], [(false, [.int .u64])], false, false, false, false, false⟩
def tr_cHash : Tree := (.loop [(.int .u64 14695981039346656037), (.int .i64 0)] [(.int .u64), (.int .i64)]
 (.ite (.cmp .lt (.var 2) (.len (.var 0)))
  (.ob (.cmp .ge (.var 2) (.int .i64 0))
  (.again 0 [(.ar .mul .u64 (.ar .xor .u64 (.var 1) (.conv .u64 (.elem (.var 0) (.var 2) 0 (.int .u8)))) (.int .u64 1099511628211)), (.ar .add .i64 (.var 2) (.int .i64 1))]))
  (.ret [(.var 1)])))
theorem wk_cHash : walk E0.cx (sgsN []) 0 23 sg_cHash = tr_cHash := by kernel_rfl
theorem bo_cHash : ∃ x, bodyOf E0.P 23 = some x := bo_of (by kernel_rfl)
theorem cHash_h : Holds E0 k_cHash sg_cHash hash_s := con_fn wf0 mix0 g0 [] rfl wk_cHash rfl (by
  intro Φ hΦ ds Q hs ⟨hn, h⟩
  have hl : ds.length = 1 := hs.length.symm
  clear hΦ
  simp only [tr_cHash, wp, den_int, den_bool, den_nili, den_ar, den_cmp, den_not, den_len, den_elem, den_isnil, den_errI, den_ifc, den_rep, den_push, den_app, den_emp, den_upd, row0_econs, row0_enil, den_and, den_beq, den_nil, toInt_int, toBool_bool, xs_rows, xs_list, dflt_int, dflt_bool, of_eq, of_ne, of_lt, of_le, of_gt, of_ge, of_add, of_sub, of_rem, List.map_cons, List.map_nil, Dat.bool.injEq, decide_eq_true_eq, decide_eq_false_iff_not, Bool.not_eq_true', Bool.not_eq_false', beq_iff_eq, bne_iff_ne, beq_eq_false_iff_ne, bne_eq_false_iff_eq, ne_eq, List.append_assoc, List.cons_append, List.nil_append, allS, den_conv, @den_var0 E0.Δ ds, den_varA, den_varB, hl, Nat.reduceLT, Nat.reduceLeDiff, Nat.reduceSub, List.getD_cons_zero, List.getD_cons_succ, argL_fold ds, argI_fold ds, List.append_assoc, List.cons_append, List.nil_append, toInt_int, toBool_bool, xs_rows, xs_list, Int.toNat_natCast, Dat.bool.injEq, dflt_int, toInt_getD]
  refine ⟨fun xs m => ∃ k : Nat, xs = [.int .u64 (hashL ((argL ds 0).take k)), .int .i64 k] ∧ k ≤ (argL ds 0).length ∧ m = (argL ds 0).length - k, ⟨_, 0, rfl, by omega, rfl⟩, ?_⟩
  intro x k' m ⟨k, e, hk, hm⟩
  cases e
  refine ⟨fun hlt => ⟨by omega, ?_⟩, fun hge => ?_⟩
  · have hk2 : k < (argL ds 0).length := by omega
    refine ⟨(argL ds 0).length - (k + 1), by omega, k + 1, ?_, by omega, rfl⟩
    rw [wrap64 (by omega) (by omega), hashL_take hk2, Int.toNat_natCast, toInt_u8]
    rfl
  · obtain rfl : k = (argL ds 0).length := by omega
    rw [List.take_length]
    exact h)
def cHash_s : Spec := hash_s
noncomputable def con_cHash : Con E0 := ⟨k_cHash, sg_cHash, cHash_s, rfl, bo_cHash, cHash_h⟩
def k_rHash11 : Nat := 21
def sg_rHash11 : Sig := ⟨[(false, [.list 5])], [(false, [.int .u64])], false, false, false, false, false⟩
def tr_rHash11 : Tree := (.loop [(.int .u64 14695981039346656037), (.int .i64 0)] [(.int .u64), (.int .i64)]
 (.ite (.cmp .lt (.var 2) (.len (.var 0)))
  (.ob (.cmp .ge (.var 2) (.int .i64 0))
  (.again 0 [(.ar .mul .u64 (.ar .xor .u64 (.var 1) (.conv .u64 (.elem (.var 0) (.var 2) 0 (.int .u8)))) (.int .u64 1099511628211)), (.ar .add .i64 (.var 2) (.int .i64 1))]))
  (.ret [(.var 1)])))
theorem wk_rHash11 : walk E0.cx (sgsN []) 0 21 sg_rHash11 = tr_rHash11 := by kernel_rfl
theorem bo_rHash11 : ∃ x, bodyOf E0.P 21 = some x := bo_of (by kernel_rfl)
def rHash11_s : Spec := hash_s
theorem rHash11_h : Holds E0 k_rHash11 sg_rHash11 rHash11_s := con_fn wf0 mix0 g0 [] rfl wk_rHash11 rfl (by
  intro Φ hΦ ds Q hs ⟨hn, h⟩
  have hl : ds.length = 1 := hs.length.symm
  clear hΦ
  simp only [tr_rHash11, wp, den_int, den_bool, den_nili, den_ar, den_cmp, den_not, den_len, den_elem, den_isnil, den_errI, den_ifc, den_rep, den_push, den_app, den_emp, den_upd, row0_econs, row0_enil, den_and, den_beq, den_nil, toInt_int, toBool_bool, xs_rows, xs_list, dflt_int, dflt_bool, of_eq, of_ne, of_lt, of_le, of_gt, of_ge, of_add, of_sub, of_rem, List.map_cons, List.map_nil, Dat.bool.injEq, decide_eq_true_eq, decide_eq_false_iff_not, Bool.not_eq_true', Bool.not_eq_false', beq_iff_eq, bne_iff_ne, beq_eq_false_iff_ne, bne_eq_false_iff_eq, ne_eq, List.append_assoc, List.cons_append, List.nil_append, allS, den_conv, @den_var0 E0.Δ ds, den_varA, den_varB, hl, Nat.reduceLT, Nat.reduceLeDiff, Nat.reduceSub, List.getD_cons_zero, List.getD_cons_succ, argL_fold ds, argI_fold ds, List.append_assoc, List.cons_append, List.nil_append, toInt_int, toBool_bool, xs_rows, xs_list, Int.toNat_natCast, Dat.bool.injEq, dflt_int, toInt_getD]
  refine ⟨fun xs m => ∃ k : Nat, xs = [.int .u64 (hashL ((argL ds 0).take k)), .int .i64 k] ∧ k ≤ (argL ds 0).length ∧ m = (argL ds 0).length - k, ⟨_, 0, rfl, by omega, rfl⟩, ?_⟩
  intro x k' m ⟨k, e, hk, hm⟩
  cases e
  refine ⟨fun hlt => ⟨by omega, ?_⟩, fun hge => ?_⟩
  · have hk2 : k < (argL ds 0).length := by omega
    refine ⟨(argL ds 0).length - (k + 1), by omega, k + 1, ?_, by omega, rfl⟩
    rw [wrap64 (by omega) (by omega), hashL_take hk2, Int.toNat_natCast, toInt_u8]
    rfl
  · obtain rfl : k = (argL ds 0).length := by omega
    rw [List.take_length]
    exact h)
noncomputable def con_rHash11 : Con E0 := ⟨k_rHash11, sg_rHash11, rHash11_s, rfl, bo_rHash11, rHash11_h⟩
def k_rRest03 : Nat := 41
def sg_rRest03 : Sig := ⟨[(true, List.replicate 18 (.int .i64))], [(true, List.replicate 9 (.int .i64))], false, false, false, false, false⟩
def tr_rRest03 : Tree := (.ret [(.var 0), (.var 6), (.var 7), (.var 8), (.var 9), (.var 12), (.var 14), (.var 15), (.var 16)])
theorem wk_rRest03 : walk E0.cx (sgsN []) 0 41 sg_rRest03 = tr_rRest03 := by kernel_rfl
theorem bo_rRest03 : ∃ x, bodyOf E0.P 41 = some x := bo_of (by kernel_rfl)
def rRest03_s : Spec := fun ds Q => Q [ds.getD 0 (.bool false), ds.getD 6 (.bool false), ds.getD 7 (.bool false), ds.getD 8 (.bool false), ds.getD 9 (.bool false), ds.getD 12 (.bool false), ds.getD 14 (.bool false), ds.getD 15 (.bool false), ds.getD 16 (.bool false)]
theorem rRest03_h : Holds E0 k_rRest03 sg_rRest03 rRest03_s := con_fn wf0 mix0 g0 [] rfl wk_rRest03 rfl (by
  intro Φ hΦ ds Q hs h
  exact h)
noncomputable def con_rRest03 : Con E0 := ⟨k_rRest03, sg_rRest03, rRest03_s, rfl, bo_rRest03, rRest03_h⟩
def k_cMark : Nat := 20
def sg_cMark : Sig := ⟨[(true, [.list 36] ++ List.replicate 11 (.list 3) ++ List.replicate 25 (.int .i64))], [(false, [.int .u64]), (false, [.err])], false, false, false, false, false⟩
def tr_cMark : Tree := (.call k_tBytes11 [(.var 0), (.var 1), (.var 2), (.var 3), (.var 4), (.var 5), (.var 6), (.var 7), (.var 8), (.var 9), (.var 10), (.var 11), (.var 12), (.var 13), (.var 14), (.var 15), (.var 16), (.var 17), (.var 18), (.var 19), (.var 20), (.var 21), (.var 22), (.var 23), (.var 24), (.var 25), (.var 26), (.var 27), (.var 28), (.var 29), (.var 30), (.var 31), (.var 32), (.var 33), (.var 34), (.var 35), (.var 36)] [(.list 5), .err]
(.ite (.not (.isnil (.var 38)))
 (.ret [(.int .u64 0), (.var 38)])
 (.call k_cHash [(.var 37)] [(.int .u64)]
 (.ret [(.var 39), .nili]))))
theorem wk_cMark : walk E0.cx (sgsN [(16, sg_tBytes11), (23, sg_cHash)]) 0 20 sg_cMark = tr_cMark := by kernel_rfl
theorem bo_cMark : ∃ x, bodyOf E0.P 20 = some x := bo_of (by kernel_rfl)
theorem sp_cMark_tBytes11 : specC [con_tBytes11, con_cHash] k_tBytes11 = tBytes11_s := rfl
theorem sp_cMark_cHash : specC [con_tBytes11, con_cHash] k_cHash = cHash_s := rfl
def cMark_s : Spec := fun ds Q => Sm ds ∧ ∀ n, errP ds n → Q [.int .u64 (if n = 0 then hashL (u8R (encs (numsOf ds))) else 0), errV n]
theorem enc_ub {S : List Dat} (h : errP S 0) : (numsOf S).length ≤ 100000 := by
  obtain ⟨h4, hR, hZ⟩ := errP_0 h
  unfold numsOf
  have := lists_len hZ h4 11 (Nat.le_refl _)
  rw [List.length_cons, List.length_append, flat_len, List.length_append]
  show 10 * _ + ((listsN S).length + (numN S).length) + 1 ≤ _
  have h25 : (numN S).length = 25 := by simp [numN]
  have hls : (listsN S).length ≤ 401 * 11 := this
  omega
theorem cMark_h : Holds E0 k_cMark sg_cMark cMark_s := con_fn wf0 mix0 g0 [con_tBytes11, con_cHash] rfl wk_cMark rfl (by
  intro Φ hΦ ds Q hs ⟨hsm, h⟩
  have hl : ds.length = 37 := hs.length.symm
  have s1 : Φ k_tBytes11 = tBytes11_s := by rw [hΦ]; rfl
  have s2 : Φ k_cHash = cHash_s := by rw [hΦ]; rfl
  clear hΦ hs
  unfold tr_cMark
  obtain ⟨n, hn⟩ := errP_ex ds
  have h := h n hn
  have g : ∀ (l : List Dat) (k : Nat) (d : Dat), (ds ++ l).getD (37 + k) d = l.getD k d := fun l k d => getD_end hl d
  refine wp_callE (args := ds) ?_ ?_
  · show ((List.range' 0 37).map Tm.var).map (den E0.Δ ds) = _
    have := argsT (ds := ds) (E := []) (a := 0) (n := 37) (by omega)
    rw [List.append_nil] at this
    rw [this]
    exact List.take_of_length_le (by rw [List.length_drop]; omega)
  rw [s1]
  refine tB_of hsm hn fun d hd => ?_
  show wp E0.Δ Φ Q _ (ds ++ [d, errV n]) []
  refine wp_two (v := !decide (n = 0)) ?_ (fun hv => ?_) fun hv => ?_
  · show Dat.bool (!isNilI ((ds ++ [d, errV n]).getD (37 + 1) (.bool false))) = _
    rw [g]
    show Dat.bool (!isNilI (errV n)) = _
    rw [errV_nil]
  · show Q [Dat.int .u64 0, (ds ++ [d, errV n]).getD (37 + 1) (.bool false)]
    rw [g]
    have e : n ≠ 0 := by simpa using hv
    rw [if_neg e] at h
    exact h
  obtain rfl : n = 0 := by simpa using hv
  rw [if_pos rfl] at h
  have hd := hd rfl
  have hb := encs_len (numsOf ds)
  have hu := enc_ub hn
  refine wp_callG (args := [d]) ?_ ?_
  · show [(ds ++ [d, errV 0]).getD (37 + 0) (.bool false)] = _
    rw [g]; rfl
  rw [s2]
  have e1 : argL [d] 0 = u8R (encs (numsOf ds)) := hd
  refine ⟨by rw [e1, u8R_len]; omega, ?_⟩
  rw [e1]
  show Q [(ds ++ [d, errV 0, Dat.int .u64 (hashL (u8R (encs (numsOf ds))))]).getD (37 + 2) (.bool false), _]
  rw [g]
  exact h)
noncomputable def con_cMark : Con E0 := ⟨k_cMark, sg_cMark, cMark_s, rfl, bo_cMark, cMark_h⟩
theorem of_mul (k : IntKind) (a b : Int) : Ar.mul.of k a b = k.wrap (a * b) := rfl
theorem l5 {a b A B C A' B' C' : Int} (h1 : A = A') (h2 : B = B') (h3 : C = C') : [Dat.int .u32 a, .int .i64 b, .int .i64 A, .int .i64 B, .int .i64 C] = [Dat.int .u32 a, .int .i64 b, .int .i64 A', .int .i64 B', .int .i64 C'] := by
  rw [h1, h2, h3]
def hwN (k : Nat) : Int := [1, 2, 4, 64, 128, 256, 512, 2048, 8192, 2097152].getD k 0
def hxN (ds : List Dat) (k : Nat) : Int := [0, argI ds 1, argI ds 1 + 2 * argI ds 2, argI ds 1 + 2 * argI ds 2 + 4 * argI ds 3, argI ds 1 + 2 * argI ds 2 + 4 * argI ds 3 + 64 * argI ds 4, argI ds 1 + 2 * argI ds 2 + 4 * argI ds 3 + 64 * argI ds 4 + 128 * argI ds 5, argI ds 1 + 2 * argI ds 2 + 4 * argI ds 3 + 64 * argI ds 4 + 128 * argI ds 5 + 256 * argI ds 11, argI ds 1 + 2 * argI ds 2 + 4 * argI ds 3 + 64 * argI ds 4 + 128 * argI ds 5 + 256 * argI ds 11 + 512 * argI ds 13, argI ds 1 + 2 * argI ds 2 + 4 * argI ds 3 + 64 * argI ds 4 + 128 * argI ds 5 + 256 * argI ds 11 + 512 * argI ds 13 + 2048 * argI ds 17, headN ds].getD k 0
def k_rHead03 : Nat := 40
def sg_rHead03 : Sig := ⟨[(true, List.replicate 18 (.int .i64))], [(false, [.int .u32]), (false, [.int .i64])], false, true, true, false, true⟩
def tr_rHead03 : Tree := (.lit 3 (.push (.push (.push (.push (.push (.push (.push (.push (.push .emp (.econs (.int .i64 1) .enil)) (.econs (.int .i64 2) .enil)) (.econs (.int .i64 3) .enil)) (.econs (.int .i64 4) .enil)) (.econs (.int .i64 5) .enil)) (.econs (.int .i64 11) .enil)) (.econs (.int .i64 13) .enil)) (.econs (.int .i64 17) .enil)) (.econs (.int .i64 10) .enil))
(.lit 3 (.push (.push (.push (.push (.push (.push (.push (.push (.push .emp (.econs (.int .i64 2) .enil)) (.econs (.int .i64 2) .enil)) (.econs (.int .i64 16) .enil)) (.econs (.int .i64 2) .enil)) (.econs (.int .i64 2) .enil)) (.econs (.int .i64 2) .enil)) (.econs (.int .i64 4) .enil)) (.econs (.int .i64 4) .enil)) (.econs (.int .i64 256) .enil))
(.loop [(.int .u32 0), (.int .i64 0), (.int .i64 0), (.int .i64 1), (.int .i64 0)] [(.int .u32), (.int .i64), (.int .i64), (.int .i64), (.int .i64)]
 (.ite (.cmp .lt (.var 24) (.len (.var 18)))
  (.ob (.cmp .ge (.var 24) (.int .i64 0))
  (.ob (.cmp .ge (.elem (.var 18) (.var 24) 0 (.int .i64)) (.int .i64 0))
  (.ob (.cmp .lt (.elem (.var 18) (.var 24) 0 (.int .i64)) (.int .i64 18))
  (.ite (.cmp .lt (.sel (.econs (.var 0) (.econs (.var 1) (.econs (.var 2) (.econs (.var 3) (.econs (.var 4) (.econs (.var 5) (.econs (.var 6) (.econs (.var 7) (.econs (.var 8) (.econs (.var 9) (.econs (.var 10) (.econs (.var 11) (.econs (.var 12) (.econs (.var 13) (.econs (.var 14) (.econs (.var 15) (.econs (.var 16) (.econs (.var 17) .enil)))))))))))))))))) (.elem (.var 18) (.var 24) 0 (.int .i64)) (.int .i64)) (.int .i64 0))
   (.ret [(.int .u32 0), (.int .i64 1)])
   (.ob (.cmp .ge (.elem (.var 18) (.var 24) 0 (.int .i64)) (.int .i64 0))
   (.ob (.cmp .lt (.elem (.var 18) (.var 24) 0 (.int .i64)) (.int .i64 18))
   (.ob (.cmp .ge (.var 24) (.int .i64 0))
   (.ob (.cmp .lt (.var 24) (.len (.var 19)))
   (.ite (.cmp .ge (.sel (.econs (.var 0) (.econs (.var 1) (.econs (.var 2) (.econs (.var 3) (.econs (.var 4) (.econs (.var 5) (.econs (.var 6) (.econs (.var 7) (.econs (.var 8) (.econs (.var 9) (.econs (.var 10) (.econs (.var 11) (.econs (.var 12) (.econs (.var 13) (.econs (.var 14) (.econs (.var 15) (.econs (.var 16) (.econs (.var 17) .enil)))))))))))))))))) (.elem (.var 18) (.var 24) 0 (.int .i64)) (.int .i64)) (.elem (.var 19) (.var 24) 0 (.int .i64)))
    (.ret [(.int .u32 0), (.int .i64 1)])
    (.ob (.cmp .ge (.elem (.var 18) (.var 24) 0 (.int .i64)) (.int .i64 0))
    (.ob (.cmp .lt (.elem (.var 18) (.var 24) 0 (.int .i64)) (.int .i64 18))
    (.ob (.cmp .ge (.var 24) (.int .i64 0))
    (.ob (.cmp .lt (.var 24) (.len (.var 19)))
    (.again 0 [(.var 20), (.var 21), (.ar .add .i64 (.var 22) (.ar .mul .i64 (.var 23) (.sel (.econs (.var 0) (.econs (.var 1) (.econs (.var 2) (.econs (.var 3) (.econs (.var 4) (.econs (.var 5) (.econs (.var 6) (.econs (.var 7) (.econs (.var 8) (.econs (.var 9) (.econs (.var 10) (.econs (.var 11) (.econs (.var 12) (.econs (.var 13) (.econs (.var 14) (.econs (.var 15) (.econs (.var 16) (.econs (.var 17) .enil)))))))))))))))))) (.elem (.var 18) (.var 24) 0 (.int .i64)) (.int .i64)))), (.ar .mul .i64 (.var 23) (.elem (.var 19) (.var 24) 0 (.int .i64))), (.ar .add .i64 (.var 24) (.int .i64 1))]))))))))))))))
  (.ret [(.conv .u32 (.var 22)), (.int .i64 0)])))))
theorem wk_rHead03 : walk E0.cx (sgsN []) 0 40 sg_rHead03 = tr_rHead03 := by kernel_rfl
theorem bo_rHead03 : ∃ x, bodyOf E0.P 40 = some x := bo_of (by kernel_rfl)
def rHead03_s : Spec := fun ds Q => (∃ m, objB ds m = true) ∧ Q [.int .u32 (headN ds), .int .i64 0]
theorem rHead03_h : Holds E0 k_rHead03 sg_rHead03 rHead03_s := con_fn wf0 mix0 g0 [] rfl wk_rHead03 rfl (by
  intro Φ hΦ ds Q hs ⟨⟨m, hm⟩, h⟩
  have hl : ds.length = 18 := hs.length.symm
  clear hΦ
  have a := fun f hf => inB_iff ((objB_iff ds m).1 hm f hf)
  have g1 : (0 : Int) ≤ argI ds 1 ∧ argI ds 1 ≤ 1 := a 1 (by omega)
  have g2 : (0 : Int) ≤ argI ds 2 ∧ argI ds 2 ≤ 1 := a 2 (by omega)
  have g3 : (0 : Int) ≤ argI ds 3 ∧ argI ds 3 ≤ 10 := a 3 (by omega)
  have g4 : (0 : Int) ≤ argI ds 4 ∧ argI ds 4 ≤ 1 := a 4 (by omega)
  have g5 : (0 : Int) ≤ argI ds 5 ∧ argI ds 5 ≤ 1 := a 5 (by omega)
  have g11 : (0 : Int) ≤ argI ds 11 ∧ argI ds 11 ≤ 1 := a 11 (by omega)
  have g13 : (0 : Int) ≤ argI ds 13 ∧ argI ds 13 ≤ 2 := a 13 (by omega)
  have g17 : (0 : Int) ≤ argI ds 17 ∧ argI ds 17 ≤ 3 := a 17 (by omega)
  have g10 : (0 : Int) ≤ argI ds 10 ∧ argI ds 10 ≤ 255 := a 10 (by omega)
  have hh : headN ds = argI ds 1 + 2 * argI ds 2 + 4 * argI ds 3 + 64 * argI ds 4 + 128 * argI ds 5 + 256 * argI ds 11 + 512 * argI ds 13 + 2048 * argI ds 17 + 8192 * argI ds 10 := rfl
  clear a hm
  simp only [tr_rHead03, wp, den_int, den_bool, den_nili, den_ar, den_cmp, den_not, den_len, den_elem, den_isnil, den_errI, den_ifc, den_rep, den_push, den_app, den_emp, den_upd, row0_econs, row0_enil, den_and, den_beq, den_nil, toInt_int, toBool_bool, xs_rows, xs_list, dflt_int, dflt_bool, of_eq, of_ne, of_lt, of_le, of_gt, of_ge, of_add, of_sub, of_rem, List.map_cons, List.map_nil, Dat.bool.injEq, decide_eq_true_eq, decide_eq_false_iff_not, Bool.not_eq_true', Bool.not_eq_false', beq_iff_eq, bne_iff_ne, beq_eq_false_iff_ne, bne_eq_false_iff_eq, ne_eq, List.append_assoc, List.cons_append, List.nil_append, allS, den_conv, of_mul, den_sel, row0_econs, row0_enil, den_elem, den_len, @den_var0 E0.Δ ds, den_varA, den_varB, hl, Nat.reduceLT, Nat.reduceLeDiff, Nat.reduceSub, List.getD_cons_zero, List.getD_cons_succ, argL_fold ds, argI_fold ds, List.append_assoc, List.cons_append, List.nil_append, toInt_int, toBool_bool, xs_rows, xs_list, Int.toNat_natCast, Dat.bool.injEq, List.length_cons, List.length_nil]
  intro A1 A2
  refine ⟨fun xs m => ∃ k : Nat, xs = [.int .u32 0, .int .i64 0, .int .i64 (hxN ds k), .int .i64 (hwN k), .int .i64 k] ∧ k ≤ 9 ∧ m = 9 - k, ⟨_, 0, rfl, by omega, rfl⟩, ?_⟩
  intro a b x w k' m ⟨k, e, hk, hm⟩
  cases e
  refine ⟨fun hlt => ?_, fun hge => ?_⟩
  · have hk9 : k < 9 := by omega
    clear hlt
    subst hm
    clear hk hs
    match k, hk9 with
    | 0, _ =>
      simp only [Int.toNat_natCast, List.getD_cons_zero, List.getD_cons_succ, toInt_int, hxN, hwN, argI_fold, Int.toNat_one, Int.reduceToNat]
      refine ⟨by omega, by omega, by omega, fun hx => absurd hx (by omega), fun _ => ⟨by omega, by omega, by omega, by omega, fun hx => absurd hx (by omega), fun _ => ⟨by omega, by omega, by omega, by omega, 9 - 1, by show 9 - 1 < 9 - 0; omega, 1, l5 ?_ ?_ ?_, by omega, rfl⟩⟩⟩
      · simp only [List.getD_cons_zero, List.getD_cons_succ, IntKind.wrap_i64]; omega
      · simp only [List.getD_cons_zero, List.getD_cons_succ, IntKind.wrap_i64]; omega
      · simp only [IntKind.wrap_i64]; omega
    | 1, _ =>
      simp only [Int.toNat_natCast, List.getD_cons_zero, List.getD_cons_succ, toInt_int, hxN, hwN, argI_fold, Int.toNat_one, Int.reduceToNat]
      refine ⟨by omega, by omega, by omega, fun hx => absurd hx (by omega), fun _ => ⟨by omega, by omega, by omega, by omega, fun hx => absurd hx (by omega), fun _ => ⟨by omega, by omega, by omega, by omega, 9 - 2, by show 9 - 2 < 9 - 1; omega, 2, l5 ?_ ?_ ?_, by omega, rfl⟩⟩⟩
      · simp only [List.getD_cons_zero, List.getD_cons_succ, IntKind.wrap_i64]; omega
      · simp only [List.getD_cons_zero, List.getD_cons_succ, IntKind.wrap_i64]; omega
      · simp only [IntKind.wrap_i64]; omega
    | 2, _ =>
      simp only [Int.toNat_natCast, List.getD_cons_zero, List.getD_cons_succ, toInt_int, hxN, hwN, argI_fold, Int.toNat_one, Int.reduceToNat]
      refine ⟨by omega, by omega, by omega, fun hx => absurd hx (by omega), fun _ => ⟨by omega, by omega, by omega, by omega, fun hx => absurd hx (by omega), fun _ => ⟨by omega, by omega, by omega, by omega, 9 - 3, by show 9 - 3 < 9 - 2; omega, 3, l5 ?_ ?_ ?_, by omega, rfl⟩⟩⟩
      · simp only [List.getD_cons_zero, List.getD_cons_succ, IntKind.wrap_i64]; omega
      · simp only [List.getD_cons_zero, List.getD_cons_succ, IntKind.wrap_i64]; omega
      · simp only [IntKind.wrap_i64]; omega
    | 3, _ =>
      simp only [Int.toNat_natCast, List.getD_cons_zero, List.getD_cons_succ, toInt_int, hxN, hwN, argI_fold, Int.toNat_one, Int.reduceToNat]
      refine ⟨by omega, by omega, by omega, fun hx => absurd hx (by omega), fun _ => ⟨by omega, by omega, by omega, by omega, fun hx => absurd hx (by omega), fun _ => ⟨by omega, by omega, by omega, by omega, 9 - 4, by show 9 - 4 < 9 - 3; omega, 4, l5 ?_ ?_ ?_, by omega, rfl⟩⟩⟩
      · simp only [List.getD_cons_zero, List.getD_cons_succ, IntKind.wrap_i64]; omega
      · simp only [List.getD_cons_zero, List.getD_cons_succ, IntKind.wrap_i64]; omega
      · simp only [IntKind.wrap_i64]; omega
    | 4, _ =>
      simp only [Int.toNat_natCast, List.getD_cons_zero, List.getD_cons_succ, toInt_int, hxN, hwN, argI_fold, Int.toNat_one, Int.reduceToNat]
      refine ⟨by omega, by omega, by omega, fun hx => absurd hx (by omega), fun _ => ⟨by omega, by omega, by omega, by omega, fun hx => absurd hx (by omega), fun _ => ⟨by omega, by omega, by omega, by omega, 9 - 5, by show 9 - 5 < 9 - 4; omega, 5, l5 ?_ ?_ ?_, by omega, rfl⟩⟩⟩
      · simp only [List.getD_cons_zero, List.getD_cons_succ, IntKind.wrap_i64]; omega
      · simp only [List.getD_cons_zero, List.getD_cons_succ, IntKind.wrap_i64]; omega
      · simp only [IntKind.wrap_i64]; omega
    | 5, _ =>
      simp only [Int.toNat_natCast, List.getD_cons_zero, List.getD_cons_succ, toInt_int, hxN, hwN, argI_fold, Int.toNat_one, Int.reduceToNat]
      refine ⟨by omega, by omega, by omega, fun hx => absurd hx (by omega), fun _ => ⟨by omega, by omega, by omega, by omega, fun hx => absurd hx (by omega), fun _ => ⟨by omega, by omega, by omega, by omega, 9 - 6, by show 9 - 6 < 9 - 5; omega, 6, l5 ?_ ?_ ?_, by omega, rfl⟩⟩⟩
      · simp only [List.getD_cons_zero, List.getD_cons_succ, IntKind.wrap_i64]; omega
      · simp only [List.getD_cons_zero, List.getD_cons_succ, IntKind.wrap_i64]; omega
      · simp only [IntKind.wrap_i64]; omega
    | 6, _ =>
      simp only [Int.toNat_natCast, List.getD_cons_zero, List.getD_cons_succ, toInt_int, hxN, hwN, argI_fold, Int.toNat_one, Int.reduceToNat]
      refine ⟨by omega, by omega, by omega, fun hx => absurd hx (by omega), fun _ => ⟨by omega, by omega, by omega, by omega, fun hx => absurd hx (by omega), fun _ => ⟨by omega, by omega, by omega, by omega, 9 - 7, by show 9 - 7 < 9 - 6; omega, 7, l5 ?_ ?_ ?_, by omega, rfl⟩⟩⟩
      · simp only [List.getD_cons_zero, List.getD_cons_succ, IntKind.wrap_i64]; omega
      · simp only [List.getD_cons_zero, List.getD_cons_succ, IntKind.wrap_i64]; omega
      · simp only [IntKind.wrap_i64]; omega
    | 7, _ =>
      simp only [Int.toNat_natCast, List.getD_cons_zero, List.getD_cons_succ, toInt_int, hxN, hwN, argI_fold, Int.toNat_one, Int.reduceToNat]
      refine ⟨by omega, by omega, by omega, fun hx => absurd hx (by omega), fun _ => ⟨by omega, by omega, by omega, by omega, fun hx => absurd hx (by omega), fun _ => ⟨by omega, by omega, by omega, by omega, 9 - 8, by show 9 - 8 < 9 - 7; omega, 8, l5 ?_ ?_ ?_, by omega, rfl⟩⟩⟩
      · simp only [List.getD_cons_zero, List.getD_cons_succ, IntKind.wrap_i64]; omega
      · simp only [List.getD_cons_zero, List.getD_cons_succ, IntKind.wrap_i64]; omega
      · simp only [IntKind.wrap_i64]; omega
    | 8, _ =>
      simp only [Int.toNat_natCast, List.getD_cons_zero, List.getD_cons_succ, toInt_int, hxN, hwN, argI_fold, Int.toNat_one, Int.reduceToNat]
      refine ⟨by omega, by omega, by omega, fun hx => absurd hx (by omega), fun _ => ⟨by omega, by omega, by omega, by omega, fun hx => absurd hx (by omega), fun _ => ⟨by omega, by omega, by omega, by omega, 9 - 9, by show 9 - 9 < 9 - 8; omega, 9, l5 ?_ ?_ ?_, by omega, rfl⟩⟩⟩
      · simp only [List.getD_cons_zero, List.getD_cons_succ, IntKind.wrap_i64]; omega
      · simp only [List.getD_cons_zero, List.getD_cons_succ, IntKind.wrap_i64]; omega
      · simp only [IntKind.wrap_i64]; omega
  · obtain rfl : k = 9 := by omega
    have e : IntKind.u32.wrap (headN ds) = headN ds := by rw [IntKind.wrap_u32]; omega
    show Q [Dat.int IntKind.u32 (IntKind.u32.wrap (headN ds)), _]
    rw [e]
    exact h)
noncomputable def con_rHead03 : Con E0 := ⟨k_rHead03, sg_rHead03, rHead03_s, rfl, bo_rHead03, rHead03_h⟩
end Go.Proofs.YtilpkfjajnlaoaaDoor
end

section
namespace Go.Proofs.YtilpkfjajnlaoaaDoor
open Go.RowKit
set_option linter.unusedVariables false
set_option linter.unusedSimpArgs false

theorem nums_app (a b : List (List Dat)) : nums (a ++ b) = nums a ++ nums b := List.map_append
theorem nums_1' (d : Dat) : nums [[d]] = [d.toInt] := rfl
theorem nums_lenE {xs : List (List Dat)} {l : List Int} (h : nums xs = l) : xs.length = l.length := by rw [← h]; exact (nums_len xs).symm
theorem rowI_map (l : List Dat) (j : Nat) : rowI l j = (l.map Dat.toInt).getD j 0 := by
  unfold rowI
  rw [List.getD_eq_getElem?_getD, List.getD_eq_getElem?_getD, List.getElem?_map]
  cases l[j]? <;> rfl
def k_rBytes11 : Nat := 19
def sg_rBytes11 : Sig := ⟨[(true, [.list 36] ++ List.replicate 11 (.list 3) ++ List.replicate 25 (.int .i64))], [(false, [.list 5]), (false, [.int .i64])], false, false, true, false, false⟩
def tr_rBytes11 : Tree := (.call k_rCheck [(.var 0), (.var 1), (.var 2), (.var 3), (.var 4), (.var 5), (.var 6), (.var 7), (.var 8), (.var 9), (.var 10), (.var 11), (.var 12), (.var 13), (.var 14), (.var 15), (.var 16), (.var 17), (.var 18), (.var 19), (.var 20), (.var 21), (.var 22), (.var 23), (.var 24), (.var 25), (.var 26), (.var 27), (.var 28), (.var 29), (.var 30), (.var 31), (.var 32), (.var 33), (.var 34), (.var 35), (.var 36)] [(.int .i64)]
(.ite (.cmp .ne (.var 37) (.int .i64 0))
 (.share 5 .emp
 (.ret [(.var 38), (.var 37)]))
 (.loop [(.push .emp (.econs (.len (.var 0)) .enil)), (.int .i64 0)] [(.rows 3), (.int .i64)]
  (.ite (.cmp .lt (.var 39) (.len (.var 0)))
   (.ob (.cmp .ge (.var 39) (.int .i64 0))
   (.call k_rHead03 [(.elem (.var 0) (.var 39) 0 (.int .i64)), (.elem (.var 0) (.var 39) 1 (.int .i64)), (.elem (.var 0) (.var 39) 2 (.int .i64)), (.elem (.var 0) (.var 39) 3 (.int .i64)), (.elem (.var 0) (.var 39) 4 (.int .i64)), (.elem (.var 0) (.var 39) 5 (.int .i64)), (.elem (.var 0) (.var 39) 6 (.int .i64)), (.elem (.var 0) (.var 39) 7 (.int .i64)), (.elem (.var 0) (.var 39) 8 (.int .i64)), (.elem (.var 0) (.var 39) 9 (.int .i64)), (.elem (.var 0) (.var 39) 10 (.int .i64)), (.elem (.var 0) (.var 39) 11 (.int .i64)), (.elem (.var 0) (.var 39) 12 (.int .i64)), (.elem (.var 0) (.var 39) 13 (.int .i64)), (.elem (.var 0) (.var 39) 14 (.int .i64)), (.elem (.var 0) (.var 39) 15 (.int .i64)), (.elem (.var 0) (.var 39) 16 (.int .i64)), (.elem (.var 0) (.var 39) 17 (.int .i64))] [(.int .u32), (.int .i64)]
   (.call k_rRest03 [(.elem (.var 0) (.var 39) 0 (.int .i64)), (.elem (.var 0) (.var 39) 1 (.int .i64)), (.elem (.var 0) (.var 39) 2 (.int .i64)), (.elem (.var 0) (.var 39) 3 (.int .i64)), (.elem (.var 0) (.var 39) 4 (.int .i64)), (.elem (.var 0) (.var 39) 5 (.int .i64)), (.elem (.var 0) (.var 39) 6 (.int .i64)), (.elem (.var 0) (.var 39) 7 (.int .i64)), (.elem (.var 0) (.var 39) 8 (.int .i64)), (.elem (.var 0) (.var 39) 9 (.int .i64)), (.elem (.var 0) (.var 39) 10 (.int .i64)), (.elem (.var 0) (.var 39) 11 (.int .i64)), (.elem (.var 0) (.var 39) 12 (.int .i64)), (.elem (.var 0) (.var 39) 13 (.int .i64)), (.elem (.var 0) (.var 39) 14 (.int .i64)), (.elem (.var 0) (.var 39) 15 (.int .i64)), (.elem (.var 0) (.var 39) 16 (.int .i64)), (.elem (.var 0) (.var 39) 17 (.int .i64))] [(.int .i64), (.int .i64), (.int .i64), (.int .i64), (.int .i64), (.int .i64), (.int .i64), (.int .i64), (.int .i64)]
   (.ob (.cmp .le (.len (.push (.var 38) (.econs (.conv .i64 (.var 40)) .enil))) (.int .i64 17592186044416))
   (.loop [(.push (.var 38) (.econs (.conv .i64 (.var 40)) .enil)), (.int .i64 0)] [(.rows 3), (.int .i64)]
    (.ite (.cmp .lt (.var 52) (.int .i64 9))
     (.ob (.cmp .ge (.var 52) (.int .i64 0))
     (.ob (.cmp .le (.len (.push (.var 51) (.econs (.sel (.econs (.var 42) (.econs (.var 43) (.econs (.var 44) (.econs (.var 45) (.econs (.var 46) (.econs (.var 47) (.econs (.var 48) (.econs (.var 49) (.econs (.var 50) .enil))))))))) (.var 52) (.int .i64)) .enil))) (.int .i64 17592186044416))
     (.again 1 [(.push (.var 51) (.econs (.sel (.econs (.var 42) (.econs (.var 43) (.econs (.var 44) (.econs (.var 45) (.econs (.var 46) (.econs (.var 47) (.econs (.var 48) (.econs (.var 49) (.econs (.var 50) .enil))))))))) (.var 52) (.int .i64)) .enil)), (.ar .add .i64 (.var 52) (.int .i64 1))])))
     (.again 0 [(.var 51), (.ar .add .i64 (.var 39) (.int .i64 1))])))))))
   (.loop [(.var 38), (.int .i64 0)] [(.rows 3), (.int .i64)]
    (.ite (.cmp .lt (.var 41) (.int .i64 11))
     (.ob (.cmp .ge (.var 41) (.int .i64 0))
     (.ob (.cmp .le (.len (.push (.var 40) (.econs (.len (.sel (.econs (.var 1) (.econs (.var 2) (.econs (.var 3) (.econs (.var 4) (.econs (.var 5) (.econs (.var 6) (.econs (.var 7) (.econs (.var 8) (.econs (.var 9) (.econs (.var 10) (.econs (.var 11) .enil))))))))))) (.var 41) (.list 3))) .enil))) (.int .i64 17592186044416))
     (.ob (.cmp .ge (.var 41) (.int .i64 0))
     (.ob (.cmp .le (.len (.app (.push (.var 40) (.econs (.len (.sel (.econs (.var 1) (.econs (.var 2) (.econs (.var 3) (.econs (.var 4) (.econs (.var 5) (.econs (.var 6) (.econs (.var 7) (.econs (.var 8) (.econs (.var 9) (.econs (.var 10) (.econs (.var 11) .enil))))))))))) (.var 41) (.list 3))) .enil)) (.sel (.econs (.var 1) (.econs (.var 2) (.econs (.var 3) (.econs (.var 4) (.econs (.var 5) (.econs (.var 6) (.econs (.var 7) (.econs (.var 8) (.econs (.var 9) (.econs (.var 10) (.econs (.var 11) .enil))))))))))) (.var 41) (.list 3)))) (.int .i64 17592186044416))
     (.again 1 [(.app (.push (.var 40) (.econs (.len (.sel (.econs (.var 1) (.econs (.var 2) (.econs (.var 3) (.econs (.var 4) (.econs (.var 5) (.econs (.var 6) (.econs (.var 7) (.econs (.var 8) (.econs (.var 9) (.econs (.var 10) (.econs (.var 11) .enil))))))))))) (.var 41) (.list 3))) .enil)) (.sel (.econs (.var 1) (.econs (.var 2) (.econs (.var 3) (.econs (.var 4) (.econs (.var 5) (.econs (.var 6) (.econs (.var 7) (.econs (.var 8) (.econs (.var 9) (.econs (.var 10) (.econs (.var 11) .enil))))))))))) (.var 41) (.list 3))), (.ar .add .i64 (.var 41) (.int .i64 1))])))))
     (.loop [(.var 40), (.int .i64 0)] [(.rows 3), (.int .i64)]
      (.ite (.cmp .lt (.var 43) (.int .i64 2))
       (.loop [(.var 42), (.int .i64 0)] [(.rows 3), (.int .i64)]
        (.ite (.cmp .lt (.var 45) (.int .i64 9))
         (.ob (.cmp .ge (.var 43) (.int .i64 0))
         (.ob (.cmp .ge (.var 45) (.int .i64 0))
         (.ob (.cmp .le (.len (.push (.var 44) (.econs (.sel (.econs (.sel (.econs (.var 12) (.econs (.var 21) .enil)) (.var 43) (.int .i64)) (.econs (.sel (.econs (.var 13) (.econs (.var 22) .enil)) (.var 43) (.int .i64)) (.econs (.sel (.econs (.var 14) (.econs (.var 23) .enil)) (.var 43) (.int .i64)) (.econs (.sel (.econs (.var 15) (.econs (.var 24) .enil)) (.var 43) (.int .i64)) (.econs (.sel (.econs (.var 16) (.econs (.var 25) .enil)) (.var 43) (.int .i64)) (.econs (.sel (.econs (.var 17) (.econs (.var 26) .enil)) (.var 43) (.int .i64)) (.econs (.sel (.econs (.var 18) (.econs (.var 27) .enil)) (.var 43) (.int .i64)) (.econs (.sel (.econs (.var 19) (.econs (.var 28) .enil)) (.var 43) (.int .i64)) (.econs (.sel (.econs (.var 20) (.econs (.var 29) .enil)) (.var 43) (.int .i64)) .enil))))))))) (.var 45) (.int .i64)) .enil))) (.int .i64 17592186044416))
         (.again 3 [(.push (.var 44) (.econs (.sel (.econs (.sel (.econs (.var 12) (.econs (.var 21) .enil)) (.var 43) (.int .i64)) (.econs (.sel (.econs (.var 13) (.econs (.var 22) .enil)) (.var 43) (.int .i64)) (.econs (.sel (.econs (.var 14) (.econs (.var 23) .enil)) (.var 43) (.int .i64)) (.econs (.sel (.econs (.var 15) (.econs (.var 24) .enil)) (.var 43) (.int .i64)) (.econs (.sel (.econs (.var 16) (.econs (.var 25) .enil)) (.var 43) (.int .i64)) (.econs (.sel (.econs (.var 17) (.econs (.var 26) .enil)) (.var 43) (.int .i64)) (.econs (.sel (.econs (.var 18) (.econs (.var 27) .enil)) (.var 43) (.int .i64)) (.econs (.sel (.econs (.var 19) (.econs (.var 28) .enil)) (.var 43) (.int .i64)) (.econs (.sel (.econs (.var 20) (.econs (.var 29) .enil)) (.var 43) (.int .i64)) .enil))))))))) (.var 45) (.int .i64)) .enil)), (.ar .add .i64 (.var 45) (.int .i64 1))]))))
         (.again 2 [(.var 44), (.ar .add .i64 (.var 43) (.int .i64 1))])))
       (.loop [(.var 42), (.int .i64 0)] [(.rows 3), (.int .i64)]
        (.ite (.cmp .lt (.var 45) (.int .i64 7))
         (.ob (.cmp .ge (.var 45) (.int .i64 0))
         (.ob (.cmp .le (.len (.push (.var 44) (.econs (.sel (.econs (.var 30) (.econs (.var 31) (.econs (.var 32) (.econs (.var 33) (.econs (.var 34) (.econs (.var 35) (.econs (.var 36) .enil))))))) (.var 45) (.int .i64)) .enil))) (.int .i64 17592186044416))
         (.again 3 [(.push (.var 44) (.econs (.sel (.econs (.var 30) (.econs (.var 31) (.econs (.var 32) (.econs (.var 33) (.econs (.var 34) (.econs (.var 35) (.econs (.var 36) .enil))))))) (.var 45) (.int .i64)) .enil)), (.ar .add .i64 (.var 45) (.int .i64 1))])))
         (.loop [.emp, (.int .i64 0)] [(.rows 5), (.int .i64)]
          (.ite (.cmp .lt (.var 47) (.len (.var 44)))
           (.ob (.cmp .ge (.var 47) (.int .i64 0))
           (.call k_rBytes2 [(.elem (.var 44) (.var 47) 0 (.int .i64))] [(.rows 5)]
           (.ob (.cmp .le (.len (.app (.var 46) (.app .emp (.var 48)))) (.int .i64 140737488355328))
           (.again 4 [(.app (.var 46) (.app .emp (.var 48))), (.ar .add .i64 (.var 47) (.int .i64 1))]))))
           (.share 5 (.var 46)
           (.ret [(.var 48), (.int .i64 0)]))))))))))))))
theorem wk_rBytes11 : walk E0.cx (sgsN [(17, sg_rCheck), (40, sg_rHead03), (41, sg_rRest03), (42, sg_rBytes2)]) 0 19 sg_rBytes11 = tr_rBytes11 := by kernel_rfl
theorem bo_rBytes11 : ∃ x, bodyOf E0.P 19 = some x := bo_of (by kernel_rfl)
theorem sp_rBytes11_rCheck : specC [con_rCheck, con_rHead03, con_rRest03, con_rBytes2] k_rCheck = rCheck_s := rfl
theorem sp_rBytes11_rHead03 : specC [con_rCheck, con_rHead03, con_rRest03, con_rBytes2] k_rHead03 = rHead03_s := rfl
theorem sp_rBytes11_rRest03 : specC [con_rCheck, con_rHead03, con_rRest03, con_rBytes2] k_rRest03 = rRest03_s := rfl
theorem sp_rBytes11_rBytes2 : specC [con_rCheck, con_rHead03, con_rRest03, con_rBytes2] k_rBytes2 = rBytes2_s := rfl
def rBytes11_s : Spec := fun ds Q => Sm ds ∧ ∀ n, errP ds n → ∀ d : Dat, (n = 0 → d.xs = u8R (encs (numsOf ds))) → (n ≠ 0 → d.xs = []) → Q [d, .int .i64 n]
theorem rBytes11_h : Holds E0 k_rBytes11 sg_rBytes11 rBytes11_s := con_fn wf0 mix0 g0 [con_rCheck, con_rHead03, con_rRest03, con_rBytes2] rfl wk_rBytes11 rfl (by
  intro Φ hΦ ds Q hs ⟨hsm, h⟩
  have hl : ds.length = 37 := hs.length.symm
  have s1 : Φ k_rCheck = rCheck_s := by rw [hΦ]; rfl
  have s2 : Φ k_rHead03 = rHead03_s := by rw [hΦ]; rfl
  have s3 : Φ k_rRest03 = rRest03_s := by rw [hΦ]; rfl
  have s4 : Φ k_rBytes2 = rBytes2_s := by rw [hΦ]; rfl
  clear hΦ
  simp (config := {maxSteps := 2000000}) only [tr_rBytes11, wp, den_int, den_bool, den_nili, den_ar, den_cmp, den_not, den_len, den_elem, den_isnil, den_errI, den_ifc, den_rep, den_push, den_app, den_emp, den_upd, row0_econs, row0_enil, den_and, den_beq, den_nil, toInt_int, toBool_bool, xs_rows, xs_list, dflt_int, dflt_bool, of_eq, of_ne, of_lt, of_le, of_gt, of_ge, of_add, of_sub, of_rem, List.map_cons, List.map_nil, Dat.bool.injEq, decide_eq_true_eq, decide_eq_false_iff_not, Bool.not_eq_true', Bool.not_eq_false', beq_iff_eq, bne_iff_ne, beq_eq_false_iff_ne, bne_eq_false_iff_eq, ne_eq, List.append_assoc, List.cons_append, List.nil_append, allS, s1, s2, s3, s4, rCheck_s, rHead03_s, rRest03_s, rBytes2_s, @den_var0 E0.Δ ds, den_varA, den_varB, hl, Nat.reduceLT, Nat.reduceLeDiff, Nat.reduceSub, List.getD_cons_zero, List.getD_cons_succ, argL_fold ds, argI_fold ds, List.append_assoc, List.cons_append, List.nil_append, toInt_int, toBool_bool, xs_rows, xs_list, Int.toNat_natCast, Dat.bool.injEq, den_conv, dflt_int, toInt_getD, List.append_nil, List.getElem?_cons_zero, List.getElem?_cons_succ, argL_c0, argL_c1, argI_c0, headN18, objB18, List.length_cons, List.length_nil, fold37 hl]
  refine ⟨hsm, fun n hn => ?_⟩
  have h := h n hn
  refine ⟨fun hx => ?_, fun hx => ?_⟩
  · exact fun A c => h _ (fun e => absurd e hx) fun _ => rfl
  obtain rfl : n = 0 := hx
  have h := fun d hd => h d (fun _ => hd) fun e => absurd rfl e
  obtain ⟨h4, hR, hZ⟩ := errP_0 hn
  refine ⟨fun ys m => ∃ (xs : List (List Dat)) (k : Nat), ys = [.rows xs, .int .i64 k] ∧ k ≤ (argL ds 0).length ∧ m = (argL ds 0).length - k ∧ nums xs = ((argL ds 0).length : Int) :: ((argL ds 0).take k).flatMap objN, ⟨_, _, 0, rfl, by omega, rfl, by rw [List.take_zero]; rfl⟩, ?_⟩
  intro d0 hd0 n1 m ⟨xs, k, e, hk, hm, hx⟩
  cases e
  subst hm
  have hxl := nums_lenE hx
  rw [List.length_cons, flat_len, List.length_take] at hxl
  refine ⟨fun hlt => ?_, fun hge => ?_⟩
  · have hk2 : k < (argL ds 0).length := by omega
    have hmem := getD_memL (d := []) hk2
    have hob := hR.1 _ hmem
    have htk : (argL ds 0).take (k + 1) = (argL ds 0).take k ++ [(argL ds 0).getD k []] := take_succ_getD hk2
    obtain ⟨hb, hr, hh⟩ := objN_ok hob (by omega)
    rw [Int.toNat_natCast]
    generalize (argL ds 0).getD k [] = o at *
    refine ⟨by omega, ⟨_, hob⟩, ?_⟩
    have hw : IntKind.i64.wrap (headN o) = headN o := wrap64 (by omega) (by omega)
    have hr9 : (restN o).length = 9 := rfl
    rw [hw]
    refine ⟨by rw [xs_rows, List.length_append]; simp only [List.length_cons, List.length_nil]; omega, fun ys m => ∃ (xs' : List (List Dat)) (j : Nat), ys = [.rows xs', .int .i64 j] ∧ j ≤ 9 ∧ m = 9 - j ∧ nums xs' = (((argL ds 0).length : Int) :: ((argL ds 0).take k).flatMap objN) ++ headN o :: (restN o).take j, ⟨_, _, 0, rfl, by omega, rfl, by rw [xs_rows, nums_app, hx]; rfl⟩, ?_⟩
    intro d1 hd1 n2 m2 ⟨xs1, j, e1, hj, hm1, hx1⟩
    cases e1
    have hxl1 := nums_lenE hx1
    rw [List.length_append, List.length_cons, List.length_cons, flat_len, List.length_take, List.length_take, hr9] at hxl1
    refine ⟨fun hlt2 => ?_, fun hge2 => ?_⟩
    · have hj9 : j < 9 := by omega
      simp only [den_sel, row0_econs, row0_enil, den_elem, den_len, @den_var0 E0.Δ ds, den_varA, den_varB, hl, Nat.reduceLT, Nat.reduceLeDiff, Nat.reduceSub, List.getD_cons_zero, List.getD_cons_succ, argL_fold ds, argI_fold ds, List.append_assoc, List.cons_append, List.nil_append, toInt_int, toBool_bool, xs_rows, xs_list, Int.toNat_natCast, Dat.bool.injEq, Int.toNat_natCast, dflt_int]
      refine ⟨by omega, by rw [List.length_append]; simp only [List.length_cons, List.length_nil]; omega, 9 - (j + 1), by omega, _, j + 1, by rw [wrap64 (by omega) (by omega)]; rfl, by omega, rfl, ?_⟩
      rw [nums_app, hx1, nums_1', toInt_getD, rowI_map, take_succ_getD (d := 0) (show j < (restN o).length from hj9), List.append_assoc]
      rfl
    · obtain rfl : j = 9 := by omega
      refine ⟨(argL ds 0).length - (k + 1), by omega, xs1, k + 1, by rw [wrap64 (by omega) (by omega)]; rfl, by omega, rfl, ?_⟩
      rw [hx1, htk, List.flatMap_append, List.flatMap_cons, List.flatMap_nil, List.append_nil]
      rfl
  obtain rfl : k = (argL ds 0).length := by omega
  rw [List.take_length] at hx
  clear hxl hd0
  refine ⟨fun ys m => ∃ (xs' : List (List Dat)) (z : Nat), ys = [.rows xs', .int .i64 z] ∧ z ≤ 11 ∧ m = 11 - z ∧ nums xs' = ((argL ds 0).length : Int) :: ((argL ds 0).flatMap objN ++ (List.range z).flatMap (listN ds)), ⟨_, _, 0, rfl, by omega, rfl, by rw [hx, List.range_zero, List.flatMap_nil, List.append_nil]⟩, ?_⟩
  intro d1 hd1 n2 m2 ⟨xs1, z, e1, hz, hm1, hx1⟩
  cases e1
  have hl4 := lists_len hZ h4 z hz
  have hxl1 := nums_lenE hx1
  rw [List.length_cons, List.length_append, flat_len] at hxl1
  refine ⟨fun hlt => ?_, fun hge => ?_⟩
  · have hz11 : z < 11 := by omega
    have hs := lst_small hZ h4 hz11
    have hln := lst_len ds z
    rw [den_listsG (z := z) (by omega) (by simp only [@den_var0 E0.Δ ds, den_varA, den_varB, hl, Nat.reduceLT, Nat.reduceLeDiff, Nat.reduceSub, List.getD_cons_zero, List.getD_cons_succ, argL_fold ds, argI_fold ds, List.append_assoc, List.cons_append, List.nil_append, toInt_int, toBool_bool, xs_rows, xs_list, Int.toNat_natCast, Dat.bool.injEq]) hz11, argL_fold]
    refine ⟨by omega, ?_, by omega, ?_, 11 - (z + 1), by omega, _, z + 1, by rw [wrap64 (by omega) (by omega)]; rfl, by omega, rfl, ?_⟩
    · rw [List.length_append, xs_rows]; simp only [List.length_cons, List.length_nil]; omega
    · rw [List.length_append, xs_rows]; simp only [List.length_cons, List.length_append, List.length_nil]; omega
    · rw [nums_app, xs_rows, hx1, nums_c, List.range_succ, List.flatMap_append, List.flatMap_cons, List.flatMap_nil, List.append_nil, List.cons_append, List.append_assoc]
      refine congrArg (fun l => _ :: (_ ++ (_ ++ l))) ?_
      show _ :: nums _ = _ :: _
      rw [hln]; rfl
  obtain rfl : z = 11 := by omega
  have hv0 : ∀ i, i < 9 → rowI [ds.getD 12 (.bool false), ds.getD 13 (.bool false), ds.getD 14 (.bool false), ds.getD 15 (.bool false), ds.getD 16 (.bool false), ds.getD 17 (.bool false), ds.getD 18 (.bool false), ds.getD 19 (.bool false), ds.getD 20 (.bool false)] i = argI ds (12 + i) := fun i hi => by
    match i, hi with
    | 0, _ | 1, _ | 2, _ | 3, _ | 4, _ | 5, _ | 6, _ | 7, _ | 8, _ => simp only [rowI, List.getD_cons_zero, List.getD_cons_succ, argI_fold, Nat.reduceAdd, Nat.add_zero]
  have hv1 : ∀ i, i < 9 → rowI [ds.getD 21 (.bool false), ds.getD 22 (.bool false), ds.getD 23 (.bool false), ds.getD 24 (.bool false), ds.getD 25 (.bool false), ds.getD 26 (.bool false), ds.getD 27 (.bool false), ds.getD 28 (.bool false), ds.getD 29 (.bool false)] i = argI ds (21 + i) := fun i hi => by
    match i, hi with
    | 0, _ | 1, _ | 2, _ | 3, _ | 4, _ | 5, _ | 6, _ | 7, _ | 8, _ => simp only [rowI, List.getD_cons_zero, List.getD_cons_succ, argI_fold, Nat.reduceAdd, Nat.add_zero]
  have hv2 : ∀ i, i < 7 → rowI [ds.getD 30 (.bool false), ds.getD 31 (.bool false), ds.getD 32 (.bool false), ds.getD 33 (.bool false), ds.getD 34 (.bool false), ds.getD 35 (.bool false), ds.getD 36 (.bool false)] i = argI ds (30 + i) := fun i hi => by
    match i, hi with
    | 0, _ | 1, _ | 2, _ | 3, _ | 4, _ | 5, _ | 6, _ => simp only [rowI, List.getD_cons_zero, List.getD_cons_succ, argI_fold, Nat.reduceAdd, Nat.add_zero]
  have hL : (listsN ds).length ≤ 401 * 11 := hl4
  have hl18 : ∀ n, ((List.range n).map fun i => argI ds (12 + i)).length = n := fun n => by rw [List.length_map, List.length_range]
  clear hl4 hz hge
  refine ⟨fun ys m => ∃ (xs' : List (List Dat)) (p : Nat), ys = [.rows xs', .int .i64 p] ∧ p ≤ 2 ∧ m = 2 - p ∧ nums xs' = ((argL ds 0).length : Int) :: ((argL ds 0).flatMap objN ++ (listsN ds ++ (List.range (9 * p)).map fun i => argI ds (12 + i))), ⟨_, _, 0, rfl, by omega, rfl, by rw [hx1]; simp [listsN]⟩, ?_⟩
  intro d2 hd2 n3 m3 ⟨xs2, p, e2, hp, hm2, hx2⟩
  cases e2
  refine ⟨fun hlt => ?_, fun hge => ?_⟩
  · have hp2 : p < 2 := by omega
    refine ⟨fun ys m => ∃ (xs' : List (List Dat)) (j : Nat), ys = [.rows xs', .int .i64 j] ∧ j ≤ 9 ∧ m = 9 - j ∧ nums xs' = ((argL ds 0).length : Int) :: ((argL ds 0).flatMap objN ++ (listsN ds ++ (List.range (9 * p + j)).map fun i => argI ds (12 + i))), ⟨_, _, 0, rfl, by omega, rfl, hx2⟩, ?_⟩
    intro d3 hd3 n4 m4 ⟨xs3, j, e3, hj, hm3, hx3⟩
    cases e3
    have hxl3 := nums_lenE hx3
    rw [List.length_cons, List.length_append, flat_len, List.length_append, hl18] at hxl3
    refine ⟨fun hlt2 => ?_, fun hge2 => ?_⟩
    · have hj9 : j < 9 := by omega
      refine ⟨by omega, by omega, by rw [List.length_append, xs_rows]; simp only [List.length_cons, List.length_nil]; omega, 9 - (j + 1), by omega, _, j + 1, by rw [wrap64 (by omega) (by omega)]; rfl, by omega, rfl, ?_⟩
      rw [nums_app, xs_rows, hx3, nums_1', show 9 * p + (j + 1) = 9 * p + j + 1 from rfl, List.range_succ, List.map_append, List.map_cons, List.map_nil, List.cons_append, List.append_assoc, List.append_assoc]
      refine congrArg (fun l => _ :: (_ ++ (_ ++ (_ ++ [l])))) ?_
      have hp3 : p = 0 ∨ p = 1 := by omega
      clear hx2 hx3 hxl3 hlt hm2 hm3
      rcases hp3 with rfl | rfl
      · simp only [den_sel, row0_econs, row0_enil, den_elem, den_len, @den_var0 E0.Δ ds, den_varA, den_varB, hl, Nat.reduceLT, Nat.reduceLeDiff, Nat.reduceSub, List.getD_cons_zero, List.getD_cons_succ, argL_fold ds, argI_fold ds, List.append_assoc, List.cons_append, List.nil_append, toInt_int, toBool_bool, xs_rows, xs_list, Int.toNat_natCast, Dat.bool.injEq, Int.toNat_natCast, dflt_int, toInt_getD, List.getD_cons_zero, List.getD_cons_succ]
        rw [hv0 j hj9]
        congr 1; omega
      · simp only [den_sel, row0_econs, row0_enil, den_elem, den_len, @den_var0 E0.Δ ds, den_varA, den_varB, hl, Nat.reduceLT, Nat.reduceLeDiff, Nat.reduceSub, List.getD_cons_zero, List.getD_cons_succ, argL_fold ds, argI_fold ds, List.append_assoc, List.cons_append, List.nil_append, toInt_int, toBool_bool, xs_rows, xs_list, Int.toNat_natCast, Dat.bool.injEq, Int.toNat_natCast, dflt_int, toInt_getD, List.getD_cons_zero, List.getD_cons_succ]
        rw [hv1 j hj9]
        congr 1; omega
    · obtain rfl : j = 9 := by omega
      exact ⟨2 - (p + 1), by omega, xs3, p + 1, by rw [wrap64 (by omega) (by omega)]; rfl, by omega, rfl, hx3⟩
  obtain rfl : p = 2 := by omega
  clear hge
  refine ⟨fun ys m => ∃ (xs' : List (List Dat)) (j : Nat), ys = [.rows xs', .int .i64 j] ∧ j ≤ 7 ∧ m = 7 - j ∧ nums xs' = ((argL ds 0).length : Int) :: ((argL ds 0).flatMap objN ++ (listsN ds ++ (List.range (18 + j)).map fun i => argI ds (12 + i))), ⟨_, _, 0, rfl, by omega, rfl, hx2⟩, ?_⟩
  intro d3 hd3 n4 m4 ⟨xs3, j, e3, hj, hm3, hx3⟩
  cases e3
  have hxl3 := nums_lenE hx3
  rw [List.length_cons, List.length_append, flat_len, List.length_append, hl18] at hxl3
  refine ⟨fun hlt2 => ?_, fun hge2 => ?_⟩
  · have hj7 : j < 7 := by omega
    refine ⟨by omega, by rw [List.length_append, xs_rows]; simp only [List.length_cons, List.length_nil]; omega, 7 - (j + 1), by omega, _, j + 1, by rw [wrap64 (by omega) (by omega)]; rfl, by omega, rfl, ?_⟩
    rw [nums_app, xs_rows, hx3, nums_1', show 18 + (j + 1) = 18 + j + 1 from rfl, List.range_succ, List.map_append, List.map_cons, List.map_nil, List.cons_append, List.append_assoc, List.append_assoc]
    refine congrArg (fun l => _ :: (_ ++ (_ ++ (_ ++ [l])))) ?_
    clear hx2 hx3 hxl3 hm2 hm3
    simp only [den_sel, row0_econs, row0_enil, den_elem, den_len, @den_var0 E0.Δ ds, den_varA, den_varB, hl, Nat.reduceLT, Nat.reduceLeDiff, Nat.reduceSub, List.getD_cons_zero, List.getD_cons_succ, argL_fold ds, argI_fold ds, List.append_assoc, List.cons_append, List.nil_append, toInt_int, toBool_bool, xs_rows, xs_list, Int.toNat_natCast, Dat.bool.injEq, Int.toNat_natCast, dflt_int, toInt_getD]
    rw [hv2 j hj7]
    congr 1; omega
  obtain rfl : j = 7 := by omega
  have hx4 : nums xs3 = numsOf ds := hx3
  clear hx2 hx3 hxl3 hge2 hv0 hv1 hv2
  have hub := enc_ub hn
  have hok := numsOf_ok hn
  have hln := nums_lenE hx4
  have hat : ∀ i, i < xs3.length → rowI (xs3.getD i []) 0 = (numsOf ds).getD i 0 := fun i hi => by rw [num_at hi, hx4]
  generalize numsOf ds = L at *
  refine ⟨fun ys m => ∃ k : Nat, ys = [.rows (u8R (encs (L.take k))), .int .i64 k] ∧ k ≤ L.length ∧ m = L.length - k, ⟨_, 0, by rw [List.take_zero]; rfl, by omega, rfl⟩, ?_⟩
  intro d5 hd5 n5 m5 ⟨k, e5, hk, hm5⟩
  cases e5
  refine ⟨fun hlt => ?_, fun hge => ?_⟩
  · rw [xs_rows] at hlt
    have hk2 : k < L.length := by omega
    rw [Int.toNat_natCast, xs_rows, xs_rows, hat k (by omega)]
    have ho := hok _ (getD_memL (d := 0) hk2)
    have hel := encs_len (L.take k)
    rw [List.length_take] at hel
    have he1 : (mth.encI (L.getD k 0)).length ≤ 10 := (mth.enc_len _).2
    refine ⟨by omega, ho.1, ho.2, by rw [List.length_append, u8R_len, u8R_len]; omega, L.length - (k + 1), by omega, k + 1, ?_, by omega, rfl⟩
    rw [wrap64 (by omega) (by omega), take_succ_getD (d := 0) hk2, encs_app, u8R_app, show encs [L.getD k 0] = mth.encI (L.getD k 0) by simp [encs]]
    rfl
  · rw [xs_rows] at hge
    obtain rfl : k = L.length := by omega
    refine fun A c => h _ ?_
    rw [xs_list, xs_rows, List.take_length])
noncomputable def con_rBytes11 : Con E0 := ⟨k_rBytes11, sg_rBytes11, rBytes11_s, rfl, bo_rBytes11, rBytes11_h⟩
end Go.Proofs.YtilpkfjajnlaoaaDoor
end

section
namespace Go.Proofs.YtilpkfjajnlaoaaDoor
open Go.RowKit
set_option linter.unusedVariables false
set_option linter.unusedSimpArgs false

theorem tB2_of {ds : List Dat} {Q : List Dat → Prop} (hs : Sm ds) {n : Int} (hn : errP ds n) (h : ∀ d : Dat, d.xs = u8R (if n = 0 then encs (numsOf ds) else []) → Q [d, errV n]) : tBytes11_s ds Q :=
  ⟨hs, fun m hm => by
    obtain rfl := errP_inj hm hn
    refine ⟨fun h0 d hd => h d (by rw [if_neg h0]; exact hd), fun h0 d hd => ?_⟩
    have := h d (by rw [if_pos h0]; exact hd)
    rw [h0] at this
    exact this⟩
theorem rB2_of {ds : List Dat} {Q : List Dat → Prop} (hs : Sm ds) {n : Int} (hn : errP ds n) (h : ∀ d : Dat, d.xs = u8R (if n = 0 then encs (numsOf ds) else []) → Q [d, .int .i64 n]) : rBytes11_s ds Q :=
  ⟨hs, fun m hm d h0 h1 => by
    obtain rfl := errP_inj hm hn
    refine h d ?_
    by_cases e : m = 0
    · rw [if_pos e]; exact h0 e
    · rw [if_neg e]; exact h1 e⟩
theorem cb_fin {Φ : Nat → Spec} (s8 : Φ k_cHash = cHash_s) (s6 : Φ k_rHash11 = rHash11_s) {Q : List Dat → Prop} (h : Q [.bool true]) {ds E : List Dat} (hl : ds.length = 38) (hlen : (argL ds 37).length ≤ 500) {a : Nat} (ha : 38 + E.length = a) {ss1 ss2 : List Srt} : wp E0.Δ Φ Q (.call k_cHash [.var 37] ss1 (.call k_rHash11 [.var 37] ss2 (.ret [.cmp .eq (.var a) (.var (a + 1))]))) (ds ++ E) [] := by
  have e : (ds.getD 37 (.bool false)).xs = argL ds 37 := argL_fold ds 37
  refine wp_callG (args := [ds.getD 37 (.bool false)]) ?_ ?_
  · show [(ds ++ E).getD 37 (.bool false)] = _
    rw [getD_old (by omega)]
  rw [s8]
  refine ⟨by show (ds.getD 37 (.bool false)).xs.length ≤ _; rw [e]; omega, ?_⟩
  refine wp_callG (args := [ds.getD 37 (.bool false)]) ?_ ?_
  · show [(ds ++ _).getD 37 (.bool false)] = _
    rw [getD_old (by omega)]
  rw [s6]
  refine ⟨by show (ds.getD 37 (.bool false)).xs.length ≤ _; rw [e]; omega, ?_⟩
  show Q [Dat.bool (((ds ++ ((E ++ [_]) ++ [_])).getD (a + 0) (.bool false)).toInt == ((ds ++ ((E ++ [_]) ++ [_])).getD (a + 1) (.bool false)).toInt)]
  have g : ∀ (x y : Dat) (k : Nat) (d : Dat), (ds ++ ((E ++ [x]) ++ [y])).getD (a + k) d = [x, y].getD k d := fun x y k d => by
    rw [List.append_assoc, ← List.append_assoc, getD_end (by rw [List.length_append]; omega)]; rfl
  rw [g, g]
  show Q [Dat.bool (hashL (argL [ds.getD 37 (.bool false)] 0) == hashL (argL [ds.getD 37 (.bool false)] 0))]
  rw [beq_self_eq_true]
  exact h
def k_lbytes11 : Nat := 5
def sg_lbytes11 : Sig := ⟨[(true, [.list 36] ++ List.replicate 11 (.list 3) ++ List.replicate 25 (.int .i64)), (false, [.list 5])], [(false, [.bool])], false, false, true, false, false⟩
def tr_lbytes11 : Tree := (.call k_alive11 [] [.bool]
(.ite (.not (.var 38))
 (.ret [(.bool false)])
 (.call k_Long [(.var 0), (.var 1), (.var 2), (.var 3), (.var 4), (.var 5), (.var 6), (.var 7), (.var 8), (.var 9), (.var 10), (.var 11), (.var 12), (.var 13), (.var 14), (.var 15), (.var 16), (.var 17), (.var 18), (.var 19), (.var 20), (.var 21), (.var 22), (.var 23), (.var 24), (.var 25), (.var 26), (.var 27), (.var 28), (.var 29), (.var 30), (.var 31), (.var 32), (.var 33), (.var 34), (.var 35), (.var 36), (.int .i64 60)] [.bool]
 (.ite (.or (.var 39) (.cmp .gt (.len (.var 37)) (.int .i64 500)))
  (.ret [(.bool true)])
  (.call k_tBytes11 [(.var 0), (.var 1), (.var 2), (.var 3), (.var 4), (.var 5), (.var 6), (.var 7), (.var 8), (.var 9), (.var 10), (.var 11), (.var 12), (.var 13), (.var 14), (.var 15), (.var 16), (.var 17), (.var 18), (.var 19), (.var 20), (.var 21), (.var 22), (.var 23), (.var 24), (.var 25), (.var 26), (.var 27), (.var 28), (.var 29), (.var 30), (.var 31), (.var 32), (.var 33), (.var 34), (.var 35), (.var 36)] [(.list 5), .err]
  (.call k_rBytes11 [(.var 0), (.var 1), (.var 2), (.var 3), (.var 4), (.var 5), (.var 6), (.var 7), (.var 8), (.var 9), (.var 10), (.var 11), (.var 12), (.var 13), (.var 14), (.var 15), (.var 16), (.var 17), (.var 18), (.var 19), (.var 20), (.var 21), (.var 22), (.var 23), (.var 24), (.var 25), (.var 26), (.var 27), (.var 28), (.var 29), (.var 30), (.var 31), (.var 32), (.var 33), (.var 34), (.var 35), (.var 36)] [(.list 5), (.int .i64)]
  (.call k_cMark [(.var 0), (.var 1), (.var 2), (.var 3), (.var 4), (.var 5), (.var 6), (.var 7), (.var 8), (.var 9), (.var 10), (.var 11), (.var 12), (.var 13), (.var 14), (.var 15), (.var 16), (.var 17), (.var 18), (.var 19), (.var 20), (.var 21), (.var 22), (.var 23), (.var 24), (.var 25), (.var 26), (.var 27), (.var 28), (.var 29), (.var 30), (.var 31), (.var 32), (.var 33), (.var 34), (.var 35), (.var 36)] [(.int .u64), .err]
  (.ite (.cmp .eq (.var 43) (.int .i64 0))
   (.call k_rHash11 [(.var 42)] [(.int .u64)]
   (.call k_sameB [(.var 40), (.var 42)] [.bool]
   (.ite (.var 47)
    (.call k_Num [(.var 41)] [(.int .i64)]
    (.ite (.cmp .eq (.var 48) (.var 43))
     (.ite (.cmp .eq (.var 44) (.var 46))
      (.call k_Num [(.var 45)] [(.int .i64)]
      (.ite (.cmp .eq (.var 49) (.var 43))
       (.call k_cHash [(.var 37)] [(.int .u64)]
       (.call k_rHash11 [(.var 37)] [(.int .u64)]
       (.ret [(.cmp .eq (.var 50) (.var 51))])))
       (.ret [(.bool false)])))
      (.ret [(.bool false)]))
     (.ret [(.bool false)])))
    (.ret [(.bool false)]))))
   (.call k_sameB [(.var 40), (.var 42)] [.bool]
   (.ite (.var 46)
    (.call k_Num [(.var 41)] [(.int .i64)]
    (.ite (.cmp .eq (.var 47) (.var 43))
     (.ite (.cmp .eq (.var 44) (.int .u64 0))
      (.call k_Num [(.var 45)] [(.int .i64)]
      (.ite (.cmp .eq (.var 48) (.var 43))
       (.call k_cHash [(.var 37)] [(.int .u64)]
       (.call k_rHash11 [(.var 37)] [(.int .u64)]
       (.ret [(.cmp .eq (.var 49) (.var 50))])))
       (.ret [(.bool false)])))
      (.ret [(.bool false)]))
     (.ret [(.bool false)])))
    (.ret [(.bool false)])))))))))))
theorem wk_lbytes11 : walk E0.cx (sgsN [(15, sg_alive11), (9, sg_Long), (16, sg_tBytes11), (19, sg_rBytes11), (20, sg_cMark), (21, sg_rHash11), (18, sg_sameB), (22, sg_Num), (23, sg_cHash)]) 0 5 sg_lbytes11 = tr_lbytes11 := by kernel_rfl
theorem bo_lbytes11 : ∃ x, bodyOf E0.P 5 = some x := bo_of (by kernel_rfl)
theorem sp_lbytes11_alive11 : specC [con_alive11, con_Long, con_tBytes11, con_rBytes11, con_cMark, con_rHash11, con_sameB, con_Num, con_cHash] k_alive11 = alive11_s := rfl
theorem sp_lbytes11_Long : specC [con_alive11, con_Long, con_tBytes11, con_rBytes11, con_cMark, con_rHash11, con_sameB, con_Num, con_cHash] k_Long = Long_s := rfl
theorem sp_lbytes11_tBytes11 : specC [con_alive11, con_Long, con_tBytes11, con_rBytes11, con_cMark, con_rHash11, con_sameB, con_Num, con_cHash] k_tBytes11 = tBytes11_s := rfl
theorem sp_lbytes11_rBytes11 : specC [con_alive11, con_Long, con_tBytes11, con_rBytes11, con_cMark, con_rHash11, con_sameB, con_Num, con_cHash] k_rBytes11 = rBytes11_s := rfl
theorem sp_lbytes11_cMark : specC [con_alive11, con_Long, con_tBytes11, con_rBytes11, con_cMark, con_rHash11, con_sameB, con_Num, con_cHash] k_cMark = cMark_s := rfl
theorem sp_lbytes11_rHash11 : specC [con_alive11, con_Long, con_tBytes11, con_rBytes11, con_cMark, con_rHash11, con_sameB, con_Num, con_cHash] k_rHash11 = rHash11_s := rfl
theorem sp_lbytes11_sameB : specC [con_alive11, con_Long, con_tBytes11, con_rBytes11, con_cMark, con_rHash11, con_sameB, con_Num, con_cHash] k_sameB = sameB_s := rfl
theorem sp_lbytes11_Num : specC [con_alive11, con_Long, con_tBytes11, con_rBytes11, con_cMark, con_rHash11, con_sameB, con_Num, con_cHash] k_Num = Num_s := rfl
theorem sp_lbytes11_cHash : specC [con_alive11, con_Long, con_tBytes11, con_rBytes11, con_cMark, con_rHash11, con_sameB, con_Num, con_cHash] k_cHash = cHash_s := rfl
set_option maxRecDepth 10000 in
theorem lbytes11_h : Holds E0 k_lbytes11 sg_lbytes11 true_s := con_fn wf0 mix0 g0 [con_alive11, con_Long, con_tBytes11, con_rBytes11, con_cMark, con_rHash11, con_sameB, con_Num, con_cHash] rfl wk_lbytes11 rfl (by
  intro Φ hΦ ds Q hs h
  have hl : ds.length = 38 := hs.length.symm
  have s1 : Φ k_alive11 = alive11_s := by rw [hΦ]; rfl
  have s2 : Φ k_Long = Long_s := by rw [hΦ]; rfl
  have s3 : Φ k_tBytes11 = tBytes11_s := by rw [hΦ]; rfl
  have s4 : Φ k_rBytes11 = rBytes11_s := by rw [hΦ]; rfl
  have s5 : Φ k_cMark = cMark_s := by rw [hΦ]; rfl
  have s6 : Φ k_rHash11 = rHash11_s := by rw [hΦ]; rfl
  have s7 : Φ k_sameB = sameB_s := by rw [hΦ]; rfl
  have s9 : Φ k_Num = Num_s := by rw [hΦ]; rfl
  have s8 : Φ k_cHash = cHash_s := by rw [hΦ]; rfl
  have h : Q [.bool true] := h
  clear hΦ hs
  have ht : (ds.take 37).length = 37 := by rw [List.length_take]; omega
  have g : ∀ (l : List Dat) (k : Nat) (d : Dat), (ds ++ l).getD (38 + k) d = l.getD k d := fun l k d => getD_end hl d
  have aS : ∀ e, ((List.range' 0 37).map Tm.var).map (den E0.Δ (ds ++ e)) = ds.take 37 := fun e => by rw [argsT (by omega)]; rfl
  unfold tr_lbytes11
  refine wp_callE (args := []) rfl ?_
  rw [s1]
  show wp E0.Δ Φ Q _ (ds ++ [.bool true]) []
  refine wp_no ?_ ?_
  · show Dat.bool (!((ds ++ [Dat.bool true]).getD (38 + 0) (.bool false)).toBool) = _
    rw [g]; rfl
  refine wp_callG (args := ds.take 37 ++ [.int .i64 60]) ?_ ?_
  · show ((List.range' 0 37).map Tm.var ++ [Tm.int .i64 60]).map (den E0.Δ (ds ++ [.bool true])) = _
    rw [List.map_append, aS]; rfl
  rw [s2]
  have hA : argI (ds.take 37 ++ [Dat.int .i64 60]) 37 = 60 := (argI_end (k := 0) ht).trans rfl
  refine ⟨by rw [hA]; decide, by rw [hA]; decide, fun b hb => ?_⟩
  rw [hA] at hb
  show wp E0.Δ Φ Q _ (ds ++ [.bool true, .bool b]) []
  refine wp_two (v := b || decide (500 < ((argL ds 37).length : Int))) ?_ (fun _ => h) fun hbf => ?_
  · show Dat.bool (((ds ++ [Dat.bool true, .bool b]).getD (38 + 1) (.bool false)).toBool || decide (500 < (((ds ++ [Dat.bool true, .bool b]).getD 37 (.bool false)).xs.length : Int))) = _
    rw [g, getD_old (by omega), argL_fold]; rfl
  rw [Bool.or_eq_false_iff] at hbf
  have hlen : (argL ds 37).length ≤ 500 := by
    have := of_decide_eq_false hbf.2
    omega
  have LA := long_lens ht (fun hL => by rw [hb.2 hL] at hbf; cases hbf.1)
  clear hb hA hbf
  have smS : Sm (ds.take 37) := fun y hy => by have := LA y hy; omega
  obtain ⟨n, hn⟩ := errP_ex (ds.take 37)
  refine wp_callG (args := ds.take 37) (aS _) ?_
  rw [s3]
  refine tB2_of smS hn fun d1 h1 => ?_
  show wp E0.Δ Φ Q _ (ds ++ [.bool true, .bool b, d1, errV n]) []
  refine wp_callG (args := ds.take 37) (aS _) ?_
  rw [s4]
  refine rB2_of smS hn fun d2 h2 => ?_
  show wp E0.Δ Φ Q _ (ds ++ [.bool true, .bool b, d1, errV n, d2, .int .i64 n]) []
  refine wp_callG (args := ds.take 37) (aS _) ?_
  rw [s5]
  refine ⟨smS, fun n' hn' => ?_⟩
  obtain rfl := errP_inj hn' hn
  show wp E0.Δ Φ Q _ (ds ++ [.bool true, .bool b, d1, errV n', d2, .int .i64 n', .int .u64 (if n' = 0 then hashL (u8R (encs (numsOf (ds.take 37)))) else 0), errV n']) []
  refine wp_two (v := decide (n' = 0)) ?_ (fun hv => ?_) fun hv => ?_
  · show Dat.bool (((ds ++ [.bool true, .bool b, d1, errV n', d2, .int .i64 n', .int .u64 (if n' = 0 then hashL (u8R (encs (numsOf (ds.take 37)))) else 0), errV n']).getD (38 + 5) (.bool false)).toInt == 0) = _
    rw [g]; rfl
  · obtain rfl : n' = 0 := of_decide_eq_true hv
    rw [if_pos rfl] at h1 h2 ⊢
    have hok := encs_byte (numsOf_ok hn)
    have hb := encs_len (numsOf (ds.take 37))
    have hu := enc_ub hn
    generalize encs (numsOf (ds.take 37)) = L at *
    refine wp_callG (args := [d2]) ?_ ?_
    · show [(ds ++ [.bool true, .bool b, d1, errV 0, d2, .int .i64 0, .int .u64 (hashL (u8R L)), errV 0]).getD (38 + 4) (.bool false)] = _
      rw [g]; rfl
    rw [s6]
    have e2 : argL [d2] 0 = u8R L := h2
    refine ⟨by rw [e2, u8R_len]; omega, ?_⟩
    rw [e2]
    show wp E0.Δ Φ Q _ (ds ++ [.bool true, .bool b, d1, errV 0, d2, .int .i64 0, .int .u64 (hashL (u8R L)), errV 0, .int .u64 (hashL (u8R L))]) []
    refine wp_callG (args := [d1, d2]) ?_ ?_
    · show [(ds ++ [.bool true, .bool b, d1, errV 0, d2, .int .i64 0, .int .u64 (hashL (u8R L)), errV 0, .int .u64 (hashL (u8R L))]).getD (38 + 2) (.bool false), (ds ++ [.bool true, .bool b, d1, errV 0, d2, .int .i64 0, .int .u64 (hashL (u8R L)), errV 0, .int .u64 (hashL (u8R L))]).getD (38 + 4) (.bool false)] = _
      rw [g, g]; rfl
    rw [s7]
    refine ⟨L, L, h1, h2, hok, hok, ?_⟩
    rw [decide_eq_true rfl]
    show wp E0.Δ Φ Q _ (ds ++ [.bool true, .bool b, d1, errV 0, d2, .int .i64 0, .int .u64 (hashL (u8R L)), errV 0, .int .u64 (hashL (u8R L)), .bool true]) []
    refine wp_yes ?_ ?_
    · show (ds ++ [.bool true, .bool b, d1, errV 0, d2, .int .i64 0, .int .u64 (hashL (u8R L)), errV 0, .int .u64 (hashL (u8R L)), .bool true]).getD (38 + 9) (.bool false) = _
      rw [g]; rfl
    refine wp_callG (args := [errV 0]) ?_ ?_
    · show [(ds ++ [.bool true, .bool b, d1, errV 0, d2, .int .i64 0, .int .u64 (hashL (u8R L)), errV 0, .int .u64 (hashL (u8R L)), .bool true]).getD (38 + 3) (.bool false)] = _
      rw [g]; rfl
    rw [s9]
    refine ⟨0, rfl, ?_⟩
    show wp E0.Δ Φ Q _ (ds ++ [.bool true, .bool b, d1, errV 0, d2, .int .i64 0, .int .u64 (hashL (u8R L)), errV 0, .int .u64 (hashL (u8R L)), .bool true, .int .i64 0]) []
    refine wp_yes ?_ ?_
    · show Dat.bool (((ds ++ [.bool true, .bool b, d1, errV 0, d2, .int .i64 0, .int .u64 (hashL (u8R L)), errV 0, .int .u64 (hashL (u8R L)), .bool true, .int .i64 0]).getD (38 + 10) (.bool false)).toInt == ((ds ++ [.bool true, .bool b, d1, errV 0, d2, .int .i64 0, .int .u64 (hashL (u8R L)), errV 0, .int .u64 (hashL (u8R L)), .bool true, .int .i64 0]).getD (38 + 5) (.bool false)).toInt) = _
      rw [g, g]; rfl
    refine wp_yes ?_ ?_
    · show Dat.bool (((ds ++ [.bool true, .bool b, d1, errV 0, d2, .int .i64 0, .int .u64 (hashL (u8R L)), errV 0, .int .u64 (hashL (u8R L)), .bool true, .int .i64 0]).getD (38 + 6) (.bool false)).toInt == ((ds ++ [.bool true, .bool b, d1, errV 0, d2, .int .i64 0, .int .u64 (hashL (u8R L)), errV 0, .int .u64 (hashL (u8R L)), .bool true, .int .i64 0]).getD (38 + 8) (.bool false)).toInt) = _
      rw [g, g]
      show Dat.bool (hashL (u8R L) == hashL (u8R L)) = _
      rw [beq_self_eq_true]
    refine wp_callG (args := [errV 0]) ?_ ?_
    · show [(ds ++ [.bool true, .bool b, d1, errV 0, d2, .int .i64 0, .int .u64 (hashL (u8R L)), errV 0, .int .u64 (hashL (u8R L)), .bool true, .int .i64 0]).getD (38 + 7) (.bool false)] = _
      rw [g]; rfl
    rw [s9]
    refine ⟨0, rfl, ?_⟩
    show wp E0.Δ Φ Q _ (ds ++ [.bool true, .bool b, d1, errV 0, d2, .int .i64 0, .int .u64 (hashL (u8R L)), errV 0, .int .u64 (hashL (u8R L)), .bool true, .int .i64 0, .int .i64 0]) []
    refine wp_yes ?_ (cb_fin s8 s6 h hl hlen rfl)
    show Dat.bool (((ds ++ [.bool true, .bool b, d1, errV 0, d2, .int .i64 0, .int .u64 (hashL (u8R L)), errV 0, .int .u64 (hashL (u8R L)), .bool true, .int .i64 0, .int .i64 0]).getD (38 + 11) (.bool false)).toInt == ((ds ++ [.bool true, .bool b, d1, errV 0, d2, .int .i64 0, .int .u64 (hashL (u8R L)), errV 0, .int .u64 (hashL (u8R L)), .bool true, .int .i64 0, .int .i64 0]).getD (38 + 5) (.bool false)).toInt) = _
    rw [g, g]; rfl
  have hne : n' ≠ 0 := of_decide_eq_false hv
  rw [if_neg hne] at h1 h2 ⊢
  refine wp_callG (args := [d1, d2]) ?_ ?_
  · show [(ds ++ [.bool true, .bool b, d1, errV n', d2, .int .i64 n', .int .u64 0, errV n']).getD (38 + 2) (.bool false), (ds ++ [.bool true, .bool b, d1, errV n', d2, .int .i64 n', .int .u64 0, errV n']).getD (38 + 4) (.bool false)] = _
    rw [g, g]; rfl
  rw [s7]
  refine ⟨[], [], h1, h2, fun c hc => (by cases hc), fun c hc => (by cases hc), ?_⟩
  rw [decide_eq_true rfl]
  show wp E0.Δ Φ Q _ (ds ++ [.bool true, .bool b, d1, errV n', d2, .int .i64 n', .int .u64 0, errV n', .bool true]) []
  refine wp_yes ?_ ?_
  · show (ds ++ [.bool true, .bool b, d1, errV n', d2, .int .i64 n', .int .u64 0, errV n', .bool true]).getD (38 + 8) (.bool false) = _
    rw [g]; rfl
  refine wp_callG (args := [errV n']) ?_ ?_
  · show [(ds ++ [.bool true, .bool b, d1, errV n', d2, .int .i64 n', .int .u64 0, errV n', .bool true]).getD (38 + 3) (.bool false)] = _
    rw [g]; rfl
  rw [s9]
  refine ⟨n', rfl, ?_⟩
  show wp E0.Δ Φ Q _ (ds ++ [.bool true, .bool b, d1, errV n', d2, .int .i64 n', .int .u64 0, errV n', .bool true, .int .i64 n']) []
  refine wp_yes ?_ ?_
  · show Dat.bool (((ds ++ [.bool true, .bool b, d1, errV n', d2, .int .i64 n', .int .u64 0, errV n', .bool true, .int .i64 n']).getD (38 + 9) (.bool false)).toInt == ((ds ++ [.bool true, .bool b, d1, errV n', d2, .int .i64 n', .int .u64 0, errV n', .bool true, .int .i64 n']).getD (38 + 5) (.bool false)).toInt) = _
    rw [g, g]
    show Dat.bool (n' == n') = _
    rw [beq_self_eq_true]
  refine wp_yes ?_ ?_
  · show Dat.bool (((ds ++ [.bool true, .bool b, d1, errV n', d2, .int .i64 n', .int .u64 0, errV n', .bool true, .int .i64 n']).getD (38 + 6) (.bool false)).toInt == 0) = _
    rw [g]; rfl
  refine wp_callG (args := [errV n']) ?_ ?_
  · show [(ds ++ [.bool true, .bool b, d1, errV n', d2, .int .i64 n', .int .u64 0, errV n', .bool true, .int .i64 n']).getD (38 + 7) (.bool false)] = _
    rw [g]; rfl
  rw [s9]
  refine ⟨n', rfl, ?_⟩
  show wp E0.Δ Φ Q _ (ds ++ [.bool true, .bool b, d1, errV n', d2, .int .i64 n', .int .u64 0, errV n', .bool true, .int .i64 n', .int .i64 n']) []
  refine wp_yes ?_ (cb_fin s8 s6 h hl hlen rfl)
  show Dat.bool (((ds ++ [.bool true, .bool b, d1, errV n', d2, .int .i64 n', .int .u64 0, errV n', .bool true, .int .i64 n', .int .i64 n']).getD (38 + 10) (.bool false)).toInt == ((ds ++ [.bool true, .bool b, d1, errV n', d2, .int .i64 n', .int .u64 0, errV n', .bool true, .int .i64 n', .int .i64 n']).getD (38 + 5) (.bool false)).toInt) = _
  rw [g, g]
  show Dat.bool (n' == n') = _
  rw [beq_self_eq_true])
end Go.Proofs.YtilpkfjajnlaoaaDoor
end
