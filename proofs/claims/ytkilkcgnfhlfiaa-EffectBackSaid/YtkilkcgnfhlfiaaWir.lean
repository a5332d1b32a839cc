/-
  Numbers as bytes: the program's and the document's functions.
-/
import Derived.Test.YtkilkcgnfhlfiaaSymU
import Derived.Test.YtkilkcgnfhlfiaaMathX
namespace Go.Proofs.Ytkilkcgnfhlfiaa
open Go.RowKit
set_option linter.unusedVariables false
set_option linter.unusedSimpArgs false

/-- bytes as rows -/
def u8R (l : List Nat) : List (List Dat) := l.map fun c : Nat => [.int .u8 (c : Int)]
theorem u8R_app (a b : List Nat) : u8R (a ++ b) = u8R a ++ u8R b := by simp [u8R]
theorem u8R_len (a : List Nat) : (u8R a).length = a.length := by simp [u8R]
theorem u8R_get {l : List Nat} {i : Nat} (h : i < l.length) (d : Dat) : ((u8R l).getD i []).getD 0 d = .int .u8 (l[i] : Int) := by
  simp [u8R, List.getD_eq_getElem?_getD, List.getElem?_eq_getElem h]
theorem sh63 : (2 : Int) ^ (min (Int.toNat 63) 64) = 9223372036854775808 := by decide
theorem zig_of (n : Int) (h1 : -9223372036854775808 ≤ n) (h2 : n ≤ 9223372036854775807) :
    Ar.xor.of .u64 (Ar.shl.of .u64 (IntKind.u64.wrap n) 1) (IntKind.u64.wrap (Ar.shr.of .i64 n 63)) = ((mth.zig n : Nat) : Int) := by
  have := zig_bits n h1 h2
  have e1 : Ar.shl.of .u64 (IntKind.u64.wrap n) 1 = IntKind.u64.wrap (IntKind.u64.wrap n * 2) := rfl
  have e2 : Ar.shr.of .i64 n 63 = n / 9223372036854775808 := by
    show n.fdiv (2 ^ 63) = _
    rw [Int.fdiv_eq_ediv_of_nonneg _ (by decide)]; rfl
  rw [e1, e2]; exact this
theorem zag_of (x : Nat) (h : x < 18446744073709551616) : Ar.xor.of .i64 (IntKind.i64.wrap (Ar.shr.of .u64 (x : Int) 1)) (IntKind.i64.wrap (0 - IntKind.i64.wrap (Ar.and.of .u64 (x : Int) 1))) = mth.zag x := by
  have := zag_bits x h
  have e1 : Ar.shr.of .u64 (x : Int) 1 = (x : Int) / 2 := by
    show (x : Int).fdiv (2 ^ 1) = _
    rw [Int.fdiv_eq_ediv_of_nonneg _ (by decide)]; rfl
  have e2 : IntKind.i64.wrap ((x : Int) / 2) = (x : Int) / 2 := wrap64 (by omega) (by omega)
  have w64 : ∀ y, IntKind.i64.wrap y = RowKit.wrap64 y := fun y => by rw [IntKind.wrap_i64, RowKit.wrap64]
  rw [e1, e2, Int.zero_sub, w64, w64]; exact this
def k_Cl8 : Nat := 49
def sg_Cl8 : Sig := ⟨[(false, [.list 5])], [(false, [.rows 5])], true, false, false⟩
def tr_Cl8 : Tree := (.ite (.isnil (.var 0))
 (.ret [.emp])
 (.ob (.cmp .le (.len (.app .emp (.var 0))) (.int .i64 140737488355328))
 (.ret [(.app .emp (.var 0))])))
theorem wk_Cl8 : walk E0.cx (sgsN []) 0 49 sg_Cl8 = tr_Cl8 := by kernel_rfl
theorem bo_Cl8 : ∃ x, bodyOf E0.P 49 = some x := bo_of (by kernel_rfl)
def Cl8_s : Spec := fun ds Q => (argL ds 0).length ≤ 100000000 ∧ Q [.rows (argL ds 0)]
theorem Cl8_h : Holds E0 k_Cl8 sg_Cl8 Cl8_s := con_fnN wf0 mix0 g0 [] rfl wk_Cl8 rfl (by
  intro Φ hΦ ds Q hs hnil ⟨hn, h⟩
  have hl : ds.length = 1 := hs.length.symm
  simp only [tr_Cl8, wp, den_int, den_bool, den_nili, den_ar, den_cmp, den_not, den_len, den_elem, den_isnil, den_errI, den_ifc, den_rep, den_push, den_app, den_emp, den_upd, row0_econs, row0_enil, den_and, den_beq, den_nil, toInt_int, toBool_bool, xs_rows, xs_list, dflt_int, dflt_bool, of_eq, of_ne, of_lt, of_le, of_gt, of_ge, of_add, of_sub, of_rem, List.map_cons, List.map_nil, Dat.bool.injEq, decide_eq_true_eq, decide_eq_false_iff_not, Bool.not_eq_true', Bool.not_eq_false', beq_iff_eq, bne_iff_ne, beq_eq_false_iff_ne, bne_eq_false_iff_eq, ne_eq, List.append_assoc, List.cons_append, List.nil_append, @den_var0 E0.Δ ds, den_varA, den_varB, hl, Nat.reduceLT, Nat.reduceLeDiff, Nat.reduceSub, List.getD_cons_zero, List.getD_cons_succ, argL_fold ds, argI_fold ds, List.append_assoc, List.cons_append, List.nil_append, toInt_int, toBool_bool, xs_rows, xs_list, Int.toNat_natCast, Dat.bool.injEq]
  refine ⟨fun h0 => ?_, fun _ => ⟨by omega, h⟩⟩
  have : argL ds 0 = [] := by
    rw [← argL_fold]
    exact hnil _ (getD_memL (by omega)) h0
  rw [this] at h; exact h)
noncomputable def con_Cl8 : Con E0 := ⟨k_Cl8, sg_Cl8, Cl8_s, rfl, bo_Cl8, Cl8_h⟩
/-- bytes that bytes are put behind -/
def k_wPut : Nat := 37
def sg_wPut : Sig := ⟨[(false, [.list 5]), (false, [.int .i64])], [(false, [.rows 5])], true, false, false⟩
def tr_wPut : Tree := (.call k_Cl8 [(.var 0)] [(.rows 5)]
(.loop [(.app .emp (.var 2)), (.ar .xor .u64 (.ar .shl .u64 (.conv .u64 (.var 1)) (.int .u64 1)) (.conv .u64 (.ar .shr .i64 (.var 1) (.int .u64 63))))] [(.rows 5), (.int .u64)]
 (.ite (.cmp .ge (.var 4) (.int .u64 128))
  (.ob (.cmp .le (.len (.push (.var 3) (.econs (.ar .or .u8 (.conv .u8 (.var 4)) (.int .u8 128)) .enil))) (.int .i64 140737488355328))
  (.again 0 [(.push (.var 3) (.econs (.ar .or .u8 (.conv .u8 (.var 4)) (.int .u8 128)) .enil)), (.ar .shr .u64 (.var 4) (.int .u64 7))]))
  (.ob (.cmp .le (.len (.push (.var 3) (.econs (.conv .u8 (.var 4)) .enil))) (.int .i64 140737488355328))
  (.ret [(.push (.var 3) (.econs (.conv .u8 (.var 4)) .enil))])))))
theorem wk_wPut : walk E0.cx (sgsN [(49, sg_Cl8)]) 0 37 sg_wPut = tr_wPut := by kernel_rfl
theorem bo_wPut : ∃ x, bodyOf E0.P 37 = some x := bo_of (by kernel_rfl)
theorem sp_wPut_Cl8 : specC [con_Cl8] k_Cl8 = Cl8_s := rfl
def wPut_s : Spec := fun ds Q => (argL ds 0).length ≤ 90000000 ∧ -9223372036854775808 ≤ argI ds 1 ∧ argI ds 1 ≤ 9223372036854775807 ∧ Q [.rows (argL ds 0 ++ u8R (mth.encI (argI ds 1)))]
theorem or128_of (y : Nat) (h : y < 18446744073709551616) : Ar.or.of .u8 (IntKind.u8.wrap (y : Int)) 128 = ((y % 128 + 128 : Nat) : Int) := by
  have e : IntKind.u8.wrap (y : Int) = ((y % 256 : Nat) : Int) := by rw [IntKind.wrap_u8]; omega
  rw [e]
  have key : ∀ c : _root_.Fin 256, Ar.or.of .u8 (c.val : Int) 128 = ((c.val % 128 + 128 : Nat) : Int) := by decide +kernel
  have := key ⟨y % 256, Nat.mod_lt _ (by decide)⟩
  rw [this]
  congr 1
  show y % 256 % 128 + 128 = _
  omega
theorem shr7 (y : Nat) : Ar.shr.of .u64 (y : Int) 7 = ((y / 128 : Nat) : Int) := by
  show (y : Int).fdiv (2 ^ 7) = _
  rw [Int.fdiv_eq_ediv_of_nonneg _ (by decide)]; rfl
theorem wPut_h : Holds E0 k_wPut sg_wPut wPut_s := con_fn wf0 mix0 g0 [con_Cl8] rfl wk_wPut rfl (by
  intro Φ hΦ ds Q hs ⟨hn, n1, n2, h⟩
  have hl : ds.length = 2 := hs.length.symm
  have sp : Φ k_Cl8 = Cl8_s := by rw [hΦ]; rfl
  clear hΦ
  simp only [tr_wPut, wp, den_int, den_bool, den_nili, den_ar, den_cmp, den_not, den_len, den_elem, den_isnil, den_errI, den_ifc, den_rep, den_push, den_app, den_emp, den_upd, row0_econs, row0_enil, den_and, den_beq, den_nil, toInt_int, toBool_bool, xs_rows, xs_list, dflt_int, dflt_bool, of_eq, of_ne, of_lt, of_le, of_gt, of_ge, of_add, of_sub, of_rem, List.map_cons, List.map_nil, Dat.bool.injEq, decide_eq_true_eq, decide_eq_false_iff_not, Bool.not_eq_true', Bool.not_eq_false', beq_iff_eq, bne_iff_ne, beq_eq_false_iff_ne, bne_eq_false_iff_eq, ne_eq, List.append_assoc, List.cons_append, List.nil_append, allS, sp, Cl8_s, den_conv, argL_c0, @den_var0 E0.Δ ds, den_varA, den_varB, hl, Nat.reduceLT, Nat.reduceLeDiff, Nat.reduceSub, List.getD_cons_zero, List.getD_cons_succ, argL_fold ds, argI_fold ds, List.append_assoc, List.cons_append, List.nil_append, toInt_int, toBool_bool, xs_rows, xs_list, Int.toNat_natCast, Dat.bool.injEq]
  rw [zig_of _ n1 n2]
  have hX := mth.zig_lt _ n1 n2
  refine ⟨by omega, fun xs m => ∃ (k y : Nat) (dn : List Nat), mth.Going (mth.zig (argI ds 1)) k y dn ∧ xs = [.rows (argL ds 0 ++ u8R dn), .int .u64 (y : Int)] ∧ m = y, ⟨_, 0, _, [], mth.going_start _ hX, by simp [u8R], rfl⟩, ?_⟩
  rintro d hd n m ⟨k, y, dn, hg, e, hm⟩
  cases e
  have hlen := hg.len
  have hk := hg.hk
  have hle := hg.le
  refine ⟨fun h128 => ⟨?_, ?_⟩, fun h128 => ⟨?_, ?_⟩⟩
  · simp only [xs_rows, List.length_append, u8R_len, List.length_cons, List.length_nil]; omega
  · have hy : ¬ y < 128 := by omega
    refine ⟨y / 128, by omega, k + 1, y / 128, _, mth.going_step hg hy, ?_, rfl⟩
    rw [or128_of y (by omega), shr7, u8R_app, ← List.append_assoc]; rfl
  · simp only [xs_rows, List.length_append, u8R_len, List.length_cons, List.length_nil]; omega
  · have hy : y < 128 := by omega
    have he := (mth.going_end hg hy).1
    have ew : IntKind.u8.wrap (y : Int) = (y : Int) := by rw [IntKind.wrap_u8]; omega
    rw [ew]
    have e2 : u8R (mth.encI (argI ds 1)) = u8R dn ++ [[.int .u8 (y : Int)]] := by
      rw [mth.encI, ← he, u8R_app]; rfl
    rw [e2, ← List.append_assoc] at h
    exact h)
noncomputable def con_wPut : Con E0 := ⟨k_wPut, sg_wPut, wPut_s, rfl, bo_wPut, wPut_h⟩
theorem stands_of (n : Int) (h1 : -9223372036854775808 ≤ n) (h2 : n ≤ 9223372036854775807) : (if 0 ≤ n then Dat.int .u64 (Ar.mul.of .u64 2 (IntKind.u64.wrap n)) else Dat.int .u64 (IntKind.u64.wrap (Ar.mul.of .u64 2 (IntKind.u64.wrap (IntKind.i64.wrap (0 - IntKind.i64.wrap (n + 1)))) + 1))) = .int .u64 ((mth.zig n : Nat) : Int) := by
  by_cases h : 0 ≤ n
  · rw [if_pos h]
    congr 1
    simp only [Ar.of, mth.zig, if_pos h, IntKind.wrap_u64]
    omega
  · rw [if_neg h, wrap64 (x := n + 1) (by omega) (by omega), wrap64 (by omega) (by omega)]
    congr 1
    simp only [Ar.of, mth.zig, if_neg h, IntKind.wrap_u64]
    omega
theorem quo128 (y : Nat) (h : y < 18446744073709551616) : Ar.quo.of .u64 (y : Int) 128 = ((y / 128 : Nat) : Int) := by
  show IntKind.u64.wrap ((y : Int).tdiv 128) = _
  rw [Int.tdiv_eq_ediv_of_nonneg (by omega), IntKind.wrap_u64]
  omega
theorem rem128 (y : Nat) (h : y < 18446744073709551616) : IntKind.u8.wrap (IntKind.u8.wrap ((y : Int).tmod 128) + 128) = ((y % 128 + 128 : Nat) : Int) := by
  rw [Int.tmod_eq_emod_of_nonneg (by omega), IntKind.wrap_u8, IntKind.wrap_u8]
  omega
def k_rBytes2 : Nat := 26
def sg_rBytes2 : Sig := ⟨[(false, [.int .i64])], [(false, [.rows 5])], true, false, true⟩
def tr_rBytes2 : Tree := (.loop [(.ite (.cmp .ge (.var 0) (.int .i64 0)) (.ar .mul .u64 (.int .u64 2) (.conv .u64 (.var 0))) (.ar .add .u64 (.ar .mul .u64 (.int .u64 2) (.conv .u64 (.ar .sub .i64 (.int .i64 0) (.ar .add .i64 (.var 0) (.int .i64 1))))) (.int .u64 1))), .emp] [(.int .u64), (.rows 5)]
 (.ite (.cmp .gt (.var 1) (.int .u64 127))
  (.ob (.cmp .le (.len (.push (.var 2) (.econs (.ar .add .u8 (.conv .u8 (.ar .rem .u64 (.var 1) (.int .u64 128))) (.int .u8 128)) .enil))) (.int .i64 140737488355328))
  (.again 0 [(.ar .quo .u64 (.var 1) (.int .u64 128)), (.push (.var 2) (.econs (.ar .add .u8 (.conv .u8 (.ar .rem .u64 (.var 1) (.int .u64 128))) (.int .u8 128)) .enil))]))
  (.ob (.cmp .le (.len (.push (.var 2) (.econs (.conv .u8 (.var 1)) .enil))) (.int .i64 140737488355328))
  (.ret [(.push (.var 2) (.econs (.conv .u8 (.var 1)) .enil))]))))
theorem wk_rBytes2 : walk E0.cx (sgsN []) 0 26 sg_rBytes2 = tr_rBytes2 := by kernel_rfl
theorem bo_rBytes2 : ∃ x, bodyOf E0.P 26 = some x := bo_of (by kernel_rfl)
def rBytes2_s : Spec := fun ds Q => -9223372036854775808 ≤ argI ds 0 ∧ argI ds 0 ≤ 9223372036854775807 ∧ Q [.rows (u8R (mth.encI (argI ds 0)))]
theorem rBytes2_h : Holds E0 k_rBytes2 sg_rBytes2 rBytes2_s := con_fn wf0 mix0 g0 [] rfl wk_rBytes2 rfl (by
  intro Φ hΦ ds Q hs ⟨n1, n2, h⟩
  have hl : ds.length = 1 := hs.length.symm
  clear hΦ
  simp only [tr_rBytes2, wp, den_int, den_bool, den_nili, den_ar, den_cmp, den_not, den_len, den_elem, den_isnil, den_errI, den_ifc, den_rep, den_push, den_app, den_emp, den_upd, row0_econs, row0_enil, den_and, den_beq, den_nil, toInt_int, toBool_bool, xs_rows, xs_list, dflt_int, dflt_bool, of_eq, of_ne, of_lt, of_le, of_gt, of_ge, of_add, of_sub, of_rem, List.map_cons, List.map_nil, Dat.bool.injEq, decide_eq_true_eq, decide_eq_false_iff_not, Bool.not_eq_true', Bool.not_eq_false', beq_iff_eq, bne_iff_ne, beq_eq_false_iff_ne, bne_eq_false_iff_eq, ne_eq, List.append_assoc, List.cons_append, List.nil_append, allS, den_conv, den_ite, @den_var0 E0.Δ ds, den_varA, den_varB, hl, Nat.reduceLT, Nat.reduceLeDiff, Nat.reduceSub, List.getD_cons_zero, List.getD_cons_succ, argL_fold ds, argI_fold ds, List.append_assoc, List.cons_append, List.nil_append, toInt_int, toBool_bool, xs_rows, xs_list, Int.toNat_natCast, Dat.bool.injEq]
  have hX := mth.zig_lt _ n1 n2
  rw [stands_of _ n1 n2]
  refine ⟨fun xs m => ∃ (k y : Nat) (dn : List Nat), mth.Going (mth.zig (argI ds 0)) k y dn ∧ xs = [.int .u64 (y : Int), .rows (u8R dn)] ∧ m = y, ⟨_, 0, _, [], mth.going_start _ hX, rfl, rfl⟩, ?_⟩
  rintro n d hd m ⟨k, y, dn, hg, e, hm⟩
  cases e
  have hlen := hg.len
  have hk := hg.hk
  have hle := hg.le
  refine ⟨fun h128 => ⟨?_, ?_⟩, fun h128 => ⟨?_, ?_⟩⟩
  · simp only [xs_rows, List.length_append, u8R_len, List.length_cons, List.length_nil]; omega
  · have hy : ¬ y < 128 := by omega
    refine ⟨y / 128, by omega, k + 1, y / 128, _, mth.going_step hg hy, ?_, rfl⟩
    rw [quo128 y (by omega), rem128 y (by omega), u8R_app]; rfl
  · simp only [xs_rows, List.length_append, u8R_len, List.length_cons, List.length_nil]; omega
  · have hy : y < 128 := by omega
    have he := (mth.going_end hg hy).1
    have ew : IntKind.u8.wrap (y : Int) = (y : Int) := by rw [IntKind.wrap_u8]; omega
    rw [ew]
    have e2 : u8R (mth.encI (argI ds 0)) = u8R dn ++ [[.int .u8 (y : Int)]] := by
      rw [mth.encI, ← he, u8R_app]; rfl
    rw [e2] at h
    exact h)
noncomputable def con_rBytes2 : Con E0 := ⟨k_rBytes2, sg_rBytes2, rBytes2_s, rfl, bo_rBytes2, rBytes2_h⟩
def k_wzag : Nat := 54
def sg_wzag : Sig := ⟨[(false, [.int .u64])], [(false, [.int .i64])], false, false, false⟩
def tr_wzag : Tree := (.ret [(.ar .xor .i64 (.conv .i64 (.ar .shr .u64 (.var 0) (.int .u64 1))) (.ar .sub .i64 (.int .i64 0) (.conv .i64 (.ar .and .u64 (.var 0) (.int .u64 1)))))])
theorem wk_wzag : walk E0.cx (sgsN []) 0 54 sg_wzag = tr_wzag := by kernel_rfl
theorem bo_wzag : ∃ x, bodyOf E0.P 54 = some x := bo_of (by kernel_rfl)
def wzag_s : Spec := fun ds Q => ∃ x : Nat, x < 18446744073709551616 ∧ argI ds 0 = (x : Int) ∧ Q [.int .i64 (mth.zag x)]
theorem wzag_h : Holds E0 k_wzag sg_wzag wzag_s := con_fn wf0 mix0 g0 [] rfl wk_wzag rfl (by
  intro Φ hΦ ds Q hs ⟨x, hx, e, h⟩
  have hl : ds.length = 1 := hs.length.symm
  simp only [tr_wzag, wp, den_int, den_bool, den_nili, den_ar, den_cmp, den_not, den_len, den_elem, den_isnil, den_errI, den_ifc, den_rep, den_push, den_app, den_emp, den_upd, row0_econs, row0_enil, den_and, den_beq, den_nil, toInt_int, toBool_bool, xs_rows, xs_list, dflt_int, dflt_bool, of_eq, of_ne, of_lt, of_le, of_gt, of_ge, of_add, of_sub, of_rem, List.map_cons, List.map_nil, Dat.bool.injEq, decide_eq_true_eq, decide_eq_false_iff_not, Bool.not_eq_true', Bool.not_eq_false', beq_iff_eq, bne_iff_ne, beq_eq_false_iff_ne, bne_eq_false_iff_eq, ne_eq, List.append_assoc, List.cons_append, List.nil_append, den_conv, @den_var0 E0.Δ ds, den_varA, den_varB, hl, Nat.reduceLT, Nat.reduceLeDiff, Nat.reduceSub, List.getD_cons_zero, List.getD_cons_succ, argL_fold ds, argI_fold ds, List.append_assoc, List.cons_append, List.nil_append, toInt_int, toBool_bool, xs_rows, xs_list, Int.toNat_natCast, Dat.bool.injEq, e]
  rw [zag_of x hx]; exact h)
noncomputable def con_wzag : Con E0 := ⟨k_wzag, sg_wzag, wzag_s, rfl, bo_wzag, wzag_h⟩
def k_wTake : Nat := 47
def sg_wTake : Sig := ⟨[(false, [.list 5])], [(false, [.int .i64]), (false, [.list 5]), (false, [.err])], false, false, true⟩
def tr_wTake : Tree := (.ob (.cmp .ge (.ite (.cmp .lt (.int .i64 10) (.len (.var 0))) (.int .i64 10) (.len (.var 0))) (.int .i64 0))
(.ob (.cmp .le (.ite (.cmp .lt (.int .i64 10) (.len (.var 0))) (.int .i64 10) (.len (.var 0))) (.len (.var 0)))
(.loop [(.int .i64 0), .emp, .nili, (.int .u64 0), (.int .i64 0)] [(.int .i64), (.rows 5), .err, (.int .u64), (.int .i64)]
 (.ite (.cmp .lt (.var 5) (.len (.cut (.var 0) (.int .i64 0) (.ite (.cmp .lt (.int .i64 10) (.len (.var 0))) (.int .i64 10) (.len (.var 0))))))
  (.ob (.cmp .ge (.var 5) (.int .i64 0))
  (.ob (.cmp .ge (.conv .u64 (.ar .mul .i64 (.var 5) (.int .i64 7))) (.int .u64 0))
  (.ite (.and (.cmp .eq (.var 5) (.int .i64 9)) (.cmp .gt (.elem (.cut (.var 0) (.int .i64 0) (.ite (.cmp .lt (.int .i64 10) (.len (.var 0))) (.int .i64 10) (.len (.var 0)))) (.var 5) 0 (.int .u8)) (.int .u8 1)))
   (.share 5 .emp
   (.ret [(.int .i64 0), (.var 6), (.ifc (.int .i64 2))]))
   (.ite (.cmp .ne (.ar .and .u8 (.elem (.cut (.var 0) (.int .i64 0) (.ite (.cmp .lt (.int .i64 10) (.len (.var 0))) (.int .i64 10) (.len (.var 0)))) (.var 5) 0 (.int .u8)) (.int .u8 128)) (.int .u8 0))
    (.again 0 [(.var 1), (.var 2), (.var 3), (.ar .or .u64 (.var 4) (.ar .shl .u64 (.conv .u64 (.ar .andNot .u8 (.elem (.cut (.var 0) (.int .i64 0) (.ite (.cmp .lt (.int .i64 10) (.len (.var 0))) (.int .i64 10) (.len (.var 0)))) (.var 5) 0 (.int .u8)) (.int .u8 128))) (.conv .u64 (.ar .mul .i64 (.var 5) (.int .i64 7))))), (.ar .add .i64 (.var 5) (.int .i64 1))])
    (.ite (.and (.cmp .eq (.elem (.cut (.var 0) (.int .i64 0) (.ite (.cmp .lt (.int .i64 10) (.len (.var 0))) (.int .i64 10) (.len (.var 0)))) (.var 5) 0 (.int .u8)) (.int .u8 0)) (.cmp .gt (.var 5) (.int .i64 0)))
     (.share 5 .emp
     (.ret [(.int .i64 0), (.var 6), (.ifc (.int .i64 2))]))
     (.ob (.cmp .ge (.ar .add .i64 (.var 5) (.int .i64 1)) (.int .i64 0))
     (.ob (.cmp .le (.ar .add .i64 (.var 5) (.int .i64 1)) (.len (.var 0)))
     (.call k_wzag [(.ar .or .u64 (.var 4) (.ar .shl .u64 (.conv .u64 (.ar .andNot .u8 (.elem (.cut (.var 0) (.int .i64 0) (.ite (.cmp .lt (.int .i64 10) (.len (.var 0))) (.int .i64 10) (.len (.var 0)))) (.var 5) 0 (.int .u8)) (.int .u8 128))) (.conv .u64 (.ar .mul .i64 (.var 5) (.int .i64 7)))))] [(.int .i64)]
     (.call k_Cl8 [(.cut (.var 0) (.ar .add .i64 (.var 5) (.int .i64 1)) (.len (.var 0)))] [(.rows 5)]
     (.share 5 (.app .emp (.var 7))
     (.ret [(.var 6), (.var 8), .nili])))))))))))
  (.share 5 .emp
  (.ret [(.int .i64 0), (.var 6), (.ifc (.int .i64 7))]))))))
theorem wk_wTake : walk E0.cx (sgsN [(54, sg_wzag), (49, sg_Cl8)]) 0 47 sg_wTake = tr_wTake := by kernel_rfl
theorem bo_wTake : ∃ x, bodyOf E0.P 47 = some x := bo_of (by kernel_rfl)
theorem sp_wTake_wzag : specC [con_wzag, con_Cl8] k_wzag = wzag_s := rfl
theorem sp_wTake_Cl8 : specC [con_wzag, con_Cl8] k_Cl8 = Cl8_s := rfl
def wTake_s : Spec := fun ds Q => ∃ l : List Nat, argL ds 0 = u8R l ∧ (∀ c ∈ l, c < 256) ∧ l.length ≤ 90000000 ∧ ∀ d : Dat, d.xs = (if (mth.tk 0 0 l).2.2 = 0 then u8R (l.drop (mth.tk 0 0 l).2.1) else []) → Q [.int .i64 (mth.tk 0 0 l).1, d, errV (mth.tk 0 0 l).2.2]
theorem wTake_h : Holds E0 k_wTake sg_wTake wTake_s := con_fn wf0 mix0 g0 [con_wzag, con_Cl8] rfl wk_wTake rfl (by
  intro Φ hΦ ds Q hs ⟨l, hx, hb, hn, h⟩
  have hl : ds.length = 1 := hs.length.symm
  have sp1 : Φ k_wzag = wzag_s := by rw [hΦ]; rfl
  have sp2 : Φ k_Cl8 = Cl8_s := by rw [hΦ]; rfl
  clear hΦ
  have hH : Has E0.Δ (.list 5) (ds.getD 0 (.bool false)) := all2_get hs (i := 0) rfl
  have hlen : (argL ds 0).length = l.length := by rw [hx, u8R_len]
  simp only [tr_wTake, wp, den_int, den_bool, den_nili, den_ar, den_cmp, den_not, den_len, den_elem, den_isnil, den_errI, den_ifc, den_rep, den_push, den_app, den_emp, den_upd, row0_econs, row0_enil, den_and, den_beq, den_nil, toInt_int, toBool_bool, xs_rows, xs_list, dflt_int, dflt_bool, of_eq, of_ne, of_lt, of_le, of_gt, of_ge, of_add, of_sub, of_rem, List.map_cons, List.map_nil, Dat.bool.injEq, decide_eq_true_eq, decide_eq_false_iff_not, Bool.not_eq_true', Bool.not_eq_false', beq_iff_eq, bne_iff_ne, beq_eq_false_iff_ne, bne_eq_false_iff_eq, ne_eq, List.append_assoc, List.cons_append, List.nil_append, allS, sp1, sp2, wzag_s, Cl8_s, den_conv, den_ite, den_or, den_cutT, ite_dati, toInt_int, argL_c0, argI_c0, Int.toNat_zero, @den_var0 E0.Δ ds, den_varA, den_varB, hl, Nat.reduceLT, Nat.reduceLeDiff, Nat.reduceSub, List.getD_cons_zero, List.getD_cons_succ, argL_fold ds, argI_fold ds, List.append_assoc, List.cons_append, List.nil_append, toInt_int, toBool_bool, xs_rows, xs_list, Int.toNat_natCast, Dat.bool.injEq]
  obtain ⟨M, hM⟩ : ∃ M : Nat, M = min l.length 10 := ⟨_, rfl⟩
  have hMle : M ≤ l.length := by omega
  have hMi : (if (10 : Int) < ((argL ds 0).length : Int) then (10 : Int) else ((argL ds 0).length : Int)) = (M : Int) := by rw [hlen]; split <;> omega
  have hcut : (cutD 0 M (ds.getD 0 (.bool false))).xs = u8R (l.take M) := by
    rw [xs_cutD hH (Nat.zero_le _) (by rw [argL_fold, hlen]; exact hMle), argL_fold, hx, List.drop_zero]
    simp [u8R, List.map_take]
  rw [hMi]
  simp only [Int.toNat_natCast, hcut, u8R_len, List.length_take, Nat.min_eq_left hMle]
  refine ⟨by omega, by omega, fun xs m => ∃ (i X : Nat) (z : Int) (d1 d2 : Dat), xs = [.int .i64 z, d1, d2, .int .u64 (X : Int), .int .i64 (i : Int)] ∧ i ≤ M ∧ X < 128 ^ i ∧ mth.tk i X (l.drop i) = mth.tk 0 0 l ∧ m = M - i, ⟨_, 0, 0, _, _, _, rfl, by omega, by simp, by simp, rfl⟩, ?_⟩
  rintro z d1 hd1 d2 hd2 X' i' m ⟨i, X, _, _, _, e, hiM, hX, htk, hm⟩
  cases e
  refine ⟨fun hlt => ?_, fun hge => ?_⟩
  · have hi2 : i < M := by omega
    have hil : i < l.length := by omega
    have hi10 : i < 10 := by omega
    have hcell : ((u8R (l.take M)).getD i []).getD 0 (.int .u8 0) = .int .u8 (l[i] : Int) := by
      rw [u8R_get (by simp; omega)]; simp
    have hc := hb _ (List.getElem_mem hil)
    have e7 : IntKind.u64.wrap (Ar.mul.of .i64 (i : Int) 7) = ((i * 7 : Nat) : Int) := by
      show IntKind.u64.wrap (IntKind.i64.wrap ((i : Int) * 7)) = _
      rw [wrap64 (by omega) (by omega), IntKind.wrap_u64]; omega
    have hand : Ar.and.of .u8 (l[i] : Int) 128 = if (128 : Int) ≤ (l[i] : Int) then 128 else 0 := u8_and128 _ hc
    have handn : Ar.andNot.of .u8 (l[i] : Int) 128 = ((l[i] % 128 : Nat) : Int) := u8_andNot128 _ hc
    have hshl : ∀ d : Nat, d < 256 → X + 128 ^ i * d < 18446744073709551616 → Ar.or.of .u64 (X : Int) (Ar.shl.of .u64 (IntKind.u64.wrap (d : Int)) ((i * 7 : Nat) : Int)) = ((X + 128 ^ i * d : Nat) : Int) := fun d hd h64 => by
      have e1 : IntKind.u64.wrap (d : Int) = (d : Int) := by rw [IntKind.wrap_u64]; omega
      have e2 : Ar.shl.of .u64 (d : Int) ((i * 7 : Nat) : Int) = IntKind.u64.wrap ((d : Int) * 2 ^ (i * 7)) := by
        show IntKind.u64.wrap ((d : Int) * 2 ^ (min ((i * 7 : Nat) : Int).toNat 64)) = _
        rw [Int.toNat_natCast, Nat.min_eq_left (by omega)]
      rw [e1, e2]
      exact or_part X d i hX h64
    have hdrop : l.drop i = l[i] :: l.drop (i + 1) := List.drop_eq_getElem_cons hil
    rw [hdrop] at htk
    simp only [Int.toNat_natCast, hcell, toInt_int, e7, hand, handn]
    refine ⟨by omega, by omega, fun h9 => ?_, fun h9 => ⟨fun hm128 => ?_, fun hm128 => ⟨fun h0 => ?_, fun h0 => ?_⟩⟩⟩
    · intro A c
      simp only [Bool.and_eq_true, beq_iff_eq, decide_eq_true_eq] at h9
      rw [mth.tk_nine (by omega) (by omega)] at htk
      rw [← htk] at h
      exact h _ rfl
    · have h9' : ¬ (i = 9 ∧ 1 < l[i]) := fun hh => by
        rw [decide_eq_true (show (1 : Int) < (l[i] : Int) by omega)] at h9
        simp at h9; omega
      have h128 : 128 ≤ l[i] := by
        apply Classical.byContradiction; intro hlt2
        rw [if_neg (by omega)] at hm128; exact hm128 rfl
      have hi8 : i ≤ 8 := by omega
      rw [mth.tk_more hi10 h9' h128] at htk
      have hps := mth.pow_step i X (l[i] % 128) hX (Nat.mod_lt _ (by decide))
      have hp9 := mth.pow_le9 (i + 1) (by omega)
      rw [hshl _ (by omega) (by omega)]
      refine ⟨M - (i + 1), by omega, i + 1, _, z, d1, d2, ?_, by omega, hps, htk, rfl⟩
      rw [wrap64 (by omega) (by omega)]; rfl
    · intro A c
      simp only [Bool.and_eq_true, beq_iff_eq, decide_eq_true_eq] at h0
      rw [mth.tk_zero hi10 (by omega) (by omega)] at htk
      rw [← htk] at h
      exact h _ rfl
    · have h9' : ¬ (i = 9 ∧ 1 < l[i]) := fun hh => by
        rw [decide_eq_true (show (1 : Int) < (l[i] : Int) by omega)] at h9
        simp at h9; omega
      have h128 : ¬ 128 ≤ l[i] := fun hh => by
        rw [if_pos (by omega)] at hm128; exact absurd hm128 (by decide)
      have h0' : ¬ (l[i] = 0 ∧ 0 < i) := fun hh => by
        rw [decide_eq_true (show (0 : Int) < (i : Int) by omega)] at h0
        simp at h0; omega
      have h64 := mth.below64 i X l[i] hi10 hX h9' (by omega)
      rw [mth.tk_end hi10 h9' h128 h0'] at htk
      have em : l[i] % 128 = l[i] := Nat.mod_eq_of_lt (by omega)
      rw [em, hshl _ hc h64]
      rw [wrap64 (by omega) (by omega)]
      have hc2 : (cutD ((i : Int) + 1).toNat (argL ds 0).length (ds.getD 0 (.bool false))).xs = u8R (l.drop (i + 1)) := by
        rw [show ((i : Int) + 1).toNat = i + 1 by omega, xs_cutD hH (by rw [hlen]; omega) (by rw [argL_fold]; exact Nat.le_refl _), argL_fold, List.take_of_length_le (Nat.le_refl _), hx]
        simp [u8R, List.map_drop]
      simp only [hc2, u8R_len, List.length_drop]
      refine ⟨by omega, by rw [hlen]; omega, _, h64, rfl, by omega, fun A c => ?_⟩
      rw [← htk] at h
      refine h _ ?_
      rw [if_pos rfl]; rfl
  · intro A c
    have : mth.tk 0 0 l = (0, 0, 7) := by
      rw [← htk]
      by_cases h10 : 10 ≤ i
      · exact mth.tk_ten _ _ _ h10
      · rw [List.drop_of_length_le (by omega)]; rfl
    rw [this] at h
    exact h _ rfl)
noncomputable def con_wTake : Con E0 := ⟨k_wTake, sg_wTake, wTake_s, rfl, bo_wTake, wTake_h⟩
def k_rTake2 : Nat := 36
def sg_rTake2 : Sig := ⟨[(false, [.list 5])], [(false, [.int .i64]), (false, [.int .i64]), (false, [.int .i64])], false, false, true⟩
def tr_rTake2 : Tree := (.loop [(.int .i64 0), (.int .i64 0), (.int .i64 0), (.int .u64 0), (.int .u64 1), (.int .i64 0)] [(.int .i64), (.int .i64), (.int .i64), (.int .u64), (.int .u64), (.int .i64)]
 (.ite (.and (.cmp .lt (.var 6) (.len (.var 0))) (.cmp .lt (.var 6) (.int .i64 10)))
  (.ob (.or (.not (.cmp .eq (.var 6) (.int .i64 9))) (.cmp .ge (.var 6) (.int .i64 0)))
  (.ite (.and (.cmp .eq (.var 6) (.int .i64 9)) (.cmp .gt (.elem (.var 0) (.var 6) 0 (.int .u8)) (.int .u8 1)))
   (.ret [(.int .i64 0), (.int .i64 0), (.int .i64 2)])
   (.ob (.cmp .ge (.var 6) (.int .i64 0))
   (.ob (.cmp .ge (.var 6) (.int .i64 0))
   (.ite (.cmp .ge (.elem (.var 0) (.var 6) 0 (.int .u8)) (.int .u8 128))
    (.again 0 [(.var 1), (.var 2), (.var 3), (.ar .add .u64 (.var 4) (.ar .mul .u64 (.var 5) (.conv .u64 (.ar .rem .u8 (.elem (.var 0) (.var 6) 0 (.int .u8)) (.int .u8 128))))), (.ar .mul .u64 (.var 5) (.int .u64 128)), (.ar .add .i64 (.var 6) (.int .i64 1))])
    (.ob (.cmp .ge (.var 6) (.int .i64 0))
    (.ite (.and (.cmp .eq (.elem (.var 0) (.var 6) 0 (.int .u8)) (.int .u8 0)) (.cmp .gt (.var 6) (.int .i64 0)))
     (.ret [(.int .i64 0), (.int .i64 0), (.int .i64 2)])
     (.ite (.cmp .eq (.ar .rem .u64 (.ar .add .u64 (.var 4) (.ar .mul .u64 (.var 5) (.conv .u64 (.ar .rem .u8 (.elem (.var 0) (.var 6) 0 (.int .u8)) (.int .u8 128))))) (.int .u64 2)) (.int .u64 0))
      (.ret [(.conv .i64 (.ar .quo .u64 (.ar .add .u64 (.var 4) (.ar .mul .u64 (.var 5) (.conv .u64 (.ar .rem .u8 (.elem (.var 0) (.var 6) 0 (.int .u8)) (.int .u8 128))))) (.int .u64 2))), (.ar .add .i64 (.var 6) (.int .i64 1)), (.int .i64 0)])
      (.ret [(.ar .sub .i64 (.ar .sub .i64 (.int .i64 0) (.conv .i64 (.ar .quo .u64 (.ar .add .u64 (.var 4) (.ar .mul .u64 (.var 5) (.conv .u64 (.ar .rem .u8 (.elem (.var 0) (.var 6) 0 (.int .u8)) (.int .u8 128))))) (.int .u64 2)))) (.int .i64 1)), (.ar .add .i64 (.var 6) (.int .i64 1)), (.int .i64 0)])))))))))
  (.ret [(.int .i64 0), (.int .i64 0), (.int .i64 7)])))
theorem wk_rTake2 : walk E0.cx (sgsN []) 0 36 sg_rTake2 = tr_rTake2 := by kernel_rfl
theorem bo_rTake2 : ∃ x, bodyOf E0.P 36 = some x := bo_of (by kernel_rfl)
def rTake2_s : Spec := fun ds Q => ∃ l : List Nat, argL ds 0 = u8R l ∧ (∀ c ∈ l, c < 256) ∧ l.length ≤ 90000000 ∧ Q [.int .i64 (mth.tk 0 0 l).1, .int .i64 ((mth.tk 0 0 l).2.1 : Nat), .int .i64 (mth.tk 0 0 l).2.2]
theorem rTake2_h : Holds E0 k_rTake2 sg_rTake2 rTake2_s := con_fn wf0 mix0 g0 [] rfl wk_rTake2 rfl (by
  intro Φ hΦ ds Q hs ⟨l, hx, hb, hn, h⟩
  have hl : ds.length = 1 := hs.length.symm
  clear hΦ
  have hlen : (argL ds 0).length = l.length := by rw [hx, u8R_len]
  simp only [tr_rTake2, wp, den_int, den_bool, den_nili, den_ar, den_cmp, den_not, den_len, den_elem, den_isnil, den_errI, den_ifc, den_rep, den_push, den_app, den_emp, den_upd, row0_econs, row0_enil, den_and, den_beq, den_nil, toInt_int, toBool_bool, xs_rows, xs_list, dflt_int, dflt_bool, of_eq, of_ne, of_lt, of_le, of_gt, of_ge, of_add, of_sub, of_rem, List.map_cons, List.map_nil, Dat.bool.injEq, decide_eq_true_eq, decide_eq_false_iff_not, Bool.not_eq_true', Bool.not_eq_false', beq_iff_eq, bne_iff_ne, beq_eq_false_iff_ne, bne_eq_false_iff_eq, ne_eq, List.append_assoc, List.cons_append, List.nil_append, allS, den_conv, den_ite, den_or, @den_var0 E0.Δ ds, den_varA, den_varB, hl, Nat.reduceLT, Nat.reduceLeDiff, Nat.reduceSub, List.getD_cons_zero, List.getD_cons_succ, argL_fold ds, argI_fold ds, List.append_assoc, List.cons_append, List.nil_append, toInt_int, toBool_bool, xs_rows, xs_list, Int.toNat_natCast, Dat.bool.injEq]
  rw [hlen]
  refine ⟨fun xs m => ∃ (i X : Nat) (z1 z2 z3 : Int), xs = [.int .i64 z1, .int .i64 z2, .int .i64 z3, .int .u64 (X : Int), .int .u64 ((128 ^ i : Nat) : Int), .int .i64 (i : Int)] ∧ i ≤ l.length ∧ i ≤ 10 ∧ X < 128 ^ i ∧ mth.tk i X (l.drop i) = mth.tk 0 0 l ∧ m = 10 - i, ⟨_, 0, 0, _, _, _, rfl, by omega, by omega, by simp, by simp, rfl⟩, ?_⟩
  rintro z1 z2 z3 X' w' i' m ⟨i, X, _, _, _, e, hil', hi10', hX, htk, hm⟩
  cases e
  refine ⟨fun hlt => ?_, fun hge => ?_⟩
  · simp only [Bool.and_eq_true, decide_eq_true_eq] at hlt
    have hil : i < l.length := by omega
    have hi10 : i < 10 := by omega
    have hcell : ((argL ds 0).getD i []).getD 0 (.int .u8 0) = .int .u8 (l[i] : Int) := by rw [hx, u8R_get hil]
    have hc := hb _ (List.getElem_mem hil)
    have hdrop : l.drop i = l[i] :: l.drop (i + 1) := List.drop_eq_getElem_cons hil
    rw [hdrop] at htk
    have hacc : X + 128 ^ i * (l[i] % 128) < 18446744073709551616 → IntKind.u64.wrap ((X : Int) + Ar.mul.of .u64 ((128 ^ i : Nat) : Int) (IntKind.u64.wrap (Int.tmod (l[i] : Int) 128))) = ((X + 128 ^ i * (l[i] % 128) : Nat) : Int) := fun h64 => by
      rw [Int.tmod_eq_emod_of_nonneg (by omega)]
      have e1 : IntKind.u64.wrap ((l[i] : Int) % 128) = ((l[i] % 128 : Nat) : Int) := by rw [IntKind.wrap_u64]; omega
      rw [e1]
      show IntKind.u64.wrap ((X : Int) + IntKind.u64.wrap (((128 ^ i : Nat) : Int) * ((l[i] % 128 : Nat) : Int))) = _
      rw [← Int.natCast_mul, IntKind.wrap_u64, IntKind.wrap_u64]
      omega
    simp only [Int.toNat_natCast, hcell, toInt_int]
    refine ⟨by simp, fun h9 => ?_, fun h9 => ⟨by omega, by omega, fun h128 => ?_, fun h128 => ⟨by omega, fun h0 => ?_, fun h0 => ?_⟩⟩⟩
    · simp only [Bool.and_eq_true, beq_iff_eq, decide_eq_true_eq] at h9
      rw [mth.tk_nine (by omega) (by omega)] at htk
      rw [← htk] at h
      exact h
    · have h9' : ¬ (i = 9 ∧ 1 < l[i]) := fun hh => by
        rw [decide_eq_true (show (1 : Int) < (l[i] : Int) by omega)] at h9
        simp at h9; omega
      have hi8 : i ≤ 8 := by omega
      rw [mth.tk_more hi10 h9' (by omega)] at htk
      have hps := mth.pow_step i X (l[i] % 128) hX (Nat.mod_lt _ (by decide))
      have hp9 := mth.pow_le9 (i + 1) (by omega)
      rw [hacc (by omega)]
      refine ⟨10 - (i + 1), by omega, i + 1, _, z1, z2, z3, ?_, by omega, by omega, hps, htk, rfl⟩
      have e1 : Ar.mul.of .u64 ((128 ^ i : Nat) : Int) 128 = ((128 ^ (i + 1) : Nat) : Int) := by
        show IntKind.u64.wrap (((128 ^ i : Nat) : Int) * 128) = _
        have e2 : ((128 ^ i : Nat) : Int) * 128 = ((128 ^ (i + 1) : Nat) : Int) := by rw [Nat.pow_succ]; omega
        rw [e2, IntKind.wrap_u64]; omega
      rw [e1, wrap64 (by omega) (by omega)]; rfl
    · simp only [Bool.and_eq_true, beq_iff_eq, decide_eq_true_eq] at h0
      rw [mth.tk_zero hi10 (by omega) (by omega)] at htk
      rw [← htk] at h
      exact h
    · have h9' : ¬ (i = 9 ∧ 1 < l[i]) := fun hh => by
        rw [decide_eq_true (show (1 : Int) < (l[i] : Int) by omega)] at h9
        simp at h9; omega
      have h0' : ¬ (l[i] = 0 ∧ 0 < i) := fun hh => by
        rw [decide_eq_true (show (0 : Int) < (i : Int) by omega)] at h0
        simp at h0; omega
      have h64 := mth.below64 i X l[i] hi10 hX h9' (by omega)
      have em : l[i] % 128 = l[i] := Nat.mod_eq_of_lt (by omega)
      rw [mth.tk_end hi10 h9' (by omega) h0'] at htk
      rw [em] at hacc
      rw [hacc h64]
      rw [← htk] at h
      generalize X + 128 ^ i * l[i] = Y at *
      have w64 : ∀ y, IntKind.i64.wrap y = RowKit.wrap64 y := fun y => by rw [IntKind.wrap_i64, RowKit.wrap64]
      have eq1 : Ar.quo.of .u64 (Y : Int) 2 = IntKind.u64.wrap ((Y : Int) / 2) := by
        show IntKind.u64.wrap ((Y : Int).tdiv 2) = _
        rw [Int.tdiv_eq_ediv_of_nonneg (by omega)]
      rw [eq1, wrap64 (x := (i : Int) + 1) (by omega) (by omega)]
      refine ⟨fun he => ?_, fun he => ?_⟩
      · rw [Int.tmod_eq_emod_of_nonneg (by omega)] at he
        rw [w64, zag_e Y h64 (by omega)]
        exact h
      · rw [Int.tmod_eq_emod_of_nonneg (by omega)] at he
        rw [w64, w64, w64, Int.zero_sub, zag_o Y h64 (by omega)]
        exact h
  · have hge' : ¬ (i < l.length ∧ i < 10) := fun ⟨a, b⟩ => by
      rw [decide_eq_true (show (i : Int) < (l.length : Int) by omega), decide_eq_true (show (i : Int) < 10 by omega)] at hge
      cases hge
    have : mth.tk 0 0 l = (0, 0, 7) := by
      rw [← htk]
      by_cases h10 : 10 ≤ i
      · exact mth.tk_ten _ _ _ h10
      · rw [List.drop_of_length_le (by omega)]; rfl
    rw [this] at h
    exact h)
noncomputable def con_rTake2 : Con E0 := ⟨k_rTake2, sg_rTake2, rTake2_s, rfl, bo_rTake2, rTake2_h⟩
end Go.Proofs.Ytkilkcgnfhlfiaa
