import Derived.Test.YtnhahmgbgocdgaaDoorM13

set_option linter.unusedVariables false
set_option linter.unusedSimpArgs false

section
namespace Go.Proofs.YtnhahmgbgocdgaaDoor
open Go.RowKit
set_option linter.unusedVariables false
set_option linter.unusedSimpArgs false

def objOf (h : Int) (r : List Int) : List Int := [r.getD 0 0, h % 2, h / 2 % 2, h / 4 % 16, h / 64 % 2, h / 128 % 2, r.getD 1 0, r.getD 2 0, r.getD 3 0, r.getD 4 0, h / 8192 % 256, h / 256 % 2, r.getD 5 0, h / 512 % 4, r.getD 6 0, r.getD 7 0, r.getD 8 0, h / 2048 % 4]
def intsD (l : List Int) : List Dat := l.map fun n => .int .i64 n
theorem len9 {r : List Int} (h : r.length = 9) : ∃ a b c d e f g i j, r = [a, b, c, d, e, f, g, i, j] := by
  match r, h with
  | [a, b, c, d, e, f, g, i, j], _ => exact ⟨a, b, c, d, e, f, g, i, j, rfl⟩
def tObj_s : Spec := fun ds Q => ∃ (h : Nat) (r : List Int), h < 4294967296 ∧ r.length = 9 ∧ ds = .int .u32 h :: intsD r ∧ (2097152 ≤ h → Q (List.replicate 18 (.int .i64 0) ++ [errV 2])) ∧ (h < 2097152 → Q (intsD (objOf h r) ++ [errV 0]))
theorem shr_of (h s : Nat) (hh : h < 4294967296) (hs : s ≤ 63) : Ar.shr.of .u64 (IntKind.u64.wrap (h : Int)) (s : Int) = ((h / 2 ^ s : Nat) : Int) := by
  rw [u64_in (by omega) (by omega)]
  show (h : Int).fdiv (2 ^ (min ((s : Int).toNat) 64)) = _
  rw [Int.toNat_natCast, Nat.min_eq_left (by omega), Int.fdiv_eq_ediv_of_nonneg _ (Int.pow_nonneg (by decide)), Int.natCast_ediv, Int.natCast_pow]; rfl
theorem part_of (h s w : Nat) (hh : h < 4294967296) (hs : s ≤ 63) (hw : w < 63) : IntKind.i64.wrap (Ar.and.of .u64 (Ar.shr.of .u64 (IntKind.u64.wrap (h : Int)) (s : Int)) ((2 ^ w - 1 : Nat) : Int)) = (h : Int) / 2 ^ s % 2 ^ w := by
  have hp := Nat.pow_le_pow_right (show 0 < 2 by omega) (show w ≤ 62 by omega)
  have hp0 := Nat.two_pow_pos w
  have hd : h / 2 ^ s ≤ h := Nat.div_le_self _ _
  have hm : h / 2 ^ s % 2 ^ w ≤ h / 2 ^ s := Nat.mod_le _ _
  have e2 : Ar.and.of .u64 ((h / 2 ^ s : Nat) : Int) ((2 ^ w - 1 : Nat) : Int) = ((h / 2 ^ s % 2 ^ w : Nat) : Int) := by
    show IntKind.u64.wrap (((BitVec.ofInt 64 ((h / 2 ^ s : Nat) : Int) &&& BitVec.ofInt 64 ((2 ^ w - 1 : Nat) : Int)).toNat : Nat) : Int) = _
    rw [BitVec.toNat_and, ofInt64 (by omega), ofInt64 (by omega), Nat.and_two_pow_sub_one_eq_mod, u64_in (by omega) (by omega)]
  rw [shr_of h s hh hs, e2, wrap64 (by omega) (by omega)]
  rw [Int.natCast_emod, Int.natCast_ediv, Int.natCast_pow, Int.natCast_pow]; rfl
def k_tObj : Nat := 42
def sg_tObj : Sig := ⟨[(false, [.int .u32]), (true, List.replicate 9 (.int .i64))], [(true, List.replicate 18 (.int .i64)), (false, [.err])], false, true, true, false, false⟩
def tr_tObj : Tree := (.ite (.cmp .ne (.ar .shr .u64 (.conv .u64 (.var 0)) (.int .u64 21)) (.int .u64 0))
 (.ret [(.int .i64 0), (.int .i64 0), (.int .i64 0), (.int .i64 0), (.int .i64 0), (.int .i64 0), (.int .i64 0), (.int .i64 0), (.int .i64 0), (.int .i64 0), (.int .i64 0), (.int .i64 0), (.int .i64 0), (.int .i64 0), (.int .i64 0), (.int .i64 0), (.int .i64 0), (.int .i64 0), (.ifc (.int .i64 2))])
 (.ret [(.var 1), (.conv .i64 (.ar .and .u64 (.ar .shr .u64 (.conv .u64 (.var 0)) (.int .u64 0)) (.int .u64 1))), (.conv .i64 (.ar .and .u64 (.ar .shr .u64 (.conv .u64 (.var 0)) (.int .u64 1)) (.int .u64 1))), (.conv .i64 (.ar .and .u64 (.ar .shr .u64 (.conv .u64 (.var 0)) (.int .u64 2)) (.int .u64 15))), (.conv .i64 (.ar .and .u64 (.ar .shr .u64 (.conv .u64 (.var 0)) (.int .u64 6)) (.int .u64 1))), (.conv .i64 (.ar .and .u64 (.ar .shr .u64 (.conv .u64 (.var 0)) (.int .u64 7)) (.int .u64 1))), (.var 2), (.var 3), (.var 4), (.var 5), (.conv .i64 (.ar .and .u64 (.ar .shr .u64 (.conv .u64 (.var 0)) (.int .u64 13)) (.int .u64 255))), (.conv .i64 (.ar .and .u64 (.ar .shr .u64 (.conv .u64 (.var 0)) (.int .u64 8)) (.int .u64 1))), (.var 6), (.conv .i64 (.ar .and .u64 (.ar .shr .u64 (.conv .u64 (.var 0)) (.int .u64 9)) (.int .u64 3))), (.var 7), (.var 8), (.var 9), (.conv .i64 (.ar .and .u64 (.ar .shr .u64 (.conv .u64 (.var 0)) (.int .u64 11)) (.int .u64 3))), .nili]))
theorem wk_tObj : walk E0.cx (sgsN []) 0 42 sg_tObj = tr_tObj := by kernel_rfl
theorem bo_tObj : ∃ x, bodyOf E0.P 42 = some x := bo_of (by kernel_rfl)
theorem tObj_h : Holds E0 k_tObj sg_tObj tObj_s := con_fn wf0 mix0 g0 [] rfl wk_tObj rfl (by
  intro Φ hΦ ds Q hs ⟨h, r, hh, hr, e, hq⟩
  clear hΦ hs
  obtain ⟨a, b, c, d, e', f, g, i, j, rfl⟩ := len9 hr
  subst e
  have e0 : IntKind.u64.wrap (h : Int) = h := u64_in (by omega) (by omega)
  simp only [tr_tObj, wp, den_int, den_bool, den_nili, den_ar, den_cmp, den_not, den_len, den_elem, den_isnil, den_errI, den_ifc, den_rep, den_push, den_app, den_emp, den_upd, row0_econs, row0_enil, den_and, den_beq, den_nil, toInt_int, toBool_bool, xs_rows, xs_list, dflt_int, dflt_bool, of_eq, of_ne, of_lt, of_le, of_gt, of_ge, of_add, of_sub, of_rem, List.map_cons, List.map_nil, Dat.bool.injEq, decide_eq_true_eq, decide_eq_false_iff_not, Bool.not_eq_true', Bool.not_eq_false', beq_iff_eq, bne_iff_ne, beq_eq_false_iff_ne, bne_eq_false_iff_eq, ne_eq, List.append_assoc, List.cons_append, List.nil_append, intsD, List.map_cons, List.map_nil, den_conv, den_var0, List.getD_cons_zero, List.getD_cons_succ, toInt_int]
  have P := fun s w hs hw => part_of h s w hh hs hw
  have p0 : IntKind.i64.wrap (Ar.and.of .u64 (Ar.shr.of .u64 (IntKind.u64.wrap (h : Int)) 0) 1) = (h : Int) % 2 := by
    rw [show (0 : Int) = ((0 : Nat) : Int) from rfl]
    exact (P 0 1 (by decide) (by decide)).trans (by simp)
  have p1 : IntKind.i64.wrap (Ar.and.of .u64 (Ar.shr.of .u64 (IntKind.u64.wrap (h : Int)) 1) 1) = (h : Int) / 2 % 2 := P 1 1 (by decide) (by decide)
  have p2 : IntKind.i64.wrap (Ar.and.of .u64 (Ar.shr.of .u64 (IntKind.u64.wrap (h : Int)) 2) 15) = (h : Int) / 4 % 16 := P 2 4 (by decide) (by decide)
  have p6 : IntKind.i64.wrap (Ar.and.of .u64 (Ar.shr.of .u64 (IntKind.u64.wrap (h : Int)) 6) 1) = (h : Int) / 64 % 2 := P 6 1 (by decide) (by decide)
  have p7 : IntKind.i64.wrap (Ar.and.of .u64 (Ar.shr.of .u64 (IntKind.u64.wrap (h : Int)) 7) 1) = (h : Int) / 128 % 2 := P 7 1 (by decide) (by decide)
  have p8 : IntKind.i64.wrap (Ar.and.of .u64 (Ar.shr.of .u64 (IntKind.u64.wrap (h : Int)) 8) 1) = (h : Int) / 256 % 2 := P 8 1 (by decide) (by decide)
  have p9 : IntKind.i64.wrap (Ar.and.of .u64 (Ar.shr.of .u64 (IntKind.u64.wrap (h : Int)) 9) 3) = (h : Int) / 512 % 4 := P 9 2 (by decide) (by decide)
  have p11 : IntKind.i64.wrap (Ar.and.of .u64 (Ar.shr.of .u64 (IntKind.u64.wrap (h : Int)) 11) 3) = (h : Int) / 2048 % 4 := P 11 2 (by decide) (by decide)
  have p13 : IntKind.i64.wrap (Ar.and.of .u64 (Ar.shr.of .u64 (IntKind.u64.wrap (h : Int)) 13) 255) = (h : Int) / 8192 % 256 := P 13 8 (by decide) (by decide)
  have p21 : Ar.shr.of .u64 (IntKind.u64.wrap (h : Int)) 21 = ((h / 2097152 : Nat) : Int) := shr_of h 21 hh (by decide)
  rw [p0, p1, p2, p6, p7, p8, p9, p11, p13, p21]
  refine ⟨fun h1 => hq.1 (by omega), fun h1 => hq.2 (by omega)⟩)
noncomputable def con_tObj : Con E0 := ⟨k_tObj, sg_tObj, tObj_s, rfl, bo_tObj, tObj_h⟩
def stpL (h : Nat) : Nat → List Int
  | 0 => [((h : Nat) : Int), 0, 0, 0, 0, 0, 0, 0, 0, 0, 0, 0, 0, 0, 0, 0, 0, 0, 0, 0]
  | 1 => [((h / 2 : Nat) : Int), 1, 0, ((h % 2 : Nat) : Int), 0, 0, 0, 0, 0, 0, 0, 0, 0, 0, 0, 0, 0, 0, 0, 0]
  | 2 => [((h / 4 : Nat) : Int), 2, 0, ((h % 2 : Nat) : Int), ((h / 2 % 2 : Nat) : Int), 0, 0, 0, 0, 0, 0, 0, 0, 0, 0, 0, 0, 0, 0, 0]
  | 3 => [((h / 64 : Nat) : Int), 3, 0, ((h % 2 : Nat) : Int), ((h / 2 % 2 : Nat) : Int), ((h / 4 % 16 : Nat) : Int), 0, 0, 0, 0, 0, 0, 0, 0, 0, 0, 0, 0, 0, 0]
  | 4 => [((h / 128 : Nat) : Int), 4, 0, ((h % 2 : Nat) : Int), ((h / 2 % 2 : Nat) : Int), ((h / 4 % 16 : Nat) : Int), ((h / 64 % 2 : Nat) : Int), 0, 0, 0, 0, 0, 0, 0, 0, 0, 0, 0, 0, 0]
  | 5 => [((h / 256 : Nat) : Int), 5, 0, ((h % 2 : Nat) : Int), ((h / 2 % 2 : Nat) : Int), ((h / 4 % 16 : Nat) : Int), ((h / 64 % 2 : Nat) : Int), ((h / 128 % 2 : Nat) : Int), 0, 0, 0, 0, 0, 0, 0, 0, 0, 0, 0, 0]
  | 6 => [((h / 512 : Nat) : Int), 6, 0, ((h % 2 : Nat) : Int), ((h / 2 % 2 : Nat) : Int), ((h / 4 % 16 : Nat) : Int), ((h / 64 % 2 : Nat) : Int), ((h / 128 % 2 : Nat) : Int), 0, 0, 0, 0, 0, ((h / 256 % 2 : Nat) : Int), 0, 0, 0, 0, 0, 0]
  | 7 => [((h / 2048 : Nat) : Int), 7, 0, ((h % 2 : Nat) : Int), ((h / 2 % 2 : Nat) : Int), ((h / 4 % 16 : Nat) : Int), ((h / 64 % 2 : Nat) : Int), ((h / 128 % 2 : Nat) : Int), 0, 0, 0, 0, 0, ((h / 256 % 2 : Nat) : Int), 0, ((h / 512 % 4 : Nat) : Int), 0, 0, 0, 0]
  | 8 => [((h / 8192 : Nat) : Int), 8, 0, ((h % 2 : Nat) : Int), ((h / 2 % 2 : Nat) : Int), ((h / 4 % 16 : Nat) : Int), ((h / 64 % 2 : Nat) : Int), ((h / 128 % 2 : Nat) : Int), 0, 0, 0, 0, 0, ((h / 256 % 2 : Nat) : Int), 0, ((h / 512 % 4 : Nat) : Int), 0, 0, 0, ((h / 2048 % 4 : Nat) : Int)]
  | _ => [((h / 2097152 : Nat) : Int), 9, 0, ((h % 2 : Nat) : Int), ((h / 2 % 2 : Nat) : Int), ((h / 4 % 16 : Nat) : Int), ((h / 64 % 2 : Nat) : Int), ((h / 128 % 2 : Nat) : Int), 0, 0, 0, 0, ((h / 8192 % 256 : Nat) : Int), ((h / 256 % 2 : Nat) : Int), 0, ((h / 512 % 4 : Nat) : Int), 0, 0, 0, ((h / 2048 % 4 : Nat) : Int)]
theorem quoN (a b : Nat) (ha : a < 4294967296) : Ar.quo.of .i64 (a : Int) (b : Int) = ((a / b : Nat) : Int) := by
  have : a / b ≤ a := Nat.div_le_self _ _
  show IntKind.i64.wrap ((a : Int).tdiv (b : Int)) = _
  rw [← Int.ofNat_tdiv]
  generalize a / b = q at *
  exact wrap64 (by omega) (by omega)
theorem remN (a b : Nat) : (a : Int).tmod (b : Int) = ((a % b : Nat) : Int) := (Int.ofNat_tmod a b).symm
def k_rObj3 : Nat := 30
def sg_rObj3 : Sig := ⟨[(false, [.int .u32]), (true, List.replicate 9 (.int .i64))], [(true, List.replicate 18 (.int .i64)), (false, [.int .i64])], false, false, true, false, true⟩
def tr_rObj3 : Tree := (.lit 3 (.push (.push (.push (.push (.push (.push (.push (.push (.push .emp (.econs (.int .i64 1) .enil)) (.econs (.int .i64 2) .enil)) (.econs (.int .i64 3) .enil)) (.econs (.int .i64 4) .enil)) (.econs (.int .i64 5) .enil)) (.econs (.int .i64 11) .enil)) (.econs (.int .i64 13) .enil)) (.econs (.int .i64 17) .enil)) (.econs (.int .i64 10) .enil))
(.lit 3 (.push (.push (.push (.push (.push (.push (.push (.push (.push .emp (.econs (.int .i64 2) .enil)) (.econs (.int .i64 2) .enil)) (.econs (.int .i64 16) .enil)) (.econs (.int .i64 2) .enil)) (.econs (.int .i64 2) .enil)) (.econs (.int .i64 2) .enil)) (.econs (.int .i64 4) .enil)) (.econs (.int .i64 4) .enil)) (.econs (.int .i64 256) .enil))
(.loop [(.conv .i64 (.var 0)), (.int .i64 0), (.int .i64 0), (.int .i64 0), (.int .i64 0), (.int .i64 0), (.int .i64 0), (.int .i64 0), (.int .i64 0), (.int .i64 0), (.int .i64 0), (.int .i64 0), (.int .i64 0), (.int .i64 0), (.int .i64 0), (.int .i64 0), (.int .i64 0), (.int .i64 0), (.int .i64 0), (.int .i64 0)] [(.int .i64), (.int .i64), (.int .i64), (.int .i64), (.int .i64), (.int .i64), (.int .i64), (.int .i64), (.int .i64), (.int .i64), (.int .i64), (.int .i64), (.int .i64), (.int .i64), (.int .i64), (.int .i64), (.int .i64), (.int .i64), (.int .i64), (.int .i64)]
 (.ite (.cmp .lt (.var 13) (.len (.var 10)))
  (.ob (.cmp .ge (.var 13) (.int .i64 0))
  (.ob (.cmp .ge (.var 13) (.int .i64 0))
  (.ob (.cmp .lt (.var 13) (.len (.var 11)))
  (.ob (.cmp .ne (.elem (.var 11) (.var 13) 0 (.int .i64)) (.int .i64 0))
  (.ob (.cmp .ge (.elem (.var 10) (.var 13) 0 (.int .i64)) (.int .i64 0))
  (.ob (.cmp .lt (.elem (.var 10) (.var 13) 0 (.int .i64)) (.int .i64 18))
  (.ob (.cmp .ge (.var 13) (.int .i64 0))
  (.ob (.cmp .lt (.var 13) (.len (.var 11)))
  (.ob (.cmp .ne (.elem (.var 11) (.var 13) 0 (.int .i64)) (.int .i64 0))
  (.again 0 [(.ar .quo .i64 (.var 12) (.elem (.var 11) (.var 13) 0 (.int .i64))), (.ar .add .i64 (.var 13) (.int .i64 1)), (.ite (.cmp .eq (.elem (.var 10) (.var 13) 0 (.int .i64)) (.int .i64 0)) (.ar .rem .i64 (.var 12) (.elem (.var 11) (.var 13) 0 (.int .i64))) (.var 14)), (.ite (.cmp .eq (.elem (.var 10) (.var 13) 0 (.int .i64)) (.int .i64 1)) (.ar .rem .i64 (.var 12) (.elem (.var 11) (.var 13) 0 (.int .i64))) (.var 15)), (.ite (.cmp .eq (.elem (.var 10) (.var 13) 0 (.int .i64)) (.int .i64 2)) (.ar .rem .i64 (.var 12) (.elem (.var 11) (.var 13) 0 (.int .i64))) (.var 16)), (.ite (.cmp .eq (.elem (.var 10) (.var 13) 0 (.int .i64)) (.int .i64 3)) (.ar .rem .i64 (.var 12) (.elem (.var 11) (.var 13) 0 (.int .i64))) (.var 17)), (.ite (.cmp .eq (.elem (.var 10) (.var 13) 0 (.int .i64)) (.int .i64 4)) (.ar .rem .i64 (.var 12) (.elem (.var 11) (.var 13) 0 (.int .i64))) (.var 18)), (.ite (.cmp .eq (.elem (.var 10) (.var 13) 0 (.int .i64)) (.int .i64 5)) (.ar .rem .i64 (.var 12) (.elem (.var 11) (.var 13) 0 (.int .i64))) (.var 19)), (.ite (.cmp .eq (.elem (.var 10) (.var 13) 0 (.int .i64)) (.int .i64 6)) (.ar .rem .i64 (.var 12) (.elem (.var 11) (.var 13) 0 (.int .i64))) (.var 20)), (.ite (.cmp .eq (.elem (.var 10) (.var 13) 0 (.int .i64)) (.int .i64 7)) (.ar .rem .i64 (.var 12) (.elem (.var 11) (.var 13) 0 (.int .i64))) (.var 21)), (.ite (.cmp .eq (.elem (.var 10) (.var 13) 0 (.int .i64)) (.int .i64 8)) (.ar .rem .i64 (.var 12) (.elem (.var 11) (.var 13) 0 (.int .i64))) (.var 22)), (.ite (.cmp .eq (.elem (.var 10) (.var 13) 0 (.int .i64)) (.int .i64 9)) (.ar .rem .i64 (.var 12) (.elem (.var 11) (.var 13) 0 (.int .i64))) (.var 23)), (.ite (.cmp .eq (.elem (.var 10) (.var 13) 0 (.int .i64)) (.int .i64 10)) (.ar .rem .i64 (.var 12) (.elem (.var 11) (.var 13) 0 (.int .i64))) (.var 24)), (.ite (.cmp .eq (.elem (.var 10) (.var 13) 0 (.int .i64)) (.int .i64 11)) (.ar .rem .i64 (.var 12) (.elem (.var 11) (.var 13) 0 (.int .i64))) (.var 25)), (.ite (.cmp .eq (.elem (.var 10) (.var 13) 0 (.int .i64)) (.int .i64 12)) (.ar .rem .i64 (.var 12) (.elem (.var 11) (.var 13) 0 (.int .i64))) (.var 26)), (.ite (.cmp .eq (.elem (.var 10) (.var 13) 0 (.int .i64)) (.int .i64 13)) (.ar .rem .i64 (.var 12) (.elem (.var 11) (.var 13) 0 (.int .i64))) (.var 27)), (.ite (.cmp .eq (.elem (.var 10) (.var 13) 0 (.int .i64)) (.int .i64 14)) (.ar .rem .i64 (.var 12) (.elem (.var 11) (.var 13) 0 (.int .i64))) (.var 28)), (.ite (.cmp .eq (.elem (.var 10) (.var 13) 0 (.int .i64)) (.int .i64 15)) (.ar .rem .i64 (.var 12) (.elem (.var 11) (.var 13) 0 (.int .i64))) (.var 29)), (.ite (.cmp .eq (.elem (.var 10) (.var 13) 0 (.int .i64)) (.int .i64 16)) (.ar .rem .i64 (.var 12) (.elem (.var 11) (.var 13) 0 (.int .i64))) (.var 30)), (.ite (.cmp .eq (.elem (.var 10) (.var 13) 0 (.int .i64)) (.int .i64 17)) (.ar .rem .i64 (.var 12) (.elem (.var 11) (.var 13) 0 (.int .i64))) (.var 31))]))))))))))
  (.ite (.cmp .gt (.var 12) (.int .i64 0))
   (.ret [(.int .i64 0), (.int .i64 0), (.int .i64 0), (.int .i64 0), (.int .i64 0), (.int .i64 0), (.int .i64 0), (.int .i64 0), (.int .i64 0), (.int .i64 0), (.int .i64 0), (.int .i64 0), (.int .i64 0), (.int .i64 0), (.int .i64 0), (.int .i64 0), (.int .i64 0), (.int .i64 0), (.int .i64 2)])
   (.ret [(.var 1), (.var 15), (.var 16), (.var 17), (.var 18), (.var 19), (.var 2), (.var 3), (.var 4), (.var 5), (.var 24), (.var 25), (.var 6), (.var 27), (.var 7), (.var 8), (.var 9), (.var 31), (.int .i64 0)]))))))
theorem wk_rObj3 : walk E0.cx (sgsN []) 0 30 sg_rObj3 = tr_rObj3 := by kernel_rfl
theorem bo_rObj3 : ∃ x, bodyOf E0.P 30 = some x := bo_of (by kernel_rfl)
def rObj3_s : Spec := fun ds Q => ∃ (h : Nat) (r : List Int), h < 4294967296 ∧ r.length = 9 ∧ ds = .int .u32 h :: intsD r ∧ (2097152 ≤ h → Q (List.replicate 18 (.int .i64 0) ++ [.int .i64 2])) ∧ (h < 2097152 → Q (intsD (objOf h r) ++ [.int .i64 0]))
theorem rObj3_h : Holds E0 k_rObj3 sg_rObj3 rObj3_s := con_fn wf0 mix0 g0 [] rfl wk_rObj3 rfl (by
  intro Φ hΦ ds Q hs ⟨h, r, hh, hr, e, hq⟩
  clear hΦ hs
  obtain ⟨a, b, c, d, e', f, g, i, j, rfl⟩ := len9 hr
  subst e
  simp only [tr_rObj3, wp, den_int, den_bool, den_nili, den_ar, den_cmp, den_not, den_len, den_elem, den_isnil, den_errI, den_ifc, den_rep, den_push, den_app, den_emp, den_upd, row0_econs, row0_enil, den_and, den_beq, den_nil, toInt_int, toBool_bool, xs_rows, xs_list, dflt_int, dflt_bool, of_eq, of_ne, of_lt, of_le, of_gt, of_ge, of_add, of_sub, of_rem, List.map_cons, List.map_nil, Dat.bool.injEq, decide_eq_true_eq, decide_eq_false_iff_not, Bool.not_eq_true', Bool.not_eq_false', beq_iff_eq, bne_iff_ne, beq_eq_false_iff_ne, bne_eq_false_iff_eq, ne_eq, List.append_assoc, List.cons_append, List.nil_append, allS, intsD, List.map_cons, List.map_nil, den_conv, den_ite, den_var0, List.getD_cons_zero, List.getD_cons_succ, toInt_int]
  intro A1 A2
  have hw : IntKind.i64.wrap (h : Int) = h := wrap64 (by omega) (by omega)
  rw [hw]
  refine ⟨fun xs m => ∃ k : Nat, k ≤ 9 ∧ xs = intsD (stpL h k) ∧ m = 9 - k, ⟨_, 0, by omega, rfl, rfl⟩, ?_⟩
  rintro n0 n1 n2 n3 n4 n5 n6 n7 n8 n9 n10 n11 n12 n13 n14 n15 n16 n17 n18 n19 m ⟨k, hk, e, hm⟩
  have Q2 : ∀ a : Nat, a < 4294967296 → Ar.quo.of .i64 (a : Int) 2 = ((a / 2 : Nat) : Int) := fun a ha => quoN a 2 ha
  have Q16 : ∀ a : Nat, a < 4294967296 → Ar.quo.of .i64 (a : Int) 16 = ((a / 16 : Nat) : Int) := fun a ha => quoN a 16 ha
  have Q4 : ∀ a : Nat, a < 4294967296 → Ar.quo.of .i64 (a : Int) 4 = ((a / 4 : Nat) : Int) := fun a ha => quoN a 4 ha
  have Q256 : ∀ a : Nat, a < 4294967296 → Ar.quo.of .i64 (a : Int) 256 = ((a / 256 : Nat) : Int) := fun a ha => quoN a 256 ha
  have R2 : ∀ a : Nat, (a : Int).tmod 2 = ((a % 2 : Nat) : Int) := fun a => remN a 2
  have R16 : ∀ a : Nat, (a : Int).tmod 16 = ((a % 16 : Nat) : Int) := fun a => remN a 16
  have R4 : ∀ a : Nat, (a : Int).tmod 4 = ((a % 4 : Nat) : Int) := fun a => remN a 4
  have R256 : ∀ a : Nat, (a : Int).tmod 256 = ((a % 256 : Nat) : Int) := fun a => remN a 256
  have hk10 : k = 9 ∨ k = 0 ∨ k = 1 ∨ k = 2 ∨ k = 3 ∨ k = 4 ∨ k = 5 ∨ k = 6 ∨ k = 7 ∨ k = 8 := by omega
  rcases hk10 with rfl | rfl | rfl | rfl | rfl | rfl | rfl | rfl | rfl | rfl
  · simp only [intsD, stpL, List.map_cons, List.map_nil, List.cons.injEq, Dat.int.injEq, true_and, and_true] at e
    obtain ⟨rfl, rfl, rfl, rfl, rfl, rfl, rfl, rfl, rfl, rfl, rfl, rfl, rfl, rfl, rfl, rfl, rfl, rfl, rfl, rfl⟩ := e
    refine ⟨fun hlt => absurd hlt (by decide), fun _ => ⟨fun h1 => hq.1 (by omega), fun h1 => ?_⟩⟩
    have := hq.2 (by omega)
    simp only [objOf, intsD, List.map_cons, List.map_nil, List.getD_cons_zero, List.getD_cons_succ, List.cons_append, List.nil_append] at this
    exact this
  · simp only [intsD, stpL, List.map_cons, List.map_nil, List.cons.injEq, Dat.int.injEq, true_and, and_true] at e
    obtain ⟨rfl, rfl, rfl, rfl, rfl, rfl, rfl, rfl, rfl, rfl, rfl, rfl, rfl, rfl, rfl, rfl, rfl, rfl, rfl, rfl⟩ := e
    refine ⟨fun _ => ⟨by decide, by decide, by decide, by decide, by decide, by decide, by decide, by decide, by decide, _, (by omega : 9 - 1 < _), 1, by omega, ?_, rfl⟩, fun hge => absurd (by decide) hge⟩
    show intsD [Ar.quo.of .i64 ((h : Nat) : Int) 2, IntKind.i64.wrap (0 + 1), 0, ((h : Nat) : Int).tmod 2, 0, 0, 0, 0, 0, 0, 0, 0, 0, 0, 0, 0, 0, 0, 0, 0] = _
    rw [Q2 _ (by omega), R2]; rfl
  · simp only [intsD, stpL, List.map_cons, List.map_nil, List.cons.injEq, Dat.int.injEq, true_and, and_true] at e
    obtain ⟨rfl, rfl, rfl, rfl, rfl, rfl, rfl, rfl, rfl, rfl, rfl, rfl, rfl, rfl, rfl, rfl, rfl, rfl, rfl, rfl⟩ := e
    refine ⟨fun _ => ⟨by decide, by decide, by decide, by decide, by decide, by decide, by decide, by decide, by decide, _, (by omega : 9 - 2 < _), 2, by omega, ?_, rfl⟩, fun hge => absurd (by decide) hge⟩
    show intsD [Ar.quo.of .i64 ((h / 2 : Nat) : Int) 2, IntKind.i64.wrap (1 + 1), 0, ((h % 2 : Nat) : Int), ((h / 2 : Nat) : Int).tmod 2, 0, 0, 0, 0, 0, 0, 0, 0, 0, 0, 0, 0, 0, 0, 0] = _
    rw [Q2 _ (by omega), R2, Nat.div_div_eq_div_mul]; rfl
  · simp only [intsD, stpL, List.map_cons, List.map_nil, List.cons.injEq, Dat.int.injEq, true_and, and_true] at e
    obtain ⟨rfl, rfl, rfl, rfl, rfl, rfl, rfl, rfl, rfl, rfl, rfl, rfl, rfl, rfl, rfl, rfl, rfl, rfl, rfl, rfl⟩ := e
    refine ⟨fun _ => ⟨by decide, by decide, by decide, by decide, by decide, by decide, by decide, by decide, by decide, _, (by omega : 9 - 3 < _), 3, by omega, ?_, rfl⟩, fun hge => absurd (by decide) hge⟩
    show intsD [Ar.quo.of .i64 ((h / 4 : Nat) : Int) 16, IntKind.i64.wrap (2 + 1), 0, ((h % 2 : Nat) : Int), ((h / 2 % 2 : Nat) : Int), ((h / 4 : Nat) : Int).tmod 16, 0, 0, 0, 0, 0, 0, 0, 0, 0, 0, 0, 0, 0, 0] = _
    rw [Q16 _ (by omega), R16, Nat.div_div_eq_div_mul]; rfl
  · simp only [intsD, stpL, List.map_cons, List.map_nil, List.cons.injEq, Dat.int.injEq, true_and, and_true] at e
    obtain ⟨rfl, rfl, rfl, rfl, rfl, rfl, rfl, rfl, rfl, rfl, rfl, rfl, rfl, rfl, rfl, rfl, rfl, rfl, rfl, rfl⟩ := e
    refine ⟨fun _ => ⟨by decide, by decide, by decide, by decide, by decide, by decide, by decide, by decide, by decide, _, (by omega : 9 - 4 < _), 4, by omega, ?_, rfl⟩, fun hge => absurd (by decide) hge⟩
    show intsD [Ar.quo.of .i64 ((h / 64 : Nat) : Int) 2, IntKind.i64.wrap (3 + 1), 0, ((h % 2 : Nat) : Int), ((h / 2 % 2 : Nat) : Int), ((h / 4 % 16 : Nat) : Int), ((h / 64 : Nat) : Int).tmod 2, 0, 0, 0, 0, 0, 0, 0, 0, 0, 0, 0, 0, 0] = _
    rw [Q2 _ (by omega), R2, Nat.div_div_eq_div_mul]; rfl
  · simp only [intsD, stpL, List.map_cons, List.map_nil, List.cons.injEq, Dat.int.injEq, true_and, and_true] at e
    obtain ⟨rfl, rfl, rfl, rfl, rfl, rfl, rfl, rfl, rfl, rfl, rfl, rfl, rfl, rfl, rfl, rfl, rfl, rfl, rfl, rfl⟩ := e
    refine ⟨fun _ => ⟨by decide, by decide, by decide, by decide, by decide, by decide, by decide, by decide, by decide, _, (by omega : 9 - 5 < _), 5, by omega, ?_, rfl⟩, fun hge => absurd (by decide) hge⟩
    show intsD [Ar.quo.of .i64 ((h / 128 : Nat) : Int) 2, IntKind.i64.wrap (4 + 1), 0, ((h % 2 : Nat) : Int), ((h / 2 % 2 : Nat) : Int), ((h / 4 % 16 : Nat) : Int), ((h / 64 % 2 : Nat) : Int), ((h / 128 : Nat) : Int).tmod 2, 0, 0, 0, 0, 0, 0, 0, 0, 0, 0, 0, 0] = _
    rw [Q2 _ (by omega), R2, Nat.div_div_eq_div_mul]; rfl
  · simp only [intsD, stpL, List.map_cons, List.map_nil, List.cons.injEq, Dat.int.injEq, true_and, and_true] at e
    obtain ⟨rfl, rfl, rfl, rfl, rfl, rfl, rfl, rfl, rfl, rfl, rfl, rfl, rfl, rfl, rfl, rfl, rfl, rfl, rfl, rfl⟩ := e
    refine ⟨fun _ => ⟨by decide, by decide, by decide, by decide, by decide, by decide, by decide, by decide, by decide, _, (by omega : 9 - 6 < _), 6, by omega, ?_, rfl⟩, fun hge => absurd (by decide) hge⟩
    show intsD [Ar.quo.of .i64 ((h / 256 : Nat) : Int) 2, IntKind.i64.wrap (5 + 1), 0, ((h % 2 : Nat) : Int), ((h / 2 % 2 : Nat) : Int), ((h / 4 % 16 : Nat) : Int), ((h / 64 % 2 : Nat) : Int), ((h / 128 % 2 : Nat) : Int), 0, 0, 0, 0, 0, ((h / 256 : Nat) : Int).tmod 2, 0, 0, 0, 0, 0, 0] = _
    rw [Q2 _ (by omega), R2, Nat.div_div_eq_div_mul]; rfl
  · simp only [intsD, stpL, List.map_cons, List.map_nil, List.cons.injEq, Dat.int.injEq, true_and, and_true] at e
    obtain ⟨rfl, rfl, rfl, rfl, rfl, rfl, rfl, rfl, rfl, rfl, rfl, rfl, rfl, rfl, rfl, rfl, rfl, rfl, rfl, rfl⟩ := e
    refine ⟨fun _ => ⟨by decide, by decide, by decide, by decide, by decide, by decide, by decide, by decide, by decide, _, (by omega : 9 - 7 < _), 7, by omega, ?_, rfl⟩, fun hge => absurd (by decide) hge⟩
    show intsD [Ar.quo.of .i64 ((h / 512 : Nat) : Int) 4, IntKind.i64.wrap (6 + 1), 0, ((h % 2 : Nat) : Int), ((h / 2 % 2 : Nat) : Int), ((h / 4 % 16 : Nat) : Int), ((h / 64 % 2 : Nat) : Int), ((h / 128 % 2 : Nat) : Int), 0, 0, 0, 0, 0, ((h / 256 % 2 : Nat) : Int), 0, ((h / 512 : Nat) : Int).tmod 4, 0, 0, 0, 0] = _
    rw [Q4 _ (by omega), R4, Nat.div_div_eq_div_mul]; rfl
  · simp only [intsD, stpL, List.map_cons, List.map_nil, List.cons.injEq, Dat.int.injEq, true_and, and_true] at e
    obtain ⟨rfl, rfl, rfl, rfl, rfl, rfl, rfl, rfl, rfl, rfl, rfl, rfl, rfl, rfl, rfl, rfl, rfl, rfl, rfl, rfl⟩ := e
    refine ⟨fun _ => ⟨by decide, by decide, by decide, by decide, by decide, by decide, by decide, by decide, by decide, _, (by omega : 9 - 8 < _), 8, by omega, ?_, rfl⟩, fun hge => absurd (by decide) hge⟩
    show intsD [Ar.quo.of .i64 ((h / 2048 : Nat) : Int) 4, IntKind.i64.wrap (7 + 1), 0, ((h % 2 : Nat) : Int), ((h / 2 % 2 : Nat) : Int), ((h / 4 % 16 : Nat) : Int), ((h / 64 % 2 : Nat) : Int), ((h / 128 % 2 : Nat) : Int), 0, 0, 0, 0, 0, ((h / 256 % 2 : Nat) : Int), 0, ((h / 512 % 4 : Nat) : Int), 0, 0, 0, ((h / 2048 : Nat) : Int).tmod 4] = _
    rw [Q4 _ (by omega), R4, Nat.div_div_eq_div_mul]; rfl
  · simp only [intsD, stpL, List.map_cons, List.map_nil, List.cons.injEq, Dat.int.injEq, true_and, and_true] at e
    obtain ⟨rfl, rfl, rfl, rfl, rfl, rfl, rfl, rfl, rfl, rfl, rfl, rfl, rfl, rfl, rfl, rfl, rfl, rfl, rfl, rfl⟩ := e
    refine ⟨fun _ => ⟨by decide, by decide, by decide, by decide, by decide, by decide, by decide, by decide, by decide, _, (by omega : 9 - 9 < _), 9, by omega, ?_, rfl⟩, fun hge => absurd (by decide) hge⟩
    show intsD [Ar.quo.of .i64 ((h / 8192 : Nat) : Int) 256, IntKind.i64.wrap (8 + 1), 0, ((h % 2 : Nat) : Int), ((h / 2 % 2 : Nat) : Int), ((h / 4 % 16 : Nat) : Int), ((h / 64 % 2 : Nat) : Int), ((h / 128 % 2 : Nat) : Int), 0, 0, 0, 0, ((h / 8192 : Nat) : Int).tmod 256, ((h / 256 % 2 : Nat) : Int), 0, ((h / 512 % 4 : Nat) : Int), 0, 0, 0, ((h / 2048 % 4 : Nat) : Int)] = _
    rw [Q256 _ (by omega), R256, Nat.div_div_eq_div_mul]; rfl
  done)
noncomputable def con_rObj3 : Con E0 := ⟨k_rObj3, sg_rObj3, rObj3_s, rfl, bo_rObj3, rObj3_h⟩
end Go.Proofs.YtnhahmgbgocdgaaDoor
end

section
namespace Go.Proofs.YtnhahmgbgocdgaaDoor
open Go.RowKit
set_option linter.unusedVariables false
set_option linter.unusedSimpArgs false

def preA {α : Type} (o : List α) (r : List α × List Nat × Int) : List α × List Nat × Int := if r.2.2 = 0 then (o ++ r.1, r.2.1, 0) else ([], [], r.2.2)
def pMany {α : Type} (f : List Nat → α × List Nat × Int) : Nat → List Nat → List α × List Nat × Int
  | 0, b => ([], b, 0)
  | m + 1, b => if (f b).2.2 = 0 then preA [(f b).1] (pMany f m (f b).2.1) else ([], [], (f b).2.2)
theorem pMany_err {α : Type} (f : List Nat → α × List Nat × Int) (m : Nat) (b : List Nat) (h : (pMany f m b).2.2 ≠ 0) : pMany f m b = ([], [], (pMany f m b).2.2) := by
  cases m with
  | zero => exact absurd rfl h
  | succ m =>
    unfold pMany at h ⊢
    by_cases h1 : (f b).2.2 = 0
    · rw [if_pos h1] at h ⊢
      unfold preA at h ⊢
      by_cases h2 : (pMany f m (f b).2.1).2.2 = 0
      · rw [if_pos h2] at h; exact absurd rfl h
      · rw [if_neg h2]
    · rw [if_neg h1]
theorem preA_nil {α : Type} (f : List Nat → α × List Nat × Int) (m : Nat) (b : List Nat) : pMany f m b = preA [] (pMany f m b) := by
  unfold preA
  split
  · rename_i h; rw [← h]; rfl
  · rename_i h; exact pMany_err f m b h
theorem preA_preA {α : Type} (o o' : List α) (r : List α × List Nat × Int) : preA o (preA o' r) = preA (o ++ o') r := by
  unfold preA
  by_cases h : r.2.2 = 0
  · simp [h]
  · simp [h]
theorem preA_step {α : Type} {f : List Nat → α × List Nat × Int} {o : List α} {m : Nat} {b : List Nat} (h : (f b).2.2 = 0) : preA o (pMany f (m + 1) b) = preA (o ++ [(f b).1]) (pMany f m (f b).2.1) := by
  rw [pMany, if_pos h, preA_preA]
theorem preA_bad {α : Type} {f : List Nat → α × List Nat × Int} {o : List α} {m : Nat} {b : List Nat} (h : (f b).2.2 ≠ 0) : preA o (pMany f (m + 1) b) = ([], [], (f b).2.2) := by
  rw [pMany, if_neg h, preA, if_neg h]
theorem preA_end {α : Type} (f : List Nat → α × List Nat × Int) (o : List α) (b : List Nat) : preA o (pMany f 0 b) = (o, b, 0) := by simp [pMany, preA]
/-- an object -/
def pObj (b : List Nat) : List Int × List Nat × Int :=
  if (mth.tk 0 0 b).2.2 ≠ 0 then ([], [], (mth.tk 0 0 b).2.2)
  else if (mth.tk 0 0 b).1 < 0 ∨ 4294967295 < (mth.tk 0 0 b).1 then ([], [], 1)
  else if (mth.tkN 9 (b.drop (mth.tk 0 0 b).2.1)).2.2 ≠ 0 then ([], [], (mth.tkN 9 (b.drop (mth.tk 0 0 b).2.1)).2.2)
  else if 2097152 ≤ (mth.tk 0 0 b).1 then ([], [], 2)
  else (objOf (mth.tk 0 0 b).1 (mth.tkN 9 (b.drop (mth.tk 0 0 b).2.1)).1, (mth.tkN 9 (b.drop (mth.tk 0 0 b).2.1)).2.1, 0)
def pList (b : List Nat) : List Int × List Nat × Int := mth.tkL b 400
abbrev Parts := List (List Int) × List (List Int) × List Int
/-- what is left to be read, behind what was read -/
def pNums (os ls : List (List Int)) (r : List Int × List Nat × Int) : Parts × Int :=
  if r.2.2 ≠ 0 then (([], [], []), r.2.2) else if r.2.1 ≠ [] then (([], [], []), 3) else ((os, ls, r.1), 0)
def pLists (os : List (List Int)) (r : List (List Int) × List Nat × Int) : Parts × Int :=
  if r.2.2 ≠ 0 then (([], [], []), r.2.2) else pNums os r.1 (mth.tkN 25 r.2.1)
def pObjs (r : List (List Int) × List Nat × Int) : Parts × Int :=
  if r.2.2 ≠ 0 then (([], [], []), r.2.2) else pLists r.1 (pMany pList 11 r.2.1)
def pState (b : List Nat) : Parts × Int :=
  if (mth.tk 0 0 b).2.2 ≠ 0 then (([], [], []), (mth.tk 0 0 b).2.2)
  else if (mth.tk 0 0 b).1 < 0 then (([], [], []), 1)
  else if 400 < (mth.tk 0 0 b).1 then (([], [], []), 5)
  else pObjs (pMany pObj (mth.tk 0 0 b).1.toNat (b.drop (mth.tk 0 0 b).2.1))
/-- a state that holds these parts -/
structure StOf (S : List Dat) (p : Parts) : Prop where
  objs : argL S 0 = p.1.map intsD
  lists : ∀ z, z < 11 → argL S (z + 1) = i64R (p.2.1.getD z [])
  nums : ∀ i, i < 25 → argI S (12 + i) = p.2.2.getD i 0
def ZeroS (S : List Dat) : Prop := (∀ i, i < 12 → argL S i = []) ∧ ∀ i, i < 25 → argI S (12 + i) = 0
/-- what a reader of bytes answers -/
def Parsed (b : List Nat) (rs : List Dat) (e : Int) : Prop :=
  ((pState b).2 ≠ 0 ∧ e = (pState b).2 ∧ ZeroS rs) ∨
  ((pState b).2 = 0 ∧ ∃ S, StOf S (pState b).1 ∧ errP S e ∧ ((e ≠ 0 ∧ ZeroS rs) ∨ (e = 0 ∧ StOf rs (pState b).1)))
theorem nums_i64 (l : List Int) : nums (i64R l) = l := by
  induction l with
  | nil => rfl
  | cons a l ih => show a :: nums (i64R l) = _; rw [ih]
theorem errP_congr {S T : List Dat} (h0 : argL S 0 = argL T 0) (hl : ∀ z, z < 11 → lst S z = lst T z) (hI : ∀ i, i < 25 → argI S (12 + i) = argI T (12 + i)) {n : Int} (h : errP S n) : errP T n := by
  have h1 : ids S 11 = ids T 11 := by
    simp only [ids, idz, hl 0 (by omega), hl 1 (by omega), hl 2 (by omega), hl 3 (by omega), hl 4 (by omega), hl 5 (by omega), hl 6 (by omega), hl 7 (by omega), hl 8 (by omega), hl 9 (by omega), hl 10 (by omega)]
  have hp : ∀ i, i < 18 → pl S i = pl T i := fun i hi => hI i (by omega)
  have hg : ∀ i, i < 7 → gm S i = gm T i := fun i hi => by
    have := hI (18 + i) (by omega)
    rwa [show 12 + (18 + i) = 30 + i by omega] at this
  have hpl : plP S ↔ plP T := by
    unfold plP
    constructor
    · intro hh i hi
      have := hh i hi
      rw [hp _ (by omega), hp _ (by omega), hp _ (by omega)] at this
      exact ⟨this.1, this.2.1, this.2.2.1, fun k k1 k2 => by rw [← hp _ (by omega)]; exact this.2.2.2 k k1 k2⟩
    · intro hh i hi
      have := hh i hi
      rw [← hp _ (by omega), ← hp _ (by omega), ← hp _ (by omega)] at this
      exact ⟨this.1, this.2.1, this.2.2.1, fun k k1 k2 => by rw [hp _ (by omega)]; exact this.2.2.2 k k1 k2⟩
  have hgm : gmP S ↔ gmP T := by
    unfold gmP
    rw [hg 0 (by omega), hg 1 (by omega), hg 2 (by omega), hg 3 (by omega), hg 4 (by omega), hg 5 (by omega), hg 6 (by omega)]
  have hr : rangesP S ↔ rangesP T := by unfold rangesP; rw [h0, hpl, hgm]
  have hz : zonesP S ↔ zonesP T := by unfold zonesP placed obj; rw [h0, h1]
  unfold errP at h ⊢
  rw [h0, hr, hz] at h
  exact h
theorem lst_nums (S : List Dat) (z : Nat) : lst S z = nums (argL S (z + 1)) := rfl
theorem StOf.lst {S : List Dat} {p : Parts} (h : StOf S p) {z : Nat} (hz : z < 11) : lst S z = p.2.1.getD z [] := by
  rw [lst_nums]
  rw [h.lists z hz, nums_i64]
theorem StOf.err {S T : List Dat} {p : Parts} (h : StOf S p) (k : StOf T p) {n : Int} (hn : errP S n) : errP T n :=
  errP_congr (h.objs.trans k.objs.symm) (fun z hz => (h.lst hz).trans (k.lst hz).symm) (fun i hi => (h.nums i hi).trans (k.nums i hi).symm) hn
/-- two readers of the same bytes say the same -/
theorem Parsed.same {b : List Nat} {rs ss : List Dat} {e f : Int} (h : Parsed b rs e) (k : Parsed b ss f) : e = f ∧ argL rs 0 = argL ss 0 ∧ (∀ z, z < 11 → argL rs (z + 1) = argL ss (z + 1)) ∧ ∀ i, i < 25 → argI rs (12 + i) = argI ss (12 + i) := by
  have zz : ZeroS rs → ZeroS ss → argL rs 0 = argL ss 0 ∧ (∀ z, z < 11 → argL rs (z + 1) = argL ss (z + 1)) ∧ ∀ i, i < 25 → argI rs (12 + i) = argI ss (12 + i) := fun h k =>
    ⟨(h.1 0 (by omega)).trans (k.1 0 (by omega)).symm, fun z hz => (h.1 _ (by omega)).trans (k.1 _ (by omega)).symm, fun i hi => (h.2 i hi).trans (k.2 i hi).symm⟩
  rcases h with ⟨h1, rfl, h3⟩ | ⟨h1, S, h2, h3, h4⟩
  · rcases k with ⟨_, rfl, k3⟩ | ⟨k1, _⟩
    · exact ⟨rfl, zz h3 k3⟩
    · exact absurd k1 h1
  · rcases k with ⟨k1, _⟩ | ⟨k1, T, k2, k3, k4⟩
    · exact absurd h1 k1
    · have hef := errP_inj (h2.err k2 h3) k3
      subst hef
      refine ⟨rfl, ?_⟩
      rcases h4 with ⟨n1, h5⟩ | ⟨n1, h5⟩
      · rcases k4 with ⟨_, k5⟩ | ⟨n2, _⟩
        · exact zz h5 k5
        · exact absurd n2 n1
      · rcases k4 with ⟨n2, _⟩ | ⟨_, k5⟩
        · exact absurd n1 n2
        · exact ⟨h5.objs.trans k5.objs.symm, fun z hz => (h5.lists z hz).trans (k5.lists z hz).symm, fun i hi => (h5.nums i hi).trans (k5.nums i hi).symm⟩
end Go.Proofs.YtnhahmgbgocdgaaDoor
end

section
namespace Go.Proofs.YtnhahmgbgocdgaaDoor
open Go.RowKit
set_option linter.unusedVariables false
set_option linter.unusedSimpArgs false

/-- where a reader stands: an error, that is the answer; or what is left, of which G -/
def Rst (l : List Nat) (d : Dat) (e : Int) (G : List Nat → Prop) : Prop := ∃ r, d.xs = u8R r ∧ bytes r ∧ r.length ≤ l.length ∧ ((e ≠ 0 ∧ (pState l).2 = e) ∨ (e = 0 ∧ G r))
theorem Rst.bad {l : List Nat} {d : Dat} {e : Int} {G G' : List Nat → Prop} (h : Rst l d e G) (he : e ≠ 0) : Rst l d e G' := by
  obtain ⟨r, h1, h2, h3, h4⟩ := h
  exact ⟨r, h1, h2, h3, .inl ⟨he, by rcases h4 with h4 | h4; exact h4.2; exact absurd h4.1 he⟩⟩
theorem Rst.good {l : List Nat} {d : Dat} {e : Int} {G : List Nat → Prop} (h : Rst l d e G) (he : e = 0) : ∃ r, d.xs = u8R r ∧ bytes r ∧ r.length ≤ l.length ∧ G r := by
  obtain ⟨r, h1, h2, h3, h4⟩ := h
  exact ⟨r, h1, h2, h3, by rcases h4 with h4 | h4; exact absurd he h4.1; exact h4.2⟩
theorem Rst.mono {l : List Nat} {d : Dat} {e : Int} {G G' : List Nat → Prop} (h : Rst l d e G) (hg : ∀ r, e = 0 → G r → G' r) : Rst l d e G' := by
  obtain ⟨r, h1, h2, h3, h4⟩ := h
  exact ⟨r, h1, h2, h3, h4.imp id fun ⟨a, b⟩ => ⟨a, hg r a b⟩⟩
/-- a number is taken -/
theorem Rst.take {l : List Nat} {d : Dat} {G : List Nat → Prop} {G' : Int → List Nat → Prop} (h : Rst l d 0 G)
    (hb : ∀ r, G r → (mth.tk 0 0 r).2.2 ≠ 0 → (pState l).2 = (mth.tk 0 0 r).2.2) (hg : ∀ r, bytes r → G r → (mth.tk 0 0 r).2.2 = 0 → G' (mth.tk 0 0 r).1 (r.drop (mth.tk 0 0 r).2.1)) :
    ∃ r, d.xs = u8R r ∧ bytes r ∧ r.length ≤ l.length ∧ ∀ d' : Dat, d'.xs = (if (mth.tk 0 0 r).2.2 = 0 then u8R (r.drop (mth.tk 0 0 r).2.1) else []) → Rst l d' (mth.tk 0 0 r).2.2 (G' (mth.tk 0 0 r).1) := by
  obtain ⟨r, h1, h2, h3, h4⟩ := h.good rfl
  refine ⟨r, h1, h2, h3, fun d' hd' => ?_⟩
  by_cases h0 : (mth.tk 0 0 r).2.2 = 0
  · rw [if_pos h0] at hd'
    exact ⟨_, hd', bytes_drop h2 _, by rw [List.length_drop]; omega, .inr ⟨h0, hg r h2 h4 h0⟩⟩
  · rw [if_neg h0] at hd'
    exact ⟨[], hd', fun c hc => (by cases hc), Nat.zero_le _, .inl ⟨h0, hb r h4 h0⟩⟩
theorem take_set {α : Type} : ∀ {cs : List α} {t : Nat} (v : α), t < cs.length → (cs.set t v).take (t + 1) = cs.take t ++ [v]
  | a :: cs, 0, v, _ => rfl
  | a :: cs, t + 1, v, h => by
    rw [List.set_cons_succ, List.take_succ_cons, take_set v (by simpa using h)]; rfl
/-- objects and lists that were read -/
def HeldI (O L : List (List Int)) (n : Nat) (os : Dat) (ls : List Dat) : Prop := os.xs = O.map intsD ∧ O.length ≤ 400 ∧ ∀ j, j < n → (ls.getD j (.bool false)).xs = i64R (L.getD j []) ∧ (L.getD j []).length ≤ 400
def NumG (l : List Nat) (t : Nat) (os : Dat) (ls : List Dat) (cs : List Int) (r : List Nat) : Prop := ∃ O L, pState l = pNums O L (mth.pre (cs.take t) (mth.tkN (25 - t) r)) ∧ HeldI O L 11 os ls
/-- numbers of players and game: t of them were taken -/
def NumI (l : List Nat) (t : Nat) (d : Dat) (e : Int) (os : Dat) (ls : List Dat) (cs : List Int) : Prop := Rst l d e (NumG l t os ls cs)
theorem pNums_bad {O L : List (List Int)} {e : Int} (he : e ≠ 0) : (pNums O L ([], [], e)).2 = e := by
  rw [pNums, if_pos he]
theorem NumI.skip {l : List Nat} {t u : Nat} {d : Dat} {e : Int} {os : Dat} {ls : List Dat} {cs ds : List Int} (h : NumI l t d e os ls cs) (he : e ≠ 0) : NumI l u d e os ls ds := Rst.bad h he
theorem NumI.take {l : List Nat} {t : Nat} {d : Dat} {os : Dat} {ls : List Dat} {cs : List Int} (h : NumI l t d 0 os ls cs) (ht : t < 25) (hc : cs.length = 25) :
    ∃ r, d.xs = u8R r ∧ bytes r ∧ r.length ≤ l.length ∧ ∀ d' : Dat, d'.xs = (if (mth.tk 0 0 r).2.2 = 0 then u8R (r.drop (mth.tk 0 0 r).2.1) else []) → NumI l (t + 1) d' (mth.tk 0 0 r).2.2 os ls (cs.set t (mth.tk 0 0 r).1) := by
  have hs : 25 - t = (25 - (t + 1)) + 1 := by omega
  refine Rst.take (G' := fun v r => NumG l (t + 1) os ls (cs.set t v) r) h (fun r ⟨O, L, h1, h2⟩ h0 => ?_) (fun r _ ⟨O, L, h1, h2⟩ h0 => ⟨O, L, ?_, h2⟩)
  · rw [h1, hs, pre_bad' h0, pNums_bad h0]
  · rw [h1, hs, pre_step' h0, take_set _ (by omega)]
/-- the end -/
theorem NumI.fin {l : List Nat} {d : Dat} {os : Dat} {ls : List Dat} {cs : List Int} (h : NumI l 25 d 0 os ls cs) (hc : cs.length = 25) :
    ∃ (r : List Nat) (O L : List (List Int)), d.xs = u8R r ∧ HeldI O L 11 os ls ∧ ((r ≠ [] ∧ (pState l).2 = 3) ∨ (r = [] ∧ pState l = ((O, L, cs), 0))) := by
  obtain ⟨r, h1, h2, h3, O, L, h4, h5⟩ := Rst.good h rfl
  refine ⟨r, O, L, h1, h5, ?_⟩
  rw [show 25 - 25 = 0 from rfl, mth.pre_end, pNums, if_neg (by simp), List.take_of_length_le (by omega)] at h4
  by_cases hr : r = []
  · subst hr; exact .inr ⟨rfl, by rw [h4]; rfl⟩
  · exact .inl ⟨hr, by rw [h4, if_pos hr]⟩
def LstG (l : List Nat) (z : Nat) (os : Dat) (ls : List Dat) (r : List Nat) : Prop := ∃ O acc, pState l = pLists O (preA acc (pMany pList (11 - z) r)) ∧ acc.length = z ∧ HeldI O acc z os ls
/-- lists: z of them were taken -/
def LstI (l : List Nat) (z : Nat) (d : Dat) (e : Int) (os : Dat) (ls : List Dat) : Prop := Rst l d e (LstG l z os ls)
theorem tkL_small {b : List Nat} (hb : bytes b) (h : (pList b).2.2 = 0) : (pList b).1.length ≤ 400 := by
  have := mth.tkL_canon b 400 (pList b).1 (pList b).2.1 hb (by rw [← h]; rfl)
  omega
theorem tkL_bad {b : List Nat} (h : (pList b).2.2 ≠ 0) : (pList b).2.1 = [] := by
  unfold pList mth.tkL at h ⊢
  split
  · rename_i h0
    rw [if_pos h0] at h
    split
    · rfl
    · rename_i h1
      rw [if_neg h1] at h
      split
      · rfl
      · rename_i h2
        rw [if_neg h2] at h
        rw [mth.tkN_err _ _ h]
  · rfl
theorem tkL_drop {b : List Nat} (hb : bytes b) (h : (pList b).2.2 = 0) : bytes (pList b).2.1 ∧ (pList b).2.1.length ≤ b.length := by
  have := (mth.tkL_canon b 400 (pList b).1 (pList b).2.1 hb (by rw [← h]; rfl)).1
  constructor
  · intro c hc; exact hb c (by rw [← this]; exact List.mem_append_right _ hc)
  · have := congrArg List.length this
    rw [List.length_append] at this
    omega
theorem getD_set {α : Type} {ls : List α} {z : Nat} {v d : α} (hz : z < ls.length) : (ls.set z v).getD z d = v := by
  rw [List.getD_eq_getElem?_getD, List.getElem?_set_self hz]; rfl
theorem getD_set_ne {α : Type} {ls : List α} {z j : Nat} {v d : α} (hz : j ≠ z) : (ls.set z v).getD j d = ls.getD j d := by
  rw [List.getD_eq_getElem?_getD, List.getElem?_set_ne (Ne.symm hz), List.getD_eq_getElem?_getD]
theorem HeldI.more {O acc : List (List Int)} {z : Nat} {os : Dat} {ls : List Dat} (h : HeldI O acc z os ls) (ha : acc.length = z) (hz : z < ls.length) {v : List Int} {d : Dat} (hd : d.xs = i64R v) (hv : v.length ≤ 400) : HeldI O (acc ++ [v]) (z + 1) os (ls.set z d) := by
  refine ⟨h.1, h.2.1, fun j hj => ?_⟩
  by_cases hjz : j = z
  · subst hjz
    rw [getD_set hz, List.getD_eq_getElem?_getD, List.getElem?_append_right (by omega), ha, Nat.sub_self]
    exact ⟨hd, hv⟩
  · rw [getD_set_ne hjz, List.getD_eq_getElem?_getD (l := acc ++ [v]), List.getElem?_append_left (by omega), ← List.getD_eq_getElem?_getD]
    exact h.2.2 j (by omega)
theorem LstI.skip {l : List Nat} {z y : Nat} {d : Dat} {e : Int} {os : Dat} {ls ms : List Dat} (h : LstI l z d e os ls) (he : e ≠ 0) : LstI l y d e os ms := Rst.bad h he
theorem LstI.take {l : List Nat} {z : Nat} {d : Dat} {os : Dat} {ls : List Dat} (h : LstI l z d 0 os ls) (hz : z < 11) (hc : ls.length = 11) :
    ∃ r, d.xs = u8R r ∧ bytes r ∧ r.length ≤ l.length ∧ ∀ d1 d2 : Dat, d1.xs = i64R (mth.tkL r 400).1 → d2.xs = u8R (mth.tkL r 400).2.1 → LstI l (z + 1) d2 (mth.tkL r 400).2.2 os (ls.set z d1) := by
  have hs : 11 - z = (11 - (z + 1)) + 1 := by omega
  obtain ⟨r, h1, h2, h3, O, acc, h4, h5, h6⟩ := Rst.good h rfl
  rw [hs] at h4
  refine ⟨r, h1, h2, h3, fun d1 d2 hd1 hd2 => ?_⟩
  change d1.xs = i64R (pList r).1 at hd1
  change d2.xs = u8R (pList r).2.1 at hd2
  show LstI l (z + 1) d2 (pList r).2.2 os (ls.set z d1)
  by_cases h0 : (pList r).2.2 = 0
  · obtain ⟨b1, b2⟩ := tkL_drop h2 h0
    refine ⟨_, hd2, b1, by omega, .inr ⟨h0, O, acc ++ [(pList r).1], by rw [h4, preA_step h0], by rw [List.length_append, h5]; rfl, h6.more h5 (by omega) hd1 (tkL_small h2 h0)⟩⟩
  · refine ⟨_, hd2, by rw [tkL_bad h0]; exact fun c hc => (by cases hc), by rw [tkL_bad h0]; exact Nat.zero_le _, .inl ⟨h0, ?_⟩⟩
    rw [h4, preA_bad h0, pLists, if_pos h0]
theorem LstI.fin {l : List Nat} {d : Dat} {e : Int} {os : Dat} {ls : List Dat} (h : LstI l 11 d e os ls) (cs : List Int) : NumI l 0 d e os ls cs :=
  Rst.mono h fun r _ ⟨O, acc, h1, h2, h3⟩ => ⟨O, acc, by rw [h1, show 11 - 11 = 0 from rfl, preA_end, pLists, if_neg (by simp), List.take_zero, show 25 - 0 = 25 from rfl, ← mth.pre_start], h3⟩
def ObjG (l : List Nat) (N : Int) (k : Nat) (os : Dat) (r : List Nat) : Prop := 0 ≤ N ∧ N ≤ 400 ∧ (k : Int) ≤ N ∧ ∃ acc, pState l = pObjs (preA acc (pMany pObj (N.toNat - k) r)) ∧ acc.length = k ∧ os.xs = acc.map intsD
/-- objects: k of them were taken -/
def ObjI (l : List Nat) (N : Int) (k : Nat) (d : Dat) (e : Int) (os : Dat) : Prop := Rst l d e (ObjG l N k os)
theorem pObjs_bad {e : Int} (he : e ≠ 0) : (pObjs ([], [], e)).2 = e := by rw [pObjs, if_pos he]
theorem ObjI.start {l : List Nat} (hb : bytes l) {d os : Dat} (hos : os.xs = []) (hd : d.xs = (if (mth.tk 0 0 l).2.2 = 0 then u8R (l.drop (mth.tk 0 0 l).2.1) else [])) :
    ObjI l (mth.tk 0 0 l).1 0 d (if (mth.tk 0 0 l).2.2 ≠ 0 then (mth.tk 0 0 l).2.2 else if (mth.tk 0 0 l).1 < 0 then 1 else if 400 < (mth.tk 0 0 l).1 then 5 else 0) os := by
  by_cases h0 : (mth.tk 0 0 l).2.2 = 0
  · rw [if_pos h0] at hd
    rw [if_neg (by simpa using h0)]
    have hp : pState l = (if (mth.tk 0 0 l).1 < 0 then (([], [], []), 1) else if 400 < (mth.tk 0 0 l).1 then (([], [], []), 5) else pObjs (pMany pObj (mth.tk 0 0 l).1.toNat (l.drop (mth.tk 0 0 l).2.1))) := by rw [pState, if_neg (by simpa using h0)]
    refine ⟨_, hd, bytes_drop hb _, by rw [List.length_drop]; omega, ?_⟩
    by_cases h1 : (mth.tk 0 0 l).1 < 0
    · rw [if_pos h1] at hp ⊢
      exact .inl ⟨by decide, by rw [hp]⟩
    rw [if_neg h1] at hp ⊢
    by_cases h2 : 400 < (mth.tk 0 0 l).1
    · rw [if_pos h2] at hp ⊢
      exact .inl ⟨by decide, by rw [hp]⟩
    rw [if_neg h2] at hp ⊢
    exact .inr ⟨rfl, by omega, by omega, by omega, [], by rw [hp, Nat.sub_zero, ← preA_nil], rfl, by rw [hos]; rfl⟩
  · rw [if_neg h0] at hd
    rw [if_pos h0]
    exact ⟨[], hd, fun c hc => (by cases hc), Nat.zero_le _, .inl ⟨h0, by rw [pState, if_pos h0]⟩⟩
theorem ObjI.skip {l : List Nat} {N : Int} {k j : Nat} {d : Dat} {e : Int} {os ot : Dat} (h : ObjI l N k d e os) (he : e ≠ 0) : ObjI l N j d e ot := Rst.bad h he
theorem ObjI.fin {l : List Nat} {N : Int} {k : Nat} {d : Dat} {e : Int} {os : Dat} (h : ObjI l N k d e os) (hk : e = 0 → N ≤ (k : Int)) (ls : List Dat) : LstI l 0 d e os ls :=
  Rst.mono h fun r he ⟨h1, h2, h3, acc, h4, h5, h6⟩ => ⟨acc, [], by
    have := hk he
    rw [h4, show N.toNat - k = 0 by omega, preA_end, pObjs, if_neg (by simp), show 11 - 0 = 11 from rfl, ← preA_nil], rfl, h6, by omega, fun j hj => absurd hj (by omega)⟩
/-- an object's numbers: i of nine were taken, behind the head H -/
def OneG (l : List Nat) (N : Int) (k : Nat) (os : Dat) (H : Int) (i : Nat) (cs : List Int) (r : List Nat) : Prop := 0 ≤ H ∧ H ≤ 4294967295 ∧ (k : Int) < N ∧ ∃ r0, bytes r0 ∧ ObjG l N k os r0 ∧ (mth.tk 0 0 r0).2.2 = 0 ∧ (mth.tk 0 0 r0).1 = H ∧ mth.tkN 9 (r0.drop (mth.tk 0 0 r0).2.1) = mth.pre (cs.take i) (mth.tkN (9 - i) r)
def OneI (l : List Nat) (N : Int) (k : Nat) (os : Dat) (H : Int) (i : Nat) (d : Dat) (e : Int) (cs : List Int) : Prop := Rst l d e (OneG l N k os H i cs)
theorem ObjG.step {l : List Nat} {N : Int} {k : Nat} {os : Dat} {r : List Nat} (h : ObjG l N k os r) (hk : (k : Int) < N) : ∃ acc, pState l = pObjs (preA acc (pMany pObj ((N.toNat - (k + 1)) + 1) r)) ∧ acc.length = k ∧ os.xs = acc.map intsD := by
  obtain ⟨h1, h2, h3, acc, h4, h5⟩ := h
  exact ⟨acc, by rw [h4]; congr 3; omega, h5⟩
theorem ObjG.badO {l : List Nat} {N : Int} {k : Nat} {os : Dat} {r : List Nat} (h : ObjG l N k os r) (hk : (k : Int) < N) (hb : (pObj r).2.2 ≠ 0) : (pState l).2 = (pObj r).2.2 := by
  obtain ⟨acc, h1, _⟩ := h.step hk
  rw [h1, preA_bad hb, pObjs_bad hb]
theorem ObjI.head {l : List Nat} {N : Int} {k : Nat} {d os : Dat} (h : ObjI l N k d 0 os) (hk : (k : Int) < N) (cs : List Int) :
    ∃ r, d.xs = u8R r ∧ bytes r ∧ r.length ≤ l.length ∧ ∀ d' : Dat, d'.xs = (if (mth.tk 0 0 r).2.2 = 0 then u8R (r.drop (mth.tk 0 0 r).2.1) else []) →
      OneI l N k os (mth.tk 0 0 r).1 0 d' (if (mth.tk 0 0 r).2.2 ≠ 0 then (mth.tk 0 0 r).2.2 else if (mth.tk 0 0 r).1 < 0 ∨ 4294967295 < (mth.tk 0 0 r).1 then 1 else 0) cs := by
  obtain ⟨r, h1, h2, h3, h4⟩ := Rst.good h rfl
  refine ⟨r, h1, h2, h3, fun d' hd' => ?_⟩
  by_cases h0 : (mth.tk 0 0 r).2.2 = 0
  · rw [if_pos h0] at hd'
    rw [if_neg (by simpa using h0)]
    refine ⟨_, hd', bytes_drop h2 _, by rw [List.length_drop]; omega, ?_⟩
    by_cases hr : (mth.tk 0 0 r).1 < 0 ∨ 4294967295 < (mth.tk 0 0 r).1
    · rw [if_pos hr]
      have hp : (pObj r).2.2 = 1 := by rw [pObj, if_neg (by simpa using h0), if_pos hr]
      exact .inl ⟨by decide, by rw [h4.badO hk (by rw [hp]; decide), hp]⟩
    · rw [if_neg hr]
      exact .inr ⟨rfl, by omega, by omega, hk, r, h2, h4, h0, rfl, by rw [List.take_zero, show 9 - 0 = 9 from rfl, ← mth.pre_start]⟩
  · rw [if_neg h0] at hd'
    rw [if_pos h0]
    have hp : (pObj r).2.2 = (mth.tk 0 0 r).2.2 := by rw [pObj, if_pos h0]
    exact ⟨[], hd', fun c hc => (by cases hc), Nat.zero_le _, .inl ⟨h0, by rw [h4.badO hk (by rw [hp]; exact h0), hp]⟩⟩
theorem OneI.skip {l : List Nat} {N H : Int} {k i j : Nat} {d os : Dat} {e : Int} {cs bs : List Int} (h : OneI l N k os H i d e cs) (he : e ≠ 0) : OneI l N k os H j d e bs := Rst.bad h he
theorem OneI.take {l : List Nat} {N H : Int} {k i : Nat} {d os : Dat} {cs : List Int} (h : OneI l N k os H i d 0 cs) (hi : i < 9) (hc : cs.length = 9) :
    ∃ r, d.xs = u8R r ∧ bytes r ∧ r.length ≤ l.length ∧ ∀ d' : Dat, d'.xs = (if (mth.tk 0 0 r).2.2 = 0 then u8R (r.drop (mth.tk 0 0 r).2.1) else []) → OneI l N k os H (i + 1) d' (mth.tk 0 0 r).2.2 (cs.set i (mth.tk 0 0 r).1) := by
  have hs : 9 - i = (9 - (i + 1)) + 1 := by omega
  refine Rst.take (G' := fun v r => OneG l N k os H (i + 1) (cs.set i v) r) h (fun r ⟨g1, g2, g3, r0, g4, g5, g6, g7, g8⟩ h0 => ?_) (fun r _ ⟨g1, g2, g3, r0, g4, g5, g6, g7, g8⟩ h0 => ⟨g1, g2, g3, r0, g4, g5, g6, g7, ?_⟩)
  · rw [hs, pre_bad' h0] at g8
    have hp : (pObj r0).2.2 = (mth.tk 0 0 r).2.2 := by
      rw [pObj, if_neg (by simpa using g6), if_neg (by omega), g8, if_pos h0]
    rw [g5.badO g3 (by rw [hp]; exact h0), hp]
  · rw [g8, hs, pre_step' h0, take_set _ (by omega)]
/-- an object is right, or not -/
theorem OneI.fin {l : List Nat} {N H : Int} {k : Nat} {d os : Dat} {cs : List Int} (h : OneI l N k os H 9 d 0 cs) (hc : cs.length = 9) :
    0 ≤ H ∧ H ≤ 4294967295 ∧ (2097152 ≤ H → ∀ ot : Dat, ObjI l N (k + 1) d 2 ot) ∧ (H < 2097152 → ∀ ot : Dat, ot.xs = os.xs ++ [intsD (objOf H cs)] → ObjI l N (k + 1) d 0 ot) := by
  obtain ⟨r, h1, h2, h3, g1, g2, g3, r0, g4, g5, g6, g7, g8⟩ := Rst.good h rfl
  rw [show 9 - 9 = 0 from rfl, mth.pre_end, List.take_of_length_le (by omega)] at g8
  have hp : pObj r0 = if 2097152 ≤ H then ([], [], 2) else (objOf H cs, r, 0) := by
    rw [pObj, if_neg (by simpa using g6), if_neg (by omega), g8, if_neg (by simp), g7]
  refine ⟨g1, g2, fun hH ot => ?_, fun hH ot hot => ?_⟩
  · rw [if_pos hH] at hp
    exact ⟨r, h1, h2, h3, .inl ⟨by decide, by rw [g5.badO g3 (by rw [hp]; decide), hp]⟩⟩
  · rw [if_neg (by omega)] at hp
    obtain ⟨acc, e1, e2, e3⟩ := g5.step g3
    rw [preA_step (by rw [hp]), hp] at e1
    exact ⟨r, h1, h2, h3, .inr ⟨rfl, g5.1, g5.2.1, by omega, acc ++ [objOf H cs], e1, by rw [List.length_append, e2]; rfl, by rw [hot, e3, List.map_append]; rfl⟩⟩
end Go.Proofs.YtnhahmgbgocdgaaDoor
end
