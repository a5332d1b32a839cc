import Derived.Test.YtnhahmgbgocdgaaDoorM11
import Derived.Test.YtnhahmgbgocdgaaDoorM10
import Derived.Test.YtnhahmgbgocdgaaDoorM0
import Derived.WalkSpells
import Derived.Lib.SliceRun
import Derived.Lib.Zigzag
import Derived.OwnWalk
import Derived.Test.YtnhahmgbgocdgaaDoorM7

set_option linter.unusedVariables false
set_option linter.unusedSimpArgs false

section
namespace Go.Proofs.YtnhahmgbgocdgaaDoor
open Go.RowKit
set_option linter.unusedVariables false
set_option linter.unusedSimpArgs false

def headN (o : List Dat) : Int := rowI o 1 + 2 * rowI o 2 + 4 * rowI o 3 + 64 * rowI o 4 + 128 * rowI o 5 + 256 * rowI o 11 + 512 * rowI o 13 + 2048 * rowI o 17 + 8192 * rowI o 10
def restN (o : List Dat) : List Int := [rowI o 0, rowI o 6, rowI o 7, rowI o 8, rowI o 9, rowI o 12, rowI o 14, rowI o 15, rowI o 16]
def objN (o : List Dat) : List Int := headN o :: restN o
def listN (S : List Dat) (z : Nat) : List Int := ((lst S z).length : Int) :: lst S z
def listsN (S : List Dat) : List Int := (List.range 11).flatMap (listN S)
def numN (S : List Dat) : List Int := (List.range 25).map fun i => argI S (12 + i)
def numsOf (S : List Dat) : List Int := ((argL S 0).length : Int) :: ((argL S 0).flatMap objN ++ (listsN S ++ numN S))
theorem inB_iff {n l m : Int} (h : inB n l m = true) : l ≤ n ∧ n ≤ m := by
  unfold inB at h
  simp only [Bool.and_eq_true, decide_eq_true_eq] at h
  exact h
theorem flatMap_eq {α β : Type} {f g : α → List β} : ∀ {l : List α}, (∀ x ∈ l, f x = g x) → l.flatMap f = l.flatMap g
  | [], _ => rfl
  | x :: l, h => by
    rw [List.flatMap_cons, List.flatMap_cons, h x (List.mem_cons_self ..), flatMap_eq fun y hy => h y (List.mem_cons_of_mem _ hy)]
theorem objs_inj : ∀ (l m : List (List Dat)) (r s : List Int), l.length = m.length → l.flatMap objN ++ r = m.flatMap objN ++ s → (∀ k, k < l.length → objN (l.getD k []) = objN (m.getD k [])) ∧ r = s
  | [], [], r, s, _, h => ⟨fun k hk => absurd hk (by simp), h⟩
  | a :: l, b :: m, r, s, hl, h => by
    rw [List.flatMap_cons, List.flatMap_cons, List.append_assoc, List.append_assoc] at h
    obtain ⟨h1, h2⟩ := List.append_inj h rfl
    obtain ⟨h3, h4⟩ := objs_inj l m r s (by simpa using hl) h2
    refine ⟨fun k hk => ?_, h4⟩
    cases k with
    | zero => exact h1
    | succ k => exact h3 k (by simpa using hk)
  | [], b :: m, _, _, hl, _ => by simp at hl
  | a :: l, [], _, _, hl, _ => by simp at hl
theorem lists_inj {S T : List Dat} : ∀ (zs : List Nat) (r s : List Int), zs.flatMap (listN S) ++ r = zs.flatMap (listN T) ++ s → (∀ z ∈ zs, lst S z = lst T z) ∧ r = s
  | [], r, s, h => ⟨fun z hz => absurd hz (by simp), h⟩
  | z :: zs, r, s, h => by
    rw [List.flatMap_cons, List.flatMap_cons, List.append_assoc, List.append_assoc] at h
    unfold listN at h
    rw [List.cons_append, List.cons_append, List.cons.injEq] at h
    obtain ⟨h1, h2⟩ := h
    obtain ⟨h3, h4⟩ := List.append_inj h2 (by omega)
    obtain ⟨h5, h6⟩ := lists_inj zs r s h4
    refine ⟨fun y hy => ?_, h6⟩
    rcases List.mem_cons.1 hy with rfl | hy
    · exact h3
    · exact h5 y hy
theorem head_inj {o p : List Dat} {m n : Int} (ho : objB o m = true) (hp : objB p n = true) (h : objN o = objN p) : ∀ c, c < 18 → rowI o c = rowI p c := by
  have a := fun f hf => inB_iff ((objB_iff o m).1 ho f hf)
  have b := fun f hf => inB_iff ((objB_iff p n).1 hp f hf)
  have g1 : (0 : Int) ≤ rowI o 1 ∧ rowI o 1 ≤ 1 := a 1 (by omega)
  have g2 : (0 : Int) ≤ rowI o 2 ∧ rowI o 2 ≤ 1 := a 2 (by omega)
  have g3 : (0 : Int) ≤ rowI o 3 ∧ rowI o 3 ≤ 10 := a 3 (by omega)
  have g4 : (0 : Int) ≤ rowI o 4 ∧ rowI o 4 ≤ 1 := a 4 (by omega)
  have g5 : (0 : Int) ≤ rowI o 5 ∧ rowI o 5 ≤ 1 := a 5 (by omega)
  have g11 : (0 : Int) ≤ rowI o 11 ∧ rowI o 11 ≤ 1 := a 11 (by omega)
  have g13 : (0 : Int) ≤ rowI o 13 ∧ rowI o 13 ≤ 2 := a 13 (by omega)
  have g17 : (0 : Int) ≤ rowI o 17 ∧ rowI o 17 ≤ 3 := a 17 (by omega)
  have g10 : (0 : Int) ≤ rowI o 10 ∧ rowI o 10 ≤ 255 := a 10 (by omega)
  have k1 : (0 : Int) ≤ rowI p 1 ∧ rowI p 1 ≤ 1 := b 1 (by omega)
  have k2 : (0 : Int) ≤ rowI p 2 ∧ rowI p 2 ≤ 1 := b 2 (by omega)
  have k3 : (0 : Int) ≤ rowI p 3 ∧ rowI p 3 ≤ 10 := b 3 (by omega)
  have k4 : (0 : Int) ≤ rowI p 4 ∧ rowI p 4 ≤ 1 := b 4 (by omega)
  have k5 : (0 : Int) ≤ rowI p 5 ∧ rowI p 5 ≤ 1 := b 5 (by omega)
  have k11 : (0 : Int) ≤ rowI p 11 ∧ rowI p 11 ≤ 1 := b 11 (by omega)
  have k13 : (0 : Int) ≤ rowI p 13 ∧ rowI p 13 ≤ 2 := b 13 (by omega)
  have k17 : (0 : Int) ≤ rowI p 17 ∧ rowI p 17 ≤ 3 := b 17 (by omega)
  have k10 : (0 : Int) ≤ rowI p 10 ∧ rowI p 10 ≤ 255 := b 10 (by omega)
  clear a b
  simp only [objN, restN, headN, List.cons.injEq, and_true] at h
  obtain ⟨h0, e0, e6, e7, e8, e9, e12, e14, e15, e16⟩ := h
  intro c hc
  match c, hc with
  | 0, _ => exact e0
  | 1, _ => omega
  | 2, _ => omega
  | 3, _ => omega
  | 4, _ => omega
  | 5, _ => omega
  | 6, _ => exact e6
  | 7, _ => exact e7
  | 8, _ => exact e8
  | 9, _ => exact e9
  | 10, _ => omega
  | 11, _ => omega
  | 12, _ => exact e12
  | 13, _ => omega
  | 14, _ => exact e14
  | 15, _ => exact e15
  | 16, _ => exact e16
  | 17, _ => omega
  | c + 18, h => exact absurd h (by omega)
theorem objN_of {o p : List Dat} (h : ∀ c, c < 18 → rowI o c = rowI p c) : objN o = objN p := by
  unfold objN restN headN
  rw [h 0 (by omega), h 1 (by omega), h 2 (by omega), h 3 (by omega), h 4 (by omega), h 5 (by omega), h 6 (by omega), h 7 (by omega), h 8 (by omega), h 9 (by omega), h 10 (by omega), h 11 (by omega), h 12 (by omega), h 13 (by omega), h 14 (by omega), h 15 (by omega), h 16 (by omega), h 17 (by omega)]
theorem flat_of : ∀ (l m : List (List Dat)), l.length = m.length → (∀ k, k < l.length → objN (l.getD k []) = objN (m.getD k [])) → l.flatMap objN = m.flatMap objN
  | [], [], _, _ => rfl
  | a :: l, b :: m, hl, h => by
    rw [List.flatMap_cons, List.flatMap_cons, flat_of l m (by simpa using hl) fun k hk => h (k + 1) (by simpa using hk)]
    exact congrArg (· ++ _) (h 0 (by simp))
  | [], b :: m, hl, _ => by simp at hl
  | a :: l, [], hl, _ => by simp at hl
/-- two right states have the same numbers just where they are the same -/
theorem nums_same {S T : List Dat} (hS : rangesP S) (hT : rangesP T) : numsOf S = numsOf T ↔ (argL S 0).length = (argL T 0).length ∧ (∀ i, i < 25 → argI S (12 + i) = argI T (12 + i)) ∧ (∀ k, k < (argL S 0).length → ∀ c, c < 18 → rowI ((argL S 0).getD k []) c = rowI ((argL T 0).getD k []) c) ∧ ∀ z, z < 11 → lst S z = lst T z := by
  constructor
  · intro h
    unfold numsOf at h
    rw [List.cons.injEq] at h
    obtain ⟨h0, h1⟩ := h
    have h0 : (argL S 0).length = (argL T 0).length := by omega
    obtain ⟨h2, h3⟩ := objs_inj _ _ _ _ h0 h1
    obtain ⟨h4, h5⟩ := lists_inj _ _ _ h3
    refine ⟨h0, fun i hi => ?_, fun k hk => ?_, fun z hz => h4 z (List.mem_range.2 hz)⟩
    · exact List.map_inj_left.1 h5 i (List.mem_range.2 hi)
    · exact head_inj (hS.1 _ (getD_memL hk)) (hT.1 _ (getD_memL (by omega))) (h2 k hk)
  · rintro ⟨h0, h1, h2, h3⟩
    unfold numsOf listsN numN
    rw [h0, flat_of _ _ h0 fun k hk => objN_of (h2 k hk)]
    congr 2
    rw [show (List.range 11).flatMap (listN S) = (List.range 11).flatMap (listN T) from flatMap_eq fun z hz => by unfold listN; rw [h3 z (List.mem_range.1 hz)]]
    congr 1
    exact List.map_congr_left fun i hi => h1 i (List.mem_range.1 hi)
theorem encAll_inj : ∀ {l m : List Int}, (∀ n ∈ l, -9223372036854775808 ≤ n ∧ n ≤ 9223372036854775807) → (∀ n ∈ m, -9223372036854775808 ≤ n ∧ n ≤ 9223372036854775807) → l.flatMap mth.encI = m.flatMap mth.encI → l = m
  | [], [], _, _, _ => rfl
  | a :: l, b :: m, hl, hm, h => by
    rw [List.flatMap_cons, List.flatMap_cons] at h
    have e1 := mth.tk_enc a (l.flatMap mth.encI) (hl a (List.mem_cons_self ..)).1 (hl a (List.mem_cons_self ..)).2
    have e2 := mth.tk_enc b (m.flatMap mth.encI) (hm b (List.mem_cons_self ..)).1 (hm b (List.mem_cons_self ..)).2
    rw [h, e2] at e1
    obtain rfl : b = a := congrArg (·.1) e1
    rw [encAll_inj (fun n hn => hl n (List.mem_cons_of_mem _ hn)) (fun n hn => hm n (List.mem_cons_of_mem _ hn)) (List.append_cancel_left h)]
  | [], b :: m, _, hm, h => by
    have := mth.tk_enc b (m.flatMap mth.encI) (hm b (List.mem_cons_self ..)).1 (hm b (List.mem_cons_self ..)).2
    rw [List.flatMap_cons] at h
    rw [← h] at this
    have h2 : mth.tk 0 0 [] = (0, 0, 7) := rfl
    rw [show List.flatMap mth.encI [] = [] from rfl, h2] at this
    exact absurd (congrArg (·.2.2) this) (by simp)
  | a :: l, [], hl, _, h => by
    have := mth.tk_enc a (l.flatMap mth.encI) (hl a (List.mem_cons_self ..)).1 (hl a (List.mem_cons_self ..)).2
    rw [List.flatMap_cons] at h
    rw [h] at this
    have h2 : mth.tk 0 0 [] = (0, 0, 7) := rfl
    rw [show List.flatMap mth.encI [] = [] from rfl, h2] at this
    exact absurd (congrArg (·.2.2) this) (by simp)
end Go.Proofs.YtnhahmgbgocdgaaDoor
end

section
namespace Go.Proofs.YtnhahmgbgocdgaaDoor
open Go.RowKit
set_option linter.unusedVariables false
set_option linter.unusedSimpArgs false

theorem ofInt64 {m : Nat} (h : m < 18446744073709551616) : (BitVec.ofInt 64 (m : Int)).toNat = m := by
  rw [BitVec.ofInt_natCast, BitVec.toNat_ofNat]; omega
theorem u64_in {x : Int} (h0 : 0 ≤ x) (h1 : x < 18446744073709551616) : IntKind.u64.wrap x = x := IntWalk.u64_in _ (by omega)
theorem andNot_low {p w : Nat} (hw : w ≤ 63) (hp : p < 2 ^ w) : Ar.andNot.of .u64 (p : Int) ((2 ^ w - 1 : Nat) : Int) = 0 := by
  have h2 : 2 ^ w ≤ 2 ^ 63 := Nat.pow_le_pow_right (by omega) hw
  show IntKind.u64.wrap (((BitVec.ofInt 64 (p : Int) &&& ~~~ BitVec.ofInt 64 ((2 ^ w - 1 : Nat) : Int)).toNat : Nat) : Int) = 0
  have : (BitVec.ofInt 64 (p : Int) &&& ~~~ BitVec.ofInt 64 ((2 ^ w - 1 : Nat) : Int)).toNat = 0 := by
    refine Nat.eq_of_testBit_eq fun i => ?_
    rw [BitVec.testBit_toNat, BitVec.getLsbD_and, BitVec.getLsbD_not, ← BitVec.testBit_toNat, ← BitVec.testBit_toNat, ofInt64 (by omega), ofInt64 (by omega), Nat.zero_testBit, Nat.testBit_two_pow_sub_one]
    by_cases hi : i < w
    · simp [hi]
    · rw [Nat.testBit_lt_two_pow (Nat.lt_of_lt_of_le hp (Nat.pow_le_pow_right (by omega) (by omega)))]; simp
  rw [this]; rfl
theorem andNot_high {x at_ w : Nat} (hx : x < 2 ^ at_) (hw : at_ + w ≤ 63) : Ar.andNot.of .u64 (x : Int) (((2 ^ w - 1) * 2 ^ at_ : Nat) : Int) = x := by
  have h2 : 2 ^ (at_ + w) ≤ 2 ^ 63 := Nat.pow_le_pow_right (by omega) hw
  have h3 : (2 ^ w - 1) * 2 ^ at_ < 2 ^ (at_ + w) := by
    rw [Nat.pow_add, Nat.mul_comm (2 ^ at_)]
    exact Nat.mul_lt_mul_of_pos_right (by have := Nat.two_pow_pos w; omega) (Nat.two_pow_pos _)
  have h4 : 2 ^ at_ ≤ 2 ^ 63 := Nat.pow_le_pow_right (by omega) (by omega)
  show IntKind.u64.wrap (((BitVec.ofInt 64 (x : Int) &&& ~~~ BitVec.ofInt 64 (((2 ^ w - 1) * 2 ^ at_ : Nat) : Int)).toNat : Nat) : Int) = x
  have : (BitVec.ofInt 64 (x : Int) &&& ~~~ BitVec.ofInt 64 (((2 ^ w - 1) * 2 ^ at_ : Nat) : Int)).toNat = x := by
    refine Nat.eq_of_testBit_eq fun i => ?_
    rw [BitVec.testBit_toNat, BitVec.getLsbD_and, BitVec.getLsbD_not, ← BitVec.testBit_toNat, ← BitVec.testBit_toNat, ofInt64 (by omega), ofInt64 (by omega)]
    by_cases hi : i < at_
    · rw [Nat.testBit_mul_two_pow]
      simp [show ¬ at_ ≤ i by omega]
      intro _; omega
    · rw [Nat.testBit_lt_two_pow (Nat.lt_of_lt_of_le hx (Nat.pow_le_pow_right (by omega) (by omega)))]; simp
  rw [this, u64_in (by omega) (by omega)]
theorem or_add {x at_ p w : Nat} (hx : x < 2 ^ at_) (hp : p < 2 ^ w) (hw : at_ + w ≤ 63) : Ar.or.of .u64 (x : Int) ((p * 2 ^ at_ : Nat) : Int) = ((x + p * 2 ^ at_ : Nat) : Int) := by
  have h2 : 2 ^ (at_ + w) ≤ 2 ^ 63 := Nat.pow_le_pow_right (by omega) hw
  have h3 : x + p * 2 ^ at_ < 2 ^ (at_ + w) := by
    rw [Nat.pow_add, Nat.mul_comm (2 ^ at_)]
    have : (p + 1) * 2 ^ at_ ≤ 2 ^ w * 2 ^ at_ := Nat.mul_le_mul_right _ hp
    rw [Nat.add_mul] at this
    omega
  show IntKind.u64.wrap (((BitVec.ofInt 64 (x : Int) ||| BitVec.ofInt 64 ((p * 2 ^ at_ : Nat) : Int)).toNat : Nat) : Int) = _
  have : (BitVec.ofInt 64 (x : Int) ||| BitVec.ofInt 64 ((p * 2 ^ at_ : Nat) : Int)).toNat = x + p * 2 ^ at_ := by
    rw [BitVec.toNat_or, ofInt64 (by omega), ofInt64 (by omega), Nat.or_comm, ← Nat.shiftLeft_eq, ← Nat.shiftLeft_add_eq_or_of_lt hx, Nat.add_comm]
  rw [this, u64_in (by omega) (by omega)]
def k_bPut : Nat := 38
def sg_bPut : Sig := ⟨[(false, [.int .u64]), (false, [.int .i64]), (false, [.int .i64]), (false, [.int .u64])], [(false, [.int .u64]), (false, [.err])], false, false, true, false, false⟩
def tr_bPut : Tree := (.ite (.not (.and (.and (.cmp .ge (.var 1) (.int .i64 0)) (.cmp .lt (.var 1) (.int .i64 64))) (.and (.cmp .ge (.var 2) (.int .i64 1)) (.cmp .le (.var 2) (.ar .sub .i64 (.int .i64 64) (.var 1))))))
 (.ret [(.int .u64 0), (.ifc (.int .i64 1))])
 (.ob (.or (.cmp .ge (.var 2) (.int .i64 64)) (.cmp .ge (.conv .u64 (.ite (.cmp .gt (.int .i64 0) (.var 2)) (.int .i64 0) (.var 2))) (.int .u64 0)))
 (.ite (.cmp .ne (.ar .andNot .u64 (.var 3) (.ite (.cmp .ge (.var 2) (.int .i64 64)) (.int .u64 18446744073709551615) (.ar .sub .u64 (.ar .shl .u64 (.int .u64 1) (.conv .u64 (.ite (.cmp .gt (.int .i64 0) (.var 2)) (.int .i64 0) (.var 2)))) (.int .u64 1)))) (.int .u64 0))
  (.ret [(.int .u64 0), (.ifc (.int .i64 2))])
  (.ob (.or (.cmp .ge (.var 2) (.int .i64 64)) (.cmp .ge (.conv .u64 (.ite (.cmp .gt (.int .i64 0) (.var 2)) (.int .i64 0) (.var 2))) (.int .u64 0)))
  (.ob (.cmp .ge (.conv .u64 (.var 1)) (.int .u64 0))
  (.ob (.cmp .ge (.conv .u64 (.var 1)) (.int .u64 0))
  (.ret [(.ar .or .u64 (.ar .andNot .u64 (.var 0) (.ar .shl .u64 (.ite (.cmp .ge (.var 2) (.int .i64 64)) (.int .u64 18446744073709551615) (.ar .sub .u64 (.ar .shl .u64 (.int .u64 1) (.conv .u64 (.ite (.cmp .gt (.int .i64 0) (.var 2)) (.int .i64 0) (.var 2)))) (.int .u64 1))) (.conv .u64 (.var 1)))) (.ar .shl .u64 (.var 3) (.conv .u64 (.var 1)))), .nili])))))))
theorem wk_bPut : walk E0.cx (sgsN []) 0 38 sg_bPut = tr_bPut := by kernel_rfl
theorem bo_bPut : ∃ x, bodyOf E0.P 38 = some x := bo_of (by kernel_rfl)
def bPut_s : Spec := fun ds Q => ∃ x a w p : Nat, ds = [.int .u64 x, .int .i64 a, .int .i64 w, .int .u64 p] ∧ x < 2 ^ a ∧ p < 2 ^ w ∧ 1 ≤ w ∧ a + w ≤ 63 ∧ Q [.int .u64 (x + p * 2 ^ a : Nat), errV 0]
theorem bPut_h : Holds E0 k_bPut sg_bPut bPut_s := con_fn wf0 mix0 g0 [] rfl wk_bPut rfl (by
  intro Φ hΦ ds Q hs ⟨x, a, w, p, e, hx, hp, hw, haw, h⟩
  subst e
  clear hΦ hs
  have h64 : ∀ n, n ≤ 63 → 2 ^ n ≤ 2 ^ 63 := fun n hn => Nat.pow_le_pow_right (by omega) hn
  have p1 := h64 w (by omega)
  have p2 := h64 (a + w) (by omega)
  have m1 : min ((w : Int).toNat) 64 = w := by rw [Int.toNat_natCast]; omega
  have m2 : min ((a : Int).toNat) 64 = a := by rw [Int.toNat_natCast]; omega
  have q1 : p * 2 ^ a < 2 ^ (a + w) := by
    rw [Nat.pow_add, Nat.mul_comm (2 ^ a)]
    exact Nat.mul_lt_mul_of_pos_right hp (Nat.two_pow_pos _)
  have q2 : (2 ^ w - 1) * 2 ^ a < 2 ^ (a + w) := by
    rw [Nat.pow_add, Nat.mul_comm (2 ^ a)]
    exact Nat.mul_lt_mul_of_pos_right (by have := Nat.two_pow_pos w; omega) (Nat.two_pow_pos _)
  have wa : IntKind.u64.wrap (a : Int) = a := u64_in (by omega) (by omega)
  have ww : IntKind.u64.wrap (w : Int) = w := u64_in (by omega) (by omega)
  have below : Ar.sub.of .u64 (Ar.shl.of .u64 1 (w : Int)) 1 = ((2 ^ w - 1 : Nat) : Int) := by
    show IntKind.u64.wrap (IntKind.u64.wrap (1 * 2 ^ (min ((w : Int).toNat) 64)) - 1) = _
    have hp1 := Nat.two_pow_pos w
    have e1 : (1 * 2 ^ w : Int) = ((2 ^ w : Nat) : Int) := by rw [Int.one_mul]; exact (Int.natCast_pow 2 w).symm
    have e2 : IntKind.u64.wrap ((2 ^ w : Nat) : Int) = ((2 ^ w : Nat) : Int) := u64_in (by omega) (by omega)
    rw [m1, e1, e2, u64_in (by omega) (by omega)]
    omega
  have shl : ∀ n : Nat, n * 2 ^ a < 2 ^ 63 → Ar.shl.of .u64 (n : Int) (a : Int) = ((n * 2 ^ a : Nat) : Int) := fun n hn => by
    show IntKind.u64.wrap ((n : Int) * 2 ^ (min ((a : Int).toNat) 64)) = _
    have e1 : ((n : Int) * 2 ^ a : Int) = ((n * 2 ^ a : Nat) : Int) := by
      rw [Int.natCast_mul, Int.natCast_pow]; rfl
    rw [m2, e1, u64_in (by omega) (by omega)]
  unfold tr_bPut
  simp only [wp, den_int, den_bool, den_nili, den_ar, den_cmp, den_not, den_len, den_elem, den_isnil, den_errI, den_ifc, den_rep, den_push, den_app, den_emp, den_upd, row0_econs, row0_enil, den_and, den_beq, den_nil, toInt_int, toBool_bool, xs_rows, xs_list, dflt_int, dflt_bool, of_eq, of_ne, of_lt, of_le, of_gt, of_ge, of_add, of_sub, of_rem, List.map_cons, List.map_nil, Dat.bool.injEq, decide_eq_true_eq, decide_eq_false_iff_not, Bool.not_eq_true', Bool.not_eq_false', beq_iff_eq, bne_iff_ne, beq_eq_false_iff_ne, bne_eq_false_iff_eq, ne_eq, List.append_assoc, List.cons_append, List.nil_append, den_var0, den_ite, den_or, den_conv, List.getD_cons_zero, List.getD_cons_succ, toInt_int, toBool_bool]
  have below' : IntKind.u64.wrap (Ar.shl.of .u64 1 (w : Int) - 1) = ((2 ^ w - 1 : Nat) : Int) := below
  simp only [if_neg (show ¬ (64 : Int) ≤ (w : Int) by omega), if_neg (show ¬ (w : Int) < 0 by omega), toInt_int, ww, wa, below', andNot_low (show w ≤ 63 by omega) hp, shl (2 ^ w - 1) (by omega), shl p (by omega), andNot_high hx haw, or_add hx hp haw]
  rw [wrap64 (by omega) (by omega)]
  refine ⟨fun hx => ?_, fun _ => ⟨?_, fun hx => absurd trivial hx, fun _ => ⟨?_, by omega, by omega, h⟩⟩⟩
  · rw [decide_eq_true (by omega), decide_eq_true (by omega), decide_eq_true (by omega), decide_eq_true (by omega)] at hx
    cases hx
  · rw [decide_eq_true (show (0 : Int) ≤ (w : Int) by omega), Bool.or_true]
  · rw [decide_eq_true (show (0 : Int) ≤ (w : Int) by omega), Bool.or_true])
noncomputable def con_bPut : Con E0 := ⟨k_bPut, sg_bPut, bPut_s, rfl, bo_bPut, bPut_h⟩
theorem part_ok {n : Int} {w : Nat} (hw : w ≤ 63) (h0 : 0 ≤ n) (h1 : n < 2 ^ w) : (decide (n < 0) || (Ar.shr.of .u64 (IntKind.u64.wrap n) (w : Int) != 0)) = false := by
  have h2 : (2 : Int) ^ w ≤ 2 ^ 63 := by
    have := Nat.pow_le_pow_right (show 0 < 2 by omega) hw
    have e1 : ((2 ^ w : Nat) : Int) = (2 : Int) ^ w := Int.natCast_pow 2 w
    have e2 : ((2 ^ 63 : Nat) : Int) = (2 : Int) ^ 63 := Int.natCast_pow 2 63
    omega
  have m1 : min ((w : Int).toNat) 64 = w := by rw [Int.toNat_natCast]; omega
  have : Ar.shr.of .u64 (IntKind.u64.wrap n) (w : Int) = 0 := by
    show (IntKind.u64.wrap n).fdiv (2 ^ (min ((w : Int).toNat) 64)) = 0
    rw [m1, u64_in h0 (by omega), Int.fdiv_eq_ediv_of_nonneg _ (by omega), Int.ediv_eq_zero_of_lt h0 h1]
  rw [this, decide_eq_false (by omega)]; rfl
def k_tHead : Nat := 17
def sg_tHead : Sig := ⟨[(true, List.replicate 18 (.int .i64))], [(false, [.int .u32]), (false, [.err])], false, true, true, false, false⟩
def tr_tHead : Tree := (.ite (.or (.cmp .lt (.var 1) (.int .i64 0)) (.cmp .ne (.ar .shr .u64 (.conv .u64 (.var 1)) (.int .u64 1)) (.int .u64 0)))
 (.ret [(.int .u32 0), (.ifc (.int .i64 1))])
 (.call k_bPut [(.int .u64 0), (.int .i64 0), (.int .i64 1), (.conv .u64 (.var 1))] [(.int .u64), .err]
 (.ite (.not (.isnil (.var 19)))
  (.ret [(.int .u32 0), (.var 19)])
  (.ite (.or (.cmp .lt (.var 2) (.int .i64 0)) (.cmp .ne (.ar .shr .u64 (.conv .u64 (.var 2)) (.int .u64 1)) (.int .u64 0)))
   (.ret [(.int .u32 0), (.ifc (.int .i64 1))])
   (.call k_bPut [(.var 18), (.int .i64 1), (.int .i64 1), (.conv .u64 (.var 2))] [(.int .u64), .err]
   (.ite (.not (.isnil (.var 21)))
    (.ret [(.int .u32 0), (.var 21)])
    (.ite (.or (.cmp .lt (.var 3) (.int .i64 0)) (.cmp .ne (.ar .shr .u64 (.conv .u64 (.var 3)) (.int .u64 4)) (.int .u64 0)))
     (.ret [(.int .u32 0), (.ifc (.int .i64 1))])
     (.call k_bPut [(.var 20), (.int .i64 2), (.int .i64 4), (.conv .u64 (.var 3))] [(.int .u64), .err]
     (.ite (.not (.isnil (.var 23)))
      (.ret [(.int .u32 0), (.var 23)])
      (.ite (.or (.cmp .lt (.var 4) (.int .i64 0)) (.cmp .ne (.ar .shr .u64 (.conv .u64 (.var 4)) (.int .u64 1)) (.int .u64 0)))
       (.ret [(.int .u32 0), (.ifc (.int .i64 1))])
       (.call k_bPut [(.var 22), (.int .i64 6), (.int .i64 1), (.conv .u64 (.var 4))] [(.int .u64), .err]
       (.ite (.not (.isnil (.var 25)))
        (.ret [(.int .u32 0), (.var 25)])
        (.ite (.or (.cmp .lt (.var 5) (.int .i64 0)) (.cmp .ne (.ar .shr .u64 (.conv .u64 (.var 5)) (.int .u64 1)) (.int .u64 0)))
         (.ret [(.int .u32 0), (.ifc (.int .i64 1))])
         (.call k_bPut [(.var 24), (.int .i64 7), (.int .i64 1), (.conv .u64 (.var 5))] [(.int .u64), .err]
         (.ite (.not (.isnil (.var 27)))
          (.ret [(.int .u32 0), (.var 27)])
          (.ite (.or (.cmp .lt (.var 11) (.int .i64 0)) (.cmp .ne (.ar .shr .u64 (.conv .u64 (.var 11)) (.int .u64 1)) (.int .u64 0)))
           (.ret [(.int .u32 0), (.ifc (.int .i64 1))])
           (.call k_bPut [(.var 26), (.int .i64 8), (.int .i64 1), (.conv .u64 (.var 11))] [(.int .u64), .err]
           (.ite (.not (.isnil (.var 29)))
            (.ret [(.int .u32 0), (.var 29)])
            (.ite (.or (.cmp .lt (.var 13) (.int .i64 0)) (.cmp .ne (.ar .shr .u64 (.conv .u64 (.var 13)) (.int .u64 2)) (.int .u64 0)))
             (.ret [(.int .u32 0), (.ifc (.int .i64 1))])
             (.call k_bPut [(.var 28), (.int .i64 9), (.int .i64 2), (.conv .u64 (.var 13))] [(.int .u64), .err]
             (.ite (.not (.isnil (.var 31)))
              (.ret [(.int .u32 0), (.var 31)])
              (.ite (.or (.cmp .lt (.var 17) (.int .i64 0)) (.cmp .ne (.ar .shr .u64 (.conv .u64 (.var 17)) (.int .u64 2)) (.int .u64 0)))
               (.ret [(.int .u32 0), (.ifc (.int .i64 1))])
               (.call k_bPut [(.var 30), (.int .i64 11), (.int .i64 2), (.conv .u64 (.var 17))] [(.int .u64), .err]
               (.ite (.not (.isnil (.var 33)))
                (.ret [(.int .u32 0), (.var 33)])
                (.ite (.or (.cmp .lt (.var 10) (.int .i64 0)) (.cmp .ne (.ar .shr .u64 (.conv .u64 (.var 10)) (.int .u64 8)) (.int .u64 0)))
                 (.ret [(.int .u32 0), (.ifc (.int .i64 1))])
                 (.call k_bPut [(.var 32), (.int .i64 13), (.int .i64 8), (.conv .u64 (.var 10))] [(.int .u64), .err]
                 (.ite (.not (.isnil (.var 35)))
                  (.ret [(.int .u32 0), (.var 35)])
                  (.ret [(.conv .u32 (.var 34)), .nili]))))))))))))))))))))))))))))
theorem wk_tHead : walk E0.cx (sgsN [(38, sg_bPut)]) 0 17 sg_tHead = tr_tHead := by kernel_rfl
theorem bo_tHead : ∃ x, bodyOf E0.P 17 = some x := bo_of (by kernel_rfl)
theorem sp_tHead_bPut : specC [con_bPut] k_bPut = bPut_s := rfl
def tHead_s : Spec := fun ds Q => (∃ m, objB ds m = true) ∧ Q [.int .u32 (headN ds), errV 0]
theorem tHead_h : Holds E0 k_tHead sg_tHead tHead_s := con_fn wf0 mix0 g0 [con_bPut] rfl wk_tHead rfl (by
  intro Φ hΦ ds Q hs ⟨⟨m, hm⟩, h⟩
  have hl : ds.length = 18 := hs.length.symm
  have s1 : Φ k_bPut = bPut_s := by rw [hΦ]; rfl
  clear hΦ
  have a := fun f hf => inB_iff ((objB_iff ds m).1 hm f hf)
  have g1 : (0 : Int) ≤ argI ds 1 ∧ argI ds 1 ≤ 1 := a 1 (by omega)
  have g2 : (0 : Int) ≤ argI ds 2 ∧ argI ds 2 ≤ 1 := a 2 (by omega)
  have g3 : (0 : Int) ≤ argI ds 3 ∧ argI ds 3 ≤ 10 := a 3 (by omega)
  have g4 : (0 : Int) ≤ argI ds 4 ∧ argI ds 4 ≤ 1 := a 4 (by omega)
  have g5 : (0 : Int) ≤ argI ds 5 ∧ argI ds 5 ≤ 1 := a 5 (by omega)
  have g11 : (0 : Int) ≤ argI ds 11 ∧ argI ds 11 ≤ 1 := a 11 (by omega)
  have g13 : (0 : Int) ≤ argI ds 13 ∧ argI ds 13 ≤ 2 := a 13 (by omega)
  have g17 : (0 : Int) ≤ argI ds 17 ∧ argI ds 17 ≤ 3 := a 17 (by omega)
  have g10 : (0 : Int) ≤ argI ds 10 ∧ argI ds 10 ≤ 255 := a 10 (by omega)
  have hh : headN ds = argI ds 1 + 2 * argI ds 2 + 4 * argI ds 3 + 64 * argI ds 4 + 128 * argI ds 5 + 256 * argI ds 11 + 512 * argI ds 13 + 2048 * argI ds 17 + 8192 * argI ds 10 := rfl
  rw [hh] at h
  clear a hm hh
  simp only [tr_tHead, wp, den_int, den_bool, den_nili, den_ar, den_cmp, den_not, den_len, den_elem, den_isnil, den_errI, den_ifc, den_rep, den_push, den_app, den_emp, den_upd, row0_econs, row0_enil, den_and, den_beq, den_nil, toInt_int, toBool_bool, xs_rows, xs_list, dflt_int, dflt_bool, of_eq, of_ne, of_lt, of_le, of_gt, of_ge, of_add, of_sub, of_rem, List.map_cons, List.map_nil, Dat.bool.injEq, decide_eq_true_eq, decide_eq_false_iff_not, Bool.not_eq_true', Bool.not_eq_false', beq_iff_eq, bne_iff_ne, beq_eq_false_iff_ne, bne_eq_false_iff_eq, ne_eq, List.append_assoc, List.cons_append, List.nil_append, allS, s1, bPut_s, @den_var0 E0.Δ ds, den_varA, den_varB, hl, Nat.reduceLT, Nat.reduceLeDiff, Nat.reduceSub, List.getD_cons_zero, List.getD_cons_succ, argL_fold ds, argI_fold ds, List.append_assoc, List.cons_append, List.nil_append, toInt_int, toBool_bool, xs_rows, xs_list, Int.toNat_natCast, Dat.bool.injEq, den_or, den_conv, List.append_nil]
  generalize argI ds 1 = n1 at *
  generalize argI ds 2 = n2 at *
  generalize argI ds 3 = n3 at *
  generalize argI ds 4 = n4 at *
  generalize argI ds 5 = n5 at *
  generalize argI ds 11 = n11 at *
  generalize argI ds 13 = n13 at *
  generalize argI ds 17 = n17 at *
  generalize argI ds 10 = n10 at *
  obtain ⟨k1, rfl⟩ := Int.eq_ofNat_of_zero_le g1.1
  obtain ⟨k2, rfl⟩ := Int.eq_ofNat_of_zero_le g2.1
  obtain ⟨k3, rfl⟩ := Int.eq_ofNat_of_zero_le g3.1
  obtain ⟨k4, rfl⟩ := Int.eq_ofNat_of_zero_le g4.1
  obtain ⟨k5, rfl⟩ := Int.eq_ofNat_of_zero_le g5.1
  obtain ⟨k11, rfl⟩ := Int.eq_ofNat_of_zero_le g11.1
  obtain ⟨k13, rfl⟩ := Int.eq_ofNat_of_zero_le g13.1
  obtain ⟨k17, rfl⟩ := Int.eq_ofNat_of_zero_le g17.1
  obtain ⟨k10, rfl⟩ := Int.eq_ofNat_of_zero_le g10.1
  have w1 : IntKind.u64.wrap (k1 : Int) = k1 := u64_in (by omega) (by omega)
  have w2 : IntKind.u64.wrap (k2 : Int) = k2 := u64_in (by omega) (by omega)
  have w3 : IntKind.u64.wrap (k3 : Int) = k3 := u64_in (by omega) (by omega)
  have w4 : IntKind.u64.wrap (k4 : Int) = k4 := u64_in (by omega) (by omega)
  have w5 : IntKind.u64.wrap (k5 : Int) = k5 := u64_in (by omega) (by omega)
  have w11 : IntKind.u64.wrap (k11 : Int) = k11 := u64_in (by omega) (by omega)
  have w13 : IntKind.u64.wrap (k13 : Int) = k13 := u64_in (by omega) (by omega)
  have w17 : IntKind.u64.wrap (k17 : Int) = k17 := u64_in (by omega) (by omega)
  have w10 : IntKind.u64.wrap (k10 : Int) = k10 := u64_in (by omega) (by omega)
  refine ⟨fun hx => absurd (hx.symm.trans (part_ok (w := 1) (by decide) (by omega) (by simp only [Int.reducePow]; omega))) (by decide), fun _ => ⟨0, 0, 1, k1, by rw [w1]; rfl, by simp only [Nat.reducePow]; omega, by simp only [Nat.reducePow]; omega, by decide, by decide, fun hx => absurd hx (by decide), fun _ => ?_⟩⟩
  refine ⟨fun hx => absurd (hx.symm.trans (part_ok (w := 1) (by decide) (by omega) (by simp only [Int.reducePow]; omega))) (by decide), fun _ => ⟨(0 + k1 * 2 ^ 0), 1, 1, k2, by rw [w2]; rfl, by simp only [Nat.reducePow]; omega, by simp only [Nat.reducePow]; omega, by decide, by decide, fun hx => absurd hx (by decide), fun _ => ?_⟩⟩
  refine ⟨fun hx => absurd (hx.symm.trans (part_ok (w := 4) (by decide) (by omega) (by simp only [Int.reducePow]; omega))) (by decide), fun _ => ⟨((0 + k1 * 2 ^ 0) + k2 * 2 ^ 1), 2, 4, k3, by rw [w3]; rfl, by simp only [Nat.reducePow]; omega, by simp only [Nat.reducePow]; omega, by decide, by decide, fun hx => absurd hx (by decide), fun _ => ?_⟩⟩
  refine ⟨fun hx => absurd (hx.symm.trans (part_ok (w := 1) (by decide) (by omega) (by simp only [Int.reducePow]; omega))) (by decide), fun _ => ⟨(((0 + k1 * 2 ^ 0) + k2 * 2 ^ 1) + k3 * 2 ^ 2), 6, 1, k4, by rw [w4]; rfl, by simp only [Nat.reducePow]; omega, by simp only [Nat.reducePow]; omega, by decide, by decide, fun hx => absurd hx (by decide), fun _ => ?_⟩⟩
  refine ⟨fun hx => absurd (hx.symm.trans (part_ok (w := 1) (by decide) (by omega) (by simp only [Int.reducePow]; omega))) (by decide), fun _ => ⟨((((0 + k1 * 2 ^ 0) + k2 * 2 ^ 1) + k3 * 2 ^ 2) + k4 * 2 ^ 6), 7, 1, k5, by rw [w5]; rfl, by simp only [Nat.reducePow]; omega, by simp only [Nat.reducePow]; omega, by decide, by decide, fun hx => absurd hx (by decide), fun _ => ?_⟩⟩
  refine ⟨fun hx => absurd (hx.symm.trans (part_ok (w := 1) (by decide) (by omega) (by simp only [Int.reducePow]; omega))) (by decide), fun _ => ⟨(((((0 + k1 * 2 ^ 0) + k2 * 2 ^ 1) + k3 * 2 ^ 2) + k4 * 2 ^ 6) + k5 * 2 ^ 7), 8, 1, k11, by rw [w11]; rfl, by simp only [Nat.reducePow]; omega, by simp only [Nat.reducePow]; omega, by decide, by decide, fun hx => absurd hx (by decide), fun _ => ?_⟩⟩
  refine ⟨fun hx => absurd (hx.symm.trans (part_ok (w := 2) (by decide) (by omega) (by simp only [Int.reducePow]; omega))) (by decide), fun _ => ⟨((((((0 + k1 * 2 ^ 0) + k2 * 2 ^ 1) + k3 * 2 ^ 2) + k4 * 2 ^ 6) + k5 * 2 ^ 7) + k11 * 2 ^ 8), 9, 2, k13, by rw [w13]; rfl, by simp only [Nat.reducePow]; omega, by simp only [Nat.reducePow]; omega, by decide, by decide, fun hx => absurd hx (by decide), fun _ => ?_⟩⟩
  refine ⟨fun hx => absurd (hx.symm.trans (part_ok (w := 2) (by decide) (by omega) (by simp only [Int.reducePow]; omega))) (by decide), fun _ => ⟨(((((((0 + k1 * 2 ^ 0) + k2 * 2 ^ 1) + k3 * 2 ^ 2) + k4 * 2 ^ 6) + k5 * 2 ^ 7) + k11 * 2 ^ 8) + k13 * 2 ^ 9), 11, 2, k17, by rw [w17]; rfl, by simp only [Nat.reducePow]; omega, by simp only [Nat.reducePow]; omega, by decide, by decide, fun hx => absurd hx (by decide), fun _ => ?_⟩⟩
  refine ⟨fun hx => absurd (hx.symm.trans (part_ok (w := 8) (by decide) (by omega) (by simp only [Int.reducePow]; omega))) (by decide), fun _ => ⟨((((((((0 + k1 * 2 ^ 0) + k2 * 2 ^ 1) + k3 * 2 ^ 2) + k4 * 2 ^ 6) + k5 * 2 ^ 7) + k11 * 2 ^ 8) + k13 * 2 ^ 9) + k17 * 2 ^ 11), 13, 8, k10, by rw [w10]; rfl, by simp only [Nat.reducePow]; omega, by simp only [Nat.reducePow]; omega, by decide, by decide, fun hx => absurd hx (by decide), fun _ => ?_⟩⟩
  refine Eq.mp (congrArg (fun z => Q [Dat.int .u32 z, errV 0]) ?_) h
  rw [IntKind.wrap_u32]
  simp only [Nat.reducePow]
  omega)
noncomputable def con_tHead : Con E0 := ⟨k_tHead, sg_tHead, tHead_s, rfl, bo_tHead, tHead_h⟩
def k_tRest : Nat := 18
def sg_tRest : Sig := ⟨[(true, List.replicate 18 (.int .i64))], [(true, List.replicate 9 (.int .i64))], false, true, true, false, false⟩
def tr_tRest : Tree := (.ret [(.var 0), (.var 6), (.var 7), (.var 8), (.var 9), (.var 12), (.var 14), (.var 15), (.var 16)])
theorem wk_tRest : walk E0.cx (sgsN []) 0 18 sg_tRest = tr_tRest := by kernel_rfl
theorem bo_tRest : ∃ x, bodyOf E0.P 18 = some x := bo_of (by kernel_rfl)
def tRest_s : Spec := fun ds Q => Q [ds.getD 0 (.bool false), ds.getD 6 (.bool false), ds.getD 7 (.bool false), ds.getD 8 (.bool false), ds.getD 9 (.bool false), ds.getD 12 (.bool false), ds.getD 14 (.bool false), ds.getD 15 (.bool false), ds.getD 16 (.bool false)]
theorem tRest_h : Holds E0 k_tRest sg_tRest tRest_s := con_fn wf0 mix0 g0 [] rfl wk_tRest rfl (by
  intro Φ hΦ ds Q hs h
  exact h)
noncomputable def con_tRest : Con E0 := ⟨k_tRest, sg_tRest, tRest_s, rfl, bo_tRest, tRest_h⟩
end Go.Proofs.YtnhahmgbgocdgaaDoor
end

section
namespace Go.Proofs.YtnhahmgbgocdgaaDoor
open Go.RowKit
set_option linter.unusedVariables false

theorem zig_bits (n : Int) (h1 : -9223372036854775808 ≤ n) (h2 : n ≤ 9223372036854775807) :
    bits .xor .u64 (IntKind.u64.wrap (IntKind.u64.wrap n * 2)) (IntKind.u64.wrap (n / 9223372036854775808)) = ((mth.zig n : Nat) : Int) := by
  unfold mth.zig
  by_cases h : 0 ≤ n
  · rw [if_pos h]
    have e1 : IntKind.u64.wrap (IntKind.u64.wrap n * 2) = (((2 * n).toNat : Nat) : Int) := by rw [IntKind.wrap_u64, IntKind.wrap_u64]; omega
    have e2 : IntKind.u64.wrap (n / 9223372036854775808) = ((0 : Nat) : Int) := by rw [IntKind.wrap_u64]; omega
    rw [e1, e2, u64_xor_nat _ _ (by omega) (by omega), Nat.xor_zero]
  · rw [if_neg h]
    have e1 : IntKind.u64.wrap (IntKind.u64.wrap n * 2) = (((18446744073709551616 + 2 * n).toNat : Nat) : Int) := by rw [IntKind.wrap_u64, IntKind.wrap_u64]; omega
    have e2 : IntKind.u64.wrap (n / 9223372036854775808) = ((18446744073709551615 : Nat) : Int) := by rw [IntKind.wrap_u64]; omega
    rw [e1, e2, u64_xor_nat _ _ (by omega) (by omega)]
    have hx : ∀ a b : Nat, a < 2 ^ 64 → b = 2 ^ 64 - 1 → a ^^^ b = 2 ^ 64 - 1 - a := fun a b ha hb => by
      subst hb
      apply Nat.eq_of_testBit_eq
      intro i
      rw [Nat.testBit_xor, Nat.testBit_two_pow_sub_one, show 2 ^ 64 - 1 - a = 2 ^ 64 - (a + 1) from by omega, Nat.testBit_two_pow_sub_succ ha]
      by_cases hi : i < 64
      · simp [hi]
      · rw [Nat.testBit_lt_two_pow (Nat.lt_of_lt_of_le ha (Nat.pow_le_pow_right (by omega) (by omega)))]
        simp [hi]
    rw [hx _ _ (by omega) rfl]
    omega

theorem u8_andNot128 (c : Nat) (h : c < 256) : bits .andNot .u8 (c : Int) 128 = ((c % 128 : Nat) : Int) := by
  have : ∀ c : _root_.Fin 256, bits .andNot .u8 (c.val : Int) 128 = ((c.val % 128 : Nat) : Int) := by decide +kernel
  exact this ⟨c, h⟩
theorem u8_and128 (c : Nat) (h : c < 256) : bits .and .u8 (c : Int) 128 = if (128 : Int) ≤ (c : Int) then 128 else 0 := by
  have : ∀ c : _root_.Fin 256, bits .and .u8 (c.val : Int) 128 = if (128 : Int) ≤ (c.val : Int) then 128 else 0 := by decide +kernel
  exact this ⟨c, h⟩

theorem xor_comm_i64 (a b : Int) : bits .xor .i64 a b = bits .xor .i64 b a := by
  show IntKind.i64.wrap ((BitVec.ofInt 64 a ^^^ BitVec.ofInt 64 b).toNat : Int) = IntKind.i64.wrap ((BitVec.ofInt 64 b ^^^ BitVec.ofInt 64 a).toNat : Int)
  rw [BitVec.xor_comm]
theorem xor_zero_i64 (x : Nat) (hx : x < 9223372036854775808) : bits .xor .i64 (x : Int) 0 = (x : Int) := by
  show IntKind.i64.wrap ((BitVec.ofInt 64 (x : Int) ^^^ BitVec.ofInt 64 0).toNat : Int) = _
  have h2 : (BitVec.ofInt 64 (x : Int)).toNat = x := by
    rw [BitVec.ofInt_natCast, BitVec.toNat_ofNat]; exact Nat.mod_eq_of_lt (by omega)
  have h1 : (BitVec.ofInt 64 0).toNat = 0 := by decide
  rw [BitVec.toNat_xor, h1, h2, Nat.xor_zero, IntKind.wrap_i64]
  omega
theorem zag_bits (x : Nat) (h : x < 18446744073709551616) : bits .xor .i64 ((x : Int) / 2) (Go.RowKit.wrap64 (-Go.RowKit.wrap64 (bits .and .u64 (x : Int) 1))) = mth.zag x := by
  rw [Lib.u64_and1 (x : Int) (by omega) (by omega)]
  have e : ((x : Int) / 2) = ((x / 2 : Nat) : Int) := by omega
  unfold mth.zag
  by_cases h0 : x % 2 = 0
  · have e0 : (x : Int) % 2 = 0 := by omega
    rw [if_pos h0, e, e0]
    rw [show Go.RowKit.wrap64 (-Go.RowKit.wrap64 0) = 0 by decide +kernel]
    exact xor_zero_i64 (x / 2) (by omega)
  · have e0 : (x : Int) % 2 = 1 := by omega
    rw [if_neg h0, e, e0]
    have e1 : Go.RowKit.wrap64 (-Go.RowKit.wrap64 1) = -1 := by decide +kernel
    rw [e1, xor_comm_i64, Lib.i64_not _ (by omega)]

theorem or_part (X d k : Nat) (hX : X < 128 ^ k) (h64 : X + 128 ^ k * d < 18446744073709551616) : bits .or .u64 (X : Int) (IntKind.u64.wrap ((d : Int) * 2 ^ (k * 7))) = ((X + 128 ^ k * d : Nat) : Int) := by
  have hp : 128 ^ k = 2 ^ (k * 7) := by rw [Nat.mul_comm k 7, Nat.pow_mul]
  rw [hp] at hX h64 ⊢
  have hdn : d * 2 ^ (k * 7) < 18446744073709551616 := by rw [Nat.mul_comm]; omega
  have e : IntKind.u64.wrap ((d : Int) * 2 ^ (k * 7)) = ((d * 2 ^ (k * 7) : Nat) : Int) := by
    have h1 : (d : Int) * 2 ^ (k * 7) = ((d * 2 ^ (k * 7) : Nat) : Int) := by simp
    rw [h1, IntKind.wrap_u64]
    omega
  rw [e, u64_or_nat _ _ (by omega) hdn]
  congr 1
  have := Nat.shiftLeft_add_eq_or_of_lt hX d
  rw [Nat.shiftLeft_eq] at this
  rw [Nat.or_comm, ← this, Nat.mul_comm d, Nat.add_comm]

theorem zag_e (Y : Nat) (h : Y < 18446744073709551616) (he : Y % 2 = 0) : Go.RowKit.wrap64 (IntKind.u64.wrap ((Y : Int) / 2)) = mth.zag Y := by
  rw [IntKind.wrap_u64, mth.zag, if_pos he]
  unfold Go.RowKit.wrap64
  omega
theorem zag_o (Y : Nat) (h : Y < 18446744073709551616) (he : ¬ Y % 2 = 0) : Go.RowKit.wrap64 (Go.RowKit.wrap64 (-Go.RowKit.wrap64 (IntKind.u64.wrap ((Y : Int) / 2))) - 1) = mth.zag Y := by
  rw [IntKind.wrap_u64, mth.zag, if_neg he]
  unfold Go.RowKit.wrap64
  omega

end Go.Proofs.YtnhahmgbgocdgaaDoor
end

section
namespace Go.Proofs.YtnhahmgbgocdgaaDoor
open Go.RowKit
set_option linter.unusedVariables false
set_option linter.unusedSimpArgs false

/-- bytes as rows -/
def u8R (l : List Nat) : List (List Dat) := l.map fun c : Nat => [.int .u8 (c : Int)]
theorem u8R_app (a b : List Nat) : u8R (a ++ b) = u8R a ++ u8R b := by simp [u8R]
theorem u8R_len (a : List Nat) : (u8R a).length = a.length := by simp [u8R]
theorem u8R_get {l : List Nat} {i : Nat} (h : i < l.length) (d : Dat) : ((u8R l).getD i []).getD 0 d = .int .u8 (l[i] : Int) := by
  simp [u8R, List.getD_eq_getElem?_getD, List.getElem?_eq_getElem h]
theorem sh63 : (2 : Int) ^ (min (Int.toNat 63) 64) = 9223372036854775808 := by decide
theorem zig_of (n : Int) (h1 : -9223372036854775808 ≤ n) (h2 : n ≤ 9223372036854775807) :
    Ar.xor.of .u64 (Ar.shl.of .u64 (IntKind.u64.wrap n) 1) (IntKind.u64.wrap (Ar.shr.of .i64 n 63)) = ((mth.zig n : Nat) : Int) := by
  have := zig_bits n h1 h2
  have e1 : Ar.shl.of .u64 (IntKind.u64.wrap n) 1 = IntKind.u64.wrap (IntKind.u64.wrap n * 2) := rfl
  have e2 : Ar.shr.of .i64 n 63 = n / 9223372036854775808 := by
    show n.fdiv (2 ^ 63) = _
    rw [Int.fdiv_eq_ediv_of_nonneg _ (by decide)]; rfl
  rw [e1, e2]; exact this
theorem zag_of (x : Nat) (h : x < 18446744073709551616) : Ar.xor.of .i64 (IntKind.i64.wrap (Ar.shr.of .u64 (x : Int) 1)) (IntKind.i64.wrap (0 - IntKind.i64.wrap (Ar.and.of .u64 (x : Int) 1))) = mth.zag x := by
  have := zag_bits x h
  have e1 : Ar.shr.of .u64 (x : Int) 1 = (x : Int) / 2 := by
    show (x : Int).fdiv (2 ^ 1) = _
    rw [Int.fdiv_eq_ediv_of_nonneg _ (by decide)]; rfl
  have e2 : IntKind.i64.wrap ((x : Int) / 2) = (x : Int) / 2 := wrap64 (by omega) (by omega)
  have w64 : ∀ y, IntKind.i64.wrap y = RowKit.wrap64 y := fun y => by rw [IntKind.wrap_i64, RowKit.wrap64]
  rw [e1, e2, Int.zero_sub, w64, w64]; exact this
def k_Cl8 : Nat := 55
def sg_Cl8 : Sig := ⟨[(false, [.list 5])], [(false, [.rows 5])], true, false, false, false, false⟩
def tr_Cl8 : Tree := (.ite (.isnil (.var 0))
 (.ret [.emp])
 (.ob (.cmp .le (.len (.app .emp (.var 0))) (.int .i64 140737488355328))
 (.ret [(.app .emp (.var 0))])))
theorem wk_Cl8 : walk E0.cx (sgsN []) 0 55 sg_Cl8 = tr_Cl8 := by kernel_rfl
theorem bo_Cl8 : ∃ x, bodyOf E0.P 55 = some x := bo_of (by kernel_rfl)
def Cl8_s : Spec := fun ds Q => (argL ds 0).length ≤ 100000000 ∧ Q [.rows (argL ds 0)]
theorem Cl8_h : Holds E0 k_Cl8 sg_Cl8 Cl8_s := con_fnN wf0 mix0 g0 [] rfl wk_Cl8 rfl (by
  intro Φ hΦ ds Q hs hnil ⟨hn, h⟩
  have hl : ds.length = 1 := hs.length.symm
  simp only [tr_Cl8, wp, den_int, den_bool, den_nili, den_ar, den_cmp, den_not, den_len, den_elem, den_isnil, den_errI, den_ifc, den_rep, den_push, den_app, den_emp, den_upd, row0_econs, row0_enil, den_and, den_beq, den_nil, toInt_int, toBool_bool, xs_rows, xs_list, dflt_int, dflt_bool, of_eq, of_ne, of_lt, of_le, of_gt, of_ge, of_add, of_sub, of_rem, List.map_cons, List.map_nil, Dat.bool.injEq, decide_eq_true_eq, decide_eq_false_iff_not, Bool.not_eq_true', Bool.not_eq_false', beq_iff_eq, bne_iff_ne, beq_eq_false_iff_ne, bne_eq_false_iff_eq, ne_eq, List.append_assoc, List.cons_append, List.nil_append, @den_var0 E0.Δ ds, den_varA, den_varB, hl, Nat.reduceLT, Nat.reduceLeDiff, Nat.reduceSub, List.getD_cons_zero, List.getD_cons_succ, argL_fold ds, argI_fold ds, List.append_assoc, List.cons_append, List.nil_append, toInt_int, toBool_bool, xs_rows, xs_list, Int.toNat_natCast, Dat.bool.injEq]
  refine ⟨fun h0 => ?_, fun _ => ⟨by omega, h⟩⟩
  have : argL ds 0 = [] := by
    rw [← argL_fold]
    exact hnil _ (getD_memL (by omega)) h0
  rw [this] at h; exact h)
noncomputable def con_Cl8 : Con E0 := ⟨k_Cl8, sg_Cl8, Cl8_s, rfl, bo_Cl8, Cl8_h⟩
/-- bytes that bytes are put behind -/
def k_wPut : Nat := 37
def sg_wPut : Sig := ⟨[(false, [.list 5]), (false, [.int .i64])], [(false, [.rows 5])], true, false, false, false, false⟩
def tr_wPut : Tree := (.call k_Cl8 [(.var 0)] [(.rows 5)]
(.loop [(.app .emp (.var 2)), (.ar .xor .u64 (.ar .shl .u64 (.conv .u64 (.var 1)) (.int .u64 1)) (.conv .u64 (.ar .shr .i64 (.var 1) (.int .u64 63))))] [(.rows 5), (.int .u64)]
 (.ite (.cmp .ge (.var 4) (.int .u64 128))
  (.ob (.cmp .le (.len (.push (.var 3) (.econs (.ar .or .u8 (.conv .u8 (.var 4)) (.int .u8 128)) .enil))) (.int .i64 140737488355328))
  (.again 0 [(.push (.var 3) (.econs (.ar .or .u8 (.conv .u8 (.var 4)) (.int .u8 128)) .enil)), (.ar .shr .u64 (.var 4) (.int .u64 7))]))
  (.ob (.cmp .le (.len (.push (.var 3) (.econs (.conv .u8 (.var 4)) .enil))) (.int .i64 140737488355328))
  (.ret [(.push (.var 3) (.econs (.conv .u8 (.var 4)) .enil))])))))
theorem wk_wPut : walk E0.cx (sgsN [(55, sg_Cl8)]) 0 37 sg_wPut = tr_wPut := by kernel_rfl
theorem bo_wPut : ∃ x, bodyOf E0.P 37 = some x := bo_of (by kernel_rfl)
theorem sp_wPut_Cl8 : specC [con_Cl8] k_Cl8 = Cl8_s := rfl
def wPut_s : Spec := fun ds Q => (argL ds 0).length ≤ 90000000 ∧ -9223372036854775808 ≤ argI ds 1 ∧ argI ds 1 ≤ 9223372036854775807 ∧ Q [.rows (argL ds 0 ++ u8R (mth.encI (argI ds 1)))]
theorem or128_of (y : Nat) (h : y < 18446744073709551616) : Ar.or.of .u8 (IntKind.u8.wrap (y : Int)) 128 = ((y % 128 + 128 : Nat) : Int) := by
  have e : IntKind.u8.wrap (y : Int) = ((y % 256 : Nat) : Int) := by rw [IntKind.wrap_u8]; omega
  rw [e]
  have key : ∀ c : _root_.Fin 256, Ar.or.of .u8 (c.val : Int) 128 = ((c.val % 128 + 128 : Nat) : Int) := by decide +kernel
  have := key ⟨y % 256, Nat.mod_lt _ (by decide)⟩
  rw [this]
  congr 1
  show y % 256 % 128 + 128 = _
  omega
theorem shr7 (y : Nat) : Ar.shr.of .u64 (y : Int) 7 = ((y / 128 : Nat) : Int) := by
  show (y : Int).fdiv (2 ^ 7) = _
  rw [Int.fdiv_eq_ediv_of_nonneg _ (by decide)]; rfl
theorem wPut_h : Holds E0 k_wPut sg_wPut wPut_s := con_fn wf0 mix0 g0 [con_Cl8] rfl wk_wPut rfl (by
  intro Φ hΦ ds Q hs ⟨hn, n1, n2, h⟩
  have hl : ds.length = 2 := hs.length.symm
  have sp : Φ k_Cl8 = Cl8_s := by rw [hΦ]; rfl
  clear hΦ
  simp only [tr_wPut, wp, den_int, den_bool, den_nili, den_ar, den_cmp, den_not, den_len, den_elem, den_isnil, den_errI, den_ifc, den_rep, den_push, den_app, den_emp, den_upd, row0_econs, row0_enil, den_and, den_beq, den_nil, toInt_int, toBool_bool, xs_rows, xs_list, dflt_int, dflt_bool, of_eq, of_ne, of_lt, of_le, of_gt, of_ge, of_add, of_sub, of_rem, List.map_cons, List.map_nil, Dat.bool.injEq, decide_eq_true_eq, decide_eq_false_iff_not, Bool.not_eq_true', Bool.not_eq_false', beq_iff_eq, bne_iff_ne, beq_eq_false_iff_ne, bne_eq_false_iff_eq, ne_eq, List.append_assoc, List.cons_append, List.nil_append, allS, sp, Cl8_s, den_conv, argL_c0, @den_var0 E0.Δ ds, den_varA, den_varB, hl, Nat.reduceLT, Nat.reduceLeDiff, Nat.reduceSub, List.getD_cons_zero, List.getD_cons_succ, argL_fold ds, argI_fold ds, List.append_assoc, List.cons_append, List.nil_append, toInt_int, toBool_bool, xs_rows, xs_list, Int.toNat_natCast, Dat.bool.injEq]
  rw [zig_of _ n1 n2]
  have hX := mth.zig_lt _ n1 n2
  refine ⟨by omega, fun xs m => ∃ (k y : Nat) (dn : List Nat), mth.Going (mth.zig (argI ds 1)) k y dn ∧ xs = [.rows (argL ds 0 ++ u8R dn), .int .u64 (y : Int)] ∧ m = y, ⟨_, 0, _, [], mth.going_start _ hX, by simp [u8R], rfl⟩, ?_⟩
  rintro d hd n m ⟨k, y, dn, hg, e, hm⟩
  cases e
  have hlen := hg.len
  have hk := hg.hk
  have hle := hg.le
  refine ⟨fun h128 => ⟨?_, ?_⟩, fun h128 => ⟨?_, ?_⟩⟩
  · simp only [xs_rows, List.length_append, u8R_len, List.length_cons, List.length_nil]; omega
  · have hy : ¬ y < 128 := by omega
    refine ⟨y / 128, by omega, k + 1, y / 128, _, mth.going_step hg hy, ?_, rfl⟩
    rw [or128_of y (by omega), shr7, u8R_app, ← List.append_assoc]; rfl
  · simp only [xs_rows, List.length_append, u8R_len, List.length_cons, List.length_nil]; omega
  · have hy : y < 128 := by omega
    have he := (mth.going_end hg hy).1
    have ew : IntKind.u8.wrap (y : Int) = (y : Int) := by rw [IntKind.wrap_u8]; omega
    rw [ew]
    have e2 : u8R (mth.encI (argI ds 1)) = u8R dn ++ [[.int .u8 (y : Int)]] := by
      rw [mth.encI, ← he, u8R_app]; rfl
    rw [e2, ← List.append_assoc] at h
    exact h)
noncomputable def con_wPut : Con E0 := ⟨k_wPut, sg_wPut, wPut_s, rfl, bo_wPut, wPut_h⟩
theorem stands_of (n : Int) (h1 : -9223372036854775808 ≤ n) (h2 : n ≤ 9223372036854775807) : (if 0 ≤ n then Dat.int .u64 (Ar.mul.of .u64 2 (IntKind.u64.wrap n)) else Dat.int .u64 (IntKind.u64.wrap (Ar.mul.of .u64 2 (IntKind.u64.wrap (IntKind.i64.wrap (0 - IntKind.i64.wrap (n + 1)))) + 1))) = .int .u64 ((mth.zig n : Nat) : Int) := by
  by_cases h : 0 ≤ n
  · rw [if_pos h]
    congr 1
    simp only [Ar.of, mth.zig, if_pos h, IntKind.wrap_u64]
    omega
  · rw [if_neg h, wrap64 (x := n + 1) (by omega) (by omega), wrap64 (by omega) (by omega)]
    congr 1
    simp only [Ar.of, mth.zig, if_neg h, IntKind.wrap_u64]
    omega
theorem quo128 (y : Nat) (h : y < 18446744073709551616) : Ar.quo.of .u64 (y : Int) 128 = ((y / 128 : Nat) : Int) := by
  show IntKind.u64.wrap ((y : Int).tdiv 128) = _
  rw [Int.tdiv_eq_ediv_of_nonneg (by omega), IntKind.wrap_u64]
  omega
theorem rem128 (y : Nat) (h : y < 18446744073709551616) : IntKind.u8.wrap (IntKind.u8.wrap ((y : Int).tmod 128) + 128) = ((y % 128 + 128 : Nat) : Int) := by
  rw [Int.tmod_eq_emod_of_nonneg (by omega), IntKind.wrap_u8, IntKind.wrap_u8]
  omega
-- lacks mulligan/mulliganref02.Bytes : rBytes2
def rBytes2_s : Spec := fun ds Q => -9223372036854775808 ≤ argI ds 0 ∧ argI ds 0 ≤ 9223372036854775807 ∧ Q [.rows (u8R (mth.encI (argI ds 0)))]
def k_wzag : Nat := 59
def sg_wzag : Sig := ⟨[(false, [.int .u64])], [(false, [.int .i64])], false, false, false, false, false⟩
def tr_wzag : Tree := (.ret [(.ar .xor .i64 (.conv .i64 (.ar .shr .u64 (.var 0) (.int .u64 1))) (.ar .sub .i64 (.int .i64 0) (.conv .i64 (.ar .and .u64 (.var 0) (.int .u64 1)))))])
theorem wk_wzag : walk E0.cx (sgsN []) 0 59 sg_wzag = tr_wzag := by kernel_rfl
theorem bo_wzag : ∃ x, bodyOf E0.P 59 = some x := bo_of (by kernel_rfl)
def wzag_s : Spec := fun ds Q => ∃ x : Nat, x < 18446744073709551616 ∧ argI ds 0 = (x : Int) ∧ Q [.int .i64 (mth.zag x)]
theorem wzag_h : Holds E0 k_wzag sg_wzag wzag_s := con_fn wf0 mix0 g0 [] rfl wk_wzag rfl (by
  intro Φ hΦ ds Q hs ⟨x, hx, e, h⟩
  have hl : ds.length = 1 := hs.length.symm
  simp only [tr_wzag, wp, den_int, den_bool, den_nili, den_ar, den_cmp, den_not, den_len, den_elem, den_isnil, den_errI, den_ifc, den_rep, den_push, den_app, den_emp, den_upd, row0_econs, row0_enil, den_and, den_beq, den_nil, toInt_int, toBool_bool, xs_rows, xs_list, dflt_int, dflt_bool, of_eq, of_ne, of_lt, of_le, of_gt, of_ge, of_add, of_sub, of_rem, List.map_cons, List.map_nil, Dat.bool.injEq, decide_eq_true_eq, decide_eq_false_iff_not, Bool.not_eq_true', Bool.not_eq_false', beq_iff_eq, bne_iff_ne, beq_eq_false_iff_ne, bne_eq_false_iff_eq, ne_eq, List.append_assoc, List.cons_append, List.nil_append, den_conv, @den_var0 E0.Δ ds, den_varA, den_varB, hl, Nat.reduceLT, Nat.reduceLeDiff, Nat.reduceSub, List.getD_cons_zero, List.getD_cons_succ, argL_fold ds, argI_fold ds, List.append_assoc, List.cons_append, List.nil_append, toInt_int, toBool_bool, xs_rows, xs_list, Int.toNat_natCast, Dat.bool.injEq, e]
  rw [zag_of x hx]; exact h)
noncomputable def con_wzag : Con E0 := ⟨k_wzag, sg_wzag, wzag_s, rfl, bo_wzag, wzag_h⟩
def k_wTake : Nat := 41
def sg_wTake : Sig := ⟨[(false, [.list 5])], [(false, [.int .i64]), (false, [.list 5]), (false, [.err])], false, false, true, false, false⟩
def tr_wTake : Tree := (.ob (.cmp .ge (.ite (.cmp .lt (.int .i64 10) (.len (.var 0))) (.int .i64 10) (.len (.var 0))) (.int .i64 0))
(.ob (.cmp .le (.ite (.cmp .lt (.int .i64 10) (.len (.var 0))) (.int .i64 10) (.len (.var 0))) (.len (.var 0)))
(.loop [(.int .i64 0), .emp, .nili, (.int .u64 0), (.int .i64 0)] [(.int .i64), (.rows 5), .err, (.int .u64), (.int .i64)]
 (.ite (.cmp .lt (.var 5) (.len (.cut (.var 0) (.int .i64 0) (.ite (.cmp .lt (.int .i64 10) (.len (.var 0))) (.int .i64 10) (.len (.var 0))))))
  (.ob (.cmp .ge (.var 5) (.int .i64 0))
  (.ob (.cmp .ge (.conv .u64 (.ar .mul .i64 (.var 5) (.int .i64 7))) (.int .u64 0))
  (.ite (.and (.cmp .eq (.var 5) (.int .i64 9)) (.cmp .gt (.elem (.cut (.var 0) (.int .i64 0) (.ite (.cmp .lt (.int .i64 10) (.len (.var 0))) (.int .i64 10) (.len (.var 0)))) (.var 5) 0 (.int .u8)) (.int .u8 1)))
   (.share 5 .emp
   (.ret [(.int .i64 0), (.var 6), (.ifc (.int .i64 2))]))
   (.ite (.cmp .ne (.ar .and .u8 (.elem (.cut (.var 0) (.int .i64 0) (.ite (.cmp .lt (.int .i64 10) (.len (.var 0))) (.int .i64 10) (.len (.var 0)))) (.var 5) 0 (.int .u8)) (.int .u8 128)) (.int .u8 0))
    (.again 0 [(.var 1), (.var 2), (.var 3), (.ar .or .u64 (.var 4) (.ar .shl .u64 (.conv .u64 (.ar .andNot .u8 (.elem (.cut (.var 0) (.int .i64 0) (.ite (.cmp .lt (.int .i64 10) (.len (.var 0))) (.int .i64 10) (.len (.var 0)))) (.var 5) 0 (.int .u8)) (.int .u8 128))) (.conv .u64 (.ar .mul .i64 (.var 5) (.int .i64 7))))), (.ar .add .i64 (.var 5) (.int .i64 1))])
    (.ite (.and (.cmp .eq (.elem (.cut (.var 0) (.int .i64 0) (.ite (.cmp .lt (.int .i64 10) (.len (.var 0))) (.int .i64 10) (.len (.var 0)))) (.var 5) 0 (.int .u8)) (.int .u8 0)) (.cmp .gt (.var 5) (.int .i64 0)))
     (.share 5 .emp
     (.ret [(.int .i64 0), (.var 6), (.ifc (.int .i64 2))]))
     (.ob (.cmp .ge (.ar .add .i64 (.var 5) (.int .i64 1)) (.int .i64 0))
     (.ob (.cmp .le (.ar .add .i64 (.var 5) (.int .i64 1)) (.len (.var 0)))
     (.call k_wzag [(.ar .or .u64 (.var 4) (.ar .shl .u64 (.conv .u64 (.ar .andNot .u8 (.elem (.cut (.var 0) (.int .i64 0) (.ite (.cmp .lt (.int .i64 10) (.len (.var 0))) (.int .i64 10) (.len (.var 0)))) (.var 5) 0 (.int .u8)) (.int .u8 128))) (.conv .u64 (.ar .mul .i64 (.var 5) (.int .i64 7)))))] [(.int .i64)]
     (.call k_Cl8 [(.cut (.var 0) (.ar .add .i64 (.var 5) (.int .i64 1)) (.len (.var 0)))] [(.rows 5)]
     (.share 5 (.app .emp (.var 7))
     (.ret [(.var 6), (.var 8), .nili])))))))))))
  (.share 5 .emp
  (.ret [(.int .i64 0), (.var 6), (.ifc (.int .i64 7))]))))))
theorem wk_wTake : walk E0.cx (sgsN [(59, sg_wzag), (55, sg_Cl8)]) 0 41 sg_wTake = tr_wTake := by kernel_rfl
theorem bo_wTake : ∃ x, bodyOf E0.P 41 = some x := bo_of (by kernel_rfl)
theorem sp_wTake_wzag : specC [con_wzag, con_Cl8] k_wzag = wzag_s := rfl
theorem sp_wTake_Cl8 : specC [con_wzag, con_Cl8] k_Cl8 = Cl8_s := rfl
def wTake_s : Spec := fun ds Q => ∃ l : List Nat, argL ds 0 = u8R l ∧ (∀ c ∈ l, c < 256) ∧ l.length ≤ 90000000 ∧ ∀ d : Dat, d.xs = (if (mth.tk 0 0 l).2.2 = 0 then u8R (l.drop (mth.tk 0 0 l).2.1) else []) → Q [.int .i64 (mth.tk 0 0 l).1, d, errV (mth.tk 0 0 l).2.2]
theorem wTake_h : Holds E0 k_wTake sg_wTake wTake_s := con_fn wf0 mix0 g0 [con_wzag, con_Cl8] rfl wk_wTake rfl (by
  intro Φ hΦ ds Q hs ⟨l, hx, hb, hn, h⟩
  have hl : ds.length = 1 := hs.length.symm
  have sp1 : Φ k_wzag = wzag_s := by rw [hΦ]; rfl
  have sp2 : Φ k_Cl8 = Cl8_s := by rw [hΦ]; rfl
  clear hΦ
  have hH : Has E0.Δ (.list 5) (ds.getD 0 (.bool false)) := all2_get hs (i := 0) rfl
  have hlen : (argL ds 0).length = l.length := by rw [hx, u8R_len]
  simp only [tr_wTake, wp, den_int, den_bool, den_nili, den_ar, den_cmp, den_not, den_len, den_elem, den_isnil, den_errI, den_ifc, den_rep, den_push, den_app, den_emp, den_upd, row0_econs, row0_enil, den_and, den_beq, den_nil, toInt_int, toBool_bool, xs_rows, xs_list, dflt_int, dflt_bool, of_eq, of_ne, of_lt, of_le, of_gt, of_ge, of_add, of_sub, of_rem, List.map_cons, List.map_nil, Dat.bool.injEq, decide_eq_true_eq, decide_eq_false_iff_not, Bool.not_eq_true', Bool.not_eq_false', beq_iff_eq, bne_iff_ne, beq_eq_false_iff_ne, bne_eq_false_iff_eq, ne_eq, List.append_assoc, List.cons_append, List.nil_append, allS, sp1, sp2, wzag_s, Cl8_s, den_conv, den_ite, den_or, den_cutT, ite_dati, toInt_int, argL_c0, argI_c0, Int.toNat_zero, @den_var0 E0.Δ ds, den_varA, den_varB, hl, Nat.reduceLT, Nat.reduceLeDiff, Nat.reduceSub, List.getD_cons_zero, List.getD_cons_succ, argL_fold ds, argI_fold ds, List.append_assoc, List.cons_append, List.nil_append, toInt_int, toBool_bool, xs_rows, xs_list, Int.toNat_natCast, Dat.bool.injEq]
  obtain ⟨M, hM⟩ : ∃ M : Nat, M = min l.length 10 := ⟨_, rfl⟩
  have hMle : M ≤ l.length := by omega
  have hMi : (if (10 : Int) < ((argL ds 0).length : Int) then (10 : Int) else ((argL ds 0).length : Int)) = (M : Int) := by rw [hlen]; split <;> omega
  have hcut : (cutD 0 M (ds.getD 0 (.bool false))).xs = u8R (l.take M) := by
    rw [xs_cutD hH (Nat.zero_le _) (by rw [argL_fold, hlen]; exact hMle), argL_fold, hx, List.drop_zero]
    simp [u8R, List.map_take]
  rw [hMi]
  simp only [Int.toNat_natCast, hcut, u8R_len, List.length_take, Nat.min_eq_left hMle]
  refine ⟨by omega, by omega, fun xs m => ∃ (i X : Nat) (z : Int) (d1 d2 : Dat), xs = [.int .i64 z, d1, d2, .int .u64 (X : Int), .int .i64 (i : Int)] ∧ i ≤ M ∧ X < 128 ^ i ∧ mth.tk i X (l.drop i) = mth.tk 0 0 l ∧ m = M - i, ⟨_, 0, 0, _, _, _, rfl, by omega, by simp, by simp, rfl⟩, ?_⟩
  rintro z d1 hd1 d2 hd2 X' i' m ⟨i, X, _, _, _, e, hiM, hX, htk, hm⟩
  cases e
  refine ⟨fun hlt => ?_, fun hge => ?_⟩
  · have hi2 : i < M := by omega
    have hil : i < l.length := by omega
    have hi10 : i < 10 := by omega
    have hcell : ((u8R (l.take M)).getD i []).getD 0 (.int .u8 0) = .int .u8 (l[i] : Int) := by
      rw [u8R_get (by simp; omega)]; simp
    have hc := hb _ (List.getElem_mem hil)
    have e7 : IntKind.u64.wrap (Ar.mul.of .i64 (i : Int) 7) = ((i * 7 : Nat) : Int) := by
      show IntKind.u64.wrap (IntKind.i64.wrap ((i : Int) * 7)) = _
      rw [wrap64 (by omega) (by omega), IntKind.wrap_u64]; omega
    have hand : Ar.and.of .u8 (l[i] : Int) 128 = if (128 : Int) ≤ (l[i] : Int) then 128 else 0 := u8_and128 _ hc
    have handn : Ar.andNot.of .u8 (l[i] : Int) 128 = ((l[i] % 128 : Nat) : Int) := u8_andNot128 _ hc
    have hshl : ∀ d : Nat, d < 256 → X + 128 ^ i * d < 18446744073709551616 → Ar.or.of .u64 (X : Int) (Ar.shl.of .u64 (IntKind.u64.wrap (d : Int)) ((i * 7 : Nat) : Int)) = ((X + 128 ^ i * d : Nat) : Int) := fun d hd h64 => by
      have e1 : IntKind.u64.wrap (d : Int) = (d : Int) := by rw [IntKind.wrap_u64]; omega
      have e2 : Ar.shl.of .u64 (d : Int) ((i * 7 : Nat) : Int) = IntKind.u64.wrap ((d : Int) * 2 ^ (i * 7)) := by
        show IntKind.u64.wrap ((d : Int) * 2 ^ (min ((i * 7 : Nat) : Int).toNat 64)) = _
        rw [Int.toNat_natCast, Nat.min_eq_left (by omega)]
      rw [e1, e2]
      exact or_part X d i hX h64
    have hdrop : l.drop i = l[i] :: l.drop (i + 1) := List.drop_eq_getElem_cons hil
    rw [hdrop] at htk
    simp only [Int.toNat_natCast, hcell, toInt_int, e7, hand, handn]
    refine ⟨by omega, by omega, fun h9 => ?_, fun h9 => ⟨fun hm128 => ?_, fun hm128 => ⟨fun h0 => ?_, fun h0 => ?_⟩⟩⟩
    · intro A c
      simp only [Bool.and_eq_true, beq_iff_eq, decide_eq_true_eq] at h9
      rw [mth.tk_nine (by omega) (by omega)] at htk
      rw [← htk] at h
      exact h _ rfl
    · have h9' : ¬ (i = 9 ∧ 1 < l[i]) := fun hh => by
        rw [decide_eq_true (show (1 : Int) < (l[i] : Int) by omega)] at h9
        simp at h9; omega
      have h128 : 128 ≤ l[i] := by
        apply Classical.byContradiction; intro hlt2
        rw [if_neg (by omega)] at hm128; exact hm128 rfl
      have hi8 : i ≤ 8 := by omega
      rw [mth.tk_more hi10 h9' h128] at htk
      have hps := mth.pow_step i X (l[i] % 128) hX (Nat.mod_lt _ (by decide))
      have hp9 := mth.pow_le9 (i + 1) (by omega)
      rw [hshl _ (by omega) (by omega)]
      refine ⟨M - (i + 1), by omega, i + 1, _, z, d1, d2, ?_, by omega, hps, htk, rfl⟩
      rw [wrap64 (by omega) (by omega)]; rfl
    · intro A c
      simp only [Bool.and_eq_true, beq_iff_eq, decide_eq_true_eq] at h0
      rw [mth.tk_zero hi10 (by omega) (by omega)] at htk
      rw [← htk] at h
      exact h _ rfl
    · have h9' : ¬ (i = 9 ∧ 1 < l[i]) := fun hh => by
        rw [decide_eq_true (show (1 : Int) < (l[i] : Int) by omega)] at h9
        simp at h9; omega
      have h128 : ¬ 128 ≤ l[i] := fun hh => by
        rw [if_pos (by omega)] at hm128; exact absurd hm128 (by decide)
      have h0' : ¬ (l[i] = 0 ∧ 0 < i) := fun hh => by
        rw [decide_eq_true (show (0 : Int) < (i : Int) by omega)] at h0
        simp at h0; omega
      have h64 := mth.below64 i X l[i] hi10 hX h9' (by omega)
      rw [mth.tk_end hi10 h9' h128 h0'] at htk
      have em : l[i] % 128 = l[i] := Nat.mod_eq_of_lt (by omega)
      rw [em, hshl _ hc h64]
      rw [wrap64 (by omega) (by omega)]
      have hc2 : (cutD ((i : Int) + 1).toNat (argL ds 0).length (ds.getD 0 (.bool false))).xs = u8R (l.drop (i + 1)) := by
        rw [show ((i : Int) + 1).toNat = i + 1 by omega, xs_cutD hH (by rw [hlen]; omega) (by rw [argL_fold]; exact Nat.le_refl _), argL_fold, List.take_of_length_le (Nat.le_refl _), hx]
        simp [u8R, List.map_drop]
      simp only [hc2, u8R_len, List.length_drop]
      refine ⟨by omega, by rw [hlen]; omega, _, h64, rfl, by omega, fun A c => ?_⟩
      rw [← htk] at h
      refine h _ ?_
      rw [if_pos rfl]; rfl
  · intro A c
    have : mth.tk 0 0 l = (0, 0, 7) := by
      rw [← htk]
      by_cases h10 : 10 ≤ i
      · exact mth.tk_ten _ _ _ h10
      · rw [List.drop_of_length_le (by omega)]; rfl
    rw [this] at h
    exact h _ rfl)
noncomputable def con_wTake : Con E0 := ⟨k_wTake, sg_wTake, wTake_s, rfl, bo_wTake, wTake_h⟩
def k_rTake2 : Nat := 44
def sg_rTake2 : Sig := ⟨[(false, [.list 5])], [(false, [.int .i64]), (false, [.int .i64]), (false, [.int .i64])], false, false, true, false, false⟩
def tr_rTake2 : Tree := (.loop [(.int .i64 0), (.int .i64 0), (.int .i64 0), (.int .u64 0), (.int .u64 1), (.int .i64 0)] [(.int .i64), (.int .i64), (.int .i64), (.int .u64), (.int .u64), (.int .i64)]
 (.ite (.and (.cmp .lt (.var 6) (.len (.var 0))) (.cmp .lt (.var 6) (.int .i64 10)))
  (.ob (.or (.not (.cmp .eq (.var 6) (.int .i64 9))) (.cmp .ge (.var 6) (.int .i64 0)))
  (.ite (.and (.cmp .eq (.var 6) (.int .i64 9)) (.cmp .gt (.elem (.var 0) (.var 6) 0 (.int .u8)) (.int .u8 1)))
   (.ret [(.int .i64 0), (.int .i64 0), (.int .i64 2)])
   (.ob (.cmp .ge (.var 6) (.int .i64 0))
   (.ob (.cmp .ge (.var 6) (.int .i64 0))
   (.ite (.cmp .ge (.elem (.var 0) (.var 6) 0 (.int .u8)) (.int .u8 128))
    (.again 0 [(.var 1), (.var 2), (.var 3), (.ar .add .u64 (.var 4) (.ar .mul .u64 (.var 5) (.conv .u64 (.ar .rem .u8 (.elem (.var 0) (.var 6) 0 (.int .u8)) (.int .u8 128))))), (.ar .mul .u64 (.var 5) (.int .u64 128)), (.ar .add .i64 (.var 6) (.int .i64 1))])
    (.ob (.cmp .ge (.var 6) (.int .i64 0))
    (.ite (.and (.cmp .eq (.elem (.var 0) (.var 6) 0 (.int .u8)) (.int .u8 0)) (.cmp .gt (.var 6) (.int .i64 0)))
     (.ret [(.int .i64 0), (.int .i64 0), (.int .i64 2)])
     (.ite (.cmp .eq (.ar .rem .u64 (.ar .add .u64 (.var 4) (.ar .mul .u64 (.var 5) (.conv .u64 (.ar .rem .u8 (.elem (.var 0) (.var 6) 0 (.int .u8)) (.int .u8 128))))) (.int .u64 2)) (.int .u64 0))
      (.ret [(.conv .i64 (.ar .quo .u64 (.ar .add .u64 (.var 4) (.ar .mul .u64 (.var 5) (.conv .u64 (.ar .rem .u8 (.elem (.var 0) (.var 6) 0 (.int .u8)) (.int .u8 128))))) (.int .u64 2))), (.ar .add .i64 (.var 6) (.int .i64 1)), (.int .i64 0)])
      (.ret [(.ar .sub .i64 (.ar .sub .i64 (.int .i64 0) (.conv .i64 (.ar .quo .u64 (.ar .add .u64 (.var 4) (.ar .mul .u64 (.var 5) (.conv .u64 (.ar .rem .u8 (.elem (.var 0) (.var 6) 0 (.int .u8)) (.int .u8 128))))) (.int .u64 2)))) (.int .i64 1)), (.ar .add .i64 (.var 6) (.int .i64 1)), (.int .i64 0)])))))))))
  (.ret [(.int .i64 0), (.int .i64 0), (.int .i64 7)])))
theorem wk_rTake2 : walk E0.cx (sgsN []) 0 44 sg_rTake2 = tr_rTake2 := by kernel_rfl
theorem bo_rTake2 : ∃ x, bodyOf E0.P 44 = some x := bo_of (by kernel_rfl)
def rTake2_s : Spec := fun ds Q => ∃ l : List Nat, argL ds 0 = u8R l ∧ (∀ c ∈ l, c < 256) ∧ l.length ≤ 90000000 ∧ Q [.int .i64 (mth.tk 0 0 l).1, .int .i64 ((mth.tk 0 0 l).2.1 : Nat), .int .i64 (mth.tk 0 0 l).2.2]
theorem rTake2_h : Holds E0 k_rTake2 sg_rTake2 rTake2_s := con_fn wf0 mix0 g0 [] rfl wk_rTake2 rfl (by
  intro Φ hΦ ds Q hs ⟨l, hx, hb, hn, h⟩
  have hl : ds.length = 1 := hs.length.symm
  clear hΦ
  have hlen : (argL ds 0).length = l.length := by rw [hx, u8R_len]
  simp only [tr_rTake2, wp, den_int, den_bool, den_nili, den_ar, den_cmp, den_not, den_len, den_elem, den_isnil, den_errI, den_ifc, den_rep, den_push, den_app, den_emp, den_upd, row0_econs, row0_enil, den_and, den_beq, den_nil, toInt_int, toBool_bool, xs_rows, xs_list, dflt_int, dflt_bool, of_eq, of_ne, of_lt, of_le, of_gt, of_ge, of_add, of_sub, of_rem, List.map_cons, List.map_nil, Dat.bool.injEq, decide_eq_true_eq, decide_eq_false_iff_not, Bool.not_eq_true', Bool.not_eq_false', beq_iff_eq, bne_iff_ne, beq_eq_false_iff_ne, bne_eq_false_iff_eq, ne_eq, List.append_assoc, List.cons_append, List.nil_append, allS, den_conv, den_ite, den_or, @den_var0 E0.Δ ds, den_varA, den_varB, hl, Nat.reduceLT, Nat.reduceLeDiff, Nat.reduceSub, List.getD_cons_zero, List.getD_cons_succ, argL_fold ds, argI_fold ds, List.append_assoc, List.cons_append, List.nil_append, toInt_int, toBool_bool, xs_rows, xs_list, Int.toNat_natCast, Dat.bool.injEq]
  rw [hlen]
  refine ⟨fun xs m => ∃ (i X : Nat) (z1 z2 z3 : Int), xs = [.int .i64 z1, .int .i64 z2, .int .i64 z3, .int .u64 (X : Int), .int .u64 ((128 ^ i : Nat) : Int), .int .i64 (i : Int)] ∧ i ≤ l.length ∧ i ≤ 10 ∧ X < 128 ^ i ∧ mth.tk i X (l.drop i) = mth.tk 0 0 l ∧ m = 10 - i, ⟨_, 0, 0, _, _, _, rfl, by omega, by omega, by simp, by simp, rfl⟩, ?_⟩
  rintro z1 z2 z3 X' w' i' m ⟨i, X, _, _, _, e, hil', hi10', hX, htk, hm⟩
  cases e
  refine ⟨fun hlt => ?_, fun hge => ?_⟩
  · simp only [Bool.and_eq_true, decide_eq_true_eq] at hlt
    have hil : i < l.length := by omega
    have hi10 : i < 10 := by omega
    have hcell : ((argL ds 0).getD i []).getD 0 (.int .u8 0) = .int .u8 (l[i] : Int) := by rw [hx, u8R_get hil]
    have hc := hb _ (List.getElem_mem hil)
    have hdrop : l.drop i = l[i] :: l.drop (i + 1) := List.drop_eq_getElem_cons hil
    rw [hdrop] at htk
    have hacc : X + 128 ^ i * (l[i] % 128) < 18446744073709551616 → IntKind.u64.wrap ((X : Int) + Ar.mul.of .u64 ((128 ^ i : Nat) : Int) (IntKind.u64.wrap (Int.tmod (l[i] : Int) 128))) = ((X + 128 ^ i * (l[i] % 128) : Nat) : Int) := fun h64 => by
      rw [Int.tmod_eq_emod_of_nonneg (by omega)]
      have e1 : IntKind.u64.wrap ((l[i] : Int) % 128) = ((l[i] % 128 : Nat) : Int) := by rw [IntKind.wrap_u64]; omega
      rw [e1]
      show IntKind.u64.wrap ((X : Int) + IntKind.u64.wrap (((128 ^ i : Nat) : Int) * ((l[i] % 128 : Nat) : Int))) = _
      rw [← Int.natCast_mul, IntKind.wrap_u64, IntKind.wrap_u64]
      omega
    simp only [Int.toNat_natCast, hcell, toInt_int]
    refine ⟨by simp, fun h9 => ?_, fun h9 => ⟨by omega, by omega, fun h128 => ?_, fun h128 => ⟨by omega, fun h0 => ?_, fun h0 => ?_⟩⟩⟩
    · simp only [Bool.and_eq_true, beq_iff_eq, decide_eq_true_eq] at h9
      rw [mth.tk_nine (by omega) (by omega)] at htk
      rw [← htk] at h
      exact h
    · have h9' : ¬ (i = 9 ∧ 1 < l[i]) := fun hh => by
        rw [decide_eq_true (show (1 : Int) < (l[i] : Int) by omega)] at h9
        simp at h9; omega
      have hi8 : i ≤ 8 := by omega
      rw [mth.tk_more hi10 h9' (by omega)] at htk
      have hps := mth.pow_step i X (l[i] % 128) hX (Nat.mod_lt _ (by decide))
      have hp9 := mth.pow_le9 (i + 1) (by omega)
      rw [hacc (by omega)]
      refine ⟨10 - (i + 1), by omega, i + 1, _, z1, z2, z3, ?_, by omega, by omega, hps, htk, rfl⟩
      have e1 : Ar.mul.of .u64 ((128 ^ i : Nat) : Int) 128 = ((128 ^ (i + 1) : Nat) : Int) := by
        show IntKind.u64.wrap (((128 ^ i : Nat) : Int) * 128) = _
        have e2 : ((128 ^ i : Nat) : Int) * 128 = ((128 ^ (i + 1) : Nat) : Int) := by rw [Nat.pow_succ]; omega
        rw [e2, IntKind.wrap_u64]; omega
      rw [e1, wrap64 (by omega) (by omega)]; rfl
    · simp only [Bool.and_eq_true, beq_iff_eq, decide_eq_true_eq] at h0
      rw [mth.tk_zero hi10 (by omega) (by omega)] at htk
      rw [← htk] at h
      exact h
    · have h9' : ¬ (i = 9 ∧ 1 < l[i]) := fun hh => by
        rw [decide_eq_true (show (1 : Int) < (l[i] : Int) by omega)] at h9
        simp at h9; omega
      have h0' : ¬ (l[i] = 0 ∧ 0 < i) := fun hh => by
        rw [decide_eq_true (show (0 : Int) < (i : Int) by omega)] at h0
        simp at h0; omega
      have h64 := mth.below64 i X l[i] hi10 hX h9' (by omega)
      have em : l[i] % 128 = l[i] := Nat.mod_eq_of_lt (by omega)
      rw [mth.tk_end hi10 h9' (by omega) h0'] at htk
      rw [em] at hacc
      rw [hacc h64]
      rw [← htk] at h
      generalize X + 128 ^ i * l[i] = Y at *
      have w64 : ∀ y, IntKind.i64.wrap y = RowKit.wrap64 y := fun y => by rw [IntKind.wrap_i64, RowKit.wrap64]
      have eq1 : Ar.quo.of .u64 (Y : Int) 2 = IntKind.u64.wrap ((Y : Int) / 2) := by
        show IntKind.u64.wrap ((Y : Int).tdiv 2) = _
        rw [Int.tdiv_eq_ediv_of_nonneg (by omega)]
      rw [eq1, wrap64 (x := (i : Int) + 1) (by omega) (by omega)]
      refine ⟨fun he => ?_, fun he => ?_⟩
      · rw [Int.tmod_eq_emod_of_nonneg (by omega)] at he
        rw [w64, zag_e Y h64 (by omega)]
        exact h
      · rw [Int.tmod_eq_emod_of_nonneg (by omega)] at he
        rw [w64, w64, w64, Int.zero_sub, zag_o Y h64 (by omega)]
        exact h
  · have hge' : ¬ (i < l.length ∧ i < 10) := fun ⟨a, b⟩ => by
      rw [decide_eq_true (show (i : Int) < (l.length : Int) by omega), decide_eq_true (show (i : Int) < 10 by omega)] at hge
      cases hge
    have : mth.tk 0 0 l = (0, 0, 7) := by
      rw [← htk]
      by_cases h10 : 10 ≤ i
      · exact mth.tk_ten _ _ _ h10
      · rw [List.drop_of_length_le (by omega)]; rfl
    rw [this] at h
    exact h)
noncomputable def con_rTake2 : Con E0 := ⟨k_rTake2, sg_rTake2, rTake2_s, rfl, bo_rTake2, rTake2_h⟩
end Go.Proofs.YtnhahmgbgocdgaaDoor
end

section
namespace Go.Proofs.YtnhahmgbgocdgaaDoor
open Go.RowKit
set_option linter.unusedVariables false
set_option linter.unusedSimpArgs false

theorem byte_has {d : Dat} (h : Has E0.Δ (.list 5) d) (hi : InD d) : ∃ l : List Nat, d.xs = u8R l ∧ (∀ c ∈ l, c < 256) ∧ l.length ≤ maxLen := by
  cases h with
  | list _ A n c xs hl hh =>
    cases hi with
    | list v sz _ hm hr =>
      have key : ∀ xs : List (List Dat), (∀ r ∈ xs, r.length = (E0.Δ.row 5).length) → (∀ row ∈ xs, ∀ (c : Nat) (s : Srt) (d : Dat), (E0.Δ.row 5)[c]? = some s → row[c]? = some d → Has E0.Δ s d) → (∀ r ∈ xs, ∀ d ∈ r, InD d) → ∃ l : List Nat, xs = u8R l ∧ ∀ c ∈ l, c < 256 := by
        intro xs
        induction xs with
        | nil => intro _ _ _; exact ⟨[], rfl, by simp⟩
        | cons x xs ih =>
          intro h1 h2 h3
          obtain ⟨l, e1, e2⟩ := ih (fun r hr => h1 r (List.mem_cons_of_mem _ hr)) (fun r hr => h2 r (List.mem_cons_of_mem _ hr)) (fun r hr => h3 r (List.mem_cons_of_mem _ hr))
          have hx := h2 x List.mem_cons_self
          have hin := h3 x List.mem_cons_self
          have hlx : x.length = 1 := h1 x List.mem_cons_self
          match x, hlx with
          | [d], _ =>
            have hd : Has E0.Δ (.int .u8) d := hx 0 _ d rfl rfl
            have hid := hin d List.mem_cons_self
            cases hd with
            | int k n =>
              cases hid with
              | int _ _ hw =>
                simp only [Lit.wf, Bool.and_eq_true, decide_eq_true_eq] at hw
                have h0 : 0 ≤ n := hw.1
                have h255 : n ≤ 255 := hw.2
                obtain ⟨m, rfl⟩ := Int.eq_ofNat_of_zero_le h0
                refine ⟨m :: l, by rw [e1]; rfl, fun c hc => ?_⟩
                rcases List.mem_cons.1 hc with rfl | hc
                · omega
                · exact e2 c hc
      obtain ⟨l, e1, e2⟩ := key xs hl hh hr
      exact ⟨l, e1, e2, by simpa [e1, u8R_len] using hm⟩
theorem encI_byte {n : Int} (h1 : -9223372036854775808 ≤ n) (h2 : n ≤ 9223372036854775807) : ∀ c ∈ mth.encI n, c < 256 := by
  have h := mth.zig_lt n h1 h2
  exact mth.encF_byte 9 _ (Nat.lt_of_lt_of_le h (by decide))
/-- bytes are the same -/
theorem loop_toList (b : ByteArray) : ∀ (n i : Nat) (r : List UInt8), b.size - i = n → ByteArray.toList.loop b i r = r.reverse ++ b.data.toList.drop i
  | 0, i, r, h => by
    unfold ByteArray.toList.loop
    have hs : b.data.toList.length = b.size := Array.length_toList
    rw [if_neg (by omega), List.drop_of_length_le (by omega), List.append_nil]
  | n + 1, i, r, h => by
    unfold ByteArray.toList.loop
    have hs : b.data.toList.length = b.size := Array.length_toList
    have hi : i < b.data.toList.length := by omega
    rw [if_pos (by omega), loop_toList b n (i + 1) _ (by omega), List.drop_eq_getElem_cons hi]
    have : b.get! i = b.data.toList[i] := by
      have : i < b.data.size := by simpa using hi
      simp only [ByteArray.get!]
      rw [Array.getElem_toList, getElem!_pos b.data i this]
    rw [this]
    simp
theorem toList_data (b : ByteArray) : b.toList = b.data.toList := (loop_toList b _ 0 [] rfl).trans (by simp)
theorem bytesOf_u8R (l : List Nat) : bytesOf (u8R l) = ⟨(l.map UInt8.ofNat).toArray⟩ := by
  have e : ∀ a : Nat, (Dat.int .u8 (a : Int)).toInt.toNat = a := fun a => rfl
  simp [bytesOf, u8R, e]
theorem u8_inj : ∀ {l m : List Nat}, (∀ c ∈ l, c < 256) → (∀ c ∈ m, c < 256) → (l.map UInt8.ofNat = m.map UInt8.ofNat ↔ l = m)
  | [], [], _, _ => by simp
  | [], _ :: _, _, _ => by simp
  | _ :: _, [], _, _ => by simp
  | a :: l, b :: m, h1, h2 => by
    have ih := u8_inj (fun c hc => h1 c (List.mem_cons_of_mem _ hc)) (fun c hc => h2 c (List.mem_cons_of_mem _ hc))
    have ha := h1 a List.mem_cons_self
    have hb := h2 b List.mem_cons_self
    simp only [List.map_cons, List.cons.injEq, ih]
    refine and_congr_left fun _ => ⟨fun h => ?_, fun h => by rw [h]⟩
    have := congrArg UInt8.toNat h
    rw [UInt8.toNat_ofNat', UInt8.toNat_ofNat'] at this
    omega
theorem u8R_inj {l m : List Nat} (h : u8R l = u8R m) : l = m := by
  have h2 := congrArg (List.map fun r : List Dat => (r.headD (.int .u8 0)).toInt.toNat) h
  have e : ∀ l : List Nat, (u8R l).map (fun r : List Dat => (r.headD (.int .u8 0)).toInt.toNat) = l := fun l => by
    unfold u8R
    rw [List.map_map]
    exact (List.map_congr_left fun a _ => rfl).trans (List.map_id l)
  rw [e, e] at h2
  exact h2
theorem strD_toList {l : List Nat} : (strD (.val (.string (bytesOf (u8R l))))).toList = l.map UInt8.ofNat := by
  rw [bytesOf_u8R, strD, toList_data]
def k_sameB : Nat := 10
def sg_sameB : Sig := ⟨[(false, [.list 5]), (false, [.list 5])], [(false, [.bool])], false, false, false, false, false⟩
def tr_sameB : Tree := (.ret [(.seq (.sof (.var 0)) (.sof (.var 1)))])
theorem wk_sameB : walk E0.cx (sgsN []) 0 10 sg_sameB = tr_sameB := by kernel_rfl
theorem bo_sameB : ∃ x, bodyOf E0.P 10 = some x := bo_of (by kernel_rfl)
def sameB_s : Spec := fun ds Q => ∃ l m : List Nat, argL ds 0 = u8R l ∧ argL ds 1 = u8R m ∧ (∀ c ∈ l, c < 256) ∧ (∀ c ∈ m, c < 256) ∧ Q [.bool (decide (l = m))]
theorem sameB_h : Holds E0 k_sameB sg_sameB sameB_s := con_fn wf0 mix0 g0 [] rfl wk_sameB rfl (by
  intro Φ hΦ ds Q hs ⟨l, m, h1, h2, h3, h4, h⟩
  clear hΦ
  simp only [tr_sameB, wp, List.map_cons, List.map_nil, den, argL_fold, h1, h2, strD_toList]
  refine cast (congrArg Q ?_) h
  have e := u8_inj h3 h4
  congr 2
  rw [Bool.eq_iff_iff, decide_eq_true_eq, beq_iff_eq, e])
noncomputable def con_sameB : Con E0 := ⟨k_sameB, sg_sameB, sameB_s, rfl, bo_sameB, sameB_h⟩
end Go.Proofs.YtnhahmgbgocdgaaDoor
end

section
namespace Go.Proofs.YtnhahmgbgocdgaaDoor
open Go.RowKit
set_option linter.unusedVariables false
set_option linter.unusedSimpArgs false

def k_wPutL : Nat := 37
def sg_wPutL : Sig := ⟨[(false, [.list 5]), (false, [.int .i64])], [(false, [.list 5])], false, false, false, false, false⟩
def tr_wPutL : Tree := (.call k_Cl8 [(.var 0)] [(.rows 5)]
(.loop [(.app .emp (.var 2)), (.ar .xor .u64 (.ar .shl .u64 (.conv .u64 (.var 1)) (.int .u64 1)) (.conv .u64 (.ar .shr .i64 (.var 1) (.int .u64 63))))] [(.rows 5), (.int .u64)]
 (.ite (.cmp .ge (.var 4) (.int .u64 128))
  (.ob (.cmp .le (.len (.push (.var 3) (.econs (.ar .or .u8 (.conv .u8 (.var 4)) (.int .u8 128)) .enil))) (.int .i64 140737488355328))
  (.again 0 [(.push (.var 3) (.econs (.ar .or .u8 (.conv .u8 (.var 4)) (.int .u8 128)) .enil)), (.ar .shr .u64 (.var 4) (.int .u64 7))]))
  (.ob (.cmp .le (.len (.push (.var 3) (.econs (.conv .u8 (.var 4)) .enil))) (.int .i64 140737488355328))
  (.share 5 (.push (.var 3) (.econs (.conv .u8 (.var 4)) .enil))
  (.ret [(.var 5)]))))))
theorem wk_wPutL : walk E0.cx (sgsN [(55, sg_Cl8)]) 0 37 sg_wPutL = tr_wPutL := by kernel_rfl
theorem bo_wPutL : ∃ x, bodyOf E0.P 37 = some x := bo_of (by kernel_rfl)
theorem sp_wPutL_Cl8 : specC [con_Cl8] k_Cl8 = Cl8_s := rfl
def wPutL_s : Spec := fun ds Q => (argL ds 0).length ≤ 90000000 ∧ -9223372036854775808 ≤ argI ds 1 ∧ argI ds 1 ≤ 9223372036854775807 ∧ ∀ d : Dat, d.xs = argL ds 0 ++ u8R (mth.encI (argI ds 1)) → Q [d]
theorem wPutL_h : Holds E0 k_wPutL sg_wPutL wPutL_s := con_fn wf0 mix0 g0 [con_Cl8] rfl wk_wPutL rfl (by
  intro Φ hΦ ds Q hs ⟨hn, n1, n2, h⟩
  have hl : ds.length = 2 := hs.length.symm
  have sp : Φ k_Cl8 = Cl8_s := by rw [hΦ]; rfl
  clear hΦ
  simp only [tr_wPutL, wp, den_int, den_bool, den_nili, den_ar, den_cmp, den_not, den_len, den_elem, den_isnil, den_errI, den_ifc, den_rep, den_push, den_app, den_emp, den_upd, row0_econs, row0_enil, den_and, den_beq, den_nil, toInt_int, toBool_bool, xs_rows, xs_list, dflt_int, dflt_bool, of_eq, of_ne, of_lt, of_le, of_gt, of_ge, of_add, of_sub, of_rem, List.map_cons, List.map_nil, Dat.bool.injEq, decide_eq_true_eq, decide_eq_false_iff_not, Bool.not_eq_true', Bool.not_eq_false', beq_iff_eq, bne_iff_ne, beq_eq_false_iff_ne, bne_eq_false_iff_eq, ne_eq, List.append_assoc, List.cons_append, List.nil_append, allS, sp, Cl8_s, den_conv, argL_c0, @den_var0 E0.Δ ds, den_varA, den_varB, hl, Nat.reduceLT, Nat.reduceLeDiff, Nat.reduceSub, List.getD_cons_zero, List.getD_cons_succ, argL_fold ds, argI_fold ds, List.append_assoc, List.cons_append, List.nil_append, toInt_int, toBool_bool, xs_rows, xs_list, Int.toNat_natCast, Dat.bool.injEq]
  rw [zig_of _ n1 n2]
  have hX := mth.zig_lt _ n1 n2
  refine ⟨by omega, fun xs m => ∃ (k y : Nat) (dn : List Nat), mth.Going (mth.zig (argI ds 1)) k y dn ∧ xs = [.rows (argL ds 0 ++ u8R dn), .int .u64 (y : Int)] ∧ m = y, ⟨_, 0, _, [], mth.going_start _ hX, by simp [u8R], rfl⟩, ?_⟩
  rintro d hd n m ⟨k, y, dn, hg, e, hm⟩
  cases e
  have hlen := hg.len
  have hk := hg.hk
  have hle := hg.le
  refine ⟨fun h128 => ⟨?_, ?_⟩, fun h128 => ⟨?_, ?_⟩⟩
  · simp only [xs_rows, List.length_append, u8R_len, List.length_cons, List.length_nil]; omega
  · have hy : ¬ y < 128 := by omega
    refine ⟨y / 128, by omega, k + 1, y / 128, _, mth.going_step hg hy, ?_, rfl⟩
    rw [or128_of y (by omega), shr7, u8R_app, ← List.append_assoc]; rfl
  · simp only [xs_rows, List.length_append, u8R_len, List.length_cons, List.length_nil]; omega
  · have hy : y < 128 := by omega
    have he := (mth.going_end hg hy).1
    have ew : IntKind.u8.wrap (y : Int) = (y : Int) := by rw [IntKind.wrap_u8]; omega
    rw [ew]
    have e2 : u8R (mth.encI (argI ds 1)) = u8R dn ++ [[.int .u8 (y : Int)]] := by
      rw [mth.encI, ← he, u8R_app]; rfl
    rw [e2, ← List.append_assoc] at h
    exact fun A c => h _ (by rw [xs_list]; rfl))
noncomputable def con_wPutL : Con E0 := ⟨k_wPutL, sg_wPutL, wPutL_s, rfl, bo_wPutL, wPutL_h⟩
def encs (l : List Int) : List Nat := l.flatMap mth.encI
theorem encs_app (l m : List Int) : encs (l ++ m) = encs l ++ encs m := List.flatMap_append
theorem encs_len (l : List Int) : (encs l).length ≤ 10 * l.length := by
  induction l with
  | nil => exact Nat.le_refl _
  | cons a l ih =>
    have := (mth.enc_len (mth.zig a)).2
    show (mth.encI a ++ encs l).length ≤ _
    rw [List.length_append, List.length_cons]
    have h2 : (mth.encI a).length ≤ 10 := this
    omega
def okN (n : Int) : Prop := -9223372036854775808 ≤ n ∧ n ≤ 9223372036854775807
theorem num_at {l : List (List Dat)} {i : Nat} (h : i < l.length) : rowI (l.getD i []) 0 = (nums l).getD i 0 := by
  rw [List.getD_eq_getElem?_getD (l := nums l), nums_get h]; rfl
def k_cPut : Nat := 16
def sg_cPut : Sig := ⟨[(false, [.list 5]), (false, [.list 3])], [(false, [.list 5])], false, false, false, false, false⟩
def tr_cPut : Tree := (.loop [(.var 0), (.int .i64 0)] [(.list 5), (.int .i64)]
 (.ite (.cmp .lt (.var 3) (.len (.var 1)))
  (.ob (.cmp .ge (.var 3) (.int .i64 0))
  (.call k_wPutL [(.var 2), (.elem (.var 1) (.var 3) 0 (.int .i64))] [(.list 5)]
  (.again 0 [(.var 4), (.ar .add .i64 (.var 3) (.int .i64 1))])))
  (.ret [(.var 2)])))
theorem wk_cPut : walk E0.cx (sgsN [(37, sg_wPutL)]) 0 16 sg_cPut = tr_cPut := by kernel_rfl
theorem bo_cPut : ∃ x, bodyOf E0.P 16 = some x := bo_of (by kernel_rfl)
theorem sp_cPut_wPutL : specC [con_wPutL] k_wPutL = wPutL_s := rfl
def cPut_s : Spec := fun ds Q => (argL ds 0).length + 10 * (argL ds 1).length ≤ 90000000 ∧ (∀ n ∈ nums (argL ds 1), okN n) ∧ ∀ d : Dat, d.xs = argL ds 0 ++ u8R (encs (nums (argL ds 1))) → Q [d]
theorem cPut_h : Holds E0 k_cPut sg_cPut cPut_s := con_fn wf0 mix0 g0 [con_wPutL] rfl wk_cPut rfl (by
  intro Φ hΦ ds Q hs ⟨hlen, hok, h⟩
  have hl : ds.length = 2 := hs.length.symm
  have sp : Φ k_wPutL = wPutL_s := by rw [hΦ]; rfl
  clear hΦ
  have hnl := nums_len (argL ds 1)
  have hat : ∀ i, i < (argL ds 1).length → rowI ((argL ds 1).getD i []) 0 = (nums (argL ds 1)).getD i 0 := fun i hi => num_at hi
  simp only [tr_cPut, wp, den_int, den_bool, den_nili, den_ar, den_cmp, den_not, den_len, den_elem, den_isnil, den_errI, den_ifc, den_rep, den_push, den_app, den_emp, den_upd, row0_econs, row0_enil, den_and, den_beq, den_nil, toInt_int, toBool_bool, xs_rows, xs_list, dflt_int, dflt_bool, of_eq, of_ne, of_lt, of_le, of_gt, of_ge, of_add, of_sub, of_rem, List.map_cons, List.map_nil, Dat.bool.injEq, decide_eq_true_eq, decide_eq_false_iff_not, Bool.not_eq_true', Bool.not_eq_false', beq_iff_eq, bne_iff_ne, beq_eq_false_iff_ne, bne_eq_false_iff_eq, ne_eq, List.append_assoc, List.cons_append, List.nil_append, allS, sp, wPutL_s, @den_var0 E0.Δ ds, den_varA, den_varB, hl, Nat.reduceLT, Nat.reduceLeDiff, Nat.reduceSub, List.getD_cons_zero, List.getD_cons_succ, argL_fold ds, argI_fold ds, List.append_assoc, List.cons_append, List.nil_append, toInt_int, toBool_bool, xs_rows, xs_list, Int.toNat_natCast, Dat.bool.injEq, argL_c0, argI_c0, argI_c1, dflt_int, toInt_getD]
  generalize nums (argL ds 1) = L at *
  refine ⟨fun xs m => ∃ (d : Dat) (k : Nat), xs = [d, .int .i64 k] ∧ k ≤ L.length ∧ m = L.length - k ∧ d.xs = argL ds 0 ++ u8R (encs (L.take k)), ⟨_, _, 0, rfl, by omega, rfl, by rw [List.take_zero, argL_fold]; simp [encs, u8R]⟩, ?_⟩
  rintro d1 hd1 n1 m ⟨d, k, e, hk, hm, hd⟩
  obtain ⟨rfl, rfl⟩ : d1 = d ∧ n1 = (k : Int) := by simpa using e
  subst hm
  refine ⟨fun hlt => ⟨by omega, ?_⟩, fun hge => ?_⟩
  · have hk2 : k < L.length := by omega
    rw [Int.toNat_natCast, hat k (by omega)]
    have ho := hok _ (getD_memL (d := 0) hk2)
    have hel := encs_len (L.take k)
    rw [List.length_take] at hel
    refine ⟨by rw [hd, List.length_append, u8R_len]; omega, ho.1, ho.2, fun d2 hd2 => ⟨_, (by omega : L.length - (k + 1) < _), d2, k + 1, by rw [wrap64 (by omega) (by omega)]; rfl, by omega, rfl, ?_⟩⟩
    rw [hd2, hd, take_succ_getD (d := 0) hk2, encs_app, u8R_app, List.append_assoc]
    congr 3
    simp [encs]
  · have hk3 : k = L.length := by omega
    rw [hk3, List.take_length] at hd
    exact h _ hd)
noncomputable def con_cPut : Con E0 := ⟨k_cPut, sg_cPut, cPut_s, rfl, bo_cPut, cPut_h⟩
def k_wPutList : Nat := 19
def sg_wPutList : Sig := ⟨[(false, [.list 5]), (false, [.list 3])], [(false, [.list 5])], false, false, false, false, false⟩
def tr_wPutList : Tree := (.call k_wPutL [(.var 0), (.len (.var 1))] [(.list 5)]
(.loop [(.var 2), (.int .i64 0)] [(.list 5), (.int .i64)]
 (.ite (.cmp .lt (.var 4) (.len (.var 1)))
  (.ob (.cmp .ge (.var 4) (.int .i64 0))
  (.call k_wPutL [(.var 3), (.elem (.var 1) (.var 4) 0 (.int .i64))] [(.list 5)]
  (.again 0 [(.var 5), (.ar .add .i64 (.var 4) (.int .i64 1))])))
  (.ret [(.var 3)]))))
theorem wk_wPutList : walk E0.cx (sgsN [(37, sg_wPutL)]) 0 19 sg_wPutList = tr_wPutList := by kernel_rfl
theorem bo_wPutList : ∃ x, bodyOf E0.P 19 = some x := bo_of (by kernel_rfl)
theorem sp_wPutList_wPutL : specC [con_wPutL] k_wPutL = wPutL_s := rfl
def wPutList_s : Spec := fun ds Q => (argL ds 0).length + 10 * (argL ds 1).length + 10 ≤ 90000000 ∧ (∀ n ∈ nums (argL ds 1), okN n) ∧ ∀ d : Dat, d.xs = argL ds 0 ++ u8R (encs (((argL ds 1).length : Int) :: nums (argL ds 1))) → Q [d]
theorem wPutList_h : Holds E0 k_wPutList sg_wPutList wPutList_s := con_fn wf0 mix0 g0 [con_wPutL] rfl wk_wPutList rfl (by
  intro Φ hΦ ds Q hs ⟨hlen, hok, h⟩
  have hl : ds.length = 2 := hs.length.symm
  have sp : Φ k_wPutL = wPutL_s := by rw [hΦ]; rfl
  clear hΦ
  have hnl := nums_len (argL ds 1)
  have hat : ∀ i, i < (argL ds 1).length → rowI ((argL ds 1).getD i []) 0 = (nums (argL ds 1)).getD i 0 := fun i hi => num_at hi
  simp only [tr_wPutList, wp, den_int, den_bool, den_nili, den_ar, den_cmp, den_not, den_len, den_elem, den_isnil, den_errI, den_ifc, den_rep, den_push, den_app, den_emp, den_upd, row0_econs, row0_enil, den_and, den_beq, den_nil, toInt_int, toBool_bool, xs_rows, xs_list, dflt_int, dflt_bool, of_eq, of_ne, of_lt, of_le, of_gt, of_ge, of_add, of_sub, of_rem, List.map_cons, List.map_nil, Dat.bool.injEq, decide_eq_true_eq, decide_eq_false_iff_not, Bool.not_eq_true', Bool.not_eq_false', beq_iff_eq, bne_iff_ne, beq_eq_false_iff_ne, bne_eq_false_iff_eq, ne_eq, List.append_assoc, List.cons_append, List.nil_append, allS, sp, wPutL_s, @den_var0 E0.Δ ds, den_varA, den_varB, hl, Nat.reduceLT, Nat.reduceLeDiff, Nat.reduceSub, List.getD_cons_zero, List.getD_cons_succ, argL_fold ds, argI_fold ds, List.append_assoc, List.cons_append, List.nil_append, toInt_int, toBool_bool, xs_rows, xs_list, Int.toNat_natCast, Dat.bool.injEq, argL_c0, argI_c0, argI_c1, dflt_int, toInt_getD]
  generalize nums (argL ds 1) = L at *
  refine ⟨by omega, by omega, by omega, fun d0 hd0 => ?_⟩
  have hl0 : (mth.encI ((argL ds 1).length : Int)).length ≤ 10 := (mth.enc_len _).2
  refine ⟨fun xs m => ∃ (d : Dat) (k : Nat), xs = [d, .int .i64 k] ∧ k ≤ L.length ∧ m = L.length - k ∧ d.xs = argL ds 0 ++ u8R (mth.encI ((argL ds 1).length : Int) ++ encs (L.take k)), ⟨_, _, 0, rfl, by omega, rfl, by rw [List.take_zero, hd0]; simp [encs]⟩, ?_⟩
  rintro d1 hd1 n1 m ⟨d, k, e, hk, hm, hd⟩
  obtain ⟨rfl, rfl⟩ : d1 = d ∧ n1 = (k : Int) := by simpa using e
  subst hm
  refine ⟨fun hlt => ⟨by omega, ?_⟩, fun hge => ?_⟩
  · have hk2 : k < L.length := by omega
    rw [Int.toNat_natCast, hat k (by omega)]
    have ho := hok _ (getD_memL (d := 0) hk2)
    have hel := encs_len (L.take k)
    rw [List.length_take] at hel
    refine ⟨by rw [hd, List.length_append, u8R_len, List.length_append]; omega, ho.1, ho.2, fun d2 hd2 => ⟨_, (by omega : L.length - (k + 1) < _), d2, k + 1, by rw [wrap64 (by omega) (by omega)]; rfl, by omega, rfl, ?_⟩⟩
    rw [hd2, hd, take_succ_getD (d := 0) hk2, encs_app]
    simp only [u8R_app, List.append_assoc, encs, List.flatMap_cons, List.flatMap_nil, List.append_nil]
  · have hk3 : k = L.length := by omega
    rw [hk3, List.take_length] at hd
    exact h _ hd)
noncomputable def con_wPutList : Con E0 := ⟨k_wPutList, sg_wPutList, wPutList_s, rfl, bo_wPutList, wPutList_h⟩
end Go.Proofs.YtnhahmgbgocdgaaDoor
end

section
namespace Go.Proofs.YtnhahmgbgocdgaaDoor
open Go.RowKit
set_option linter.unusedVariables false
set_option linter.unusedSimpArgs false
-- lacks mulligan/mulligannum.Is : Is
def Is_s : Spec := fun ds Q => ∃ n m : Int, ds = [errV n, .int .i64 m] ∧ Q [.bool (n == m)]
end Go.Proofs.YtnhahmgbgocdgaaDoor
end

section
namespace Go.Proofs.YtnhahmgbgocdgaaDoor
open Go.RowKit
set_option linter.unusedVariables false
set_option linter.unusedSimpArgs false

-- lacks mulligan/state.New : New
def st0 : List Dat := [.list (.slice none 0 0) 18 [], .list (.slice none 0 0) 1 [], .list (.slice none 0 0) 1 [], .list (.slice none 0 0) 1 [], .list (.slice none 0 0) 1 [], .list (.slice none 0 0) 1 [], .list (.slice none 0 0) 1 [], .list (.slice none 0 0) 1 [], .list (.slice none 0 0) 1 [], .list (.slice none 0 0) 1 [], .list (.slice none 0 0) 1 [], .list (.slice none 0 0) 1 []] ++ List.replicate 25 (.int .i64 0)
def New_s : Spec := fun ds Q => Q st0
theorem sm0 : Sm st0 := fun i hi => by
  match i, hi with
  | 0, _ | 1, _ | 2, _ | 3, _ | 4, _ | 5, _ | 6, _ | 7, _ | 8, _ | 9, _ | 10, _ | 11, _ => exact Nat.zero_le _
theorem pl0 (d : Dat) : plP (d :: st0.tail) := (plP_iff _).2 fun i hi f hf => by
  match i, hi with
  | 0, _ =>
    match f, hf with
    | 0, _ | 1, _ | 2, _ | 3, _ | 4, _ | 5, _ | 6, _ | 7, _ | 8, _ => rfl
  | 1, _ =>
    match f, hf with
    | 0, _ | 1, _ | 2, _ | 3, _ | 4, _ | 5, _ | 6, _ | 7, _ | 8, _ => rfl
theorem gm0 (d : Dat) : gmP (d :: st0.tail) := ⟨rfl, rfl, rfl, rfl, rfl, rfl, rfl⟩
theorem ids0 (d : Dat) : ids (d :: st0.tail) 11 = [] := rfl
theorem err0 : errP st0 0 := by
  unfold errP
  rw [if_neg (by decide)]
  exact .inr (.inr (.inr ⟨⟨fun o ho => absurd ho (List.not_mem_nil), pl0 _, gm0 _⟩, ⟨fun p hp => absurd hp List.not_mem_nil, List.nodup_nil, rfl⟩, fun o ho => absurd ho List.not_mem_nil, rfl⟩))
theorem err1 {d : Dat} (hd : d.xs = [List.replicate 18 (.int .i64 0)]) : errP (d :: st0.tail) 12 := by
  have hl : (argL (d :: st0.tail) 0) = [List.replicate 18 (.int .i64 0)] := hd
  unfold errP
  rw [if_neg (by rw [hl]; decide)]
  refine .inr (.inl ⟨⟨fun o ho => ?_, pl0 _, gm0 _⟩, fun hP => ?_, rfl⟩)
  · rw [hl] at ho ⊢
    rw [List.mem_singleton.1 ho]; rfl
  · have := hP.2.2
    rw [hl, ids0] at this
    cases this
-- lacks mulligan/mulliganlaw10.alive : alive
def alive_s : Spec := fun ds Q => Q [.bool true]
end Go.Proofs.YtnhahmgbgocdgaaDoor
end
