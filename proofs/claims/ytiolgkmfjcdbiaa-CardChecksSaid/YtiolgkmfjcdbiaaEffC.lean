/-
  Which effects are right: program and document.
-/
import Derived.Test.YtiolgkmfjcdbiaaEffBr
namespace Go.Proofs.Ytiolgkmfjcdbiaa
open Go.RowKit
set_option linter.unusedVariables false
set_option linter.unusedSimpArgs false

def objP (op : Int) : Prop := (6 ≤ op ∧ op ≤ 8) ∨ (10 ≤ op ∧ op ≤ 13) ∨ (23 ≤ op ∧ op ≤ 25)
instance (op : Int) : Decidable (objP op) := by unfold objP; infer_instance
def ofS (op : Int) : Bool := decide (op = 10 ∨ op = 24)
def ofN (op : Int) : Int := if op = 20 then 3 else if op = 22 then 2 else 99
def ofM (op : Int) : Int := if op = 15 then 5 else 99
def ofW (op : Int) : Int := if op = 0 ∨ (20 ≤ op ∧ op ≤ 22) then 1 else if op = 1 then 19 else if op = 9 then 0 else if objP op then 8 else 19
def ofT (op : Int) : Int := if op = 0 ∨ (20 ≤ op ∧ op ≤ 22) then 0 else if op = 1 then 14 else if op = 9 then 16 else if objP op then 34 else 4
def ofA (op : Int) : Int := if 20 ≤ op ∧ op ≤ 22 then 1 else 0
def ofB (op : Int) : Int := if op = 21 then 8 else if op = 22 then 2 else if op = 20 then 1 else 0
def k_eof : Nat := 41
def sg_eof : Sig := ⟨[(false, [.int .i64])], [(true, [.bool] ++ [.int .i64, .int .i64] ++ [.int .u64, .int .u64] ++ [.int .i64, .int .i64])], false, true, false⟩
def tr_eof : Tree := (.ite (.cmp .eq (.var 0) (.int .i64 0))
 (.ret [(.bool false), (.int .i64 99), (.int .i64 99), (.int .u64 1), (.int .u64 0), (.int .i64 0), (.int .i64 0)])
 (.ite (.cmp .eq (.var 0) (.int .i64 21))
  (.ret [(.bool false), (.int .i64 99), (.int .i64 99), (.int .u64 1), (.int .u64 0), (.int .i64 1), (.int .i64 8)])
  (.ite (.cmp .eq (.var 0) (.int .i64 22))
   (.ret [(.bool false), (.int .i64 2), (.int .i64 99), (.int .u64 1), (.int .u64 0), (.int .i64 1), (.int .i64 2)])
   (.ite (.cmp .eq (.var 0) (.int .i64 20))
    (.ret [(.bool false), (.int .i64 3), (.int .i64 99), (.int .u64 1), (.int .u64 0), (.int .i64 1), (.int .i64 1)])
    (.ite (.cmp .eq (.var 0) (.int .i64 1))
     (.ret [(.bool false), (.int .i64 99), (.int .i64 99), (.int .u64 19), (.int .u64 14), (.int .i64 0), (.int .i64 0)])
     (.ite (.cmp .eq (.var 0) (.int .i64 9))
      (.ret [(.bool false), (.int .i64 99), (.int .i64 99), (.int .u64 0), (.int .u64 16), (.int .i64 0), (.int .i64 0)])
      (.ite (.cmp .eq (.var 0) (.int .i64 6))
       (.ret [(.bool false), (.int .i64 99), (.int .i64 99), (.int .u64 8), (.int .u64 34), (.int .i64 0), (.int .i64 0)])
       (.ite (.cmp .eq (.var 0) (.int .i64 7))
        (.ret [(.bool false), (.int .i64 99), (.int .i64 99), (.int .u64 8), (.int .u64 34), (.int .i64 0), (.int .i64 0)])
        (.ite (.cmp .eq (.var 0) (.int .i64 8))
         (.ret [(.bool false), (.int .i64 99), (.int .i64 99), (.int .u64 8), (.int .u64 34), (.int .i64 0), (.int .i64 0)])
         (.ite (.cmp .eq (.var 0) (.int .i64 10))
          (.ret [(.bool true), (.int .i64 99), (.int .i64 99), (.int .u64 8), (.int .u64 34), (.int .i64 0), (.int .i64 0)])
          (.ite (.cmp .eq (.var 0) (.int .i64 11))
           (.ret [(.bool false), (.int .i64 99), (.int .i64 99), (.int .u64 8), (.int .u64 34), (.int .i64 0), (.int .i64 0)])
           (.ite (.cmp .eq (.var 0) (.int .i64 12))
            (.ret [(.bool false), (.int .i64 99), (.int .i64 99), (.int .u64 8), (.int .u64 34), (.int .i64 0), (.int .i64 0)])
            (.ite (.cmp .eq (.var 0) (.int .i64 13))
             (.ret [(.bool false), (.int .i64 99), (.int .i64 99), (.int .u64 8), (.int .u64 34), (.int .i64 0), (.int .i64 0)])
             (.ite (.cmp .eq (.var 0) (.int .i64 23))
              (.ret [(.bool false), (.int .i64 99), (.int .i64 99), (.int .u64 8), (.int .u64 34), (.int .i64 0), (.int .i64 0)])
              (.ite (.cmp .eq (.var 0) (.int .i64 24))
               (.ret [(.bool true), (.int .i64 99), (.int .i64 99), (.int .u64 8), (.int .u64 34), (.int .i64 0), (.int .i64 0)])
               (.ite (.cmp .eq (.var 0) (.int .i64 25))
                (.ret [(.bool false), (.int .i64 99), (.int .i64 99), (.int .u64 8), (.int .u64 34), (.int .i64 0), (.int .i64 0)])
                (.ite (.cmp .eq (.var 0) (.int .i64 15))
                 (.ret [(.bool false), (.int .i64 99), (.int .i64 5), (.int .u64 19), (.int .u64 4), (.int .i64 0), (.int .i64 0)])
                 (.ret [(.bool false), (.int .i64 99), (.int .i64 99), (.int .u64 19), (.int .u64 4), (.int .i64 0), (.int .i64 0)]))))))))))))))))))
theorem wk_eof : walk E0.cx (sgsN []) 0 41 sg_eof = tr_eof := by kernel_rfl
theorem bo_eof : ∃ x, bodyOf E0.P 41 = some x := bo_of (by kernel_rfl)
def eof_s : Spec := fun ds Q => Q [.bool (ofS (argI ds 0)), .int .i64 (ofN (argI ds 0)), .int .i64 (ofM (argI ds 0)), .int .u64 (ofW (argI ds 0)), .int .u64 (ofT (argI ds 0)), .int .i64 (ofA (argI ds 0)), .int .i64 (ofB (argI ds 0))]
theorem eof_h : Holds E0 k_eof sg_eof eof_s := con_each wf0 mix0 g0 [] rfl wk_eof rfl (by
  intro op Q h
  simp only [eof_s, argI, Dat.toInt, List.getD_cons_zero] at h
  simp only [tr_eof, wp, den_int, den_bool, den_nili, den_ar, den_cmp, den_not, den_len, den_elem, den_isnil, den_errI, den_ifc, den_rep, den_push, den_app, den_emp, den_upd, row0_econs, row0_enil, den_and, den_beq, den_nil, toInt_int, toBool_bool, xs_rows, xs_list, dflt_int, dflt_bool, of_eq, of_ne, of_lt, of_le, of_gt, of_ge, of_add, of_sub, of_rem, List.map_cons, List.map_nil, Dat.bool.injEq, decide_eq_true_eq, decide_eq_false_iff_not, Bool.not_eq_true', Bool.not_eq_false', beq_iff_eq, bne_iff_ne, beq_eq_false_iff_ne, bne_eq_false_iff_eq, ne_eq, List.append_assoc, List.cons_append, List.nil_append, den_var0, List.getD_cons_zero]
  have key : ∀ (s : Bool) (n m w t a b : Int), ofS op = s → ofN op = n → ofM op = m → ofW op = w → ofT op = t → ofA op = a → ofB op = b → Q [.bool s, .int .i64 n, .int .i64 m, .int .u64 w, .int .u64 t, .int .i64 a, .int .i64 b] := by
    intro s n m w t a b e1 e2 e3 e4 e5 e6 e7
    subst e1 e2 e3 e4 e5 e6 e7; exact h
  repeat' (first | (refine And.intro (fun h1 => ?_) (fun h1 => ?_)) | (refine key _ _ _ _ _ _ _ ?_ ?_ ?_ ?_ ?_ ?_ ?_))
  all_goals first
    | (subst op; rfl)
    | (simp only [ofS, ofN, ofM, ofW, ofT, ofA, ofB, objP]; repeat' (first | rfl | omega | split | (simp only [decide_eq_true_eq, decide_eq_false_iff_not])) ))
noncomputable def con_eof : Con E0 := ⟨k_eof, sg_eof, eof_s, rfl, bo_eof, eof_h⟩
def bHasB (s i : Int) : Bool := (decide (0 ≤ i) && decide (i < 64)) && Ar.and.of .u64 (Ar.shr.of .u64 s (IntKind.u64.wrap i)) 1 == 1
def k_esingle : Nat := 44
def sg_esingle : Sig := ⟨[(false, [.int .i64])], [(false, [.bool])], false, true, false⟩
def tr_esingle : Tree := (.ite (.cmp .eq (.var 0) (.int .i64 1))
 (.ret [(.bool true)])
 (.ite (.cmp .eq (.var 0) (.int .i64 0))
  (.ret [(.bool false)])
  (.ite (.cmp .eq (.var 0) (.int .i64 21))
   (.ret [(.bool false)])
   (.ite (.cmp .eq (.var 0) (.int .i64 22))
    (.ret [(.bool false)])
    (.ite (.cmp .eq (.var 0) (.int .i64 20))
     (.ret [(.bool false)])
     (.ite (.cmp .eq (.var 0) (.int .i64 9))
      (.ret [(.bool false)])
      (.ite (.cmp .eq (.var 0) (.int .i64 6))
       (.ret [(.bool true)])
       (.ite (.cmp .eq (.var 0) (.int .i64 7))
        (.ret [(.bool true)])
        (.ite (.cmp .eq (.var 0) (.int .i64 8))
         (.ret [(.bool true)])
         (.ite (.cmp .eq (.var 0) (.int .i64 10))
          (.ret [(.bool true)])
          (.ite (.cmp .eq (.var 0) (.int .i64 11))
           (.ret [(.bool true)])
           (.ite (.cmp .eq (.var 0) (.int .i64 12))
            (.ret [(.bool true)])
            (.ite (.cmp .eq (.var 0) (.int .i64 13))
             (.ret [(.bool true)])
             (.ite (.cmp .eq (.var 0) (.int .i64 23))
              (.ret [(.bool true)])
              (.ite (.cmp .eq (.var 0) (.int .i64 24))
               (.ret [(.bool true)])
               (.ite (.cmp .eq (.var 0) (.int .i64 25))
                (.ret [(.bool true)])
                (.ite (.cmp .eq (.var 0) (.int .i64 15))
                 (.ret [(.bool false)])
                 (.ret [(.bool false)]))))))))))))))))))
theorem wk_esingle : walk E0.cx (sgsN []) 0 44 sg_esingle = tr_esingle := by kernel_rfl
theorem bo_esingle : ∃ x, bodyOf E0.P 44 = some x := bo_of (by kernel_rfl)
def esingle_s : Spec := fun ds Q => Q [.bool (decide (argI ds 0 = 1 ∨ objP (argI ds 0)))]
theorem esingle_h : Holds E0 k_esingle sg_esingle esingle_s := con_each wf0 mix0 g0 [] rfl wk_esingle rfl (by
  intro op Q h
  simp only [esingle_s, argI, Dat.toInt, List.getD_cons_zero] at h
  simp only [tr_esingle, wp, den_int, den_bool, den_nili, den_ar, den_cmp, den_not, den_len, den_elem, den_isnil, den_errI, den_ifc, den_rep, den_push, den_app, den_emp, den_upd, row0_econs, row0_enil, den_and, den_beq, den_nil, toInt_int, toBool_bool, xs_rows, xs_list, dflt_int, dflt_bool, of_eq, of_ne, of_lt, of_le, of_gt, of_ge, of_add, of_sub, of_rem, List.map_cons, List.map_nil, Dat.bool.injEq, decide_eq_true_eq, decide_eq_false_iff_not, Bool.not_eq_true', Bool.not_eq_false', beq_iff_eq, bne_iff_ne, beq_eq_false_iff_ne, bne_eq_false_iff_eq, ne_eq, List.append_assoc, List.cons_append, List.nil_append, den_var0, List.getD_cons_zero]
  have key : ∀ (b : Bool), decide (op = 1 ∨ objP op) = b → Q [.bool b] := by
    intro b e; subst e; exact h
  repeat' (first | (refine And.intro (fun h1 => ?_) (fun h1 => ?_)) | (refine key _ ?_))
  all_goals first
    | (subst op; rfl)
    | (rw [decide_eq_false_iff_not]; unfold objP; omega))
noncomputable def con_esingle : Con E0 := ⟨k_esingle, sg_esingle, esingle_s, rfl, bo_esingle, esingle_h⟩
def numP (s : Bool) (nm mm op n m who : Int) : Prop := 0 ≤ who ∧ who ≤ 4 ∧ (if s = true then -nm ≤ n ∧ n ≤ nm ∧ -mm ≤ m ∧ m ≤ mm else 0 ≤ n ∧ n ≤ nm ∧ 0 ≤ m ∧ m ≤ mm) ∧ (op = 23 ∨ op = 25 → n ≤ 255) ∧ (op = 14 → 112 ≤ m ∧ m ≤ 119)
def k_enumbers : Nat := 43
def sg_enumbers : Sig := ⟨[(true, List.replicate 4 (.int .i64) ++ [.list 36]), (true, [.bool] ++ [.int .i64, .int .i64] ++ [.int .u64, .int .u64] ++ [.int .i64, .int .i64])], [(false, [.bool])], false, false, true⟩
def tr_enumbers : Tree := (.ite (.or (.not (.ite (.var 5) (.and (.cmp .ge (.var 1) (.ar .sub .i64 (.int .i64 0) (.var 6))) (.cmp .le (.var 1) (.var 6))) (.and (.cmp .ge (.var 1) (.int .i64 0)) (.cmp .le (.var 1) (.var 6))))) (.or (.not (.ite (.var 5) (.and (.cmp .ge (.var 2) (.ar .sub .i64 (.int .i64 0) (.var 7))) (.cmp .le (.var 2) (.var 7))) (.and (.cmp .ge (.var 2) (.int .i64 0)) (.cmp .le (.var 2) (.var 7))))) (.not (.and (.cmp .ge (.var 3) (.int .i64 0)) (.cmp .le (.var 3) (.int .i64 4))))))
 (.ret [(.bool false)])
 (.ite (.or (.cmp .eq (.var 0) (.int .i64 23)) (.cmp .eq (.var 0) (.int .i64 25)))
  (.ret [(.cmp .le (.var 1) (.int .i64 255))])
  (.ite (.cmp .eq (.var 0) (.int .i64 14))
   (.ret [(.and (.cmp .ge (.var 2) (.int .i64 112)) (.cmp .le (.var 2) (.int .i64 119)))])
   (.ret [(.bool true)]))))
theorem wk_enumbers : walk E0.cx (sgsN []) 0 43 sg_enumbers = tr_enumbers := by kernel_rfl
theorem bo_enumbers : ∃ x, bodyOf E0.P 43 = some x := bo_of (by kernel_rfl)
def enumbers_s : Spec := fun ds Q => 0 ≤ argI ds 6 ∧ argI ds 6 ≤ 1000 ∧ 0 ≤ argI ds 7 ∧ argI ds 7 ≤ 1000 ∧ ∀ b : Bool, (b = true ↔ numP (ds.getD 5 (.bool false)).toBool (argI ds 6) (argI ds 7) (argI ds 0) (argI ds 1) (argI ds 2) (argI ds 3)) → Q [.bool b]
theorem enumbers_h : Holds E0 k_enumbers sg_enumbers enumbers_s := con_by wf0 mix0 g0 [] rfl wk_enumbers rfl (by
  intro ds Q hs ⟨a1, a2, b1, b2, h⟩
  have hl : ds.length = 12 := hs.length.symm
  simp only [tr_enumbers, wp, den_int, den_bool, den_nili, den_ar, den_cmp, den_not, den_len, den_elem, den_isnil, den_errI, den_ifc, den_rep, den_push, den_app, den_emp, den_upd, row0_econs, row0_enil, den_and, den_beq, den_nil, toInt_int, toBool_bool, xs_rows, xs_list, dflt_int, dflt_bool, of_eq, of_ne, of_lt, of_le, of_gt, of_ge, of_add, of_sub, of_rem, List.map_cons, List.map_nil, Dat.bool.injEq, decide_eq_true_eq, decide_eq_false_iff_not, Bool.not_eq_true', Bool.not_eq_false', beq_iff_eq, bne_iff_ne, beq_eq_false_iff_ne, bne_eq_false_iff_eq, ne_eq, List.append_assoc, List.cons_append, List.nil_append, den_or, den_ite, toBool_ite, @den_var0 E0.Δ ds, den_varA, den_varB, hl, Nat.reduceLT, Nat.reduceLeDiff, Nat.reduceSub, List.getD_cons_zero, List.getD_cons_succ, argL_fold ds, argI_fold ds, List.append_assoc, List.cons_append, List.nil_append, toInt_int, toBool_bool, xs_rows, xs_list, Int.toNat_natCast, Dat.bool.injEq, Bool.or_eq_true, Bool.and_eq_true, Bool.or_eq_false_iff, Bool.and_eq_false_iff, Int.zero_sub]
  rw [wrap64 (by omega) (by omega), wrap64 (by omega) (by omega)]
  unfold numP at h
  by_cases hs : (ds.getD 5 (.bool false)).toBool = true
  · simp only [if_pos hs, Bool.and_eq_true, Bool.and_eq_false_iff, decide_eq_true_eq, decide_eq_false_iff_not] at h ⊢
    refine ⟨fun h1 => h _ ?_, fun h1 => ⟨fun h2 => h _ ?_, fun h2 => ⟨fun h3 => h _ ?_, fun h3 => h _ ?_⟩⟩⟩
    · simp only [Bool.false_eq_true, false_iff]; rintro ⟨p1, p2, p3, p4, p5⟩; omega
    · simp only [decide_eq_true_eq]; exact ⟨fun h3 => ⟨by omega, by omega, by omega, fun _ => h3, fun _ => by omega⟩, fun h3 => h3.2.2.2.1 h2⟩
    · simp only [Bool.and_eq_true, decide_eq_true_eq]; exact ⟨fun h4 => ⟨by omega, by omega, by omega, fun _ => by omega, fun _ => h4⟩, fun h4 => h4.2.2.2.2 h3⟩
    · simp only [true_iff]; exact ⟨by omega, by omega, by omega, fun _ => by omega, fun _ => by omega⟩
  · simp only [if_neg hs, Bool.and_eq_true, Bool.and_eq_false_iff, decide_eq_true_eq, decide_eq_false_iff_not] at h ⊢
    refine ⟨fun h1 => h _ ?_, fun h1 => ⟨fun h2 => h _ ?_, fun h2 => ⟨fun h3 => h _ ?_, fun h3 => h _ ?_⟩⟩⟩
    · simp only [Bool.false_eq_true, false_iff]; rintro ⟨p1, p2, p3, p4, p5⟩; omega
    · simp only [decide_eq_true_eq]; exact ⟨fun h3 => ⟨by omega, by omega, by omega, fun _ => h3, fun _ => by omega⟩, fun h3 => h3.2.2.2.1 h2⟩
    · simp only [Bool.and_eq_true, decide_eq_true_eq]; exact ⟨fun h4 => ⟨by omega, by omega, by omega, fun _ => by omega, fun _ => h4⟩, fun h4 => h4.2.2.2.2 h3⟩
    · simp only [true_iff]; exact ⟨by omega, by omega, by omega, fun _ => by omega, fun _ => by omega⟩)
noncomputable def con_enumbers : Con E0 := ⟨k_enumbers, sg_enumbers, enumbers_s, rfl, bo_enumbers, enumbers_h⟩
end Go.Proofs.Ytiolgkmfjcdbiaa
