/-
  Contracts: the events that show or hide an object; which objects a player knows; the document's answers.
-/
import Derived.Test.YtlgfnimahmmgeaaKnowE
import Derived.Test.YtlgfnimahmmgeaaNumB
namespace Go.Proofs.Ytlgfnimahmmgeaa
open Go.RowKit
set_option linter.unusedVariables false

set_option maxRecDepth 100000 in
set_option maxHeartbeats 1000000 in
theorem Show_m (v : StV) (s : St) (id players : Int) (w : World) (hst : StIn w v s) :
    Calls Try.prog 19 #[.agg (stC v), .int .i64 id, .int .i64 players] w (RetOw w 6 (turnL (fun was => orW was players) s.objs id).length (rowsC 6 (turnL (fun was => orW was players) s.objs id))) := by
  have HM := Lib.hid (Mem.start (o := none) w)
  have HST := Lib.hid hst
  clear hst
  go_enter Try.func19, Try.ntmps19
  go_wp2_with (first
    | (go_at_call 28; refine (turnS_m v s id players b5 _ (HST.out.below HM.out.below) ((HM.out.row (List.Mem.head _)).cell rfl)).mono ?_; rintro e wv ⟨A1, c1, rfl, ho, hb⟩; replace HM := Lib.hid (HM.out.addOw hb ho); clear hb ho)
    | (refine M_box HM.out rfl rfl rfl ?_; clear HM; intro b3 w3 HM; replace HM := Lib.hid HM)
    | (refine M_box1 HM.out rfl rfl rfl rfl ?_; clear HM; intro b5 w5 HM; replace HM := Lib.hid HM)
    | (refine M_of _ rfl (R_row HM.out rfl rfl (by (repeat (first | exact List.Mem.head _ | apply List.Mem.tail)); done) Try.underlying36 rfl (by first | (simp only [ints_size, stC_size, ls_size]; exact tsz_36) | exact tsz_36)) ?_)
    | (refine M_of _ rfl (R_ats (HM.out.rdi (by (repeat (first | exact RdIn.rd _ | exact RdIn.ow _ | apply RdIn.tail)); done)) _ rfl rfl (by assumption) (by first | (rw [ints_size]; omega) | decide | simp) Try.underlying36 rfl (by first | (simp only [ints_size, stC_size, ls_size]; exact tsz_36) | exact tsz_36)) ?_)
    | (refine M_of _ rfl (R_sub HM.out _ rfl rfl (by (repeat (first | exact List.Mem.head _ | apply List.Mem.tail)); done) (by assumption) Try.underlying36 rfl (by first | (simp only [ints_size, stC_size, ls_size]; exact tsz_36) | exact tsz_36)) ?_))
  go_ret
  exact ⟨_, _, rfl, HM.out.ow (List.Mem.head _), HM.out.below⟩
set_option maxRecDepth 100000 in
set_option maxHeartbeats 1000000 in
theorem Hide_m (v : StV) (s : St) (id players : Int) (w : World) (hst : StIn w v s) :
    Calls Try.prog 21 #[.agg (stC v), .int .i64 id, .int .i64 players] w (RetOw w 6 (turnL (fun was => clrW was players) s.objs id).length (rowsC 6 (turnL (fun was => clrW was players) s.objs id))) := by
  have HM := Lib.hid (Mem.start (o := none) w)
  have HST := Lib.hid hst
  clear hst
  go_enter Try.func21, Try.ntmps21
  go_wp2_with (first
    | (go_at_call 28; refine (turnH_m v s id players b5 _ (HST.out.below HM.out.below) ((HM.out.row (List.Mem.head _)).cell rfl)).mono ?_; rintro e wv ⟨A1, c1, rfl, ho, hb⟩; replace HM := Lib.hid (HM.out.addOw hb ho); clear hb ho)
    | (refine M_box HM.out rfl rfl rfl ?_; clear HM; intro b3 w3 HM; replace HM := Lib.hid HM)
    | (refine M_box1 HM.out rfl rfl rfl rfl ?_; clear HM; intro b5 w5 HM; replace HM := Lib.hid HM)
    | (refine M_of _ rfl (R_row HM.out rfl rfl (by (repeat (first | exact List.Mem.head _ | apply List.Mem.tail)); done) Try.underlying36 rfl (by first | (simp only [ints_size, stC_size, ls_size]; exact tsz_36) | exact tsz_36)) ?_)
    | (refine M_of _ rfl (R_ats (HM.out.rdi (by (repeat (first | exact RdIn.rd _ | exact RdIn.ow _ | apply RdIn.tail)); done)) _ rfl rfl (by assumption) (by first | (rw [ints_size]; omega) | decide | simp) Try.underlying36 rfl (by first | (simp only [ints_size, stC_size, ls_size]; exact tsz_36) | exact tsz_36)) ?_)
    | (refine M_of _ rfl (R_sub HM.out _ rfl rfl (by (repeat (first | exact List.Mem.head _ | apply List.Mem.tail)); done) (by assumption) Try.underlying36 rfl (by first | (simp only [ints_size, stC_size, ls_size]; exact tsz_36) | exact tsz_36)) ?_))
  go_ret
  exact ⟨_, _, rfl, HM.out.ow (List.Mem.head _), HM.out.below⟩

/-- which objects a player knows, from one on -/
def knownF (p : Int) : Nat → List (Nat → Int) → List Int
  | _, [] => []
  | k, f :: l => if kn (f 17) p then (k : Int) :: knownF p (k + 1) l else knownF p (k + 1) l
theorem knownF_step {p : Int} {l : List (Nat → Int)} {k : Nat} (h : k < l.length) : knownF p k (l.drop k) = (if kn (l[k] 17) p then [(k : Int)] else []) ++ knownF p (k + 1) (l.drop (k + 1)) := by
  rw [List.drop_eq_getElem_cons h, knownF]
  split <;> rfl
theorem knownF_len (p : Int) : ∀ (l : List (Nat → Int)) (k : Nat), (knownF p k l).length ≤ l.length
  | [], _ => by simp [knownF]
  | f :: l, k => by
    have := knownF_len p l (k + 1)
    unfold knownF
    split <;> simp <;> omega
set_option maxRecDepth 100000 in
set_option maxHeartbeats 1000000 in
theorem Known_m (v : StV) (s : St) (p : Int) (w : World) (hst : StIn w v s) (hb : v.n 0 ≤ 1000000) :
    Calls Try.prog 15 #[.agg (stC v), .int .i64 p] w (RetOw w 1 (knownF p 0 s.objs).length (i64s (knownF p 0 s.objs))) := by
  have HM := Lib.hid (((Mem.start (o := none) w).addNil 1).addSt hst)
  have hn := hst.hn 0 (by omega)
  have HL := Lib.hid hst.len
  clear hst
  go_enter Try.func15, Try.ntmps15
  go_wp2_with (first
    | (refine M_box HM.out rfl rfl rfl ?_; clear HM; intro b2 w2 HM; replace HM := Lib.hid HM)
    | (refine M_of _ rfl (R_field rfl rfl Try.underlying36 rfl (by kernel_rfl)) ?_)
    | (refine M_of _ rfl (R_cell HM.out rfl rfl (by (repeat (first | exact List.Mem.head _ | apply List.Mem.tail)); done) (by first | exact ints_get _ (by decide) | exact stC_sl _ (by decide) | exact stC_pl _ (by decide) (by decide) | exact stC_gm _ (by decide) (by decide) | assumption | rfl) Try.underlying29 rfl) ?_)
    | (refine M_of _ rfl (R_at (HM.out.rdi (by (repeat (first | exact RdIn.rd _ | exact RdIn.ow _ | apply RdIn.tail)); done)) rfl rfl (by first | assumption | rfl) Try.underlying29 rfl) ?_)
    | (refine M_of _ rfl (R_index (HM.out.rdi (by (repeat (first | exact RdIn.rd _ | exact RdIn.ow _ | apply RdIn.tail)); done)) rfl rfl rfl (by omega) (by omega) Try.underlying29 tsz_39 rfl) ?_)
    | (refine M_of _ rfl (R_row HM.out rfl rfl (by (repeat (first | exact List.Mem.head _ | apply List.Mem.tail)); done) Try.underlying39 rfl (by first | (simp only [ints_size, stC_size, ls_size]; exact tsz_39) | exact tsz_39)) ?_)
    | (refine M_of _ rfl (R_ats (HM.out.rdi (by (repeat (first | exact RdIn.rd _ | exact RdIn.ow _ | apply RdIn.tail)); done)) _ rfl rfl (by assumption) (by first | (rw [ints_size]; omega) | decide | simp) Try.underlying39 rfl (by first | (simp only [ints_size, stC_size, ls_size]; exact tsz_39) | exact tsz_39)) ?_)
    | (refine M_of _ rfl (R_sub HM.out _ rfl rfl (by (repeat (first | exact List.Mem.head _ | apply List.Mem.tail)); done) (by assumption) Try.underlying39 rfl (by first | (simp only [ints_size, stC_size, ls_size]; exact tsz_39) | exact tsz_39)) ?_)
    | (refine M_alloc HM.out rfl rfl tzv_39 ?_; clear HM; intro b7 w7 HM; replace HM := Lib.hid HM)
    | (refine M_setRow HM.out rfl rfl rfl rfl rfl (by (repeat (first | exact Sel.head _ _ | apply Sel.tail)); done) (by first | (simp only [ints_size, stC_size, ls_size]; exact tsz_39) | exact tsz_39) (by first | (simp only [ints_size, stC_size, ls_size]; done) | rfl) (by first | exact ints_one _ _ | exact stC_one _ | (simp [Value.oneCell']; done) | rfl) ?_; clear HM; intro wv HM; replace HM := Lib.hid HM; try simp only [Act.eval, Array.getD_eq_getD_getElem?, List.getElem?_toArray, List.getElem?_cons_succ, List.getElem?_cons_zero, Option.getD_some, List.set_cons_succ, List.set_cons_zero, List.setIfInBounds_toArray, ints_set] at HM)
    | (go_at_call 12; refine (Knows_c _ _ _).mono ?_; rintro e wv ⟨rfl, hb⟩; replace HM := Lib.hid (HM.out.keep hb); clear hb)
    | (refine M_buildSlice (n := 1) HM.out rfl [_] rfl Try.underlying30 tinfo_3 rfl rfl (by decide) (by decide) (by intro u hu; simp at hu; (try (rcases hu with rfl)); all_goals (first | rfl | (subst hu; rfl) | simp [Value.cells, ints_size])) ?_; clear HM; intro b21 w21 HM; replace HM := Lib.hid HM; try simp only [Act.eval, Array.getD_eq_getD_getElem?, List.getElem?_toArray, List.getElem?_cons_succ, List.getElem?_cons_zero, Option.getD_some, List.flatMap_cons, List.flatMap_nil, Value.cells, List.append_nil, List.cons_append, List.nil_append] at HM)
    | (refine M_append HM.out rfl rfl rfl Try.underlying30 tinfo_3 (by (repeat (first | exact Sel.head _ _ | apply Sel.tail)); done) (HM.out.rdi (by (repeat (first | exact RdIn.rd _ | exact RdIn.ow _ | apply RdIn.tail)); done)) (by first | assumption | exact i64s_one _ | (intro u hu; simp at hu; subst hu; rfl)) (by first | assumption | (unfold maxLen; omega)) (by first | assumption | omega) ?_; clear HM; intro A22 c22 wv HM; replace HM := Lib.hid HM; try simp only [Act.eval, Array.getD_eq_getD_getElem?, List.getElem?_toArray, List.getElem?_cons_succ, List.getElem?_cons_zero, Option.getD_some, List.set_cons_succ, List.set_cons_zero, List.setIfInBounds_toArray, ints_set] at HM))
  go_loopw [11, 5, 6, 7] (fun iv ov _ _ wr => ∃ (k : Nat) (A : Option Addr) (c m : Nat) (l : List Int), k ≤ v.n 0 ∧ iv = .int .i64 k ∧ ov = .slice A m c ∧ m ≤ k ∧ Hid (l.length = m) ∧ Hid (l ++ knownF p k (s.objs.drop k) = knownF p 0 s.objs) ∧ Mem none w wr [.row b2 (stC v) 36, .rd 18 (.slice (v.A 0) (v.n 0) (v.c 0)) (v.n 0) (rowsC 18 s.objs), .ls v s.ls, .ow 1 (.slice A m c) m (i64s l)]) (fun iv _ _ _ _ => v.n 0 - (intOf iv).toNat)
  case atStart => exact ⟨0, none, 0, 0, [], by omega, rfl, rfl, by omega, Lib.hid rfl, Lib.hid (by simp), HM.out⟩
  case round =>
    obtain ⟨k, A, c, m, l, hk, rfl, rfl, hlk, HLM, HD, hm⟩ := hrel
    clear HM
    have HM := Lib.hid hm
    clear hm
    by_cases hlt : k < v.n 0
    · have hkl : k < s.objs.length := by have := HL.out; omega
      have HX := Lib.hid (rowsC_row (sz := 18) hkl)
      have HS := Lib.hid (knownF_step (p := p) hkl)
      generalize s.objs[k] = f at *
      clear hkl
      go_wp2_with (first
        | (refine M_box HM.out rfl rfl rfl ?_; clear HM; intro b2 w2 HM; replace HM := Lib.hid HM)
        | (refine M_of _ rfl (R_field rfl rfl Try.underlying36 rfl (by kernel_rfl)) ?_)
        | (refine M_of _ rfl (R_cell HM.out rfl rfl (by (repeat (first | exact List.Mem.head _ | apply List.Mem.tail)); done) (by first | exact ints_get _ (by decide) | exact stC_sl _ (by decide) | exact stC_pl _ (by decide) (by decide) | exact stC_gm _ (by decide) (by decide) | assumption | rfl) Try.underlying29 rfl) ?_)
        | (refine M_of _ rfl (R_at (HM.out.rdi (by (repeat (first | exact RdIn.rd _ | exact RdIn.ow _ | apply RdIn.tail)); done)) rfl rfl (by first | assumption | rfl) Try.underlying29 rfl) ?_)
        | (refine M_of _ rfl (R_index (HM.out.rdi (by (repeat (first | exact RdIn.rd _ | exact RdIn.ow _ | apply RdIn.tail)); done)) rfl rfl rfl (by omega) (by omega) Try.underlying29 tsz_39 rfl) ?_)
        | (refine M_of _ rfl (R_row HM.out rfl rfl (by (repeat (first | exact List.Mem.head _ | apply List.Mem.tail)); done) Try.underlying39 rfl (by first | (simp only [ints_size, stC_size, ls_size]; exact tsz_39) | exact tsz_39)) ?_)
        | (refine M_of _ rfl (R_ats (HM.out.rdi (by (repeat (first | exact RdIn.rd _ | exact RdIn.ow _ | apply RdIn.tail)); done)) _ rfl rfl (by assumption) (by first | (rw [ints_size]; omega) | decide | simp) Try.underlying39 rfl (by first | (simp only [ints_size, stC_size, ls_size]; exact tsz_39) | exact tsz_39)) ?_)
        | (refine M_of _ rfl (R_sub HM.out _ rfl rfl (by (repeat (first | exact List.Mem.head _ | apply List.Mem.tail)); done) (by assumption) Try.underlying39 rfl (by first | (simp only [ints_size, stC_size, ls_size]; exact tsz_39) | exact tsz_39)) ?_)
        | (refine M_alloc HM.out rfl rfl tzv_39 ?_; clear HM; intro b7 w7 HM; replace HM := Lib.hid HM)
        | (refine M_setRow HM.out rfl rfl rfl rfl rfl (by (repeat (first | exact Sel.head _ _ | apply Sel.tail)); done) (by first | (simp only [ints_size, stC_size, ls_size]; exact tsz_39) | exact tsz_39) (by first | (simp only [ints_size, stC_size, ls_size]; done) | rfl) (by first | exact ints_one _ _ | exact stC_one _ | (simp [Value.oneCell']; done) | rfl) ?_; clear HM; intro wv HM; replace HM := Lib.hid HM; try simp only [Act.eval, Array.getD_eq_getD_getElem?, List.getElem?_toArray, List.getElem?_cons_succ, List.getElem?_cons_zero, Option.getD_some, List.set_cons_succ, List.set_cons_zero, List.setIfInBounds_toArray, ints_set] at HM)
        | (go_at_call 12; refine (Knows_c _ _ _).mono ?_; rintro e wv ⟨rfl, hb⟩; replace HM := Lib.hid (HM.out.keep hb); clear hb)
        | (refine M_buildSlice (n := 1) HM.out rfl [_] rfl Try.underlying30 tinfo_3 rfl rfl (by decide) (by decide) (by intro u hu; simp at hu; (try (rcases hu with rfl)); all_goals (first | rfl | (subst hu; rfl) | simp [Value.cells, ints_size])) ?_; clear HM; intro b21 w21 HM; replace HM := Lib.hid HM; try simp only [Act.eval, Array.getD_eq_getD_getElem?, List.getElem?_toArray, List.getElem?_cons_succ, List.getElem?_cons_zero, Option.getD_some, List.flatMap_cons, List.flatMap_nil, Value.cells, List.append_nil, List.cons_append, List.nil_append] at HM)
        | (refine M_append HM.out rfl rfl rfl Try.underlying30 tinfo_3 (by (repeat (first | exact Sel.head _ _ | apply Sel.tail)); done) (HM.out.rdi (by (repeat (first | exact RdIn.rd _ | exact RdIn.ow _ | apply RdIn.tail)); done)) (by first | assumption | exact i64s_one _ | (intro u hu; simp at hu; subst hu; rfl)) (by first | assumption | (unfold maxLen; omega)) (by first | assumption | omega) ?_; clear HM; intro A22 c22 wv HM; replace HM := Lib.hid HM; try simp only [Act.eval, Array.getD_eq_getD_getElem?, List.getElem?_toArray, List.getElem?_cons_succ, List.getElem?_cons_zero, Option.getD_some, List.set_cons_succ, List.set_cons_zero, List.setIfInBounds_toArray, ints_set] at HM))
      all_goals (
        go_roundw
        case rel =>
          first
          | (refine ⟨k + 1, _, _, m + 1, l ++ [(k : Int)], by omega, by go_num, rfl, by omega, Lib.hid (by simp [HLM.out]), Lib.hid (by rw [← HD.out, HS.out]; simp_all), ?_⟩
             rw [i64s_append]
             exact HM.out.sub (by repeat (first | exact List.Sublist.refl _ | apply List.Sublist.cons_cons | apply List.Sublist.cons)))
          | exact ⟨k + 1, _, _, m, l, by omega, by go_num, rfl, by omega, HLM, Lib.hid (by rw [← HD.out, HS.out]; simp_all), HM.out.sub (by repeat (first | exact List.Sublist.refl _ | apply List.Sublist.cons_cons | apply List.Sublist.cons))⟩
        case measure => (simp [intOf] <;> omega))
    · obtain rfl : k = v.n 0 := by omega
      go_wp2_with (first
        | (refine M_box HM.out rfl rfl rfl ?_; clear HM; intro b2 w2 HM; replace HM := Lib.hid HM)
        | (refine M_of _ rfl (R_field rfl rfl Try.underlying36 rfl (by kernel_rfl)) ?_)
        | (refine M_of _ rfl (R_cell HM.out rfl rfl (by (repeat (first | exact List.Mem.head _ | apply List.Mem.tail)); done) (by first | exact ints_get _ (by decide) | exact stC_sl _ (by decide) | exact stC_pl _ (by decide) (by decide) | exact stC_gm _ (by decide) (by decide) | assumption | rfl) Try.underlying29 rfl) ?_)
        | (refine M_of _ rfl (R_at (HM.out.rdi (by (repeat (first | exact RdIn.rd _ | exact RdIn.ow _ | apply RdIn.tail)); done)) rfl rfl (by first | assumption | rfl) Try.underlying29 rfl) ?_)
        | (refine M_of _ rfl (R_index (HM.out.rdi (by (repeat (first | exact RdIn.rd _ | exact RdIn.ow _ | apply RdIn.tail)); done)) rfl rfl rfl (by omega) (by omega) Try.underlying29 tsz_39 rfl) ?_)
        | (refine M_of _ rfl (R_row HM.out rfl rfl (by (repeat (first | exact List.Mem.head _ | apply List.Mem.tail)); done) Try.underlying39 rfl (by first | (simp only [ints_size, stC_size, ls_size]; exact tsz_39) | exact tsz_39)) ?_)
        | (refine M_of _ rfl (R_ats (HM.out.rdi (by (repeat (first | exact RdIn.rd _ | exact RdIn.ow _ | apply RdIn.tail)); done)) _ rfl rfl (by assumption) (by first | (rw [ints_size]; omega) | decide | simp) Try.underlying39 rfl (by first | (simp only [ints_size, stC_size, ls_size]; exact tsz_39) | exact tsz_39)) ?_)
        | (refine M_of _ rfl (R_sub HM.out _ rfl rfl (by (repeat (first | exact List.Mem.head _ | apply List.Mem.tail)); done) (by assumption) Try.underlying39 rfl (by first | (simp only [ints_size, stC_size, ls_size]; exact tsz_39) | exact tsz_39)) ?_)
        | (refine M_alloc HM.out rfl rfl tzv_39 ?_; clear HM; intro b7 w7 HM; replace HM := Lib.hid HM)
        | (refine M_setRow HM.out rfl rfl rfl rfl rfl (by (repeat (first | exact Sel.head _ _ | apply Sel.tail)); done) (by first | (simp only [ints_size, stC_size, ls_size]; exact tsz_39) | exact tsz_39) (by first | (simp only [ints_size, stC_size, ls_size]; done) | rfl) (by first | exact ints_one _ _ | exact stC_one _ | (simp [Value.oneCell']; done) | rfl) ?_; clear HM; intro wv HM; replace HM := Lib.hid HM; try simp only [Act.eval, Array.getD_eq_getD_getElem?, List.getElem?_toArray, List.getElem?_cons_succ, List.getElem?_cons_zero, Option.getD_some, List.set_cons_succ, List.set_cons_zero, List.setIfInBounds_toArray, ints_set] at HM)
        | (go_at_call 12; refine (Knows_c _ _ _).mono ?_; rintro e wv ⟨rfl, hb⟩; replace HM := Lib.hid (HM.out.keep hb); clear hb)
        | (refine M_buildSlice (n := 1) HM.out rfl [_] rfl Try.underlying30 tinfo_3 rfl rfl (by decide) (by decide) (by intro u hu; simp at hu; (try (rcases hu with rfl)); all_goals (first | rfl | (subst hu; rfl) | simp [Value.cells, ints_size])) ?_; clear HM; intro b21 w21 HM; replace HM := Lib.hid HM; try simp only [Act.eval, Array.getD_eq_getD_getElem?, List.getElem?_toArray, List.getElem?_cons_succ, List.getElem?_cons_zero, Option.getD_some, List.flatMap_cons, List.flatMap_nil, Value.cells, List.append_nil, List.cons_append, List.nil_append] at HM)
        | (refine M_append HM.out rfl rfl rfl Try.underlying30 tinfo_3 (by (repeat (first | exact Sel.head _ _ | apply Sel.tail)); done) (HM.out.rdi (by (repeat (first | exact RdIn.rd _ | exact RdIn.ow _ | apply RdIn.tail)); done)) (by first | assumption | exact i64s_one _ | (intro u hu; simp at hu; subst hu; rfl)) (by first | assumption | (unfold maxLen; omega)) (by first | assumption | omega) ?_; clear HM; intro A22 c22 wv HM; replace HM := Lib.hid HM; try simp only [Act.eval, Array.getD_eq_getD_getElem?, List.getElem?_toArray, List.getElem?_cons_succ, List.getElem?_cons_zero, Option.getD_some, List.set_cons_succ, List.set_cons_zero, List.setIfInBounds_toArray, ints_set] at HM))
      go_ret
      have e : l = knownF p 0 s.objs := by rw [← HD.out, List.drop_eq_nil_of_le (by have := HL.out; omega)]; simp [knownF]
      rw [← e, HLM.out]
      exact ⟨_, _, rfl, HM.out.ow (by (repeat (first | exact List.Mem.head _ | apply List.Mem.tail)); done), HM.out.below⟩

theorem refZone_c (z : Int) (w : World) : Calls Try.prog 17 #[.int .i64 z] w fun e w' => e = .returned (.int .i64 (zn z)) ∧ w = w' := by
  unfold zn
  go_enter Try.func17, Try.ntmps17
  go_wp2_with fail
  all_goals (go_ret; refine ⟨ret_int ?_, rfl⟩; (repeat' split) <;> first | rfl | omega | (simp at *; omega))
end Go.Proofs.Ytlgfnimahmmgeaa
