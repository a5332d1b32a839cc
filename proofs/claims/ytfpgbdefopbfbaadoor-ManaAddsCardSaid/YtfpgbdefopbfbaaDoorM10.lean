import Derived.Test.YtfpgbdefopbfbaaDoorM9
import Derived.Shelf.Strings.BuilderK
import Derived.Shelf.Strings.BuilderF
import Derived.Shelf.Strconv.Itoa3
import Derived.Shelf.Strings.Repeat
import Derived.Shelf.Slices.Turned
import Derived.Shelf.LaysM
import Derived.WalkKit
import Derived.BigCall
import Derived.Lib.LaidTab
import Derived.Deep.CutBlock

set_option linter.unusedVariables false
set_option linter.unusedSimpArgs false

section
namespace Go.Proofs.YtfpgbdefopbfbaaDoor
open Go.RowKit
set_option linter.unusedVariables false
set_option linter.unusedSimpArgs false

/-- a contract of a function that calls itself: by what gets less -/
theorem holds_rec {E : Env} {f : FuncId} {sg : Sig} {Φ : Spec} (m : List Dat → Nat)
    (step : ∀ n, Holds E f sg (fun ds Q => m ds < n ∧ Φ ds Q) → Holds E f sg (fun ds Q => m ds < n + 1 ∧ Φ ds Q)) : Holds E f sg Φ := by
  have all : ∀ n, Holds E f sg (fun ds Q => m ds < n ∧ Φ ds Q) := by
    intro n
    induction n with
    | zero => intro w ds Q _ _ _ _ h; exact absurd h.1 (Nat.not_lt_zero _)
    | succ n ih => exact step n ih
  intro w ds Q h1 h2 h3 h4 h5
  exact all (m ds + 1) w ds Q h1 h2 h3 h4 ⟨Nat.lt_succ_self _, h5⟩

/-- .. its callees' contracts behind a name -/
theorem con_fn {E : Env} (hW : E.Wf) (hmix : E.P.follows .mixedOrders = true) (hγ : E.γ = []) (T : List (Con E)) {ns : List (Nat × Sig)} (hn : names T = ns) {f : Nat} {sg : Sig} {tr : Tree} (hT : walk E.cx (sgsN ns) 0 f sg = tr) (hsg : sg.ok = true) {Ψ : Spec}
    (h : ∀ Φ : Nat → Spec, Φ = specC T → ∀ ds Q, All2 (Has E.Δ) (Sig.sorts sg.params) ds → Ψ ds Q → wp E.Δ Φ Q tr ds []) : Holds E f sg Ψ :=
  con_by hW hmix hγ T hn hT hsg (h _ rfl)

/-- a slice that is nil has nothing -/
def NilOk (d : Dat) : Prop := isNilI d = true → d.xs = []
theorem nilOk {d : Dat} {w : World} (ho : OkD w d) : NilOk d := fun hn => by
  cases ho with
  | list v sz xs hr _ =>
    obtain ⟨A, c, rfl, hc, hlen, ha⟩ := hr
    cases A with
    | some a => cases hn
    | none =>
      cases xs with
      | nil => rfl
      | cons x xs =>
        obtain ⟨ad, e, _⟩ := ha (by simp)
        cases e
  | rows xs _ => cases hn
  | _ => rfl
theorem con_fnN {E : Env} (hW : E.Wf) (hmix : E.P.follows .mixedOrders = true) (hγ : E.γ = []) (T : List (Con E)) {ns : List (Nat × Sig)} (hn : names T = ns) {f : Nat} {sg : Sig} {tr : Tree} (hT : walk E.cx (sgsN ns) 0 f sg = tr) (hsg : sg.ok = true) {Ψ : Spec}
    (h : ∀ Φ : Nat → Spec, Φ = specC T → ∀ ds Q, All2 (Has E.Δ) (Sig.sorts sg.params) ds → (∀ d ∈ ds, NilOk d) → Ψ ds Q → wp E.Δ Φ Q tr ds []) : Holds E f sg Ψ := fun w ds Q h1 h2 h3 h4 h5 =>
  con_fn hW hmix hγ T hn hT hsg (Ψ := fun ds Q => (∀ d ∈ ds, NilOk d) ∧ Ψ ds Q) (fun Φ hΦ ds Q hs hq => h Φ hΦ ds Q hs hq.1 hq.2) w ds Q h1 h2 h3 h4 ⟨fun d hd => nilOk (h2 d hd), h5⟩
theorem take_succ_getD {α : Type} {l : List α} {i : Nat} {d : α} (h : i < l.length) : l.take (i + 1) = l.take i ++ [l.getD i d] := by
  rw [List.getD_eq_getElem?_getD, List.getElem?_eq_getElem h, List.take_add_one, List.getElem?_eq_getElem h]; rfl
theorem drop_getD {α : Type} {l : List α} {i : Nat} {d : α} (h : i < l.length) : l.drop i = l.getD i d :: l.drop (i + 1) := by
  rw [List.getD_eq_getElem?_getD, List.getElem?_eq_getElem h, List.drop_eq_getElem_cons h]; rfl
theorem getD_memL {α : Type} {l : List α} {i : Nat} {d : α} (h : i < l.length) : l.getD i d ∈ l := by
  rw [List.getD_eq_getElem?_getD, List.getElem?_eq_getElem h]; exact List.getElem_mem h
theorem argV {Δ : Tab} {k : IntKind} {ds : List Dat} {i : Nat} (h : Has Δ (.int k) (ds.getD i (.bool false))) : ds.getD i (.bool false) = .int k (argI ds i) := by
  rw [← argI_fold]; exact has_int h
theorem den_ite (Δ : Tab) (ρ : List Dat) (c a b : Tm) : den Δ ρ (.ite c a b) = if (den Δ ρ c).toBool then den Δ ρ a else den Δ ρ b := rfl
theorem argI_c0 {d : Dat} {l : List Dat} : argI (d :: l) 0 = d.toInt := rfl
theorem argI_c1 {d : Dat} {l : List Dat} {n : Nat} : argI (d :: l) (n + 1) = argI l n := rfl
theorem argL_c0 {d : Dat} {l : List Dat} : argL (d :: l) 0 = d.xs := rfl
theorem argL_c1 {d : Dat} {l : List Dat} {n : Nat} : argL (d :: l) (n + 1) = argL l n := rfl
theorem xs_cutD {Δ : Tab} {r : Nat} {d : Dat} {l h : Nat} (hd : Has Δ (.list r) d) (h1 : l ≤ h) (h2 : h ≤ d.xs.length) : (cutD l h d).xs = (d.xs.take h).drop l := by
  cases hd with
  | list _ A n c xs hl hh =>
    have hall : xs.all (fun r' => r'.length == (Δ.row r).length) = true := List.all_eq_true.2 fun row hr => by simpa using hl row hr
    simp only [cutD]
    rw [if_pos ⟨h1, h2, hall⟩]
    rfl
theorem den_or (Δ : Tab) (ρ : List Dat) (a b : Tm) : den Δ ρ (.or a b) = .bool ((den Δ ρ a).toBool || (den Δ ρ b).toBool) := rfl
theorem den_conv (Δ : Tab) (ρ : List Dat) (k : IntKind) (a : Tm) : den Δ ρ (.conv k a) = .int k (k.wrap (den Δ ρ a).toInt) := rfl
theorem den_cutT (Δ : Tab) (ρ : List Dat) (a l h : Tm) : den Δ ρ (.cut a l h) = cutD (den Δ ρ l).toInt.toNat (den Δ ρ h).toInt.toNat (den Δ ρ a) := rfl
theorem ite_datb (c : Prop) [Decidable c] (a b : Bool) : (if c then Dat.bool a else Dat.bool b) = Dat.bool (if c then a else b) := by split <;> rfl
theorem ite_dati (k : IntKind) (c : Prop) [Decidable c] (a b : Int) : (if c then Dat.int k a else Dat.int k b) = Dat.int k (if c then a else b) := by split <;> rfl
theorem toInt_ite (c : Prop) [Decidable c] (a b : Dat) : (if c then a else b).toInt = if c then a.toInt else b.toInt := by split <;> rfl
theorem toBool_ite (c : Prop) [Decidable c] (a b : Dat) : (if c then a else b).toBool = if c then a.toBool else b.toBool := by split <;> rfl
theorem argI_row {r e : List Dat} {i k : Nat} (h : r.length = k) (hk : k ≤ i) : argI (r ++ e) i = argI e (i - k) := by
  subst h
  simp [argI, List.getD_eq_getElem?_getD, List.getElem?_append_right hk]
theorem argI_0 {d : Dat} {l : List Dat} : argI (d :: l) 0 = d.toInt := rfl
theorem argI_1 {a d : Dat} {l : List Dat} : argI (a :: d :: l) 1 = d.toInt := rfl
def errV (n : Int) : Dat := if n = 0 then .val .nilIface else .val (.iface 44 (.int .i64 n))
theorem errV_nil (n : Int) : isNilI (errV n) = decide (n = 0) := by
  unfold errV
  by_cases h : n = 0
  · rw [if_pos h, decide_eq_true h]; rfl
  · rw [if_neg h, decide_eq_false h]; rfl
theorem errV_0 : errV 0 = .val .nilIface := rfl
theorem errV_n {n : Int} (h : n ≠ 0) : errV n = .val (.iface 44 (.int .i64 n)) := if_neg h
def k_Num : Nat := 10
def sg_Num : Sig := ⟨[(false, [.err])], [(false, [.int .i64])], false, false, false, false, false⟩
def tr_Num : Tree := (.ite (.isnil (.var 0))
 (.ret [(.int .i64 0)])
 (.ite (.cmp .ne (.errI (.var 0)) (.int .i64 0))
  (.ret [(.errI (.var 0))])
  (.ret [(.int .i64 (-1))])))
theorem wk_Num : walk E0.cx (sgsN []) 0 10 sg_Num = tr_Num := by kernel_rfl
theorem bo_Num : ∃ x, bodyOf E0.P 10 = some x := bo_of (by kernel_rfl)
def Num_s : Spec := fun ds Q => ∃ n : Int, ds = [errV n] ∧ Q [.int .i64 n]
theorem Num_h : Holds E0 k_Num sg_Num Num_s := con_by wf0 mix0 g0 [] rfl wk_Num rfl (by
  intro ds Q hs ⟨n, e, h⟩
  subst e
  simp only [tr_Num, wp, den_int, den_bool, den_nili, den_ar, den_cmp, den_not, den_len, den_elem, den_isnil, den_errI, den_ifc, den_rep, den_push, den_app, den_emp, den_upd, row0_econs, row0_enil, den_and, den_beq, den_nil, toInt_int, toBool_bool, xs_rows, xs_list, dflt_int, dflt_bool, of_eq, of_ne, of_lt, of_le, of_gt, of_ge, of_add, of_sub, of_rem, List.map_cons, List.map_nil, Dat.bool.injEq, decide_eq_true_eq, decide_eq_false_iff_not, Bool.not_eq_true', Bool.not_eq_false', beq_iff_eq, bne_iff_ne, beq_eq_false_iff_ne, bne_eq_false_iff_eq, ne_eq, List.append_assoc, List.cons_append, List.nil_append, den_var0, List.getD_cons_zero]
  by_cases hn : n = 0
  · subst hn
    exact ⟨fun _ => h, fun hx => Bool.noConfusion hx⟩
  · simp only [errV, if_neg hn, errN]
    exact ⟨fun hx => Bool.noConfusion hx, fun _ => ⟨fun _ => h, fun hx => absurd hx hn⟩⟩)
noncomputable def con_Num : Con E0 := ⟨k_Num, sg_Num, Num_s, rfl, bo_Num, Num_h⟩
def true_s : Spec := fun ds Q => Q [.bool true]
end Go.Proofs.YtfpgbdefopbfbaaDoor
end

section
namespace Go.Proofs.YtfpgbdefopbfbaaDoor
open Go.RowKit
set_option linter.unusedVariables false
set_option linter.unusedSimpArgs false

def goodC (ds : List Dat) : Bool := (List.range 6).all fun i => decide (0 ≤ argI ds i ∧ argI ds i ≤ 1000)
theorem goodC_t {ds : List Dat} : goodC ds = true ↔ ∀ i, i < 6 → 0 ≤ argI ds i ∧ argI ds i ≤ 1000 := by
  unfold goodC
  rw [List.all_eq_true]
  exact ⟨fun h i hi => of_decide_eq_true (h i (List.mem_range.2 hi)), fun h i hi => decide_eq_true (h i (List.mem_range.1 hi))⟩
theorem goodC_f {ds : List Dat} {i : Nat} (hi : i < 6) (h : ¬ (0 ≤ argI ds i ∧ argI ds i ≤ 1000)) : goodC ds = false := by
  cases e : goodC ds with
  | false => rfl
  | true => exact absurd (goodC_t.1 e i hi) h
theorem badC {x : Int} (h : (decide (x < 0) || decide (1000 < x)) = true) : ¬ (0 ≤ x ∧ x ≤ 1000) := by
  rw [Bool.or_eq_true, decide_eq_true_eq, decide_eq_true_eq] at h; omega
theorem okC4 {x : Int} (h : (decide (x < 0) || decide (1000 < x)) = false) : 0 ≤ x ∧ x ≤ 1000 := by
  rw [Bool.or_eq_false_iff, decide_eq_false_iff_not, decide_eq_false_iff_not] at h; omega
theorem sel6 (ds : List Dat) (hl : ds.length = 6) {i : Nat} (h : i < 6) : ([ds.getD 0 (Dat.bool false), ds.getD 1 (Dat.bool false), ds.getD 2 (Dat.bool false), ds.getD 3 (Dat.bool false), ds.getD 4 (Dat.bool false), ds.getD 5 (Dat.bool false)].getD i (Dat.int .i64 0)).toInt = argI ds i := by
  match ds, hl with
  | [_, _, _, _, _, _], _ =>
    match i, h with
    | 0, _ | 1, _ | 2, _ | 3, _ | 4, _ | 5, _ => rfl
def k_mGood : Nat := 13
def sg_mGood : Sig := ⟨[(true, List.replicate 6 (.int .i64))], [(false, [.bool])], false, false, true, false, false⟩
def tr_mGood : Tree := (.loop [(.int .i64 0), (.int .i64 0)] [(.int .i64), (.int .i64)]
 (.ite (.cmp .lt (.var 7) (.int .i64 6))
  (.ob (.cmp .ge (.var 7) (.int .i64 0))
  (.ite (.or (.cmp .lt (.sel (.econs (.var 0) (.econs (.var 1) (.econs (.var 2) (.econs (.var 3) (.econs (.var 4) (.econs (.var 5) .enil)))))) (.var 7) (.int .i64)) (.int .i64 0)) (.cmp .gt (.sel (.econs (.var 0) (.econs (.var 1) (.econs (.var 2) (.econs (.var 3) (.econs (.var 4) (.econs (.var 5) .enil)))))) (.var 7) (.int .i64)) (.int .i64 1000)))
   (.ret [(.not (.cmp .ge (.var 7) (.int .i64 0)))])
   (.again 0 [(.var 6), (.ar .add .i64 (.var 7) (.int .i64 1))])))
  (.ret [(.bool true)])))
theorem wk_mGood : walk E0.cx (sgsN []) 0 13 sg_mGood = tr_mGood := by kernel_rfl
theorem bo_mGood : ∃ x, bodyOf E0.P 13 = some x := bo_of (by kernel_rfl)
def mGood_s : Spec := fun ds Q => Q [.bool (goodC ds)]
theorem mGood_h : Holds E0 k_mGood sg_mGood mGood_s := con_fn wf0 mix0 g0 [] rfl wk_mGood rfl (by
  intro Φ hΦ ds Q hs h
  have hl : ds.length = 6 := hs.length.symm
  have h : Q [.bool (goodC ds)] := h
  clear hΦ
  simp only [tr_mGood, wp, den_int, den_bool, den_nili, den_ar, den_cmp, den_not, den_len, den_elem, den_isnil, den_errI, den_ifc, den_rep, den_push, den_app, den_emp, den_upd, row0_econs, row0_enil, den_and, den_beq, den_nil, toInt_int, toBool_bool, xs_rows, xs_list, dflt_int, dflt_bool, of_eq, of_ne, of_lt, of_le, of_gt, of_ge, of_add, of_sub, of_rem, List.map_cons, List.map_nil, Dat.bool.injEq, decide_eq_true_eq, decide_eq_false_iff_not, Bool.not_eq_true', Bool.not_eq_false', beq_iff_eq, bne_iff_ne, beq_eq_false_iff_ne, bne_eq_false_iff_eq, ne_eq, List.append_assoc, List.cons_append, List.nil_append, allS, @den_var0 E0.Δ ds, den_varA, den_varB, hl, Nat.reduceLT, Nat.reduceLeDiff, Nat.reduceSub, List.getD_cons_zero, List.getD_cons_succ, argL_fold ds, argI_fold ds, List.append_assoc, List.cons_append, List.nil_append, toInt_int, toBool_bool, xs_rows, xs_list, Int.toNat_natCast, Dat.bool.injEq, den_or, den_sel, row0_econs, row0_enil, den_elem, den_len, @den_var0 E0.Δ ds, den_varA, den_varB, hl, Nat.reduceLT, Nat.reduceLeDiff, Nat.reduceSub, List.getD_cons_zero, List.getD_cons_succ, argL_fold ds, argI_fold ds, List.append_assoc, List.cons_append, List.nil_append, toInt_int, toBool_bool, xs_rows, xs_list, Int.toNat_natCast, Dat.bool.injEq]
  refine ⟨fun xs m => ∃ (a : Int) (i : Nat), i ≤ 6 ∧ m = 6 - i ∧ xs = [.int .i64 a, .int .i64 i] ∧ ∀ k, k < i → 0 ≤ argI ds k ∧ argI ds k ≤ 1000, ⟨_, 0, 0, by omega, rfl, rfl, fun k hk => absurd hk (by omega)⟩, ?_⟩
  rintro a n m ⟨_, i, hi, hm, e, hall⟩
  cases e
  refine ⟨fun hlt => ?_, fun hge => ?_⟩
  · have hi6 : i < 6 := by omega
    rw [Int.toNat_natCast, sel6 ds hl hi6]
    refine ⟨by omega, fun hb => ?_, fun hb => ⟨_, (by omega : 6 - (i + 1) < _), a, i + 1, by omega, rfl, by rw [wrap64 (by omega) (by omega)]; rfl, fun k hk => ?_⟩⟩
    · rw [goodC_f hi6 (badC hb)] at h
      rw [show (decide ((0 : Int) ≤ (i : Int))) = true from decide_eq_true (by omega)]
      exact h
    · rcases Nat.lt_succ_iff_lt_or_eq.1 hk with hk | rfl
      · exact hall k hk
      · exact okC4 hb
  · rw [goodC_t.2 fun k hk => hall k (by omega)] at h
    exact h)
noncomputable def con_mGood : Con E0 := ⟨k_mGood, sg_mGood, mGood_s, rfl, bo_mGood, mGood_h⟩
def k_mTotal : Nat := 15
def sg_mTotal : Sig := ⟨[(true, List.replicate 6 (.int .i64))], [(false, [.int .i64])], false, true, true, false, false⟩
def tr_mTotal : Tree := (.ret [(.ar .add .i64 (.ar .add .i64 (.ar .add .i64 (.ar .add .i64 (.ar .add .i64 (.ar .add .i64 (.int .i64 0) (.var 0)) (.var 1)) (.var 2)) (.var 3)) (.var 4)) (.var 5))])
theorem wk_mTotal : walk E0.cx (sgsN []) 0 15 sg_mTotal = tr_mTotal := by kernel_rfl
theorem bo_mTotal : ∃ x, bodyOf E0.P 15 = some x := bo_of (by kernel_rfl)
def totC (ds : List Dat) : Int := IntKind.i64.wrap (IntKind.i64.wrap (IntKind.i64.wrap (IntKind.i64.wrap (IntKind.i64.wrap (IntKind.i64.wrap (0 + argI ds 0) + argI ds 1) + argI ds 2) + argI ds 3) + argI ds 4) + argI ds 5)
theorem totC_good {ds : List Dat} (h : goodC ds = true) : totC ds = argI ds 0 + argI ds 1 + argI ds 2 + argI ds 3 + argI ds 4 + argI ds 5 := by
  have h := goodC_t.1 h
  have h0 := h 0 (by omega)
  have h1 := h 1 (by omega)
  have h2 := h 2 (by omega)
  have h3 := h 3 (by omega)
  have h4 := h 4 (by omega)
  have h5 := h 5 (by omega)
  unfold totC
  rw [wrap64 (x := 0 + argI ds 0) (by omega) (by omega), wrap64 (x := 0 + argI ds 0 + argI ds 1) (by omega) (by omega), wrap64 (x := 0 + argI ds 0 + argI ds 1 + argI ds 2) (by omega) (by omega), wrap64 (x := 0 + argI ds 0 + argI ds 1 + argI ds 2 + argI ds 3) (by omega) (by omega), wrap64 (x := 0 + argI ds 0 + argI ds 1 + argI ds 2 + argI ds 3 + argI ds 4) (by omega) (by omega), wrap64 (by omega) (by omega)]
  omega
def mTotal_s : Spec := fun ds Q => Q [.int .i64 (totC ds)]
theorem mTotal_h : Holds E0 k_mTotal sg_mTotal mTotal_s := con_fn wf0 mix0 g0 [] rfl wk_mTotal rfl (by
  intro Φ hΦ ds Q hs h
  have hl : ds.length = 6 := hs.length.symm
  clear hΦ
  simp only [tr_mTotal, wp, den_int, den_bool, den_nili, den_ar, den_cmp, den_not, den_len, den_elem, den_isnil, den_errI, den_ifc, den_rep, den_push, den_app, den_emp, den_upd, row0_econs, row0_enil, den_and, den_beq, den_nil, toInt_int, toBool_bool, xs_rows, xs_list, dflt_int, dflt_bool, of_eq, of_ne, of_lt, of_le, of_gt, of_ge, of_add, of_sub, of_rem, List.map_cons, List.map_nil, Dat.bool.injEq, decide_eq_true_eq, decide_eq_false_iff_not, Bool.not_eq_true', Bool.not_eq_false', beq_iff_eq, bne_iff_ne, beq_eq_false_iff_ne, bne_eq_false_iff_eq, ne_eq, List.append_assoc, List.cons_append, List.nil_append, allS, @den_var0 E0.Δ ds, den_varA, den_varB, hl, Nat.reduceLT, Nat.reduceLeDiff, Nat.reduceSub, List.getD_cons_zero, List.getD_cons_succ, argL_fold ds, argI_fold ds, List.append_assoc, List.cons_append, List.nil_append, toInt_int, toBool_bool, xs_rows, xs_list, Int.toNat_natCast, Dat.bool.injEq, den_or, den_sel, row0_econs, row0_enil, den_elem, den_len, @den_var0 E0.Δ ds, den_varA, den_varB, hl, Nat.reduceLT, Nat.reduceLeDiff, Nat.reduceSub, List.getD_cons_zero, List.getD_cons_succ, argL_fold ds, argI_fold ds, List.append_assoc, List.cons_append, List.nil_append, toInt_int, toBool_bool, xs_rows, xs_list, Int.toNat_natCast, Dat.bool.injEq]
  exact h)
noncomputable def con_mTotal : Con E0 := ⟨k_mTotal, sg_mTotal, mTotal_s, rfl, bo_mTotal, mTotal_h⟩
def k_rGood04 : Nat := 14
def sg_rGood04 : Sig := ⟨[(true, List.replicate 6 (.int .i64))], [(false, [.bool])], false, true, true, false, false⟩
def tr_rGood04 : Tree := (.ite (.or (.cmp .lt (.var 0) (.int .i64 0)) (.cmp .gt (.var 0) (.int .i64 1000)))
 (.ret [(.bool false)])
 (.ite (.or (.cmp .lt (.var 1) (.int .i64 0)) (.cmp .gt (.var 1) (.int .i64 1000)))
  (.ret [(.bool false)])
  (.ite (.or (.cmp .lt (.var 2) (.int .i64 0)) (.cmp .gt (.var 2) (.int .i64 1000)))
   (.ret [(.bool false)])
   (.ite (.or (.cmp .lt (.var 3) (.int .i64 0)) (.cmp .gt (.var 3) (.int .i64 1000)))
    (.ret [(.bool false)])
    (.ite (.or (.cmp .lt (.var 4) (.int .i64 0)) (.cmp .gt (.var 4) (.int .i64 1000)))
     (.ret [(.bool false)])
     (.ite (.or (.cmp .lt (.var 5) (.int .i64 0)) (.cmp .gt (.var 5) (.int .i64 1000)))
      (.ret [(.bool false)])
      (.ret [(.bool true)])))))))
theorem wk_rGood04 : walk E0.cx (sgsN []) 0 14 sg_rGood04 = tr_rGood04 := by kernel_rfl
theorem bo_rGood04 : ∃ x, bodyOf E0.P 14 = some x := bo_of (by kernel_rfl)
def rGood04_s : Spec := fun ds Q => Q [.bool (goodC ds)]
theorem rGood04_h : Holds E0 k_rGood04 sg_rGood04 rGood04_s := con_fn wf0 mix0 g0 [] rfl wk_rGood04 rfl (by
  intro Φ hΦ ds Q hs h
  have hl : ds.length = 6 := hs.length.symm
  have h : Q [.bool (goodC ds)] := h
  clear hΦ
  simp only [tr_rGood04, wp, den_int, den_bool, den_nili, den_ar, den_cmp, den_not, den_len, den_elem, den_isnil, den_errI, den_ifc, den_rep, den_push, den_app, den_emp, den_upd, row0_econs, row0_enil, den_and, den_beq, den_nil, toInt_int, toBool_bool, xs_rows, xs_list, dflt_int, dflt_bool, of_eq, of_ne, of_lt, of_le, of_gt, of_ge, of_add, of_sub, of_rem, List.map_cons, List.map_nil, Dat.bool.injEq, decide_eq_true_eq, decide_eq_false_iff_not, Bool.not_eq_true', Bool.not_eq_false', beq_iff_eq, bne_iff_ne, beq_eq_false_iff_ne, bne_eq_false_iff_eq, ne_eq, List.append_assoc, List.cons_append, List.nil_append, allS, @den_var0 E0.Δ ds, den_varA, den_varB, hl, Nat.reduceLT, Nat.reduceLeDiff, Nat.reduceSub, List.getD_cons_zero, List.getD_cons_succ, argL_fold ds, argI_fold ds, List.append_assoc, List.cons_append, List.nil_append, toInt_int, toBool_bool, xs_rows, xs_list, Int.toNat_natCast, Dat.bool.injEq, den_or, den_sel, row0_econs, row0_enil, den_elem, den_len, @den_var0 E0.Δ ds, den_varA, den_varB, hl, Nat.reduceLT, Nat.reduceLeDiff, Nat.reduceSub, List.getD_cons_zero, List.getD_cons_succ, argL_fold ds, argI_fold ds, List.append_assoc, List.cons_append, List.nil_append, toInt_int, toBool_bool, xs_rows, xs_list, Int.toNat_natCast, Dat.bool.injEq]
  refine ⟨fun hb => ?_, fun b0 => ⟨fun hb => ?_, fun b1 => ⟨fun hb => ?_, fun b2 => ⟨fun hb => ?_, fun b3 => ⟨fun hb => ?_, fun b4 => ⟨fun hb => ?_, fun b5 => ?_⟩⟩⟩⟩⟩⟩
  · rw [goodC_f (i := 0) (by omega) (badC hb)] at h; exact h
  · rw [goodC_f (i := 1) (by omega) (badC hb)] at h; exact h
  · rw [goodC_f (i := 2) (by omega) (badC hb)] at h; exact h
  · rw [goodC_f (i := 3) (by omega) (badC hb)] at h; exact h
  · rw [goodC_f (i := 4) (by omega) (badC hb)] at h; exact h
  · rw [goodC_f (i := 5) (by omega) (badC hb)] at h; exact h
  · rw [goodC_t.2 fun k hk => ?_] at h
    · exact h
    · match k, hk with
      | 0, _ => exact okC4 b0
      | 1, _ => exact okC4 b1
      | 2, _ => exact okC4 b2
      | 3, _ => exact okC4 b3
      | 4, _ => exact okC4 b4
      | 5, _ => exact okC4 b5)
noncomputable def con_rGood04 : Con E0 := ⟨k_rGood04, sg_rGood04, rGood04_s, rfl, bo_rGood04, rGood04_h⟩
end Go.Proofs.YtfpgbdefopbfbaaDoor
end

section
namespace Go.Proofs.YtfpgbdefopbfbaaDoor
open Go.Shelf
def sh_lays169_ren : Go.Shelf.Ren := ⟨fun | 169 => 23 | n => n, fun | 70 => 47 | 9 => 9 | 0 => 0 | 72 => 50 | 37 => 48 | 127 => 67 | 3 => 3 | 5 => 5 | n => n, fun | n => n⟩
theorem sh_lays169 : Go.Proofs.Lays.n169 Tryd.prog sh_lays169_ren := {
  mixed := by kernel_rfl
  f169 := Tryd.func23.trans (congrArg some (by kernel_rfl))
  t0 := Tryd.underlying0
  a0 := Tryd.isAgg0
  z0 := Tryd.sizeOf0
  v0 := Tryd.zeroValue0
  t3 := Tryd.underlying3
  a3 := Tryd.isAgg3
  z3 := Tryd.sizeOf3
  v3 := Tryd.zeroValue3
  t9 := Tryd.underlying9
  a9 := Tryd.isAgg9
  z9 := Tryd.sizeOf9
  v9 := Tryd.zeroValue9
  t37 := Tryd.underlying48
  a37 := Tryd.isAgg48
  z37 := Tryd.sizeOf48
  v37 := Tryd.zeroValue48
  t70 := Tryd.underlying47
  a70 := Tryd.isAgg47
  z70 := Tryd.sizeOf47
  v70 := Tryd.zeroValue47
  t72 := Tryd.underlying50
  a72 := Tryd.isAgg50
  z72 := Tryd.sizeOf50
  v72 := Tryd.zeroValue50
  t127 := Tryd.underlying67
  a127 := Tryd.isAgg67
  z127 := Tryd.sizeOf67
  v127 := Tryd.zeroValue67 }
theorem sh_Builder_Extra_169 : Builder.Extra Tryd.prog sh_lays169_ren := {
  sizeBuilder := by kernel_rfl
  liesBuilder := by kernel_rfl
  t5 := Tryd.underlying5
  a5 := Tryd.isAgg5
  z5 := Tryd.sizeOf5
  v5 := Tryd.zeroValue5
  infoByte := by kernel_rfl
  cellsByte := by kernel_rfl
  sizeByte := by kernel_rfl
  neB5 := by decide }
open Go.RowKit in
theorem sh_Builder_String_any_k (B b : Nat) (l : List UInt8) (w : World) (h : Lib.IsBuilderF 50 5 B b (Lib.byteCells l) w) (hBw : B ≤ w.heap.size) :
    Calls Tryd.prog 23 #[.pointer (some ⟨b, 0, none⟩)] w fun e w' => e = .returned (.string ⟨l.toArray⟩) ∧ (Lib.IsBuilderF 50 5 B b (Lib.byteCells l) w' ∧ Below B w w' ∧ Lib.OthersKept 5 (some b) w w') := Any.Builder_String_any_k sh_lays169 sh_Builder_Extra_169 B b l w h hBw
def sh_laysM171_ren : Go.Shelf.Ren := ⟨fun | 171 => 21 | 243 => 29 | 246 => 39 | 283 => 54 | 284 => 55 | 285 => 56 | 286 => 57 | 129 => 69 | 317 => 68 | 318 => 70 | 319 => 71 | 320 => 72 | 337 => 78 | 338 => 79 | n => n, fun | 3 => 3 | 9 => 9 | 2 => 2 | 4 => 4 | 171 => 92 | 0 => 0 | 53 => 77 | 37 => 48 | 5 => 5 | 173 => 95 | 212 => 109 | 51 => 74 | 20 => 20 | 213 => 110 | 46 => 61 | 232 => 127 | 233 => 128 | n => n, fun | 17 => 1 | 18 => 6 | 19 => 7 | n => n⟩
theorem sh_laysM171 : Go.Proofs.LaysM.n171 Tryd.prog sh_laysM171_ren := {
  mixed := by kernel_rfl
  f129 := Tryd.func69.trans (congrArg some (by kernel_rfl))
  f171 := Tryd.func21.trans (congrArg some (by kernel_rfl))
  f243 := Tryd.func29.trans (congrArg some (by kernel_rfl))
  f246 := Tryd.func39.trans (congrArg some (by kernel_rfl))
  f283 := Tryd.func54.trans (congrArg some (by kernel_rfl))
  f284 := Tryd.func55.trans (congrArg some (by kernel_rfl))
  f285 := Tryd.func56.trans (congrArg some (by kernel_rfl))
  f286 := Tryd.func57.trans (congrArg some (by kernel_rfl))
  f317 := Tryd.func68.trans (congrArg some (by kernel_rfl))
  f318 := Tryd.func70.trans (congrArg some (by kernel_rfl))
  f319 := Tryd.func71.trans (congrArg some (by kernel_rfl))
  f320 := Tryd.func72.trans (congrArg some (by kernel_rfl))
  f337 := Tryd.func78.trans (congrArg some (by kernel_rfl))
  f338 := Tryd.func79.trans (congrArg some (by kernel_rfl))
  t0 := Tryd.underlying0
  a0 := Tryd.isAgg0
  z0 := Tryd.sizeOf0
  v0 := Tryd.zeroValue0
  t2 := Tryd.underlying2
  a2 := Tryd.isAgg2
  z2 := Tryd.sizeOf2
  v2 := Tryd.zeroValue2
  t3 := Tryd.underlying3
  a3 := Tryd.isAgg3
  z3 := Tryd.sizeOf3
  v3 := Tryd.zeroValue3
  t4 := Tryd.underlying4
  a4 := Tryd.isAgg4
  z4 := Tryd.sizeOf4
  v4 := Tryd.zeroValue4
  t5 := Tryd.underlying5
  a5 := Tryd.isAgg5
  z5 := Tryd.sizeOf5
  v5 := Tryd.zeroValue5
  t9 := Tryd.underlying9
  a9 := Tryd.isAgg9
  z9 := Tryd.sizeOf9
  v9 := Tryd.zeroValue9
  t20 := Tryd.underlying20
  a20 := Tryd.isAgg20
  z20 := Tryd.sizeOf20
  v20 := Tryd.zeroValue20
  t37 := Tryd.underlying48
  a37 := Tryd.isAgg48
  z37 := Tryd.sizeOf48
  v37 := Tryd.zeroValue48
  t46 := Tryd.underlying61
  a46 := Tryd.isAgg61
  z46 := Tryd.sizeOf61
  v46 := Tryd.zeroValue61
  t51 := Tryd.underlying74
  a51 := Tryd.isAgg74
  z51 := Tryd.sizeOf74
  v51 := Tryd.zeroValue74
  t53 := Tryd.underlying77
  a53 := Tryd.isAgg77
  z53 := Tryd.sizeOf77
  v53 := Tryd.zeroValue77
  t171 := Tryd.underlying92
  a171 := Tryd.isAgg92
  z171 := Tryd.sizeOf92
  v171 := Tryd.zeroValue92
  t173 := Tryd.underlying95
  a173 := Tryd.isAgg95
  z173 := Tryd.sizeOf95
  v173 := Tryd.zeroValue95
  t212 := Tryd.underlying109
  a212 := Tryd.isAgg109
  z212 := Tryd.sizeOf109
  v212 := Tryd.zeroValue109
  t213 := Tryd.underlying110
  a213 := Tryd.isAgg110
  z213 := Tryd.sizeOf110
  t232 := Tryd.underlying127
  a232 := Tryd.isAgg127
  z232 := Tryd.sizeOf127
  v232 := Tryd.zeroValue127
  t233 := Tryd.underlying128
  a233 := Tryd.isAgg128
  z233 := Tryd.sizeOf128
  v233 := Tryd.zeroValue128
  g17 := by kernel_rfl
  g18 := by kernel_rfl
  g19 := by kernel_rfl
  i0 := by kernel_rfl
  i2 := by kernel_rfl
  i3 := by kernel_rfl
  i4 := by kernel_rfl
  i5 := by kernel_rfl
  i9 := by kernel_rfl
  i20 := by kernel_rfl
  i37 := by kernel_rfl
  i46 := by kernel_rfl
  i51 := by kernel_rfl
  i53 := by kernel_rfl
  i171 := by kernel_rfl
  i173 := by kernel_rfl
  i212 := by kernel_rfl
  i232 := by kernel_rfl
  i233 := by kernel_rfl
  m17 := by kernel_rfl
  m18 := by kernel_rfl
  m19 := by kernel_rfl }
open Go.RowKit Go.Sort Go.Lib in
theorem sh_strconv_Itoa (n : Int) (h0 : -9223372036854775808 ≤ n) (h1 : n ≤ 9223372036854775807) (w : World) (htab : Lib.TabIs Tryd.prog w "internal/strconv.uint64pow10" .u64 Lib.pow10Tab) :
    Calls Tryd.prog 21 #[.int .i64 n] w fun e w' => e = .returned (.string ⟨(Lib.itoa n).toArray⟩) ∧ ∃ k os, w' = grow (w.drewN k) os := Any.strconv_Itoa sh_laysM171 n h0 h1 w htab
def sh_lays171_ren : Go.Shelf.Ren := ⟨fun | 171 => 21 | 243 => 29 | 246 => 39 | 283 => 54 | 284 => 55 | 285 => 56 | 286 => 57 | 129 => 69 | 317 => 68 | 318 => 70 | 319 => 71 | 320 => 72 | 337 => 78 | 338 => 79 | n => n, fun | 3 => 3 | 9 => 9 | 2 => 2 | 4 => 4 | 171 => 92 | 0 => 0 | 53 => 77 | 37 => 48 | 5 => 5 | 173 => 95 | 212 => 109 | 51 => 74 | 20 => 20 | 213 => 110 | 46 => 61 | 232 => 127 | 233 => 128 | n => n, fun | 17 => 1 | 18 => 6 | 19 => 7 | n => n⟩
theorem sh_lays171 : Go.Proofs.Lays.n171 Tryd.prog sh_lays171_ren := {
  mixed := by kernel_rfl
  f129 := Tryd.func69.trans (congrArg some (by kernel_rfl))
  f171 := Tryd.func21.trans (congrArg some (by kernel_rfl))
  f243 := Tryd.func29.trans (congrArg some (by kernel_rfl))
  f246 := Tryd.func39.trans (congrArg some (by kernel_rfl))
  f283 := Tryd.func54.trans (congrArg some (by kernel_rfl))
  f284 := Tryd.func55.trans (congrArg some (by kernel_rfl))
  f285 := Tryd.func56.trans (congrArg some (by kernel_rfl))
  f286 := Tryd.func57.trans (congrArg some (by kernel_rfl))
  f317 := Tryd.func68.trans (congrArg some (by kernel_rfl))
  f318 := Tryd.func70.trans (congrArg some (by kernel_rfl))
  f319 := Tryd.func71.trans (congrArg some (by kernel_rfl))
  f320 := Tryd.func72.trans (congrArg some (by kernel_rfl))
  f337 := Tryd.func78.trans (congrArg some (by kernel_rfl))
  f338 := Tryd.func79.trans (congrArg some (by kernel_rfl))
  t0 := Tryd.underlying0
  a0 := Tryd.isAgg0
  z0 := Tryd.sizeOf0
  v0 := Tryd.zeroValue0
  t2 := Tryd.underlying2
  a2 := Tryd.isAgg2
  z2 := Tryd.sizeOf2
  v2 := Tryd.zeroValue2
  t3 := Tryd.underlying3
  a3 := Tryd.isAgg3
  z3 := Tryd.sizeOf3
  v3 := Tryd.zeroValue3
  t4 := Tryd.underlying4
  a4 := Tryd.isAgg4
  z4 := Tryd.sizeOf4
  v4 := Tryd.zeroValue4
  t5 := Tryd.underlying5
  a5 := Tryd.isAgg5
  z5 := Tryd.sizeOf5
  v5 := Tryd.zeroValue5
  t9 := Tryd.underlying9
  a9 := Tryd.isAgg9
  z9 := Tryd.sizeOf9
  v9 := Tryd.zeroValue9
  t20 := Tryd.underlying20
  a20 := Tryd.isAgg20
  z20 := Tryd.sizeOf20
  v20 := Tryd.zeroValue20
  t37 := Tryd.underlying48
  a37 := Tryd.isAgg48
  z37 := Tryd.sizeOf48
  v37 := Tryd.zeroValue48
  t46 := Tryd.underlying61
  a46 := Tryd.isAgg61
  z46 := Tryd.sizeOf61
  v46 := Tryd.zeroValue61
  t51 := Tryd.underlying74
  a51 := Tryd.isAgg74
  z51 := Tryd.sizeOf74
  v51 := Tryd.zeroValue74
  t53 := Tryd.underlying77
  a53 := Tryd.isAgg77
  z53 := Tryd.sizeOf77
  v53 := Tryd.zeroValue77
  t171 := Tryd.underlying92
  a171 := Tryd.isAgg92
  z171 := Tryd.sizeOf92
  v171 := Tryd.zeroValue92
  t173 := Tryd.underlying95
  a173 := Tryd.isAgg95
  z173 := Tryd.sizeOf95
  v173 := Tryd.zeroValue95
  t212 := Tryd.underlying109
  a212 := Tryd.isAgg109
  z212 := Tryd.sizeOf109
  v212 := Tryd.zeroValue109
  t213 := Tryd.underlying110
  a213 := Tryd.isAgg110
  z213 := Tryd.sizeOf110
  t232 := Tryd.underlying127
  a232 := Tryd.isAgg127
  z232 := Tryd.sizeOf127
  v232 := Tryd.zeroValue127
  t233 := Tryd.underlying128
  a233 := Tryd.isAgg128
  z233 := Tryd.sizeOf128
  v233 := Tryd.zeroValue128
  g17 := by kernel_rfl
  g18 := by kernel_rfl
  g19 := by kernel_rfl }
open Go.RowKit Go.Sort Go.Lib in
theorem sh_strconv_Itoa_small (i : Nat) (hi : i < 100) (w : World) :
    Calls Tryd.prog 21 #[.int .i64 i] w fun e w' => e = .returned (.string ⟨(Lib.decDigits i).toArray⟩) ∧ w' = w := Any.strconv_Itoa_small sh_lays171 i hi w
def sh_lays105_ren : Go.Shelf.Ren := ⟨fun | 105 => 22 | 212 => 30 | 99 => 31 | 165 => 32 | 166 => 20 | 170 => 33 | 169 => 23 | 263 => 40 | 264 => 41 | 206 => 42 | 240 => 28 | 241 => 43 | 276 => 38 | 277 => 58 | n => n, fun | 9 => 9 | 3 => 3 | 4 => 4 | 20 => 20 | 0 => 0 | 46 => 61 | 109 => 62 | 5 => 5 | 72 => 50 | 76 => 51 | 51 => 74 | 146 => 75 | 53 => 77 | 148 => 78 | 70 => 47 | 37 => 48 | 75 => 26 | 127 => 67 | 164 => 71 | 80 => 55 | n => n, fun | n => n⟩
theorem sh_lays105 : Go.Proofs.Lays.n105 Tryd.prog sh_lays105_ren := {
  mixed := by kernel_rfl
  f99 := Tryd.func31.trans (congrArg some (by kernel_rfl))
  f105 := Tryd.func22.trans (congrArg some (by kernel_rfl))
  f165 := Tryd.func32.trans (congrArg some (by kernel_rfl))
  f166 := Tryd.func20.trans (congrArg some (by kernel_rfl))
  f169 := Tryd.func23.trans (congrArg some (by kernel_rfl))
  f170 := Tryd.func33.trans (congrArg some (by kernel_rfl))
  f206 := Tryd.func42.trans (congrArg some (by kernel_rfl))
  f212 := Tryd.func30.trans (congrArg some (by kernel_rfl))
  f240 := Tryd.func28.trans (congrArg some (by kernel_rfl))
  f241 := Tryd.func43.trans (congrArg some (by kernel_rfl))
  f263 := Tryd.func40.trans (congrArg some (by kernel_rfl))
  f264 := Tryd.func41.trans (congrArg some (by kernel_rfl))
  f276 := Tryd.func38.trans (congrArg some (by kernel_rfl))
  f277 := Tryd.func58.trans (congrArg some (by kernel_rfl))
  t0 := Tryd.underlying0
  a0 := Tryd.isAgg0
  z0 := Tryd.sizeOf0
  v0 := Tryd.zeroValue0
  t3 := Tryd.underlying3
  a3 := Tryd.isAgg3
  z3 := Tryd.sizeOf3
  v3 := Tryd.zeroValue3
  t4 := Tryd.underlying4
  a4 := Tryd.isAgg4
  z4 := Tryd.sizeOf4
  v4 := Tryd.zeroValue4
  t5 := Tryd.underlying5
  a5 := Tryd.isAgg5
  z5 := Tryd.sizeOf5
  v5 := Tryd.zeroValue5
  t9 := Tryd.underlying9
  a9 := Tryd.isAgg9
  z9 := Tryd.sizeOf9
  v9 := Tryd.zeroValue9
  t20 := Tryd.underlying20
  a20 := Tryd.isAgg20
  z20 := Tryd.sizeOf20
  v20 := Tryd.zeroValue20
  t37 := Tryd.underlying48
  a37 := Tryd.isAgg48
  z37 := Tryd.sizeOf48
  v37 := Tryd.zeroValue48
  t46 := Tryd.underlying61
  a46 := Tryd.isAgg61
  z46 := Tryd.sizeOf61
  v46 := Tryd.zeroValue61
  t51 := Tryd.underlying74
  a51 := Tryd.isAgg74
  z51 := Tryd.sizeOf74
  v51 := Tryd.zeroValue74
  t53 := Tryd.underlying77
  a53 := Tryd.isAgg77
  z53 := Tryd.sizeOf77
  v53 := Tryd.zeroValue77
  t70 := Tryd.underlying47
  a70 := Tryd.isAgg47
  z70 := Tryd.sizeOf47
  v70 := Tryd.zeroValue47
  t72 := Tryd.underlying50
  a72 := Tryd.isAgg50
  z72 := Tryd.sizeOf50
  v72 := Tryd.zeroValue50
  t75 := Tryd.underlying26
  a75 := Tryd.isAgg26
  z75 := Tryd.sizeOf26
  v75 := Tryd.zeroValue26
  t76 := Tryd.underlying51
  a76 := Tryd.isAgg51
  z76 := Tryd.sizeOf51
  v76 := Tryd.zeroValue51
  t109 := Tryd.underlying62
  a109 := Tryd.isAgg62
  z109 := Tryd.sizeOf62
  v109 := Tryd.zeroValue62
  t127 := Tryd.underlying67
  a127 := Tryd.isAgg67
  z127 := Tryd.sizeOf67
  v127 := Tryd.zeroValue67
  t146 := Tryd.underlying75
  a146 := Tryd.isAgg75
  z146 := Tryd.sizeOf75
  v146 := Tryd.zeroValue75
  t148 := Tryd.underlying78
  a148 := Tryd.isAgg78
  z148 := Tryd.sizeOf78
  v148 := Tryd.zeroValue78
  t164 := Tryd.underlying71
  a164 := Tryd.isAgg71
  z164 := Tryd.sizeOf71
  v164 := Tryd.zeroValue71 }
theorem sh_Builder_Extra_105 : Builder.Extra Tryd.prog sh_lays105_ren := {
  sizeBuilder := by kernel_rfl
  liesBuilder := by kernel_rfl
  t5 := Tryd.underlying5
  a5 := Tryd.isAgg5
  z5 := Tryd.sizeOf5
  v5 := Tryd.zeroValue5
  infoByte := by kernel_rfl
  cellsByte := by kernel_rfl
  sizeByte := by kernel_rfl
  neB5 := by decide }
open Go.RowKit Go.Lib in
theorem sh_strings_Repeat (s : ByteArray) (c : Nat) (w : World) (hc : c ≤ 9223372036854775807) (hlen : s.size * c ≤ 140737488355328) :
    Calls Tryd.prog 22 #[.string s, .int .i64 c] w fun e w' => e = .returned (.string ⟨(Lib.repeatL s.data.toList c).toArray⟩) ∧ Below w.heap.size w w' := Any.strings_Repeat sh_lays105 sh_Builder_Extra_105 s c w hc hlen
def sh_lays113_ren : Go.Shelf.Ren := ⟨fun | 113 => 19 | n => n, fun | 28 => 46 | 3 => 3 | 4 => 4 | 9 => 9 | 20 => 20 | 0 => 0 | n => n, fun | n => n⟩
theorem sh_lays113 : Go.Proofs.Lays.n113 Tryd.prog sh_lays113_ren := {
  mixed := by kernel_rfl
  f113 := Tryd.func19.trans (congrArg some (by kernel_rfl))
  t0 := Tryd.underlying0
  a0 := Tryd.isAgg0
  z0 := Tryd.sizeOf0
  v0 := Tryd.zeroValue0
  t3 := Tryd.underlying3
  a3 := Tryd.isAgg3
  z3 := Tryd.sizeOf3
  v3 := Tryd.zeroValue3
  t4 := Tryd.underlying4
  a4 := Tryd.isAgg4
  z4 := Tryd.sizeOf4
  v4 := Tryd.zeroValue4
  t9 := Tryd.underlying9
  a9 := Tryd.isAgg9
  z9 := Tryd.sizeOf9
  v9 := Tryd.zeroValue9
  t20 := Tryd.underlying20
  a20 := Tryd.isAgg20
  z20 := Tryd.sizeOf20
  v20 := Tryd.zeroValue20
  t28 := Tryd.underlying46
  a28 := Tryd.isAgg46
  z28 := Tryd.sizeOf46
  v28 := Tryd.zeroValue46 }
open Go.Lib in
theorem sh_slices_Max_int (b off n c : Nat) (zs : List Int) (w : World) (hn : 0 < n) (hz : n ≤ zs.length) (hbig : n ≤ 9223372036854775807) (hc : ∀ j, j < zs.length → w.cell? ⟨b, off + j, none⟩ = some (.int .i64 (zs.getD j 0))) :
    Calls Tryd.prog 19 #[.slice (some ⟨b, off, none⟩) n c] w fun e w' => e = .returned (.int .i64 (Lib.maxOf (zs.take n))) ∧ w' = w := Any.slices_Max_int sh_lays113 b off n c zs w hn hz hbig hc
theorem sh_lays166 : Go.Proofs.Lays.n166 Tryd.prog sh_lays105_ren := { sh_lays105 with }
open Go.RowKit in
theorem sh_Builder_WriteString_k (B b : Nat) (bs : List Value) (s : ByteArray) (w : World) (h : Lib.IsBuilderF 50 5 B b bs w) (hlen : bs.length + s.size ≤ 140737488355328) (hBw : B ≤ w.heap.size) :
    Calls Tryd.prog 20 #[.pointer (some ⟨b, 0, none⟩), .string s] w fun e w' => e = .returned (.tuple #[.int .i64 s.size, .nilIface]) ∧ (Lib.BuilderAtF 50 5 B b (.pointer (some ⟨b, 0, none⟩)) (bs ++ Lib.strCells s) w' ∧ Below B w w' ∧ Lib.OthersKept 5 (some b) w w') := Any.Builder_WriteString_k sh_lays166 sh_Builder_Extra_105 B b bs s w h hlen hBw
end Go.Proofs.YtfpgbdefopbfbaaDoor
end

section
namespace Go.Proofs.YtfpgbdefopbfbaaDoor
open Go.RowKit
set_option linter.unusedVariables false
set_option linter.unusedSimpArgs false

def costV (a0 a1 a2 a3 a4 a5 : Int) : Value := .agg #[.int .i64 a0, .int .i64 a1, .int .i64 a2, .int .i64 a3, .int .i64 a4, .int .i64 a5]
def costD (a0 a1 a2 a3 a4 a5 : Int) : List Dat := [.int .i64 a0, .int .i64 a1, .int .i64 a2, .int .i64 a3, .int .i64 a4, .int .i64 a5]
theorem cost_has (a0 a1 a2 a3 a4 a5 : Int) : All2 (Has E0.Δ) [.int .i64, .int .i64, .int .i64, .int .i64, .int .i64, .int .i64] (costD a0 a1 a2 a3 a4 a5) :=
  .cons (.int _ _) (.cons (.int _ _) (.cons (.int _ _) (.cons (.int _ _) (.cons (.int _ _) (.cons (.int _ _) .nil)))))
theorem cost_ok (a0 a1 a2 a3 a4 a5 : Int) (w : World) : OkL w (costD a0 a1 a2 a3 a4 a5) := fun d hd => by
  simp only [costD, List.mem_cons, List.not_mem_nil, or_false] at hd
  rcases hd with rfl | rfl | rfl | rfl | rfl | rfl <;> exact .int _ _
theorem good_w {w : World} (hG : E0.globs w) (a0 a1 a2 a3 a4 a5 : Int) {b : Bool} (hb : goodC (costD a0 a1 a2 a3 a4 a5) = b) :
    Calls Tryd.prog 13 #[costV a0 a1 a2 a3 a4 a5] w fun e w' => e = .returned (.bool b) ∧ Below w.heap.size w w' := by
  refine (mGood_h w (costD a0 a1 a2 a3 a4 a5) (fun rs => rs = [.bool b]) (cost_has ..) (cost_ok _ _ _ _ _ _ _) (fun d hd => absurd hd (by simp [E0])) hG (by show [Dat.bool (goodC (costD a0 a1 a2 a3 a4 a5))] = _; rw [hb])).mono fun e W' ⟨rs, hrs, _, hbw, _, _, he⟩ => ?_
  subst hrs
  exact ⟨he, hbw⟩
theorem total_w {w : World} (hG : E0.globs w) (a0 a1 a2 a3 a4 a5 : Int) {t : Int} (ht : totC (costD a0 a1 a2 a3 a4 a5) = t) :
    Calls Tryd.prog 15 #[costV a0 a1 a2 a3 a4 a5] w fun e w' => e = .returned (.int .i64 t) ∧ Below w.heap.size w w' := by
  refine (mTotal_h w (costD a0 a1 a2 a3 a4 a5) (fun rs => rs = [.int .i64 t]) (cost_has ..) (cost_ok _ _ _ _ _ _ _) (fun d hd => absurd hd (by simp [E0])) hG (by show [Dat.int .i64 (totC (costD a0 a1 a2 a3 a4 a5))] = _; rw [ht])).mono fun e W' ⟨rs, hrs, _, hbw, _, _, he⟩ => ?_
  subst hrs
  exact ⟨he, hbw⟩
theorem globs_below {w w' : World} {B : Nat} (hG : E0.globs w) (hB : w.heap.size ≤ B) (hb : Below B w w') : E0.globs w' := fun x hx => by
  obtain ⟨T, h⟩ := hG x hx
  exact ⟨T, (hb.block x.1 (Nat.lt_of_lt_of_le h.lt hB)).trans h⟩
theorem pow_tab {w : World} (hG : E0.globs w) : Lib.TabIs Tryd.prog w "internal/strconv.uint64pow10" .u64 Lib.pow10Tab := by
  have hm : gts.getD 0 (0, [], 0) ∈ E0.gt := List.mem_cons_self
  obtain ⟨T, h⟩ := hG _ hm
  have h : w.heap[1]? = some (.cells (Lib.pow10Tab.map fun z => Value.int .u64 z).toArray T (0, 0)) := h
  unfold Lib.TabIs World.var?
  have hn : Tryd.prog.globalNamed "internal/strconv.uint64pow10" = some 1 := by kernel_rfl
  rw [hn, Option.bind_some, h]
end Go.Proofs.YtfpgbdefopbfbaaDoor
end

section
namespace Go.Proofs.YtfpgbdefopbfbaaDoor
open Go.RowKit
set_option linter.unusedVariables false
set_option linter.unusedSimpArgs false

set_option maxHeartbeats 4000000 in
set_option maxRecDepth 1000000 in
theorem mText_bad (a0 a1 a2 a3 a4 a5 : Int) (w : World) (hG : E0.globs w) (hb : goodC (costD a0 a1 a2 a3 a4 a5) = false) :
    Calls Tryd.prog 8 #[costV a0 a1 a2 a3 a4 a5] w fun e w' => e = .returned (.tuple #[.string ⟨#[]⟩, .iface 44 (.int .i64 2)]) ∧ Below w.heap.size w w' := by
  have HG : ∀ o, E0.globs (w.alloc o) := fun o => globs_below hG (Nat.le_refl _) ((Below.refl _ _).alloc (Nat.le_refl _) o)
  have HB := fun o => (Below.refl w.heap.size w).alloc (Nat.le_refl _) o
  have hcv : costV a0 a1 a2 a3 a4 a5 = .agg #[.int .i64 a0, .int .i64 a1, .int .i64 a2, .int .i64 a3, .int .i64 a4, .int .i64 a5] := rfl
  have HW := fun o => good_w (HG o) a0 a1 a2 a3 a4 a5 hb
  rw [hcv] at HW ⊢
  go_enter Tryd.func8, Tryd.ntmps8
  go_wp2_with (go_at_call 13; refine (HW _).mono ?_)
  rintro e W1 ⟨rfl, hb1⟩
  go_wp2
  go_ret2
  exact ⟨rfl, (HB _).trans (hb1.mono (by simp))⟩
theorem isB_below {T e : TypeId} {B b : Nat} {bs : List Value} {W W' : World} (h : Lib.IsBuilderF T e B b bs W) (hb : Below W.heap.size W W') : Lib.IsBuilderF T e B b bs W' := by
  have key : ∀ {p : Value}, Lib.BuilderAtF T e B b p bs W → Lib.BuilderAtF T e B b p bs W' := fun h => by
    have hlt := h.lt
    obtain ⟨hB, v, hv, hown, hne⟩ := h
    exact ⟨hB, v, (hb.block b hlt).trans hv, hown.kept (row := none) ⟨hb.os, hb.tape, hb.output, hb.size, fun k hk _ => hb.block k hk⟩ (Classical.em _), hne⟩
  exact h.elim (fun x => .inl (key x)) (fun x => .inr (key x))
theorem below_grew (w : World) (k : Nat) (os : Array Obj) : Below w.heap.size w (Sort.grow (w.drewN k) os) :=
  ⟨rfl, rfl, rfl, by show w.heap.size ≤ (w.heap ++ os).size; rw [Array.size_append]; omega, fun j hj => by
    show (w.heap ++ os)[j]? = _
    exact Array.getElem?_append_left hj⟩
theorem dec_len (u : Nat) : (Lib.decDigits u).length ≤ u + 1 := by
  induction u using Nat.strongRecOn with
  | _ u ih =>
    rw [Lib.decDigits]
    split
    · simp
    · have := ih (u / 10) (by omega)
      rw [List.length_append, List.length_cons, List.length_nil]
      omega
theorem isB_app {T e : TypeId} {B b : Nat} {l : List UInt8} {m : List UInt8} {W : World} (h : Lib.BuilderAtF T e B b (.pointer (some ⟨b, 0, none⟩)) (Lib.byteCells l ++ Lib.strCells ⟨m.toArray⟩) W) : Lib.IsBuilderF T e B b (Lib.byteCells (l ++ m)) W := by
  rw [Lib.byteCells_append]; exact Or.inr h
def segL (n0 n1 n2 n3 n4 : Nat) : List (List UInt8) := [Lib.repeatL [87] n0, Lib.repeatL [85] n1, Lib.repeatL [66] n2, Lib.repeatL [82] n3, Lib.repeatL [71] n4]
def maxC (n0 n1 n2 n3 n4 : Nat) : Int := Lib.maxOf [(n0 : Int), n1, n2, n3, n4]
set_option maxHeartbeats 4000000 in
set_option maxRecDepth 1000000 in
theorem mText_long (n0 n1 n2 n3 n4 n5 : Nat) (w : World) (hG : E0.globs w) (hb : goodC (costD n0 n1 n2 n3 n4 n5) = true) (hm : 20 < maxC n0 n1 n2 n3 n4) :
    Calls Tryd.prog 8 #[costV n0 n1 n2 n3 n4 n5] w fun e w' => e = .returned (.tuple #[.string ⟨#[]⟩, .iface 44 (.int .i64 3)]) ∧ Below w.heap.size w w' := by
  have HG : ∀ o, E0.globs (w.alloc o) := fun o => globs_below hG (Nat.le_refl _) ((Below.refl _ _).alloc (Nat.le_refl _) o)
  have HB := fun o => (Below.refl w.heap.size w).alloc (Nat.le_refl _) o
  have hcv : costV n0 n1 n2 n3 n4 n5 = .agg #[.int .i64 n0, .int .i64 n1, .int .i64 n2, .int .i64 n3, .int .i64 n4, .int .i64 n5] := rfl
  have HW := fun o => good_w (HG o) n0 n1 n2 n3 n4 n5 hb
  rw [hcv] at HW ⊢
  go_enter Tryd.func8, Tryd.ntmps8
  go_wp2_with (go_at_call 13; refine (HW _).mono ?_)
  rintro e W1 ⟨rfl, hb1⟩
  have hrow : Row W1 w.heap.size #[.int .i64 n0, .int .i64 n1, .int .i64 n2, .int .i64 n3, .int .i64 n4, .int .i64 n5] 23 := (Row.new w _ _).below hb1
  have hcell : ∀ j, j < [(n0 : Int), n1, n2, n3, n4].length → W1.cell? ⟨w.heap.size, 0 + j, none⟩ = some (.int .i64 ([(n0 : Int), n1, n2, n3, n4].getD j 0)) := fun j hj => by
    match j, hj with
    | 0, _ | 1, _ | 2, _ | 3, _ | 4, _ => exact hrow.cell rfl
  have hmx := sh_slices_Max_int w.heap.size 0 5 6 [(n0 : Int), n1, n2, n3, n4] W1 (by omega) (Nat.le_refl _) (by omega) hcell
  have hmv : Lib.maxOf ([(n0 : Int), n1, n2, n3, n4].take 5) = maxC n0 n1 n2 n3 n4 := rfl
  rw [hmv] at hmx
  generalize maxC n0 n1 n2 n3 n4 = mx at *
  go_wp2_with (go_at_call 19; refine hmx.mono ?_)
  rintro e W2 ⟨rfl, rfl⟩
  go_wp2
  go_ret2
  exact ⟨rfl, (HB _).trans (hb1.mono (by simp))⟩
theorem rep_w {s : ByteArray} {c : UInt8} (hs : s = ⟨#[c]⟩) (n : Nat) (hn : n ≤ 1000) (W : World) :
    Calls Tryd.prog 22 #[.string s, .int .i64 n] W fun e w' => e = .returned (.string ⟨(Lib.repeatL [c] n).toArray⟩) ∧ Below W.heap.size W w' := by
  subst hs
  exact sh_strings_Repeat ⟨#[c]⟩ n W (by omega) (by show 1 * n ≤ _; omega)
theorem rep_len (c : UInt8) (n : Nat) : (Lib.repeatL [c] n).length = n := by rw [Lib.repeatL_length]; simp
theorem seg_len {n0 n1 n2 n3 n4 : Nat} (h0 : n0 ≤ 1000) (h1 : n1 ≤ 1000) (h2 : n2 ≤ 1000) (h3 : n3 ≤ 1000) (h4 : n4 ≤ 1000) {pre : List UInt8} (hp : pre.length ≤ 1001) {k : Nat} (hk : k ≤ 5) {c : UInt8} {n : Nat} (hn : n ≤ 1000) :
    (Lib.byteCells (pre ++ ((segL n0 n1 n2 n3 n4).take k).flatten)).length + (ByteArray.mk (Lib.repeatL [c] n).toArray).size ≤ 140737488355328 := by
  have e : (ByteArray.mk (Lib.repeatL [c] n).toArray).size = n := by
    show (Lib.repeatL [c] n).toArray.size = n
    rw [List.size_toArray, rep_len]
  have f : ((segL n0 n1 n2 n3 n4).take k).flatten.length ≤ 5000 := by
    have : k = 0 ∨ k = 1 ∨ k = 2 ∨ k = 3 ∨ k = 4 ∨ k = 5 := by omega
    rcases this with rfl | rfl | rfl | rfl | rfl | rfl <;> simp [segL, rep_len] <;> omega
  rw [e, Lib.byteCells_length, List.length_append]
  omega
def textB (n0 n1 n2 n3 n4 n5 : Nat) : List UInt8 := (if 0 < n5 ∨ n0 + n1 + n2 + n3 + n4 = 0 then Lib.decDigits n5 else []) ++ (segL n0 n1 n2 n3 n4).flatten
theorem cost_isz (v0 v1 v2 v3 v4 v5 : Value) : (Tryd.prog.info? 23).map (·.size) = some (#[v0, v1, v2, v3, v4, v5] : Array Value).size := by kernel_rfl
set_option maxHeartbeats 4000000 in
set_option maxRecDepth 1000000 in
theorem mText_ok (n0 n1 n2 n3 n4 n5 : Nat) (w : World) (hG : E0.globs w) (hb : goodC (costD n0 n1 n2 n3 n4 n5) = true) (hm : maxC n0 n1 n2 n3 n4 ≤ 20) :
    Calls Tryd.prog 8 #[costV n0 n1 n2 n3 n4 n5] w fun e w' => e = .returned (.tuple #[.string ⟨(textB n0 n1 n2 n3 n4 n5).toArray⟩, .nilIface]) ∧ Below w.heap.size w w' := by
  have HG : ∀ o, E0.globs (w.alloc o) := fun o => globs_below hG (Nat.le_refl _) ((Below.refl _ _).alloc (Nat.le_refl _) o)
  have HB := fun o => (Below.refl w.heap.size w).alloc (Nat.le_refl _) o
  have hcv : costV n0 n1 n2 n3 n4 n5 = .agg #[.int .i64 n0, .int .i64 n1, .int .i64 n2, .int .i64 n3, .int .i64 n4, .int .i64 n5] := rfl
  have HW := fun o => good_w (HG o) n0 n1 n2 n3 n4 n5 hb
  rw [hcv] at HW ⊢
  go_enter Tryd.func8, Tryd.ntmps8
  go_wp2_with (go_at_call 13; refine (HW _).mono ?_)
  rintro e W1 ⟨rfl, hb1⟩
  have hrow : Row W1 w.heap.size #[.int .i64 n0, .int .i64 n1, .int .i64 n2, .int .i64 n3, .int .i64 n4, .int .i64 n5] 23 := (Row.new w _ _).below hb1
  have hcell : ∀ j, j < [(n0 : Int), n1, n2, n3, n4].length → W1.cell? ⟨w.heap.size, 0 + j, none⟩ = some (.int .i64 ([(n0 : Int), n1, n2, n3, n4].getD j 0)) := fun j hj => by
    match j, hj with
    | 0, _ | 1, _ | 2, _ | 3, _ | 4, _ => exact hrow.cell rfl
  have hmx := sh_slices_Max_int w.heap.size 0 5 6 [(n0 : Int), n1, n2, n3, n4] W1 (by omega) (Nat.le_refl _) (by omega) hcell
  have hmv : Lib.maxOf ([(n0 : Int), n1, n2, n3, n4].take 5) = maxC n0 n1 n2 n3 n4 := rfl
  rw [hmv] at hmx
  generalize maxC n0 n1 n2 n3 n4 = mx at *
  have HG1 : E0.globs W1 := globs_below (HG _) (Nat.le_refl _) hb1
  have HB1 : Below w.heap.size w W1 := (HB _).trans (hb1.mono (by simp))
  have hlt1 := hrow.lt
  clear hcell hmv HG HB HW hb1 hG
  go_upto_region 6 with (go_at_call 19; refine hmx.mono ?_; rintro e W2 ⟨rfl, rfl⟩)
  have HI : Lib.IsBuilderF 50 5 W2.heap.size W2.heap.size (Lib.byteCells []) (W2.alloc (.cells #[.pointer none, .slice none 0 0] 50)) := Lib.IsBuilderF.of (Lib.fresh_isBuilder 50 5 W2)
  have HB : Below W2.heap.size W2 (W2.alloc (.cells #[.pointer none, .slice none 0 0] 50)) := (Below.refl _ _).alloc (Nat.le_refl _) _
  generalize W2.alloc (.cells #[.pointer none, .slice none 0 0] 50) = W3 at *
  have HR : Row W3 w.heap.size #[.int .i64 n0, .int .i64 n1, .int .i64 n2, .int .i64 n3, .int .i64 n4, .int .i64 n5] 23 := hrow.below HB
  have hc5 : W3.cell? ⟨w.heap.size, 5, none⟩ = some (.int .i64 n5) := HR.cell rfl
  have HG3 : E0.globs W3 := globs_below HG1 (Nat.le_refl _) HB
  have hn5 : n5 ≤ 1000 := by
    have := (goodC_t.1 hb 5 (by omega)).2
    change (n5 : Int) ≤ 1000 at this
    omega
  have hwl : (Lib.byteCells []).length + (ByteArray.mk (Lib.decDigits n5).toArray).size ≤ 140737488355328 := by
    have := dec_len n5
    show 0 + (Lib.decDigits n5).toArray.size ≤ _
    rw [List.size_toArray]; omega
  have c0 : n0 ≤ 1000 := by have := (goodC_t.1 hb 0 (by omega)).2; change (n0 : Int) ≤ 1000 at this; omega
  have c1 : n1 ≤ 1000 := by have := (goodC_t.1 hb 1 (by omega)).2; change (n1 : Int) ≤ 1000 at this; omega
  have c2 : n2 ≤ 1000 := by have := (goodC_t.1 hb 2 (by omega)).2; change (n2 : Int) ≤ 1000 at this; omega
  have c3 : n3 ≤ 1000 := by have := (goodC_t.1 hb 3 (by omega)).2; change (n3 : Int) ≤ 1000 at this; omega
  have c4 : n4 ≤ 1000 := by have := (goodC_t.1 hb 4 (by omega)).2; change (n4 : Int) ≤ 1000 at this; omega
  by_cases h5 : (0 : Int) < (n5 : Int)
  · have HIT : Calls Tryd.prog 21 #[.int .i64 n5] W3 fun e w' => e = .returned (.string ⟨(Lib.decDigits n5).toArray⟩) ∧ Below W3.heap.size W3 w' :=
      (sh_strconv_Itoa (n5 : Int) (by omega) (by omega) W3 (pow_tab HG3)).mono fun e w' ⟨he, k, os, hw⟩ => ⟨by rw [he, Lib.itoa_nonneg], by rw [hw]; exact below_grew _ _ _⟩
    go_upto_region 8 with (first
      | (go_at_call 21; refine HIT.mono ?_; rintro e W4 ⟨rfl, hb4⟩; replace HI := isB_below HI hb4; replace HB := HB.trans (hb4.mono HB.size); clear hb4)
      | (go_at_call 20; refine (sh_Builder_WriteString_k W2.heap.size W2.heap.size _ _ _ HI hwl HB.size).mono ?_; rintro e W5 ⟨rfl, hI1, hb5, ho5⟩; replace HI := isB_app hI1; replace HB := HB.trans hb5; clear hI1 hb5 ho5))
    generalize hpre : [] ++ Lib.decDigits n5 = pre at HI
    have HP := Lib.hid hpre
    clear hpre
    clear HIT HR hc5 HG3
    have hpl : pre.length ≤ 1001 := by rw [← HP.out]; first | (simp; done) | (rw [List.nil_append]; have := dec_len n5; omega)
    go_wp2
    go_loopw [29] (fun iv wr => ∃ (k : Nat), k ≤ 5 ∧ iv = .int .i64 k ∧ Lib.IsBuilderF 50 5 W2.heap.size W2.heap.size (Lib.byteCells (pre ++ ((segL n0 n1 n2 n3 n4).take k).flatten)) wr ∧ Below W2.heap.size W2 wr) (fun iv _ => 5 - (intOf iv).toNat)
    case atStart => exact ⟨0, by omega, rfl, by rw [List.take_zero, List.flatten_nil, List.append_nil]; exact HI, HB⟩
    case round =>
      clear HI HB
      obtain ⟨k, hk, rfl, HI, HB⟩ := hrel
      have HR : Row wr w.heap.size #[.int .i64 n0, .int .i64 n1, .int .i64 n2, .int .i64 n3, .int .i64 n4, .int .i64 n5] 23 := hrow.below HB
      by_cases hk5 : k < 5
      · obtain rfl | rfl | rfl | rfl | rfl : k = 0 ∨ k = 1 ∨ k = 2 ∨ k = 3 ∨ k = 4 := by omega
        · have hck : wr.cell? ⟨w.heap.size, 0, none⟩ = some (.int .i64 n0) := HR.cell rfl
          have HREP := fun W => rep_w (s := (ByteArray.mk #[87, 85, 66, 82, 71]).extract 0 1) (c := 87) rfl n0 c0 W
          have hwk := seg_len c0 c1 c2 c3 c4 hpl (k := 0) (by omega) (c := 87) c0
          go_wp2_with (first
            | (go_at_call 22; refine (HREP _).mono ?_; rintro e W4 ⟨rfl, hb4⟩; replace HI := isB_below HI hb4; replace HB := HB.trans (hb4.mono HB.size); clear hb4)
            | (go_at_call 20; refine (sh_Builder_WriteString_k W2.heap.size W2.heap.size _ _ _ HI hwk HB.size).mono ?_; rintro e W5 ⟨rfl, hI1, hb5, ho5⟩; replace HI := isB_app hI1; replace HB := HB.trans hb5; clear hI1 hb5 ho5))
          go_roundw
          case rel =>
            have e : pre ++ ((segL n0 n1 n2 n3 n4).take 1).flatten = (pre ++ ((segL n0 n1 n2 n3 n4).take 0).flatten) ++ Lib.repeatL [87] n0 := by simp [segL]
            exact ⟨1, by omega, (by first | rfl | go_num), (by rw [e]; exact HI), HB⟩
          case measure => simp [intOf]
        · have hck : wr.cell? ⟨w.heap.size, 1, none⟩ = some (.int .i64 n1) := HR.cell rfl
          have HREP := fun W => rep_w (s := (ByteArray.mk #[87, 85, 66, 82, 71]).extract 1 2) (c := 85) rfl n1 c1 W
          have hwk := seg_len c0 c1 c2 c3 c4 hpl (k := 1) (by omega) (c := 85) c1
          go_wp2_with (first
            | (go_at_call 22; refine (HREP _).mono ?_; rintro e W4 ⟨rfl, hb4⟩; replace HI := isB_below HI hb4; replace HB := HB.trans (hb4.mono HB.size); clear hb4)
            | (go_at_call 20; refine (sh_Builder_WriteString_k W2.heap.size W2.heap.size _ _ _ HI hwk HB.size).mono ?_; rintro e W5 ⟨rfl, hI1, hb5, ho5⟩; replace HI := isB_app hI1; replace HB := HB.trans hb5; clear hI1 hb5 ho5))
          go_roundw
          case rel =>
            have e : pre ++ ((segL n0 n1 n2 n3 n4).take 2).flatten = (pre ++ ((segL n0 n1 n2 n3 n4).take 1).flatten) ++ Lib.repeatL [85] n1 := by simp [segL]
            exact ⟨2, by omega, (by first | rfl | go_num), (by rw [e]; exact HI), HB⟩
          case measure => simp [intOf]
        · have hck : wr.cell? ⟨w.heap.size, 2, none⟩ = some (.int .i64 n2) := HR.cell rfl
          have HREP := fun W => rep_w (s := (ByteArray.mk #[87, 85, 66, 82, 71]).extract 2 3) (c := 66) rfl n2 c2 W
          have hwk := seg_len c0 c1 c2 c3 c4 hpl (k := 2) (by omega) (c := 66) c2
          go_wp2_with (first
            | (go_at_call 22; refine (HREP _).mono ?_; rintro e W4 ⟨rfl, hb4⟩; replace HI := isB_below HI hb4; replace HB := HB.trans (hb4.mono HB.size); clear hb4)
            | (go_at_call 20; refine (sh_Builder_WriteString_k W2.heap.size W2.heap.size _ _ _ HI hwk HB.size).mono ?_; rintro e W5 ⟨rfl, hI1, hb5, ho5⟩; replace HI := isB_app hI1; replace HB := HB.trans hb5; clear hI1 hb5 ho5))
          go_roundw
          case rel =>
            have e : pre ++ ((segL n0 n1 n2 n3 n4).take 3).flatten = (pre ++ ((segL n0 n1 n2 n3 n4).take 2).flatten) ++ Lib.repeatL [66] n2 := by simp [segL]
            exact ⟨3, by omega, (by first | rfl | go_num), (by rw [e]; exact HI), HB⟩
          case measure => simp [intOf]
        · have hck : wr.cell? ⟨w.heap.size, 3, none⟩ = some (.int .i64 n3) := HR.cell rfl
          have HREP := fun W => rep_w (s := (ByteArray.mk #[87, 85, 66, 82, 71]).extract 3 4) (c := 82) rfl n3 c3 W
          have hwk := seg_len c0 c1 c2 c3 c4 hpl (k := 3) (by omega) (c := 82) c3
          go_wp2_with (first
            | (go_at_call 22; refine (HREP _).mono ?_; rintro e W4 ⟨rfl, hb4⟩; replace HI := isB_below HI hb4; replace HB := HB.trans (hb4.mono HB.size); clear hb4)
            | (go_at_call 20; refine (sh_Builder_WriteString_k W2.heap.size W2.heap.size _ _ _ HI hwk HB.size).mono ?_; rintro e W5 ⟨rfl, hI1, hb5, ho5⟩; replace HI := isB_app hI1; replace HB := HB.trans hb5; clear hI1 hb5 ho5))
          go_roundw
          case rel =>
            have e : pre ++ ((segL n0 n1 n2 n3 n4).take 4).flatten = (pre ++ ((segL n0 n1 n2 n3 n4).take 3).flatten) ++ Lib.repeatL [82] n3 := by simp [segL]
            exact ⟨4, by omega, (by first | rfl | go_num), (by rw [e]; exact HI), HB⟩
          case measure => simp [intOf]
        · have hck : wr.cell? ⟨w.heap.size, 4, none⟩ = some (.int .i64 n4) := HR.cell rfl
          have HREP := fun W => rep_w (s := (ByteArray.mk #[87, 85, 66, 82, 71]).extract 4 5) (c := 71) rfl n4 c4 W
          have hwk := seg_len c0 c1 c2 c3 c4 hpl (k := 4) (by omega) (c := 71) c4
          go_wp2_with (first
            | (go_at_call 22; refine (HREP _).mono ?_; rintro e W4 ⟨rfl, hb4⟩; replace HI := isB_below HI hb4; replace HB := HB.trans (hb4.mono HB.size); clear hb4)
            | (go_at_call 20; refine (sh_Builder_WriteString_k W2.heap.size W2.heap.size _ _ _ HI hwk HB.size).mono ?_; rintro e W5 ⟨rfl, hI1, hb5, ho5⟩; replace HI := isB_app hI1; replace HB := HB.trans hb5; clear hI1 hb5 ho5))
          go_roundw
          case rel =>
            have e : pre ++ ((segL n0 n1 n2 n3 n4).take 5).flatten = (pre ++ ((segL n0 n1 n2 n3 n4).take 4).flatten) ++ Lib.repeatL [71] n4 := by simp [segL]
            exact ⟨5, by omega, (by first | rfl | go_num), (by rw [e]; exact HI), HB⟩
          case measure => simp [intOf]
      · obtain rfl : k = 5 := by omega
        have e5 : ((segL n0 n1 n2 n3 n4).take 5).flatten = (segL n0 n1 n2 n3 n4).flatten := rfl
        rw [e5] at HI
        go_wp2_with (go_at_call 23; refine (sh_Builder_String_any_k W2.heap.size W2.heap.size _ _ HI HB.size).mono ?_; rintro e W6 ⟨rfl, _, hb6, _⟩)
        go_ret2
        have hT : textB n0 n1 n2 n3 n4 n5 = pre ++ (segL n0 n1 n2 n3 n4).flatten := by rw [← HP.out]; unfold textB; rw [if_pos (Or.inl (by omega)), List.nil_append]
        rw [hT]
        exact ⟨rfl, HB1.trans ((HB.trans hb6).mono (Nat.le_of_lt hlt1))⟩
  have z5 : n5 = 0 := by omega
  subst z5
  have htot := totC_good hb
  change totC (costD n0 n1 n2 n3 n4 0) = (n0 : Int) + n1 + n2 + n3 + n4 + 0 at htot
  have HMT := total_w HG3 n0 n1 n2 n3 n4 0 htot
  have hcv0 : costV n0 n1 n2 n3 n4 0 = .agg #[.int .i64 n0, .int .i64 n1, .int .i64 n2, .int .i64 n3, .int .i64 n4, .int .i64 0] := rfl
  rw [hcv0] at HMT
  have HR : Row W3 w.heap.size #[.int .i64 n0, .int .i64 n1, .int .i64 n2, .int .i64 n3, .int .i64 n4, .int .i64 0] 23 := HR
  have hc5 : W3.cell? ⟨w.heap.size, 5, none⟩ = some (.int .i64 0) := hc5
  clear h5 hcv hcv0 hn5
  by_cases hs0 : n0 + n1 + n2 + n3 + n4 = 0
  · rw [show (n0 : Int) + n1 + n2 + n3 + n4 + 0 = 0 by omega] at HMT
    go_upto_region 8 with (first
      | (refine wpList_load_RowW HR rfl _ _ rfl rfl _ Tryd.underlying23 rfl (cost_isz ..) ?_)
      | (go_at_call 15; refine HMT.mono ?_; rintro e W7 ⟨rfl, hb7⟩; replace HI := isB_below HI hb7; replace HR := HR.below hb7; replace HB := HB.trans (hb7.mono HB.size); have hc5 := HR.cell (i := 5) rfl; have HG4 := globs_below HG1 (Nat.le_refl _) HB)
      | (go_at_call 21; refine ((sh_strconv_Itoa 0 (by omega) (by omega) _ (pow_tab HG4)).mono fun e w' ⟨he, k, os, hw⟩ => (⟨he.trans (congrArg (fun l : List UInt8 => Ending.returned (Value.string ⟨l.toArray⟩)) (Lib.itoa_nonneg 0)), by rw [hw]; exact below_grew _ _ _⟩ : e = Ending.returned (.string ⟨(Lib.decDigits 0).toArray⟩) ∧ Below W7.heap.size W7 w')).mono ?_; rintro e W4 ⟨rfl, hb4⟩; replace HI := isB_below HI hb4; replace HB := HB.trans (hb4.mono HB.size); clear hb4)
      | (go_at_call 20; refine (sh_Builder_WriteString_k W2.heap.size W2.heap.size _ _ _ HI hwl HB.size).mono ?_; rintro e W5 ⟨rfl, hI1, hb5, ho5⟩; replace HI := isB_app hI1; replace HB := HB.trans hb5; clear hI1 hb5 ho5))
    generalize hpre : [] ++ Lib.decDigits 0 = pre at HI
    have HP := Lib.hid hpre
    clear hpre
    clear HMT HR hc5 HG3
    have hpl : pre.length ≤ 1001 := by rw [← HP.out]; first | (simp; done) | (rw [List.nil_append]; have := dec_len 0; omega)
    go_wp2
    go_loopw [29] (fun iv wr => ∃ (k : Nat), k ≤ 5 ∧ iv = .int .i64 k ∧ Lib.IsBuilderF 50 5 W2.heap.size W2.heap.size (Lib.byteCells (pre ++ ((segL n0 n1 n2 n3 n4).take k).flatten)) wr ∧ Below W2.heap.size W2 wr) (fun iv _ => 5 - (intOf iv).toNat)
    case atStart => exact ⟨0, by omega, rfl, by rw [List.take_zero, List.flatten_nil, List.append_nil]; exact HI, HB⟩
    case round =>
      clear HI HB
      obtain ⟨k, hk, rfl, HI, HB⟩ := hrel
      have HR : Row wr w.heap.size #[.int .i64 n0, .int .i64 n1, .int .i64 n2, .int .i64 n3, .int .i64 n4, .int .i64 0] 23 := hrow.below HB
      by_cases hk5 : k < 5
      · obtain rfl | rfl | rfl | rfl | rfl : k = 0 ∨ k = 1 ∨ k = 2 ∨ k = 3 ∨ k = 4 := by omega
        · have hck : wr.cell? ⟨w.heap.size, 0, none⟩ = some (.int .i64 n0) := HR.cell rfl
          have HREP := fun W => rep_w (s := (ByteArray.mk #[87, 85, 66, 82, 71]).extract 0 1) (c := 87) rfl n0 c0 W
          have hwk := seg_len c0 c1 c2 c3 c4 hpl (k := 0) (by omega) (c := 87) c0
          go_wp2_with (first
            | (go_at_call 22; refine (HREP _).mono ?_; rintro e W4 ⟨rfl, hb4⟩; replace HI := isB_below HI hb4; replace HB := HB.trans (hb4.mono HB.size); clear hb4)
            | (go_at_call 20; refine (sh_Builder_WriteString_k W2.heap.size W2.heap.size _ _ _ HI hwk HB.size).mono ?_; rintro e W5 ⟨rfl, hI1, hb5, ho5⟩; replace HI := isB_app hI1; replace HB := HB.trans hb5; clear hI1 hb5 ho5))
          go_roundw
          case rel =>
            have e : pre ++ ((segL n0 n1 n2 n3 n4).take 1).flatten = (pre ++ ((segL n0 n1 n2 n3 n4).take 0).flatten) ++ Lib.repeatL [87] n0 := by simp [segL]
            exact ⟨1, by omega, (by first | rfl | go_num), (by rw [e]; exact HI), HB⟩
          case measure => simp [intOf]
        · have hck : wr.cell? ⟨w.heap.size, 1, none⟩ = some (.int .i64 n1) := HR.cell rfl
          have HREP := fun W => rep_w (s := (ByteArray.mk #[87, 85, 66, 82, 71]).extract 1 2) (c := 85) rfl n1 c1 W
          have hwk := seg_len c0 c1 c2 c3 c4 hpl (k := 1) (by omega) (c := 85) c1
          go_wp2_with (first
            | (go_at_call 22; refine (HREP _).mono ?_; rintro e W4 ⟨rfl, hb4⟩; replace HI := isB_below HI hb4; replace HB := HB.trans (hb4.mono HB.size); clear hb4)
            | (go_at_call 20; refine (sh_Builder_WriteString_k W2.heap.size W2.heap.size _ _ _ HI hwk HB.size).mono ?_; rintro e W5 ⟨rfl, hI1, hb5, ho5⟩; replace HI := isB_app hI1; replace HB := HB.trans hb5; clear hI1 hb5 ho5))
          go_roundw
          case rel =>
            have e : pre ++ ((segL n0 n1 n2 n3 n4).take 2).flatten = (pre ++ ((segL n0 n1 n2 n3 n4).take 1).flatten) ++ Lib.repeatL [85] n1 := by simp [segL]
            exact ⟨2, by omega, (by first | rfl | go_num), (by rw [e]; exact HI), HB⟩
          case measure => simp [intOf]
        · have hck : wr.cell? ⟨w.heap.size, 2, none⟩ = some (.int .i64 n2) := HR.cell rfl
          have HREP := fun W => rep_w (s := (ByteArray.mk #[87, 85, 66, 82, 71]).extract 2 3) (c := 66) rfl n2 c2 W
          have hwk := seg_len c0 c1 c2 c3 c4 hpl (k := 2) (by omega) (c := 66) c2
          go_wp2_with (first
            | (go_at_call 22; refine (HREP _).mono ?_; rintro e W4 ⟨rfl, hb4⟩; replace HI := isB_below HI hb4; replace HB := HB.trans (hb4.mono HB.size); clear hb4)
            | (go_at_call 20; refine (sh_Builder_WriteString_k W2.heap.size W2.heap.size _ _ _ HI hwk HB.size).mono ?_; rintro e W5 ⟨rfl, hI1, hb5, ho5⟩; replace HI := isB_app hI1; replace HB := HB.trans hb5; clear hI1 hb5 ho5))
          go_roundw
          case rel =>
            have e : pre ++ ((segL n0 n1 n2 n3 n4).take 3).flatten = (pre ++ ((segL n0 n1 n2 n3 n4).take 2).flatten) ++ Lib.repeatL [66] n2 := by simp [segL]
            exact ⟨3, by omega, (by first | rfl | go_num), (by rw [e]; exact HI), HB⟩
          case measure => simp [intOf]
        · have hck : wr.cell? ⟨w.heap.size, 3, none⟩ = some (.int .i64 n3) := HR.cell rfl
          have HREP := fun W => rep_w (s := (ByteArray.mk #[87, 85, 66, 82, 71]).extract 3 4) (c := 82) rfl n3 c3 W
          have hwk := seg_len c0 c1 c2 c3 c4 hpl (k := 3) (by omega) (c := 82) c3
          go_wp2_with (first
            | (go_at_call 22; refine (HREP _).mono ?_; rintro e W4 ⟨rfl, hb4⟩; replace HI := isB_below HI hb4; replace HB := HB.trans (hb4.mono HB.size); clear hb4)
            | (go_at_call 20; refine (sh_Builder_WriteString_k W2.heap.size W2.heap.size _ _ _ HI hwk HB.size).mono ?_; rintro e W5 ⟨rfl, hI1, hb5, ho5⟩; replace HI := isB_app hI1; replace HB := HB.trans hb5; clear hI1 hb5 ho5))
          go_roundw
          case rel =>
            have e : pre ++ ((segL n0 n1 n2 n3 n4).take 4).flatten = (pre ++ ((segL n0 n1 n2 n3 n4).take 3).flatten) ++ Lib.repeatL [82] n3 := by simp [segL]
            exact ⟨4, by omega, (by first | rfl | go_num), (by rw [e]; exact HI), HB⟩
          case measure => simp [intOf]
        · have hck : wr.cell? ⟨w.heap.size, 4, none⟩ = some (.int .i64 n4) := HR.cell rfl
          have HREP := fun W => rep_w (s := (ByteArray.mk #[87, 85, 66, 82, 71]).extract 4 5) (c := 71) rfl n4 c4 W
          have hwk := seg_len c0 c1 c2 c3 c4 hpl (k := 4) (by omega) (c := 71) c4
          go_wp2_with (first
            | (go_at_call 22; refine (HREP _).mono ?_; rintro e W4 ⟨rfl, hb4⟩; replace HI := isB_below HI hb4; replace HB := HB.trans (hb4.mono HB.size); clear hb4)
            | (go_at_call 20; refine (sh_Builder_WriteString_k W2.heap.size W2.heap.size _ _ _ HI hwk HB.size).mono ?_; rintro e W5 ⟨rfl, hI1, hb5, ho5⟩; replace HI := isB_app hI1; replace HB := HB.trans hb5; clear hI1 hb5 ho5))
          go_roundw
          case rel =>
            have e : pre ++ ((segL n0 n1 n2 n3 n4).take 5).flatten = (pre ++ ((segL n0 n1 n2 n3 n4).take 4).flatten) ++ Lib.repeatL [71] n4 := by simp [segL]
            exact ⟨5, by omega, (by first | rfl | go_num), (by rw [e]; exact HI), HB⟩
          case measure => simp [intOf]
      · obtain rfl : k = 5 := by omega
        have e5 : ((segL n0 n1 n2 n3 n4).take 5).flatten = (segL n0 n1 n2 n3 n4).flatten := rfl
        rw [e5] at HI
        go_wp2_with (go_at_call 23; refine (sh_Builder_String_any_k W2.heap.size W2.heap.size _ _ HI HB.size).mono ?_; rintro e W6 ⟨rfl, _, hb6, _⟩)
        go_ret2
        have hT : textB n0 n1 n2 n3 n4 0 = pre ++ (segL n0 n1 n2 n3 n4).flatten := by rw [← HP.out]; unfold textB; rw [if_pos (Or.inr (by omega)), List.nil_append]
        rw [hT]
        exact ⟨rfl, HB1.trans ((HB.trans hb6).mono (Nat.le_of_lt hlt1))⟩
  · have htz : ((n0 : Int) + n1 + n2 + n3 + n4 + 0 == 0) = false := by rw [beq_eq_false_iff_ne]; omega
    generalize (n0 : Int) + n1 + n2 + n3 + n4 + 0 = tt at HMT htz
    go_upto_region 8 with (first
      | (refine wpList_load_RowW HR rfl _ _ rfl rfl _ Tryd.underlying23 rfl (cost_isz ..) ?_)
      | (go_at_call 15; refine HMT.mono ?_; rintro e W7 ⟨rfl, hb7⟩; replace HI := isB_below HI hb7; replace HR := HR.below hb7; replace HB := HB.trans (hb7.mono HB.size); have hc5 := HR.cell (i := 5) rfl; have HG4 := globs_below HG1 (Nat.le_refl _) HB))
    obtain ⟨pre, hpre⟩ : ∃ pre : List UInt8, [] = pre := ⟨_, rfl⟩
    rw [hpre] at HI
    have HP := Lib.hid hpre
    clear hpre
    clear HMT HR hc5 HG3
    have hpl : pre.length ≤ 1001 := by rw [← HP.out]; first | (simp; done) | (rw [List.nil_append]; have := dec_len 0; omega)
    go_wp2
    go_loopw [29] (fun iv wr => ∃ (k : Nat), k ≤ 5 ∧ iv = .int .i64 k ∧ Lib.IsBuilderF 50 5 W2.heap.size W2.heap.size (Lib.byteCells (pre ++ ((segL n0 n1 n2 n3 n4).take k).flatten)) wr ∧ Below W2.heap.size W2 wr) (fun iv _ => 5 - (intOf iv).toNat)
    case atStart => exact ⟨0, by omega, rfl, by rw [List.take_zero, List.flatten_nil, List.append_nil]; exact HI, HB⟩
    case round =>
      clear HI HB
      obtain ⟨k, hk, rfl, HI, HB⟩ := hrel
      have HR : Row wr w.heap.size #[.int .i64 n0, .int .i64 n1, .int .i64 n2, .int .i64 n3, .int .i64 n4, .int .i64 0] 23 := hrow.below HB
      by_cases hk5 : k < 5
      · obtain rfl | rfl | rfl | rfl | rfl : k = 0 ∨ k = 1 ∨ k = 2 ∨ k = 3 ∨ k = 4 := by omega
        · have hck : wr.cell? ⟨w.heap.size, 0, none⟩ = some (.int .i64 n0) := HR.cell rfl
          have HREP := fun W => rep_w (s := (ByteArray.mk #[87, 85, 66, 82, 71]).extract 0 1) (c := 87) rfl n0 c0 W
          have hwk := seg_len c0 c1 c2 c3 c4 hpl (k := 0) (by omega) (c := 87) c0
          go_wp2_with (first
            | (go_at_call 22; refine (HREP _).mono ?_; rintro e W4 ⟨rfl, hb4⟩; replace HI := isB_below HI hb4; replace HB := HB.trans (hb4.mono HB.size); clear hb4)
            | (go_at_call 20; refine (sh_Builder_WriteString_k W2.heap.size W2.heap.size _ _ _ HI hwk HB.size).mono ?_; rintro e W5 ⟨rfl, hI1, hb5, ho5⟩; replace HI := isB_app hI1; replace HB := HB.trans hb5; clear hI1 hb5 ho5))
          go_roundw
          case rel =>
            have e : pre ++ ((segL n0 n1 n2 n3 n4).take 1).flatten = (pre ++ ((segL n0 n1 n2 n3 n4).take 0).flatten) ++ Lib.repeatL [87] n0 := by simp [segL]
            exact ⟨1, by omega, (by first | rfl | go_num), (by rw [e]; exact HI), HB⟩
          case measure => simp [intOf]
        · have hck : wr.cell? ⟨w.heap.size, 1, none⟩ = some (.int .i64 n1) := HR.cell rfl
          have HREP := fun W => rep_w (s := (ByteArray.mk #[87, 85, 66, 82, 71]).extract 1 2) (c := 85) rfl n1 c1 W
          have hwk := seg_len c0 c1 c2 c3 c4 hpl (k := 1) (by omega) (c := 85) c1
          go_wp2_with (first
            | (go_at_call 22; refine (HREP _).mono ?_; rintro e W4 ⟨rfl, hb4⟩; replace HI := isB_below HI hb4; replace HB := HB.trans (hb4.mono HB.size); clear hb4)
            | (go_at_call 20; refine (sh_Builder_WriteString_k W2.heap.size W2.heap.size _ _ _ HI hwk HB.size).mono ?_; rintro e W5 ⟨rfl, hI1, hb5, ho5⟩; replace HI := isB_app hI1; replace HB := HB.trans hb5; clear hI1 hb5 ho5))
          go_roundw
          case rel =>
            have e : pre ++ ((segL n0 n1 n2 n3 n4).take 2).flatten = (pre ++ ((segL n0 n1 n2 n3 n4).take 1).flatten) ++ Lib.repeatL [85] n1 := by simp [segL]
            exact ⟨2, by omega, (by first | rfl | go_num), (by rw [e]; exact HI), HB⟩
          case measure => simp [intOf]
        · have hck : wr.cell? ⟨w.heap.size, 2, none⟩ = some (.int .i64 n2) := HR.cell rfl
          have HREP := fun W => rep_w (s := (ByteArray.mk #[87, 85, 66, 82, 71]).extract 2 3) (c := 66) rfl n2 c2 W
          have hwk := seg_len c0 c1 c2 c3 c4 hpl (k := 2) (by omega) (c := 66) c2
          go_wp2_with (first
            | (go_at_call 22; refine (HREP _).mono ?_; rintro e W4 ⟨rfl, hb4⟩; replace HI := isB_below HI hb4; replace HB := HB.trans (hb4.mono HB.size); clear hb4)
            | (go_at_call 20; refine (sh_Builder_WriteString_k W2.heap.size W2.heap.size _ _ _ HI hwk HB.size).mono ?_; rintro e W5 ⟨rfl, hI1, hb5, ho5⟩; replace HI := isB_app hI1; replace HB := HB.trans hb5; clear hI1 hb5 ho5))
          go_roundw
          case rel =>
            have e : pre ++ ((segL n0 n1 n2 n3 n4).take 3).flatten = (pre ++ ((segL n0 n1 n2 n3 n4).take 2).flatten) ++ Lib.repeatL [66] n2 := by simp [segL]
            exact ⟨3, by omega, (by first | rfl | go_num), (by rw [e]; exact HI), HB⟩
          case measure => simp [intOf]
        · have hck : wr.cell? ⟨w.heap.size, 3, none⟩ = some (.int .i64 n3) := HR.cell rfl
          have HREP := fun W => rep_w (s := (ByteArray.mk #[87, 85, 66, 82, 71]).extract 3 4) (c := 82) rfl n3 c3 W
          have hwk := seg_len c0 c1 c2 c3 c4 hpl (k := 3) (by omega) (c := 82) c3
          go_wp2_with (first
            | (go_at_call 22; refine (HREP _).mono ?_; rintro e W4 ⟨rfl, hb4⟩; replace HI := isB_below HI hb4; replace HB := HB.trans (hb4.mono HB.size); clear hb4)
            | (go_at_call 20; refine (sh_Builder_WriteString_k W2.heap.size W2.heap.size _ _ _ HI hwk HB.size).mono ?_; rintro e W5 ⟨rfl, hI1, hb5, ho5⟩; replace HI := isB_app hI1; replace HB := HB.trans hb5; clear hI1 hb5 ho5))
          go_roundw
          case rel =>
            have e : pre ++ ((segL n0 n1 n2 n3 n4).take 4).flatten = (pre ++ ((segL n0 n1 n2 n3 n4).take 3).flatten) ++ Lib.repeatL [82] n3 := by simp [segL]
            exact ⟨4, by omega, (by first | rfl | go_num), (by rw [e]; exact HI), HB⟩
          case measure => simp [intOf]
        · have hck : wr.cell? ⟨w.heap.size, 4, none⟩ = some (.int .i64 n4) := HR.cell rfl
          have HREP := fun W => rep_w (s := (ByteArray.mk #[87, 85, 66, 82, 71]).extract 4 5) (c := 71) rfl n4 c4 W
          have hwk := seg_len c0 c1 c2 c3 c4 hpl (k := 4) (by omega) (c := 71) c4
          go_wp2_with (first
            | (go_at_call 22; refine (HREP _).mono ?_; rintro e W4 ⟨rfl, hb4⟩; replace HI := isB_below HI hb4; replace HB := HB.trans (hb4.mono HB.size); clear hb4)
            | (go_at_call 20; refine (sh_Builder_WriteString_k W2.heap.size W2.heap.size _ _ _ HI hwk HB.size).mono ?_; rintro e W5 ⟨rfl, hI1, hb5, ho5⟩; replace HI := isB_app hI1; replace HB := HB.trans hb5; clear hI1 hb5 ho5))
          go_roundw
          case rel =>
            have e : pre ++ ((segL n0 n1 n2 n3 n4).take 5).flatten = (pre ++ ((segL n0 n1 n2 n3 n4).take 4).flatten) ++ Lib.repeatL [71] n4 := by simp [segL]
            exact ⟨5, by omega, (by first | rfl | go_num), (by rw [e]; exact HI), HB⟩
          case measure => simp [intOf]
      · obtain rfl : k = 5 := by omega
        have e5 : ((segL n0 n1 n2 n3 n4).take 5).flatten = (segL n0 n1 n2 n3 n4).flatten := rfl
        rw [e5] at HI
        go_wp2_with (go_at_call 23; refine (sh_Builder_String_any_k W2.heap.size W2.heap.size _ _ HI HB.size).mono ?_; rintro e W6 ⟨rfl, _, hb6, _⟩)
        go_ret2
        have hT : textB n0 n1 n2 n3 n4 0 = pre ++ (segL n0 n1 n2 n3 n4).flatten := by rw [← HP.out]; unfold textB; rw [if_neg (by omega)]
        rw [hT]
        exact ⟨rfl, HB1.trans ((HB.trans hb6).mono (Nat.le_of_lt hlt1))⟩
end Go.Proofs.YtfpgbdefopbfbaaDoor
end

section
namespace Go.Proofs.YtfpgbdefopbfbaaDoor
open Go.RowKit
set_option linter.unusedVariables false
set_option linter.unusedSimpArgs false

def strV (l : List UInt8) : Dat := .val (.string ⟨l.toArray⟩)
def longC (ds : List Dat) : Bool := (List.range 5).any fun i => decide (20 < argI ds i)
def textN (ds : List Dat) : Int := if goodC ds = false then 2 else if longC ds = true then 3 else 0
def textA (ds : List Dat) : List UInt8 := textB (argI ds 0).toNat (argI ds 1).toNat (argI ds 2).toNat (argI ds 3).toNat (argI ds 4).toNat (argI ds 5).toNat
def textL (ds : List Dat) : List UInt8 := if textN ds = 0 then textA ds else []
theorem max_gt (a b c d e : Int) : 20 < Lib.maxOf [a, b, c, d, e] ↔ 20 < a ∨ 20 < b ∨ 20 < c ∨ 20 < d ∨ 20 < e := by
  simp [Lib.maxOf]
  omega
theorem longC_t {ds : List Dat} : longC ds = true ↔ 20 < argI ds 0 ∨ 20 < argI ds 1 ∨ 20 < argI ds 2 ∨ 20 < argI ds 3 ∨ 20 < argI ds 4 := by
  unfold longC
  simp [List.range, List.range.loop]
def k_mText : Nat := 8
def sg_mText : Sig := ⟨[(true, List.replicate 6 (.int .i64))], [(false, [.str]), (false, [.err])], false, false, false, false, false⟩
noncomputable def tr_mText : Tree := walk E0.cx (sgsN []) 0 8 sg_mText
theorem wk_mText : walk E0.cx (sgsN []) 0 8 sg_mText = tr_mText := rfl
theorem bo_mText : ∃ x, bodyOf E0.P 8 = some x := bo_of (by kernel_rfl)
def mText_s : Spec := fun ds Q => Q [strV (textL ds), errV (textN ds)]
theorem errV_has4 (n : Int) : Has E0.Δ .err (errV n) := by
  unfold errV
  split
  · exact .nili
  · exact .ifc n
theorem mText_h : Holds E0 k_mText sg_mText mText_s := fun w ds Q h1 h2 h3 h4 h => by
  have h : Q [strV (textL ds), errV (textN ds)] := h
  have hl : ds.length = 6 := h1.length.symm
  match ds, hl with
  | [d0, d1, d2, d3, d4, d5], _ =>
  have hI : ∀ {i : Nat} {d : Dat}, i < 6 → [d0, d1, d2, d3, d4, d5][i]? = some d → ∃ n : Int, d = .int .i64 n := fun {i d} hi hd => by
    obtain ⟨s, hs, hh⟩ := h1.get2 hd
    have e : s = .int .i64 := by
      match i, hi with
      | 0, _ | 1, _ | 2, _ | 3, _ | 4, _ | 5, _ => exact (Option.some.inj hs).symm
    subst e
    cases hh with
    | int k n => exact ⟨n, rfl⟩
  obtain ⟨a0, rfl⟩ := hI (i := 0) (by omega) rfl
  obtain ⟨a1, rfl⟩ := hI (i := 1) (by omega) rfl
  obtain ⟨a2, rfl⟩ := hI (i := 2) (by omega) rfl
  obtain ⟨a3, rfl⟩ := hI (i := 3) (by omega) rfl
  obtain ⟨a4, rfl⟩ := hI (i := 4) (by omega) rfl
  obtain ⟨a5, rfl⟩ := hI (i := 5) (by omega) rfl
  have fin : ∀ e w', e = Ending.returned (.tuple #[.string ⟨(textL (costD a0 a1 a2 a3 a4 a5)).toArray⟩, (errV (textN (costD a0 a1 a2 a3 a4 a5))).toV]) → Below w.heap.size w w' → Ends E0 sg_mText w w' (fun k => AtL (costD a0 a1 a2 a3 a4 a5) k ∨ AtL E0.γ k) Q e := fun e w' he hb => by
    refine ⟨_, h, .cons (.str _) (.cons (errV_has4 _) .nil), hb, fun d hd => ?_, fun k ⟨d, hd, hk⟩ => ?_, ?_⟩
    · rcases List.mem_cons.1 hd with rfl | hd
      · exact .val _
      · rw [List.mem_singleton.1 hd]; unfold errV; split <;> exact .val _
    · rcases List.mem_cons.1 hd with rfl | hd
      · cases hk
      · rw [List.mem_singleton.1 hd] at hk
        unfold errV at hk
        split at hk <;> cases hk
    · show (if false = true then _ else _)
      rw [if_neg Bool.false_ne_true, he]; rfl
  cases hg : goodC (costD a0 a1 a2 a3 a4 a5) with
  | false =>
    have hn : textN (costD a0 a1 a2 a3 a4 a5) = 2 := by unfold textN; rw [if_pos hg]
    have ht : textL (costD a0 a1 a2 a3 a4 a5) = [] := by unfold textL; rw [hn, if_neg (by decide)]
    refine (mText_bad a0 a1 a2 a3 a4 a5 w h4 hg).mono fun e w' ⟨he, hb⟩ => fin e w' ?_ hb
    rw [he, hn, ht]; rfl
  | true =>
    have gd := goodC_t.1 hg
    obtain ⟨n0, rfl⟩ := Int.eq_ofNat_of_zero_le (show 0 ≤ a0 from (gd 0 (by omega)).1)
    obtain ⟨n1, rfl⟩ := Int.eq_ofNat_of_zero_le (show 0 ≤ a1 from (gd 1 (by omega)).1)
    obtain ⟨n2, rfl⟩ := Int.eq_ofNat_of_zero_le (show 0 ≤ a2 from (gd 2 (by omega)).1)
    obtain ⟨n3, rfl⟩ := Int.eq_ofNat_of_zero_le (show 0 ≤ a3 from (gd 3 (by omega)).1)
    obtain ⟨n4, rfl⟩ := Int.eq_ofNat_of_zero_le (show 0 ≤ a4 from (gd 4 (by omega)).1)
    obtain ⟨n5, rfl⟩ := Int.eq_ofNat_of_zero_le (show 0 ≤ a5 from (gd 5 (by omega)).1)
    have hmx : 20 < maxC n0 n1 n2 n3 n4 ↔ longC (costD n0 n1 n2 n3 n4 n5) = true := (max_gt _ _ _ _ _).trans (longC_t (ds := costD n0 n1 n2 n3 n4 n5)).symm
    by_cases hm : 20 < maxC n0 n1 n2 n3 n4
    · have hn : textN (costD n0 n1 n2 n3 n4 n5) = 3 := by unfold textN; rw [if_neg (by rw [hg]; decide), if_pos (hmx.1 hm)]
      have ht : textL (costD n0 n1 n2 n3 n4 n5) = [] := by unfold textL; rw [hn, if_neg (by decide)]
      refine (mText_long n0 n1 n2 n3 n4 n5 w h4 hg hm).mono fun e w' ⟨he, hb⟩ => fin e w' ?_ hb
      rw [he, hn, ht]; rfl
    · have hn : textN (costD n0 n1 n2 n3 n4 n5) = 0 := by unfold textN; rw [if_neg (by rw [hg]; decide), if_neg (fun hx => hm (hmx.2 hx))]
      have ht : textL (costD n0 n1 n2 n3 n4 n5) = textB n0 n1 n2 n3 n4 n5 := by unfold textL; rw [hn, if_pos rfl]; rfl
      refine (mText_ok n0 n1 n2 n3 n4 n5 w h4 hg (by omega)).mono fun e w' ⟨he, hb⟩ => fin e w' ?_ hb
      rw [he, hn, ht]; rfl
noncomputable def con_mText : Con E0 := ⟨k_mText, sg_mText, mText_s, rfl, bo_mText, mText_h⟩
end Go.Proofs.YtfpgbdefopbfbaaDoor
end

section
namespace Go.Proofs.YtfpgbdefopbfbaaDoor
open Go.RowKit
set_option linter.unusedVariables false
set_option linter.unusedSimpArgs false

theorem strD_V (l : List UInt8) : strD (strV l) = ⟨l.toArray⟩ := rfl
theorem strV_B (l : List Nat) : Dat.val (strB l) = strV (l.map UInt8.ofNat) := rfl
theorem ba_app (a b : List UInt8) : (ByteArray.mk a.toArray ++ ByteArray.mk b.toArray) = ByteArray.mk (a ++ b).toArray := by
  apply ByteArray.ext
  rw [ByteArray.data_append]
  simp
theorem den_sapp (Δ : Tab) (ρ : List Dat) (a b : Tm) : den Δ ρ (.sapp a b) = .val (.string (strD (den Δ ρ a) ++ strD (den Δ ρ b))) := rfl
theorem den_strl (Δ : Tab) (ρ : List Dat) (l : List Nat) : den Δ ρ (.str l) = strV (l.map UInt8.ofNat) := rfl
theorem den_sofV (Δ : Tab) (ρ : List Dat) (a : Tm) : den Δ ρ (.sof a) = strV ((den Δ ρ a).xs.map fun r => UInt8.ofNat (r.headD (.int .u8 0)).toInt.toNat) := rfl
theorem den_slenV (Δ : Tab) (ρ : List Dat) (a : Tm) : den Δ ρ (.slen a) = .int .i64 (strD (den Δ ρ a)).size := rfl
theorem den_seqV (Δ : Tab) (ρ : List Dat) (a b : Tm) : den Δ ρ (.seq a b) = .bool ((strD (den Δ ρ a)).toList == (strD (den Δ ρ b)).toList) := rfl
theorem sapp_V (a b : List UInt8) : Dat.val (.string (strD (strV a) ++ strD (strV b))) = strV (a ++ b) := by
  rw [strD_V, strD_V, ba_app]; rfl
theorem size_V (l : List UInt8) : (strD (strV l)).size = l.length := by
  show l.toArray.size = _
  rw [List.size_toArray]
theorem digitV (d : Nat) (hd : d < 10) : UInt8.ofNat ([Dat.int .u8 (IntKind.u8.wrap (IntKind.i64.wrap (48 + (d : Int))))].headD (Dat.int .u8 0)).toInt.toNat = UInt8.ofNat (48 + d) := by
  have e : IntKind.u8.wrap (IntKind.i64.wrap (48 + (d : Int))) = ((48 + d : Nat) : Int) := by
    rw [wrap64 (by omega) (by omega), IntKind.wrap_u8]; omega
  show UInt8.ofNat (IntKind.u8.wrap (IntKind.i64.wrap (48 + (d : Int)))).toNat = _
  rw [e, Int.toNat_natCast]
theorem quo10 (k : Nat) (h : k ≤ 1000000) : Ar.quo.of .i64 (k : Int) 10 = ((k / 10 : Nat) : Int) := by
  show IntKind.i64.wrap ((k : Int).tdiv 10) = _
  have e : (k : Int).tdiv 10 = ((k / 10 : Nat) : Int) := by
    rw [Int.tdiv_eq_ediv_of_nonneg (by omega)]; omega
  rw [e, wrap64 (by omega) (by omega)]
theorem mod10 (k : Nat) : (k : Int).tmod 10 = ((k % 10 : Nat) : Int) := by
  rw [Int.tmod_eq_emod_of_nonneg (by omega)]; omega
def mF (ds : List Dat) : Nat := (argI ds 0).toNat
def k_figs : Nat := 24
def sg_figs : Sig := ⟨[(false, [.int .i64])], [(false, [.str])], false, false, true, false, false⟩
def tr_figs : Tree := (.ite (.cmp .lt (.var 0) (.int .i64 10))
 (.ret [(.sof (.push .emp (.econs (.conv .u8 (.ar .add .i64 (.int .i64 48) (.var 0))) .enil)))])
 (.both (.call k_figs [(.ar .quo .i64 (.var 0) (.int .i64 10))] [.str]
 (.ob (.cmp .le (.slen (.sapp (.var 1) (.sof (.push .emp (.econs (.conv .u8 (.ar .add .i64 (.int .i64 48) (.ar .rem .i64 (.var 0) (.int .i64 10)))) .enil))))) (.int .i64 9223372036854775807))
 (.ret [(.sapp (.var 1) (.sof (.push .emp (.econs (.conv .u8 (.ar .add .i64 (.int .i64 48) (.ar .rem .i64 (.var 0) (.int .i64 10)))) .enil))))]))) (.both (.call k_figs [(.ar .quo .i64 (.var 0) (.int .i64 10))] [.str]
 (.ob (.cmp .le (.slen (.sapp (.var 1) (.sof (.push .emp (.econs (.conv .u8 (.ar .add .i64 (.int .i64 48) (.ar .rem .i64 (.var 0) (.int .i64 10)))) .enil))))) (.int .i64 9223372036854775807))
 (.ret [(.sapp (.var 1) (.sof (.push .emp (.econs (.conv .u8 (.ar .add .i64 (.int .i64 48) (.ar .rem .i64 (.var 0) (.int .i64 10)))) .enil))))]))) (.call k_figs [(.ar .quo .i64 (.var 0) (.int .i64 10))] [.str]
 (.ob (.cmp .le (.slen (.sapp (.var 1) (.sof (.push .emp (.econs (.conv .u8 (.ar .add .i64 (.int .i64 48) (.ar .rem .i64 (.var 0) (.int .i64 10)))) .enil))))) (.int .i64 9223372036854775807))
 (.ret [(.sapp (.var 1) (.sof (.push .emp (.econs (.conv .u8 (.ar .add .i64 (.int .i64 48) (.ar .rem .i64 (.var 0) (.int .i64 10)))) .enil))))]))))))
theorem wk_figs : walk E0.cx (sgsN [(24, sg_figs)]) 0 24 sg_figs = tr_figs := by kernel_rfl
theorem bo_figs : ∃ x, bodyOf E0.P 24 = some x := bo_of (by kernel_rfl)
def figs_s : Spec := fun ds Q => ∃ n : Nat, argI ds 0 = n ∧ n ≤ 1000000 ∧ Q [strV (Lib.decDigits n)]
theorem figs_h : Holds E0 k_figs sg_figs figs_s := holds_rec mF fun n ih => con_fn wf0 mix0 g0 [⟨_, _, _, rfl, bo_figs, ih⟩] rfl wk_figs rfl (by
  intro Φ hΦ ds Q hs ⟨hm, k, hk, hk6, h⟩
  have hl : ds.length = 1 := hs.length.symm
  have sp : Φ k_figs = (fun ds Q => mF ds < n ∧ figs_s ds Q) := by rw [hΦ]; rfl
  clear hΦ
  simp only [tr_figs, wp, den_int, den_bool, den_nili, den_ar, den_cmp, den_not, den_len, den_elem, den_isnil, den_errI, den_ifc, den_rep, den_push, den_app, den_emp, den_upd, row0_econs, row0_enil, den_and, den_beq, den_nil, toInt_int, toBool_bool, xs_rows, xs_list, dflt_int, dflt_bool, of_eq, of_ne, of_lt, of_le, of_gt, of_ge, of_add, of_sub, of_rem, List.map_cons, List.map_nil, Dat.bool.injEq, decide_eq_true_eq, decide_eq_false_iff_not, Bool.not_eq_true', Bool.not_eq_false', beq_iff_eq, bne_iff_ne, beq_eq_false_iff_ne, bne_eq_false_iff_eq, ne_eq, List.append_assoc, List.cons_append, List.nil_append, allS, sp, figs_s, @den_var0 E0.Δ ds, den_varA, den_varB, hl, Nat.reduceLT, Nat.reduceLeDiff, Nat.reduceSub, List.getD_cons_zero, List.getD_cons_succ, argL_fold ds, argI_fold ds, List.append_assoc, List.cons_append, List.nil_append, toInt_int, toBool_bool, xs_rows, xs_list, Int.toNat_natCast, Dat.bool.injEq, den_or, den_sapp, den_sofV, den_slenV, den_conv, hk, sapp_V, size_V, quo10 k hk6, mod10, digitV (k % 10) (by omega)]
  rw [Lib.decDigits] at h
  have hm : k < n + 1 := by
    have : mF ds = k := by unfold mF; rw [hk, Int.toNat_natCast]
    omega
  refine ⟨fun hlt => ?_, fun hge => ?_⟩
  · rw [dif_pos (by omega)] at h
    rw [digitV k (by omega)]
    exact h
  · rw [dif_neg (by omega)] at h
    have hl2 := dec_len (k / 10)
    have key : mF [Dat.int .i64 ((k / 10 : Nat) : Int)] < n ∧ ∃ n : Nat, argI [Dat.int .i64 ((k / 10 : Nat) : Int)] 0 = n ∧ n ≤ 1000000 ∧ (((Lib.decDigits n ++ [UInt8.ofNat (48 + k % 10)]).length : Nat) : Int) ≤ 9223372036854775807 ∧ Q [strV (Lib.decDigits n ++ [UInt8.ofNat (48 + k % 10)])] := by
      refine ⟨?_, k / 10, rfl, by omega, ?_, h⟩
      · show ((k / 10 : Nat) : Int).toNat < n
        rw [Int.toNat_natCast]; omega
      · rw [List.length_append, List.length_cons, List.length_nil]; omega
    exact ⟨key, key, key⟩)
noncomputable def con_figs : Con E0 := ⟨k_figs, sg_figs, figs_s, rfl, bo_figs, figs_h⟩
end Go.Proofs.YtfpgbdefopbfbaaDoor
end
