/-
  What all chapters' walks share: functions that call themselves, errors' numbers, words for terms.
-/
import Derived.Test.YtonjilfbcofoaaaDoorSymE0
import Derived.Test.YtonjilfbcofoaaaDoorSymP
namespace Go.Proofs.YtonjilfbcofoaaaDoor
open Go.RowKit
set_option linter.unusedVariables false
set_option linter.unusedSimpArgs false

/-- a contract of a function that calls itself: by what gets less -/
theorem holds_rec {E : Env} {f : FuncId} {sg : Sig} {Φ : Spec} (m : List Dat → Nat)
    (step : ∀ n, Holds E f sg (fun ds Q => m ds < n ∧ Φ ds Q) → Holds E f sg (fun ds Q => m ds < n + 1 ∧ Φ ds Q)) : Holds E f sg Φ := by
  have all : ∀ n, Holds E f sg (fun ds Q => m ds < n ∧ Φ ds Q) := by
    intro n
    induction n with
    | zero => intro w ds Q _ _ _ _ h; exact absurd h.1 (Nat.not_lt_zero _)
    | succ n ih => exact step n ih
  intro w ds Q h1 h2 h3 h4 h5
  exact all (m ds + 1) w ds Q h1 h2 h3 h4 ⟨Nat.lt_succ_self _, h5⟩

/-- .. its callees' contracts behind a name -/
theorem con_fn {E : Env} (hW : E.Wf) (hmix : E.P.follows .mixedOrders = true) (hγ : E.γ = []) (T : List (Con E)) {ns : List (Nat × Sig)} (hn : names T = ns) {f : Nat} {sg : Sig} {tr : Tree} (hT : walk E.cx (sgsN ns) 0 f sg = tr) (hsg : sg.ok = true) {Ψ : Spec}
    (h : ∀ Φ : Nat → Spec, Φ = specC T → ∀ ds Q, All2 (Has E.Δ) (Sig.sorts sg.params) ds → Ψ ds Q → wp E.Δ Φ Q tr ds []) : Holds E f sg Ψ :=
  con_by hW hmix hγ T hn hT hsg (h _ rfl)

/-- a slice that is nil has nothing -/
def NilOk (d : Dat) : Prop := isNilI d = true → d.xs = []
theorem nilOk {d : Dat} {w : World} (ho : OkD w d) : NilOk d := fun hn => by
  cases ho with
  | list v sz xs hr _ =>
    obtain ⟨A, c, rfl, hc, hlen, ha⟩ := hr
    cases A with
    | some a => cases hn
    | none =>
      cases xs with
      | nil => rfl
      | cons x xs =>
        obtain ⟨ad, e, _⟩ := ha (by simp)
        cases e
  | rows xs _ => cases hn
  | _ => rfl
theorem con_fnN {E : Env} (hW : E.Wf) (hmix : E.P.follows .mixedOrders = true) (hγ : E.γ = []) (T : List (Con E)) {ns : List (Nat × Sig)} (hn : names T = ns) {f : Nat} {sg : Sig} {tr : Tree} (hT : walk E.cx (sgsN ns) 0 f sg = tr) (hsg : sg.ok = true) {Ψ : Spec}
    (h : ∀ Φ : Nat → Spec, Φ = specC T → ∀ ds Q, All2 (Has E.Δ) (Sig.sorts sg.params) ds → (∀ d ∈ ds, NilOk d) → Ψ ds Q → wp E.Δ Φ Q tr ds []) : Holds E f sg Ψ := fun w ds Q h1 h2 h3 h4 h5 =>
  con_fn hW hmix hγ T hn hT hsg (Ψ := fun ds Q => (∀ d ∈ ds, NilOk d) ∧ Ψ ds Q) (fun Φ hΦ ds Q hs hq => h Φ hΦ ds Q hs hq.1 hq.2) w ds Q h1 h2 h3 h4 ⟨fun d hd => nilOk (h2 d hd), h5⟩
theorem take_succ_getD {α : Type} {l : List α} {i : Nat} {d : α} (h : i < l.length) : l.take (i + 1) = l.take i ++ [l.getD i d] := by
  rw [List.getD_eq_getElem?_getD, List.getElem?_eq_getElem h, List.take_add_one, List.getElem?_eq_getElem h]; rfl
theorem drop_getD {α : Type} {l : List α} {i : Nat} {d : α} (h : i < l.length) : l.drop i = l.getD i d :: l.drop (i + 1) := by
  rw [List.getD_eq_getElem?_getD, List.getElem?_eq_getElem h, List.drop_eq_getElem_cons h]; rfl
theorem getD_memL {α : Type} {l : List α} {i : Nat} {d : α} (h : i < l.length) : l.getD i d ∈ l := by
  rw [List.getD_eq_getElem?_getD, List.getElem?_eq_getElem h]; exact List.getElem_mem h
theorem argV {Δ : Tab} {k : IntKind} {ds : List Dat} {i : Nat} (h : Has Δ (.int k) (ds.getD i (.bool false))) : ds.getD i (.bool false) = .int k (argI ds i) := by
  rw [← argI_fold]; exact has_int h
theorem den_ite (Δ : Tab) (ρ : List Dat) (c a b : Tm) : den Δ ρ (.ite c a b) = if (den Δ ρ c).toBool then den Δ ρ a else den Δ ρ b := rfl
theorem argI_c0 {d : Dat} {l : List Dat} : argI (d :: l) 0 = d.toInt := rfl
theorem argI_c1 {d : Dat} {l : List Dat} {n : Nat} : argI (d :: l) (n + 1) = argI l n := rfl
theorem argL_c0 {d : Dat} {l : List Dat} : argL (d :: l) 0 = d.xs := rfl
theorem argL_c1 {d : Dat} {l : List Dat} {n : Nat} : argL (d :: l) (n + 1) = argL l n := rfl
theorem xs_cutD {Δ : Tab} {r : Nat} {d : Dat} {l h : Nat} (hd : Has Δ (.list r) d) (h1 : l ≤ h) (h2 : h ≤ d.xs.length) : (cutD l h d).xs = (d.xs.take h).drop l := by
  cases hd with
  | list _ A n c xs hl hh =>
    have hall : xs.all (fun r' => r'.length == (Δ.row r).length) = true := List.all_eq_true.2 fun row hr => by simpa using hl row hr
    simp only [cutD]
    rw [if_pos ⟨h1, h2, hall⟩]
    rfl
theorem den_or (Δ : Tab) (ρ : List Dat) (a b : Tm) : den Δ ρ (.or a b) = .bool ((den Δ ρ a).toBool || (den Δ ρ b).toBool) := rfl
theorem den_conv (Δ : Tab) (ρ : List Dat) (k : IntKind) (a : Tm) : den Δ ρ (.conv k a) = .int k (k.wrap (den Δ ρ a).toInt) := rfl
theorem den_cutT (Δ : Tab) (ρ : List Dat) (a l h : Tm) : den Δ ρ (.cut a l h) = cutD (den Δ ρ l).toInt.toNat (den Δ ρ h).toInt.toNat (den Δ ρ a) := rfl
theorem ite_datb (c : Prop) [Decidable c] (a b : Bool) : (if c then Dat.bool a else Dat.bool b) = Dat.bool (if c then a else b) := by split <;> rfl
theorem ite_dati (k : IntKind) (c : Prop) [Decidable c] (a b : Int) : (if c then Dat.int k a else Dat.int k b) = Dat.int k (if c then a else b) := by split <;> rfl
theorem toInt_ite (c : Prop) [Decidable c] (a b : Dat) : (if c then a else b).toInt = if c then a.toInt else b.toInt := by split <;> rfl
theorem toBool_ite (c : Prop) [Decidable c] (a b : Dat) : (if c then a else b).toBool = if c then a.toBool else b.toBool := by split <;> rfl
theorem argI_row {r e : List Dat} {i k : Nat} (h : r.length = k) (hk : k ≤ i) : argI (r ++ e) i = argI e (i - k) := by
  subst h
  simp [argI, List.getD_eq_getElem?_getD, List.getElem?_append_right hk]
theorem argI_0 {d : Dat} {l : List Dat} : argI (d :: l) 0 = d.toInt := rfl
theorem argI_1 {a d : Dat} {l : List Dat} : argI (a :: d :: l) 1 = d.toInt := rfl
def errV (n : Int) : Dat := if n = 0 then .val .nilIface else .val (.iface 53 (.int .i64 n))
theorem errV_nil (n : Int) : isNilI (errV n) = decide (n = 0) := by
  unfold errV
  by_cases h : n = 0
  · rw [if_pos h, decide_eq_true h]; rfl
  · rw [if_neg h, decide_eq_false h]; rfl
theorem errV_0 : errV 0 = .val .nilIface := rfl
theorem errV_n {n : Int} (h : n ≠ 0) : errV n = .val (.iface 53 (.int .i64 n)) := if_neg h
def k_Num : Nat := 14
def sg_Num : Sig := ⟨[(false, [.err])], [(false, [.int .i64])], false, false, false⟩
def tr_Num : Tree := (.ite (.isnil (.var 0))
 (.ret [(.int .i64 0)])
 (.ite (.cmp .ne (.errI (.var 0)) (.int .i64 0))
  (.ret [(.errI (.var 0))])
  (.ret [(.int .i64 (-1))])))
theorem wk_Num : walk E0.cx (sgsN []) 0 14 sg_Num = tr_Num := by kernel_rfl
theorem bo_Num : ∃ x, bodyOf E0.P 14 = some x := bo_of (by kernel_rfl)
def Num_s : Spec := fun ds Q => ∃ n : Int, ds = [errV n] ∧ Q [.int .i64 n]
theorem Num_h : Holds E0 k_Num sg_Num Num_s := con_by wf0 mix0 g0 [] rfl wk_Num rfl (by
  intro ds Q hs ⟨n, e, h⟩
  subst e
  simp only [tr_Num, wp, den_int, den_bool, den_nili, den_ar, den_cmp, den_not, den_len, den_elem, den_isnil, den_errI, den_ifc, den_rep, den_push, den_app, den_emp, den_upd, row0_econs, row0_enil, den_and, den_beq, den_nil, toInt_int, toBool_bool, xs_rows, xs_list, dflt_int, dflt_bool, of_eq, of_ne, of_lt, of_le, of_gt, of_ge, of_add, of_sub, of_rem, List.map_cons, List.map_nil, Dat.bool.injEq, decide_eq_true_eq, decide_eq_false_iff_not, Bool.not_eq_true', Bool.not_eq_false', beq_iff_eq, bne_iff_ne, beq_eq_false_iff_ne, bne_eq_false_iff_eq, ne_eq, List.append_assoc, List.cons_append, List.nil_append, den_var0, List.getD_cons_zero]
  by_cases hn : n = 0
  · subst hn
    exact ⟨fun _ => h, fun hx => Bool.noConfusion hx⟩
  · simp only [errV, if_neg hn, errN]
    exact ⟨fun hx => Bool.noConfusion hx, fun _ => ⟨fun _ => h, fun hx => absurd hx hn⟩⟩)
noncomputable def con_Num : Con E0 := ⟨k_Num, sg_Num, Num_s, rfl, bo_Num, Num_h⟩
def true_s : Spec := fun ds Q => Q [.bool true]
end Go.Proofs.YtonjilfbcofoaaaDoor
