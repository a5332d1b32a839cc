/-
  Words for reading trees: variables behind a list of arguments, rows, lists of rows.
-/
import Derived.Test.YtonjilfbcofoaaaDoorSymN
namespace Go.Proofs.YtonjilfbcofoaaaDoor
open Go.RowKit
set_option linter.unusedVariables false

theorem den_varA {Δ : Tab} {ds e : List Dat} {i : Nat} (h : i < ds.length) : den Δ (ds ++ e) (.var i) = ds.getD i (.bool false) := by
  simp [den, List.getD_eq_getElem?_getD, List.getElem?_append_left h]
theorem den_varB {Δ : Tab} {ds e : List Dat} {i : Nat} (h : ds.length ≤ i) : den Δ (ds ++ e) (.var i) = e.getD (i - ds.length) (.bool false) := by
  simp [den, List.getD_eq_getElem?_getD, List.getElem?_append_right h]
theorem den_var0 {Δ : Tab} {ds : List Dat} {i : Nat} : den Δ ds (.var i) = ds.getD i (.bool false) := rfl
/-- the rows of an argument -/
def argL (ds : List Dat) (i : Nat) : List (List Dat) := (ds.getD i (.bool false)).xs
theorem has_int {Δ : Tab} {k : IntKind} {d : Dat} (h : Has Δ (.int k) d) : d = .int k d.toInt := by cases h; rfl
theorem has_bool {Δ : Tab} {d : Dat} (h : Has Δ .bool d) : d = .bool d.toBool := by cases h; rfl
theorem wrap64 {x : Int} (h1 : -9223372036854775808 ≤ x) (h2 : x ≤ 9223372036854775807) : IntKind.i64.wrap x = x := IntWalk.i64_in _ (by omega)
/-- arguments by their places -/
theorem all2_get {Δ : Tab} {ss : List Srt} {ds : List Dat} (h : All2 (Has Δ) ss ds) {i : Nat} {s : Srt} (hs : ss[i]? = some s) : Has Δ s (ds.getD i (.bool false)) := by
  obtain ⟨d, h1, h2⟩ := h.get hs
  simpa [List.getD_eq_getElem?_getD, h1] using h2
/-- a tree's demands, for all arguments of the sorts, which stay in one list -/
theorem con_by {E : Env} (hW : E.Wf) (hmix : E.P.follows .mixedOrders = true) (hγ : E.γ = []) (T : List (Con E)) {ns : List (Nat × Sig)} (hn : names T = ns) {f : Nat} {sg : Sig} {tr : Tree} (hT : walk E.cx (sgsN ns) 0 f sg = tr) (hsg : sg.ok = true) {Ψ : Spec}
    (h : ∀ ds Q, All2 (Has E.Δ) (Sig.sorts sg.params) ds → Ψ ds Q → wp E.Δ (specC T) Q tr ds []) : Holds E f sg Ψ := by
  subst hn
  have hT' : walk E.cx (sgsN (names T)) E.γ.length f sg = tr := by rw [hγ]; exact hT
  refine walk_ok hW hmix (sgsN_con T) hT' hsg fun ds Q hs hΨ => ?_
  rw [hγ]; exact h ds Q hs hΨ
/-- .. each of its own -/
theorem con_each {E : Env} (hW : E.Wf) (hmix : E.P.follows .mixedOrders = true) (hγ : E.γ = []) (T : List (Con E)) {ns : List (Nat × Sig)} (hn : names T = ns) {f : Nat} {sg : Sig} {tr : Tree} (hT : walk E.cx (sgsN ns) 0 f sg = tr) (hsg : sg.ok = true) {Ψ : Spec}
    (h : allS E.Δ (Sig.sorts sg.params) fun ds => ∀ Q, Ψ ds Q → wp E.Δ (specC T) Q tr ds []) : Holds E f sg Ψ :=
  con_by hW hmix hγ T hn hT hsg fun ds Q hs hΨ => allS_use h hs Q hΨ

section
variable {Δ : Tab} {ρ : List Dat}
theorem den_int (k : IntKind) (n : Int) : den Δ ρ (.int k n) = .int k n := rfl
theorem den_bool (b : Bool) : den Δ ρ (.bool b) = .bool b := rfl
theorem den_nili : den Δ ρ .nili = .val .nilIface := rfl
theorem den_ar (o : Ar) (k : IntKind) (a b : Tm) : den Δ ρ (.ar o k a b) = .int k (o.of k (den Δ ρ a).toInt (den Δ ρ b).toInt) := rfl
theorem den_cmp (c : Cmp) (a b : Tm) : den Δ ρ (.cmp c a b) = .bool (c.of (den Δ ρ a).toInt (den Δ ρ b).toInt) := rfl
theorem den_not (a : Tm) : den Δ ρ (.not a) = .bool (!(den Δ ρ a).toBool) := rfl
theorem den_len (a : Tm) : den Δ ρ (.len a) = .int .i64 (den Δ ρ a).xs.length := rfl
theorem den_elem (s i : Tm) (c : Nat) (t : Srt) : den Δ ρ (.elem s i c t) = ((den Δ ρ s).xs.getD (den Δ ρ i).toInt.toNat []).getD c (dflt Δ t) := rfl
theorem den_isnil (a : Tm) : den Δ ρ (.isnil a) = .bool (isNilI (den Δ ρ a)) := rfl
theorem den_errI (a : Tm) : den Δ ρ (.errI a) = .int .i64 (errN (den Δ ρ a)) := rfl
theorem den_ifc (a : Tm) : den Δ ρ (.ifc a) = .val (.iface 53 (.int .i64 (den Δ ρ a).toInt)) := rfl
theorem den_rep (n row : Tm) : den Δ ρ (.rep n row) = .rows (List.replicate (den Δ ρ n).toInt.toNat (den Δ ρ row).row0) := rfl
theorem den_push (a row : Tm) : den Δ ρ (.push a row) = .rows ((den Δ ρ a).xs ++ [(den Δ ρ row).row0]) := rfl
theorem den_app (a b : Tm) : den Δ ρ (.app a b) = .rows ((den Δ ρ a).xs ++ (den Δ ρ b).xs) := rfl
theorem den_emp : den Δ ρ .emp = .rows [] := rfl
theorem den_upd (a i : Tm) (c : Nat) (v : Tm) : den Δ ρ (.upd a i c v) = .rows ((den Δ ρ a).xs.set (den Δ ρ i).toInt.toNat (((den Δ ρ a).xs.getD (den Δ ρ i).toInt.toNat []).set c (den Δ ρ v))) := rfl
theorem den_enil : den Δ ρ .enil = .rows [[]] := rfl
theorem row0_econs (a b : Tm) : (den Δ ρ (.econs a b)).row0 = den Δ ρ a :: (den Δ ρ b).row0 := rfl
theorem row0_enil : (den Δ ρ .enil).row0 = [] := rfl
theorem den_sel (cs i : Tm) (t : Srt) : den Δ ρ (.sel cs i t) = (den Δ ρ cs).row0.getD (den Δ ρ i).toInt.toNat (dflt Δ t) := rfl
theorem den_and (a b : Tm) : den Δ ρ (.and a b) = .bool ((den Δ ρ a).toBool && (den Δ ρ b).toBool) := rfl
theorem den_beq (a b : Tm) : den Δ ρ (.beq a b) = .bool ((den Δ ρ a).toBool == (den Δ ρ b).toBool) := rfl
theorem den_nil (r : Nat) : den Δ ρ (.nil r) = .list (.slice none 0 0) (Δ.row r).length [] := rfl
theorem toInt_int (k : IntKind) (n : Int) : (Dat.int k n).toInt = n := rfl
theorem toBool_bool (b : Bool) : (Dat.bool b).toBool = b := rfl
theorem xs_rows (l : List (List Dat)) : (Dat.rows l).xs = l := rfl
theorem xs_list (v : Value) (n : Nat) (l : List (List Dat)) : (Dat.list v n l).xs = l := rfl
theorem dflt_int (k : IntKind) : dflt Δ (.int k) = .int k 0 := rfl
theorem dflt_bool : dflt Δ .bool = .bool false := rfl
theorem of_eq (a b : Int) : Cmp.eq.of a b = (a == b) := rfl
theorem of_ne (a b : Int) : Cmp.ne.of a b = (a != b) := rfl
theorem of_lt (a b : Int) : Cmp.lt.of a b = decide (a < b) := rfl
theorem of_le (a b : Int) : Cmp.le.of a b = decide (a ≤ b) := rfl
theorem of_gt (a b : Int) : Cmp.gt.of a b = decide (b < a) := rfl
theorem of_ge (a b : Int) : Cmp.ge.of a b = decide (b ≤ a) := rfl
theorem of_add (k : IntKind) (a b : Int) : Ar.add.of k a b = k.wrap (a + b) := rfl
theorem of_sub (k : IntKind) (a b : Int) : Ar.sub.of k a b = k.wrap (a - b) := rfl
theorem of_rem (k : IntKind) (a b : Int) : Ar.rem.of k a b = a.tmod b := rfl
theorem argI_fold (ds : List Dat) (i : Nat) : (ds.getD i (.bool false)).toInt = argI ds i := by
  unfold argI
  rw [List.getD_eq_getElem?_getD, List.getD_eq_getElem?_getD]
  cases ds[i]? <;> rfl
theorem argL_fold (ds : List Dat) (i : Nat) : (ds.getD i (.bool false)).xs = argL ds i := rfl
end
/-- a list's rows below an index given as a number -/
theorem getD_nat {α : Type} (l : List α) (k : Nat) (d : α) (h : k < l.length) : l.getD ((k : Int)).toNat d = l[k] := by simp [List.getD_eq_getElem?_getD, h]
end Go.Proofs.YtonjilfbcofoaaaDoor
