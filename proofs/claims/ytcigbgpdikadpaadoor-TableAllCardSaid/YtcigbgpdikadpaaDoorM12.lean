import Derived.Test.YtcigbgpdikadpaaDoorM11

set_option linter.unusedVariables false
set_option linter.unusedSimpArgs false

section
namespace Go.Proofs.YtcigbgpdikadpaaDoor
open Go.RowKit
set_option linter.unusedVariables false

theorem den_varA {Δ : Tab} {ds e : List Dat} {i : Nat} (h : i < ds.length) : den Δ (ds ++ e) (.var i) = ds.getD i (.bool false) := by
  simp [den, List.getD_eq_getElem?_getD, List.getElem?_append_left h]
theorem den_varB {Δ : Tab} {ds e : List Dat} {i : Nat} (h : ds.length ≤ i) : den Δ (ds ++ e) (.var i) = e.getD (i - ds.length) (.bool false) := by
  simp [den, List.getD_eq_getElem?_getD, List.getElem?_append_right h]
theorem den_var0 {Δ : Tab} {ds : List Dat} {i : Nat} : den Δ ds (.var i) = ds.getD i (.bool false) := rfl
/-- the rows of an argument -/
def argL (ds : List Dat) (i : Nat) : List (List Dat) := (ds.getD i (.bool false)).xs
theorem has_int {Δ : Tab} {k : IntKind} {d : Dat} (h : Has Δ (.int k) d) : d = .int k d.toInt := by cases h; rfl
theorem has_bool {Δ : Tab} {d : Dat} (h : Has Δ .bool d) : d = .bool d.toBool := by cases h; rfl
theorem wrap64 {x : Int} (h1 : -9223372036854775808 ≤ x) (h2 : x ≤ 9223372036854775807) : IntKind.i64.wrap x = x := IntWalk.i64_in _ (by omega)
/-- arguments by their places -/
theorem all2_get {Δ : Tab} {ss : List Srt} {ds : List Dat} (h : All2 (Has Δ) ss ds) {i : Nat} {s : Srt} (hs : ss[i]? = some s) : Has Δ s (ds.getD i (.bool false)) := by
  obtain ⟨d, h1, h2⟩ := h.get hs
  simpa [List.getD_eq_getElem?_getD, h1] using h2
/-- a tree's demands, for all arguments of the sorts, which stay in one list -/
theorem con_by {E : Env} (hW : E.Wf) (hmix : E.P.follows .mixedOrders = true) (hγ : E.γ = []) (T : List (Con E)) {ns : List (Nat × Sig)} (hn : names T = ns) {f : Nat} {sg : Sig} {tr : Tree} (hT : walk E.cx (sgsN ns) 0 f sg = tr) (hsg : sg.ok = true) {Ψ : Spec}
    (h : ∀ ds Q, All2 (Has E.Δ) (Sig.sorts sg.params) ds → Ψ ds Q → wp E.Δ (specC T) Q tr ds []) : Holds E f sg Ψ := by
  subst hn
  have hT' : walk E.cx (sgsN (names T)) E.γ.length f sg = tr := by rw [hγ]; exact hT
  refine walk_ok hW hmix (sgsN_con T) hT' hsg fun ds Q hs hΨ => ?_
  rw [hγ]; exact h ds Q hs hΨ
/-- .. each of its own -/
theorem con_each {E : Env} (hW : E.Wf) (hmix : E.P.follows .mixedOrders = true) (hγ : E.γ = []) (T : List (Con E)) {ns : List (Nat × Sig)} (hn : names T = ns) {f : Nat} {sg : Sig} {tr : Tree} (hT : walk E.cx (sgsN ns) 0 f sg = tr) (hsg : sg.ok = true) {Ψ : Spec}
    (h : allS E.Δ (Sig.sorts sg.params) fun ds => ∀ Q, Ψ ds Q → wp E.Δ (specC T) Q tr ds []) : Holds E f sg Ψ :=
  con_by hW hmix hγ T hn hT hsg fun ds Q hs hΨ => allS_use h hs Q hΨ

section
variable {Δ : Tab} {ρ : List Dat}
theorem den_int (k : IntKind) (n : Int) : den Δ ρ (.int k n) = .int k n := rfl
theorem den_bool (b : Bool) : den Δ ρ (.bool b) = .bool b := rfl
theorem den_nili : den Δ ρ .nili = .val .nilIface := rfl
theorem den_ar (o : Ar) (k : IntKind) (a b : Tm) : den Δ ρ (.ar o k a b) = .int k (o.of k (den Δ ρ a).toInt (den Δ ρ b).toInt) := rfl
theorem den_cmp (c : Cmp) (a b : Tm) : den Δ ρ (.cmp c a b) = .bool (c.of (den Δ ρ a).toInt (den Δ ρ b).toInt) := rfl
theorem den_not (a : Tm) : den Δ ρ (.not a) = .bool (!(den Δ ρ a).toBool) := rfl
theorem den_len (a : Tm) : den Δ ρ (.len a) = .int .i64 (den Δ ρ a).xs.length := rfl
theorem den_elem (s i : Tm) (c : Nat) (t : Srt) : den Δ ρ (.elem s i c t) = ((den Δ ρ s).xs.getD (den Δ ρ i).toInt.toNat []).getD c (dflt Δ t) := rfl
theorem den_isnil (a : Tm) : den Δ ρ (.isnil a) = .bool (isNilI (den Δ ρ a)) := rfl
theorem den_errI (a : Tm) : den Δ ρ (.errI a) = .int .i64 (errN (den Δ ρ a)) := rfl
theorem den_ifc (a : Tm) : den Δ ρ (.ifc a) = .val (.iface 54 (.int .i64 (den Δ ρ a).toInt)) := rfl
theorem den_rep (n row : Tm) : den Δ ρ (.rep n row) = .rows (List.replicate (den Δ ρ n).toInt.toNat (den Δ ρ row).row0) := rfl
theorem den_push (a row : Tm) : den Δ ρ (.push a row) = .rows ((den Δ ρ a).xs ++ [(den Δ ρ row).row0]) := rfl
theorem den_app (a b : Tm) : den Δ ρ (.app a b) = .rows ((den Δ ρ a).xs ++ (den Δ ρ b).xs) := rfl
theorem den_emp : den Δ ρ .emp = .rows [] := rfl
theorem den_upd (a i : Tm) (c : Nat) (v : Tm) : den Δ ρ (.upd a i c v) = .rows ((den Δ ρ a).xs.set (den Δ ρ i).toInt.toNat (((den Δ ρ a).xs.getD (den Δ ρ i).toInt.toNat []).set c (den Δ ρ v))) := rfl
theorem den_enil : den Δ ρ .enil = .rows [[]] := rfl
theorem row0_econs (a b : Tm) : (den Δ ρ (.econs a b)).row0 = den Δ ρ a :: (den Δ ρ b).row0 := rfl
theorem row0_enil : (den Δ ρ .enil).row0 = [] := rfl
theorem den_sel (cs i : Tm) (t : Srt) : den Δ ρ (.sel cs i t) = (den Δ ρ cs).row0.getD (den Δ ρ i).toInt.toNat (dflt Δ t) := rfl
theorem den_and (a b : Tm) : den Δ ρ (.and a b) = .bool ((den Δ ρ a).toBool && (den Δ ρ b).toBool) := rfl
theorem den_beq (a b : Tm) : den Δ ρ (.beq a b) = .bool ((den Δ ρ a).toBool == (den Δ ρ b).toBool) := rfl
theorem den_nil (r : Nat) : den Δ ρ (.nil r) = .list (.slice none 0 0) (Δ.row r).length [] := rfl
theorem toInt_int (k : IntKind) (n : Int) : (Dat.int k n).toInt = n := rfl
theorem toBool_bool (b : Bool) : (Dat.bool b).toBool = b := rfl
theorem xs_rows (l : List (List Dat)) : (Dat.rows l).xs = l := rfl
theorem xs_list (v : Value) (n : Nat) (l : List (List Dat)) : (Dat.list v n l).xs = l := rfl
theorem dflt_int (k : IntKind) : dflt Δ (.int k) = .int k 0 := rfl
theorem dflt_bool : dflt Δ .bool = .bool false := rfl
theorem of_eq (a b : Int) : Cmp.eq.of a b = (a == b) := rfl
theorem of_ne (a b : Int) : Cmp.ne.of a b = (a != b) := rfl
theorem of_lt (a b : Int) : Cmp.lt.of a b = decide (a < b) := rfl
theorem of_le (a b : Int) : Cmp.le.of a b = decide (a ≤ b) := rfl
theorem of_gt (a b : Int) : Cmp.gt.of a b = decide (b < a) := rfl
theorem of_ge (a b : Int) : Cmp.ge.of a b = decide (b ≤ a) := rfl
theorem of_add (k : IntKind) (a b : Int) : Ar.add.of k a b = k.wrap (a + b) := rfl
theorem of_sub (k : IntKind) (a b : Int) : Ar.sub.of k a b = k.wrap (a - b) := rfl
theorem of_rem (k : IntKind) (a b : Int) : Ar.rem.of k a b = a.tmod b := rfl
theorem argI_fold (ds : List Dat) (i : Nat) : (ds.getD i (.bool false)).toInt = argI ds i := by
  unfold argI
  rw [List.getD_eq_getElem?_getD, List.getD_eq_getElem?_getD]
  cases ds[i]? <;> rfl
theorem argL_fold (ds : List Dat) (i : Nat) : (ds.getD i (.bool false)).xs = argL ds i := rfl
end
/-- a list's rows below an index given as a number -/
theorem getD_nat {α : Type} (l : List α) (k : Nat) (d : α) (h : k < l.length) : l.getD ((k : Int)).toNat d = l[k] := by simp [List.getD_eq_getElem?_getD, h]
end Go.Proofs.YtcigbgpdikadpaaDoor
end

section
namespace Go.Proofs.YtcigbgpdikadpaaDoor
open Go.RowKit
set_option linter.unusedVariables false
set_option linter.unusedSimpArgs false

/-- a contract of a function that calls itself: by what gets less -/
theorem holds_rec {E : Env} {f : FuncId} {sg : Sig} {Φ : Spec} (m : List Dat → Nat)
    (step : ∀ n, Holds E f sg (fun ds Q => m ds < n ∧ Φ ds Q) → Holds E f sg (fun ds Q => m ds < n + 1 ∧ Φ ds Q)) : Holds E f sg Φ := by
  have all : ∀ n, Holds E f sg (fun ds Q => m ds < n ∧ Φ ds Q) := by
    intro n
    induction n with
    | zero => intro w ds Q _ _ _ _ h; exact absurd h.1 (Nat.not_lt_zero _)
    | succ n ih => exact step n ih
  intro w ds Q h1 h2 h3 h4 h5
  exact all (m ds + 1) w ds Q h1 h2 h3 h4 ⟨Nat.lt_succ_self _, h5⟩

/-- .. its callees' contracts behind a name -/
theorem con_fn {E : Env} (hW : E.Wf) (hmix : E.P.follows .mixedOrders = true) (hγ : E.γ = []) (T : List (Con E)) {ns : List (Nat × Sig)} (hn : names T = ns) {f : Nat} {sg : Sig} {tr : Tree} (hT : walk E.cx (sgsN ns) 0 f sg = tr) (hsg : sg.ok = true) {Ψ : Spec}
    (h : ∀ Φ : Nat → Spec, Φ = specC T → ∀ ds Q, All2 (Has E.Δ) (Sig.sorts sg.params) ds → Ψ ds Q → wp E.Δ Φ Q tr ds []) : Holds E f sg Ψ :=
  con_by hW hmix hγ T hn hT hsg (h _ rfl)

/-- a slice that is nil has nothing -/
def NilOk (d : Dat) : Prop := isNilI d = true → d.xs = []
theorem nilOk {d : Dat} {w : World} (ho : OkD w d) : NilOk d := fun hn => by
  cases ho with
  | list v sz xs hr _ =>
    obtain ⟨A, c, rfl, hc, hlen, ha⟩ := hr
    cases A with
    | some a => cases hn
    | none =>
      cases xs with
      | nil => rfl
      | cons x xs =>
        obtain ⟨ad, e, _⟩ := ha (by simp)
        cases e
  | rows xs _ => cases hn
  | _ => rfl
theorem con_fnN {E : Env} (hW : E.Wf) (hmix : E.P.follows .mixedOrders = true) (hγ : E.γ = []) (T : List (Con E)) {ns : List (Nat × Sig)} (hn : names T = ns) {f : Nat} {sg : Sig} {tr : Tree} (hT : walk E.cx (sgsN ns) 0 f sg = tr) (hsg : sg.ok = true) {Ψ : Spec}
    (h : ∀ Φ : Nat → Spec, Φ = specC T → ∀ ds Q, All2 (Has E.Δ) (Sig.sorts sg.params) ds → (∀ d ∈ ds, NilOk d) → Ψ ds Q → wp E.Δ Φ Q tr ds []) : Holds E f sg Ψ := fun w ds Q h1 h2 h3 h4 h5 =>
  con_fn hW hmix hγ T hn hT hsg (Ψ := fun ds Q => (∀ d ∈ ds, NilOk d) ∧ Ψ ds Q) (fun Φ hΦ ds Q hs hq => h Φ hΦ ds Q hs hq.1 hq.2) w ds Q h1 h2 h3 h4 ⟨fun d hd => nilOk (h2 d hd), h5⟩
theorem take_succ_getD {α : Type} {l : List α} {i : Nat} {d : α} (h : i < l.length) : l.take (i + 1) = l.take i ++ [l.getD i d] := by
  rw [List.getD_eq_getElem?_getD, List.getElem?_eq_getElem h, List.take_add_one, List.getElem?_eq_getElem h]; rfl
theorem drop_getD {α : Type} {l : List α} {i : Nat} {d : α} (h : i < l.length) : l.drop i = l.getD i d :: l.drop (i + 1) := by
  rw [List.getD_eq_getElem?_getD, List.getElem?_eq_getElem h, List.drop_eq_getElem_cons h]; rfl
theorem getD_memL {α : Type} {l : List α} {i : Nat} {d : α} (h : i < l.length) : l.getD i d ∈ l := by
  rw [List.getD_eq_getElem?_getD, List.getElem?_eq_getElem h]; exact List.getElem_mem h
theorem argV {Δ : Tab} {k : IntKind} {ds : List Dat} {i : Nat} (h : Has Δ (.int k) (ds.getD i (.bool false))) : ds.getD i (.bool false) = .int k (argI ds i) := by
  rw [← argI_fold]; exact has_int h
theorem den_ite (Δ : Tab) (ρ : List Dat) (c a b : Tm) : den Δ ρ (.ite c a b) = if (den Δ ρ c).toBool then den Δ ρ a else den Δ ρ b := rfl
theorem argI_c0 {d : Dat} {l : List Dat} : argI (d :: l) 0 = d.toInt := rfl
theorem argI_c1 {d : Dat} {l : List Dat} {n : Nat} : argI (d :: l) (n + 1) = argI l n := rfl
theorem argL_c0 {d : Dat} {l : List Dat} : argL (d :: l) 0 = d.xs := rfl
theorem argL_c1 {d : Dat} {l : List Dat} {n : Nat} : argL (d :: l) (n + 1) = argL l n := rfl
theorem xs_cutD {Δ : Tab} {r : Nat} {d : Dat} {l h : Nat} (hd : Has Δ (.list r) d) (h1 : l ≤ h) (h2 : h ≤ d.xs.length) : (cutD l h d).xs = (d.xs.take h).drop l := by
  cases hd with
  | list _ A n c xs hl hh =>
    have hall : xs.all (fun r' => r'.length == (Δ.row r).length) = true := List.all_eq_true.2 fun row hr => by simpa using hl row hr
    simp only [cutD]
    rw [if_pos ⟨h1, h2, hall⟩]
    rfl
theorem den_or (Δ : Tab) (ρ : List Dat) (a b : Tm) : den Δ ρ (.or a b) = .bool ((den Δ ρ a).toBool || (den Δ ρ b).toBool) := rfl
theorem den_conv (Δ : Tab) (ρ : List Dat) (k : IntKind) (a : Tm) : den Δ ρ (.conv k a) = .int k (k.wrap (den Δ ρ a).toInt) := rfl
theorem den_cutT (Δ : Tab) (ρ : List Dat) (a l h : Tm) : den Δ ρ (.cut a l h) = cutD (den Δ ρ l).toInt.toNat (den Δ ρ h).toInt.toNat (den Δ ρ a) := rfl
theorem ite_datb (c : Prop) [Decidable c] (a b : Bool) : (if c then Dat.bool a else Dat.bool b) = Dat.bool (if c then a else b) := by split <;> rfl
theorem ite_dati (k : IntKind) (c : Prop) [Decidable c] (a b : Int) : (if c then Dat.int k a else Dat.int k b) = Dat.int k (if c then a else b) := by split <;> rfl
theorem toInt_ite (c : Prop) [Decidable c] (a b : Dat) : (if c then a else b).toInt = if c then a.toInt else b.toInt := by split <;> rfl
theorem toBool_ite (c : Prop) [Decidable c] (a b : Dat) : (if c then a else b).toBool = if c then a.toBool else b.toBool := by split <;> rfl
theorem argI_row {r e : List Dat} {i k : Nat} (h : r.length = k) (hk : k ≤ i) : argI (r ++ e) i = argI e (i - k) := by
  subst h
  simp [argI, List.getD_eq_getElem?_getD, List.getElem?_append_right hk]
theorem argI_0 {d : Dat} {l : List Dat} : argI (d :: l) 0 = d.toInt := rfl
theorem argI_1 {a d : Dat} {l : List Dat} : argI (a :: d :: l) 1 = d.toInt := rfl
def errV (n : Int) : Dat := if n = 0 then .val .nilIface else .val (.iface 54 (.int .i64 n))
theorem errV_nil (n : Int) : isNilI (errV n) = decide (n = 0) := by
  unfold errV
  by_cases h : n = 0
  · rw [if_pos h, decide_eq_true h]; rfl
  · rw [if_neg h, decide_eq_false h]; rfl
theorem errV_0 : errV 0 = .val .nilIface := rfl
theorem errV_n {n : Int} (h : n ≠ 0) : errV n = .val (.iface 54 (.int .i64 n)) := if_neg h
-- lacks mulligan/mulligannum.Num : Num
def Num_s : Spec := fun ds Q => ∃ n : Int, ds = [errV n] ∧ Q [.int .i64 n]
def true_s : Spec := fun ds Q => Q [.bool true]
end Go.Proofs.YtcigbgpdikadpaaDoor
end

section
namespace Go.Proofs.YtcigbgpdikadpaaDoor
open Go.RowKit
set_option linter.unusedVariables false

/-- data without the places where they stand -/
inductive PD where
  | int (n : Int)
  | bool (b : Bool)
  | nil
  | err (n : Int)
  | str (l : List Nat)
  | list (sz : Nat) (xs : List (List PD))
  | rows (xs : List (List PD))
  | odd
mutual
def PD.same : PD → PD → Bool
  | .int a, .int b => decide (a = b)
  | .bool a, .bool b => decide (a = b)
  | .nil, .nil => true
  | .err a, .err b => decide (a = b)
  | .str a, .str b => decide (a = b)
  | .list s a, .list t b => decide (s = t) && sameRs a b
  | .rows a, .rows b => sameRs a b
  | .odd, .odd => true
  | _, _ => false
def sameRs : List (List PD) → List (List PD) → Bool
  | [], [] => true
  | a :: l, b :: m => sameR a b && sameRs l m
  | _, _ => false
def sameR : List PD → List PD → Bool
  | [], [] => true
  | a :: l, b :: m => PD.same a b && sameR l m
  | _, _ => false
end
mutual
theorem PD.same_ok : ∀ {a b : PD}, PD.same a b = true → a = b
  | .int a, b, h => by
    cases b <;> first | (simp [PD.same] at h; done) | (simp [PD.same] at h; rw [h])
  | .bool a, b, h => by
    cases b <;> first | (simp [PD.same] at h; done) | (simp [PD.same] at h; rw [h])
  | .nil, b, h => by
    cases b <;> first | (simp [PD.same] at h; done) | rfl
  | .err a, b, h => by
    cases b <;> first | (simp [PD.same] at h; done) | (simp [PD.same] at h; rw [h])
  | .str a, b, h => by
    cases b <;> first | (simp [PD.same] at h; done) | (simp [PD.same] at h; rw [h])
  | .odd, b, h => by
    cases b <;> first | (simp [PD.same] at h; done) | rfl
  | .list s a, .list t b, h => by
    simp only [PD.same, Bool.and_eq_true, decide_eq_true_eq] at h
    rw [h.1, sameRs_ok h.2]
  | .rows a, .rows b, h => by
    simp only [PD.same] at h
    rw [sameRs_ok h]
  | .list s a, .int _, h | .list s a, .bool _, h | .list s a, .nil, h | .list s a, .err _, h | .list s a, .str _, h | .list s a, .rows _, h | .list s a, .odd, h => by simp [PD.same] at h
  | .rows a, .int _, h | .rows a, .bool _, h | .rows a, .nil, h | .rows a, .err _, h | .rows a, .str _, h | .rows a, .list _ _, h | .rows a, .odd, h => by simp [PD.same] at h
theorem sameRs_ok : ∀ {a b : List (List PD)}, sameRs a b = true → a = b
  | [], [], _ => rfl
  | a :: l, b :: m, h => by
    simp only [sameRs, Bool.and_eq_true] at h
    rw [sameR_ok h.1, sameRs_ok h.2]
  | [], _ :: _, h => by simp [sameRs] at h
  | _ :: _, [], h => by simp [sameRs] at h
theorem sameR_ok : ∀ {a b : List PD}, sameR a b = true → a = b
  | [], [], _ => rfl
  | a :: l, b :: m, h => by
    simp only [sameR, Bool.and_eq_true] at h
    rw [PD.same_ok h.1, sameR_ok h.2]
  | [], _ :: _, h => by simp [sameR] at h
  | _ :: _, [], h => by simp [sameR] at h
end
def stripV : Value → PD
  | .nilIface => .nil
  | .iface _ (.int _ n) => .err n
  | .string s => .str (s.data.toList.map UInt8.toNat)
  | _ => .odd
mutual
def strip : Dat → PD
  | .int _ n => .int n
  | .bool b => .bool b
  | .val v => stripV v
  | .list _ sz xs => .list sz (stripRs xs)
  | .rows xs => .rows (stripRs xs)
def stripRs : List (List Dat) → List (List PD)
  | [] => []
  | r :: l => stripR r :: stripRs l
def stripR : List Dat → List PD
  | [] => []
  | d :: l => strip d :: stripR l
end
theorem stripR_map : ∀ l : List Dat, stripR l = l.map strip
  | [] => by rw [stripR]; rfl
  | d :: l => by rw [stripR, stripR_map l]; rfl
theorem stripRs_map : ∀ l : List (List Dat), stripRs l = l.map fun r => r.map strip
  | [] => by rw [stripRs]; rfl
  | d :: l => by rw [stripRs, stripRs_map l, stripR_map]; rfl
theorem strip_int (k : IntKind) (n : Int) : strip (.int k n) = .int n := by rw [strip]
theorem strip_bool (b : Bool) : strip (.bool b) = .bool b := by rw [strip]
theorem strip_val (v : Value) : strip (.val v) = stripV v := by rw [strip]
theorem strip_list (v : Value) (sz : Nat) (xs : List (List Dat)) : strip (.list v sz xs) = .list sz (xs.map fun r => r.map strip) := by rw [strip, stripRs_map]
theorem strip_rows (xs : List (List Dat)) : strip (.rows xs) = .rows (xs.map fun r => r.map strip) := by rw [strip, stripRs_map]
theorem stripV_ne (v : Value) : (∀ n, stripV v ≠ .int n) ∧ (∀ b, stripV v ≠ .bool b) ∧ (∀ s l, stripV v ≠ .list s l) ∧ (∀ l, stripV v ≠ .rows l) := by
  unfold stripV
  split <;> exact ⟨by simp, by simp, by simp, by simp⟩
theorem strip_isInt {d : Dat} {n : Int} (h : strip d = .int n) : d.toInt = n := by
  cases d with
  | int k m => rw [strip_int] at h; cases h; rfl
  | bool b => rw [strip_bool] at h; cases h
  | val v => rw [strip_val] at h; exact absurd h ((stripV_ne v).1 n)
  | list v sz xs => rw [strip_list] at h; cases h
  | rows xs => rw [strip_rows] at h; cases h
theorem strip_isBool {d : Dat} {b : Bool} (h : strip d = .bool b) : d = .bool b := by
  cases d with
  | int k m => rw [strip_int] at h; cases h
  | bool b => rw [strip_bool] at h; cases h; rfl
  | val v => rw [strip_val] at h; exact absurd h ((stripV_ne v).2.1 b)
  | list v sz xs => rw [strip_list] at h; cases h
  | rows xs => rw [strip_rows] at h; cases h
theorem strip_isList {d : Dat} {s : Nat} {l : List (List PD)} (h : strip d = .list s l) : ∃ v xs, d = .list v s xs ∧ l = xs.map fun r => r.map strip := by
  cases d with
  | int k m => rw [strip_int] at h; cases h
  | bool b => rw [strip_bool] at h; cases h
  | val v => rw [strip_val] at h; exact absurd h ((stripV_ne v).2.2.1 s l)
  | list v sz xs => rw [strip_list] at h; cases h; exact ⟨v, xs, rfl, rfl⟩
  | rows xs => rw [strip_rows] at h; cases h
theorem strip_isRows {d : Dat} {l : List (List PD)} (h : strip d = .rows l) : ∃ xs, d = .rows xs ∧ l = xs.map fun r => r.map strip := by
  cases d with
  | int k m => rw [strip_int] at h; cases h
  | bool b => rw [strip_bool] at h; cases h
  | val v => rw [strip_val] at h; exact absurd h ((stripV_ne v).2.2.2 l)
  | list v sz xs => rw [strip_list] at h; cases h
  | rows xs => rw [strip_rows] at h; cases h; exact ⟨xs, rfl, rfl⟩

/-! What a term stands for, without places. -/
def PD.xs? : PD → Option (List (List PD))
  | .list _ l => some l
  | .rows l => some l
  | _ => none
def PD.int? : PD → Option Int
  | .int n => some n
  | _ => none
def PD.bool? : PD → Option Bool
  | .bool b => some b
  | _ => none
def PD.row? : PD → Option (List PD)
  | .rows (r :: _) => some r
  | _ => none
def PD.str? : PD → Option (List Nat)
  | .str l => some l
  | _ => none
/-- the bytes of rows -/
def bytesP : List (List PD) → Option (List Nat)
  | [] => some []
  | (.int n :: _) :: l => (bytesP l).map (n.toNat % 256 :: ·)
  | _ => none
def sev (Δ : Tab) (env : List PD) : Tm → Option PD
  | .var i => env[i]?
  | .int _ n => some (.int n)
  | .bool b => some (.bool b)
  | .nili => some .nil
  | .ifc a => ((sev Δ env a).bind PD.int?).map .err
  | .str l => some (.str (l.map (· % 256)))
  | .nil r => some (.list (Δ.row r).length [])
  | .ar o k a b => ((sev Δ env a).bind PD.int?).bind fun x => ((sev Δ env b).bind PD.int?).map fun y => .int (o.of k x y)
  | .cmp c a b => ((sev Δ env a).bind PD.int?).bind fun x => ((sev Δ env b).bind PD.int?).map fun y => .bool (c.of x y)
  | .not a => ((sev Δ env a).bind PD.bool?).map fun x => .bool (!x)
  | .beq a b => ((sev Δ env a).bind PD.bool?).bind fun x => ((sev Δ env b).bind PD.bool?).map fun y => .bool (x == y)
  | .and a b => ((sev Δ env a).bind PD.bool?).bind fun x => ((sev Δ env b).bind PD.bool?).map fun y => .bool (x && y)
  | .or a b => ((sev Δ env a).bind PD.bool?).bind fun x => ((sev Δ env b).bind PD.bool?).map fun y => .bool (x || y)
  | .conv k a => ((sev Δ env a).bind PD.int?).map fun x => .int (k.wrap x)
  | .len a => ((sev Δ env a).bind PD.xs?).map fun x => .int x.length
  | .elem s i c _ => ((sev Δ env s).bind PD.xs?).bind fun x => ((sev Δ env i).bind PD.int?).bind fun n => (x[n.toNat]?).bind fun r => r[c]?
  | .sel cs i _ => ((sev Δ env cs).bind PD.row?).bind fun r => ((sev Δ env i).bind PD.int?).bind fun n => r[n.toNat]?
  | .ite c a b => match (sev Δ env c).bind PD.bool? with
    | some true => sev Δ env a
    | some false => sev Δ env b
    | none => none
  | .isnil a => match sev Δ env a with
    | some .nil => some (.bool true)
    | some (.err _) => some (.bool false)
    | _ => none
  | .errI a => match sev Δ env a with
    | some (.err n) => some (.int n)
    | _ => none
  | .cut a l h => match sev Δ env a, (sev Δ env l).bind PD.int?, (sev Δ env h).bind PD.int? with
    | some (.list sz xs), some l, some h => if l.toNat ≤ h.toNat ∧ h.toNat ≤ xs.length ∧ xs.all (fun r => r.length == sz) = true then some (.list sz ((xs.take h.toNat).drop l.toNat)) else none
    | _, _, _ => none
  | .rep n row => ((sev Δ env n).bind PD.int?).bind fun k => ((sev Δ env row).bind PD.row?).map fun r => .rows (List.replicate k.toNat r)
  | .enil => some (.rows [[]])
  | .econs a b => (sev Δ env a).bind fun x => ((sev Δ env b).bind PD.row?).map fun r => .rows [x :: r]
  | .emp => some (.rows [])
  | .push a row => ((sev Δ env a).bind PD.xs?).bind fun x => ((sev Δ env row).bind PD.row?).map fun r => .rows (x ++ [r])
  | .app a b => ((sev Δ env a).bind PD.xs?).bind fun x => ((sev Δ env b).bind PD.xs?).map fun y => .rows (x ++ y)
  | .upd a i c v => ((sev Δ env a).bind PD.xs?).bind fun x => ((sev Δ env i).bind PD.int?).bind fun n => (sev Δ env v).map fun v => .rows (x.set n.toNat ((x.getD n.toNat []).set c v))
  | .seq a b => ((sev Δ env a).bind PD.str?).bind fun x => ((sev Δ env b).bind PD.str?).map fun y => .bool (x == y)
  | .slen a => ((sev Δ env a).bind PD.str?).map fun x => .int x.length
  | .sidx a i => ((sev Δ env a).bind PD.str?).bind fun x => ((sev Δ env i).bind PD.int?).bind fun n => (x[n.toNat]?).map fun (c : Nat) => .int (c : Int)
  | .scut a l h => ((sev Δ env a).bind PD.str?).bind fun x => ((sev Δ env l).bind PD.int?).bind fun l => ((sev Δ env h).bind PD.int?).map fun h => .str ((x.drop l.toNat).take (h.toNat - l.toNat))
  | .sapp a b => ((sev Δ env a).bind PD.str?).bind fun x => ((sev Δ env b).bind PD.str?).map fun y => .str (x ++ y)
  | .sof a => (((sev Δ env a).bind PD.xs?).bind bytesP).map .str
  | .sbytes a => ((sev Δ env a).bind PD.str?).map fun x => .rows (x.map fun (c : Nat) => [PD.int (c : Int)])
  | .cap _ => none
section
variable {Δ : Tab} {ρ : List Dat} {env : List PD}
theorem ba_loop (b : ByteArray) : ∀ (n i : Nat) (r : List UInt8), b.size - i = n → ByteArray.toList.loop b i r = r.reverse ++ b.data.toList.drop i
  | 0, i, r, h => by
    unfold ByteArray.toList.loop
    have hs : b.data.toList.length = b.size := Array.length_toList
    rw [if_neg (by omega), List.drop_of_length_le (by omega), List.append_nil]
  | n + 1, i, r, h => by
    unfold ByteArray.toList.loop
    have hs : b.data.toList.length = b.size := Array.length_toList
    have hi : i < b.data.toList.length := by omega
    rw [if_pos (by omega), ba_loop b n (i + 1) _ (by omega), List.drop_eq_getElem_cons hi]
    have : b.get! i = b.data.toList[i] := by
      have : i < b.data.size := by simpa using hi
      simp only [ByteArray.get!]
      rw [Array.getElem_toList, getElem!_pos b.data i this]
    rw [this]
    simp
theorem ba_toList (b : ByteArray) : b.toList = b.data.toList := (ba_loop b _ 0 [] rfl).trans (by simp)
theorem str_strip {d : Dat} {p : PD} {l : List Nat} (h : strip d = p) (hl : p.str? = some l) : (strD d).data.toList.map UInt8.toNat = l := by
  cases p <;> first | (cases hl; done) | skip
  cases hl
  cases d with
  | int k m => rw [strip_int] at h; cases h
  | bool b => rw [strip_bool] at h; cases h
  | list v sz xs => rw [strip_list] at h; cases h
  | rows xs => rw [strip_rows] at h; cases h
  | val v =>
    rw [strip_val] at h
    unfold stripV at h
    split at h <;> first | (cases h; done) | skip
    cases h; rfl
theorem strip_str (l : List UInt8) (b : ByteArray) (h : b.data.toList = l) : strip (.val (.string b)) = .str (l.map UInt8.toNat) := by
  rw [strip_val, ← h]; rfl
theorem bytesP_ok : ∀ {xs : List (List Dat)} {ys : List (List PD)} {l : List Nat}, xs.map (fun r => r.map strip) = ys → bytesP ys = some l → (xs.map fun r => UInt8.ofNat (r.headD (.int .u8 0)).toInt.toNat).map UInt8.toNat = l
  | [], _, l, rfl, h => by cases h; rfl
  | r :: xs, _, l, rfl, h => by
    cases r with
    | nil => cases h
    | cons d r =>
      simp only [List.map_cons] at h ⊢
      cases hd : strip d <;> rw [hd] at h <;> first | (cases h; done) | skip
      rename_i n
      simp only [bytesP, Option.map_eq_some_iff] at h
      obtain ⟨m, h1, rfl⟩ := h
      rw [bytesP_ok rfl h1, List.headD_cons, strip_isInt hd, UInt8.toNat_ofNat']
theorem xs_strip {d : Dat} {p : PD} {l : List (List PD)} (h : strip d = p) (hl : p.xs? = some l) : d.xs.map (fun r => r.map strip) = l := by
  cases p <;> first | (cases hl; done) | skip
  · cases hl
    obtain ⟨v, xs, rfl, e⟩ := strip_isList h
    exact e.symm
  · cases hl
    obtain ⟨xs, rfl, e⟩ := strip_isRows h
    exact e.symm
theorem row_strip {d : Dat} {p : PD} {l : List PD} (h : strip d = p) (hl : p.row? = some l) : d.row0.map strip = l := by
  cases p <;> first | (cases hl; done) | skip
  rename_i ys
  obtain ⟨xs, rfl, e⟩ := strip_isRows h
  cases xs with
  | nil => subst e; cases hl
  | cons r xs =>
    subst e
    cases hl
    rfl
theorem int_strip {d : Dat} {p : PD} {n : Int} (h : strip d = p) (hl : p.int? = some n) : d.toInt = n := by
  cases p <;> first | (cases hl; done) | skip
  cases hl
  exact strip_isInt h
theorem bool_strip {d : Dat} {p : PD} {n : Bool} (h : strip d = p) (hl : p.bool? = some n) : d = .bool n := by
  cases p <;> first | (cases hl; done) | skip
  cases hl
  exact strip_isBool h
theorem getD_strip {α β : Type} {f : α → β} {l : List α} {m : List β} (h : l.map f = m) {i : Nat} {y : β} (hy : m[i]? = some y) (e : α) : f (l.getD i e) = y := by
  subst h
  rw [List.getElem?_map, Option.map_eq_some_iff] at hy
  obtain ⟨x, hx, rfl⟩ := hy
  rw [List.getD_eq_getElem?_getD, hx]; rfl
theorem strB_strip (l : List Nat) : strip (.val (strB l)) = .str (l.map (· % 256)) := by
  rw [strip_val]
  unfold strB stripV
  simp only [List.map_map]
  congr 1
theorem sev_ok (he : ρ.map strip = env) : ∀ {t : Tm} {p : PD}, sev Δ env t = some p → strip (den Δ ρ t) = p
  | .var i, p, h => by
    simp only [sev] at h
    exact getD_strip he h _
  | .int k n, p, h => by simp only [sev, Option.some.injEq] at h; subst h; exact strip_int _ _
  | .bool b, p, h => by simp only [sev, Option.some.injEq] at h; subst h; exact strip_bool _
  | .nili, p, h => by simp only [sev, Option.some.injEq] at h; subst h; rw [den, strip_val]; rfl
  | .ifc a, p, h => by
    simp only [sev, Option.map_eq_some_iff, Option.bind_eq_some_iff] at h
    obtain ⟨n, ⟨q, h1, h2⟩, rfl⟩ := h
    rw [den, int_strip (sev_ok he h1) h2, strip_val]; rfl
  | .str l, p, h => by simp only [sev, Option.some.injEq] at h; subst h; exact strB_strip l
  | .nil r, p, h => by simp only [sev, Option.some.injEq] at h; subst h; rw [den, strip_list]; rfl
  | .ar o k a b, p, h => by
    simp only [sev, Option.map_eq_some_iff, Option.bind_eq_some_iff] at h
    obtain ⟨n, ⟨q, h1, h2⟩, m, ⟨q', h3, h4⟩, rfl⟩ := h
    rw [den, int_strip (sev_ok he h1) h2, int_strip (sev_ok he h3) h4, strip_int]
  | .cmp c a b, p, h => by
    simp only [sev, Option.map_eq_some_iff, Option.bind_eq_some_iff] at h
    obtain ⟨n, ⟨q, h1, h2⟩, m, ⟨q', h3, h4⟩, rfl⟩ := h
    rw [den, int_strip (sev_ok he h1) h2, int_strip (sev_ok he h3) h4, strip_bool]
  | .not a, p, h => by
    simp only [sev, Option.map_eq_some_iff, Option.bind_eq_some_iff] at h
    obtain ⟨n, ⟨q, h1, h2⟩, rfl⟩ := h
    rw [den, bool_strip (sev_ok he h1) h2, strip_bool]; rfl
  | .beq a b, p, h => by
    simp only [sev, Option.map_eq_some_iff, Option.bind_eq_some_iff] at h
    obtain ⟨n, ⟨q, h1, h2⟩, m, ⟨q', h3, h4⟩, rfl⟩ := h
    rw [den, bool_strip (sev_ok he h1) h2, bool_strip (sev_ok he h3) h4, strip_bool]; rfl
  | .and a b, p, h => by
    simp only [sev, Option.map_eq_some_iff, Option.bind_eq_some_iff] at h
    obtain ⟨n, ⟨q, h1, h2⟩, m, ⟨q', h3, h4⟩, rfl⟩ := h
    rw [den, bool_strip (sev_ok he h1) h2, bool_strip (sev_ok he h3) h4, strip_bool]; rfl
  | .or a b, p, h => by
    simp only [sev, Option.map_eq_some_iff, Option.bind_eq_some_iff] at h
    obtain ⟨n, ⟨q, h1, h2⟩, m, ⟨q', h3, h4⟩, rfl⟩ := h
    rw [den, bool_strip (sev_ok he h1) h2, bool_strip (sev_ok he h3) h4, strip_bool]; rfl
  | .conv k a, p, h => by
    simp only [sev, Option.map_eq_some_iff, Option.bind_eq_some_iff] at h
    obtain ⟨n, ⟨q, h1, h2⟩, rfl⟩ := h
    rw [den, int_strip (sev_ok he h1) h2, strip_int]
  | .len a, p, h => by
    simp only [sev, Option.map_eq_some_iff, Option.bind_eq_some_iff] at h
    obtain ⟨n, ⟨q, h1, h2⟩, rfl⟩ := h
    have := xs_strip (sev_ok he h1) h2
    rw [den, strip_int, ← this, List.length_map]
  | .elem s i c t, p, h => by
    simp only [sev, Option.bind_eq_some_iff] at h
    obtain ⟨x, ⟨q, h1, h2⟩, n, ⟨q', h3, h4⟩, r, h5, h6⟩ := h
    rw [den, int_strip (sev_ok he h3) h4]
    have e := getD_strip (f := fun r : List Dat => r.map strip) (xs_strip (sev_ok he h1) h2) h5 []
    exact getD_strip e h6 _
  | .sel cs i t, p, h => by
    simp only [sev, Option.bind_eq_some_iff] at h
    obtain ⟨x, ⟨q, h1, h2⟩, n, ⟨q', h3, h4⟩, h5⟩ := h
    rw [den, int_strip (sev_ok he h3) h4]
    exact getD_strip (row_strip (sev_ok he h1) h2) h5 _
  | .ite c a b, p, h => by
    simp only [sev] at h
    split at h
    · rename_i hc
      rw [Option.bind_eq_some_iff] at hc
      obtain ⟨q, h1, h2⟩ := hc
      rw [den, bool_strip (sev_ok he h1) h2]
      exact sev_ok he h
    · rename_i hc
      rw [Option.bind_eq_some_iff] at hc
      obtain ⟨q, h1, h2⟩ := hc
      rw [den, bool_strip (sev_ok he h1) h2]
      exact sev_ok he h
    · cases h
  | .isnil a, p, h => by
    simp only [sev] at h
    split at h
    · rename_i h1
      cases h
      have := sev_ok he h1
      rw [den, strip_bool]
      generalize den Δ ρ a = d at this
      cases d with
      | int k m => rw [strip_int] at this; cases this
      | bool b => rw [strip_bool] at this; cases this
      | list v sz xs => rw [strip_list] at this; cases this
      | rows xs => rw [strip_rows] at this; cases this
      | val v =>
        rw [strip_val] at this
        unfold stripV at this
        split at this <;> first | (cases this; done) | rfl
    · rename_i n h1
      cases h
      have := sev_ok he h1
      rw [den, strip_bool]
      generalize den Δ ρ a = d at this
      cases d with
      | int k m => rw [strip_int] at this; cases this
      | bool b => rw [strip_bool] at this; cases this
      | list v sz xs => rw [strip_list] at this; cases this
      | rows xs => rw [strip_rows] at this; cases this
      | val v =>
        rw [strip_val] at this
        unfold stripV at this
        split at this <;> first | (cases this; done) | rfl
    · cases h
  | .errI a, p, h => by
    simp only [sev] at h
    split at h
    · rename_i n h1
      cases h
      have := sev_ok he h1
      rw [den, strip_int]
      generalize den Δ ρ a = d at this
      cases d with
      | int k m => rw [strip_int] at this; cases this
      | bool b => rw [strip_bool] at this; cases this
      | list v sz xs => rw [strip_list] at this; cases this
      | rows xs => rw [strip_rows] at this; cases this
      | val v =>
        rw [strip_val] at this
        unfold stripV at this
        split at this <;> first | (cases this; done) | (cases this; rfl)
    · cases h
  | .cut a l u, p, h => by
    simp only [sev] at h
    split at h
    · rename_i sz xs lo hi h1 h2 h3
      rw [Option.bind_eq_some_iff] at h2 h3
      obtain ⟨q2, h2, h4⟩ := h2
      obtain ⟨q3, h3, h5⟩ := h3
      split at h
      case isFalse => cases h
      rename_i hc
      cases h
      obtain ⟨v, ys, hd, rfl⟩ := strip_isList (sev_ok he h1)
      rw [den, int_strip (sev_ok he h2) h4, int_strip (sev_ok he h3) h5, hd]
      simp only [cutD]
      rw [if_pos, strip_list]
      · simp only [List.map_drop, List.map_take]
      · refine ⟨hc.1, by simpa using hc.2.1, ?_⟩
        have := hc.2.2
        rw [List.all_map] at this
        simpa [Function.comp] using this
    · cases h
  | .rep n row, p, h => by
    simp only [sev, Option.map_eq_some_iff, Option.bind_eq_some_iff] at h
    obtain ⟨k, ⟨q, h1, h2⟩, r, ⟨q', h3, h4⟩, rfl⟩ := h
    rw [den, int_strip (sev_ok he h1) h2, strip_rows, List.map_replicate, row_strip (sev_ok he h3) h4]
  | .enil, p, h => by simp only [sev, Option.some.injEq] at h; subst h; rw [den, strip_rows]; rfl
  | .econs a b, p, h => by
    simp only [sev, Option.map_eq_some_iff, Option.bind_eq_some_iff] at h
    obtain ⟨x, h1, r, ⟨q', h3, h4⟩, rfl⟩ := h
    rw [den, strip_rows, List.map_cons, List.map_nil, List.map_cons, sev_ok he h1, row_strip (sev_ok he h3) h4]
  | .emp, p, h => by simp only [sev, Option.some.injEq] at h; subst h; rw [den, strip_rows]; rfl
  | .push a row, p, h => by
    simp only [sev, Option.map_eq_some_iff, Option.bind_eq_some_iff] at h
    obtain ⟨x, ⟨q, h1, h2⟩, r, ⟨q', h3, h4⟩, rfl⟩ := h
    rw [den, strip_rows, List.map_append, xs_strip (sev_ok he h1) h2, List.map_cons, List.map_nil, row_strip (sev_ok he h3) h4]
  | .app a b, p, h => by
    simp only [sev, Option.map_eq_some_iff, Option.bind_eq_some_iff] at h
    obtain ⟨x, ⟨q, h1, h2⟩, r, ⟨q', h3, h4⟩, rfl⟩ := h
    rw [den, strip_rows, List.map_append, xs_strip (sev_ok he h1) h2, xs_strip (sev_ok he h3) h4]
  | .upd a i c v, p, h => by
    simp only [sev, Option.map_eq_some_iff, Option.bind_eq_some_iff] at h
    obtain ⟨x, ⟨q, h1, h2⟩, n, ⟨q', h3, h4⟩, r, h5, rfl⟩ := h
    rw [den, strip_rows, int_strip (sev_ok he h3) h4, List.map_set, xs_strip (sev_ok he h1) h2, List.map_set, sev_ok he h5]
    congr 2
    rw [← xs_strip (sev_ok he h1) h2, List.getD_eq_getElem?_getD, List.getD_eq_getElem?_getD, List.getElem?_map]
    cases (den Δ ρ a).xs[n.toNat]? <;> rfl
  | .seq a b, p, h => by
    simp only [sev, Option.map_eq_some_iff, Option.bind_eq_some_iff] at h
    obtain ⟨x, ⟨q, h1, h2⟩, y, ⟨q', h3, h4⟩, rfl⟩ := h
    rw [den, strip_bool, ba_toList, ba_toList, ← str_strip (sev_ok he h1) h2, ← str_strip (sev_ok he h3) h4]
    congr 1
    rw [Bool.eq_iff_iff, beq_iff_eq, beq_iff_eq]
    exact ⟨fun e => by rw [e], fun e => (List.map_inj_right (fun a b => UInt8.toNat_inj.1)).1 e⟩
  | .slen a, p, h => by
    simp only [sev, Option.map_eq_some_iff, Option.bind_eq_some_iff] at h
    obtain ⟨x, ⟨q, h1, h2⟩, rfl⟩ := h
    rw [den, strip_int, ← str_strip (sev_ok he h1) h2, List.length_map, Array.length_toList]; rfl
  | .sidx a i, p, h => by
    simp only [sev, Option.map_eq_some_iff, Option.bind_eq_some_iff] at h
    obtain ⟨x, ⟨q, h1, h2⟩, n, ⟨q', h3, h4⟩, c, h5, rfl⟩ := h
    rw [den, strip_int, int_strip (sev_ok he h3) h4]
    rw [← str_strip (sev_ok he h1) h2, List.getElem?_map, Option.map_eq_some_iff] at h5
    obtain ⟨u, hu, rfl⟩ := h5
    rw [Array.getElem?_toList] at hu
    rw [Array.getD_eq_getD_getElem?, hu]; rfl
  | .scut a l u, p, h => by
    simp only [sev, Option.map_eq_some_iff, Option.bind_eq_some_iff] at h
    obtain ⟨x, ⟨q, h1, h2⟩, n, ⟨q', h3, h4⟩, m, ⟨q'', h5, h6⟩, rfl⟩ := h
    rw [den, int_strip (sev_ok he h3) h4, int_strip (sev_ok he h5) h6, strip_str _ _ rfl, ← str_strip (sev_ok he h1) h2, ByteArray.data_extract, Array.toList_extract]
    simp only [List.extract_eq_take_drop, List.map_take, List.map_drop]
  | .sapp a b, p, h => by
    simp only [sev, Option.map_eq_some_iff, Option.bind_eq_some_iff] at h
    obtain ⟨x, ⟨q, h1, h2⟩, y, ⟨q', h3, h4⟩, rfl⟩ := h
    rw [den, strip_str _ _ rfl, ← str_strip (sev_ok he h1) h2, ← str_strip (sev_ok he h3) h4, ByteArray.data_append, Array.toList_append, List.map_append]
  | .sof a, p, h => by
    simp only [sev, Option.map_eq_some_iff, Option.bind_eq_some_iff] at h
    obtain ⟨x, ⟨y, ⟨q, h1, h2⟩, h3⟩, rfl⟩ := h
    rw [den, strip_str _ _ rfl, ← bytesP_ok (xs_strip (sev_ok he h1) h2) h3]
    rfl
  | .sbytes a, p, h => by
    simp only [sev, Option.map_eq_some_iff, Option.bind_eq_some_iff] at h
    obtain ⟨x, ⟨q, h1, h2⟩, rfl⟩ := h
    rw [den, strip_rows, ← str_strip (sev_ok he h1) h2, List.map_map, List.map_map]
    congr 1
  | .cap _, p, h => by simp [sev] at h
def sevs (Δ : Tab) (env : List PD) : List Tm → Option (List PD)
  | [] => some []
  | t :: l => (sev Δ env t).bind fun x => (sevs Δ env l).map (x :: ·)
theorem sevs_ok (he : ρ.map strip = env) : ∀ {ts : List Tm} {ps : List PD}, sevs Δ env ts = some ps → (ts.map (den Δ ρ)).map strip = ps
  | [], ps, h => by cases h; rfl
  | t :: l, ps, h => by
    simp only [sevs, Option.map_eq_some_iff, Option.bind_eq_some_iff] at h
    obtain ⟨x, h1, r, h2, rfl⟩ := h
    rw [List.map_cons, List.map_cons, sev_ok he h1, sevs_ok he h2]
/-- callees whose results, places aside, are told by their arguments, places aside -/
abbrev PFun := Nat → List PD → Option (List PD)
def PFun.fits (cs : PFun) (Φ : Nat → Spec) : Prop := ∀ f args rs, cs f args = some rs → ∀ ds W, ds.map strip = args → (∀ rs', rs'.map strip = rs → W rs') → Φ f ds W
/-- the slices that are lent, places aside -/
def lentE (Δ : Tab) (env : List PD) : List (Nat × Tm) → Option (List PD)
  | [] => some []
  | x :: l => ((sev Δ env x.2).bind PD.xs?).bind fun xs => (lentE Δ env l).map (.list (Δ.row x.1).length xs :: ·)
abbrev Stk := List (List PD × Tree)
/-- a tree, reckoned through: what it ends with -/
def evB (Δ : Tab) (cs : PFun) (ag : Stk → Nat → List PD → Option (List PD)) : Tree → Stk → List PD → Option (List PD)
  | .ret ts, _, env => sevs Δ env ts
  | .ite c a b, stk, env => match sev Δ env c with
    | some (.bool true) => evB Δ cs ag a stk env
    | some (.bool false) => evB Δ cs ag b stk env
    | _ => none
  | .ob c k, stk, env => match sev Δ env c with
    | some (.bool true) => evB Δ cs ag k stk env
    | _ => none
  | .loop ts _ b, stk, env => (sevs Δ env ts).bind fun vs => evB Δ cs ag b (stk ++ [(env, b)]) (env ++ vs)
  | .again l ts, stk, env => (sevs Δ env ts).bind fun vs => ag stk l vs
  | .call f ts _ k, stk, env => (sevs Δ env ts).bind fun ps => (cs f ps).bind fun rs => evB Δ cs ag k stk (env ++ rs)
  | .callx _ _ _ _, _, _ => none
  | .lend f l ts _ k, stk, env => (lentE Δ env l).bind fun e => (sevs Δ (env ++ e) ts).bind fun ps => (cs f ps).bind fun rs => evB Δ cs ag k stk (env ++ rs)
  | .share r t k, stk, env => ((sev Δ env t).bind PD.xs?).bind fun l => evB Δ cs ag k stk (env ++ [.list (Δ.row r).length l])
  | .lit r t k, stk, env => ((sev Δ env t).bind PD.xs?).bind fun l => evB Δ cs ag k stk (env ++ [.list (Δ.row r).length l])
  | .both a b, stk, env => (evB Δ cs ag a stk env).bind fun x => (evB Δ cs ag b stk env).bind fun y => if sameR x y then some x else none
  | .fail _, _, _ => none
def evL (Δ : Tab) (cs : PFun) : Nat → Stk → Tree → List PD → Option (List PD)
  | 0 => fun stk tr env => evB Δ cs (fun _ _ _ => none) tr stk env
  | n + 1 => fun stk tr env => evB Δ cs (fun stk l vs => match stk[l]? with
    | some x => evL Δ cs n (stk.take (l + 1)) x.2 (x.1 ++ vs)
    | none => none) tr stk env
def agL (Δ : Tab) (cs : PFun) : Nat → Stk → Nat → List PD → Option (List PD)
  | 0 => fun _ _ _ => none
  | n + 1 => fun stk l vs => match stk[l]? with
    | some x => evL Δ cs n (stk.take (l + 1)) x.2 (x.1 ++ vs)
    | none => none
theorem evL_eq (cs : PFun) : ∀ (n : Nat) (stk : Stk) (tr : Tree) (env : List PD), evL Δ cs n stk tr env = evB Δ cs (agL Δ cs n) tr stk env
  | 0, _, _, _ => rfl
  | n + 1, _, _, _ => rfl
theorem allS_of {Δ : Tab} : ∀ {ss : List Srt} {p : List Dat → Prop}, (∀ l, p l) → allS Δ ss p
  | [], p, h => h []
  | s :: ss, p, h => by
    cases s <;> first | exact fun n => allS_of fun l => h _ | exact fun d _ => allS_of fun l => h _
theorem lentE_ok (he : ρ.map strip = env) : ∀ {l : List (Nat × Tm)} {e : List PD} {p : List Dat → Prop}, lentE Δ env l = some e → (∀ e', e'.map strip = e → p e') → lendW Δ ρ l p
  | [], e, p, h, hp => by cases h; exact hp [] rfl
  | x :: l, e, p, h, hp => by
    simp only [lentE, Option.map_eq_some_iff, Option.bind_eq_some_iff] at h
    obtain ⟨xs, ⟨q, h1, h2⟩, r, h3, rfl⟩ := h
    intro A c
    refine lentE_ok he (p := fun e => p (_ :: e)) h3 fun e' h' => hp _ ?_
    rw [List.map_cons, h', strip_list, xs_strip (sev_ok he h1) h2]
/-- the loops around stand where the reckoning has them -/
def Fits (Δ : Tab) (cs : PFun) (rs : List PD) (n : Nat) (stk : Stk) (X : List (Inv × Nat)) : Prop :=
  stk.length = X.length ∧ ∀ (l : Nat) (x : List PD × Tree), stk[l]? = some x → ∃ I : Inv × Nat, X[l]? = some I ∧ n ≤ I.2 ∧ ∀ vs n', n' < n → evL Δ cs n' (stk.take (l + 1)) x.2 (x.1 ++ vs.map strip) = some rs → I.1 vs n'
theorem evB_ok {cs : PFun} {Φ : Nat → Spec} (hcs : cs.fits Φ) {rs : List PD} {Post : List Dat → Prop} (hP : ∀ rs', rs'.map strip = rs → Post rs') : ∀ {tr : Tree} {n : Nat} {stk : Stk} {ρ : List Dat} {env : List PD} {X : List (Inv × Nat)}, ρ.map strip = env → Fits Δ cs rs n stk X → evB Δ cs (agL Δ cs n) tr stk env = some rs → wp Δ Φ Post tr ρ X
  | .ret ts, n, stk, ρ, env, X, he, hf, h => by
    simp only [evB] at h
    exact hP _ (sevs_ok he h)
  | .ite c a b, n, stk, ρ, env, X, he, hf, h => by
    simp only [evB] at h
    split at h
    · rename_i hc
      have := strip_isBool (sev_ok he hc)
      exact ⟨fun _ => evB_ok hcs hP he hf h, fun e => (by rw [this] at e; cases e)⟩
    · rename_i hc
      have := strip_isBool (sev_ok he hc)
      exact ⟨fun e => (by rw [this] at e; cases e), fun _ => evB_ok hcs hP he hf h⟩
    · cases h
  | .ob c k, n, stk, ρ, env, X, he, hf, h => by
    simp only [evB] at h
    split at h
    · rename_i hc
      exact ⟨strip_isBool (sev_ok he hc), evB_ok hcs hP he hf h⟩
    · cases h
  | .loop ts ss b, n, stk, ρ, env, X, he, hf, h => by
    simp only [evB, Option.bind_eq_some_iff] at h
    obtain ⟨vs, h1, h2⟩ := h
    refine ⟨fun xs m => m ≤ n ∧ evL Δ cs m (stk ++ [(env, b)]) b (env ++ xs.map strip) = some rs, ⟨n, Nat.le_refl _, ?_⟩, allS_of fun xs m ⟨hm, hI⟩ => ?_⟩
    · rw [evL_eq, sevs_ok he h1]; exact h2
    · rw [evL_eq] at hI
      refine evB_ok hcs hP (by rw [List.map_append, he]) ⟨by simp [hf.1], fun l x hx => ?_⟩ hI
      rcases Nat.lt_or_ge l stk.length with hl | hl
      · rw [List.getElem?_append_left hl] at hx
        obtain ⟨I, i1, i2, i3⟩ := hf.2 l x hx
        refine ⟨I, by rw [List.getElem?_append_left (by rw [← hf.1]; exact hl)]; exact i1, Nat.le_trans hm i2, fun vs n' hn' hv => i3 vs n' (Nat.lt_of_lt_of_le hn' hm) ?_⟩
        rw [List.take_append_of_le_length (by omega)] at hv
        exact hv
      · rw [List.getElem?_append_right hl] at hx
        have hl0 : l - stk.length = 0 := by
          have := (List.getElem?_eq_some_iff.1 hx).1
          simp at this; omega
        have hle : l = stk.length := by omega
        subst hle
        simp only [Nat.sub_self, List.getElem?_cons_zero, Option.some.injEq] at hx
        subst hx
        refine ⟨((fun xs m => m ≤ n ∧ evL Δ cs m (stk ++ [(env, b)]) b (env ++ xs.map strip) = some rs), m), by rw [List.getElem?_append_right (by rw [hf.1]; exact Nat.le_refl _), hf.1, Nat.sub_self]; rfl, Nat.le_refl _, fun vs n' hn' hv => ⟨by omega, ?_⟩⟩
        rw [List.take_of_length_le (by simp)] at hv
        exact hv
  | .again l ts, n, stk, ρ, env, X, he, hf, h => by
    simp only [evB, Option.bind_eq_some_iff] at h
    obtain ⟨vs, h1, h2⟩ := h
    cases n with
    | zero => cases h2
    | succ n =>
    simp only [agL] at h2
    split at h2
    · rename_i x hx
      obtain ⟨I, i1, i2, i3⟩ := hf.2 l x hx
      simp only [wp, i1]
      refine ⟨n, by omega, i3 _ n (Nat.lt_succ_self _) ?_⟩
      rw [sevs_ok he h1]; exact h2
    · cases h2
  | .call f ts ss k, n, stk, ρ, env, X, he, hf, h => by
    simp only [evB, Option.bind_eq_some_iff] at h
    obtain ⟨ps, h1, qs, h2, h3⟩ := h
    exact hcs f ps qs h2 _ _ (sevs_ok he h1) fun rs' hrs => evB_ok hcs hP (by rw [List.map_append, he, hrs]) hf h3
  | .callx f ts ss k, n, stk, ρ, env, X, he, hf, h => by cases h
  | .lend f l ts ss k, n, stk, ρ, env, X, he, hf, h => by
    simp only [evB, Option.bind_eq_some_iff] at h
    obtain ⟨e, h0, ps, h1, qs, h2, h3⟩ := h
    refine lentE_ok he h0 fun e' h' => ?_
    exact hcs f ps qs h2 _ _ (sevs_ok (by rw [List.map_append, he, h']) h1) fun rs' hrs => evB_ok hcs hP (by rw [List.map_append, he, hrs]) hf h3
  | .share r t k, n, stk, ρ, env, X, he, hf, h => by
    simp only [evB, Option.bind_eq_some_iff] at h
    obtain ⟨l, ⟨p, h1, h2⟩, h3⟩ := h
    intro A c
    refine evB_ok hcs hP ?_ hf h3
    rw [List.map_append, he, List.map_cons, List.map_nil, strip_list, xs_strip (sev_ok he h1) h2]
  | .lit r t k, n, stk, ρ, env, X, he, hf, h => by
    simp only [evB, Option.bind_eq_some_iff] at h
    obtain ⟨l, ⟨p, h1, h2⟩, h3⟩ := h
    intro A
    refine evB_ok hcs hP ?_ hf h3
    rw [List.map_append, he, List.map_cons, List.map_nil, strip_list, xs_strip (sev_ok he h1) h2]
  | .both a b, n, stk, ρ, env, X, he, hf, h => by
    simp only [evB, Option.bind_eq_some_iff] at h
    obtain ⟨x, h1, y, h2, h3⟩ := h
    split at h3
    · rename_i hs
      cases h3
      have := sameR_ok hs
      subst this
      exact ⟨evB_ok hcs hP he hf h1, evB_ok hcs hP he hf h2⟩
    · cases h3
  | .fail _, n, stk, ρ, env, X, he, hf, h => by cases h
end
/-- what a function answers, places aside, hangs on its arguments, places aside -/
def psp (g : List PD → Option (List PD)) : Spec := fun ds Q => ∃ rs, g (ds.map strip) = some rs ∧ ∀ rs', rs'.map strip = rs → Q rs'
def pfun : List (Nat × (List PD → Option (List PD))) → PFun
  | [], _, _ => none
  | x :: l, f, ps => if x.1 = f then x.2 ps else pfun l f ps
theorem pfun_fits {Φ : Nat → Spec} : ∀ {l : List (Nat × (List PD → Option (List PD)))}, (∀ x ∈ l, Φ x.1 = psp x.2) → (pfun l).fits Φ
  | [], _ => fun f args rs h => by cases h
  | x :: l, hl => fun f args rs h ds W hd hW => by
    simp only [pfun] at h
    split at h
    · rename_i e
      subst e
      rw [hl x (by simp)]
      exact ⟨rs, by rw [hd]; exact h, hW⟩
    · exact pfun_fits (fun y hy => hl y (by simp [hy])) f args rs h ds W hd hW
/-- a function that is reckoned through -/
theorem con_ev {E : Env} (hW : E.Wf) (hmix : E.P.follows .mixedOrders = true) (hγ : E.γ = []) (T : List (Con E)) {ns : List (Nat × Sig)} (hn : names T = ns) {f : Nat} {sg : Sig} {tr : Tree} (hT : walk E.cx (sgsN ns) 0 f sg = tr) (hsg : sg.ok = true) {cs : PFun} (hcs : cs.fits (specC T)) (fuel : Nat) :
    Holds E f sg (psp fun ps => evL E.Δ cs fuel [] tr ps) := by
  subst hn
  have hT' : walk E.cx (sgsN (names T)) E.γ.length f sg = tr := by rw [hγ]; exact hT
  refine walk_ok hW hmix (sgsN_con T) hT' hsg fun ds Q hs ⟨rs, h1, h2⟩ => ?_
  rw [hγ]
  replace h1 : evL E.Δ cs fuel [] tr (ds.map strip) = some rs := h1
  rw [evL_eq] at h1
  exact evB_ok hcs h2 rfl ⟨rfl, fun l x h => by cases h⟩ h1
theorem fits_cons {Φ : Nat → Spec} {k : Nat} {g : List PD → Option (List PD)} {l : List (Nat × (List PD → Option (List PD)))} (h : Φ k = psp g) (t : (pfun l).fits Φ) : (pfun ((k, g) :: l)).fits Φ := fun f args rs h' ds W hd hW => by
  simp only [pfun] at h'
  split at h'
  · rename_i e
    subst e
    rw [h]
    exact ⟨rs, by rw [hd]; exact h', hW⟩
  · exact t f args rs h' ds W hd hW
theorem fits_nil {Φ : Nat → Spec} : (pfun []).fits Φ := fun f args rs h => by cases h
theorem holds_or {E : Env} {f : FuncId} {sg : Sig} {Φ Ψ : Spec} (h1 : Holds E f sg Φ) (h2 : Holds E f sg Ψ) : Holds E f sg (fun ds Q => Φ ds Q ∨ Ψ ds Q) := fun w ds Q a b c d h => h.elim (h1 w ds Q a b c d) (h2 w ds Q a b c d)
theorem holds_mono {E : Env} {f : FuncId} {sg : Sig} {Φ Ψ : Spec} (h1 : Holds E f sg Φ) (h2 : ∀ ds Q, All2 (Has E.Δ) (Sig.sorts sg.params) ds → Ψ ds Q → Φ ds Q) : Holds E f sg Ψ := fun w ds Q a b c d h => h1 w ds Q a b c d (h2 ds Q a h)
/-- arguments that are known -/
theorem con_at {E : Env} (hW : E.Wf) (hmix : E.P.follows .mixedOrders = true) (hγ : E.γ = []) (T : List (Con E)) {ns : List (Nat × Sig)} (hn : names T = ns) {f : Nat} {sg : Sig} (hsg : sg.ok = true) {Ψ : Spec}
    (h : ∀ Φ : Nat → Spec, Φ = specC T → ∀ ds Q, All2 (Has E.Δ) (Sig.sorts sg.params) ds → Ψ ds Q → ∃ ps : List (Tm × Srt), sg.params = (ps.map fun p => (false, [p.2])) ∧ (∀ p ∈ ps, Has E.Δ p.2 (den E.Δ [] p.1) ∧ p.1.bnd 0 = true ∧ p.2.one = true) ∧ ds = (ps.map fun p => den E.Δ [] p.1) ∧ wp E.Δ Φ Q (walkAt E.cx (sgsN ns) 0 f sg ps) ds []) : Holds E f sg Ψ := by
  subst hn
  intro w ds Q hs hok hγ' hG hΨ
  obtain ⟨ps, h1, h2, h3, h4⟩ := h _ rfl ds Q hs hΨ
  refine walkAt_ok hW hmix (sgsN_con T) hsg h1 h2 h3 ?_ hok hγ' hG
  rw [hγ]; exact h4
end Go.Proofs.YtcigbgpdikadpaaDoor
end

section
namespace Go.Proofs.YtcigbgpdikadpaaDoor
open Go.RowKit
def ef (op n m who : Int) (subs : List (List PD)) : List PD := [.int op, .int n, .int m, .int who, .list 5 subs]
def ab (w : Int) (cost : List Int) (tap : Bool) (target : Int) (e : List PD) : List PD := .int w :: (cost.map .int ++ (.bool tap :: .int target :: e))
def cd (kind col : Int) (fast : Bool) (cost : List Int) (p t s : Int) (abs : List (List PD)) : List PD := .int kind :: .int col :: .bool fast :: (cost.map .int ++ [.int p, .int t, .int s, .list 14 abs])
def irow (l : List Int) : List (List PD) := l.map fun n => [.int n]
def irows (l : List (List Int)) : PD := .list 1 (l.map fun r => [.list 1 (irow r)])

def magicR : List (List Int) := [[0, 2, 4, 0, 0],
  [4, 9, 0, 0, 2],
  [1, 10, -2, -2, 2],
  [3, 1, 2, 0, 2],
  [1, 10, 3, 3, 2],
  [1, 6, 0, 0, 2],
  [0, 4, 2, 0, 0],
  [2, 19, 1, 0, 2],
  [1, 1, 4, 0, 2],
  [1, 11, 2, 0, 2],
  [0, 20, 1, 0, 0, 10, 1, 1, 2],
  [5, 7, 0, 0, 2],
  [2, 3, 3, 0, 2],
  [1, 10, 3, 0, 2],
  [1, 23, 64, 0, 2],
  [5, 8, 0, 0, 2],
  [0, 17, 3, 0, 0],
  [0, 21, 0, 0, 0, 3, 2, 0, 1, 2, 2, 0, 0],
  [0, 20, 0, 0, 0, 1, 2, 0, 2],
  [0, 14, 2, 116, 0],
  [0, 21, 0, 0, 0, 2, 2, 0, 0, 4, 1, 0, 0],
  [1, 12, 0, 0, 2],
  [1, 6, 0, 0, 2],
  [0, 1, 3, 0, 4],
  [0, 15, 3, 4, 0],
  [0, 22, 0, 10, 0, 2, 8, 0, 0, 4, 1, 0, 0],
  [0, 21, 0, 0, 0, 4, 3, 0, 0, 19, 1, 0, 0],
  [0, 5, 4, 0, 4],
  [3, 21, 0, 0, 0, 1, 2, 0, 2, 4, 1, 0, 0],
  [0, 20, 1, 0, 0, 11, 1, 0, 2]]
def relicR : List (List Int) := [[5, -1, 0, 0, 20, 1, 0, 0, 10, 0, 2, 2],
  [5, -1, 0, 0, 20, 1, 0, 0, 23, 1, 0, 2],
  [5, -1, 0, 0, 20, 2, 0, 0, 10, -1, 0, 2],
  [5, -1, 0, 0, 20, 1, 0, 0, 10, 1, 0, 2],
  [5, -1, 0, 0, 20, 1, 0, 0, 10, 1, 1, 2],
  [4, -1, 0, 0, 2, 1, 0, 0],
  [4, -1, 0, 0, 17, 1, 0, 0],
  [4, -1, 0, 0, 3, 1, 0, 4],
  [4, -1, 0, 0, 1, 1, 0, 1],
  [4, -1, 0, 0, 15, 1, 4, 0],
  [1, 5, 1, 1, 10, 0, 1, 2],
  [1, 5, 1, 1, 12, 0, 0, 2],
  [1, 5, 1, 0, 3, 1, 0, 1],
  [1, 5, 1, 3, 1, 1, 0, 2],
  [1, 5, 1, 1, 13, 0, 0, 2],
  [5, -1, 0, 0, 20, 0, 0, 0, 25, 1, 0, 2],
  [1, 1, 0, 0, 13, 0, 0, 3],
  [5, -1, 0, 0, 20, 2, 0, 0, 24, 1, 1, 2],
  [3, -1, 0, 0, 1, 3, 0, 4],
  [2, -1, 0, 0, 14, 1, 119, 0]]
def specialR : List (List Int) := [[2, 1, 0, 0, 0, 0, 0, -1, 0, 0, 18, 0, 0, 0],
  [2, 2, 0, 0, 0, 0, 0, -1, 0, 0, 19, 2, 0, 1],
  [2, 1, 0, 0, 0, 0, 0, -1, 0, 0, 16, 3, 0, 1],
  [2, 1, 1, 0, 0, 0, 0, -1, 0, 0, 17, 2, 0, 1],
  [2, 2, 0, 0, 0, 0, 0, -1, 0, 0, 5, 3, 0, 4],
  [2, 3, 1, 0, 0, 0, 0, -1, 0, 4, 9, 0, 0, 2],
  [2, 2, 0, 0, 0, 0, 0, -1, 0, 0, 20, 0, 0, 0, 7, 0, 0, 2],
  [3, 2, 0, 0, 0, 0, 1, -1, 0, 0, 15, 1, 5, 0],
  [1, 2, 0, 1, 1, 0, 1, 5, 0, 0, 13, 0, 0, 3],
  [2, 3, 0, 0, 0, 0, 0, -1, 0, 0, 14, 2, 112, 0],
  [2, 4, 0, 0, 0, 0, 0, -1, 0, 0, 20, 0, 0, 0, 6, 0, 0, 2],
  [1, 3, 1, 2, 3, 5, 3, -1, 0, 0, 4, 1, 0, 0]]
def cards0 : List (List PD) := [cd 0 0 false [0, 0, 0, 0, 0, 0] 0 0 0 [ab 6 [0, 0, 0, 0, 0, 0] true 0 (ef 15 1 0 0 [])],
  cd 0 1 false [0, 0, 0, 0, 0, 0] 0 0 0 [ab 6 [0, 0, 0, 0, 0, 0] true 0 (ef 15 1 1 0 [])],
  cd 0 2 false [0, 0, 0, 0, 0, 0] 0 0 0 [ab 6 [0, 0, 0, 0, 0, 0] true 0 (ef 15 1 2 0 [])],
  cd 0 3 false [0, 0, 0, 0, 0, 0] 0 0 0 [ab 6 [0, 0, 0, 0, 0, 0] true 0 (ef 15 1 3 0 [])],
  cd 0 4 false [0, 0, 0, 0, 0, 0] 0 0 0 [ab 6 [0, 0, 0, 0, 0, 0] true 0 (ef 15 1 4 0 [])],
  cd 0 5 false [0, 0, 0, 0, 0, 0] 0 0 0 [ab 2 [0, 0, 0, 0, 0, 0] false 0 (ef 3 1 0 0 []), ab 6 [0, 0, 0, 0, 0, 0] true 0 (ef 15 1 5 0 [])],
  cd 0 5 false [0, 0, 0, 0, 0, 0] 0 0 0 [ab 2 [0, 0, 0, 0, 0, 0] false 0 (ef 3 2 0 0 []), ab 6 [0, 0, 0, 0, 0, 0] true 0 (ef 15 1 5 0 [])],
  cd 0 5 false [0, 0, 0, 0, 0, 0] 0 0 0 [ab 2 [0, 0, 0, 0, 0, 0] false 0 (ef 3 3 0 0 []), ab 6 [0, 0, 0, 0, 0, 0] true 0 (ef 15 2 5 0 [])],
  cd 0 5 false [0, 0, 0, 0, 0, 0] 0 0 0 [ab 2 [0, 0, 0, 0, 0, 0] false 0 (ef 3 4 0 0 []), ab 6 [0, 0, 0, 0, 0, 0] true 0 (ef 15 2 5 0 [])],
  cd 0 5 false [0, 0, 0, 0, 0, 0] 0 0 0 [ab 2 [0, 0, 0, 0, 0, 0] false 0 (ef 3 5 0 0 []), ab 6 [0, 0, 0, 0, 0, 0] true 0 (ef 15 3 5 0 [])]]
def cards10 : List (List PD) := [cd 1 0 false [1, 0, 0, 0, 0, 0] 1 1 1 [ab 2 [0, 0, 0, 0, 0, 0] false 0 (ef 2 1 0 0 [])],
  cd 1 1 false [0, 1, 0, 0, 0, 0] 1 1 1 [],
  cd 1 2 false [0, 0, 1, 0, 0, 0] 1 1 1 [ab 3 [0, 0, 0, 0, 0, 0] false 0 (ef 3 1 0 1 [])],
  cd 1 3 false [0, 0, 0, 1, 0, 0] 2 1 1 [ab 1 [0, 0, 0, 1, 0, 0] true 3 (ef 1 1 0 2 [])],
  cd 1 4 false [0, 0, 0, 0, 1, 0] 1 2 1 [ab 1 [0, 0, 0, 0, 1, 0] false 0 (ef 10 1 1 3 [])],
  cd 1 0 false [1, 0, 0, 0, 0, 1] 1 2 2 [ab 2 [0, 0, 0, 0, 0, 0] false 0 (ef 2 2 0 0 [])],
  cd 1 1 false [0, 1, 0, 0, 0, 1] 1 2 2 [ab 2 [0, 0, 0, 0, 0, 0] false 0 (ef 4 1 0 0 [])],
  cd 1 2 false [0, 0, 1, 0, 0, 1] 1 2 2 [ab 3 [0, 0, 0, 0, 0, 0] false 0 (ef 3 1 0 1 [])],
  cd 1 3 false [0, 0, 0, 1, 0, 1] 2 2 2 [ab 1 [0, 0, 0, 1, 0, 0] true 3 (ef 1 1 0 2 [])],
  cd 1 4 false [0, 0, 0, 0, 1, 1] 1 3 2 [ab 1 [0, 0, 0, 0, 1, 0] false 0 (ef 10 1 1 3 [])]]
def cards20 : List (List PD) := [cd 1 0 false [1, 0, 0, 0, 0, 2] 2 2 4 [ab 2 [0, 0, 0, 0, 0, 0] false 0 (ef 2 3 0 0 [])],
  cd 1 1 false [0, 1, 0, 0, 0, 2] 2 2 4 [],
  cd 1 2 false [0, 0, 1, 0, 0, 2] 2 2 4 [ab 3 [0, 0, 0, 0, 0, 0] false 0 (ef 3 2 0 1 [])],
  cd 1 3 false [0, 0, 0, 1, 0, 2] 3 2 4 [ab 1 [0, 0, 0, 1, 0, 0] true 3 (ef 1 1 0 2 [])],
  cd 1 4 false [0, 0, 0, 0, 1, 2] 2 3 4 [ab 1 [0, 0, 0, 0, 1, 0] false 0 (ef 10 1 1 3 [])],
  cd 1 0 false [1, 0, 0, 0, 0, 3] 2 3 8 [ab 2 [0, 0, 0, 0, 0, 0] false 0 (ef 2 4 0 0 [])],
  cd 1 1 false [0, 1, 0, 0, 0, 3] 2 3 8 [ab 2 [0, 0, 0, 0, 0, 0] false 0 (ef 4 1 0 0 [])],
  cd 1 2 false [0, 0, 1, 0, 0, 3] 2 3 8 [ab 3 [0, 0, 0, 0, 0, 0] false 0 (ef 3 2 0 1 [])],
  cd 1 3 false [0, 0, 0, 1, 0, 3] 3 3 8 [ab 1 [0, 0, 0, 1, 0, 0] true 3 (ef 1 1 0 2 [])],
  cd 1 4 false [0, 0, 0, 0, 1, 3] 2 4 8 [ab 1 [0, 0, 0, 0, 1, 0] false 0 (ef 10 1 1 3 [])]]
def cards30 : List (List PD) := [cd 1 0 false [2, 0, 0, 0, 0, 4] 3 3 16 [ab 2 [0, 0, 0, 0, 0, 0] false 0 (ef 2 5 0 0 [])],
  cd 1 1 false [0, 2, 0, 0, 0, 4] 3 3 16 [],
  cd 1 2 false [0, 0, 2, 0, 0, 4] 3 3 16 [ab 3 [0, 0, 0, 0, 0, 0] false 0 (ef 3 3 0 1 [])],
  cd 1 3 false [0, 0, 0, 2, 0, 4] 4 3 16 [ab 1 [0, 0, 0, 1, 0, 0] true 3 (ef 1 1 0 2 [])],
  cd 1 4 false [0, 0, 0, 0, 2, 4] 3 4 16 [ab 1 [0, 0, 0, 0, 1, 0] false 0 (ef 10 1 1 3 [])],
  cd 1 0 false [2, 0, 0, 0, 0, 5] 3 4 32 [ab 2 [0, 0, 0, 0, 0, 0] false 0 (ef 2 6 0 0 [])],
  cd 1 1 false [0, 2, 0, 0, 0, 5] 3 4 32 [ab 2 [0, 0, 0, 0, 0, 0] false 0 (ef 4 1 0 0 [])],
  cd 1 2 false [0, 0, 2, 0, 0, 5] 3 4 32 [ab 3 [0, 0, 0, 0, 0, 0] false 0 (ef 3 3 0 1 [])],
  cd 1 3 false [0, 0, 0, 2, 0, 5] 4 4 32 [ab 1 [0, 0, 0, 1, 0, 0] true 3 (ef 1 1 0 2 [])],
  cd 1 4 false [0, 0, 0, 0, 2, 5] 3 5 32 [ab 1 [0, 0, 0, 0, 1, 0] false 0 (ef 10 1 1 3 [])]]
def cards40 : List (List PD) := [cd 1 0 false [2, 0, 0, 0, 0, 6] 4 4 64 [ab 2 [0, 0, 0, 0, 0, 0] false 0 (ef 2 7 0 0 [])],
  cd 1 1 false [0, 2, 0, 0, 0, 6] 4 4 64 [],
  cd 1 2 false [0, 0, 2, 0, 0, 6] 4 4 64 [ab 3 [0, 0, 0, 0, 0, 0] false 0 (ef 3 4 0 1 [])],
  cd 1 3 false [0, 0, 0, 2, 0, 6] 5 4 64 [ab 1 [0, 0, 0, 1, 0, 0] true 3 (ef 1 1 0 2 [])],
  cd 1 4 false [0, 0, 0, 0, 2, 6] 4 5 64 [ab 1 [0, 0, 0, 0, 1, 0] false 0 (ef 10 1 1 3 [])],
  cd 1 0 false [2, 0, 0, 0, 0, 7] 4 5 128 [ab 2 [0, 0, 0, 0, 0, 0] false 0 (ef 2 8 0 0 [])],
  cd 1 1 false [0, 2, 0, 0, 0, 7] 4 5 128 [ab 2 [0, 0, 0, 0, 0, 0] false 0 (ef 4 1 0 0 [])],
  cd 1 2 false [0, 0, 2, 0, 0, 7] 4 5 128 [ab 3 [0, 0, 0, 0, 0, 0] false 0 (ef 3 4 0 1 [])],
  cd 1 3 false [0, 0, 0, 2, 0, 7] 5 5 128 [ab 1 [0, 0, 0, 1, 0, 0] true 3 (ef 1 1 0 2 [])],
  cd 1 4 false [0, 0, 0, 0, 2, 7] 4 6 128 [ab 1 [0, 0, 0, 0, 1, 0] false 0 (ef 10 1 1 3 [])]]
def cards50 : List (List PD) := [cd 2 0 true [1, 0, 0, 0, 0, 0] 0 0 0 [ab 0 [0, 0, 0, 0, 0, 0] false 0 (ef 2 4 0 0 [])],
  cd 2 1 true [0, 1, 0, 0, 0, 0] 0 0 0 [ab 0 [0, 0, 0, 0, 0, 0] false 4 (ef 9 0 0 2 [])],
  cd 2 2 true [0, 0, 1, 0, 0, 0] 0 0 0 [ab 0 [0, 0, 0, 0, 0, 0] false 1 (ef 10 (-2) (-2) 2 [])],
  cd 2 3 true [0, 0, 0, 1, 0, 0] 0 0 0 [ab 0 [0, 0, 0, 0, 0, 0] false 3 (ef 1 2 0 2 [])],
  cd 2 4 true [0, 0, 0, 0, 1, 0] 0 0 0 [ab 0 [0, 0, 0, 0, 0, 0] false 1 (ef 10 3 3 2 [])],
  cd 2 0 false [1, 0, 0, 0, 0, 1] 0 0 0 [ab 0 [0, 0, 0, 0, 0, 0] false 1 (ef 6 0 0 2 [])],
  cd 2 1 false [0, 1, 0, 0, 0, 1] 0 0 0 [ab 0 [0, 0, 0, 0, 0, 0] false 0 (ef 4 2 0 0 [])],
  cd 2 2 false [0, 0, 1, 0, 0, 1] 0 0 0 [ab 0 [0, 0, 0, 0, 0, 0] false 2 (ef 19 1 0 2 [])],
  cd 2 3 false [0, 0, 0, 1, 0, 1] 0 0 0 [ab 0 [0, 0, 0, 0, 0, 0] false 1 (ef 1 4 0 2 [])],
  cd 2 4 false [0, 0, 0, 0, 1, 1] 0 0 0 [ab 0 [0, 0, 0, 0, 0, 0] false 1 (ef 11 2 0 2 [])]]
def cards60 : List (List PD) := [cd 2 0 true [1, 0, 0, 0, 0, 2] 0 0 0 [ab 0 [0, 0, 0, 0, 0, 0] false 0 (ef 20 1 0 0 [ef 10 1 1 2 []])],
  cd 2 1 true [0, 1, 0, 0, 0, 2] 0 0 0 [ab 0 [0, 0, 0, 0, 0, 0] false 5 (ef 7 0 0 2 [])],
  cd 2 2 true [0, 0, 1, 0, 0, 2] 0 0 0 [ab 0 [0, 0, 0, 0, 0, 0] false 2 (ef 3 3 0 2 [])],
  cd 2 3 true [0, 0, 0, 1, 0, 2] 0 0 0 [ab 0 [0, 0, 0, 0, 0, 0] false 1 (ef 10 3 0 2 [])],
  cd 2 4 true [0, 0, 0, 0, 1, 2] 0 0 0 [ab 0 [0, 0, 0, 0, 0, 0] false 1 (ef 23 64 0 2 [])],
  cd 2 0 false [1, 0, 0, 0, 0, 3] 0 0 0 [ab 0 [0, 0, 0, 0, 0, 0] false 5 (ef 8 0 0 2 [])],
  cd 2 1 false [0, 1, 0, 0, 0, 3] 0 0 0 [ab 0 [0, 0, 0, 0, 0, 0] false 0 (ef 17 3 0 0 [])],
  cd 2 2 false [0, 0, 1, 0, 0, 3] 0 0 0 [ab 0 [0, 0, 0, 0, 0, 0] false 0 (ef 21 0 0 0 [ef 3 2 0 1 [], ef 2 2 0 0 []])],
  cd 2 3 false [0, 0, 0, 1, 0, 3] 0 0 0 [ab 0 [0, 0, 0, 0, 0, 0] false 0 (ef 20 0 0 0 [ef 1 2 0 2 []])],
  cd 2 4 false [0, 0, 0, 0, 1, 3] 0 0 0 [ab 0 [0, 0, 0, 0, 0, 0] false 0 (ef 14 2 116 0 [])]]
def cards70 : List (List PD) := [cd 2 0 true [1, 0, 0, 0, 0, 4] 0 0 0 [ab 0 [0, 0, 0, 0, 0, 0] false 0 (ef 21 0 0 0 [ef 2 2 0 0 [], ef 4 1 0 0 []])],
  cd 2 1 true [0, 1, 0, 0, 0, 4] 0 0 0 [ab 0 [0, 0, 0, 0, 0, 0] false 1 (ef 12 0 0 2 [])],
  cd 2 2 true [0, 0, 1, 0, 0, 4] 0 0 0 [ab 0 [0, 0, 0, 0, 0, 0] false 1 (ef 6 0 0 2 [])],
  cd 2 3 true [0, 0, 0, 1, 0, 4] 0 0 0 [ab 0 [0, 0, 0, 0, 0, 0] false 0 (ef 1 3 0 4 [])],
  cd 2 4 true [0, 0, 0, 0, 1, 4] 0 0 0 [ab 0 [0, 0, 0, 0, 0, 0] false 0 (ef 15 3 4 0 [])],
  cd 2 0 false [1, 0, 0, 0, 0, 5] 0 0 0 [ab 0 [0, 0, 0, 0, 0, 0] false 0 (ef 22 0 10 0 [ef 2 8 0 0 [], ef 4 1 0 0 []])],
  cd 2 1 false [0, 1, 0, 0, 0, 5] 0 0 0 [ab 0 [0, 0, 0, 0, 0, 0] false 0 (ef 21 0 0 0 [ef 4 3 0 0 [], ef 19 1 0 0 []])],
  cd 2 2 false [0, 0, 1, 0, 0, 5] 0 0 0 [ab 0 [0, 0, 0, 0, 0, 0] false 0 (ef 5 4 0 4 [])],
  cd 2 3 false [0, 0, 0, 1, 0, 5] 0 0 0 [ab 0 [0, 0, 0, 0, 0, 0] false 3 (ef 21 0 0 0 [ef 1 2 0 2 [], ef 4 1 0 0 []])],
  cd 2 4 false [0, 0, 0, 0, 1, 5] 0 0 0 [ab 0 [0, 0, 0, 0, 0, 0] false 0 (ef 20 1 0 0 [ef 11 1 0 2 []])]]
def cards80 : List (List PD) := [cd 3 0 false [1, 0, 0, 0, 0, 1] 0 0 0 [ab 5 [0, 0, 0, 0, 0, 0] false 0 (ef 20 1 0 0 [ef 10 0 2 2 []])],
  cd 3 1 false [0, 1, 0, 0, 0, 1] 0 0 0 [ab 5 [0, 0, 0, 0, 0, 0] false 0 (ef 20 1 0 0 [ef 23 1 0 2 []])],
  cd 3 2 false [0, 0, 1, 0, 0, 1] 0 0 0 [ab 5 [0, 0, 0, 0, 0, 0] false 0 (ef 20 2 0 0 [ef 10 (-1) 0 2 []])],
  cd 3 3 false [0, 0, 0, 1, 0, 1] 0 0 0 [ab 5 [0, 0, 0, 0, 0, 0] false 0 (ef 20 1 0 0 [ef 10 1 0 2 []])],
  cd 3 4 false [0, 0, 0, 0, 1, 1] 0 0 0 [ab 5 [0, 0, 0, 0, 0, 0] false 0 (ef 20 1 0 0 [ef 10 1 1 2 []])],
  cd 3 0 false [1, 0, 0, 0, 0, 2] 0 0 0 [ab 4 [0, 0, 0, 0, 0, 0] false 0 (ef 2 1 0 0 [])],
  cd 3 1 false [0, 1, 0, 0, 0, 2] 0 0 0 [ab 4 [0, 0, 0, 0, 0, 0] false 0 (ef 17 1 0 0 [])],
  cd 3 2 false [0, 0, 1, 0, 0, 2] 0 0 0 [ab 4 [0, 0, 0, 0, 0, 0] false 0 (ef 3 1 0 4 [])],
  cd 3 3 false [0, 0, 0, 1, 0, 2] 0 0 0 [ab 4 [0, 0, 0, 0, 0, 0] false 0 (ef 1 1 0 1 [])],
  cd 3 4 false [0, 0, 0, 0, 1, 2] 0 0 0 [ab 4 [0, 0, 0, 0, 0, 0] false 0 (ef 15 1 4 0 [])]]
def cards90 : List (List PD) := [cd 3 0 false [1, 0, 0, 0, 0, 3] 0 0 0 [ab 1 [0, 0, 0, 0, 0, 1] true 1 (ef 10 0 1 2 [])],
  cd 3 1 false [0, 1, 0, 0, 0, 3] 0 0 0 [ab 1 [0, 0, 0, 0, 0, 1] true 1 (ef 12 0 0 2 [])],
  cd 3 2 false [0, 0, 1, 0, 0, 3] 0 0 0 [ab 1 [0, 0, 0, 0, 0, 1] true 0 (ef 3 1 0 1 [])],
  cd 3 3 false [0, 0, 0, 1, 0, 3] 0 0 0 [ab 1 [0, 0, 0, 0, 0, 1] true 3 (ef 1 1 0 2 [])],
  cd 3 4 false [0, 0, 0, 0, 1, 3] 0 0 0 [ab 1 [0, 0, 0, 0, 0, 1] true 1 (ef 13 0 0 2 [])],
  cd 3 0 false [1, 0, 0, 0, 0, 4] 0 0 0 [ab 5 [0, 0, 0, 0, 0, 0] false 0 (ef 20 0 0 0 [ef 25 1 0 2 []])],
  cd 3 1 false [0, 1, 0, 0, 0, 4] 0 0 0 [ab 1 [0, 1, 0, 0, 0, 0] false 0 (ef 13 0 0 3 [])],
  cd 3 2 false [0, 0, 1, 0, 0, 4] 0 0 0 [ab 5 [0, 0, 0, 0, 0, 0] false 0 (ef 20 2 0 0 [ef 24 1 1 2 []])],
  cd 3 3 false [0, 0, 0, 1, 0, 4] 0 0 0 [ab 3 [0, 0, 0, 0, 0, 0] false 0 (ef 1 3 0 4 [])],
  cd 3 4 false [0, 0, 0, 0, 1, 4] 0 0 0 [ab 2 [0, 0, 0, 0, 0, 0] false 0 (ef 14 1 119 0 [])]]
def cards100 : List (List PD) := [cd 2 5 false [0, 0, 0, 0, 0, 1] 0 0 0 [ab 0 [0, 0, 0, 0, 0, 0] false 0 (ef 18 0 0 0 [])],
  cd 2 5 false [0, 0, 0, 0, 0, 2] 0 0 0 [ab 0 [0, 0, 0, 0, 0, 0] false 0 (ef 19 2 0 1 [])],
  cd 2 5 false [0, 0, 0, 0, 0, 1] 0 0 0 [ab 0 [0, 0, 0, 0, 0, 0] false 0 (ef 16 3 0 1 [])],
  cd 2 5 true [0, 0, 0, 0, 0, 1] 0 0 0 [ab 0 [0, 0, 0, 0, 0, 0] false 0 (ef 17 2 0 1 [])],
  cd 2 5 false [0, 0, 0, 0, 0, 2] 0 0 0 [ab 0 [0, 0, 0, 0, 0, 0] false 0 (ef 5 3 0 4 [])],
  cd 2 5 true [0, 0, 0, 0, 0, 3] 0 0 0 [ab 0 [0, 0, 0, 0, 0, 0] false 4 (ef 9 0 0 2 [])],
  cd 2 5 false [0, 0, 0, 0, 0, 2] 0 0 0 [ab 0 [0, 0, 0, 0, 0, 0] false 0 (ef 20 0 0 0 [ef 7 0 0 2 []])],
  cd 3 5 false [0, 0, 0, 0, 0, 2] 0 0 0 [ab 1 [0, 0, 0, 0, 0, 0] false 0 (ef 15 1 5 0 [])],
  cd 1 5 false [0, 0, 0, 0, 0, 2] 1 1 0 [ab 1 [0, 0, 0, 0, 0, 1] false 0 (ef 13 0 0 3 []), ab 6 [0, 0, 0, 0, 0, 0] true 0 (ef 15 2 5 0 [])],
  cd 2 5 false [0, 0, 0, 0, 0, 3] 0 0 0 [ab 0 [0, 0, 0, 0, 0, 0] false 0 (ef 14 2 112 0 [])]]
def cards110 : List (List PD) := [cd 2 5 false [0, 0, 0, 0, 0, 4] 0 0 0 [ab 0 [0, 0, 0, 0, 0, 0] false 0 (ef 20 0 0 0 [ef 6 0 0 2 []])],
  cd 1 5 true [0, 0, 0, 0, 0, 3] 2 3 5 [ab 3 [0, 0, 0, 0, 0, 0] false 0 (ef 4 1 0 0 [])],
  cd 1 5 false [0, 0, 0, 0, 0, 0] 1 1 0 [],
  cd 1 5 false [0, 0, 0, 0, 0, 0] 1 1 1 [],
  cd 1 5 false [0, 0, 0, 0, 0, 0] 2 2 0 [],
  cd 1 5 false [0, 0, 0, 0, 0, 0] 2 2 1 [],
  cd 1 5 false [0, 0, 0, 0, 0, 0] 3 3 0 [],
  cd 1 5 false [0, 0, 0, 0, 0, 0] 3 3 1 [],
  cd 1 5 false [0, 0, 0, 0, 0, 0] 4 4 0 [],
  cd 1 5 false [0, 0, 0, 0, 0, 0] 4 4 1 []]
def cardT : List (List PD) := cards0 ++ cards10 ++ cards20 ++ cards30 ++ cards40 ++ cards50 ++ cards60 ++ cards70 ++ cards80 ++ cards90 ++ cards100 ++ cards110
def cardP (n : Int) : List PD := cardT.getD n.toNat []
def whiteS : List PD := ((ab 0 [0, 0, 0, 0, 0, 0] false 0 (ef 2 4 0 0 []) : List PD) ++ (ab 0 [0, 0, 0, 0, 0, 0] false 1 (ef 6 0 0 2 []) : List PD) ++ (ab 0 [0, 0, 0, 0, 0, 0] false 0 (ef 20 1 0 0 [ef 10 1 1 2 []]) : List PD) ++ (ab 0 [0, 0, 0, 0, 0, 0] false 5 (ef 8 0 0 2 []) : List PD) ++ (ab 0 [0, 0, 0, 0, 0, 0] false 0 (ef 21 0 0 0 [ef 2 2 0 0 [], ef 4 1 0 0 []]) : List PD) ++ (ab 0 [0, 0, 0, 0, 0, 0] false 0 (ef 22 0 10 0 [ef 2 8 0 0 [], ef 4 1 0 0 []]) : List PD))
def whiteR : List PD := ((ab 5 [0, 0, 0, 0, 0, 0] false 0 (ef 20 1 0 0 [ef 10 0 2 2 []]) : List PD) ++ (ab 4 [0, 0, 0, 0, 0, 0] false 0 (ef 2 1 0 0 []) : List PD) ++ (ab 1 [0, 0, 0, 0, 0, 1] true 1 (ef 10 0 1 2 []) : List PD) ++ (ab 5 [0, 0, 0, 0, 0, 0] false 0 (ef 20 0 0 0 [ef 25 1 0 2 []]) : List PD))
def blueS : List PD := ((ab 0 [0, 0, 0, 0, 0, 0] false 4 (ef 9 0 0 2 []) : List PD) ++ (ab 0 [0, 0, 0, 0, 0, 0] false 0 (ef 4 2 0 0 []) : List PD) ++ (ab 0 [0, 0, 0, 0, 0, 0] false 5 (ef 7 0 0 2 []) : List PD) ++ (ab 0 [0, 0, 0, 0, 0, 0] false 0 (ef 17 3 0 0 []) : List PD) ++ (ab 0 [0, 0, 0, 0, 0, 0] false 1 (ef 12 0 0 2 []) : List PD) ++ (ab 0 [0, 0, 0, 0, 0, 0] false 0 (ef 21 0 0 0 [ef 4 3 0 0 [], ef 19 1 0 0 []]) : List PD))
def blueR : List PD := ((ab 5 [0, 0, 0, 0, 0, 0] false 0 (ef 20 1 0 0 [ef 23 1 0 2 []]) : List PD) ++ (ab 4 [0, 0, 0, 0, 0, 0] false 0 (ef 17 1 0 0 []) : List PD) ++ (ab 1 [0, 0, 0, 0, 0, 1] true 1 (ef 12 0 0 2 []) : List PD) ++ (ab 1 [0, 1, 0, 0, 0, 0] false 0 (ef 13 0 0 3 []) : List PD))
def blackS : List PD := ((ab 0 [0, 0, 0, 0, 0, 0] false 1 (ef 10 (-2) (-2) 2 []) : List PD) ++ (ab 0 [0, 0, 0, 0, 0, 0] false 2 (ef 19 1 0 2 []) : List PD) ++ (ab 0 [0, 0, 0, 0, 0, 0] false 2 (ef 3 3 0 2 []) : List PD) ++ (ab 0 [0, 0, 0, 0, 0, 0] false 0 (ef 21 0 0 0 [ef 3 2 0 1 [], ef 2 2 0 0 []]) : List PD) ++ (ab 0 [0, 0, 0, 0, 0, 0] false 1 (ef 6 0 0 2 []) : List PD) ++ (ab 0 [0, 0, 0, 0, 0, 0] false 0 (ef 5 4 0 4 []) : List PD))
def blackR : List PD := ((ab 5 [0, 0, 0, 0, 0, 0] false 0 (ef 20 2 0 0 [ef 10 (-1) 0 2 []]) : List PD) ++ (ab 4 [0, 0, 0, 0, 0, 0] false 0 (ef 3 1 0 4 []) : List PD) ++ (ab 1 [0, 0, 0, 0, 0, 1] true 0 (ef 3 1 0 1 []) : List PD) ++ (ab 5 [0, 0, 0, 0, 0, 0] false 0 (ef 20 2 0 0 [ef 24 1 1 2 []]) : List PD))
def redS : List PD := ((ab 0 [0, 0, 0, 0, 0, 0] false 3 (ef 1 2 0 2 []) : List PD) ++ (ab 0 [0, 0, 0, 0, 0, 0] false 1 (ef 1 4 0 2 []) : List PD) ++ (ab 0 [0, 0, 0, 0, 0, 0] false 1 (ef 10 3 0 2 []) : List PD) ++ (ab 0 [0, 0, 0, 0, 0, 0] false 0 (ef 20 0 0 0 [ef 1 2 0 2 []]) : List PD) ++ (ab 0 [0, 0, 0, 0, 0, 0] false 0 (ef 1 3 0 4 []) : List PD) ++ (ab 0 [0, 0, 0, 0, 0, 0] false 3 (ef 21 0 0 0 [ef 1 2 0 2 [], ef 4 1 0 0 []]) : List PD))
def redR : List PD := ((ab 5 [0, 0, 0, 0, 0, 0] false 0 (ef 20 1 0 0 [ef 10 1 0 2 []]) : List PD) ++ (ab 4 [0, 0, 0, 0, 0, 0] false 0 (ef 1 1 0 1 []) : List PD) ++ (ab 1 [0, 0, 0, 0, 0, 1] true 3 (ef 1 1 0 2 []) : List PD) ++ (ab 3 [0, 0, 0, 0, 0, 0] false 0 (ef 1 3 0 4 []) : List PD))
def greenS : List PD := ((ab 0 [0, 0, 0, 0, 0, 0] false 1 (ef 10 3 3 2 []) : List PD) ++ (ab 0 [0, 0, 0, 0, 0, 0] false 1 (ef 11 2 0 2 []) : List PD) ++ (ab 0 [0, 0, 0, 0, 0, 0] false 1 (ef 23 64 0 2 []) : List PD) ++ (ab 0 [0, 0, 0, 0, 0, 0] false 0 (ef 14 2 116 0 []) : List PD) ++ (ab 0 [0, 0, 0, 0, 0, 0] false 0 (ef 15 3 4 0 []) : List PD) ++ (ab 0 [0, 0, 0, 0, 0, 0] false 0 (ef 20 1 0 0 [ef 11 1 0 2 []]) : List PD))
def greenR : List PD := ((ab 5 [0, 0, 0, 0, 0, 0] false 0 (ef 20 1 0 0 [ef 10 1 1 2 []]) : List PD) ++ (ab 4 [0, 0, 0, 0, 0, 0] false 0 (ef 15 1 4 0 []) : List PD) ++ (ab 1 [0, 0, 0, 0, 0, 1] true 1 (ef 13 0 0 2 []) : List PD) ++ (ab 2 [0, 0, 0, 0, 0, 0] false 0 (ef 14 1 119 0 []) : List PD))
def earlyP : List (List PD) := [cd 2 5 false [0, 0, 0, 0, 0, 1] 0 0 0 [ab 0 [0, 0, 0, 0, 0, 0] false 0 (ef 18 0 0 0 [])],
  cd 2 5 false [0, 0, 0, 0, 0, 2] 0 0 0 [ab 0 [0, 0, 0, 0, 0, 0] false 0 (ef 19 2 0 1 [])],
  cd 2 5 false [0, 0, 0, 0, 0, 1] 0 0 0 [ab 0 [0, 0, 0, 0, 0, 0] false 0 (ef 16 3 0 1 [])],
  cd 2 5 true [0, 0, 0, 0, 0, 1] 0 0 0 [ab 0 [0, 0, 0, 0, 0, 0] false 0 (ef 17 2 0 1 [])],
  cd 2 5 false [0, 0, 0, 0, 0, 2] 0 0 0 [ab 0 [0, 0, 0, 0, 0, 0] false 0 (ef 5 3 0 4 [])],
  cd 2 5 true [0, 0, 0, 0, 0, 3] 0 0 0 [ab 0 [0, 0, 0, 0, 0, 0] false 4 (ef 9 0 0 2 [])]]
def lateP : List (List PD) := [cd 2 5 false [0, 0, 0, 0, 0, 2] 0 0 0 [ab 0 [0, 0, 0, 0, 0, 0] false 0 (ef 20 0 0 0 [ef 7 0 0 2 []])],
  cd 3 5 false [0, 0, 0, 0, 0, 2] 0 0 0 [ab 1 [0, 0, 0, 0, 0, 0] false 0 (ef 15 1 5 0 [])],
  cd 1 5 false [0, 0, 0, 0, 0, 2] 0 0 0 [ab 1 [0, 0, 0, 0, 0, 1] false 0 (ef 13 0 0 3 [])],
  cd 2 5 false [0, 0, 0, 0, 0, 3] 0 0 0 [ab 0 [0, 0, 0, 0, 0, 0] false 0 (ef 14 2 112 0 [])],
  cd 2 5 false [0, 0, 0, 0, 0, 4] 0 0 0 [ab 0 [0, 0, 0, 0, 0, 0] false 0 (ef 20 0 0 0 [ef 6 0 0 2 []])],
  cd 1 5 true [0, 0, 0, 0, 0, 3] 0 0 0 [ab 3 [0, 0, 0, 0, 0, 0] false 0 (ef 4 1 0 0 [])]]
end Go.Proofs.YtcigbgpdikadpaaDoor
end

section
namespace Go.Proofs.YtcigbgpdikadpaaDoor
open Go.RowKit
set_option linter.unusedVariables false
set_option linter.unusedSimpArgs false

def k_tcost : Nat := 20
def sg_tcost : Sig := ⟨[(false, [.int .i64]), (false, [.int .i64]), (false, [.int .i64])], [(true, List.replicate 6 (.int .i64))], false, true, true, false, false, [], [], none⟩
def tr_tcost : Tree := (.ob (.cmp .ge (.var 0) (.int .i64 0))
(.ob (.cmp .lt (.var 0) (.int .i64 6))
(.ret [(.ite (.cmp .eq (.var 0) (.int .i64 0)) (.var 1) (.int .i64 0)), (.ite (.cmp .eq (.var 0) (.int .i64 1)) (.var 1) (.int .i64 0)), (.ite (.cmp .eq (.var 0) (.int .i64 2)) (.var 1) (.int .i64 0)), (.ite (.cmp .eq (.var 0) (.int .i64 3)) (.var 1) (.int .i64 0)), (.ite (.cmp .eq (.var 0) (.int .i64 4)) (.var 1) (.int .i64 0)), (.ar .add .i64 (.ite (.cmp .eq (.var 0) (.int .i64 5)) (.var 1) (.int .i64 0)) (.var 2))])))
theorem wk_tcost : walk E0.cx (sgsN []) 0 20 sg_tcost = tr_tcost := by kernel_rfl
theorem bo_tcost : ∃ x, bodyOf E0.P 20 = some x := bo_of (by kernel_rfl)
noncomputable def tcost_g : List PD → Option (List PD) := fun ps => evL E0.Δ (pfun []) 0 [] tr_tcost ps
def tcost_s : Spec := psp tcost_g
theorem tcost_h : Holds E0 k_tcost sg_tcost tcost_s := con_ev wf0 mix0 g0 [] rfl wk_tcost rfl (fits_nil) 0
noncomputable def con_tcost : Con E0 := ⟨k_tcost, sg_tcost, tcost_s, rfl, bo_tcost, tcost_h⟩
def k_tmana : Nat := 25
def sg_tmana : Sig := ⟨[(false, [.int .i64]), (false, [.int .i64])], [(true, List.replicate 7 (.int .i64) ++ [.bool] ++ List.replicate 5 (.int .i64) ++ [.list 37])], false, false, true, false, false, [], [], none⟩
def tr_tmana : Tree := (.ret [(.int .i64 6), (.int .i64 0), (.int .i64 0), (.int .i64 0), (.int .i64 0), (.int .i64 0), (.int .i64 0), (.bool true), (.int .i64 0), (.int .i64 15), (.var 0), (.var 1), (.int .i64 0), (.nil 37)])
theorem wk_tmana : walk E0.cx (sgsN []) 0 25 sg_tmana = tr_tmana := by kernel_rfl
theorem bo_tmana : ∃ x, bodyOf E0.P 25 = some x := bo_of (by kernel_rfl)
noncomputable def tmana_g : List PD → Option (List PD) := fun ps => evL E0.Δ (pfun []) 0 [] tr_tmana ps
def tmana_s : Spec := psp tmana_g
theorem tmana_h : Holds E0 k_tmana sg_tmana tmana_s := con_ev wf0 mix0 g0 [] rfl wk_tmana rfl (fits_nil) 0
noncomputable def con_tmana : Con E0 := ⟨k_tmana, sg_tmana, tmana_s, rfl, bo_tmana, tmana_h⟩
def k_tevery : Nat := 43
def sg_tevery : Sig := ⟨[(false, [.int .i64]), (false, [.int .i64]), (false, [.int .i64]), (false, [.int .i64])], [(true, List.replicate 4 (.int .i64) ++ [.list 37])], false, false, true, false, false, [], [], none⟩
def tr_tevery : Tree := (.share 37 (.push .emp (.econs (.var 1) (.econs (.var 2) (.econs (.var 3) (.econs (.int .i64 2) (.econs (.nil 37) .enil))))))
(.ret [(.int .i64 20), (.var 0), (.int .i64 0), (.int .i64 0), (.var 4)]))
theorem wk_tevery : walk E0.cx (sgsN []) 0 43 sg_tevery = tr_tevery := by kernel_rfl
theorem bo_tevery : ∃ x, bodyOf E0.P 43 = some x := bo_of (by kernel_rfl)
noncomputable def tevery_g : List PD → Option (List PD) := fun ps => evL E0.Δ (pfun []) 0 [] tr_tevery ps
def tevery_s : Spec := psp tevery_g
theorem tevery_h : Holds E0 k_tevery sg_tevery tevery_s := con_ev wf0 mix0 g0 [] rfl wk_tevery rfl (fits_nil) 0
noncomputable def con_tevery : Con E0 := ⟨k_tevery, sg_tevery, tevery_s, rfl, bo_tevery, tevery_h⟩
def k_tdo : Nat := 27
def sg_tdo : Sig := ⟨[(false, [.int .i64]), (false, [.int .i64]), (false, [.int .i64]), (false, [.int .i64])], [(true, List.replicate 4 (.int .i64) ++ [.list 37])], false, false, true, false, false, [], [], none⟩
def tr_tdo : Tree := (.ret [(.var 0), (.var 1), (.var 2), (.var 3), (.nil 37)])
theorem wk_tdo : walk E0.cx (sgsN []) 0 27 sg_tdo = tr_tdo := by kernel_rfl
theorem bo_tdo : ∃ x, bodyOf E0.P 27 = some x := bo_of (by kernel_rfl)
noncomputable def tdo_g : List PD → Option (List PD) := fun ps => evL E0.Δ (pfun []) 0 [] tr_tdo ps
def tdo_s : Spec := psp tdo_g
theorem tdo_h : Holds E0 k_tdo sg_tdo tdo_s := con_ev wf0 mix0 g0 [] rfl wk_tdo rfl (fits_nil) 0
noncomputable def con_tdo : Con E0 := ⟨k_tdo, sg_tdo, tdo_s, rfl, bo_tdo, tdo_h⟩
def k_twhen : Nat := 26
def sg_twhen : Sig := ⟨[(false, [.int .i64]), (true, List.replicate 4 (.int .i64) ++ [.list 37])], [(true, List.replicate 7 (.int .i64) ++ [.bool] ++ List.replicate 5 (.int .i64) ++ [.list 37])], false, false, true, false, false, [], [], none⟩
def tr_twhen : Tree := (.ret [(.var 0), (.int .i64 0), (.int .i64 0), (.int .i64 0), (.int .i64 0), (.int .i64 0), (.int .i64 0), (.bool false), (.int .i64 0), (.var 1), (.var 2), (.var 3), (.var 4), (.var 5)])
theorem wk_twhen : walk E0.cx (sgsN []) 0 26 sg_twhen = tr_twhen := by kernel_rfl
theorem bo_twhen : ∃ x, bodyOf E0.P 26 = some x := bo_of (by kernel_rfl)
noncomputable def twhen_g : List PD → Option (List PD) := fun ps => evL E0.Δ (pfun []) 0 [] tr_twhen ps
def twhen_s : Spec := psp twhen_g
theorem twhen_h : Holds E0 k_twhen sg_twhen twhen_s := con_ev wf0 mix0 g0 [] rfl wk_twhen rfl (fits_nil) 0
noncomputable def con_twhen : Con E0 := ⟨k_twhen, sg_twhen, twhen_s, rfl, bo_twhen, twhen_h⟩
def k_tactive : Nat := 28
def sg_tactive : Sig := ⟨[(true, List.replicate 6 (.int .i64)), (false, [.bool]), (false, [.int .i64]), (true, List.replicate 4 (.int .i64) ++ [.list 37])], [(true, List.replicate 7 (.int .i64) ++ [.bool] ++ List.replicate 5 (.int .i64) ++ [.list 37])], false, false, true, false, false, [], [], none⟩
def tr_tactive : Tree := (.ret [(.int .i64 1), (.var 0), (.var 1), (.var 2), (.var 3), (.var 4), (.var 5), (.var 6), (.var 7), (.var 8), (.var 9), (.var 10), (.var 11), (.var 12)])
theorem wk_tactive : walk E0.cx (sgsN []) 0 28 sg_tactive = tr_tactive := by kernel_rfl
theorem bo_tactive : ∃ x, bodyOf E0.P 28 = some x := bo_of (by kernel_rfl)
noncomputable def tactive_g : List PD → Option (List PD) := fun ps => evL E0.Δ (pfun []) 0 [] tr_tactive ps
def tactive_s : Spec := psp tactive_g
theorem tactive_h : Holds E0 k_tactive sg_tactive tactive_s := con_ev wf0 mix0 g0 [] rfl wk_tactive rfl (fits_nil) 0
noncomputable def con_tactive : Con E0 := ⟨k_tactive, sg_tactive, tactive_s, rfl, bo_tactive, tactive_h⟩
end Go.Proofs.YtcigbgpdikadpaaDoor
end
