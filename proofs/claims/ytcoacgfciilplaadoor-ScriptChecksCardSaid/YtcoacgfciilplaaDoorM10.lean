import Derived.Test.YtcoacgfciilplaaDoorM9
import Derived.Test.YtcoacgfciilplaaDoorM0
import Derived.WalkKit
import Derived.Maps.OwnOps
import Derived.Maps.OwnSet
import Derived.Maps.RangeWalk
import Derived.Test.YtcoacgfciilplaaDoorM7
import Derived.WalkSpells
import Derived.Lib.SliceRun
import Derived.Lib.Zigzag
import Derived.OwnWalk

set_option linter.unusedVariables false
set_option linter.unusedSimpArgs false

section
namespace Go.Proofs.YtcoacgfciilplaaDoor
open Go.RowKit
set_option linter.unusedVariables false
set_option linter.unusedSimpArgs false

/-- a contract of a function that calls itself: by what gets less -/
theorem holds_rec {E : Env} {f : FuncId} {sg : Sig} {Φ : Spec} (m : List Dat → Nat)
    (step : ∀ n, Holds E f sg (fun ds Q => m ds < n ∧ Φ ds Q) → Holds E f sg (fun ds Q => m ds < n + 1 ∧ Φ ds Q)) : Holds E f sg Φ := by
  have all : ∀ n, Holds E f sg (fun ds Q => m ds < n ∧ Φ ds Q) := by
    intro n
    induction n with
    | zero => intro w ds Q _ _ _ _ h; exact absurd h.1 (Nat.not_lt_zero _)
    | succ n ih => exact step n ih
  intro w ds Q h1 h2 h3 h4 h5
  exact all (m ds + 1) w ds Q h1 h2 h3 h4 ⟨Nat.lt_succ_self _, h5⟩

/-- .. its callees' contracts behind a name -/
theorem con_fn {E : Env} (hW : E.Wf) (hmix : E.P.follows .mixedOrders = true) (hγ : E.γ = []) (T : List (Con E)) {ns : List (Nat × Sig)} (hn : names T = ns) {f : Nat} {sg : Sig} {tr : Tree} (hT : walk E.cx (sgsN ns) 0 f sg = tr) (hsg : sg.ok = true) {Ψ : Spec}
    (h : ∀ Φ : Nat → Spec, Φ = specC T → ∀ ds Q, All2 (Has E.Δ) (Sig.sorts sg.params) ds → Ψ ds Q → wp E.Δ Φ Q tr ds []) : Holds E f sg Ψ :=
  con_by hW hmix hγ T hn hT hsg (h _ rfl)

/-- a slice that is nil has nothing -/
def NilOk (d : Dat) : Prop := isNilI d = true → d.xs = []
theorem nilOk {d : Dat} {w : World} (ho : OkD w d) : NilOk d := fun hn => by
  cases ho with
  | list v sz xs hr _ =>
    obtain ⟨A, c, rfl, hc, hlen, ha⟩ := hr
    cases A with
    | some a => cases hn
    | none =>
      cases xs with
      | nil => rfl
      | cons x xs =>
        obtain ⟨ad, e, _⟩ := ha (by simp)
        cases e
  | rows xs _ => cases hn
  | _ => rfl
theorem con_fnN {E : Env} (hW : E.Wf) (hmix : E.P.follows .mixedOrders = true) (hγ : E.γ = []) (T : List (Con E)) {ns : List (Nat × Sig)} (hn : names T = ns) {f : Nat} {sg : Sig} {tr : Tree} (hT : walk E.cx (sgsN ns) 0 f sg = tr) (hsg : sg.ok = true) {Ψ : Spec}
    (h : ∀ Φ : Nat → Spec, Φ = specC T → ∀ ds Q, All2 (Has E.Δ) (Sig.sorts sg.params) ds → (∀ d ∈ ds, NilOk d) → Ψ ds Q → wp E.Δ Φ Q tr ds []) : Holds E f sg Ψ := fun w ds Q h1 h2 h3 h4 h5 =>
  con_fn hW hmix hγ T hn hT hsg (Ψ := fun ds Q => (∀ d ∈ ds, NilOk d) ∧ Ψ ds Q) (fun Φ hΦ ds Q hs hq => h Φ hΦ ds Q hs hq.1 hq.2) w ds Q h1 h2 h3 h4 ⟨fun d hd => nilOk (h2 d hd), h5⟩
theorem take_succ_getD {α : Type} {l : List α} {i : Nat} {d : α} (h : i < l.length) : l.take (i + 1) = l.take i ++ [l.getD i d] := by
  rw [List.getD_eq_getElem?_getD, List.getElem?_eq_getElem h, List.take_add_one, List.getElem?_eq_getElem h]; rfl
theorem drop_getD {α : Type} {l : List α} {i : Nat} {d : α} (h : i < l.length) : l.drop i = l.getD i d :: l.drop (i + 1) := by
  rw [List.getD_eq_getElem?_getD, List.getElem?_eq_getElem h, List.drop_eq_getElem_cons h]; rfl
theorem getD_memL {α : Type} {l : List α} {i : Nat} {d : α} (h : i < l.length) : l.getD i d ∈ l := by
  rw [List.getD_eq_getElem?_getD, List.getElem?_eq_getElem h]; exact List.getElem_mem h
theorem argV {Δ : Tab} {k : IntKind} {ds : List Dat} {i : Nat} (h : Has Δ (.int k) (ds.getD i (.bool false))) : ds.getD i (.bool false) = .int k (argI ds i) := by
  rw [← argI_fold]; exact has_int h
theorem den_ite (Δ : Tab) (ρ : List Dat) (c a b : Tm) : den Δ ρ (.ite c a b) = if (den Δ ρ c).toBool then den Δ ρ a else den Δ ρ b := rfl
theorem argI_c0 {d : Dat} {l : List Dat} : argI (d :: l) 0 = d.toInt := rfl
theorem argI_c1 {d : Dat} {l : List Dat} {n : Nat} : argI (d :: l) (n + 1) = argI l n := rfl
theorem argL_c0 {d : Dat} {l : List Dat} : argL (d :: l) 0 = d.xs := rfl
theorem argL_c1 {d : Dat} {l : List Dat} {n : Nat} : argL (d :: l) (n + 1) = argL l n := rfl
theorem xs_cutD {Δ : Tab} {r : Nat} {d : Dat} {l h : Nat} (hd : Has Δ (.list r) d) (h1 : l ≤ h) (h2 : h ≤ d.xs.length) : (cutD l h d).xs = (d.xs.take h).drop l := by
  cases hd with
  | list _ A n c xs hl hh =>
    have hall : xs.all (fun r' => r'.length == (Δ.row r).length) = true := List.all_eq_true.2 fun row hr => by simpa using hl row hr
    simp only [cutD]
    rw [if_pos ⟨h1, h2, hall⟩]
    rfl
theorem den_or (Δ : Tab) (ρ : List Dat) (a b : Tm) : den Δ ρ (.or a b) = .bool ((den Δ ρ a).toBool || (den Δ ρ b).toBool) := rfl
theorem den_conv (Δ : Tab) (ρ : List Dat) (k : IntKind) (a : Tm) : den Δ ρ (.conv k a) = .int k (k.wrap (den Δ ρ a).toInt) := rfl
theorem den_cutT (Δ : Tab) (ρ : List Dat) (a l h : Tm) : den Δ ρ (.cut a l h) = cutD (den Δ ρ l).toInt.toNat (den Δ ρ h).toInt.toNat (den Δ ρ a) := rfl
theorem ite_datb (c : Prop) [Decidable c] (a b : Bool) : (if c then Dat.bool a else Dat.bool b) = Dat.bool (if c then a else b) := by split <;> rfl
theorem ite_dati (k : IntKind) (c : Prop) [Decidable c] (a b : Int) : (if c then Dat.int k a else Dat.int k b) = Dat.int k (if c then a else b) := by split <;> rfl
theorem toInt_ite (c : Prop) [Decidable c] (a b : Dat) : (if c then a else b).toInt = if c then a.toInt else b.toInt := by split <;> rfl
theorem toBool_ite (c : Prop) [Decidable c] (a b : Dat) : (if c then a else b).toBool = if c then a.toBool else b.toBool := by split <;> rfl
theorem argI_row {r e : List Dat} {i k : Nat} (h : r.length = k) (hk : k ≤ i) : argI (r ++ e) i = argI e (i - k) := by
  subst h
  simp [argI, List.getD_eq_getElem?_getD, List.getElem?_append_right hk]
theorem argI_0 {d : Dat} {l : List Dat} : argI (d :: l) 0 = d.toInt := rfl
theorem argI_1 {a d : Dat} {l : List Dat} : argI (a :: d :: l) 1 = d.toInt := rfl
def errV (n : Int) : Dat := if n = 0 then .val .nilIface else .val (.iface 58 (.int .i64 n))
theorem errV_nil (n : Int) : isNilI (errV n) = decide (n = 0) := by
  unfold errV
  by_cases h : n = 0
  · rw [if_pos h, decide_eq_true h]; rfl
  · rw [if_neg h, decide_eq_false h]; rfl
theorem errV_0 : errV 0 = .val .nilIface := rfl
theorem errV_n {n : Int} (h : n ≠ 0) : errV n = .val (.iface 58 (.int .i64 n)) := if_neg h
def k_Num : Nat := 10
def sg_Num : Sig := ⟨[(false, [.err])], [(false, [.int .i64])], false, false, false, false, false⟩
def tr_Num : Tree := (.ite (.isnil (.var 0))
 (.ret [(.int .i64 0)])
 (.ite (.cmp .ne (.errI (.var 0)) (.int .i64 0))
  (.ret [(.errI (.var 0))])
  (.ret [(.int .i64 (-1))])))
theorem wk_Num : walk E0.cx (sgsN []) 0 10 sg_Num = tr_Num := by kernel_rfl
theorem bo_Num : ∃ x, bodyOf E0.P 10 = some x := bo_of (by kernel_rfl)
def Num_s : Spec := fun ds Q => ∃ n : Int, ds = [errV n] ∧ Q [.int .i64 n]
theorem Num_h : Holds E0 k_Num sg_Num Num_s := con_by wf0 mix0 g0 [] rfl wk_Num rfl (by
  intro ds Q hs ⟨n, e, h⟩
  subst e
  simp only [tr_Num, wp, den_int, den_bool, den_nili, den_ar, den_cmp, den_not, den_len, den_elem, den_isnil, den_errI, den_ifc, den_rep, den_push, den_app, den_emp, den_upd, row0_econs, row0_enil, den_and, den_beq, den_nil, toInt_int, toBool_bool, xs_rows, xs_list, dflt_int, dflt_bool, of_eq, of_ne, of_lt, of_le, of_gt, of_ge, of_add, of_sub, of_rem, List.map_cons, List.map_nil, Dat.bool.injEq, decide_eq_true_eq, decide_eq_false_iff_not, Bool.not_eq_true', Bool.not_eq_false', beq_iff_eq, bne_iff_ne, beq_eq_false_iff_ne, bne_eq_false_iff_eq, ne_eq, List.append_assoc, List.cons_append, List.nil_append, den_var0, List.getD_cons_zero]
  by_cases hn : n = 0
  · subst hn
    exact ⟨fun _ => h, fun hx => Bool.noConfusion hx⟩
  · simp only [errV, if_neg hn, errN]
    exact ⟨fun hx => Bool.noConfusion hx, fun _ => ⟨fun _ => h, fun hx => absurd hx hn⟩⟩)
noncomputable def con_Num : Con E0 := ⟨k_Num, sg_Num, Num_s, rfl, bo_Num, Num_h⟩
def true_s : Spec := fun ds Q => Q [.bool true]
end Go.Proofs.YtcoacgfciilplaaDoor
end

section
namespace Go.Proofs.YtcoacgfciilplaaDoor
open Go.RowKit
set_option linter.unusedVariables false
set_option linter.unusedSimpArgs false

/-- the numbers of rows of one cell -/
def nums (l : List (List Dat)) : List Int := l.map fun r => rowI r 0
theorem nums_len (l : List (List Dat)) : (nums l).length = l.length := List.length_map _
theorem nums_get {l : List (List Dat)} {i : Nat} (h : i < l.length) : (nums l)[i]? = some (rowI (l.getD i []) 0) := by
  rw [nums, List.getElem?_map, List.getD_eq_getElem?_getD, List.getElem?_eq_getElem h]; rfl
/-- the same numbers -/
def Ints_s : Spec := fun ds Q => (argL ds 0).length ≤ 1000000 ∧ Q [.bool (decide (nums (argL ds 0) = nums (argL ds 1)))]
def k_Ints : Nat := 32
def sg_Ints : Sig := ⟨[(false, [.list 3]), (false, [.list 3])], [(false, [.bool])], false, false, false, false, false⟩
def tr_Ints : Tree := (.ite (.cmp .ne (.len (.var 0)) (.len (.var 1)))
 (.ret [(.bool false)])
 (.loop [(.bool false), (.int .i64 0)] [.bool, (.int .i64)]
  (.ite (.cmp .lt (.var 3) (.len (.var 0)))
   (.ob (.cmp .ge (.var 3) (.int .i64 0))
   (.ob (.cmp .ge (.var 3) (.int .i64 0))
   (.ob (.cmp .lt (.var 3) (.len (.var 1)))
   (.ite (.cmp .ne (.elem (.var 0) (.var 3) 0 (.int .i64)) (.elem (.var 1) (.var 3) 0 (.int .i64)))
    (.ret [(.bool false)])
    (.again 0 [(.var 2), (.ar .add .i64 (.var 3) (.int .i64 1))])))))
   (.ret [(.bool true)]))))
theorem wk_Ints : walk E0.cx (sgsN []) 0 32 sg_Ints = tr_Ints := by kernel_rfl
theorem bo_Ints : ∃ x, bodyOf E0.P 32 = some x := bo_of (by kernel_rfl)
theorem Ints_h : Holds E0 k_Ints sg_Ints Ints_s := con_fn wf0 mix0 g0 [] rfl wk_Ints rfl (by
  intro Φ hΦ ds Q hs ⟨hlen, h⟩
  have hl : ds.length = 2 := hs.length.symm
  clear hΦ
  simp only [tr_Ints, wp, den_int, den_bool, den_nili, den_ar, den_cmp, den_not, den_len, den_elem, den_isnil, den_errI, den_ifc, den_rep, den_push, den_app, den_emp, den_upd, row0_econs, row0_enil, den_and, den_beq, den_nil, toInt_int, toBool_bool, xs_rows, xs_list, dflt_int, dflt_bool, of_eq, of_ne, of_lt, of_le, of_gt, of_ge, of_add, of_sub, of_rem, List.map_cons, List.map_nil, Dat.bool.injEq, decide_eq_true_eq, decide_eq_false_iff_not, Bool.not_eq_true', Bool.not_eq_false', beq_iff_eq, bne_iff_ne, beq_eq_false_iff_ne, bne_eq_false_iff_eq, ne_eq, List.append_assoc, List.cons_append, List.nil_append, allS, @den_var0 E0.Δ ds, den_varA, den_varB, hl, Nat.reduceLT, Nat.reduceLeDiff, Nat.reduceSub, List.getD_cons_zero, List.getD_cons_succ, argL_fold ds, argI_fold ds, List.append_assoc, List.cons_append, List.nil_append, toInt_int, toBool_bool, xs_rows, xs_list, Int.toNat_natCast, Dat.bool.injEq]
  have fin : ∀ b : Bool, (b = true ↔ nums (argL ds 0) = nums (argL ds 1)) → Q [.bool b] := fun b hb => by
    rw [show b = decide (nums (argL ds 0) = nums (argL ds 1)) by rw [Bool.eq_iff_iff, hb, decide_eq_true_eq]]
    exact h
  refine ⟨fun hne => fin _ ⟨fun hx => Bool.noConfusion hx, fun he => ?_⟩, fun hne => ?_⟩
  · have := congrArg List.length he
    rw [nums_len, nums_len] at this
    omega
  have hll : (argL ds 0).length = (argL ds 1).length := by omega
  refine ⟨fun xs m => ∃ (i : Nat) (b : Bool), i ≤ (argL ds 0).length ∧ m = (argL ds 0).length - i ∧ xs = [.bool b, .int .i64 i] ∧ ∀ k < i, (nums (argL ds 0))[k]? = (nums (argL ds 1))[k]?, ⟨_, 0, _, by omega, rfl, rfl, by omega⟩, ?_⟩
  rintro b i' m ⟨i, _, hi, hmi, e, hall⟩
  cases e
  refine ⟨fun hlt => ⟨by omega, by omega, by omega, fun h9 => fin _ ⟨fun hx => Bool.noConfusion hx, fun he => ?_⟩, fun h9 => ?_⟩, fun hge => fin _ ⟨fun _ => ?_, fun _ => rfl⟩⟩
  · have hi2 : i < (argL ds 0).length := by omega
    have h1 := nums_get hi2
    have h2 := nums_get (l := argL ds 1) (i := i) (by omega)
    rw [he, h2] at h1
    exact absurd (Option.some.inj h1).symm h9
  · have hi2 : i < (argL ds 0).length := by omega
    refine ⟨(argL ds 0).length - (i + 1), by omega, i + 1, b, by omega, by omega, ?_, fun k hk => ?_⟩
    · rw [wrap64 (by omega) (by omega)]; rfl
    · rcases Nat.lt_succ_iff_lt_or_eq.1 hk with hk | rfl
      · exact hall k hk
      · rw [nums_get hi2, nums_get (l := argL ds 1) (by omega)]
        exact congrArg some h9
  · refine List.ext_getElem? fun k => ?_
    by_cases hk : k < i
    · exact hall k hk
    · rw [List.getElem?_eq_none (by rw [nums_len]; omega), List.getElem?_eq_none (by rw [nums_len]; omega)])
noncomputable def con_Ints : Con E0 := ⟨k_Ints, sg_Ints, Ints_s, rfl, bo_Ints, Ints_h⟩
end Go.Proofs.YtcoacgfciilplaaDoor
end

section
namespace Go.Proofs.YtcoacgfciilplaaDoor
open Go.RowKit Go.Maps
set_option linter.unusedVariables false
set_option linter.unusedSimpArgs false

namespace dk
abbrev TM : TypeId := 80
abbrev TI : TypeId := 3
theorem keyI : Keyed Tryd.prog TI := int_keyed Tryd.underlying3
theorem zeroI (w : World) : (zeroValue TI).run Tryd.prog w = .ok (.int .i64 0) w := by kernel_rfl
theorem at_cell9 {w wr : World} {A : Option Addr} {n k : Nat} {xs : List Value} {u : Value} (h : At w A n xs) (hk : k < n) (hu : xs[k]? = some u) (hb : Below w.heap.size w wr) :
    ∃ ad, A = some ad ∧ wr.cell? (ad.add k) = some u ∧ ∀ x : Later wr, (later wr x).cell? (ad.add k) = some u := by
  obtain ⟨ad, e, hlt, hc⟩ := h (by omega)
  have h1 : wr.cell? (ad.add k) = some u := by
    rw [hb.cell (p := ad.add k) (by rw [block_add]; exact hlt)]
    exact hc k _ hu
  refine ⟨ad, e, h1, fun x => ?_⟩
  rw [later_cell' (p := ad.add k) (by rw [block_add]; exact Nat.lt_of_lt_of_le hlt hb.size)]
  exact h1
theorem at_int9 {w wr : World} {A : Option Addr} {n k : Nat} {l : List Int} (h : At w A n (i64s l)) (hl : l.length = n) (hk : k < n) (hb : Below w.heap.size w wr) :
    ∃ ad, A = some ad ∧ wr.cell? (ad.add k) = some (.int .i64 (l[k]'(by omega))) ∧ ∀ x : Later wr, (later wr x).cell? (ad.add k) = some (.int .i64 (l[k]'(by omega))) :=
  at_cell9 h hk (by simp only [i64s, List.getElem?_map]; rw [List.getElem?_eq_getElem (by omega)]; rfl) hb
abbrev num64 (n : Int) : DataW Unit := .lit (.int .i64 n)
/-- the map reads as the counts of a list -/
structure Cnt (l : List Int) (D : DataW Unit) : Prop where
  atk : ∀ x : Int, D.atKey (.int .i64 x) (num64 0) = num64 (l.count x)
  hask : ∀ x : Int, Maps.has D (.int .i64 x) = decide (x ∈ l)
theorem Cnt.nil : Cnt [] (.map []) := ⟨fun x => rfl, fun x => rfl⟩
theorem Cnt.step {l : List Int} {D : DataW Unit} (h : Cnt l D) (hm : IsMap D) (x : Int) {c : Int} (hc : c = l.count x + 1) : Cnt (l ++ [x]) (D.put (.int .i64 x) (num64 c)) := by
  refine ⟨fun y => ?_, fun y => ?_⟩
  · by_cases e : y = x
    · subst e
      rw [atKey_put_same (k := .int .i64 y) hm trivial, hc, List.count_append, List.count_cons_self, List.count_nil]
      congr 2
    · rw [atKey_put_other (by intro hx; cases hx; exact e rfl), h.atk y, List.count_append, List.count_cons_of_ne (Ne.symm e), List.count_nil]
      rfl
  · by_cases e : y = x
    · subst e
      rw [has_put_same (k := .int .i64 y) hm trivial]
      simp
    · rw [has_put_other (by intro hx; cases hx; exact e rfl), h.hask y]
      simp [e]
def errA (n : Int) : Value := if n = 0 then .nilIface else .iface 58 (.int .i64 n)
def deckN (l : List Int) : Int := if 100 < l.length then 19 else if ∃ x ∈ l, x < 0 ∨ 112 ≤ x then 4 else if ∃ x ∈ l, 5 ≤ x ∧ 4 < l.count x then 8 else 0
theorem deck_long (A : Option Addr) (n c : Nat) (w : World) (h : 100 < n) : Calls Tryd.prog 26 #[.slice A n c] w fun e w' => e = .returned (.iface 58 (.int .i64 19)) ∧ w = w' := by
  go_enter Tryd.func26, Tryd.ntmps26
  go_wp2
  go_ret
  exact ⟨rfl, rfl⟩
set_option maxRecDepth 100000 in
theorem deck_any (A : Option Addr) (n c : Nat) (l : List Int) (w : World) (ha : At w A n (i64s l)) (hla : l.length = n) (hc : n ≤ c) (hn : n ≤ 100) (hwf : ∀ x ∈ l, (Lit.int .i64 x).wf = true) :
    Calls Tryd.prog 26 #[.slice A n c] w fun e w' => e = .returned (errA (deckN l)) ∧ Below w.heap.size w w' := by
  have hmm := @run_makeMap Tryd.prog
  have HA := Lib.hid ha
  have HLA := Lib.hid hla
  have HWF := Lib.hid hwf
  clear ha hla hwf
  go_enter Tryd.func26, Tryd.ntmps26
  go_wp2
  go_loopw [15] (fun iv wr => ∃ (k : Nat) (D : DataW Unit), k ≤ n ∧ iv = .int .i64 k ∧ (∀ x ∈ l.take k, 0 ≤ x ∧ x < 112) ∧ Cnt (l.take k) D ∧ wr.ownsMap Tryd.prog TI (plainElem Tryd.prog TI) w.heap.size k D ∧ Below w.heap.size w wr) (fun iv _ => n - (intOf iv).toNat)
  case atStart => exact ⟨0, .map [], by omega, rfl, fun x hx => by simp at hx, by rw [List.take_zero]; exact Cnt.nil, World.ownsMap_made _ _ _ _, (Below.refl _ _).alloc (Nat.le_refl _) _⟩
  case round =>
    obtain ⟨k, D, hk, rfl, hall, hcnt, hown, hbr⟩ := hrel
    have HALL := Lib.hid hall
    have HCNT := Lib.hid hcnt
    have HOWN := Lib.hid hown
    have HBR := Lib.hid hbr
    clear hall hcnt hown hbr
    by_cases hlt : k < n
    · obtain ⟨ad, rfl, hcell, _⟩ := at_int9 HA.out HLA.out hlt HBR.out
      have hk1 : k < l.length := by have := HLA.out; omega
      have HWX := Lib.hid (HWF.out _ (List.getElem_mem hk1))
      have HX := Lib.hid (rfl : l[k] = l[k])
      have HTK : Hid (l.take (k + 1) = l.take k ++ [l[k]]) := Lib.hid (List.take_succ_eq_append_getElem hk1)
      have HM : Hid (l[k] ∈ l) := Lib.hid (List.getElem_mem hk1)
      generalize l[k] = x at *
      by_cases hx : x < 0 ∨ 112 ≤ x
      · have hd : deckN l = 4 := by
          unfold deckN
          rw [if_neg (by have := HLA.out; omega), if_pos ⟨x, HM.out, hx⟩]
        have HD := Lib.hid hd
        clear hd
        rcases hx with hx | hx
        · go_wp2
          go_ret
          refine ⟨?_, HBR.out⟩
          rw [HD.out]; rfl
        · have hx0 : ¬ x < 0 := by omega
          go_wp2
          go_ret
          refine ⟨?_, HBR.out⟩
          rw [HD.out]; rfl
      · have hx0 : ¬ x < 0 := by omega
        have hx1 : ¬ 112 ≤ x := by omega
        have HK := Lib.hid (keyOf_int_mk (P := Tryd.prog) Tryd.underlying3 HWX.out)
        go_wp2_with (first
          | (at_lookup; refine wpList_lookup_own_int _ rfl _ _ TM rfl TI TI .i64 keyI Tryd.underlying80 Tryd.underlying3 (zeroI _) w.heap.size k D rfl HOWN.out _ _ rfl HK.out ?_; intro c0 hat hwc)
          | (at_mapUpdate; refine wpList_mapUpdate_own _ rfl _ _ _ TM rfl TI TI keyI Tryd.underlying80 _ w.heap.size k _ rfl HOWN.out (by unfold maxLen; omega) _ _ _ rfl rfl HK.out _ [] (plainElem_int Tryd.underlying3 (wrap64_wf _)) ?_; intro w1 hown1 hgrow1)
          | fail)
        have hcx : num64 ((l.take k).count x) = num64 c0 := (HCNT.out.atk x).symm.trans hat
        have hcx : (((l.take k).count x : Nat) : Int) = c0 := by
          have := DataW.lit.inj hcx
          cases this; rfl
        have hle : (l.take k).count x ≤ k := Nat.le_trans List.count_le_length (by rw [List.length_take]; omega)
        have hwr : Go.RowKit.wrap64 (c0 + 1) = (l.take k).count x + 1 := by
          rw [show Go.RowKit.wrap64 (c0 + 1) = IntKind.i64.wrap (c0 + 1) by rw [IntKind.wrap_i64, Go.RowKit.wrap64], IntWalk.i64_in _ (by omega)]
          omega
        rw [hwr] at hown1
        refine ⟨⟨k + 1, _, by omega, by go_num, fun y hy => ?_, ?_, hown1, HBR.out.grown hgrow1 HBR.out.size (fun j hj => by cases hj; exact Nat.le_refl _)⟩, by simp [intOf]; omega⟩
        · rw [HTK.out] at hy
          rcases List.mem_append.1 hy with hy | hy
          · exact HALL.out y hy
          · rw [List.mem_singleton.1 hy]; omega
        · rw [HTK.out]
          exact HCNT.out.step HOWN.out.isMap x rfl
    · have hkn : k = n := by omega
      have hfull : l.take k = l := List.take_of_length_le (by have := HLA.out; omega)
      have HFULL := Lib.hid hfull
      clear hfull
      have HALL2 : Hid (∀ y ∈ l, 0 ≤ y ∧ y < 112) := Lib.hid (by have := HALL.out; rw [HFULL.out] at this; exact this)
      have HCNT2 : Hid (Cnt l D) := Lib.hid (by have := HCNT.out; rw [HFULL.out] at this; exact this)
      go_wp2_with (first
        | (at_range; refine wpList_range_own _ rfl _ TM rfl TI TI keyI Tryd.underlying80 _ w.heap.size k D rfl HOWN.out ?_; intro w0 hrg0 hg0 hs0)
        | fail)
      go_frame
      go_loopw [33] (fun _ wr2 => ∃ (left : Lit → Bool) (cnt : Nat), wr2.ranges Tryd.prog TI (plainElem Tryd.prog TI) w.heap.size wr.heap.size k D left cnt ∧ (∀ y ∈ l, left (.int .i64 y) = false → ¬ (5 ≤ y ∧ 4 < l.count y)) ∧ Below w.heap.size w wr2) (fun _ wr2 => wr2.rangeLeft w.heap.size wr.heap.size)
      case atStart =>
        refine ⟨_, _, hrg0, fun y hy hf => ?_, HBR.out.grown hg0 HBR.out.size (fun j hj => by cases hj)⟩
        rw [HCNT2.out.hask y, decide_eq_true hy] at hf
        cases hf
      case round =>
        obtain ⟨left, cnt, hrg, hleft, hb2⟩ := hrel
        have HLEFT := Lib.hid hleft
        have HB2 := Lib.hid hb2
        clear hleft hb2
        go_wp2_with (first
          | (at_next; refine wpList_next_ranges_ii _ rfl _ rfl TI TI .i64 .i64 keyI Tryd.underlying3 Tryd.underlying3 w.heap.size _ k _ _ _ rfl hrg ?_ ?_)
          | fail)
        · intro _ hl0
          have hd : deckN l = 0 := by
            unfold deckN
            rw [if_neg (by have := HLA.out; omega), if_neg (fun ⟨y, hy, h⟩ => by have := HALL2.out y hy; omega), if_neg (fun ⟨y, hy, h⟩ => HLEFT.out y hy (hl0 _) h)]
          have HD := Lib.hid hd
          clear hd
          go_wp2
          go_ret
          refine ⟨?_, HB2.out⟩
          rw [HD.out]; rfl
        · intro y cy w1 cnt1 hwx hwc hlx hat hrg1 hlt1 hg1 hs1 hen
          have hcy : cy = l.count y := by
            have h1 := HCNT2.out.atk y
            rw [hat] at h1
            have := DataW.lit.inj h1
            cases this; rfl
          have HCY := Lib.hid hcy
          have HAT := Lib.hid hat
          have HRG1 := Lib.hid hrg1
          have HRG := Lib.hid hrg
          have HB3 := Lib.hid (HB2.out.grown hg1 HB2.out.size (fun j hj => by cases hj; exact HBR.out.size))
          clear hcy hat hrg1 hrg
          by_cases h5 : 5 ≤ y
          · by_cases h4 : 4 < cy
            · have hd : deckN l = 8 := by
                unfold deckN
                have hp : 4 < l.count y := by have := HCY.out; omega
                rw [if_neg (by have := HLA.out; omega), if_neg (fun ⟨z, hz, h⟩ => by have := HALL2.out z hz; omega), if_pos ⟨y, List.count_pos_iff.1 (by omega), h5, hp⟩]
              have HD := Lib.hid hd
              clear hd
              go_wp2
              go_ret
              refine ⟨?_, HB3.out⟩
              rw [HD.out]; rfl
            · go_wp2
              refine ⟨⟨_, ⟨_, HRG1.out⟩, fun z hz hf hz5 => ?_, HB3.out⟩, by rw [HRG1.out.left_eq, HRG.out.left_eq]; exact hlt1⟩
              by_cases e : z = y
              · subst e
                have := HCY.out
                omega
              · have hs : (Lit.int IntKind.i64 z).sameKey (.int .i64 y) = false := by simp [Lit.sameKey, e]
                rw [hs, Bool.not_false, Bool.and_true] at hf
                have := HLEFT.out z hz hf
                omega
          · go_wp2
            refine ⟨⟨_, ⟨_, HRG1.out⟩, fun z hz hf hz5 => ?_, HB3.out⟩, by rw [HRG1.out.left_eq, HRG.out.left_eq]; exact hlt1⟩
            by_cases e : z = y
            · subst e
              have := HCY.out
              omega
            · have hs : (Lit.int IntKind.i64 z).sameKey (.int .i64 y) = false := by simp [Lit.sameKey, e]
              rw [hs, Bool.not_false, Bool.and_true] at hf
              have := HLEFT.out z hz hf
              omega
end dk
end Go.Proofs.YtcoacgfciilplaaDoor
end

section
namespace Go.Proofs.YtcoacgfciilplaaDoor
open Go.RowKit
set_option linter.unusedVariables false
set_option linter.unusedSimpArgs false

theorem int_rows {A : Option Addr} {n c sz : Nat} {xs : List (List Dat)} (h : Has E0.Δ (.list 3) (.list (.slice A n c) sz xs)) : xs = (nums xs).map fun n => [Dat.int .i64 n] := by
  cases h with
  | list r A n c xs hl hh =>
    clear n c A
    induction xs with
    | nil => rfl
    | cons x xs ih =>
      have e := ih (fun r hr => hl r (List.mem_cons_of_mem _ hr)) (fun r hr => hh r (List.mem_cons_of_mem _ hr))
      have hx := hh x List.mem_cons_self
      have hlx : x.length = 1 := hl x List.mem_cons_self
      match x, hlx with
      | [d], _ =>
        have hd : Has E0.Δ (.int .i64) d := hx 0 _ d rfl rfl
        cases hd with
        | int k n =>
          show _ :: xs = _ :: (nums xs).map _
          rw [← e]; rfl
theorem flat_ints (l : List Int) : flatV (l.map fun n => [Dat.int .i64 n]) = i64s l := by
  induction l with
  | nil => rfl
  | cons a l ih =>
    unfold flatV i64s at ih ⊢
    rw [List.map_cons, List.flatten_cons, List.map_append, ih]; rfl
def in64s (l : List Int) : Prop := ∀ x ∈ l, (Lit.int .i64 x).wf = true
theorem errV_toV (n : Int) : (errV n).toV = dk.errA n := by
  unfold errV dk.errA
  split <;> rfl
theorem errV_has (n : Int) : Has E0.Δ .err (errV n) := by
  unfold errV
  split
  · exact .nili
  · exact .ifc n
def k_tDeck : Nat := 26
def sg_tDeck : Sig := ⟨[(false, [.list 3])], [(false, [.err])], false, false, false, false, false⟩
noncomputable def tr_tDeck : Tree := walk E0.cx (sgsN []) 0 26 sg_tDeck
theorem wk_tDeck : walk E0.cx (sgsN []) 0 26 sg_tDeck = tr_tDeck := rfl
theorem bo_tDeck : ∃ x, bodyOf E0.P 26 = some x := bo_of (by kernel_rfl)
def tDeck_s : Spec := fun ds Q => in64s (nums (argL ds 0)) ∧ Q [errV (dk.deckN (nums (argL ds 0)))]
theorem tDeck_h : Holds E0 k_tDeck sg_tDeck tDeck_s := fun w ds Q h1 h2 h3 h4 ⟨hin, h⟩ => by
  cases h1 with
  | cons hd hs =>
  cases hs
  have hok := h2 _ (List.mem_cons_self ..)
  cases hd with
  | list r A n c xs hl hh =>
  have hx := int_rows (Has.list (Δ := E0.Δ) 3 A n c xs hl hh)
  cases hok with
  | list v sz xs hr hrows =>
  obtain ⟨A', c', e, hc, hlen, hat⟩ := hr
  cases e
  have hnx : (nums xs).length = xs.length := nums_len xs
  have e1 : argL [Dat.list (.slice A xs.length c) (E0.Δ.row 3).length xs] 0 = xs := rfl
  rw [e1] at hin h
  have hat2 : At w A xs.length (i64s (nums xs)) := by
    rw [← flat_ints, ← hx]; exact hat
  have fin : ∀ e w', e = Ending.returned (dk.errA (dk.deckN (nums xs))) → Below w.heap.size w w' → Ends E0 sg_tDeck w w' (fun k => AtL [Dat.list (.slice A xs.length c) (E0.Δ.row 3).length xs] k ∨ AtL E0.γ k) Q e := fun e w' he hb => by
    refine ⟨_, h, .cons (errV_has _) .nil, hb, fun d hd => by rw [List.mem_singleton.1 hd]; unfold errV; split <;> exact .val _, fun k ⟨d, hd, hk⟩ => ?_, ?_⟩
    · rw [List.mem_singleton.1 hd] at hk
      unfold errV at hk
      split at hk <;> cases hk
    · show (if false = true then _ else _)
      rw [if_neg Bool.false_ne_true, he, ← errV_toV]; rfl
  by_cases h100 : 100 < xs.length
  · refine (dk.deck_long A xs.length c w h100).mono fun e w' ⟨he, hw⟩ => ?_
    subst hw
    refine fin e w ?_ (Below.refl _ _)
    rw [he]
    unfold dk.deckN
    rw [if_pos (by omega)]; rfl
  · exact (dk.deck_any A xs.length c (nums xs) w hat2 hnx hc (by omega) hin).mono fun e w' ⟨he, hb⟩ => fin e w' he hb
noncomputable def con_tDeck : Con E0 := ⟨k_tDeck, sg_tDeck, tDeck_s, rfl, bo_tDeck, tDeck_h⟩
theorem num_at {l : List (List Dat)} {i : Nat} (h : i < l.length) : rowI (l.getD i []) 0 = (nums l).getD i 0 := by
  rw [List.getD_eq_getElem?_getD (l := nums l), nums_get h]; rfl
def k_rDeck : Nat := 28
def sg_rDeck : Sig := ⟨[(false, [.list 3])], [(false, [.int .i64])], false, false, true, false, false⟩
def tr_rDeck : Tree := (.ite (.cmp .gt (.len (.var 0)) (.int .i64 100))
 (.ret [(.int .i64 19)])
 (.loop [(.int .i64 0), (.int .i64 0)] [(.int .i64), (.int .i64)]
  (.ite (.cmp .lt (.var 2) (.len (.var 0)))
   (.ob (.cmp .ge (.var 2) (.int .i64 0))
   (.ite (.or (.cmp .lt (.elem (.var 0) (.var 2) 0 (.int .i64)) (.int .i64 0)) (.cmp .gt (.elem (.var 0) (.var 2) 0 (.int .i64)) (.int .i64 111)))
    (.ret [(.int .i64 4)])
    (.again 0 [(.var 1), (.ar .add .i64 (.var 2) (.int .i64 1))])))
   (.loop [(.var 1), (.int .i64 0)] [(.int .i64), (.int .i64)]
    (.ite (.cmp .lt (.var 4) (.len (.var 0)))
     (.ob (.cmp .ge (.var 4) (.int .i64 0))
     (.loop [(.int .i64 0), (.int .i64 0)] [(.int .i64), (.int .i64)]
      (.ite (.cmp .lt (.var 6) (.len (.var 0)))
       (.ob (.cmp .ge (.var 6) (.int .i64 0))
       (.again 2 [(.ite (.cmp .eq (.elem (.var 0) (.var 6) 0 (.int .i64)) (.elem (.var 0) (.var 4) 0 (.int .i64))) (.ar .add .i64 (.var 5) (.int .i64 1)) (.var 5)), (.ar .add .i64 (.var 6) (.int .i64 1))]))
       (.ite (.and (.cmp .ge (.elem (.var 0) (.var 4) 0 (.int .i64)) (.int .i64 5)) (.cmp .gt (.var 5) (.int .i64 4)))
        (.ret [(.int .i64 8)])
        (.again 1 [(.var 3), (.ar .add .i64 (.var 4) (.int .i64 1))])))))
     (.ret [(.int .i64 0)]))))))
theorem wk_rDeck : walk E0.cx (sgsN []) 0 28 sg_rDeck = tr_rDeck := by kernel_rfl
theorem bo_rDeck : ∃ x, bodyOf E0.P 28 = some x := bo_of (by kernel_rfl)
def rDeck_s : Spec := fun ds Q => Q [.int .i64 (dk.deckN (nums (argL ds 0)))]
theorem rDeck_h : Holds E0 k_rDeck sg_rDeck rDeck_s := con_fn wf0 mix0 g0 [] rfl wk_rDeck rfl (by
  intro Φ hΦ ds Q hs h
  have h : Q [.int .i64 (dk.deckN (nums (argL ds 0)))] := h
  have hl : ds.length = 1 := hs.length.symm
  clear hΦ
  have hnl : (nums (argL ds 0)).length = (argL ds 0).length := nums_len _
  have hat : ∀ i, i < (argL ds 0).length → rowI ((argL ds 0).getD i []) 0 = (nums (argL ds 0)).getD i 0 := fun i hi => num_at hi
  simp only [tr_rDeck, wp, den_int, den_bool, den_nili, den_ar, den_cmp, den_not, den_len, den_elem, den_isnil, den_errI, den_ifc, den_rep, den_push, den_app, den_emp, den_upd, row0_econs, row0_enil, den_and, den_beq, den_nil, toInt_int, toBool_bool, xs_rows, xs_list, dflt_int, dflt_bool, of_eq, of_ne, of_lt, of_le, of_gt, of_ge, of_add, of_sub, of_rem, List.map_cons, List.map_nil, Dat.bool.injEq, decide_eq_true_eq, decide_eq_false_iff_not, Bool.not_eq_true', Bool.not_eq_false', beq_iff_eq, bne_iff_ne, beq_eq_false_iff_ne, bne_eq_false_iff_eq, ne_eq, List.append_assoc, List.cons_append, List.nil_append, allS, @den_var0 E0.Δ ds, den_varA, den_varB, hl, Nat.reduceLT, Nat.reduceLeDiff, Nat.reduceSub, List.getD_cons_zero, List.getD_cons_succ, argL_fold ds, argI_fold ds, List.append_assoc, List.cons_append, List.nil_append, toInt_int, toBool_bool, xs_rows, xs_list, Int.toNat_natCast, Dat.bool.injEq, dflt_int, toInt_getD, den_or, den_ite, List.getElem?_cons_zero, List.getElem?_cons_succ]
  generalize hL : nums (argL ds 0) = L at *
  refine ⟨fun h100 => ?_, fun h100 => ?_⟩
  · unfold dk.deckN at h
    rw [if_pos (by omega)] at h
    exact h
  refine ⟨fun xs m => ∃ (z : Int) (k : Nat), k ≤ (argL ds 0).length ∧ m = (argL ds 0).length - k ∧ xs = [.int .i64 z, .int .i64 k] ∧ ∀ y ∈ L.take k, 0 ≤ y ∧ y < 112, ⟨_, 0, 0, by omega, rfl, rfl, by simp⟩, ?_⟩
  intro z1 n1 m ⟨z, k, hk, hm, e, hall⟩
  obtain ⟨rfl, rfl⟩ : z1 = z ∧ n1 = (k : Int) := by simpa using e
  subst hm
  refine ⟨fun hlt => ⟨by omega, ?_⟩, fun hge => ?_⟩
  · have hk2 : k < (argL ds 0).length := by omega
    rw [Int.toNat_natCast, hat k hk2]
    refine ⟨fun hb => ?_, fun hb => ⟨_, (by omega : (argL ds 0).length - (k + 1) < _), z1, k + 1, by omega, rfl, by rw [wrap64 (by omega) (by omega)]; rfl, ?_⟩⟩
    · rw [Bool.or_eq_true, decide_eq_true_eq, decide_eq_true_eq] at hb
      unfold dk.deckN at h
      rw [if_neg (by omega), if_pos ⟨L.getD k 0, getD_memL (by omega), by omega⟩] at h
      exact h
    · rw [Bool.or_eq_false_iff, decide_eq_false_iff_not, decide_eq_false_iff_not] at hb
      intro y hy
      rw [take_succ_getD (d := 0) (by omega), List.mem_append, List.mem_singleton] at hy
      rcases hy with hy | hy
      · exact hall y hy
      · rw [hy]; omega
  have hk3 : k = (argL ds 0).length := by omega
  rw [hk3, ← hnl, List.take_length] at hall
  refine ⟨fun xs m => ∃ (z : Int) (k : Nat), k ≤ (argL ds 0).length ∧ m = (argL ds 0).length - k ∧ xs = [.int .i64 z, .int .i64 k] ∧ ∀ y ∈ L.take k, ¬ (5 ≤ y ∧ 4 < L.count y), ⟨_, z1, 0, by omega, rfl, rfl, by simp⟩, ?_⟩
  intro z2 n2 m2 ⟨z', k', hk', hm2, e2, hall2⟩
  obtain ⟨rfl, rfl⟩ : z2 = z' ∧ n2 = (k' : Int) := by simpa using e2
  subst hm2
  refine ⟨fun hlt => ⟨by omega, ?_⟩, fun hge => ?_⟩
  · have hk2 : k' < (argL ds 0).length := by omega
    rw [Int.toNat_natCast, hat k' hk2]
    refine ⟨fun xs m => ∃ j : Nat, j ≤ (argL ds 0).length ∧ m = (argL ds 0).length - j ∧ xs = [.int .i64 ((L.take j).count (L.getD k' 0) : Nat), .int .i64 j], ⟨_, 0, by omega, rfl, by simp⟩, ?_⟩
    intro z3 n3 m3 ⟨j, hj, hm3, e3⟩
    obtain ⟨rfl, rfl⟩ : z3 = ((L.take j).count (L.getD k' 0) : Nat) ∧ n3 = (j : Int) := by simpa using e3
    subst hm3
    have hcl : (L.take j).count (L.getD k' 0) ≤ j := Nat.le_trans List.count_le_length (by rw [List.length_take]; omega)
    refine ⟨fun hlt3 => ⟨by omega, _, (by omega : (argL ds 0).length - (j + 1) < _), j + 1, by omega, rfl, ?_⟩, fun hge3 => ?_⟩
    · have hj2 : j < (argL ds 0).length := by omega
      rw [Int.toNat_natCast, hat j hj2, wrap64 (x := (j : Int) + 1) (by omega) (by omega)]
      rw [take_succ_getD (d := 0) (by omega), List.count_append, List.count_singleton]
      by_cases hx : L.getD j 0 = L.getD k' 0
      · rw [if_pos (by simpa using hx), if_pos (by simpa using hx), wrap64 (by omega) (by omega)]; rfl
      · rw [if_neg (by simpa using hx), if_neg (by simpa using hx)]; rfl
    · have hj3 : j = (argL ds 0).length := by omega
      have htj : L.take j = L := List.take_of_length_le (by omega)
      rw [htj]
      refine ⟨fun hb => ?_, fun hb => ⟨_, (by omega : (argL ds 0).length - (k' + 1) < _), z2, k' + 1, by omega, rfl, by rw [wrap64 (by omega) (by omega)]; rfl, ?_⟩⟩
      · rw [Bool.and_eq_true, decide_eq_true_eq, decide_eq_true_eq] at hb
        unfold dk.deckN at h
        rw [if_neg (by omega), if_neg (fun ⟨y, hy, hx⟩ => by have := hall y hy; omega), if_pos ⟨L.getD k' 0, getD_memL (by omega), by omega⟩] at h
        exact h
      · rw [Bool.and_eq_false_iff, decide_eq_false_iff_not, decide_eq_false_iff_not] at hb
        intro y hy
        rw [take_succ_getD (d := 0) (by omega), List.mem_append, List.mem_singleton] at hy
        rcases hy with hy | hy
        · exact hall2 y hy
        · rw [hy]; omega
  · have hk4 : k' = (argL ds 0).length := by omega
    rw [hk4, ← hnl, List.take_length] at hall2
    unfold dk.deckN at h
    rw [if_neg (by omega), if_neg (fun ⟨y, hy, hx⟩ => by have := hall y hy; omega), if_neg (fun ⟨y, hy, hx⟩ => hall2 y hy hx)] at h
    exact h)
noncomputable def con_rDeck : Con E0 := ⟨k_rDeck, sg_rDeck, rDeck_s, rfl, bo_rDeck, rDeck_h⟩
end Go.Proofs.YtcoacgfciilplaaDoor
end

section
namespace Go.Proofs.YtcoacgfciilplaaDoor.mth

/-- what stands for a number -/
def zig (n : Int) : Nat := if 0 ≤ n then (2 * n).toNat else (-2 * n - 1).toNat

/-- a number's bytes: seven bits each, the lowest first; f: how many may follow -/
def encF : Nat → Nat → List Nat
  | 0, x => [x]
  | f + 1, x => if x < 128 then [x] else (x % 128 + 128) :: encF f (x / 128)
def enc (x : Nat) : List Nat := encF 9 x
def encI (n : Int) : List Nat := enc (zig n)

theorem encF_small (f x : Nat) (h : x < 128) : encF f x = [x] := by
  cases f with
  | zero => rfl
  | succ f => simp [encF, h]
theorem encF_step (f x : Nat) (h : ¬ x < 128) : encF (f + 1) x = (x % 128 + 128) :: encF f (x / 128) := by simp [encF, h]

theorem zig_lt (n : Int) (h1 : -9223372036854775808 ≤ n) (h2 : n ≤ 9223372036854775807) : zig n < 18446744073709551616 := by
  unfold zig; split <;> omega

theorem encF_len (f : Nat) : ∀ x, 1 ≤ (encF f x).length ∧ (encF f x).length ≤ f + 1 := by
  induction f with
  | zero => intro x; simp [encF]
  | succ f ih =>
    intro x
    by_cases h : x < 128
    · rw [encF_small _ _ h]; simp
    · rw [encF_step _ _ h, List.length_cons]; have := ih (x / 128); omega
theorem enc_len (x : Nat) : 1 ≤ (enc x).length ∧ (enc x).length ≤ 10 := encF_len 9 x

theorem encF_byte (f : Nat) : ∀ x, x < 128 ^ (f + 1) → ∀ b ∈ encF f x, b < 256 := by
  induction f with
  | zero => intro x hx b hb; simp [encF] at hb; subst hb; omega
  | succ f ih =>
    intro x hx b hb
    by_cases h : x < 128
    · rw [encF_small _ _ h] at hb; simp at hb; omega
    · rw [encF_step _ _ h] at hb
      rcases List.mem_cons.1 hb with e | e
      · omega
      · refine ih (x / 128) ?_ b e
        rw [Nat.pow_succ] at hx
        exact (Nat.div_lt_iff_lt_mul (by omega)).2 hx

/-- where the loop stands: k bytes are out, y is left -/
structure Going (X k y : Nat) (done : List Nat) : Prop where
  hk : k ≤ 9
  len : done.length = k
  lt : y < 128 ^ (10 - k)
  all : done ++ encF (9 - k) y = enc X
  le : y ≤ X

theorem going_start (X : Nat) (hX : X < 18446744073709551616) : Going X 0 X [] :=
  ⟨by omega, rfl, Nat.lt_of_lt_of_le hX (by decide), rfl, Nat.le_refl _⟩
theorem going_step {X k y : Nat} {done : List Nat} (h : Going X k y done) (hy : ¬ y < 128) : Going X (k + 1) (y / 128) (done ++ [y % 128 + 128]) := by
  obtain ⟨hk, hl, hlt, ha, hle⟩ := h
  have h9 : k < 9 := by
    apply Classical.byContradiction
    intro h
    have : k = 9 := by omega
    subst this
    omega
  refine ⟨by omega, by simp [hl], ?_, ?_, Nat.le_trans (Nat.div_le_self _ _) hle⟩
  · rw [show 10 - k = (10 - (k + 1)) + 1 from by omega, Nat.pow_succ] at hlt
    exact (Nat.div_lt_iff_lt_mul (by omega)).2 hlt
  · rw [show 9 - k = (9 - (k + 1)) + 1 from by omega, encF_step _ _ hy] at ha
    rw [← ha]; simp
theorem going_end {X k y : Nat} {done : List Nat} (h : Going X k y done) (hy : y < 128) : done ++ [y] = enc X ∧ k + 1 = (enc X).length := by
  have : done ++ [y] = enc X := by rw [← encF_small (9 - k) y hy]; exact h.all
  exact ⟨this, by rw [← this]; simp [h.len]⟩

/-- a list's bytes -/
def encAll : List Int → List Nat
  | [] => []
  | n :: l => encI n ++ encAll l
def encL (l : List Int) : List Nat := encI (l.length : Int) ++ encAll l
theorem encAll_append (a b : List Int) : encAll (a ++ b) = encAll a ++ encAll b := by
  induction a with
  | nil => rfl
  | cons n a ih => simp [encAll, ih]
theorem encAll_len (l : List Int) : (encAll l).length ≤ 10 * l.length := by
  induction l with
  | nil => simp [encAll]
  | cons n l ih => have := (enc_len (zig n)).2; simp only [encAll, encI, List.length_append, List.length_cons]; omega

theorem or128 (y : Nat) : (y % 256) ||| 128 = y % 128 + 128 := by
  have h : y % 256 < 256 := Nat.mod_lt _ (by omega)
  have e : y % 128 = y % 256 % 128 := by omega
  rw [e]
  generalize y % 256 = b at *
  have : ∀ b, b < 256 → b ||| 128 = b % 128 + 128 := by decide +kernel
  exact this b h

end Go.Proofs.YtcoacgfciilplaaDoor.mth
end

section
namespace Go.Proofs.YtcoacgfciilplaaDoor.mth

def zag (x : Nat) : Int := if x % 2 = 0 then ((x / 2 : Nat) : Int) else -((x / 2 : Nat) : Int) - 1
theorem zag_zig (n : Int) : zag (zig n) = n := by unfold zag zig; split <;> split <;> omega
theorem zig_zag (x : Nat) : zig (zag x) = x := by unfold zag zig; split <;> split <;> omega
theorem zag_range (x : Nat) (h : x < 18446744073709551616) : -9223372036854775808 ≤ zag x ∧ zag x ≤ 9223372036854775807 := by unfold zag; split <;> omega

/-- a number, how many bytes it has, an error's number -/
def tk (i x : Nat) : List Nat → Int × Nat × Int
  | [] => (0, 0, 7)
  | c :: t =>
    if 10 ≤ i then (0, 0, 7)
    else if i = 9 ∧ 1 < c then (0, 0, 2)
    else if 128 ≤ c then tk (i + 1) (x + 128 ^ i * (c % 128)) t
    else if c = 0 ∧ 0 < i then (0, 0, 2)
    else (zag (x + 128 ^ i * c), i + 1, 0)

theorem tk_ten (i x : Nat) (l : List Nat) (h : 10 ≤ i) : tk i x l = (0, 0, 7) := by cases l <;> simp [tk, h]
theorem tk_nine {i x c : Nat} {t : List Nat} (h : i = 9) (h' : 1 < c) : tk i x (c :: t) = (0, 0, 2) := by subst h; simp [tk, h']
theorem tk_more {i x c : Nat} {t : List Nat} (h0 : i < 10) (h : ¬ (i = 9 ∧ 1 < c)) (h' : 128 ≤ c) : tk i x (c :: t) = tk (i + 1) (x + 128 ^ i * (c % 128)) t := by
  rw [tk, if_neg (by omega), if_neg h, if_pos h']
theorem tk_zero {i x c : Nat} {t : List Nat} (h0 : i < 10) (h : c = 0) (h' : 0 < i) : tk i x (c :: t) = (0, 0, 2) := by
  rw [tk, if_neg (by omega), if_neg (by omega), if_neg (by omega), if_pos ⟨h, h'⟩]
theorem tk_end {i x c : Nat} {t : List Nat} (h0 : i < 10) (h : ¬ (i = 9 ∧ 1 < c)) (h' : ¬ 128 ≤ c) (h'' : ¬ (c = 0 ∧ 0 < i)) : tk i x (c :: t) = (zag (x + 128 ^ i * c), i + 1, 0) := by
  rw [tk, if_neg (by omega), if_neg h, if_neg h', if_neg h'']

theorem pow_step (i x d : Nat) (hx : x < 128 ^ i) (hd : d < 128) : x + 128 ^ i * d < 128 ^ (i + 1) := by
  rw [Nat.pow_succ]
  have h1 : 128 ^ i * d + 128 ^ i ≤ 128 ^ i * 128 := by rw [← Nat.mul_succ]; exact Nat.mul_le_mul_left _ (by omega)
  omega
theorem pow_le9 (i : Nat) (h : i ≤ 9) : 128 ^ i ≤ 9223372036854775808 := by
  have := Nat.pow_le_pow_right (n := 128) (by omega) h
  have e : 128 ^ 9 = 9223372036854775808 := by decide
  omega
theorem below64 (i x c : Nat) (h0 : i < 10) (hx : x < 128 ^ i) (h : ¬ (i = 9 ∧ 1 < c)) (h' : c < 128) : x + 128 ^ i * c < 18446744073709551616 := by
  by_cases h9 : i = 9
  · subst h9
    have e : 128 ^ 9 = 9223372036854775808 := by decide
    rw [e] at hx ⊢
    omega
  · have := pow_step i x c hx h'
    have := pow_le9 (i + 1) (by omega)
    omega

theorem tk_back (f : Nat) : ∀ (i x y : Nat) (rest : List Nat), i + f = 9 → x < 128 ^ i → 128 ^ i * y < 18446744073709551616 → (0 < i → 0 < y) → tk i x (encF f y ++ rest) = (zag (x + 128 ^ i * y), i + (encF f y).length, 0) := by
  induction f with
  | zero =>
    intro i x y rest hi hx hy h0
    obtain rfl : i = 9 := by omega
    have e : 128 ^ 9 = 9223372036854775808 := by decide
    rw [e] at hy
    have hy1 : y ≤ 1 := by omega
    simp only [encF, List.cons_append, List.nil_append]
    rw [tk_end (by omega) (by omega) (by omega) (by omega)]
    rfl
  | succ f ih =>
    intro i x y rest hi hx hy h0
    by_cases h : y < 128
    · rw [encF_small _ _ h, List.cons_append, tk_end (by omega) (by omega) (by omega) (by omega)]
      simp
    · rw [encF_step _ _ h, List.cons_append, tk_more (by omega) (by omega) (by omega)]
      have hm : (y % 128 + 128) % 128 = y % 128 := by omega
      have hs : 128 ^ i * y = 128 ^ i * (y % 128) + 128 ^ (i + 1) * (y / 128) := by
        rw [Nat.pow_succ, Nat.mul_assoc, ← Nat.mul_add]
        congr 1
        omega
      rw [hm, ih (i + 1) _ _ _ (by omega) (pow_step i x _ hx (by omega)) (by omega) (by omega)]
      rw [hs, Nat.add_assoc, List.length_cons]
      congr 2
      omega

theorem tk_enc (n : Int) (rest : List Nat) (h1 : -9223372036854775808 ≤ n) (h2 : n ≤ 9223372036854775807) : tk 0 0 (encI n ++ rest) = (n, (encI n).length, 0) := by
  have := tk_back 9 0 0 (zig n) rest (by omega) (by simp) (by have := zig_lt n h1 h2; simpa using this) (by omega)
  simp only [Nat.pow_zero, Nat.one_mul, Nat.zero_add, zag_zig] at this
  exact this

theorem tk_bytes : ∀ (l : List Nat) (i x : Nat) (v : Int) (k : Nat), (∀ b ∈ l, b < 256) → x < 128 ^ i → tk i x l = (v, k, 0) →
    i < 10 ∧ ∃ y, l.take (k - i) = encF (9 - i) y ∧ v = zag (x + 128 ^ i * y) ∧ x + 128 ^ i * y < 18446744073709551616 ∧ i < k ∧ k ≤ i + l.length ∧ (0 < i → 0 < y)
  | [], i, x, v, k, _, _, h => by simp [tk] at h
  | c :: t, i, x, v, k, hb, hx, h => by
    by_cases h10 : 10 ≤ i
    · rw [tk_ten _ _ _ h10] at h; simp at h
    refine ⟨by omega, ?_⟩
    by_cases h9 : i = 9 ∧ 1 < c
    · rw [tk_nine h9.1 h9.2] at h; simp at h
    by_cases hc : 128 ≤ c
    · have hi8 : i ≤ 8 := by omega
      have hc2 := hb c (by simp)
      rw [tk_more (by omega) h9 hc] at h
      obtain ⟨_, y, h1, h2, h3, h4, h5, h6⟩ := tk_bytes t (i + 1) _ v k (fun b hb' => hb b (by simp [hb'])) (pow_step i x _ hx (by omega)) h
      have hy := h6 (by omega)
      have hs : x + 128 ^ i * (c % 128) + 128 ^ (i + 1) * y = x + 128 ^ i * (c % 128 + 128 * y) := by
        rw [Nat.pow_succ, Nat.mul_assoc, Nat.add_assoc, ← Nat.mul_add]
      refine ⟨c % 128 + 128 * y, ?_, by rw [h2, hs], by rw [← hs]; exact h3, by omega, by simp; omega, by omega⟩
      rw [show k - i = (k - (i + 1)) + 1 by omega, List.take_succ_cons, h1, show 9 - i = (9 - (i + 1)) + 1 by omega, encF_step _ _ (by omega)]
      congr 1
      · omega
      · congr 1; omega
    · by_cases h0 : c = 0 ∧ 0 < i
      · rw [tk_zero (by omega) h0.1 h0.2] at h; simp at h
      rw [tk_end (by omega) h9 hc h0] at h
      simp only [Prod.mk.injEq, and_true] at h
      obtain ⟨rfl, rfl⟩ := h
      refine ⟨c, ?_, rfl, below64 i x c (by omega) hx h9 (by omega), by omega, by simp, by omega⟩
      rw [show i + 1 - i = 1 by omega, encF_small _ _ (by omega)]
      rfl

/-- the bytes of what is taken, its range, its length -/
theorem tk_canon (l : List Nat) (v : Int) (k : Nat) (hb : ∀ b ∈ l, b < 256) (h : tk 0 0 l = (v, k, 0)) : l.take k = encI v ∧ 0 < k ∧ k ≤ l.length ∧ -9223372036854775808 ≤ v ∧ v ≤ 9223372036854775807 := by
  obtain ⟨_, y, h1, h2, h3, h4, h5, _⟩ := tk_bytes l 0 0 v k hb (by simp) h
  simp only [Nat.pow_zero, Nat.one_mul, Nat.zero_add, Nat.sub_zero] at *
  have := zag_range y h3
  refine ⟨?_, h4, h5, by rw [h2]; exact this.1, by rw [h2]; exact this.2⟩
  rw [h1, h2, encI, zig_zag]
  rfl
theorem tk_bad (l : List Nat) (v : Int) (k : Nat) (e : Int) : ∀ i x, tk i x l = (v, k, e) → e ≠ 0 → v = 0 ∧ k = 0 ∧ (e = 7 ∨ e = 2) := by
  induction l with
  | nil => intro i x h he; simp [tk] at h; omega
  | cons c t ih =>
    intro i x h he
    unfold tk at h
    split at h
    · simp at h; omega
    split at h
    · simp at h; omega
    split at h
    · exact ih _ _ h he
    split at h
    · simp at h; omega
    · simp at h; omega

/-- a list, what is left, an error's number -/
def pre (o : List Int) (r : List Int × List Nat × Int) : List Int × List Nat × Int := if r.2.2 = 0 then (o ++ r.1, r.2.1, 0) else ([], [], r.2.2)
def tkN : Nat → List Nat → List Int × List Nat × Int
  | 0, b => ([], b, 0)
  | m + 1, b => if (tk 0 0 b).2.2 = 0 then pre [(tk 0 0 b).1] (tkN m (b.drop (tk 0 0 b).2.1)) else ([], [], (tk 0 0 b).2.2)
def tkL (b : List Nat) (many : Int) : List Int × List Nat × Int :=
  if (tk 0 0 b).2.2 = 0 then
    if (tk 0 0 b).1 < 0 then ([], [], 1) else if many < (tk 0 0 b).1 then ([], [], 19) else tkN (tk 0 0 b).1.toNat (b.drop (tk 0 0 b).2.1)
  else ([], [], (tk 0 0 b).2.2)

theorem pre_nil (r : List Int × List Nat × Int) (h : r.2.2 ≠ 0 → r = ([], [], r.2.2)) : pre [] r = r := by
  unfold pre
  split
  · rename_i h0
    obtain ⟨a, b, c⟩ := r
    simp at h0
    simp [h0]
  · rename_i h0
    exact (h h0).symm
theorem tkN_err (m : Nat) (b : List Nat) (h : (tkN m b).2.2 ≠ 0) : tkN m b = ([], [], (tkN m b).2.2) := by
  cases m with
  | zero => simp [tkN] at h
  | succ m =>
    unfold tkN at h ⊢
    by_cases h1 : (tk 0 0 b).2.2 = 0
    · rw [if_pos h1] at h ⊢
      unfold pre at h ⊢
      by_cases h2 : (tkN m (b.drop (tk 0 0 b).2.1)).2.2 = 0
      · rw [if_pos h2] at h; simp at h
      · rw [if_neg h2]
    · rw [if_neg h1]
theorem pre_start (m : Nat) (b : List Nat) : tkN m b = pre [] (tkN m b) := (pre_nil _ (tkN_err m b)).symm
theorem pre_pre (o o' : List Int) (r : List Int × List Nat × Int) : pre o (pre o' r) = pre (o ++ o') r := by
  unfold pre
  by_cases h : r.2.2 = 0
  · simp [h]
  · simp [h]
theorem pre_step {o : List Int} {m : Nat} {b : List Nat} {v : Int} {k : Nat} (h : tk 0 0 b = (v, k, 0)) : pre o (tkN (m + 1) b) = pre (o ++ [v]) (tkN m (b.drop k)) := by
  have : tkN (m + 1) b = pre [v] (tkN m (b.drop k)) := by rw [tkN, h]; simp
  rw [this, pre_pre]
theorem pre_bad {o : List Int} {m : Nat} {b : List Nat} {v : Int} {k : Nat} {e : Int} (h : tk 0 0 b = (v, k, e)) (he : e ≠ 0) : pre o (tkN (m + 1) b) = ([], [], e) := by
  have : tkN (m + 1) b = ([], [], e) := by rw [tkN, h, if_neg he]
  rw [this, pre, if_neg he]
theorem pre_end (o : List Int) (b : List Nat) : pre o (tkN 0 b) = (o, b, 0) := by simp [tkN, pre]

def Ok (l : List Int) : Prop := ∀ n ∈ l, -9223372036854775808 ≤ n ∧ n ≤ 9223372036854775807

theorem tkN_back : ∀ (l : List Int) (rest : List Nat), Ok l → tkN l.length (encAll l ++ rest) = (l, rest, 0)
  | [], rest, _ => rfl
  | n :: l, rest, h => by
    have hn := h n (by simp)
    have ih := tkN_back l rest (fun x hx => h x (by simp [hx]))
    have ht := tk_enc n (encAll l ++ rest) hn.1 hn.2
    rw [List.length_cons, encAll, List.append_assoc, tkN, ht]
    simp [ih, pre]
theorem tkL_back (l : List Int) (rest : List Nat) (many : Int) (h : Ok l) (hl : (l.length : Int) ≤ 9223372036854775807) (hm : (l.length : Int) ≤ many) : tkL (encL l ++ rest) many = (l, rest, 0) := by
  have ht := tk_enc (l.length : Int) (encAll l ++ rest) (by omega) hl
  rw [encL, List.append_assoc, tkL, ht]
  simp only [if_true]
  rw [if_neg (by omega), if_neg (by omega)]
  simp [tkN_back l rest h]

theorem tkN_canon : ∀ (m : Nat) (b : List Nat) (l : List Int) (r : List Nat), (∀ x ∈ b, x < 256) → tkN m b = (l, r, 0) → encAll l ++ r = b ∧ l.length = m ∧ Ok l
  | 0, b, l, r, _, h => by simp [tkN] at h; obtain ⟨rfl, rfl⟩ := h; exact ⟨rfl, rfl, fun x hx => by simp at hx⟩
  | m + 1, b, l, r, hb, h => by
    obtain ⟨v, k, e, ht⟩ : ∃ v k e, tk 0 0 b = (v, k, e) := ⟨_, _, _, rfl⟩
    by_cases he : e = 0
    · subst he
      obtain ⟨h1, h2, h3, h4, h5⟩ := tk_canon b v k hb ht
      have hs : tkN (m + 1) b = pre [v] (tkN m (b.drop k)) := by rw [tkN, ht]; simp
      rw [hs] at h
      unfold pre at h
      split at h
      · rename_i h0
        obtain ⟨l', r', e', hr⟩ : ∃ l' r' e', tkN m (b.drop k) = (l', r', e') := ⟨_, _, _, rfl⟩
        rw [hr] at h h0
        simp at h0 h
        obtain ⟨rfl, rfl⟩ := h
        subst h0
        obtain ⟨g1, g2, g3⟩ := tkN_canon m (b.drop k) l' r' (fun x hx => hb x (List.mem_of_mem_drop hx)) hr
        refine ⟨?_, by simp [g2], ?_⟩
        · rw [encAll, List.append_assoc, g1, ← h1, List.take_append_drop]
        · intro x hx
          rcases List.mem_cons.1 hx with rfl | hx
          · exact ⟨h4, h5⟩
          · exact g3 x hx
      · rename_i h0; simp at h; exact absurd h.2.2 h0
    · have : tkN (m + 1) b = ([], [], e) := by rw [tkN, ht, if_neg he]
      rw [this] at h
      simp at h
      exact absurd h.2.2 he

theorem tkL_canon (b : List Nat) (many : Int) (l : List Int) (r : List Nat) (hb : ∀ x ∈ b, x < 256) (h : tkL b many = (l, r, 0)) : encL l ++ r = b ∧ Ok l ∧ (l.length : Int) ≤ many := by
  obtain ⟨v, k, e, ht⟩ : ∃ v k e, tk 0 0 b = (v, k, e) := ⟨_, _, _, rfl⟩
  unfold tkL at h
  rw [ht] at h
  simp only at h
  by_cases he : e = 0
  · rw [if_pos he] at h
    subst he
    by_cases h1 : v < 0
    · rw [if_pos h1] at h; simp at h
    by_cases h2 : many < v
    · rw [if_neg h1, if_pos h2] at h; simp at h
    rw [if_neg h1, if_neg h2] at h
    obtain ⟨g1, g2, g3⟩ := tkN_canon _ _ _ _ (fun x hx => hb x (List.mem_of_mem_drop hx)) h
    obtain ⟨c1, c2, c3, c4, c5⟩ := tk_canon b v k hb ht
    refine ⟨?_, g3, by omega⟩
    rw [encL, List.append_assoc, g1, g2, show ((v.toNat : Nat) : Int) = v by omega, ← c1, List.take_append_drop]
  · rw [if_neg he] at h
    simp at h
    exact absurd h.2.2 he

/-- unlike lists have unlike bytes, of which none begin with the other's -/
theorem encL_apart (a b : List Int) (ha : Ok a) (hb : Ok b) (hla : (a.length : Int) ≤ 9223372036854775807) (hlb : (b.length : Int) ≤ 9223372036854775807)
    (h : (encL a).take (min (encL a).length (encL b).length) = (encL b).take (min (encL a).length (encL b).length)) : a = b := by
  have key : ∀ (a b : List Int), Ok a → Ok b → (a.length : Int) ≤ 9223372036854775807 → (b.length : Int) ≤ 9223372036854775807 → (encL a).length ≤ (encL b).length → encL a = (encL b).take (encL a).length → a = b := by
    intro a b ha hb hla hlb hl h
    have e : encL b = encL a ++ (encL b).drop (encL a).length := by
      rw [← List.take_append_drop (encL a).length (encL b), ← h]
      simp
    have h1 := tkL_back a ((encL b).drop (encL a).length) (max (a.length : Int) b.length) ha hla (by omega)
    have h2 := tkL_back b [] (max (a.length : Int) b.length) hb hlb (by omega)
    rw [List.append_nil, e, h1] at h2
    simp at h2
    exact h2.1
  by_cases hl : (encL a).length ≤ (encL b).length
  · refine key a b ha hb hla hlb hl ?_
    rw [Nat.min_eq_left hl, List.take_length] at h
    exact h
  · refine (key b a hb ha hlb hla (by omega) ?_).symm
    rw [Nat.min_eq_right (by omega), List.take_length] at h
    exact h.symm
end Go.Proofs.YtcoacgfciilplaaDoor.mth
end

section
namespace Go.Proofs.YtcoacgfciilplaaDoor
open Go.RowKit
set_option linter.unusedVariables false

theorem zig_bits (n : Int) (h1 : -9223372036854775808 ≤ n) (h2 : n ≤ 9223372036854775807) :
    bits .xor .u64 (IntKind.u64.wrap (IntKind.u64.wrap n * 2)) (IntKind.u64.wrap (n / 9223372036854775808)) = ((mth.zig n : Nat) : Int) := by
  unfold mth.zig
  by_cases h : 0 ≤ n
  · rw [if_pos h]
    have e1 : IntKind.u64.wrap (IntKind.u64.wrap n * 2) = (((2 * n).toNat : Nat) : Int) := by rw [IntKind.wrap_u64, IntKind.wrap_u64]; omega
    have e2 : IntKind.u64.wrap (n / 9223372036854775808) = ((0 : Nat) : Int) := by rw [IntKind.wrap_u64]; omega
    rw [e1, e2, u64_xor_nat _ _ (by omega) (by omega), Nat.xor_zero]
  · rw [if_neg h]
    have e1 : IntKind.u64.wrap (IntKind.u64.wrap n * 2) = (((18446744073709551616 + 2 * n).toNat : Nat) : Int) := by rw [IntKind.wrap_u64, IntKind.wrap_u64]; omega
    have e2 : IntKind.u64.wrap (n / 9223372036854775808) = ((18446744073709551615 : Nat) : Int) := by rw [IntKind.wrap_u64]; omega
    rw [e1, e2, u64_xor_nat _ _ (by omega) (by omega)]
    have hx : ∀ a b : Nat, a < 2 ^ 64 → b = 2 ^ 64 - 1 → a ^^^ b = 2 ^ 64 - 1 - a := fun a b ha hb => by
      subst hb
      apply Nat.eq_of_testBit_eq
      intro i
      rw [Nat.testBit_xor, Nat.testBit_two_pow_sub_one, show 2 ^ 64 - 1 - a = 2 ^ 64 - (a + 1) from by omega, Nat.testBit_two_pow_sub_succ ha]
      by_cases hi : i < 64
      · simp [hi]
      · rw [Nat.testBit_lt_two_pow (Nat.lt_of_lt_of_le ha (Nat.pow_le_pow_right (by omega) (by omega)))]
        simp [hi]
    rw [hx _ _ (by omega) rfl]
    omega

theorem u8_andNot128 (c : Nat) (h : c < 256) : bits .andNot .u8 (c : Int) 128 = ((c % 128 : Nat) : Int) := by
  have : ∀ c : _root_.Fin 256, bits .andNot .u8 (c.val : Int) 128 = ((c.val % 128 : Nat) : Int) := by decide +kernel
  exact this ⟨c, h⟩
theorem u8_and128 (c : Nat) (h : c < 256) : bits .and .u8 (c : Int) 128 = if (128 : Int) ≤ (c : Int) then 128 else 0 := by
  have : ∀ c : _root_.Fin 256, bits .and .u8 (c.val : Int) 128 = if (128 : Int) ≤ (c.val : Int) then 128 else 0 := by decide +kernel
  exact this ⟨c, h⟩

theorem xor_comm_i64 (a b : Int) : bits .xor .i64 a b = bits .xor .i64 b a := by
  show IntKind.i64.wrap ((BitVec.ofInt 64 a ^^^ BitVec.ofInt 64 b).toNat : Int) = IntKind.i64.wrap ((BitVec.ofInt 64 b ^^^ BitVec.ofInt 64 a).toNat : Int)
  rw [BitVec.xor_comm]
theorem xor_zero_i64 (x : Nat) (hx : x < 9223372036854775808) : bits .xor .i64 (x : Int) 0 = (x : Int) := by
  show IntKind.i64.wrap ((BitVec.ofInt 64 (x : Int) ^^^ BitVec.ofInt 64 0).toNat : Int) = _
  have h2 : (BitVec.ofInt 64 (x : Int)).toNat = x := by
    rw [BitVec.ofInt_natCast, BitVec.toNat_ofNat]; exact Nat.mod_eq_of_lt (by omega)
  have h1 : (BitVec.ofInt 64 0).toNat = 0 := by decide
  rw [BitVec.toNat_xor, h1, h2, Nat.xor_zero, IntKind.wrap_i64]
  omega
theorem zag_bits (x : Nat) (h : x < 18446744073709551616) : bits .xor .i64 ((x : Int) / 2) (Go.RowKit.wrap64 (-Go.RowKit.wrap64 (bits .and .u64 (x : Int) 1))) = mth.zag x := by
  rw [Lib.u64_and1 (x : Int) (by omega) (by omega)]
  have e : ((x : Int) / 2) = ((x / 2 : Nat) : Int) := by omega
  unfold mth.zag
  by_cases h0 : x % 2 = 0
  · have e0 : (x : Int) % 2 = 0 := by omega
    rw [if_pos h0, e, e0]
    rw [show Go.RowKit.wrap64 (-Go.RowKit.wrap64 0) = 0 by decide +kernel]
    exact xor_zero_i64 (x / 2) (by omega)
  · have e0 : (x : Int) % 2 = 1 := by omega
    rw [if_neg h0, e, e0]
    have e1 : Go.RowKit.wrap64 (-Go.RowKit.wrap64 1) = -1 := by decide +kernel
    rw [e1, xor_comm_i64, Lib.i64_not _ (by omega)]

theorem or_part (X d k : Nat) (hX : X < 128 ^ k) (h64 : X + 128 ^ k * d < 18446744073709551616) : bits .or .u64 (X : Int) (IntKind.u64.wrap ((d : Int) * 2 ^ (k * 7))) = ((X + 128 ^ k * d : Nat) : Int) := by
  have hp : 128 ^ k = 2 ^ (k * 7) := by rw [Nat.mul_comm k 7, Nat.pow_mul]
  rw [hp] at hX h64 ⊢
  have hdn : d * 2 ^ (k * 7) < 18446744073709551616 := by rw [Nat.mul_comm]; omega
  have e : IntKind.u64.wrap ((d : Int) * 2 ^ (k * 7)) = ((d * 2 ^ (k * 7) : Nat) : Int) := by
    have h1 : (d : Int) * 2 ^ (k * 7) = ((d * 2 ^ (k * 7) : Nat) : Int) := by simp
    rw [h1, IntKind.wrap_u64]
    omega
  rw [e, u64_or_nat _ _ (by omega) hdn]
  congr 1
  have := Nat.shiftLeft_add_eq_or_of_lt hX d
  rw [Nat.shiftLeft_eq] at this
  rw [Nat.or_comm, ← this, Nat.mul_comm d, Nat.add_comm]

theorem zag_e (Y : Nat) (h : Y < 18446744073709551616) (he : Y % 2 = 0) : Go.RowKit.wrap64 (IntKind.u64.wrap ((Y : Int) / 2)) = mth.zag Y := by
  rw [IntKind.wrap_u64, mth.zag, if_pos he]
  unfold Go.RowKit.wrap64
  omega
theorem zag_o (Y : Nat) (h : Y < 18446744073709551616) (he : ¬ Y % 2 = 0) : Go.RowKit.wrap64 (Go.RowKit.wrap64 (-Go.RowKit.wrap64 (IntKind.u64.wrap ((Y : Int) / 2))) - 1) = mth.zag Y := by
  rw [IntKind.wrap_u64, mth.zag, if_neg he]
  unfold Go.RowKit.wrap64
  omega

end Go.Proofs.YtcoacgfciilplaaDoor
end

section
namespace Go.Proofs.YtcoacgfciilplaaDoor
open Go.RowKit
set_option linter.unusedVariables false
set_option linter.unusedSimpArgs false

/-- bytes as rows -/
def u8R (l : List Nat) : List (List Dat) := l.map fun c : Nat => [.int .u8 (c : Int)]
theorem u8R_app (a b : List Nat) : u8R (a ++ b) = u8R a ++ u8R b := by simp [u8R]
theorem u8R_len (a : List Nat) : (u8R a).length = a.length := by simp [u8R]
theorem u8R_get {l : List Nat} {i : Nat} (h : i < l.length) (d : Dat) : ((u8R l).getD i []).getD 0 d = .int .u8 (l[i] : Int) := by
  simp [u8R, List.getD_eq_getElem?_getD, List.getElem?_eq_getElem h]
theorem sh63 : (2 : Int) ^ (min (Int.toNat 63) 64) = 9223372036854775808 := by decide
theorem zig_of (n : Int) (h1 : -9223372036854775808 ≤ n) (h2 : n ≤ 9223372036854775807) :
    Ar.xor.of .u64 (Ar.shl.of .u64 (IntKind.u64.wrap n) 1) (IntKind.u64.wrap (Ar.shr.of .i64 n 63)) = ((mth.zig n : Nat) : Int) := by
  have := zig_bits n h1 h2
  have e1 : Ar.shl.of .u64 (IntKind.u64.wrap n) 1 = IntKind.u64.wrap (IntKind.u64.wrap n * 2) := rfl
  have e2 : Ar.shr.of .i64 n 63 = n / 9223372036854775808 := by
    show n.fdiv (2 ^ 63) = _
    rw [Int.fdiv_eq_ediv_of_nonneg _ (by decide)]; rfl
  rw [e1, e2]; exact this
theorem zag_of (x : Nat) (h : x < 18446744073709551616) : Ar.xor.of .i64 (IntKind.i64.wrap (Ar.shr.of .u64 (x : Int) 1)) (IntKind.i64.wrap (0 - IntKind.i64.wrap (Ar.and.of .u64 (x : Int) 1))) = mth.zag x := by
  have := zag_bits x h
  have e1 : Ar.shr.of .u64 (x : Int) 1 = (x : Int) / 2 := by
    show (x : Int).fdiv (2 ^ 1) = _
    rw [Int.fdiv_eq_ediv_of_nonneg _ (by decide)]; rfl
  have e2 : IntKind.i64.wrap ((x : Int) / 2) = (x : Int) / 2 := wrap64 (by omega) (by omega)
  have w64 : ∀ y, IntKind.i64.wrap y = RowKit.wrap64 y := fun y => by rw [IntKind.wrap_i64, RowKit.wrap64]
  rw [e1, e2, Int.zero_sub, w64, w64]; exact this
def k_Cl8 : Nat := 41
def sg_Cl8 : Sig := ⟨[(false, [.list 5])], [(false, [.rows 5])], true, false, false, false, false⟩
def tr_Cl8 : Tree := (.ite (.isnil (.var 0))
 (.ret [.emp])
 (.ob (.cmp .le (.len (.app .emp (.var 0))) (.int .i64 140737488355328))
 (.ret [(.app .emp (.var 0))])))
theorem wk_Cl8 : walk E0.cx (sgsN []) 0 41 sg_Cl8 = tr_Cl8 := by kernel_rfl
theorem bo_Cl8 : ∃ x, bodyOf E0.P 41 = some x := bo_of (by kernel_rfl)
def Cl8_s : Spec := fun ds Q => (argL ds 0).length ≤ 100000000 ∧ Q [.rows (argL ds 0)]
theorem Cl8_h : Holds E0 k_Cl8 sg_Cl8 Cl8_s := con_fnN wf0 mix0 g0 [] rfl wk_Cl8 rfl (by
  intro Φ hΦ ds Q hs hnil ⟨hn, h⟩
  have hl : ds.length = 1 := hs.length.symm
  simp only [tr_Cl8, wp, den_int, den_bool, den_nili, den_ar, den_cmp, den_not, den_len, den_elem, den_isnil, den_errI, den_ifc, den_rep, den_push, den_app, den_emp, den_upd, row0_econs, row0_enil, den_and, den_beq, den_nil, toInt_int, toBool_bool, xs_rows, xs_list, dflt_int, dflt_bool, of_eq, of_ne, of_lt, of_le, of_gt, of_ge, of_add, of_sub, of_rem, List.map_cons, List.map_nil, Dat.bool.injEq, decide_eq_true_eq, decide_eq_false_iff_not, Bool.not_eq_true', Bool.not_eq_false', beq_iff_eq, bne_iff_ne, beq_eq_false_iff_ne, bne_eq_false_iff_eq, ne_eq, List.append_assoc, List.cons_append, List.nil_append, @den_var0 E0.Δ ds, den_varA, den_varB, hl, Nat.reduceLT, Nat.reduceLeDiff, Nat.reduceSub, List.getD_cons_zero, List.getD_cons_succ, argL_fold ds, argI_fold ds, List.append_assoc, List.cons_append, List.nil_append, toInt_int, toBool_bool, xs_rows, xs_list, Int.toNat_natCast, Dat.bool.injEq]
  refine ⟨fun h0 => ?_, fun _ => ⟨by omega, h⟩⟩
  have : argL ds 0 = [] := by
    rw [← argL_fold]
    exact hnil _ (getD_memL (by omega)) h0
  rw [this] at h; exact h)
noncomputable def con_Cl8 : Con E0 := ⟨k_Cl8, sg_Cl8, Cl8_s, rfl, bo_Cl8, Cl8_h⟩
/-- bytes that bytes are put behind -/
def k_wPut : Nat := 34
def sg_wPut : Sig := ⟨[(false, [.list 5]), (false, [.int .i64])], [(false, [.rows 5])], true, false, false, false, false⟩
def tr_wPut : Tree := (.call k_Cl8 [(.var 0)] [(.rows 5)]
(.loop [(.app .emp (.var 2)), (.ar .xor .u64 (.ar .shl .u64 (.conv .u64 (.var 1)) (.int .u64 1)) (.conv .u64 (.ar .shr .i64 (.var 1) (.int .u64 63))))] [(.rows 5), (.int .u64)]
 (.ite (.cmp .ge (.var 4) (.int .u64 128))
  (.ob (.cmp .le (.len (.push (.var 3) (.econs (.ar .or .u8 (.conv .u8 (.var 4)) (.int .u8 128)) .enil))) (.int .i64 140737488355328))
  (.again 0 [(.push (.var 3) (.econs (.ar .or .u8 (.conv .u8 (.var 4)) (.int .u8 128)) .enil)), (.ar .shr .u64 (.var 4) (.int .u64 7))]))
  (.ob (.cmp .le (.len (.push (.var 3) (.econs (.conv .u8 (.var 4)) .enil))) (.int .i64 140737488355328))
  (.ret [(.push (.var 3) (.econs (.conv .u8 (.var 4)) .enil))])))))
theorem wk_wPut : walk E0.cx (sgsN [(41, sg_Cl8)]) 0 34 sg_wPut = tr_wPut := by kernel_rfl
theorem bo_wPut : ∃ x, bodyOf E0.P 34 = some x := bo_of (by kernel_rfl)
theorem sp_wPut_Cl8 : specC [con_Cl8] k_Cl8 = Cl8_s := rfl
def wPut_s : Spec := fun ds Q => (argL ds 0).length ≤ 90000000 ∧ -9223372036854775808 ≤ argI ds 1 ∧ argI ds 1 ≤ 9223372036854775807 ∧ Q [.rows (argL ds 0 ++ u8R (mth.encI (argI ds 1)))]
theorem or128_of (y : Nat) (h : y < 18446744073709551616) : Ar.or.of .u8 (IntKind.u8.wrap (y : Int)) 128 = ((y % 128 + 128 : Nat) : Int) := by
  have e : IntKind.u8.wrap (y : Int) = ((y % 256 : Nat) : Int) := by rw [IntKind.wrap_u8]; omega
  rw [e]
  have key : ∀ c : _root_.Fin 256, Ar.or.of .u8 (c.val : Int) 128 = ((c.val % 128 + 128 : Nat) : Int) := by decide +kernel
  have := key ⟨y % 256, Nat.mod_lt _ (by decide)⟩
  rw [this]
  congr 1
  show y % 256 % 128 + 128 = _
  omega
theorem shr7 (y : Nat) : Ar.shr.of .u64 (y : Int) 7 = ((y / 128 : Nat) : Int) := by
  show (y : Int).fdiv (2 ^ 7) = _
  rw [Int.fdiv_eq_ediv_of_nonneg _ (by decide)]; rfl
theorem wPut_h : Holds E0 k_wPut sg_wPut wPut_s := con_fn wf0 mix0 g0 [con_Cl8] rfl wk_wPut rfl (by
  intro Φ hΦ ds Q hs ⟨hn, n1, n2, h⟩
  have hl : ds.length = 2 := hs.length.symm
  have sp : Φ k_Cl8 = Cl8_s := by rw [hΦ]; rfl
  clear hΦ
  simp only [tr_wPut, wp, den_int, den_bool, den_nili, den_ar, den_cmp, den_not, den_len, den_elem, den_isnil, den_errI, den_ifc, den_rep, den_push, den_app, den_emp, den_upd, row0_econs, row0_enil, den_and, den_beq, den_nil, toInt_int, toBool_bool, xs_rows, xs_list, dflt_int, dflt_bool, of_eq, of_ne, of_lt, of_le, of_gt, of_ge, of_add, of_sub, of_rem, List.map_cons, List.map_nil, Dat.bool.injEq, decide_eq_true_eq, decide_eq_false_iff_not, Bool.not_eq_true', Bool.not_eq_false', beq_iff_eq, bne_iff_ne, beq_eq_false_iff_ne, bne_eq_false_iff_eq, ne_eq, List.append_assoc, List.cons_append, List.nil_append, allS, sp, Cl8_s, den_conv, argL_c0, @den_var0 E0.Δ ds, den_varA, den_varB, hl, Nat.reduceLT, Nat.reduceLeDiff, Nat.reduceSub, List.getD_cons_zero, List.getD_cons_succ, argL_fold ds, argI_fold ds, List.append_assoc, List.cons_append, List.nil_append, toInt_int, toBool_bool, xs_rows, xs_list, Int.toNat_natCast, Dat.bool.injEq]
  rw [zig_of _ n1 n2]
  have hX := mth.zig_lt _ n1 n2
  refine ⟨by omega, fun xs m => ∃ (k y : Nat) (dn : List Nat), mth.Going (mth.zig (argI ds 1)) k y dn ∧ xs = [.rows (argL ds 0 ++ u8R dn), .int .u64 (y : Int)] ∧ m = y, ⟨_, 0, _, [], mth.going_start _ hX, by simp [u8R], rfl⟩, ?_⟩
  rintro d hd n m ⟨k, y, dn, hg, e, hm⟩
  cases e
  have hlen := hg.len
  have hk := hg.hk
  have hle := hg.le
  refine ⟨fun h128 => ⟨?_, ?_⟩, fun h128 => ⟨?_, ?_⟩⟩
  · simp only [xs_rows, List.length_append, u8R_len, List.length_cons, List.length_nil]; omega
  · have hy : ¬ y < 128 := by omega
    refine ⟨y / 128, by omega, k + 1, y / 128, _, mth.going_step hg hy, ?_, rfl⟩
    rw [or128_of y (by omega), shr7, u8R_app, ← List.append_assoc]; rfl
  · simp only [xs_rows, List.length_append, u8R_len, List.length_cons, List.length_nil]; omega
  · have hy : y < 128 := by omega
    have he := (mth.going_end hg hy).1
    have ew : IntKind.u8.wrap (y : Int) = (y : Int) := by rw [IntKind.wrap_u8]; omega
    rw [ew]
    have e2 : u8R (mth.encI (argI ds 1)) = u8R dn ++ [[.int .u8 (y : Int)]] := by
      rw [mth.encI, ← he, u8R_app]; rfl
    rw [e2, ← List.append_assoc] at h
    exact h)
noncomputable def con_wPut : Con E0 := ⟨k_wPut, sg_wPut, wPut_s, rfl, bo_wPut, wPut_h⟩
theorem stands_of (n : Int) (h1 : -9223372036854775808 ≤ n) (h2 : n ≤ 9223372036854775807) : (if 0 ≤ n then Dat.int .u64 (Ar.mul.of .u64 2 (IntKind.u64.wrap n)) else Dat.int .u64 (IntKind.u64.wrap (Ar.mul.of .u64 2 (IntKind.u64.wrap (IntKind.i64.wrap (0 - IntKind.i64.wrap (n + 1)))) + 1))) = .int .u64 ((mth.zig n : Nat) : Int) := by
  by_cases h : 0 ≤ n
  · rw [if_pos h]
    congr 1
    simp only [Ar.of, mth.zig, if_pos h, IntKind.wrap_u64]
    omega
  · rw [if_neg h, wrap64 (x := n + 1) (by omega) (by omega), wrap64 (by omega) (by omega)]
    congr 1
    simp only [Ar.of, mth.zig, if_neg h, IntKind.wrap_u64]
    omega
theorem quo128 (y : Nat) (h : y < 18446744073709551616) : Ar.quo.of .u64 (y : Int) 128 = ((y / 128 : Nat) : Int) := by
  show IntKind.u64.wrap ((y : Int).tdiv 128) = _
  rw [Int.tdiv_eq_ediv_of_nonneg (by omega), IntKind.wrap_u64]
  omega
theorem rem128 (y : Nat) (h : y < 18446744073709551616) : IntKind.u8.wrap (IntKind.u8.wrap ((y : Int).tmod 128) + 128) = ((y % 128 + 128 : Nat) : Int) := by
  rw [Int.tmod_eq_emod_of_nonneg (by omega), IntKind.wrap_u8, IntKind.wrap_u8]
  omega
def k_rBytes2 : Nat := 23
def sg_rBytes2 : Sig := ⟨[(false, [.int .i64])], [(false, [.rows 5])], true, false, true, false, false⟩
def tr_rBytes2 : Tree := (.loop [(.ite (.cmp .ge (.var 0) (.int .i64 0)) (.ar .mul .u64 (.int .u64 2) (.conv .u64 (.var 0))) (.ar .add .u64 (.ar .mul .u64 (.int .u64 2) (.conv .u64 (.ar .sub .i64 (.int .i64 0) (.ar .add .i64 (.var 0) (.int .i64 1))))) (.int .u64 1))), .emp] [(.int .u64), (.rows 5)]
 (.ite (.cmp .gt (.var 1) (.int .u64 127))
  (.ob (.cmp .le (.len (.push (.var 2) (.econs (.ar .add .u8 (.conv .u8 (.ar .rem .u64 (.var 1) (.int .u64 128))) (.int .u8 128)) .enil))) (.int .i64 140737488355328))
  (.again 0 [(.ar .quo .u64 (.var 1) (.int .u64 128)), (.push (.var 2) (.econs (.ar .add .u8 (.conv .u8 (.ar .rem .u64 (.var 1) (.int .u64 128))) (.int .u8 128)) .enil))]))
  (.ob (.cmp .le (.len (.push (.var 2) (.econs (.conv .u8 (.var 1)) .enil))) (.int .i64 140737488355328))
  (.ret [(.push (.var 2) (.econs (.conv .u8 (.var 1)) .enil))]))))
theorem wk_rBytes2 : walk E0.cx (sgsN []) 0 23 sg_rBytes2 = tr_rBytes2 := by kernel_rfl
theorem bo_rBytes2 : ∃ x, bodyOf E0.P 23 = some x := bo_of (by kernel_rfl)
def rBytes2_s : Spec := fun ds Q => -9223372036854775808 ≤ argI ds 0 ∧ argI ds 0 ≤ 9223372036854775807 ∧ Q [.rows (u8R (mth.encI (argI ds 0)))]
theorem rBytes2_h : Holds E0 k_rBytes2 sg_rBytes2 rBytes2_s := con_fn wf0 mix0 g0 [] rfl wk_rBytes2 rfl (by
  intro Φ hΦ ds Q hs ⟨n1, n2, h⟩
  have hl : ds.length = 1 := hs.length.symm
  clear hΦ
  simp only [tr_rBytes2, wp, den_int, den_bool, den_nili, den_ar, den_cmp, den_not, den_len, den_elem, den_isnil, den_errI, den_ifc, den_rep, den_push, den_app, den_emp, den_upd, row0_econs, row0_enil, den_and, den_beq, den_nil, toInt_int, toBool_bool, xs_rows, xs_list, dflt_int, dflt_bool, of_eq, of_ne, of_lt, of_le, of_gt, of_ge, of_add, of_sub, of_rem, List.map_cons, List.map_nil, Dat.bool.injEq, decide_eq_true_eq, decide_eq_false_iff_not, Bool.not_eq_true', Bool.not_eq_false', beq_iff_eq, bne_iff_ne, beq_eq_false_iff_ne, bne_eq_false_iff_eq, ne_eq, List.append_assoc, List.cons_append, List.nil_append, allS, den_conv, den_ite, @den_var0 E0.Δ ds, den_varA, den_varB, hl, Nat.reduceLT, Nat.reduceLeDiff, Nat.reduceSub, List.getD_cons_zero, List.getD_cons_succ, argL_fold ds, argI_fold ds, List.append_assoc, List.cons_append, List.nil_append, toInt_int, toBool_bool, xs_rows, xs_list, Int.toNat_natCast, Dat.bool.injEq]
  have hX := mth.zig_lt _ n1 n2
  rw [stands_of _ n1 n2]
  refine ⟨fun xs m => ∃ (k y : Nat) (dn : List Nat), mth.Going (mth.zig (argI ds 0)) k y dn ∧ xs = [.int .u64 (y : Int), .rows (u8R dn)] ∧ m = y, ⟨_, 0, _, [], mth.going_start _ hX, rfl, rfl⟩, ?_⟩
  rintro n d hd m ⟨k, y, dn, hg, e, hm⟩
  cases e
  have hlen := hg.len
  have hk := hg.hk
  have hle := hg.le
  refine ⟨fun h128 => ⟨?_, ?_⟩, fun h128 => ⟨?_, ?_⟩⟩
  · simp only [xs_rows, List.length_append, u8R_len, List.length_cons, List.length_nil]; omega
  · have hy : ¬ y < 128 := by omega
    refine ⟨y / 128, by omega, k + 1, y / 128, _, mth.going_step hg hy, ?_, rfl⟩
    rw [quo128 y (by omega), rem128 y (by omega), u8R_app]; rfl
  · simp only [xs_rows, List.length_append, u8R_len, List.length_cons, List.length_nil]; omega
  · have hy : y < 128 := by omega
    have he := (mth.going_end hg hy).1
    have ew : IntKind.u8.wrap (y : Int) = (y : Int) := by rw [IntKind.wrap_u8]; omega
    rw [ew]
    have e2 : u8R (mth.encI (argI ds 0)) = u8R dn ++ [[.int .u8 (y : Int)]] := by
      rw [mth.encI, ← he, u8R_app]; rfl
    rw [e2] at h
    exact h)
noncomputable def con_rBytes2 : Con E0 := ⟨k_rBytes2, sg_rBytes2, rBytes2_s, rfl, bo_rBytes2, rBytes2_h⟩
-- lacks mulligan/wire.zag : wzag
def wzag_s : Spec := fun ds Q => ∃ x : Nat, x < 18446744073709551616 ∧ argI ds 0 = (x : Int) ∧ Q [.int .i64 (mth.zag x)]
def wTake_s : Spec := fun ds Q => ∃ l : List Nat, argL ds 0 = u8R l ∧ (∀ c ∈ l, c < 256) ∧ l.length ≤ 90000000 ∧ ∀ d : Dat, d.xs = (if (mth.tk 0 0 l).2.2 = 0 then u8R (l.drop (mth.tk 0 0 l).2.1) else []) → Q [.int .i64 (mth.tk 0 0 l).1, d, errV (mth.tk 0 0 l).2.2]
def rTake2_s : Spec := fun ds Q => ∃ l : List Nat, argL ds 0 = u8R l ∧ (∀ c ∈ l, c < 256) ∧ l.length ≤ 90000000 ∧ Q [.int .i64 (mth.tk 0 0 l).1, .int .i64 ((mth.tk 0 0 l).2.1 : Nat), .int .i64 (mth.tk 0 0 l).2.2]
end Go.Proofs.YtcoacgfciilplaaDoor
end

section
namespace Go.Proofs.YtcoacgfciilplaaDoor
open Go.RowKit
set_option linter.unusedVariables false
set_option linter.unusedSimpArgs false

theorem byte_has {d : Dat} (h : Has E0.Δ (.list 5) d) (hi : InD d) : ∃ l : List Nat, d.xs = u8R l ∧ (∀ c ∈ l, c < 256) ∧ l.length ≤ maxLen := by
  cases h with
  | list _ A n c xs hl hh =>
    cases hi with
    | list v sz _ hm hr =>
      have key : ∀ xs : List (List Dat), (∀ r ∈ xs, r.length = (E0.Δ.row 5).length) → (∀ row ∈ xs, ∀ (c : Nat) (s : Srt) (d : Dat), (E0.Δ.row 5)[c]? = some s → row[c]? = some d → Has E0.Δ s d) → (∀ r ∈ xs, ∀ d ∈ r, InD d) → ∃ l : List Nat, xs = u8R l ∧ ∀ c ∈ l, c < 256 := by
        intro xs
        induction xs with
        | nil => intro _ _ _; exact ⟨[], rfl, by simp⟩
        | cons x xs ih =>
          intro h1 h2 h3
          obtain ⟨l, e1, e2⟩ := ih (fun r hr => h1 r (List.mem_cons_of_mem _ hr)) (fun r hr => h2 r (List.mem_cons_of_mem _ hr)) (fun r hr => h3 r (List.mem_cons_of_mem _ hr))
          have hx := h2 x List.mem_cons_self
          have hin := h3 x List.mem_cons_self
          have hlx : x.length = 1 := h1 x List.mem_cons_self
          match x, hlx with
          | [d], _ =>
            have hd : Has E0.Δ (.int .u8) d := hx 0 _ d rfl rfl
            have hid := hin d List.mem_cons_self
            cases hd with
            | int k n =>
              cases hid with
              | int _ _ hw =>
                simp only [Lit.wf, Bool.and_eq_true, decide_eq_true_eq] at hw
                have h0 : 0 ≤ n := hw.1
                have h255 : n ≤ 255 := hw.2
                obtain ⟨m, rfl⟩ := Int.eq_ofNat_of_zero_le h0
                refine ⟨m :: l, by rw [e1]; rfl, fun c hc => ?_⟩
                rcases List.mem_cons.1 hc with rfl | hc
                · omega
                · exact e2 c hc
      obtain ⟨l, e1, e2⟩ := key xs hl hh hr
      exact ⟨l, e1, e2, by simpa [e1, u8R_len] using hm⟩
theorem encI_byte {n : Int} (h1 : -9223372036854775808 ≤ n) (h2 : n ≤ 9223372036854775807) : ∀ c ∈ mth.encI n, c < 256 := by
  have h := mth.zig_lt n h1 h2
  exact mth.encF_byte 9 _ (Nat.lt_of_lt_of_le h (by decide))
/-- bytes are the same -/
theorem loop_toList (b : ByteArray) : ∀ (n i : Nat) (r : List UInt8), b.size - i = n → ByteArray.toList.loop b i r = r.reverse ++ b.data.toList.drop i
  | 0, i, r, h => by
    unfold ByteArray.toList.loop
    have hs : b.data.toList.length = b.size := Array.length_toList
    rw [if_neg (by omega), List.drop_of_length_le (by omega), List.append_nil]
  | n + 1, i, r, h => by
    unfold ByteArray.toList.loop
    have hs : b.data.toList.length = b.size := Array.length_toList
    have hi : i < b.data.toList.length := by omega
    rw [if_pos (by omega), loop_toList b n (i + 1) _ (by omega), List.drop_eq_getElem_cons hi]
    have : b.get! i = b.data.toList[i] := by
      have : i < b.data.size := by simpa using hi
      simp only [ByteArray.get!]
      rw [Array.getElem_toList, getElem!_pos b.data i this]
    rw [this]
    simp
theorem toList_data (b : ByteArray) : b.toList = b.data.toList := (loop_toList b _ 0 [] rfl).trans (by simp)
theorem bytesOf_u8R (l : List Nat) : bytesOf (u8R l) = ⟨(l.map UInt8.ofNat).toArray⟩ := by
  have e : ∀ a : Nat, (Dat.int .u8 (a : Int)).toInt.toNat = a := fun a => rfl
  simp [bytesOf, u8R, e]
theorem u8_inj : ∀ {l m : List Nat}, (∀ c ∈ l, c < 256) → (∀ c ∈ m, c < 256) → (l.map UInt8.ofNat = m.map UInt8.ofNat ↔ l = m)
  | [], [], _, _ => by simp
  | [], _ :: _, _, _ => by simp
  | _ :: _, [], _, _ => by simp
  | a :: l, b :: m, h1, h2 => by
    have ih := u8_inj (fun c hc => h1 c (List.mem_cons_of_mem _ hc)) (fun c hc => h2 c (List.mem_cons_of_mem _ hc))
    have ha := h1 a List.mem_cons_self
    have hb := h2 b List.mem_cons_self
    simp only [List.map_cons, List.cons.injEq, ih]
    refine and_congr_left fun _ => ⟨fun h => ?_, fun h => by rw [h]⟩
    have := congrArg UInt8.toNat h
    rw [UInt8.toNat_ofNat', UInt8.toNat_ofNat'] at this
    omega
theorem u8R_inj {l m : List Nat} (h : u8R l = u8R m) : l = m := by
  have h2 := congrArg (List.map fun r : List Dat => (r.headD (.int .u8 0)).toInt.toNat) h
  have e : ∀ l : List Nat, (u8R l).map (fun r : List Dat => (r.headD (.int .u8 0)).toInt.toNat) = l := fun l => by
    unfold u8R
    rw [List.map_map]
    exact (List.map_congr_left fun a _ => rfl).trans (List.map_id l)
  rw [e, e] at h2
  exact h2
theorem strD_toList {l : List Nat} : (strD (.val (.string (bytesOf (u8R l))))).toList = l.map UInt8.ofNat := by
  rw [bytesOf_u8R, strD, toList_data]
def k_sameB : Nat := 15
def sg_sameB : Sig := ⟨[(false, [.list 5]), (false, [.list 5])], [(false, [.bool])], false, false, false, false, false⟩
def tr_sameB : Tree := (.ret [(.seq (.sof (.var 0)) (.sof (.var 1)))])
theorem wk_sameB : walk E0.cx (sgsN []) 0 15 sg_sameB = tr_sameB := by kernel_rfl
theorem bo_sameB : ∃ x, bodyOf E0.P 15 = some x := bo_of (by kernel_rfl)
def sameB_s : Spec := fun ds Q => ∃ l m : List Nat, argL ds 0 = u8R l ∧ argL ds 1 = u8R m ∧ (∀ c ∈ l, c < 256) ∧ (∀ c ∈ m, c < 256) ∧ Q [.bool (decide (l = m))]
theorem sameB_h : Holds E0 k_sameB sg_sameB sameB_s := con_fn wf0 mix0 g0 [] rfl wk_sameB rfl (by
  intro Φ hΦ ds Q hs ⟨l, m, h1, h2, h3, h4, h⟩
  clear hΦ
  simp only [tr_sameB, wp, List.map_cons, List.map_nil, den, argL_fold, h1, h2, strD_toList]
  refine cast (congrArg Q ?_) h
  have e := u8_inj h3 h4
  congr 2
  rw [Bool.eq_iff_iff, decide_eq_true_eq, beq_iff_eq, e])
noncomputable def con_sameB : Con E0 := ⟨k_sameB, sg_sameB, sameB_s, rfl, bo_sameB, sameB_h⟩
end Go.Proofs.YtcoacgfciilplaaDoor
end
