import Derived.Test.YtnhahmgbgocdgaaDoorM9

set_option linter.unusedVariables false
set_option linter.unusedSimpArgs false

section
namespace Go.Proofs.YtnhahmgbgocdgaaDoor
open Go.RowKit
set_option linter.unusedVariables false
set_option linter.unusedSimpArgs false

/-- a contract of a function that calls itself: by what gets less -/
theorem holds_rec {E : Env} {f : FuncId} {sg : Sig} {Φ : Spec} (m : List Dat → Nat)
    (step : ∀ n, Holds E f sg (fun ds Q => m ds < n ∧ Φ ds Q) → Holds E f sg (fun ds Q => m ds < n + 1 ∧ Φ ds Q)) : Holds E f sg Φ := by
  have all : ∀ n, Holds E f sg (fun ds Q => m ds < n ∧ Φ ds Q) := by
    intro n
    induction n with
    | zero => intro w ds Q _ _ _ _ h; exact absurd h.1 (Nat.not_lt_zero _)
    | succ n ih => exact step n ih
  intro w ds Q h1 h2 h3 h4 h5
  exact all (m ds + 1) w ds Q h1 h2 h3 h4 ⟨Nat.lt_succ_self _, h5⟩

/-- .. its callees' contracts behind a name -/
theorem con_fn {E : Env} (hW : E.Wf) (hmix : E.P.follows .mixedOrders = true) (hγ : E.γ = []) (T : List (Con E)) {ns : List (Nat × Sig)} (hn : names T = ns) {f : Nat} {sg : Sig} {tr : Tree} (hT : walk E.cx (sgsN ns) 0 f sg = tr) (hsg : sg.ok = true) {Ψ : Spec}
    (h : ∀ Φ : Nat → Spec, Φ = specC T → ∀ ds Q, All2 (Has E.Δ) (Sig.sorts sg.params) ds → Ψ ds Q → wp E.Δ Φ Q tr ds []) : Holds E f sg Ψ :=
  con_by hW hmix hγ T hn hT hsg (h _ rfl)

/-- a slice that is nil has nothing -/
def NilOk (d : Dat) : Prop := isNilI d = true → d.xs = []
theorem nilOk {d : Dat} {w : World} (ho : OkD w d) : NilOk d := fun hn => by
  cases ho with
  | list v sz xs hr _ =>
    obtain ⟨A, c, rfl, hc, hlen, ha⟩ := hr
    cases A with
    | some a => cases hn
    | none =>
      cases xs with
      | nil => rfl
      | cons x xs =>
        obtain ⟨ad, e, _⟩ := ha (by simp)
        cases e
  | rows xs _ => cases hn
  | _ => rfl
theorem con_fnN {E : Env} (hW : E.Wf) (hmix : E.P.follows .mixedOrders = true) (hγ : E.γ = []) (T : List (Con E)) {ns : List (Nat × Sig)} (hn : names T = ns) {f : Nat} {sg : Sig} {tr : Tree} (hT : walk E.cx (sgsN ns) 0 f sg = tr) (hsg : sg.ok = true) {Ψ : Spec}
    (h : ∀ Φ : Nat → Spec, Φ = specC T → ∀ ds Q, All2 (Has E.Δ) (Sig.sorts sg.params) ds → (∀ d ∈ ds, NilOk d) → Ψ ds Q → wp E.Δ Φ Q tr ds []) : Holds E f sg Ψ := fun w ds Q h1 h2 h3 h4 h5 =>
  con_fn hW hmix hγ T hn hT hsg (Ψ := fun ds Q => (∀ d ∈ ds, NilOk d) ∧ Ψ ds Q) (fun Φ hΦ ds Q hs hq => h Φ hΦ ds Q hs hq.1 hq.2) w ds Q h1 h2 h3 h4 ⟨fun d hd => nilOk (h2 d hd), h5⟩
theorem take_succ_getD {α : Type} {l : List α} {i : Nat} {d : α} (h : i < l.length) : l.take (i + 1) = l.take i ++ [l.getD i d] := by
  rw [List.getD_eq_getElem?_getD, List.getElem?_eq_getElem h, List.take_add_one, List.getElem?_eq_getElem h]; rfl
theorem drop_getD {α : Type} {l : List α} {i : Nat} {d : α} (h : i < l.length) : l.drop i = l.getD i d :: l.drop (i + 1) := by
  rw [List.getD_eq_getElem?_getD, List.getElem?_eq_getElem h, List.drop_eq_getElem_cons h]; rfl
theorem getD_memL {α : Type} {l : List α} {i : Nat} {d : α} (h : i < l.length) : l.getD i d ∈ l := by
  rw [List.getD_eq_getElem?_getD, List.getElem?_eq_getElem h]; exact List.getElem_mem h
theorem argV {Δ : Tab} {k : IntKind} {ds : List Dat} {i : Nat} (h : Has Δ (.int k) (ds.getD i (.bool false))) : ds.getD i (.bool false) = .int k (argI ds i) := by
  rw [← argI_fold]; exact has_int h
theorem den_ite (Δ : Tab) (ρ : List Dat) (c a b : Tm) : den Δ ρ (.ite c a b) = if (den Δ ρ c).toBool then den Δ ρ a else den Δ ρ b := rfl
theorem argI_c0 {d : Dat} {l : List Dat} : argI (d :: l) 0 = d.toInt := rfl
theorem argI_c1 {d : Dat} {l : List Dat} {n : Nat} : argI (d :: l) (n + 1) = argI l n := rfl
theorem argL_c0 {d : Dat} {l : List Dat} : argL (d :: l) 0 = d.xs := rfl
theorem argL_c1 {d : Dat} {l : List Dat} {n : Nat} : argL (d :: l) (n + 1) = argL l n := rfl
theorem xs_cutD {Δ : Tab} {r : Nat} {d : Dat} {l h : Nat} (hd : Has Δ (.list r) d) (h1 : l ≤ h) (h2 : h ≤ d.xs.length) : (cutD l h d).xs = (d.xs.take h).drop l := by
  cases hd with
  | list _ A n c xs hl hh =>
    have hall : xs.all (fun r' => r'.length == (Δ.row r).length) = true := List.all_eq_true.2 fun row hr => by simpa using hl row hr
    simp only [cutD]
    rw [if_pos ⟨h1, h2, hall⟩]
    rfl
theorem den_or (Δ : Tab) (ρ : List Dat) (a b : Tm) : den Δ ρ (.or a b) = .bool ((den Δ ρ a).toBool || (den Δ ρ b).toBool) := rfl
theorem den_conv (Δ : Tab) (ρ : List Dat) (k : IntKind) (a : Tm) : den Δ ρ (.conv k a) = .int k (k.wrap (den Δ ρ a).toInt) := rfl
theorem den_cutT (Δ : Tab) (ρ : List Dat) (a l h : Tm) : den Δ ρ (.cut a l h) = cutD (den Δ ρ l).toInt.toNat (den Δ ρ h).toInt.toNat (den Δ ρ a) := rfl
theorem ite_datb (c : Prop) [Decidable c] (a b : Bool) : (if c then Dat.bool a else Dat.bool b) = Dat.bool (if c then a else b) := by split <;> rfl
theorem ite_dati (k : IntKind) (c : Prop) [Decidable c] (a b : Int) : (if c then Dat.int k a else Dat.int k b) = Dat.int k (if c then a else b) := by split <;> rfl
theorem toInt_ite (c : Prop) [Decidable c] (a b : Dat) : (if c then a else b).toInt = if c then a.toInt else b.toInt := by split <;> rfl
theorem toBool_ite (c : Prop) [Decidable c] (a b : Dat) : (if c then a else b).toBool = if c then a.toBool else b.toBool := by split <;> rfl
theorem argI_row {r e : List Dat} {i k : Nat} (h : r.length = k) (hk : k ≤ i) : argI (r ++ e) i = argI e (i - k) := by
  subst h
  simp [argI, List.getD_eq_getElem?_getD, List.getElem?_append_right hk]
theorem argI_0 {d : Dat} {l : List Dat} : argI (d :: l) 0 = d.toInt := rfl
theorem argI_1 {a d : Dat} {l : List Dat} : argI (a :: d :: l) 1 = d.toInt := rfl
def errV (n : Int) : Dat := if n = 0 then .val .nilIface else .val (.iface 64 (.int .i64 n))
theorem errV_nil (n : Int) : isNilI (errV n) = decide (n = 0) := by
  unfold errV
  by_cases h : n = 0
  · rw [if_pos h, decide_eq_true h]; rfl
  · rw [if_neg h, decide_eq_false h]; rfl
theorem errV_0 : errV 0 = .val .nilIface := rfl
theorem errV_n {n : Int} (h : n ≠ 0) : errV n = .val (.iface 64 (.int .i64 n)) := if_neg h
def k_Num : Nat := 14
def sg_Num : Sig := ⟨[(false, [.err])], [(false, [.int .i64])], false, false, false, false, false⟩
def tr_Num : Tree := (.ite (.isnil (.var 0))
 (.ret [(.int .i64 0)])
 (.ite (.cmp .ne (.errI (.var 0)) (.int .i64 0))
  (.ret [(.errI (.var 0))])
  (.ret [(.int .i64 (-1))])))
theorem wk_Num : walk E0.cx (sgsN []) 0 14 sg_Num = tr_Num := by kernel_rfl
theorem bo_Num : ∃ x, bodyOf E0.P 14 = some x := bo_of (by kernel_rfl)
def Num_s : Spec := fun ds Q => ∃ n : Int, ds = [errV n] ∧ Q [.int .i64 n]
theorem Num_h : Holds E0 k_Num sg_Num Num_s := con_by wf0 mix0 g0 [] rfl wk_Num rfl (by
  intro ds Q hs ⟨n, e, h⟩
  subst e
  simp only [tr_Num, wp, den_int, den_bool, den_nili, den_ar, den_cmp, den_not, den_len, den_elem, den_isnil, den_errI, den_ifc, den_rep, den_push, den_app, den_emp, den_upd, row0_econs, row0_enil, den_and, den_beq, den_nil, toInt_int, toBool_bool, xs_rows, xs_list, dflt_int, dflt_bool, of_eq, of_ne, of_lt, of_le, of_gt, of_ge, of_add, of_sub, of_rem, List.map_cons, List.map_nil, Dat.bool.injEq, decide_eq_true_eq, decide_eq_false_iff_not, Bool.not_eq_true', Bool.not_eq_false', beq_iff_eq, bne_iff_ne, beq_eq_false_iff_ne, bne_eq_false_iff_eq, ne_eq, List.append_assoc, List.cons_append, List.nil_append, den_var0, List.getD_cons_zero]
  by_cases hn : n = 0
  · subst hn
    exact ⟨fun _ => h, fun hx => Bool.noConfusion hx⟩
  · simp only [errV, if_neg hn, errN]
    exact ⟨fun hx => Bool.noConfusion hx, fun _ => ⟨fun _ => h, fun hx => absurd hx hn⟩⟩)
noncomputable def con_Num : Con E0 := ⟨k_Num, sg_Num, Num_s, rfl, bo_Num, Num_h⟩
def true_s : Spec := fun ds Q => Q [.bool true]
end Go.Proofs.YtnhahmgbgocdgaaDoor
end

section
namespace Go.Proofs.YtnhahmgbgocdgaaDoor
open Go.RowKit
set_option linter.unusedVariables false
set_option linter.unusedSimpArgs false
def k_rin : Nat := 40
def sg_rin : Sig := ⟨[(false, [.int .i64]), (false, [.int .i64]), (false, [.int .i64])], [(false, [.bool])], false, false, false, false, false⟩
def tr_rin : Tree := (.ite (.cmp .ge (.var 0) (.var 1))
 (.ret [(.cmp .le (.var 0) (.var 2))])
 (.ret [(.bool false)]))
theorem wk_rin : walk E0.cx (sgsN []) 0 40 sg_rin = tr_rin := by kernel_rfl
theorem bo_rin : ∃ x, bodyOf E0.P 40 = some x := bo_of (by kernel_rfl)
def inB (n l m : Int) : Bool := decide (l ≤ n) && decide (n ≤ m)
def rin_s : Spec := fun ds Q => Q [.bool (inB (argI ds 0) (argI ds 1) (argI ds 2))]
theorem rin_h : Holds E0 k_rin sg_rin rin_s := con_each wf0 mix0 g0 [] rfl wk_rin rfl (by
  intro n l m Q h
  simp only [rin_s, argI, Dat.toInt, inB, List.getD_cons_zero, List.getD_cons_succ] at h
  simp only [tr_rin, wp, den, Dat.toInt, Cmp.of, List.nil_append, List.getD_cons_zero, List.getD_cons_succ, List.map_cons, List.map_nil, Dat.bool.injEq, decide_eq_true_eq, decide_eq_false_iff_not, ge_iff_le]
  exact ⟨fun h1 => by simpa [h1] using h, fun h1 => by simpa [h1] using h⟩)
noncomputable def con_rin : Con E0 := ⟨k_rin, sg_rin, rin_s, rfl, bo_rin, rin_h⟩
def k_robj : Nat := 39
def sg_robj : Sig := ⟨[(true, List.replicate 18 (.int .i64)), (false, [.int .i64])], [(false, [.bool])], false, false, false, false, false⟩
def tr_robj : Tree := (.call k_rin [(.var 0), (.int .i64 0), (.int .i64 119)] [.bool]
(.ite (.var 19)
 (.call k_rin [(.var 1), (.int .i64 0), (.int .i64 1)] [.bool]
 (.ite (.var 20)
  (.call k_rin [(.var 2), (.int .i64 0), (.int .i64 1)] [.bool]
  (.ite (.var 21)
   (.call k_rin [(.var 3), (.int .i64 0), (.int .i64 10)] [.bool]
   (.ite (.var 22)
    (.call k_rin [(.var 4), (.int .i64 0), (.int .i64 1)] [.bool]
    (.ite (.var 23)
     (.call k_rin [(.var 5), (.int .i64 0), (.int .i64 1)] [.bool]
     (.ite (.var 24)
      (.call k_rin [(.var 11), (.int .i64 0), (.int .i64 1)] [.bool]
      (.ite (.var 25)
       (.call k_rin [(.var 13), (.int .i64 0), (.int .i64 2)] [.bool]
       (.ite (.var 26)
        (.call k_rin [(.var 17), (.int .i64 0), (.int .i64 3)] [.bool]
        (.ite (.var 27)
         (.call k_rin [(.var 10), (.int .i64 0), (.int .i64 255)] [.bool]
         (.ite (.var 28)
          (.call k_rin [(.var 14), (.int .i64 0), (.int .i64 3)] [.bool]
          (.ite (.var 29)
           (.call k_rin [(.var 6), (.int .i64 0), (.int .i64 1073741824)] [.bool]
           (.ite (.var 30)
            (.call k_rin [(.var 7), (.int .i64 0), (.int .i64 1073741824)] [.bool]
            (.ite (.var 31)
             (.call k_rin [(.var 8), (.int .i64 (-1073741824)), (.int .i64 1073741824)] [.bool]
             (.ite (.var 32)
              (.call k_rin [(.var 9), (.int .i64 (-1073741824)), (.int .i64 1073741824)] [.bool]
              (.ite (.var 33)
               (.call k_rin [(.var 12), (.int .i64 0), (.var 18)] [.bool]
               (.ite (.var 34)
                (.call k_rin [(.var 15), (.int .i64 0), (.var 18)] [.bool]
                (.ite (.var 35)
                 (.call k_rin [(.var 16), (.int .i64 (-2)), (.var 18)] [.bool]
                 (.ret [(.var 36)]))
                 (.ret [(.bool false)])))
                (.ret [(.bool false)])))
               (.ret [(.bool false)])))
              (.ret [(.bool false)])))
             (.ret [(.bool false)])))
            (.ret [(.bool false)])))
           (.ret [(.bool false)])))
          (.ret [(.bool false)])))
         (.ret [(.bool false)])))
        (.ret [(.bool false)])))
       (.ret [(.bool false)])))
      (.ret [(.bool false)])))
     (.ret [(.bool false)])))
    (.ret [(.bool false)])))
   (.ret [(.bool false)])))
  (.ret [(.bool false)])))
 (.ret [(.bool false)])))
theorem wk_robj : walk E0.cx (sgsN [(40, sg_rin)]) 0 39 sg_robj = tr_robj := by kernel_rfl
theorem bo_robj : ∃ x, bodyOf E0.P 39 = some x := bo_of (by kernel_rfl)
theorem sp_robj_rin : specC [con_rin] k_rin = rin_s := rfl
def objB (o : List Dat) (m : Int) : Bool :=
  (inB (rowI o 0) 0 119 && inB (rowI o 1) 0 1 && inB (rowI o 2) 0 1 && inB (rowI o 3) 0 10 && inB (rowI o 4) 0 1 && inB (rowI o 5) 0 1 && inB (rowI o 11) 0 1 && inB (rowI o 13) 0 2 && inB (rowI o 17) 0 3 && inB (rowI o 10) 0 255 && inB (rowI o 14) 0 3)
  && inB (rowI o 6) 0 1073741824 && inB (rowI o 7) 0 1073741824 && inB (rowI o 8) (-1073741824) 1073741824 && inB (rowI o 9) (-1073741824) 1073741824 && inB (rowI o 12) 0 m && inB (rowI o 15) 0 m && inB (rowI o 16) (-2) m
def robj_s : Spec := fun ds Q => Q [.bool (objB (ds.take 18) (argI ds 18))]
theorem robj_h : Holds E0 k_robj sg_robj robj_s := con_each wf0 mix0 g0 [con_rin] rfl wk_robj rfl (by
  intro n0 n1 n2 n3 n4 n5 n6 n7 n8 n9 n10 n11 n12 n13 n14 n15 n16 n17 m Q h
  simp only [robj_s, argI, rowI, Dat.toInt, objB, List.getD_cons_zero, List.getD_cons_succ, List.take_succ_cons, List.take_zero] at h
  simp only [tr_robj, wp, den, Dat.toInt, Cmp.of, List.nil_append, List.cons_append, List.getD_cons_zero, List.getD_cons_succ, List.map_cons, List.map_nil, Dat.bool.injEq, sp_robj_rin, rin_s, argI]
  repeat' (refine And.intro (fun h1 => ?_) (fun h1 => ?_))
  all_goals simpa [*] using h)
noncomputable def con_robj : Con E0 := ⟨k_robj, sg_robj, robj_s, rfl, bo_robj, robj_h⟩
end Go.Proofs.YtnhahmgbgocdgaaDoor
end

section
namespace Go.Proofs.YtnhahmgbgocdgaaDoor
open Go.RowKit
set_option linter.unusedVariables false
set_option linter.unusedSimpArgs false

/-- no list of a state is long -/
def Sm (ds : List Dat) : Prop := ∀ i, i < 12 → (argL ds i).length ≤ 1000000
def pl (ds : List Dat) (i : Nat) : Int := argI ds (12 + i)
def gm (ds : List Dat) (i : Nat) : Int := argI ds (30 + i)
def plP (ds : List Dat) : Prop := ∀ i, i < 2 → inB (pl ds (9 * i)) (-1073741824) 1073741824 = true ∧ inB (pl ds (9 * i + 7)) 0 1 = true ∧ inB (pl ds (9 * i + 8)) 0 1 = true ∧ ∀ k, 1 ≤ k → k < 7 → inB (pl ds (9 * i + k)) 0 1000 = true
def gmP (ds : List Dat) : Prop := inB (gm ds 0) 0 1073741824 = true ∧ inB (gm ds 1) 0 1 = true ∧ inB (gm ds 2) 0 7 = true ∧ inB (gm ds 3) 0 1 = true ∧ inB (gm ds 4) 0 1 = true ∧ inB (gm ds 5) 0 4096 = true ∧ inB (gm ds 6) 0 3 = true
def rangesP (ds : List Dat) : Prop := (∀ o ∈ argL ds 0, objB o (argL ds 0).length = true) ∧ plP ds ∧ gmP ds
def iff_s (P : List Dat → Prop) : Spec := fun ds Q => Sm ds ∧ ∀ b : Bool, (b = true ↔ P ds) → Q [.bool b]
def k_rranges : Nat := 20
def sg_rranges : Sig := ⟨[(true, [.list 50] ++ List.replicate 11 (.list 3) ++ List.replicate 25 (.int .i64))], [(false, [.bool])], false, false, false, false, false⟩
def tr_rranges : Tree := (.loop [(.bool false), (.int .i64 0)] [.bool, (.int .i64)]
 (.ite (.cmp .lt (.var 38) (.len (.var 0)))
  (.ob (.cmp .ge (.var 38) (.int .i64 0))
  (.call k_robj [(.elem (.var 0) (.var 38) 0 (.int .i64)), (.elem (.var 0) (.var 38) 1 (.int .i64)), (.elem (.var 0) (.var 38) 2 (.int .i64)), (.elem (.var 0) (.var 38) 3 (.int .i64)), (.elem (.var 0) (.var 38) 4 (.int .i64)), (.elem (.var 0) (.var 38) 5 (.int .i64)), (.elem (.var 0) (.var 38) 6 (.int .i64)), (.elem (.var 0) (.var 38) 7 (.int .i64)), (.elem (.var 0) (.var 38) 8 (.int .i64)), (.elem (.var 0) (.var 38) 9 (.int .i64)), (.elem (.var 0) (.var 38) 10 (.int .i64)), (.elem (.var 0) (.var 38) 11 (.int .i64)), (.elem (.var 0) (.var 38) 12 (.int .i64)), (.elem (.var 0) (.var 38) 13 (.int .i64)), (.elem (.var 0) (.var 38) 14 (.int .i64)), (.elem (.var 0) (.var 38) 15 (.int .i64)), (.elem (.var 0) (.var 38) 16 (.int .i64)), (.elem (.var 0) (.var 38) 17 (.int .i64)), (.len (.var 0))] [.bool]
  (.ite (.not (.var 39))
   (.ret [(.bool false)])
   (.again 0 [(.var 37), (.ar .add .i64 (.var 38) (.int .i64 1))]))))
  (.loop [(.var 37), (.int .i64 0)] [.bool, (.int .i64)]
   (.ite (.cmp .lt (.var 40) (.int .i64 2))
    (.ob (.cmp .ge (.var 40) (.int .i64 0))
    (.call k_rin [(.sel (.econs (.var 12) (.econs (.var 21) .enil)) (.var 40) (.int .i64)), (.int .i64 (-1073741824)), (.int .i64 1073741824)] [.bool]
    (.ite (.not (.var 41))
     (.ret [(.bool false)])
     (.call k_rin [(.sel (.econs (.var 19) (.econs (.var 28) .enil)) (.var 40) (.int .i64)), (.int .i64 0), (.int .i64 1)] [.bool]
     (.ite (.not (.var 42))
      (.ret [(.bool false)])
      (.call k_rin [(.sel (.econs (.var 20) (.econs (.var 29) .enil)) (.var 40) (.int .i64)), (.int .i64 0), (.int .i64 1)] [.bool]
      (.ite (.not (.var 43))
       (.ret [(.bool false)])
       (.loop [(.var 39), (.int .i64 1)] [.bool, (.int .i64)]
        (.ite (.cmp .le (.var 45) (.int .i64 6))
         (.ob (.cmp .ge (.var 45) (.int .i64 0))
         (.call k_rin [(.sel (.econs (.sel (.econs (.var 12) (.econs (.var 21) .enil)) (.var 40) (.int .i64)) (.econs (.sel (.econs (.var 13) (.econs (.var 22) .enil)) (.var 40) (.int .i64)) (.econs (.sel (.econs (.var 14) (.econs (.var 23) .enil)) (.var 40) (.int .i64)) (.econs (.sel (.econs (.var 15) (.econs (.var 24) .enil)) (.var 40) (.int .i64)) (.econs (.sel (.econs (.var 16) (.econs (.var 25) .enil)) (.var 40) (.int .i64)) (.econs (.sel (.econs (.var 17) (.econs (.var 26) .enil)) (.var 40) (.int .i64)) (.econs (.sel (.econs (.var 18) (.econs (.var 27) .enil)) (.var 40) (.int .i64)) (.econs (.sel (.econs (.var 19) (.econs (.var 28) .enil)) (.var 40) (.int .i64)) (.econs (.sel (.econs (.var 20) (.econs (.var 29) .enil)) (.var 40) (.int .i64)) .enil))))))))) (.var 45) (.int .i64)), (.int .i64 0), (.int .i64 1000)] [.bool]
         (.ite (.not (.var 46))
          (.ret [(.bool false)])
          (.again 2 [(.var 44), (.ar .add .i64 (.var 45) (.int .i64 1))]))))
         (.again 1 [(.var 44), (.ar .add .i64 (.var 40) (.int .i64 1))]))))))))))
    (.call k_rin [(.var 30), (.int .i64 0), (.int .i64 1073741824)] [.bool]
    (.ite (.var 41)
     (.call k_rin [(.var 31), (.int .i64 0), (.int .i64 1)] [.bool]
     (.ite (.var 42)
      (.call k_rin [(.var 32), (.int .i64 0), (.int .i64 7)] [.bool]
      (.ite (.var 43)
       (.call k_rin [(.var 33), (.int .i64 0), (.int .i64 1)] [.bool]
       (.ite (.var 44)
        (.call k_rin [(.var 34), (.int .i64 0), (.int .i64 1)] [.bool]
        (.ite (.var 45)
         (.call k_rin [(.var 35), (.int .i64 0), (.int .i64 4096)] [.bool]
         (.ite (.var 46)
          (.call k_rin [(.var 36), (.int .i64 0), (.int .i64 3)] [.bool]
          (.ret [(.var 47)]))
          (.ret [(.bool false)])))
         (.ret [(.bool false)])))
        (.ret [(.bool false)])))
       (.ret [(.bool false)])))
      (.ret [(.bool false)])))
     (.ret [(.bool false)])))))))
theorem wk_rranges : walk E0.cx (sgsN [(39, sg_robj), (40, sg_rin)]) 0 20 sg_rranges = tr_rranges := by kernel_rfl
theorem bo_rranges : ∃ x, bodyOf E0.P 20 = some x := bo_of (by kernel_rfl)
theorem sp_rranges_robj : specC [con_robj, con_rin] k_robj = robj_s := rfl
theorem sp_rranges_rin : specC [con_robj, con_rin] k_rin = rin_s := rfl
theorem obj_row (o : List Dat) (m : Int) : objB [o.getD 0 (.int .i64 0), o.getD 1 (.int .i64 0), o.getD 2 (.int .i64 0), o.getD 3 (.int .i64 0), o.getD 4 (.int .i64 0), o.getD 5 (.int .i64 0), o.getD 6 (.int .i64 0), o.getD 7 (.int .i64 0), o.getD 8 (.int .i64 0), o.getD 9 (.int .i64 0), o.getD 10 (.int .i64 0), o.getD 11 (.int .i64 0), o.getD 12 (.int .i64 0), o.getD 13 (.int .i64 0), o.getD 14 (.int .i64 0), o.getD 15 (.int .i64 0), o.getD 16 (.int .i64 0), o.getD 17 (.int .i64 0)] m = objB o m := rfl
theorem all_take {α : Type} {l : List α} {p : α → Prop} {i : Nat} (h : ∀ x ∈ l.take i, p x) (hi : i < l.length) (hp : p l[i]) : ∀ x ∈ l.take (i + 1), p x := fun x hx => by
  rw [List.take_succ_eq_append_getElem hi] at hx
  rcases List.mem_append.1 hx with hx | hx
  · exact h x hx
  · rw [List.mem_singleton.1 hx]; exact hp
theorem getD_lt {α : Type} {l : List α} {i : Nat} (h : i < l.length) (d : α) : l.getD i d = l[i] := by simp [List.getD_eq_getElem?_getD, h]
theorem sel2 {ds : List Dat} {a b c i : Nat} {e e' : Dat} (h : i < 2) (hc : b = a + c) : [ds.getD a e, ds.getD b e].getD i e' = ds.getD (a + c * i) e := by
  subst hc
  match i, h with
  | 0, _ => simp
  | 1, _ => simp
theorem sel9 {ds : List Dat} {a k : Nat} {e e' : Dat} (h : k < 9) : [ds.getD a e, ds.getD (a + 1) e, ds.getD (a + 2) e, ds.getD (a + 3) e, ds.getD (a + 4) e, ds.getD (a + 5) e, ds.getD (a + 6) e, ds.getD (a + 7) e, ds.getD (a + 8) e].getD k e' = ds.getD (a + k) e := by
  match k, h with
  | 0, _ | 1, _ | 2, _ | 3, _ | 4, _ | 5, _ | 6, _ | 7, _ | 8, _ => rfl
def rranges_s : Spec := iff_s rangesP
theorem rranges_h : Holds E0 k_rranges sg_rranges rranges_s := con_by wf0 mix0 g0 [con_robj, con_rin] rfl wk_rranges rfl (by
  intro ds Q hs ⟨hsm, h⟩
  have hl : ds.length = 37 := hs.length.symm
  have hn := hsm 0 (by omega)
  simp only [tr_rranges, wp, den_int, den_bool, den_nili, den_ar, den_cmp, den_not, den_len, den_elem, den_isnil, den_errI, den_ifc, den_rep, den_push, den_app, den_emp, den_upd, row0_econs, row0_enil, den_and, den_beq, den_nil, toInt_int, toBool_bool, xs_rows, xs_list, dflt_int, dflt_bool, of_eq, of_ne, of_lt, of_le, of_gt, of_ge, of_add, of_sub, of_rem, List.map_cons, List.map_nil, Dat.bool.injEq, decide_eq_true_eq, decide_eq_false_iff_not, Bool.not_eq_true', Bool.not_eq_false', beq_iff_eq, bne_iff_ne, beq_eq_false_iff_ne, bne_eq_false_iff_eq, ne_eq, List.append_assoc, List.cons_append, List.nil_append]
  refine ⟨fun xs m => ∃ (b : Bool) (i : Nat), xs = [.bool b, .int .i64 i] ∧ i ≤ (argL ds 0).length ∧ (∀ o ∈ (argL ds 0).take i, objB o (argL ds 0).length = true) ∧ m = (argL ds 0).length - i, ⟨_, false, 0, rfl, by omega, by simp, rfl⟩, ?_⟩
  simp only [allS]
  intro b i' m ⟨_, i, e, hi, hall, hm⟩
  cases e
  simp only [@den_var0 E0.Δ ds, den_varA, den_varB, hl, Nat.reduceLT, Nat.reduceLeDiff, Nat.reduceSub, List.getD_cons_zero, List.getD_cons_succ, argL_fold ds, argI_fold ds, List.append_assoc, List.cons_append, List.nil_append, toInt_int, toBool_bool, xs_rows, xs_list, Int.toNat_natCast, Dat.bool.injEq]
  refine ⟨fun hlt => ⟨by omega, ?_⟩, fun hge => ?_⟩
  · have hi2 : i < (argL ds 0).length := by omega
    simp only [sp_rranges_robj, robj_s, List.take_succ_cons, List.take_zero, argI, List.getD_cons_zero, List.getD_cons_succ, toInt_int, obj_row, getD_lt hi2, @den_var0 E0.Δ ds, den_varA, den_varB, hl, Nat.reduceLT, Nat.reduceLeDiff, Nat.reduceSub, List.getD_cons_zero, List.getD_cons_succ, argL_fold ds, argI_fold ds, List.append_assoc, List.cons_append, List.nil_append, toInt_int, toBool_bool, xs_rows, xs_list, Int.toNat_natCast, Dat.bool.injEq, List.append_assoc, List.cons_append, List.nil_append]
    refine ⟨fun hb => h _ ?_, fun hb => ?_⟩
    · simp only [Bool.false_eq_true, false_iff]
      intro hP
      have := hP.1 _ (List.getElem_mem hi2)
      rw [this] at hb; cases hb
    · refine ⟨(argL ds 0).length - (i + 1), by omega, b, i + 1, ?_, by omega, all_take hall hi2 hb, rfl⟩
      rw [wrap64 (by omega) (by omega)]; rfl
  · have hobj : ∀ o ∈ argL ds 0, objB o (argL ds 0).length = true := by rw [List.take_of_length_le (by omega)] at hall; exact hall
    clear hall hm hge hi
    refine ⟨fun xs m => ∃ (b : Bool) (i : Nat), xs = [.bool b, .int .i64 i] ∧ i ≤ 2 ∧ (∀ j, j < i → inB (pl ds (9 * j)) (-1073741824) 1073741824 = true ∧ inB (pl ds (9 * j + 7)) 0 1 = true ∧ inB (pl ds (9 * j + 8)) 0 1 = true ∧ ∀ k, 1 ≤ k → k < 7 → inB (pl ds (9 * j + k)) 0 1000 = true) ∧ m = 2 - i, ⟨_, b, 0, rfl, by omega, by intro j hj; omega, rfl⟩, ?_⟩
    intro b1 i1' m1 ⟨_, i1, e, hi1, hall, hm⟩
    cases e
    refine ⟨fun hlt => ⟨by omega, ?_⟩, fun hge => ?_⟩
    · have hi2 : i1 < 2 := by omega
      simp only [sp_rranges_rin, rin_s, argI, List.getD_cons_zero, List.getD_cons_succ, den_sel, row0_econs, row0_enil, sel2 hi2 (c := 9) rfl, @den_var0 E0.Δ ds, den_varA, den_varB, hl, Nat.reduceLT, Nat.reduceLeDiff, Nat.reduceSub, List.getD_cons_zero, List.getD_cons_succ, argL_fold ds, argI_fold ds, List.append_assoc, List.cons_append, List.nil_append, toInt_int, toBool_bool, xs_rows, xs_list, Int.toNat_natCast, Dat.bool.injEq]
      have pf : ∀ a c, a = 12 + c → (ds.getD (a + 9 * i1) (.int .i64 0)).toInt = pl ds (9 * i1 + c) := fun a c e => by
        subst e
        show _ = (ds.getD (12 + (9 * i1 + c)) (.int .i64 0)).toInt
        rw [show 12 + c + 9 * i1 = 12 + (9 * i1 + c) by omega]
      rw [pf 12 0 rfl, pf 19 7 rfl, pf 20 8 rfl, Nat.add_zero]
      have no : ∀ {k : Nat} {l u : Int}, inB (pl ds (9 * i1 + k)) l u = false → (plP ds → inB (pl ds (9 * i1 + k)) l u = true) → Q [.bool false] := fun h1 h2 => h _ (by
        simp only [Bool.false_eq_true, false_iff]
        intro hP
        have := h2 hP.2.1
        rw [h1] at this; cases this)
      refine ⟨fun h1 => no (k := 0) h1 fun hP => (hP i1 hi2).1, fun h1 => ⟨fun h2 => no h2 fun hP => (hP i1 hi2).2.1, fun h2 => ⟨fun h3 => no h3 fun hP => (hP i1 hi2).2.2.1, fun h3 => ?_⟩⟩⟩
      refine ⟨fun xs m => ∃ (b : Bool) (k : Nat), xs = [.bool b, .int .i64 k] ∧ 1 ≤ k ∧ k ≤ 7 ∧ (∀ j, 1 ≤ j → j < k → inB (pl ds (9 * i1 + j)) 0 1000 = true) ∧ m = 7 - k, ⟨_, b1, 1, rfl, by omega, by omega, by intro j hj; omega, rfl⟩, ?_⟩
      intro b2 k' m2 ⟨_, k, e, hk1, hk7, hall2, hm2⟩
      cases e
      refine ⟨fun hlt => ⟨by omega, ?_⟩, fun hge => ?_⟩
      · have hk9 : k < 9 := by omega
        have e9 : ∀ x, ([ds.getD (12 + 9 * i1) (.bool false), ds.getD (13 + 9 * i1) (.bool false), ds.getD (14 + 9 * i1) (.bool false), ds.getD (15 + 9 * i1) (.bool false), ds.getD (16 + 9 * i1) (.bool false), ds.getD (17 + 9 * i1) (.bool false), ds.getD (18 + 9 * i1) (.bool false), ds.getD (19 + 9 * i1) (.bool false), ds.getD (20 + 9 * i1) (.bool false)].getD k x).toInt = pl ds (9 * i1 + k) := fun x => by
          match k, hk9 with
          | 0, _ | 1, _ | 2, _ | 3, _ | 4, _ | 5, _ | 6, _ | 7, _ | 8, _ =>
            simp only [List.getD_cons_zero, List.getD_cons_succ, argI_fold, pl]
            first | rfl | (congr 1; omega)
        rw [Int.toNat_natCast, e9]
        refine ⟨fun h4 => no h4 fun hP => (hP i1 hi2).2.2.2 k hk1 (by omega), fun h4 => ⟨7 - (k + 1), by omega, b2, k + 1, ?_, by omega, by omega, fun j hj1 hj2 => ?_, rfl⟩⟩
        · rw [wrap64 (by omega) (by omega)]; rfl
        · by_cases hjk : j = k
          · subst hjk; exact h4
          · exact hall2 j hj1 (by omega)
      · refine ⟨2 - (i1 + 1), by omega, b2, i1 + 1, ?_, by omega, fun j hj => ?_, rfl⟩
        · rw [wrap64 (by omega) (by omega)]; rfl
        · by_cases hji : j = i1
          · subst hji; exact ⟨h1, h2, h3, fun q hq1 hq2 => hall2 q hq1 (by omega)⟩
          · exact hall j (by omega)
    · have hpl : plP ds := fun i hi => hall i (by omega)
      simp only [sp_rranges_rin, rin_s, argI, List.getD_cons_zero, List.getD_cons_succ, @den_var0 E0.Δ ds, den_varA, den_varB, hl, Nat.reduceLT, Nat.reduceLeDiff, Nat.reduceSub, List.getD_cons_zero, List.getD_cons_succ, argL_fold ds, argI_fold ds, List.append_assoc, List.cons_append, List.nil_append, toInt_int, toBool_bool, xs_rows, xs_list, Int.toNat_natCast, Dat.bool.injEq]
      have no : ∀ {k : Nat} {l u : Int}, inB (ds.getD (30 + k) (.int .i64 0)).toInt l u = false → (gmP ds → inB (gm ds k) l u = true) → Q [.bool false] := fun {k l u} h1 h2 => h _ (by
        simp only [Bool.false_eq_true, false_iff]
        intro hP
        have := h2 hP.2.2
        rw [show gm ds k = (ds.getD (30 + k) (.int .i64 0)).toInt from rfl, h1] at this; cases this)
      refine ⟨fun h0 => ⟨fun h1 => ⟨fun h2 => ⟨fun h3 => ⟨fun h4 => ⟨fun h5 => h _ ⟨fun h6 => ⟨hobj, hpl, h0, h1, h2, h3, h4, h5, h6⟩, fun hP => hP.2.2.2.2.2.2.2.2⟩, fun h5 => no (k := 5) h5 fun g => g.2.2.2.2.2.1⟩, fun h4 => no (k := 4) h4 fun g => g.2.2.2.2.1⟩, fun h3 => no (k := 3) h3 fun g => g.2.2.2.1⟩, fun h2 => no (k := 2) h2 fun g => g.2.2.1⟩, fun h1 => no (k := 1) h1 fun g => g.2.1⟩, fun h0 => no (k := 0) h0 fun g => g.1⟩)
noncomputable def con_rranges : Con E0 := ⟨k_rranges, sg_rranges, rranges_s, rfl, bo_rranges, rranges_h⟩
end Go.Proofs.YtnhahmgbgocdgaaDoor
end

section
namespace Go.Proofs.YtnhahmgbgocdgaaDoor
set_option linter.unusedVariables false

theorem count_lt : ∀ (n : Nat) (l : List Int), (∀ x ∈ l, 0 ≤ x ∧ x < (n : Int)) → l.Nodup → l.length ≤ n ∧ (l.length = n → ∀ k : Nat, k < n → (k : Int) ∈ l)
  | 0, l, h, _ => by
    have : l = [] := by
      cases l with
      | nil => rfl
      | cons x l => have := h x (by simp); omega
    subst this
    exact ⟨by simp, fun _ k hk => by omega⟩
  | n + 1, l, h, hn => by
    by_cases hm : (n : Int) ∈ l
    · have hne : ∀ x ∈ l.erase (n : Int), x ≠ (n : Int) := fun x hx e => by
        subst e
        exact (List.Nodup.mem_erase_iff hn).1 hx |>.1 rfl
      have hsub : ∀ x ∈ l.erase (n : Int), 0 ≤ x ∧ x < (n : Int) := fun x hx => by
        have h1 := h x (List.mem_of_mem_erase hx)
        have h2 := hne x hx
        omega
      obtain ⟨i1, i2⟩ := count_lt n (l.erase (n : Int)) hsub (hn.erase _)
      have hl : (l.erase (n : Int)).length = l.length - 1 := List.length_erase_of_mem hm
      have hpos : 0 < l.length := List.length_pos_of_mem hm
      refine ⟨by omega, fun e k hk => ?_⟩
      by_cases hkn : k = n
      · subst hkn; exact hm
      · exact List.mem_of_mem_erase (i2 (by omega) k (by omega))
    · have hsub : ∀ x ∈ l, 0 ≤ x ∧ x < (n : Int) := fun x hx => by
        have h1 := h x hx
        have : x ≠ (n : Int) := fun e => hm (e ▸ hx)
        omega
      obtain ⟨i1, i2⟩ := count_lt n l hsub hn
      exact ⟨by omega, fun e => by omega⟩
theorem once_of : ∀ (n : Nat) (l : List Int), (∀ x ∈ l, 0 ≤ x ∧ x < (n : Int)) → (∀ k : Nat, k < n → l.count (k : Int) = 1) → l.length = n
  | 0, l, h, _ => by
    cases l with
    | nil => rfl
    | cons x l => have := h x (by simp); omega
  | n + 1, l, h, hc => by
    have hm : (n : Int) ∈ l := List.count_pos_iff.1 (by rw [hc n (by omega)]; omega)
    have hcnt : ∀ k : Nat, k < n → (l.erase (n : Int)).count (k : Int) = 1 := fun k hk => by
      rw [List.count_erase_of_ne (by omega)]; exact hc k (by omega)
    have hsub : ∀ x ∈ l.erase (n : Int), 0 ≤ x ∧ x < (n : Int) := fun x hx => by
      have h1 := h x (List.mem_of_mem_erase hx)
      have h2 : x ≠ (n : Int) := fun e => by
        subst e
        have := List.count_pos_iff.2 hx
        rw [List.count_erase_self, hc n (by omega)] at this
        omega
      omega
    have ih := once_of n (l.erase (n : Int)) hsub hcnt
    have hl : (l.erase (n : Int)).length = l.length - 1 := List.length_erase_of_mem hm
    have hpos : 0 < l.length := List.length_pos_of_mem hm
    omega
theorem nodup_of_count {n : Nat} {l : List Int} (h : ∀ x ∈ l, 0 ≤ x ∧ x < (n : Int)) (hc : ∀ k : Nat, k < n → l.count (k : Int) = 1) : l.Nodup := by
  rw [List.nodup_iff_count]
  intro x
  by_cases hx : x ∈ l
  · obtain ⟨h1, h2⟩ := h x hx
    obtain ⟨k, rfl⟩ := Int.eq_ofNat_of_zero_le h1
    rw [hc k (by omega)]; exact Nat.le_refl _
  · rw [List.count_eq_zero.2 hx]; omega
/-- numbers below n, each at most once and as many as n: each just once -/
theorem once_iff {n : Nat} {l : List Int} (h : ∀ x ∈ l, 0 ≤ x ∧ x < (n : Int)) : (l.Nodup ∧ l.length = n) ↔ ∀ k : Nat, k < n → l.count (k : Int) = 1 := by
  refine ⟨fun ⟨h1, h2⟩ k hk => ?_, fun hc => ⟨nodup_of_count h hc, once_of n l h hc⟩⟩
  have hm := (count_lt n l h h1).2 h2 k hk
  have h3 := List.nodup_iff_count.1 h1 (k : Int)
  have h4 := List.count_pos_iff.2 hm
  omega
end Go.Proofs.YtnhahmgbgocdgaaDoor
end

section
namespace Go.Proofs.YtnhahmgbgocdgaaDoor
open Go.RowKit
set_option linter.unusedVariables false
set_option linter.unusedSimpArgs false

def formedP (o : List Dat) : Prop :=
  (rowI o 3 ≠ 8 → rowI o 4 = 0 ∧ rowI o 5 = 0 ∧ rowI o 6 = 0 ∧ rowI o 7 = 0 ∧ rowI o 8 = 0 ∧ rowI o 9 = 0 ∧ rowI o 10 = 0 ∧ rowI o 11 = 0 ∧ rowI o 12 = 0) ∧ (rowI o 3 < 8 → rowI o 2 = rowI o 1) ∧ (rowI o 3 = 9 ∨ rowI o 16 = 0)
def iff_o (P : List Dat → Prop) : Spec := fun ds Q => ∀ b : Bool, (b = true ↔ P ds) → Q [.bool b]
def k_rformed : Nat := 22
def sg_rformed : Sig := ⟨[(true, List.replicate 18 (.int .i64))], [(false, [.bool])], false, false, false, false, false⟩
def tr_rformed : Tree := (.ite (.cmp .ne (.var 3) (.int .i64 8))
 (.ite (.cmp .ne (.var 4) (.int .i64 0))
  (.ret [(.bool false)])
  (.ite (.cmp .ne (.var 5) (.int .i64 0))
   (.ret [(.bool false)])
   (.ite (.cmp .ne (.var 6) (.int .i64 0))
    (.ret [(.bool false)])
    (.ite (.cmp .ne (.var 7) (.int .i64 0))
     (.ret [(.bool false)])
     (.ite (.cmp .ne (.var 8) (.int .i64 0))
      (.ret [(.bool false)])
      (.ite (.cmp .ne (.var 9) (.int .i64 0))
       (.ret [(.bool false)])
       (.ite (.cmp .ne (.var 10) (.int .i64 0))
        (.ret [(.bool false)])
        (.ite (.cmp .ne (.var 11) (.int .i64 0))
         (.ret [(.bool false)])
         (.ite (.cmp .ne (.var 12) (.int .i64 0))
          (.ret [(.bool false)])
          (.ite (.cmp .lt (.var 3) (.int .i64 8))
           (.ite (.cmp .ne (.var 2) (.var 1))
            (.ret [(.bool false)])
            (.ret [(.cmp .eq (.var 16) (.int .i64 0))]))
           (.ite (.cmp .eq (.var 3) (.int .i64 9))
            (.ret [(.bool true)])
            (.ret [(.cmp .eq (.var 16) (.int .i64 0))]))))))))))))
 (.ret [(.cmp .eq (.var 16) (.int .i64 0))]))
theorem wk_rformed : walk E0.cx (sgsN []) 0 22 sg_rformed = tr_rformed := by kernel_rfl
theorem bo_rformed : ∃ x, bodyOf E0.P 22 = some x := bo_of (by kernel_rfl)
def rformed_s : Spec := iff_o formedP
theorem argI_rowI (ds : List Dat) (i : Nat) : argI ds i = rowI ds i := rfl
theorem rformed_h : Holds E0 k_rformed sg_rformed rformed_s := con_by wf0 mix0 g0 [] rfl wk_rformed rfl (by
  intro ds Q hs h
  have hl : ds.length = 18 := hs.length.symm
  simp only [tr_rformed, wp, den_int, den_bool, den_nili, den_ar, den_cmp, den_not, den_len, den_elem, den_isnil, den_errI, den_ifc, den_rep, den_push, den_app, den_emp, den_upd, row0_econs, row0_enil, den_and, den_beq, den_nil, toInt_int, toBool_bool, xs_rows, xs_list, dflt_int, dflt_bool, of_eq, of_ne, of_lt, of_le, of_gt, of_ge, of_add, of_sub, of_rem, List.map_cons, List.map_nil, Dat.bool.injEq, decide_eq_true_eq, decide_eq_false_iff_not, Bool.not_eq_true', Bool.not_eq_false', beq_iff_eq, bne_iff_ne, beq_eq_false_iff_ne, bne_eq_false_iff_eq, ne_eq, List.append_assoc, List.cons_append, List.nil_append, @den_var0 E0.Δ ds, den_varA, den_varB, hl, Nat.reduceLT, Nat.reduceLeDiff, Nat.reduceSub, List.getD_cons_zero, List.getD_cons_succ, argL_fold ds, argI_fold ds, List.append_assoc, List.cons_append, List.nil_append, toInt_int, toBool_bool, xs_rows, xs_list, Int.toNat_natCast, Dat.bool.injEq, argI_rowI]
  clear hs hl
  repeat' (refine And.intro (fun _ => ?_) (fun _ => ?_))
  all_goals (apply h; simp only [formedP, decide_eq_true_eq, beq_iff_eq]; simp [*] <;> omega))
noncomputable def con_rformed : Con E0 := ⟨k_rformed, sg_rformed, rformed_s, rfl, bo_rformed, rformed_h⟩

/-- which ids stand where: the lists, one behind the other -/
def lst (ds : List Dat) (z : Nat) : List Int := (argL ds (z + 1)).map fun r => rowI r 0
def idz (ds : List Dat) (z : Nat) : List (Int × Int) := (lst ds z).map fun x => ((z : Int), x)
def ids (ds : List Dat) : Nat → List (Int × Int)
  | 0 => []
  | z + 1 => ids ds z ++ idz ds z
def obj (ds : List Dat) (k : Int) : List Dat := (argL ds 0).getD k.toNat []
def standsP (o : List Dat) (z : Int) : Prop := (z < 8 → rowI o 1 = z.tmod 2 ∧ rowI o 13 = 0) ∧ (z = 8 → rowI o 13 ≠ 2)
def placed (ds : List Dat) (p : Int × Int) : Prop := 0 ≤ p.2 ∧ p.2 < (argL ds 0).length ∧ rowI (obj ds p.2) 3 = p.1 ∧ standsP (obj ds p.2) p.1
def zonesP (ds : List Dat) : Prop := (∀ p ∈ ids ds 11, placed ds p) ∧ ((ids ds 11).map (·.2)).Nodup ∧ (ids ds 11).length = (argL ds 0).length
def k_rzones : Nat := 21
def sg_rzones : Sig := ⟨[(true, [.list 50] ++ List.replicate 11 (.list 3) ++ List.replicate 25 (.int .i64))], [(false, [.bool])], false, false, false, false, false⟩
def tr_rzones : Tree := (.loop [(.bool false), (.int .i64 0)] [.bool, (.int .i64)]
 (.ite (.cmp .lt (.var 38) (.int .i64 11))
  (.ob (.cmp .ge (.var 38) (.int .i64 0))
  (.loop [(.var 37), (.int .i64 0)] [.bool, (.int .i64)]
   (.ite (.cmp .lt (.var 40) (.len (.sel (.econs (.var 1) (.econs (.var 2) (.econs (.var 3) (.econs (.var 4) (.econs (.var 5) (.econs (.var 6) (.econs (.var 7) (.econs (.var 8) (.econs (.var 9) (.econs (.var 10) (.econs (.var 11) .enil))))))))))) (.var 38) (.list 3))))
    (.ob (.cmp .ge (.var 40) (.int .i64 0))
    (.ite (.cmp .lt (.elem (.sel (.econs (.var 1) (.econs (.var 2) (.econs (.var 3) (.econs (.var 4) (.econs (.var 5) (.econs (.var 6) (.econs (.var 7) (.econs (.var 8) (.econs (.var 9) (.econs (.var 10) (.econs (.var 11) .enil))))))))))) (.var 38) (.list 3)) (.var 40) 0 (.int .i64)) (.int .i64 0))
     (.ret [(.bool false)])
     (.ite (.cmp .ge (.elem (.sel (.econs (.var 1) (.econs (.var 2) (.econs (.var 3) (.econs (.var 4) (.econs (.var 5) (.econs (.var 6) (.econs (.var 7) (.econs (.var 8) (.econs (.var 9) (.econs (.var 10) (.econs (.var 11) .enil))))))))))) (.var 38) (.list 3)) (.var 40) 0 (.int .i64)) (.len (.var 0)))
      (.ret [(.bool false)])
      (.again 1 [(.var 39), (.ar .add .i64 (.var 40) (.int .i64 1))]))))
    (.again 0 [(.var 39), (.ar .add .i64 (.var 38) (.int .i64 1))]))))
  (.loop [(.var 37), (.int .i64 0)] [.bool, (.int .i64)]
   (.ite (.cmp .lt (.var 40) (.len (.var 0)))
    (.ob (.cmp .ge (.var 40) (.int .i64 0))
    (.loop [(.var 39), (.int .i64 0), (.int .i64 0)] [.bool, (.int .i64), (.int .i64)]
     (.ite (.cmp .lt (.var 43) (.int .i64 11))
      (.ob (.cmp .ge (.var 43) (.int .i64 0))
      (.loop [(.var 41), (.var 42), (.int .i64 0)] [.bool, (.int .i64), (.int .i64)]
       (.ite (.cmp .lt (.var 46) (.len (.sel (.econs (.var 1) (.econs (.var 2) (.econs (.var 3) (.econs (.var 4) (.econs (.var 5) (.econs (.var 6) (.econs (.var 7) (.econs (.var 8) (.econs (.var 9) (.econs (.var 10) (.econs (.var 11) .enil))))))))))) (.var 43) (.list 3))))
        (.ob (.cmp .ge (.var 46) (.int .i64 0))
        (.ite (.cmp .eq (.elem (.sel (.econs (.var 1) (.econs (.var 2) (.econs (.var 3) (.econs (.var 4) (.econs (.var 5) (.econs (.var 6) (.econs (.var 7) (.econs (.var 8) (.econs (.var 9) (.econs (.var 10) (.econs (.var 11) .enil))))))))))) (.var 43) (.list 3)) (.var 46) 0 (.int .i64)) (.var 40))
         (.ite (.cmp .ne (.var 43) (.elem (.var 0) (.var 40) 3 (.int .i64)))
          (.ret [(.bool false)])
          (.again 3 [(.var 44), (.ar .add .i64 (.var 45) (.int .i64 1)), (.ar .add .i64 (.var 46) (.int .i64 1))]))
         (.again 3 [(.var 44), (.var 45), (.ar .add .i64 (.var 46) (.int .i64 1))])))
        (.again 2 [(.var 44), (.var 45), (.ar .add .i64 (.var 43) (.int .i64 1))]))))
      (.ite (.cmp .ne (.var 42) (.int .i64 1))
       (.ret [(.bool false)])
       (.ite (.cmp .lt (.elem (.var 0) (.var 40) 3 (.int .i64)) (.int .i64 8))
        (.ite (.cmp .ne (.elem (.var 0) (.var 40) 1 (.int .i64)) (.ar .rem .i64 (.elem (.var 0) (.var 40) 3 (.int .i64)) (.int .i64 2)))
         (.ret [(.bool false)])
         (.ite (.cmp .ne (.elem (.var 0) (.var 40) 13 (.int .i64)) (.int .i64 0))
          (.ret [(.bool false)])
          (.again 1 [(.var 41), (.ar .add .i64 (.var 40) (.int .i64 1))])))
        (.ite (.cmp .eq (.elem (.var 0) (.var 40) 3 (.int .i64)) (.int .i64 8))
         (.ite (.cmp .eq (.elem (.var 0) (.var 40) 13 (.int .i64)) (.int .i64 2))
          (.ret [(.bool false)])
          (.again 1 [(.var 41), (.ar .add .i64 (.var 40) (.int .i64 1))]))
         (.again 1 [(.var 41), (.ar .add .i64 (.var 40) (.int .i64 1))])))))))
    (.ret [(.bool true)])))))
theorem wk_rzones : walk E0.cx (sgsN []) 0 21 sg_rzones = tr_rzones := by kernel_rfl
theorem bo_rzones : ∃ x, bodyOf E0.P 21 = some x := bo_of (by kernel_rfl)
def rzones_s : Spec := iff_s zonesP
theorem den_lists {Δ : Tab} {ds e : List Dat} (hl : ds.length = 37) {i : Tm} {z : Nat} (hi : (den Δ (ds ++ e) i).toInt = z) (hz : z < 11) {s : Srt} :
    den Δ (ds ++ e) (.sel (.econs (.var 1) (.econs (.var 2) (.econs (.var 3) (.econs (.var 4) (.econs (.var 5) (.econs (.var 6) (.econs (.var 7) (.econs (.var 8) (.econs (.var 9) (.econs (.var 10) (.econs (.var 11) .enil))))))))))) i s) = ds.getD (z + 1) (.bool false) := by
  simp only [den_sel, row0_econs, row0_enil, hi, Int.toNat_natCast, den_varA, hl, Nat.reduceLT]
  match z, hz with
  | 0, _ | 1, _ | 2, _ | 3, _ | 4, _ | 5, _ | 6, _ | 7, _ | 8, _ | 9, _ | 10, _ => rfl
def alls (ds : List Dat) (z : Nat) : List Int := (ids ds z).map (·.2)
theorem alls_succ (ds : List Dat) (z : Nat) : alls ds (z + 1) = alls ds z ++ lst ds z := by
  simp only [alls, ids, List.map_append, idz, List.map_map]
  congr 1
  exact List.map_id _
theorem mem_ids {ds : List Dat} {p : Int × Int} : ∀ {n : Nat}, p ∈ ids ds n ↔ ∃ z, z < n ∧ p.1 = (z : Int) ∧ p.2 ∈ lst ds z
  | 0 => by simp [ids]
  | n + 1 => by
    simp only [ids, List.mem_append, mem_ids (n := n), idz, List.mem_map]
    constructor
    · rintro (⟨z, h1, h2, h3⟩ | ⟨x, hx, rfl⟩)
      · exact ⟨z, by omega, h2, h3⟩
      · exact ⟨n, by omega, rfl, hx⟩
    · rintro ⟨z, h1, h2, h3⟩
      by_cases hz : z = n
      · subst hz
        exact .inr ⟨p.2, h3, Prod.ext h2.symm rfl⟩
      · exact .inl ⟨z, by omega, h2, h3⟩
theorem lst_len (ds : List Dat) (z : Nat) : (lst ds z).length = (argL ds (z + 1)).length := by simp [lst]
theorem alls_len {ds : List Dat} (hsm : Sm ds) : ∀ z, z ≤ 11 → (alls ds z).length ≤ z * 1000000
  | 0, _ => by simp [alls, ids]
  | z + 1, h => by
    rw [alls_succ, List.length_append, lst_len]
    have := alls_len hsm z (by omega)
    have := hsm (z + 1) (by omega)
    omega
theorem lst_el {ds : List Dat} {z i : Nat} (h : i < (argL ds (z + 1)).length) : (((argL ds (z + 1)).getD i []).getD 0 (.int .i64 0)).toInt = (lst ds z)[i]'(by rw [lst_len]; exact h) := by
  simp only [lst, List.getElem_map, rowI, getD_lt h]
theorem take_el {l : List Int} {i : Nat} (h : i < l.length) : l.take (i + 1) = l.take i ++ [l[i]] := List.take_succ_eq_append_getElem h
/-- what is asked of each object -/
def onceP (ds : List Dat) (k : Nat) : Prop := (alls ds 11).count (k : Int) = 1 ∧ (∀ z, z < 11 → (k : Int) ∈ lst ds z → (z : Int) = rowI (obj ds k) 3) ∧ standsP (obj ds k) (rowI (obj ds k) 3)
theorem zones_iff (ds : List Dat) : zonesP ds ↔ (∀ z, z < 11 → ∀ x ∈ lst ds z, 0 ≤ x ∧ x < ((argL ds 0).length : Int)) ∧ ∀ k, k < (argL ds 0).length → onceP ds k := by
  have hrange : (∀ z, z < 11 → ∀ x ∈ lst ds z, 0 ≤ x ∧ x < ((argL ds 0).length : Int)) → ∀ x ∈ alls ds 11, 0 ≤ x ∧ x < ((argL ds 0).length : Int) := fun h x hx => by
    obtain ⟨p, hp, rfl⟩ := List.mem_map.1 hx
    obtain ⟨z, hz, _, hm⟩ := mem_ids.1 hp
    exact h z hz p.2 hm
  constructor
  · rintro ⟨h1, h2, h3⟩
    have hr : ∀ z, z < 11 → ∀ x ∈ lst ds z, 0 ≤ x ∧ x < ((argL ds 0).length : Int) := fun z hz x hx => by
      have := h1 (z, x) (mem_ids.2 ⟨z, hz, rfl, hx⟩)
      exact ⟨this.1, this.2.1⟩
    have hc := (once_iff (hrange hr)).1 ⟨h2, by rw [alls, List.length_map]; exact h3⟩
    refine ⟨hr, fun k hk => ⟨hc k hk, fun z hz hm => (h1 (z, k) (mem_ids.2 ⟨z, hz, rfl, hm⟩)).2.2.1.symm, ?_⟩⟩
    have hm : (k : Int) ∈ alls ds 11 := List.count_pos_iff.1 (by rw [hc k hk]; omega)
    obtain ⟨p, hp, hpk⟩ := List.mem_map.1 hm
    obtain ⟨_, _, q3, q4⟩ := h1 p hp
    rw [hpk] at q3 q4
    rw [q3]; exact q4
  · rintro ⟨hr, ho⟩
    obtain ⟨h2, h3⟩ := (once_iff (hrange hr)).2 fun k hk => (ho k hk).1
    refine ⟨fun p hp => ?_, h2, by rw [alls, List.length_map] at h3; exact h3⟩
    obtain ⟨z, hz, e1, hm⟩ := mem_ids.1 hp
    obtain ⟨q1, q2⟩ := hr z hz p.2 hm
    obtain ⟨k, hk⟩ := Int.eq_ofNat_of_zero_le q1
    have hkn : k < (argL ds 0).length := by omega
    have h5 := ho k hkn
    rw [hk] at hm
    have h6 := h5.2.1 z hz hm
    refine ⟨q1, q2, ?_, ?_⟩
    · rw [hk, e1, h6]
    · rw [hk, e1, h6]; exact h5.2.2
theorem rzones_h : Holds E0 k_rzones sg_rzones rzones_s := con_by wf0 mix0 g0 [] rfl wk_rzones rfl (by
  intro ds Q hs ⟨hsm, h⟩
  have hl : ds.length = 37 := hs.length.symm
  have hn := hsm 0 (by omega)
  have fail : ¬ zonesP ds → Q [.bool false] := fun hn => h _ (by simp only [Bool.false_eq_true, false_iff]; exact hn)
  simp only [tr_rzones, wp, den_int, den_bool, den_nili, den_ar, den_cmp, den_not, den_len, den_elem, den_isnil, den_errI, den_ifc, den_rep, den_push, den_app, den_emp, den_upd, row0_econs, row0_enil, den_and, den_beq, den_nil, toInt_int, toBool_bool, xs_rows, xs_list, dflt_int, dflt_bool, of_eq, of_ne, of_lt, of_le, of_gt, of_ge, of_add, of_sub, of_rem, List.map_cons, List.map_nil, Dat.bool.injEq, decide_eq_true_eq, decide_eq_false_iff_not, Bool.not_eq_true', Bool.not_eq_false', beq_iff_eq, bne_iff_ne, beq_eq_false_iff_ne, bne_eq_false_iff_eq, ne_eq, List.append_assoc, List.cons_append, List.nil_append, allS, @den_var0 E0.Δ ds, den_varA, den_varB, hl, Nat.reduceLT, Nat.reduceLeDiff, Nat.reduceSub, List.getD_cons_zero, List.getD_cons_succ, argL_fold ds, argI_fold ds, List.append_assoc, List.cons_append, List.nil_append, toInt_int, toBool_bool, xs_rows, xs_list, Int.toNat_natCast, Dat.bool.injEq]
  refine ⟨fun xs m => ∃ (b : Bool) (z : Nat), xs = [.bool b, .int .i64 z] ∧ z ≤ 11 ∧ (∀ y, y < z → ∀ x ∈ lst ds y, 0 ≤ x ∧ x < ((argL ds 0).length : Int)) ∧ m = 11 - z, ⟨_, false, 0, rfl, by omega, by intro y hy; omega, rfl⟩, ?_⟩
  intro b z' m ⟨_, z, e, hz, hall, hm⟩
  cases e
  refine ⟨fun hlt => ⟨by omega, ?_⟩, fun hge => ?_⟩
  · have hz11 : z < 11 := by omega
    refine ⟨fun xs m => ∃ (b : Bool) (i : Nat), xs = [.bool b, .int .i64 i] ∧ i ≤ (argL ds (z + 1)).length ∧ (∀ x ∈ (lst ds z).take i, 0 ≤ x ∧ x < ((argL ds 0).length : Int)) ∧ m = (argL ds (z + 1)).length - i, ⟨_, b, 0, rfl, by omega, by simp, rfl⟩, ?_⟩
    intro b1 i' m1 ⟨_, i, e, hi, hall1, hm1⟩
    cases e
    have hb := hsm (z + 1) (by omega)
    have hd : ∀ s, den E0.Δ (ds ++ [.bool b, .int .i64 z, .bool b1, .int .i64 i]) (.sel (.econs (.var 1) (.econs (.var 2) (.econs (.var 3) (.econs (.var 4) (.econs (.var 5) (.econs (.var 6) (.econs (.var 7) (.econs (.var 8) (.econs (.var 9) (.econs (.var 10) (.econs (.var 11) .enil))))))))))) (.var 38) s) = ds.getD (z + 1) (.bool false) := fun s => den_lists hl (by simp only [@den_var0 E0.Δ ds, den_varA, den_varB, hl, Nat.reduceLT, Nat.reduceLeDiff, Nat.reduceSub, List.getD_cons_zero, List.getD_cons_succ, argL_fold ds, argI_fold ds, List.append_assoc, List.cons_append, List.nil_append, toInt_int, toBool_bool, xs_rows, xs_list, Int.toNat_natCast, Dat.bool.injEq]) hz11
    simp only [hd, @den_var0 E0.Δ ds, den_varA, den_varB, hl, Nat.reduceLT, Nat.reduceLeDiff, Nat.reduceSub, List.getD_cons_zero, List.getD_cons_succ, argL_fold ds, argI_fold ds, List.append_assoc, List.cons_append, List.nil_append, toInt_int, toBool_bool, xs_rows, xs_list, Int.toNat_natCast, Dat.bool.injEq]
    refine ⟨fun hlt1 => ⟨by omega, ?_⟩, fun hge1 => ?_⟩
    · have hi1 : i < (argL ds (z + 1)).length := by omega
      rw [lst_el hi1]
      have hmem : (lst ds z)[i]'(by rw [lst_len]; exact hi1) ∈ lst ds z := List.getElem_mem _
      refine ⟨fun h0 => fail fun hP => ?_, fun h0 => ⟨fun h1 => fail fun hP => ?_, fun h1 => ⟨(argL ds (z + 1)).length - (i + 1), by omega, b1, i + 1, ?_, by omega, ?_, rfl⟩⟩⟩
      · have := ((zones_iff ds).1 hP).1 z hz11 _ hmem; omega
      · have := ((zones_iff ds).1 hP).1 z hz11 _ hmem; omega
      · rw [wrap64 (by omega) (by omega)]; rfl
      · intro x hx
        rw [take_el (by rw [lst_len]; exact hi1)] at hx
        rcases List.mem_append.1 hx with hx | hx
        · exact hall1 x hx
        · rw [List.mem_singleton.1 hx]; omega
    · refine ⟨11 - (z + 1), by omega, b1, z + 1, ?_, by omega, fun y hy x hx => ?_, rfl⟩
      · rw [wrap64 (by omega) (by omega)]; rfl
      · by_cases hyz : y = z
        · subst hyz
          refine hall1 x ?_
          rw [List.take_of_length_le (by rw [lst_len]; omega)]; exact hx
        · exact hall y (by omega) x hx
  · have hr : ∀ y, y < 11 → ∀ x ∈ lst ds y, 0 ≤ x ∧ x < ((argL ds 0).length : Int) := fun y hy => hall y (by omega)
    clear hall hm hge hz
    refine ⟨fun xs m => ∃ (b : Bool) (k : Nat), xs = [.bool b, .int .i64 k] ∧ k ≤ (argL ds 0).length ∧ (∀ j, j < k → onceP ds j) ∧ m = (argL ds 0).length - k, ⟨_, b, 0, rfl, by omega, by intro y hy; omega, rfl⟩, ?_⟩
    intro b1 k' m1 ⟨_, k, e, hk, honce, hm1⟩
    cases e
    refine ⟨fun hlt => ⟨by omega, ?_⟩, fun hge => h _ ?_⟩
    · have hk1 : k < (argL ds 0).length := by omega
      have hob : (argL ds 0).getD k [] = obj ds k := rfl
      have ho3 : ∀ c, (((argL ds 0).getD k []).getD c (.int .i64 0)).toInt = rowI (obj ds k) c := fun c => rfl
      refine ⟨fun xs m => ∃ (b : Bool) (t z : Nat), xs = [.bool b, .int .i64 t, .int .i64 z] ∧ z ≤ 11 ∧ t = (alls ds z).count (k : Int) ∧ (∀ y, y < z → (k : Int) ∈ lst ds y → (y : Int) = rowI (obj ds k) 3) ∧ m = 11 - z, ⟨_, b1, 0, 0, rfl, by omega, by simp [alls, ids], by intro y hy; omega, rfl⟩, ?_⟩
      intro b2 t' z' m2 ⟨_, t, z2, e, hz, ht, hplace, hm2⟩
      cases e
      refine ⟨fun hlt => ⟨by omega, ?_⟩, fun hge => ?_⟩
      · have hz11 : z2 < 11 := by omega
        have hb := hsm (z2 + 1) (by omega)
        have hal := alls_len hsm z2 (by omega)
        refine ⟨fun xs m => ∃ (b : Bool) (t i : Nat), xs = [.bool b, .int .i64 t, .int .i64 i] ∧ i ≤ (argL ds (z2 + 1)).length ∧ t = (alls ds z2 ++ (lst ds z2).take i).count (k : Int) ∧ ((k : Int) ∈ (lst ds z2).take i → (z2 : Int) = rowI (obj ds k) 3) ∧ m = (argL ds (z2 + 1)).length - i, ⟨_, b2, t, 0, rfl, by omega, by simp [ht], by simp, rfl⟩, ?_⟩
        intro b3 t3' i' m3 ⟨_, t3, i, e, hi, ht3, hpl3, hm3⟩
        cases e
        have hd : ∀ s, den E0.Δ (ds ++ [.bool b, .int .i64 z, .bool b1, .int .i64 k, .bool b2, .int .i64 t, .int .i64 z2, .bool b3, .int .i64 t3, .int .i64 i]) (.sel (.econs (.var 1) (.econs (.var 2) (.econs (.var 3) (.econs (.var 4) (.econs (.var 5) (.econs (.var 6) (.econs (.var 7) (.econs (.var 8) (.econs (.var 9) (.econs (.var 10) (.econs (.var 11) .enil))))))))))) (.var 43) s) = ds.getD (z2 + 1) (.bool false) := fun s => den_lists hl (by simp only [@den_var0 E0.Δ ds, den_varA, den_varB, hl, Nat.reduceLT, Nat.reduceLeDiff, Nat.reduceSub, List.getD_cons_zero, List.getD_cons_succ, argL_fold ds, argI_fold ds, List.append_assoc, List.cons_append, List.nil_append, toInt_int, toBool_bool, xs_rows, xs_list, Int.toNat_natCast, Dat.bool.injEq]) hz11
        simp only [hd, @den_var0 E0.Δ ds, den_varA, den_varB, hl, Nat.reduceLT, Nat.reduceLeDiff, Nat.reduceSub, List.getD_cons_zero, List.getD_cons_succ, argL_fold ds, argI_fold ds, List.append_assoc, List.cons_append, List.nil_append, toInt_int, toBool_bool, xs_rows, xs_list, Int.toNat_natCast, Dat.bool.injEq]
        have htl : t3 ≤ z2 * 1000000 + i := by
          rw [ht3]
          refine Nat.le_trans List.count_le_length ?_
          rw [List.length_append, List.length_take]; omega
        refine ⟨fun hlt1 => ⟨by omega, ?_⟩, fun hge1 => ?_⟩
        · have hi1 : i < (argL ds (z2 + 1)).length := by omega
          have hi2 : i < (lst ds z2).length := by rw [lst_len]; exact hi1
          rw [lst_el hi1]
          have hmem : (lst ds z2)[i] ∈ lst ds z2 := List.getElem_mem _
          refine ⟨fun h0 => ⟨fun h1 => fail fun hP => ?_, fun h1 => ⟨(argL ds (z2 + 1)).length - (i + 1), by omega, b3, t3 + 1, i + 1, ?_, by omega, ?_, fun _ => by rw [ho3] at h1; exact h1, rfl⟩⟩, fun h0 => ⟨(argL ds (z2 + 1)).length - (i + 1), by omega, b3, t3, i + 1, ?_, by omega, ?_, fun hx => ?_, rfl⟩⟩
          · rw [ho3] at h1
            have := (((zones_iff ds).1 hP).2 k hk1).2.1 z2 hz11 (by rw [← h0]; exact hmem)
            exact h1 this
          · rw [wrap64 (by omega) (by omega), wrap64 (by omega) (by omega)]; rfl
          · rw [take_el hi2, h0, ← List.append_assoc, List.count_append, ← ht3]; simp
          · rw [wrap64 (by omega) (by omega)]; rfl
          · rw [take_el hi2, ← List.append_assoc, List.count_append, ← ht3, List.count_singleton]
            simp [h0]
          · rw [take_el hi2] at hx
            rcases List.mem_append.1 hx with hx | hx
            · exact hpl3 hx
            · exact (h0 (List.mem_singleton.1 hx).symm).elim
        · have hfull : (lst ds z2).take i = lst ds z2 := List.take_of_length_le (by rw [lst_len]; omega)
          rw [hfull] at ht3 hpl3
          refine ⟨11 - (z2 + 1), by omega, b3, t3, z2 + 1, ?_, by omega, by rw [alls_succ]; exact ht3, fun y hy hx => ?_, rfl⟩
          · rw [wrap64 (by omega) (by omega)]; rfl
          · by_cases hyz : y = z2
            · subst hyz; exact hpl3 hx
            · exact hplace y (by omega) hx
      · have hz11 : z2 = 11 := by omega
        subst hz11
        simp only [Int.toNat_natCast, ho3]
        have bad : ¬ onceP ds k → Q [.bool false] := fun hn => fail fun hP => hn (((zones_iff ds).1 hP).2 k hk1)
        have next : standsP (obj ds k) (rowI (obj ds k) 3) → t = 1 → ∃ m', m' < m1 ∧ ∃ (b : Bool) (k_1 : Nat), [Dat.bool b2, Dat.int .i64 (IntKind.i64.wrap (k + 1))] = [.bool b, .int .i64 k_1] ∧ k_1 ≤ (argL ds 0).length ∧ (∀ j, j < k_1 → onceP ds j) ∧ m' = (argL ds 0).length - k_1 := fun hst h1 => by
          refine ⟨(argL ds 0).length - (k + 1), by omega, b2, k + 1, ?_, by omega, fun j hj => ?_, rfl⟩
          · rw [wrap64 (by omega) (by omega)]; rfl
          · by_cases hjk : j = k
            · subst hjk; exact ⟨by rw [← ht]; exact h1, fun y hy => hplace y hy, hst⟩
            · exact honce j (by omega)
        refine ⟨fun h1 => bad fun ho => h1 (by rw [ht, ho.1]; rfl), fun h1 => ?_⟩
        have h1 : t = 1 := by omega
        refine ⟨fun h8 => ⟨fun hc => bad fun ho => hc (ho.2.2.1 h8).1, fun hc => ⟨fun hd => bad fun ho => hd (ho.2.2.1 h8).2, fun hd => next ⟨fun _ => ⟨hc, hd⟩, fun hx => absurd hx (by omega)⟩ h1⟩⟩, fun h8 => ⟨fun he => ⟨fun hd => bad fun ho => (ho.2.2.2 he) hd, fun hd => next ⟨fun hx => absurd hx h8, fun _ => hd⟩ h1⟩, fun he => next ⟨fun hx => absurd hx h8, fun hx => absurd hx he⟩ h1⟩⟩
    · simp only [true_iff]
      have hkk : k = (argL ds 0).length := by omega
      subst hkk
      exact (zones_iff ds).2 ⟨hr, honce⟩)
noncomputable def con_rzones : Con E0 := ⟨k_rzones, sg_rzones, rzones_s, rfl, bo_rzones, rzones_h⟩
end Go.Proofs.YtnhahmgbgocdgaaDoor
end

section
namespace Go.Proofs.YtnhahmgbgocdgaaDoor
open Go.RowKit
set_option linter.unusedVariables false
set_option linter.unusedSimpArgs false

def k_has : Nat := 47
def sg_has : Sig := ⟨[(true, [.int .i64, .int .i64]), (false, [.int .i64])], [(false, [.bool])], false, false, false, false, false⟩
def tr_has : Tree := (.ite (.cmp .ge (.var 2) (.var 0))
 (.ret [(.cmp .le (.var 2) (.var 1))])
 (.ret [(.bool false)]))
theorem wk_has : walk E0.cx (sgsN []) 0 47 sg_has = tr_has := by kernel_rfl
theorem bo_has : ∃ x, bodyOf E0.P 47 = some x := bo_of (by kernel_rfl)
def has_s : Spec := fun ds Q => Q [.bool (inB (argI ds 2) (argI ds 0) (argI ds 1))]
theorem has_h : Holds E0 k_has sg_has has_s := con_each wf0 mix0 g0 [] rfl wk_has rfl (by
  intro l m n Q h
  simp only [has_s, argI, Dat.toInt, inB, List.getD_cons_zero, List.getD_cons_succ] at h
  simp only [tr_has, wp, den, Dat.toInt, Cmp.of, List.nil_append, List.getD_cons_zero, List.getD_cons_succ, List.map_cons, List.map_nil, Dat.bool.injEq, decide_eq_true_eq, decide_eq_false_iff_not, ge_iff_le]
  exact ⟨fun h1 => by simpa [h1] using h, fun h1 => by simpa [h1] using h⟩)
noncomputable def con_has : Con E0 := ⟨k_has, sg_has, has_s, rfl, bo_has, has_h⟩

def loO (f : Nat) : Int := [0, 0, 0, 0, 0, 0, 0, 0, -1073741824, -1073741824, 0, 0, 0, 0, 0, 0, -2, 0].getD f 0
def hiO (m : Int) (f : Nat) : Int := [119, 1, 1, 10, 1, 1, 1073741824, 1073741824, 1073741824, 1073741824, 255, 1, m, 2, 3, m, m, 3].getD f 0
def twos (lo hi : Nat → Int) : Nat → Nat → List Dat
  | _, 0 => []
  | f, n + 1 => .int .i64 (lo f) :: .int .i64 (hi f) :: twos lo hi (f + 1) n
def k_objects : Nat := 46
def sg_objects : Sig := ⟨[(false, [.int .i64])], [(true, (List.replicate 18 ([.int .i64, .int .i64])).flatten)], false, false, false, false, false⟩
def tr_objects : Tree := (.ret [(.int .i64 0), (.int .i64 119), (.int .i64 0), (.int .i64 1), (.int .i64 0), (.int .i64 1), (.int .i64 0), (.int .i64 10), (.int .i64 0), (.int .i64 1), (.int .i64 0), (.int .i64 1), (.int .i64 0), (.int .i64 1073741824), (.int .i64 0), (.int .i64 1073741824), (.int .i64 (-1073741824)), (.int .i64 1073741824), (.int .i64 (-1073741824)), (.int .i64 1073741824), (.int .i64 0), (.int .i64 255), (.int .i64 0), (.int .i64 1), (.int .i64 0), (.var 0), (.int .i64 0), (.int .i64 2), (.int .i64 0), (.int .i64 3), (.int .i64 0), (.var 0), (.int .i64 (-2)), (.var 0), (.int .i64 0), (.int .i64 3)])
theorem wk_objects : walk E0.cx (sgsN []) 0 46 sg_objects = tr_objects := by kernel_rfl
theorem bo_objects : ∃ x, bodyOf E0.P 46 = some x := bo_of (by kernel_rfl)
def objects_s : Spec := fun ds Q => Q (twos loO (hiO (argI ds 0)) 0 18)
theorem objects_h : Holds E0 k_objects sg_objects objects_s := con_each wf0 mix0 g0 [] rfl wk_objects rfl (by
  intro m Q h
  simp only [objects_s, argI, Dat.toInt, List.getD_cons_zero] at h
  exact h)
noncomputable def con_objects : Con E0 := ⟨k_objects, sg_objects, objects_s, rfl, bo_objects, objects_h⟩

def loP (f : Nat) : Int := [-1073741824, 0, 0, 0, 0, 0, 0, 0, 0].getD f 0
def hiP (f : Nat) : Int := [1073741824, 1000, 1000, 1000, 1000, 1000, 1000, 1, 1].getD f 0
def k_players : Nat := 48
def sg_players : Sig := ⟨[], [(true, List.replicate 18 (.int .i64))], false, false, false, false, false⟩
def tr_players : Tree := (.loop [(.int .i64 0), (.int .i64 0), (.int .i64 0), (.int .i64 0), (.int .i64 0), (.int .i64 0), (.int .i64 0), (.int .i64 0), (.int .i64 0), (.int .i64 0), (.int .i64 0), (.int .i64 0), (.int .i64 0), (.int .i64 0), (.int .i64 0), (.int .i64 0), (.int .i64 0), (.int .i64 0), (.int .i64 0)] [(.int .i64), (.int .i64), (.int .i64), (.int .i64), (.int .i64), (.int .i64), (.int .i64), (.int .i64), (.int .i64), (.int .i64), (.int .i64), (.int .i64), (.int .i64), (.int .i64), (.int .i64), (.int .i64), (.int .i64), (.int .i64), (.int .i64)]
 (.ite (.cmp .lt (.var 0) (.int .i64 9))
  (.ob (.cmp .ge (.var 0) (.int .i64 0))
  (.again 0 [(.ar .add .i64 (.var 0) (.int .i64 1)), (.ite (.cmp .eq (.var 0) (.int .i64 0)) (.int .i64 0) (.var 1)), (.ite (.cmp .eq (.var 0) (.int .i64 0)) (.int .i64 1000) (.var 2)), (.ite (.cmp .eq (.var 0) (.int .i64 1)) (.int .i64 0) (.var 3)), (.ite (.cmp .eq (.var 0) (.int .i64 1)) (.int .i64 1000) (.var 4)), (.ite (.cmp .eq (.var 0) (.int .i64 2)) (.int .i64 0) (.var 5)), (.ite (.cmp .eq (.var 0) (.int .i64 2)) (.int .i64 1000) (.var 6)), (.ite (.cmp .eq (.var 0) (.int .i64 3)) (.int .i64 0) (.var 7)), (.ite (.cmp .eq (.var 0) (.int .i64 3)) (.int .i64 1000) (.var 8)), (.ite (.cmp .eq (.var 0) (.int .i64 4)) (.int .i64 0) (.var 9)), (.ite (.cmp .eq (.var 0) (.int .i64 4)) (.int .i64 1000) (.var 10)), (.ite (.cmp .eq (.var 0) (.int .i64 5)) (.int .i64 0) (.var 11)), (.ite (.cmp .eq (.var 0) (.int .i64 5)) (.int .i64 1000) (.var 12)), (.ite (.cmp .eq (.var 0) (.int .i64 6)) (.int .i64 0) (.var 13)), (.ite (.cmp .eq (.var 0) (.int .i64 6)) (.int .i64 1000) (.var 14)), (.ite (.cmp .eq (.var 0) (.int .i64 7)) (.int .i64 0) (.var 15)), (.ite (.cmp .eq (.var 0) (.int .i64 7)) (.int .i64 1000) (.var 16)), (.ite (.cmp .eq (.var 0) (.int .i64 8)) (.int .i64 0) (.var 17)), (.ite (.cmp .eq (.var 0) (.int .i64 8)) (.int .i64 1000) (.var 18))]))
  (.ret [(.int .i64 (-1073741824)), (.int .i64 1073741824), (.var 3), (.var 4), (.var 5), (.var 6), (.var 7), (.var 8), (.var 9), (.var 10), (.var 11), (.var 12), (.var 13), (.var 14), (.int .i64 0), (.int .i64 1), (.int .i64 0), (.int .i64 1)])))
theorem wk_players : walk E0.cx (sgsN []) 0 48 sg_players = tr_players := by kernel_rfl
theorem bo_players : ∃ x, bodyOf E0.P 48 = some x := bo_of (by kernel_rfl)
def players_s : Spec := fun ds Q => Q (twos loP hiP 0 9)
theorem players_h : Holds E0 k_players sg_players players_s := con_by wf0 mix0 g0 [] rfl wk_players rfl (by
  intro ds Q hs h
  have hl : ds.length = 0 := hs.length.symm
  simp only [players_s] at h
  simp only [tr_players, wp, den_int, den_bool, den_nili, den_ar, den_cmp, den_not, den_len, den_elem, den_isnil, den_errI, den_ifc, den_rep, den_push, den_app, den_emp, den_upd, row0_econs, row0_enil, den_and, den_beq, den_nil, toInt_int, toBool_bool, xs_rows, xs_list, dflt_int, dflt_bool, of_eq, of_ne, of_lt, of_le, of_gt, of_ge, of_add, of_sub, of_rem, List.map_cons, List.map_nil, Dat.bool.injEq, decide_eq_true_eq, decide_eq_false_iff_not, Bool.not_eq_true', Bool.not_eq_false', beq_iff_eq, bne_iff_ne, beq_eq_false_iff_ne, bne_eq_false_iff_eq, ne_eq, List.append_assoc, List.cons_append, List.nil_append, allS, @den_var0 E0.Δ ds, den_varA, den_varB, hl, Nat.reduceLT, Nat.reduceLeDiff, Nat.reduceSub, List.getD_cons_zero, List.getD_cons_succ, argL_fold ds, argI_fold ds, List.append_assoc, List.cons_append, List.nil_append, toInt_int, toBool_bool, xs_rows, xs_list, Int.toNat_natCast, Dat.bool.injEq]
  refine ⟨fun xs m => ∃ i : Nat, xs = .int .i64 i :: twos (fun _ => 0) (fun k => if k < i then 1000 else 0) 0 9 ∧ i ≤ 9 ∧ m = 9 - i, ⟨_, 0, rfl, by omega, rfl⟩, ?_⟩
  intro a0 a1 a2 a3 a4 a5 a6 a7 a8 a9 a10 a11 a12 a13 a14 a15 a16 a17 a18 m ⟨i, e, hi, hm⟩
  cases e
  obtain rfl := List.length_eq_zero_iff.1 hl
  refine ⟨fun hlt => ⟨by omega, 9 - (i + 1), by omega, i + 1, ?_, by omega, rfl⟩, fun hge => ?_⟩
  · match i, (show i < 9 by omega) with
    | 0, _ | 1, _ | 2, _ | 3, _ | 4, _ | 5, _ | 6, _ | 7, _ | 8, _ => rfl
  · have e9 : i = 9 := by omega
    subst e9
    exact h)
noncomputable def con_players : Con E0 := ⟨k_players, sg_players, players_s, rfl, bo_players, players_h⟩

def loG (f : Nat) : Int := [0, 0, 0, 0, 0, 0, 0].getD f 0
def hiG (f : Nat) : Int := [1073741824, 1, 7, 1, 1, 4096, 3].getD f 0
def k_game : Nat := 49
def sg_game : Sig := ⟨[], [(true, List.replicate 14 (.int .i64))], false, false, false, false, false⟩
def tr_game : Tree := (.ret [(.int .i64 0), (.int .i64 1073741824), (.int .i64 0), (.int .i64 1), (.int .i64 0), (.int .i64 7), (.int .i64 0), (.int .i64 1), (.int .i64 0), (.int .i64 1), (.int .i64 0), (.int .i64 4096), (.int .i64 0), (.int .i64 3)])
theorem wk_game : walk E0.cx (sgsN []) 0 49 sg_game = tr_game := by kernel_rfl
theorem bo_game : ∃ x, bodyOf E0.P 49 = some x := bo_of (by kernel_rfl)
def game_s : Spec := fun ds Q => Q (twos loG hiG 0 7)
theorem game_h : Holds E0 k_game sg_game game_s := con_each wf0 mix0 g0 [] rfl wk_game rfl (by
  intro Q h
  exact h)
noncomputable def con_game : Con E0 := ⟨k_game, sg_game, game_s, rfl, bo_game, game_h⟩

def sideB (z : Int) : Int := if z < 0 ∨ 11 ≤ z then 0 else if z < 8 then z - z.tmod 2 else z
def sideP (z : Int) : Int := if z < 0 ∨ 8 ≤ z then 0 else z.tmod 2
def k_Side : Nat := 61
def sg_Side : Sig := ⟨[(false, [.int .i64])], [(false, [.int .i64]), (false, [.int .i64]), (false, [.bool])], false, false, false, false, false⟩
def tr_Side : Tree := (.ite (.cmp .lt (.var 0) (.int .i64 0))
 (.ret [(.int .i64 0), (.int .i64 0), (.bool false)])
 (.ite (.cmp .ge (.var 0) (.int .i64 11))
  (.ret [(.int .i64 0), (.int .i64 0), (.bool false)])
  (.ite (.cmp .lt (.var 0) (.int .i64 8))
   (.ret [(.ar .andNot .i64 (.var 0) (.int .i64 1)), (.ar .and .i64 (.var 0) (.int .i64 1)), (.bool true)])
   (.ret [(.var 0), (.int .i64 0), (.bool false)]))))
theorem wk_Side : walk E0.cx (sgsN []) 0 61 sg_Side = tr_Side := by kernel_rfl
theorem bo_Side : ∃ x, bodyOf E0.P 61 = some x := bo_of (by kernel_rfl)
def Side_s : Spec := fun ds Q => Q [.int .i64 (sideB (argI ds 0)), .int .i64 (sideP (argI ds 0)), .bool (decide (0 ≤ argI ds 0 ∧ argI ds 0 < 8))]
theorem Side_h : Holds E0 k_Side sg_Side Side_s := con_each wf0 mix0 g0 [] rfl wk_Side rfl (by
  intro z Q h
  simp only [Side_s, argI, Dat.toInt, List.getD_cons_zero, sideB, sideP] at h
  simp only [tr_Side, wp, den, Dat.toInt, Cmp.of, List.nil_append, List.getD_cons_zero, List.getD_cons_succ, List.map_cons, List.map_nil, Dat.bool.injEq, decide_eq_true_eq, decide_eq_false_iff_not, ge_iff_le]
  refine ⟨fun h0 => ?_, fun h0 => ⟨fun h1 => ?_, fun h1 => ⟨fun h2 => ?_, fun h2 => ?_⟩⟩⟩
  · rw [if_pos (.inl h0), if_pos (.inl h0)] at h
    simpa [show ¬ (0 ≤ z) by omega] using h
  · rw [if_pos (.inr h1), if_pos (.inr (by omega))] at h
    simpa [show ¬ (z < 8) by omega] using h
  · have hz : z = 0 ∨ z = 1 ∨ z = 2 ∨ z = 3 ∨ z = 4 ∨ z = 5 ∨ z = 6 ∨ z = 7 := by omega
    rcases hz with rfl | rfl | rfl | rfl | rfl | rfl | rfl | rfl <;> exact h
  · rw [if_neg (by omega), if_neg h2, if_pos (.inr (by omega))] at h
    simpa [show ¬ (z < 8) by omega] using h)
noncomputable def con_Side : Con E0 := ⟨k_Side, sg_Side, Side_s, rfl, bo_Side, Side_h⟩

def k_stands : Nat := 50
def sg_stands : Sig := ⟨[(true, List.replicate 18 (.int .i64)), (false, [.int .i64])], [(false, [.bool])], false, false, false, false, false⟩
def tr_stands : Tree := (.call k_Side [(.var 18)] [(.int .i64), (.int .i64), .bool]
(.ite (.var 21)
 (.ite (.cmp .eq (.var 1) (.var 20))
  (.ret [(.cmp .eq (.var 13) (.int .i64 0))])
  (.ret [(.bool false)]))
 (.ite (.cmp .eq (.var 18) (.int .i64 8))
  (.ret [(.cmp .ne (.var 13) (.int .i64 2))])
  (.ret [(.bool true)]))))
theorem wk_stands : walk E0.cx (sgsN [(61, sg_Side)]) 0 50 sg_stands = tr_stands := by kernel_rfl
theorem bo_stands : ∃ x, bodyOf E0.P 50 = some x := bo_of (by kernel_rfl)
theorem sp_stands_Side : specC [con_Side] k_Side = Side_s := rfl
def stands_s : Spec := fun ds Q => 0 ≤ argI ds 18 ∧ argI ds 18 < 11 ∧ ∀ b : Bool, (b = true ↔ standsP (ds.take 18) (argI ds 18)) → Q [.bool b]
theorem stands_h : Holds E0 k_stands sg_stands stands_s := con_by wf0 mix0 g0 [con_Side] rfl wk_stands rfl (by
  intro ds Q hs ⟨h1, h2, h⟩
  have hl : ds.length = 19 := hs.length.symm
  simp only [tr_stands, wp, den_int, den_bool, den_nili, den_ar, den_cmp, den_not, den_len, den_elem, den_isnil, den_errI, den_ifc, den_rep, den_push, den_app, den_emp, den_upd, row0_econs, row0_enil, den_and, den_beq, den_nil, toInt_int, toBool_bool, xs_rows, xs_list, dflt_int, dflt_bool, of_eq, of_ne, of_lt, of_le, of_gt, of_ge, of_add, of_sub, of_rem, List.map_cons, List.map_nil, Dat.bool.injEq, decide_eq_true_eq, decide_eq_false_iff_not, Bool.not_eq_true', Bool.not_eq_false', beq_iff_eq, bne_iff_ne, beq_eq_false_iff_ne, bne_eq_false_iff_eq, ne_eq, List.append_assoc, List.cons_append, List.nil_append, allS, @den_var0 E0.Δ ds, den_varA, den_varB, hl, Nat.reduceLT, Nat.reduceLeDiff, Nat.reduceSub, List.getD_cons_zero, List.getD_cons_succ, argL_fold ds, argI_fold ds, List.append_assoc, List.cons_append, List.nil_append, toInt_int, toBool_bool, xs_rows, xs_list, Int.toNat_natCast, Dat.bool.injEq, sp_stands_Side, Side_s, argI, List.getD_cons_zero, List.getD_cons_succ]
  have e1 : rowI (ds.take 18) 1 = (ds.getD 1 (.int .i64 0)).toInt := by simp [rowI, List.getD_eq_getElem?_getD, List.getElem?_take]
  have e13 : rowI (ds.take 18) 13 = (ds.getD 13 (.int .i64 0)).toInt := by simp [rowI, List.getD_eq_getElem?_getD, List.getElem?_take]
  simp only [standsP, e1, e13, argI] at h h1 h2
  refine ⟨fun h3 => ⟨fun h4 => h _ ?_, fun h4 => h _ ?_⟩, fun h3 => ⟨fun h4 => h _ ?_, fun h4 => h _ ?_⟩⟩
  · rw [sideP, if_neg (by omega)] at h4
    simp only [beq_iff_eq]
    exact ⟨fun h5 => ⟨fun _ => ⟨h4, h5⟩, fun h6 => by omega⟩, fun h5 => (h5.1 h3.2).2⟩
  · rw [sideP, if_neg (by omega)] at h4
    simp only [Bool.false_eq_true, false_iff]
    exact fun h5 => h4 (h5.1 h3.2).1
  · simp only [bne_iff_ne, ne_eq]
    exact ⟨fun h5 => ⟨fun h6 => by omega, fun _ => h5⟩, fun h5 => h5.2 h4⟩
  · simp only [true_iff]
    exact ⟨fun h6 => by omega, fun h6 => absurd h6 h4⟩)
noncomputable def con_stands : Con E0 := ⟨k_stands, sg_stands, stands_s, rfl, bo_stands, stands_h⟩
end Go.Proofs.YtnhahmgbgocdgaaDoor
end

section
namespace Go.Proofs.YtnhahmgbgocdgaaDoor
open Go.RowKit
set_option linter.unusedVariables false
set_option linter.unusedSimpArgs false

theorem objB_iff (o : List Dat) (m : Int) : objB o m = true ↔ ∀ f, f < 18 → inB (rowI o f) (loO f) (hiO m f) = true := by
  constructor
  · intro h f hf
    simp only [objB, Bool.and_eq_true] at h
    obtain ⟨⟨⟨⟨⟨⟨⟨⟨⟨⟨⟨⟨⟨⟨⟨⟨⟨h0, h1⟩, h2⟩, h3⟩, h4⟩, h5⟩, h11⟩, h13⟩, h17⟩, h10⟩, h14⟩, h6⟩, h7⟩, h8⟩, h9⟩, h12⟩, h15⟩, h16⟩ := h
    match f, hf with
    | 0, _ => exact h0
    | 1, _ => exact h1
    | 2, _ => exact h2
    | 3, _ => exact h3
    | 4, _ => exact h4
    | 5, _ => exact h5
    | 6, _ => exact h6
    | 7, _ => exact h7
    | 8, _ => exact h8
    | 9, _ => exact h9
    | 10, _ => exact h10
    | 11, _ => exact h11
    | 12, _ => exact h12
    | 13, _ => exact h13
    | 14, _ => exact h14
    | 15, _ => exact h15
    | 16, _ => exact h16
    | 17, _ => exact h17
    | n + 18, h => exact absurd h (by omega)
  · intro h
    simp only [objB, Bool.and_eq_true]
    exact ⟨⟨⟨⟨⟨⟨⟨⟨⟨⟨⟨⟨⟨⟨⟨⟨⟨h 0 (by omega), h 1 (by omega)⟩, h 2 (by omega)⟩, h 3 (by omega)⟩, h 4 (by omega)⟩, h 5 (by omega)⟩, h 11 (by omega)⟩, h 13 (by omega)⟩, h 17 (by omega)⟩, h 10 (by omega)⟩, h 14 (by omega)⟩, h 6 (by omega)⟩, h 7 (by omega)⟩, h 8 (by omega)⟩, h 9 (by omega)⟩, h 12 (by omega)⟩, h 15 (by omega)⟩, h 16 (by omega)⟩
theorem plP_iff (ds : List Dat) : plP ds ↔ ∀ i, i < 2 → ∀ f, f < 9 → inB (pl ds (9 * i + f)) (loP f) (hiP f) = true := by
  constructor
  · intro h i hi f hf
    obtain ⟨h0, h7, h8, hk⟩ := h i hi
    match f, hf with
    | 0, _ => exact h0
    | 7, _ => exact h7
    | 8, _ => exact h8
    | 1, _ => exact hk 1 (by omega) (by omega)
    | 2, _ => exact hk 2 (by omega) (by omega)
    | 3, _ => exact hk 3 (by omega) (by omega)
    | 4, _ => exact hk 4 (by omega) (by omega)
    | 5, _ => exact hk 5 (by omega) (by omega)
    | 6, _ => exact hk 6 (by omega) (by omega)
  · intro h i hi
    refine ⟨h i hi 0 (by omega), h i hi 7 (by omega), h i hi 8 (by omega), fun k h1 h2 => ?_⟩
    have := h i hi k (by omega)
    match k, h1, h2 with
    | 1, _, _ | 2, _, _ | 3, _, _ | 4, _, _ | 5, _, _ | 6, _, _ => exact this
theorem gmP_iff (ds : List Dat) : gmP ds ↔ ∀ f, f < 7 → inB (gm ds f) (loG f) (hiG f) = true := by
  constructor
  · rintro ⟨h0, h1, h2, h3, h4, h5, h6⟩ f hf
    match f, hf with
    | 0, _ => exact h0
    | 1, _ => exact h1
    | 2, _ => exact h2
    | 3, _ => exact h3
    | 4, _ => exact h4
    | 5, _ => exact h5
    | 6, _ => exact h6
  · intro h
    exact ⟨h 0 (by omega), h 1 (by omega), h 2 (by omega), h 3 (by omega), h 4 (by omega), h 5 (by omega), h 6 (by omega)⟩
theorem selG18 (g : Nat → Int) {f : Nat} (hf : f < 18) (x : Dat) : ([.int .i64 (g 0), .int .i64 (g 1), .int .i64 (g 2), .int .i64 (g 3), .int .i64 (g 4), .int .i64 (g 5), .int .i64 (g 6), .int .i64 (g 7), .int .i64 (g 8), .int .i64 (g 9), .int .i64 (g 10), .int .i64 (g 11), .int .i64 (g 12), .int .i64 (g 13), .int .i64 (g 14), .int .i64 (g 15), .int .i64 (g 16), .int .i64 (g 17)].getD f x).toInt = g f := by
  match f, hf with
  | 0, _ | 1, _ | 2, _ | 3, _ | 4, _ | 5, _ | 6, _ | 7, _ | 8, _ | 9, _ | 10, _ | 11, _ | 12, _ | 13, _ | 14, _ | 15, _ | 16, _ | 17, _ => rfl
  | n + 18, h => exact absurd h (by omega)
theorem selG9 (g : Nat → Int) {f : Nat} (hf : f < 9) (x : Dat) : ([.int .i64 (g 0), .int .i64 (g 1), .int .i64 (g 2), .int .i64 (g 3), .int .i64 (g 4), .int .i64 (g 5), .int .i64 (g 6), .int .i64 (g 7), .int .i64 (g 8)].getD f x).toInt = g f := by
  match f, hf with
  | 0, _ | 1, _ | 2, _ | 3, _ | 4, _ | 5, _ | 6, _ | 7, _ | 8, _ => rfl
  | n + 9, h => exact absurd h (by omega)
theorem selG7 (g : Nat → Int) {f : Nat} (hf : f < 7) (x : Dat) : ([.int .i64 (g 0), .int .i64 (g 1), .int .i64 (g 2), .int .i64 (g 3), .int .i64 (g 4), .int .i64 (g 5), .int .i64 (g 6)].getD f x).toInt = g f := by
  match f, hf with
  | 0, _ | 1, _ | 2, _ | 3, _ | 4, _ | 5, _ | 6, _ => rfl
  | n + 7, h => exact absurd h (by omega)
theorem selR18 (o : List Dat) {f : Nat} (hf : f < 18) (x : Dat) : ([o.getD 0 (.int .i64 0), o.getD 1 (.int .i64 0), o.getD 2 (.int .i64 0), o.getD 3 (.int .i64 0), o.getD 4 (.int .i64 0), o.getD 5 (.int .i64 0), o.getD 6 (.int .i64 0), o.getD 7 (.int .i64 0), o.getD 8 (.int .i64 0), o.getD 9 (.int .i64 0), o.getD 10 (.int .i64 0), o.getD 11 (.int .i64 0), o.getD 12 (.int .i64 0), o.getD 13 (.int .i64 0), o.getD 14 (.int .i64 0), o.getD 15 (.int .i64 0), o.getD 16 (.int .i64 0), o.getD 17 (.int .i64 0)].getD f x).toInt = rowI o f := by
  match f, hf with
  | 0, _ | 1, _ | 2, _ | 3, _ | 4, _ | 5, _ | 6, _ | 7, _ | 8, _ | 9, _ | 10, _ | 11, _ | 12, _ | 13, _ | 14, _ | 15, _ | 16, _ | 17, _ => rfl
  | n + 18, h => exact absurd h (by omega)
theorem selV7 (o : List Dat) {f : Nat} (hf : f < 7) (x : Dat) : ([o.getD 30 (.bool false), o.getD 31 (.bool false), o.getD 32 (.bool false), o.getD 33 (.bool false), o.getD 34 (.bool false), o.getD 35 (.bool false), o.getD 36 (.bool false)].getD f x).toInt = gm o f := by
  match f, hf with
  | 0, _ | 1, _ | 2, _ | 3, _ | 4, _ | 5, _ | 6, _ => simp only [List.getD_cons_zero, List.getD_cons_succ, argI_fold]; rfl
  | n + 7, h => exact absurd h (by omega)
def k_ranges : Nat := 32
def sg_ranges : Sig := ⟨[(true, [.list 50] ++ List.replicate 11 (.list 3) ++ List.replicate 25 (.int .i64))], [(false, [.bool])], false, false, false, false, false⟩
def tr_ranges : Tree := (.call k_objects [(.len (.var 0))] [(.int .i64), (.int .i64), (.int .i64), (.int .i64), (.int .i64), (.int .i64), (.int .i64), (.int .i64), (.int .i64), (.int .i64), (.int .i64), (.int .i64), (.int .i64), (.int .i64), (.int .i64), (.int .i64), (.int .i64), (.int .i64), (.int .i64), (.int .i64), (.int .i64), (.int .i64), (.int .i64), (.int .i64), (.int .i64), (.int .i64), (.int .i64), (.int .i64), (.int .i64), (.int .i64), (.int .i64), (.int .i64), (.int .i64), (.int .i64), (.int .i64), (.int .i64)]
(.loop [(.bool false), (.int .i64 0)] [.bool, (.int .i64)]
 (.ite (.cmp .lt (.var 74) (.len (.var 0)))
  (.ob (.cmp .ge (.var 74) (.int .i64 0))
  (.loop [(.var 73), (.int .i64 0)] [.bool, (.int .i64)]
   (.ite (.cmp .lt (.var 76) (.int .i64 18))
    (.ob (.cmp .ge (.var 76) (.int .i64 0))
    (.ob (.cmp .ge (.var 76) (.int .i64 0))
    (.call k_has [(.sel (.econs (.var 37) (.econs (.var 39) (.econs (.var 41) (.econs (.var 43) (.econs (.var 45) (.econs (.var 47) (.econs (.var 49) (.econs (.var 51) (.econs (.var 53) (.econs (.var 55) (.econs (.var 57) (.econs (.var 59) (.econs (.var 61) (.econs (.var 63) (.econs (.var 65) (.econs (.var 67) (.econs (.var 69) (.econs (.var 71) .enil)))))))))))))))))) (.var 76) (.int .i64)), (.sel (.econs (.var 38) (.econs (.var 40) (.econs (.var 42) (.econs (.var 44) (.econs (.var 46) (.econs (.var 48) (.econs (.var 50) (.econs (.var 52) (.econs (.var 54) (.econs (.var 56) (.econs (.var 58) (.econs (.var 60) (.econs (.var 62) (.econs (.var 64) (.econs (.var 66) (.econs (.var 68) (.econs (.var 70) (.econs (.var 72) .enil)))))))))))))))))) (.var 76) (.int .i64)), (.sel (.econs (.elem (.var 0) (.var 74) 0 (.int .i64)) (.econs (.elem (.var 0) (.var 74) 1 (.int .i64)) (.econs (.elem (.var 0) (.var 74) 2 (.int .i64)) (.econs (.elem (.var 0) (.var 74) 3 (.int .i64)) (.econs (.elem (.var 0) (.var 74) 4 (.int .i64)) (.econs (.elem (.var 0) (.var 74) 5 (.int .i64)) (.econs (.elem (.var 0) (.var 74) 6 (.int .i64)) (.econs (.elem (.var 0) (.var 74) 7 (.int .i64)) (.econs (.elem (.var 0) (.var 74) 8 (.int .i64)) (.econs (.elem (.var 0) (.var 74) 9 (.int .i64)) (.econs (.elem (.var 0) (.var 74) 10 (.int .i64)) (.econs (.elem (.var 0) (.var 74) 11 (.int .i64)) (.econs (.elem (.var 0) (.var 74) 12 (.int .i64)) (.econs (.elem (.var 0) (.var 74) 13 (.int .i64)) (.econs (.elem (.var 0) (.var 74) 14 (.int .i64)) (.econs (.elem (.var 0) (.var 74) 15 (.int .i64)) (.econs (.elem (.var 0) (.var 74) 16 (.int .i64)) (.econs (.elem (.var 0) (.var 74) 17 (.int .i64)) .enil)))))))))))))))))) (.var 76) (.int .i64))] [.bool]
    (.ite (.not (.var 77))
     (.ret [(.bool false)])
     (.again 1 [(.var 75), (.ar .add .i64 (.var 76) (.int .i64 1))])))))
    (.again 0 [(.var 75), (.ar .add .i64 (.var 74) (.int .i64 1))]))))
  (.loop [(.var 73), (.int .i64 0)] [.bool, (.int .i64)]
   (.ite (.cmp .lt (.var 76) (.int .i64 2))
    (.ob (.cmp .ge (.var 76) (.int .i64 0))
    (.call k_players [] [(.int .i64), (.int .i64), (.int .i64), (.int .i64), (.int .i64), (.int .i64), (.int .i64), (.int .i64), (.int .i64), (.int .i64), (.int .i64), (.int .i64), (.int .i64), (.int .i64), (.int .i64), (.int .i64), (.int .i64), (.int .i64)]
    (.loop [(.var 75), (.int .i64 0)] [.bool, (.int .i64)]
     (.ite (.cmp .lt (.var 96) (.int .i64 9))
      (.ob (.cmp .ge (.var 96) (.int .i64 0))
      (.ob (.cmp .ge (.var 96) (.int .i64 0))
      (.call k_has [(.sel (.econs (.var 77) (.econs (.var 79) (.econs (.var 81) (.econs (.var 83) (.econs (.var 85) (.econs (.var 87) (.econs (.var 89) (.econs (.var 91) (.econs (.var 93) .enil))))))))) (.var 96) (.int .i64)), (.sel (.econs (.var 78) (.econs (.var 80) (.econs (.var 82) (.econs (.var 84) (.econs (.var 86) (.econs (.var 88) (.econs (.var 90) (.econs (.var 92) (.econs (.var 94) .enil))))))))) (.var 96) (.int .i64)), (.sel (.econs (.sel (.econs (.var 12) (.econs (.var 21) .enil)) (.var 76) (.int .i64)) (.econs (.sel (.econs (.var 13) (.econs (.var 22) .enil)) (.var 76) (.int .i64)) (.econs (.sel (.econs (.var 14) (.econs (.var 23) .enil)) (.var 76) (.int .i64)) (.econs (.sel (.econs (.var 15) (.econs (.var 24) .enil)) (.var 76) (.int .i64)) (.econs (.sel (.econs (.var 16) (.econs (.var 25) .enil)) (.var 76) (.int .i64)) (.econs (.sel (.econs (.var 17) (.econs (.var 26) .enil)) (.var 76) (.int .i64)) (.econs (.sel (.econs (.var 18) (.econs (.var 27) .enil)) (.var 76) (.int .i64)) (.econs (.sel (.econs (.var 19) (.econs (.var 28) .enil)) (.var 76) (.int .i64)) (.econs (.sel (.econs (.var 20) (.econs (.var 29) .enil)) (.var 76) (.int .i64)) .enil))))))))) (.var 96) (.int .i64))] [.bool]
      (.ite (.not (.var 97))
       (.ret [(.bool false)])
       (.again 2 [(.var 95), (.ar .add .i64 (.var 96) (.int .i64 1))])))))
      (.again 1 [(.var 95), (.ar .add .i64 (.var 76) (.int .i64 1))])))))
    (.call k_game [] [(.int .i64), (.int .i64), (.int .i64), (.int .i64), (.int .i64), (.int .i64), (.int .i64), (.int .i64), (.int .i64), (.int .i64), (.int .i64), (.int .i64), (.int .i64), (.int .i64)]
    (.loop [(.var 75), (.int .i64 0)] [.bool, (.int .i64)]
     (.ite (.cmp .lt (.var 92) (.int .i64 7))
      (.ob (.cmp .ge (.var 92) (.int .i64 0))
      (.ob (.cmp .ge (.var 92) (.int .i64 0))
      (.call k_has [(.sel (.econs (.var 77) (.econs (.var 79) (.econs (.var 81) (.econs (.var 83) (.econs (.var 85) (.econs (.var 87) (.econs (.var 89) .enil))))))) (.var 92) (.int .i64)), (.sel (.econs (.var 78) (.econs (.var 80) (.econs (.var 82) (.econs (.var 84) (.econs (.var 86) (.econs (.var 88) (.econs (.var 90) .enil))))))) (.var 92) (.int .i64)), (.sel (.econs (.var 30) (.econs (.var 31) (.econs (.var 32) (.econs (.var 33) (.econs (.var 34) (.econs (.var 35) (.econs (.var 36) .enil))))))) (.var 92) (.int .i64))] [.bool]
      (.ite (.not (.var 93))
       (.ret [(.bool false)])
       (.again 2 [(.var 91), (.ar .add .i64 (.var 92) (.int .i64 1))])))))
      (.ret [(.bool true)])))))))))
theorem wk_ranges : walk E0.cx (sgsN [(46, sg_objects), (47, sg_has), (48, sg_players), (49, sg_game)]) 0 32 sg_ranges = tr_ranges := by kernel_rfl
theorem bo_ranges : ∃ x, bodyOf E0.P 32 = some x := bo_of (by kernel_rfl)
theorem sp_ranges_objects : specC [con_objects, con_has, con_players, con_game] k_objects = objects_s := rfl
theorem sp_ranges_has : specC [con_objects, con_has, con_players, con_game] k_has = has_s := rfl
theorem sp_ranges_players : specC [con_objects, con_has, con_players, con_game] k_players = players_s := rfl
theorem sp_ranges_game : specC [con_objects, con_has, con_players, con_game] k_game = game_s := rfl
def ranges_s : Spec := iff_s rangesP
theorem ranges_h : Holds E0 k_ranges sg_ranges ranges_s := con_by wf0 mix0 g0 [con_objects, con_has, con_players, con_game] rfl wk_ranges rfl (by
  intro ds Q hs ⟨hsm, h⟩
  have hl : ds.length = 37 := hs.length.symm
  have hn := hsm 0 (by omega)
  have fail : ¬ rangesP ds → Q [.bool false] := fun hn => h _ (by simp only [Bool.false_eq_true, false_iff]; exact hn)
  simp only [tr_ranges, wp, den_int, den_bool, den_nili, den_ar, den_cmp, den_not, den_len, den_elem, den_isnil, den_errI, den_ifc, den_rep, den_push, den_app, den_emp, den_upd, row0_econs, row0_enil, den_and, den_beq, den_nil, toInt_int, toBool_bool, xs_rows, xs_list, dflt_int, dflt_bool, of_eq, of_ne, of_lt, of_le, of_gt, of_ge, of_add, of_sub, of_rem, List.map_cons, List.map_nil, Dat.bool.injEq, decide_eq_true_eq, decide_eq_false_iff_not, Bool.not_eq_true', Bool.not_eq_false', beq_iff_eq, bne_iff_ne, beq_eq_false_iff_ne, bne_eq_false_iff_eq, ne_eq, List.append_assoc, List.cons_append, List.nil_append, allS, sp_ranges_objects, sp_ranges_has, sp_ranges_players, sp_ranges_game, objects_s, has_s, players_s, game_s, twos, Nat.reduceAdd, Nat.zero_add, argI, List.getD_cons_zero, List.getD_cons_succ, @den_var0 E0.Δ ds, den_varA, den_varB, hl, Nat.reduceLT, Nat.reduceLeDiff, Nat.reduceSub, List.getD_cons_zero, List.getD_cons_succ, argL_fold ds, argI_fold ds, List.append_assoc, List.cons_append, List.nil_append, toInt_int, toBool_bool, xs_rows, xs_list, Int.toNat_natCast, Dat.bool.injEq]
  refine ⟨fun xs m => ∃ (b : Bool) (i : Nat), xs = [.bool b, .int .i64 i] ∧ i ≤ (argL ds 0).length ∧ (∀ o ∈ (argL ds 0).take i, objB o (argL ds 0).length = true) ∧ m = (argL ds 0).length - i, ⟨_, false, 0, rfl, by omega, by simp, rfl⟩, ?_⟩
  intro b i' m ⟨_, i, e, hi, hall, hm⟩
  cases e
  refine ⟨fun hlt => ⟨by omega, ?_⟩, fun hge => ?_⟩
  · have hi2 : i < (argL ds 0).length := by omega
    refine ⟨fun xs m => ∃ (b : Bool) (f : Nat), xs = [.bool b, .int .i64 f] ∧ f ≤ 18 ∧ (∀ k, k < f → inB (rowI (argL ds 0)[i] k) (loO k) (hiO (argL ds 0).length k) = true) ∧ m = 18 - f, ⟨_, b, 0, rfl, by omega, by intro y hy; omega, rfl⟩, ?_⟩
    intro b1 f' m1 ⟨_, f, e, hf, hall1, hm1⟩
    cases e
    refine ⟨fun hlt1 => ⟨by omega, by omega, ?_⟩, fun hge1 => ?_⟩
    · have hf1 : f < 18 := by omega
      simp only [den_sel, row0_econs, row0_enil, den_elem, den_len, @den_var0 E0.Δ ds, den_varA, den_varB, hl, Nat.reduceLT, Nat.reduceLeDiff, Nat.reduceSub, List.getD_cons_zero, List.getD_cons_succ, argL_fold ds, argI_fold ds, List.append_assoc, List.cons_append, List.nil_append, toInt_int, toBool_bool, xs_rows, xs_list, Int.toNat_natCast, Dat.bool.injEq, getD_lt hi2, selG18 loO hf1, selG18 (hiO _) hf1]
      simp only [dflt_int, selR18 _ hf1]
      refine ⟨fun h1 => fail fun hP => ?_, fun h1 => ⟨18 - (f + 1), by omega, b1, f + 1, ?_, by omega, fun k hk => ?_, rfl⟩⟩
      · have := (objB_iff _ _).1 (hP.1 _ (List.getElem_mem hi2)) f hf1
        rw [h1] at this; cases this
      · rw [wrap64 (by omega) (by omega)]; rfl
      · by_cases hkf : k = f
        · subst hkf; exact h1
        · exact hall1 k (by omega)
    · refine ⟨(argL ds 0).length - (i + 1), by omega, b1, i + 1, ?_, by omega, all_take hall hi2 ((objB_iff _ _).2 fun k hk => hall1 k (by omega)), rfl⟩
      rw [wrap64 (by omega) (by omega)]; rfl
  · have hobj : ∀ o ∈ argL ds 0, objB o (argL ds 0).length = true := by rw [List.take_of_length_le (by omega)] at hall; exact hall
    clear hall hm hge hi
    refine ⟨fun xs m => ∃ (b : Bool) (i : Nat), xs = [.bool b, .int .i64 i] ∧ i ≤ 2 ∧ (∀ j, j < i → ∀ f, f < 9 → inB (pl ds (9 * j + f)) (loP f) (hiP f) = true) ∧ m = 2 - i, ⟨_, b, 0, rfl, by omega, by intro j hj; omega, rfl⟩, ?_⟩
    intro b1 i1' m1 ⟨_, i1, e, hi1, hall, hm⟩
    cases e
    refine ⟨fun hlt => ⟨by omega, ?_⟩, fun hge => ?_⟩
    · have hi2 : i1 < 2 := by omega
      refine ⟨fun xs m => ∃ (b : Bool) (f : Nat), xs = [.bool b, .int .i64 f] ∧ f ≤ 9 ∧ (∀ k, k < f → inB (pl ds (9 * i1 + k)) (loP k) (hiP k) = true) ∧ m = 9 - f, ⟨_, b1, 0, rfl, by omega, by intro y hy; omega, rfl⟩, ?_⟩
      intro b2 f' m2 ⟨_, f, e, hf, hall1, hm1⟩
      cases e
      refine ⟨fun hlt1 => ⟨by omega, by omega, ?_⟩, fun hge1 => ?_⟩
      · have hf1 : f < 9 := by omega
        simp only [den_sel, row0_econs, row0_enil, den_elem, den_len, @den_var0 E0.Δ ds, den_varA, den_varB, hl, Nat.reduceLT, Nat.reduceLeDiff, Nat.reduceSub, List.getD_cons_zero, List.getD_cons_succ, argL_fold ds, argI_fold ds, List.append_assoc, List.cons_append, List.nil_append, toInt_int, toBool_bool, xs_rows, xs_list, Int.toNat_natCast, Dat.bool.injEq, selG9 loP hf1, selG9 hiP hf1, sel2 hi2 (c := 9) rfl]
        have e9 : ∀ x, ([ds.getD (12 + 9 * i1) (.bool false), ds.getD (13 + 9 * i1) (.bool false), ds.getD (14 + 9 * i1) (.bool false), ds.getD (15 + 9 * i1) (.bool false), ds.getD (16 + 9 * i1) (.bool false), ds.getD (17 + 9 * i1) (.bool false), ds.getD (18 + 9 * i1) (.bool false), ds.getD (19 + 9 * i1) (.bool false), ds.getD (20 + 9 * i1) (.bool false)].getD f x).toInt = pl ds (9 * i1 + f) := fun x => by
          match f, hf1 with
          | 0, _ | 1, _ | 2, _ | 3, _ | 4, _ | 5, _ | 6, _ | 7, _ | 8, _ =>
            simp only [List.getD_cons_zero, List.getD_cons_succ, argI_fold, pl]
            first | rfl | (congr 1; omega)
        simp only [e9]
        refine ⟨fun h1 => fail fun hP => ?_, fun h1 => ⟨9 - (f + 1), by omega, b2, f + 1, ?_, by omega, fun k hk => ?_, rfl⟩⟩
        · have := (plP_iff _).1 hP.2.1 i1 hi2 f hf1
          rw [h1] at this; cases this
        · rw [wrap64 (by omega) (by omega)]; rfl
        · by_cases hkf : k = f
          · subst hkf; exact h1
          · exact hall1 k (by omega)
      · refine ⟨2 - (i1 + 1), by omega, b2, i1 + 1, ?_, by omega, fun j hj => ?_, rfl⟩
        · rw [wrap64 (by omega) (by omega)]; rfl
        · by_cases hji : j = i1
          · subst hji; exact fun k hk => hall1 k (by omega)
          · exact hall j (by omega)
    · have hpl : plP ds := (plP_iff ds).2 fun i hi => hall i (by omega)
      clear hall hm hge hi1
      refine ⟨fun xs m => ∃ (b : Bool) (f : Nat), xs = [.bool b, .int .i64 f] ∧ f ≤ 7 ∧ (∀ k, k < f → inB (gm ds k) (loG k) (hiG k) = true) ∧ m = 7 - f, ⟨_, b1, 0, rfl, by omega, by intro y hy; omega, rfl⟩, ?_⟩
      intro b2 f' m2 ⟨_, f, e, hf, hall1, hm1⟩
      cases e
      refine ⟨fun hlt1 => ⟨by omega, by omega, ?_⟩, fun hge1 => ?_⟩
      · have hf1 : f < 7 := by omega
        simp only [den_sel, row0_econs, row0_enil, den_elem, den_len, @den_var0 E0.Δ ds, den_varA, den_varB, hl, Nat.reduceLT, Nat.reduceLeDiff, Nat.reduceSub, List.getD_cons_zero, List.getD_cons_succ, argL_fold ds, argI_fold ds, List.append_assoc, List.cons_append, List.nil_append, toInt_int, toBool_bool, xs_rows, xs_list, Int.toNat_natCast, Dat.bool.injEq, selG7 loG hf1, selG7 hiG hf1]
        simp only [selV7 _ hf1]
        refine ⟨fun h1 => fail fun hP => ?_, fun h1 => ⟨7 - (f + 1), by omega, b2, f + 1, ?_, by omega, fun k hk => ?_, rfl⟩⟩
        · have := (gmP_iff _).1 hP.2.2 f hf1
          rw [h1] at this; cases this
        · rw [wrap64 (by omega) (by omega)]; rfl
        · by_cases hkf : k = f
          · subst hkf; exact h1
          · exact hall1 k (by omega)
      · refine h _ ?_
        simp only [true_iff]
        exact ⟨hobj, hpl, (gmP_iff ds).2 fun f hf => hall1 f (by omega)⟩)
noncomputable def con_ranges : Con E0 := ⟨k_ranges, sg_ranges, ranges_s, rfl, bo_ranges, ranges_h⟩
end Go.Proofs.YtnhahmgbgocdgaaDoor
end
