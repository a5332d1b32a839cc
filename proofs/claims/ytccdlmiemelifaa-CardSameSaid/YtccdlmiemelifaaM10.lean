import Derived.Test.YtccdlmiemelifaaM9

set_option linter.unusedVariables false
set_option linter.unusedSimpArgs false

section
namespace Go.Proofs.Ytccdlmiemelifaa
open Go.RowKit
set_option linter.unusedVariables false
set_option linter.unusedSimpArgs false

/-- a contract of a function that calls itself: by what gets less -/
theorem holds_rec {E : Env} {f : FuncId} {sg : Sig} {Φ : Spec} (m : List Dat → Nat)
    (step : ∀ n, Holds E f sg (fun ds Q => m ds < n ∧ Φ ds Q) → Holds E f sg (fun ds Q => m ds < n + 1 ∧ Φ ds Q)) : Holds E f sg Φ := by
  have all : ∀ n, Holds E f sg (fun ds Q => m ds < n ∧ Φ ds Q) := by
    intro n
    induction n with
    | zero => intro w ds Q _ _ _ _ h; exact absurd h.1 (Nat.not_lt_zero _)
    | succ n ih => exact step n ih
  intro w ds Q h1 h2 h3 h4 h5
  exact all (m ds + 1) w ds Q h1 h2 h3 h4 ⟨Nat.lt_succ_self _, h5⟩

/-- .. its callees' contracts behind a name -/
theorem con_fn {E : Env} (hW : E.Wf) (hmix : E.P.follows .mixedOrders = true) (hγ : E.γ = []) (T : List (Con E)) {ns : List (Nat × Sig)} (hn : names T = ns) {f : Nat} {sg : Sig} {tr : Tree} (hT : walk E.cx (sgsN ns) 0 f sg = tr) (hsg : sg.ok = true) {Ψ : Spec}
    (h : ∀ Φ : Nat → Spec, Φ = specC T → ∀ ds Q, All2 (Has E.Δ) (Sig.sorts sg.params) ds → Ψ ds Q → wp E.Δ Φ Q tr ds []) : Holds E f sg Ψ :=
  con_by hW hmix hγ T hn hT hsg (h _ rfl)

/-- a slice that is nil has nothing -/
def NilOk (d : Dat) : Prop := isNilI d = true → d.xs = []
theorem nilOk {d : Dat} {w : World} (ho : OkD w d) : NilOk d := fun hn => by
  cases ho with
  | list v sz xs hr _ =>
    obtain ⟨A, c, rfl, hc, hlen, ha⟩ := hr
    cases A with
    | some a => cases hn
    | none =>
      cases xs with
      | nil => rfl
      | cons x xs =>
        obtain ⟨ad, e, _⟩ := ha (by simp)
        cases e
  | rows xs _ => cases hn
  | _ => rfl
theorem con_fnN {E : Env} (hW : E.Wf) (hmix : E.P.follows .mixedOrders = true) (hγ : E.γ = []) (T : List (Con E)) {ns : List (Nat × Sig)} (hn : names T = ns) {f : Nat} {sg : Sig} {tr : Tree} (hT : walk E.cx (sgsN ns) 0 f sg = tr) (hsg : sg.ok = true) {Ψ : Spec}
    (h : ∀ Φ : Nat → Spec, Φ = specC T → ∀ ds Q, All2 (Has E.Δ) (Sig.sorts sg.params) ds → (∀ d ∈ ds, NilOk d) → Ψ ds Q → wp E.Δ Φ Q tr ds []) : Holds E f sg Ψ := fun w ds Q h1 h2 h3 h4 h5 =>
  con_fn hW hmix hγ T hn hT hsg (Ψ := fun ds Q => (∀ d ∈ ds, NilOk d) ∧ Ψ ds Q) (fun Φ hΦ ds Q hs hq => h Φ hΦ ds Q hs hq.1 hq.2) w ds Q h1 h2 h3 h4 ⟨fun d hd => nilOk (h2 d hd), h5⟩
theorem take_succ_getD {α : Type} {l : List α} {i : Nat} {d : α} (h : i < l.length) : l.take (i + 1) = l.take i ++ [l.getD i d] := by
  rw [List.getD_eq_getElem?_getD, List.getElem?_eq_getElem h, List.take_add_one, List.getElem?_eq_getElem h]; rfl
theorem drop_getD {α : Type} {l : List α} {i : Nat} {d : α} (h : i < l.length) : l.drop i = l.getD i d :: l.drop (i + 1) := by
  rw [List.getD_eq_getElem?_getD, List.getElem?_eq_getElem h, List.drop_eq_getElem_cons h]; rfl
theorem getD_memL {α : Type} {l : List α} {i : Nat} {d : α} (h : i < l.length) : l.getD i d ∈ l := by
  rw [List.getD_eq_getElem?_getD, List.getElem?_eq_getElem h]; exact List.getElem_mem h
theorem argV {Δ : Tab} {k : IntKind} {ds : List Dat} {i : Nat} (h : Has Δ (.int k) (ds.getD i (.bool false))) : ds.getD i (.bool false) = .int k (argI ds i) := by
  rw [← argI_fold]; exact has_int h
theorem den_ite (Δ : Tab) (ρ : List Dat) (c a b : Tm) : den Δ ρ (.ite c a b) = if (den Δ ρ c).toBool then den Δ ρ a else den Δ ρ b := rfl
theorem argI_c0 {d : Dat} {l : List Dat} : argI (d :: l) 0 = d.toInt := rfl
theorem argI_c1 {d : Dat} {l : List Dat} {n : Nat} : argI (d :: l) (n + 1) = argI l n := rfl
theorem argL_c0 {d : Dat} {l : List Dat} : argL (d :: l) 0 = d.xs := rfl
theorem argL_c1 {d : Dat} {l : List Dat} {n : Nat} : argL (d :: l) (n + 1) = argL l n := rfl
theorem xs_cutD {Δ : Tab} {r : Nat} {d : Dat} {l h : Nat} (hd : Has Δ (.list r) d) (h1 : l ≤ h) (h2 : h ≤ d.xs.length) : (cutD l h d).xs = (d.xs.take h).drop l := by
  cases hd with
  | list _ A n c xs hl hh =>
    have hall : xs.all (fun r' => r'.length == (Δ.row r).length) = true := List.all_eq_true.2 fun row hr => by simpa using hl row hr
    simp only [cutD]
    rw [if_pos ⟨h1, h2, hall⟩]
    rfl
theorem den_or (Δ : Tab) (ρ : List Dat) (a b : Tm) : den Δ ρ (.or a b) = .bool ((den Δ ρ a).toBool || (den Δ ρ b).toBool) := rfl
theorem den_conv (Δ : Tab) (ρ : List Dat) (k : IntKind) (a : Tm) : den Δ ρ (.conv k a) = .int k (k.wrap (den Δ ρ a).toInt) := rfl
theorem den_cutT (Δ : Tab) (ρ : List Dat) (a l h : Tm) : den Δ ρ (.cut a l h) = cutD (den Δ ρ l).toInt.toNat (den Δ ρ h).toInt.toNat (den Δ ρ a) := rfl
theorem ite_datb (c : Prop) [Decidable c] (a b : Bool) : (if c then Dat.bool a else Dat.bool b) = Dat.bool (if c then a else b) := by split <;> rfl
theorem ite_dati (k : IntKind) (c : Prop) [Decidable c] (a b : Int) : (if c then Dat.int k a else Dat.int k b) = Dat.int k (if c then a else b) := by split <;> rfl
theorem toInt_ite (c : Prop) [Decidable c] (a b : Dat) : (if c then a else b).toInt = if c then a.toInt else b.toInt := by split <;> rfl
theorem toBool_ite (c : Prop) [Decidable c] (a b : Dat) : (if c then a else b).toBool = if c then a.toBool else b.toBool := by split <;> rfl
theorem argI_row {r e : List Dat} {i k : Nat} (h : r.length = k) (hk : k ≤ i) : argI (r ++ e) i = argI e (i - k) := by
  subst h
  simp [argI, List.getD_eq_getElem?_getD, List.getElem?_append_right hk]
theorem argI_0 {d : Dat} {l : List Dat} : argI (d :: l) 0 = d.toInt := rfl
theorem argI_1 {a d : Dat} {l : List Dat} : argI (a :: d :: l) 1 = d.toInt := rfl
def errV (n : Int) : Dat := if n = 0 then .val .nilIface else .val (.iface 47 (.int .i64 n))
theorem errV_nil (n : Int) : isNilI (errV n) = decide (n = 0) := by
  unfold errV
  by_cases h : n = 0
  · rw [if_pos h, decide_eq_true h]; rfl
  · rw [if_neg h, decide_eq_false h]; rfl
theorem errV_0 : errV 0 = .val .nilIface := rfl
theorem errV_n {n : Int} (h : n ≠ 0) : errV n = .val (.iface 47 (.int .i64 n)) := if_neg h
def k_Num : Nat := 29
def sg_Num : Sig := ⟨[(false, [.err])], [(false, [.int .i64])], false, false, false, false, false⟩
def tr_Num : Tree := (.ite (.isnil (.var 0))
 (.ret [(.int .i64 0)])
 (.ite (.cmp .ne (.errI (.var 0)) (.int .i64 0))
  (.ret [(.errI (.var 0))])
  (.ret [(.int .i64 (-1))])))
theorem wk_Num : walk E0.cx (sgsN []) 0 29 sg_Num = tr_Num := by kernel_rfl
theorem bo_Num : ∃ x, bodyOf E0.P 29 = some x := bo_of (by kernel_rfl)
def Num_s : Spec := fun ds Q => ∃ n : Int, ds = [errV n] ∧ Q [.int .i64 n]
theorem Num_h : Holds E0 k_Num sg_Num Num_s := con_by wf0 mix0 g0 [] rfl wk_Num rfl (by
  intro ds Q hs ⟨n, e, h⟩
  subst e
  simp only [tr_Num, wp, den_int, den_bool, den_nili, den_ar, den_cmp, den_not, den_len, den_elem, den_isnil, den_errI, den_ifc, den_rep, den_push, den_app, den_emp, den_upd, row0_econs, row0_enil, den_and, den_beq, den_nil, toInt_int, toBool_bool, xs_rows, xs_list, dflt_int, dflt_bool, of_eq, of_ne, of_lt, of_le, of_gt, of_ge, of_add, of_sub, of_rem, List.map_cons, List.map_nil, Dat.bool.injEq, decide_eq_true_eq, decide_eq_false_iff_not, Bool.not_eq_true', Bool.not_eq_false', beq_iff_eq, bne_iff_ne, beq_eq_false_iff_ne, bne_eq_false_iff_eq, ne_eq, List.append_assoc, List.cons_append, List.nil_append, den_var0, List.getD_cons_zero]
  by_cases hn : n = 0
  · subst hn
    exact ⟨fun _ => h, fun hx => Bool.noConfusion hx⟩
  · simp only [errV, if_neg hn, errN]
    exact ⟨fun hx => Bool.noConfusion hx, fun _ => ⟨fun _ => h, fun hx => absurd hx hn⟩⟩)
noncomputable def con_Num : Con E0 := ⟨k_Num, sg_Num, Num_s, rfl, bo_Num, Num_h⟩
def true_s : Spec := fun ds Q => Q [.bool true]
end Go.Proofs.Ytccdlmiemelifaa
end

section
namespace Go.Proofs.Ytccdlmiemelifaa
open Go.RowKit
set_option linter.unusedVariables false
set_option linter.unusedSimpArgs false

inductive Eff where
  | mk (op n m who : Int) (subs : List Eff)
namespace Eff
def op : Eff → Int | .mk o _ _ _ _ => o
def n : Eff → Int | .mk _ x _ _ _ => x
def m : Eff → Int | .mk _ _ x _ _ => x
def who : Eff → Int | .mk _ _ _ x _ => x
def subs : Eff → List Eff | .mk _ _ _ _ l => l
end Eff
theorem sizeOf_getD_lt {l : List Dat} {i : Nat} {d : Dat} (h : i < l.length) : SizeOf.sizeOf (l.getD i d) < SizeOf.sizeOf l := by
  rw [List.getD_eq_getElem?_getD, List.getElem?_eq_getElem h]
  exact List.sizeOf_lt_of_mem (List.getElem_mem h)
theorem sizeOf_xs_lt {d : Dat} {r : List Dat} (h : r ∈ d.xs) : SizeOf.sizeOf r < SizeOf.sizeOf d := by
  cases d with
  | list v sz xs =>
    have := List.sizeOf_lt_of_mem (show r ∈ xs from h)
    simp only [Dat.list.sizeOf_spec]; omega
  | rows xs =>
    have := List.sizeOf_lt_of_mem (show r ∈ xs from h)
    simp only [Dat.rows.sizeOf_spec]; omega
  | _ => cases h
/-- the rows of an effect's parts -/
def subR (r : List Dat) : List (List Dat) := (r.getD 4 (.bool false)).xs
theorem subR_lt {r x : List Dat} (h : x ∈ subR r) : SizeOf.sizeOf x < SizeOf.sizeOf r := by
  have h1 := sizeOf_xs_lt h
  by_cases hl : 4 < r.length
  · exact Nat.lt_trans h1 (sizeOf_getD_lt hl)
  · rw [subR, List.getD_eq_getElem?_getD, List.getElem?_eq_none (by omega)] at h
    cases h
def effOf (r : List Dat) : Eff := .mk (rowI r 0) (rowI r 1) (rowI r 2) (rowI r 3) ((subR r).attach.map fun x => effOf x.1)
termination_by SizeOf.sizeOf r
decreasing_by exact subR_lt x.2
theorem effOf_eq (r : List Dat) : effOf r = .mk (rowI r 0) (rowI r 1) (rowI r 2) (rowI r 3) ((subR r).map effOf) := by
  rw [effOf]
  congr 1
  exact List.attach_map_val (l := subR r) (f := effOf)
mutual
/-- how many -/
def Eff.size : Eff → Nat
  | .mk _ _ _ _ l => 1 + Eff.sizes l
def Eff.sizes : List Eff → Nat
  | [] => 0
  | e :: l => e.size + Eff.sizes l
end
mutual
/-- how deep -/
def Eff.depth : Eff → Nat
  | .mk _ _ _ _ l => Eff.depths l + 1
def Eff.depths : List Eff → Nat
  | [] => 0
  | e :: l => max e.depth (Eff.depths l)
end
mutual
def Eff.has (o : Int) : Eff → Bool
  | .mk p _ _ _ l => p == o || Eff.hass o l
def Eff.hass (o : Int) : List Eff → Bool
  | [] => false
  | e :: l => e.has o || Eff.hass o l
end
theorem Eff.sizes_append : ∀ (a b : List Eff), Eff.sizes (a ++ b) = Eff.sizes a + Eff.sizes b
  | [], b => by simp [Eff.sizes]
  | e :: a, b => by simp [Eff.sizes, Eff.sizes_append a b, Nat.add_assoc]
theorem Eff.depths_append : ∀ (a b : List Eff), Eff.depths (a ++ b) = max (Eff.depths a) (Eff.depths b)
  | [], b => by simp [Eff.depths]
  | e :: a, b => by simp [Eff.depths, Eff.depths_append a b, Nat.max_assoc]
theorem Eff.hass_append (o : Int) : ∀ (a b : List Eff), Eff.hass o (a ++ b) = (Eff.hass o a || Eff.hass o b)
  | [], b => by simp [Eff.hass]
  | e :: a, b => by simp [Eff.hass, Eff.hass_append o a b, Bool.or_assoc]
theorem Eff.sizes_take (l : List (List Dat)) (i : Nat) : Eff.sizes ((l.take i).map effOf) ≤ Eff.sizes (l.map effOf) := by
  conv => rhs; rw [← List.take_append_drop i l, List.map_append, Eff.sizes_append]
  omega
theorem Eff.depths_take (l : List (List Dat)) (i : Nat) : Eff.depths ((l.take i).map effOf) ≤ Eff.depths (l.map effOf) := by
  conv => rhs; rw [← List.take_append_drop i l, List.map_append, Eff.depths_append]
  omega
theorem Eff.size_pos (e : Eff) : 0 < e.size := by cases e; simp only [Eff.size]; omega
theorem Eff.length_le_sizes : ∀ l : List Eff, l.length ≤ Eff.sizes l
  | [] => by simp
  | e :: l => by have := Eff.length_le_sizes l; have := Eff.size_pos e; simp only [List.length_cons, Eff.sizes]; omega
theorem Eff.size_eq (e : Eff) : e.size = 1 + Eff.sizes e.subs := by cases e; rfl
theorem Eff.depth_eq (e : Eff) : e.depth = Eff.depths e.subs + 1 := by cases e; rfl
theorem Eff.has_eq (o : Int) (e : Eff) : e.has o = (e.op == o || Eff.hass o e.subs) := by cases e; rfl
theorem Eff.size_le_sizes {e : Eff} : ∀ {l : List Eff}, e ∈ l → e.size ≤ Eff.sizes l
  | x :: l, h => by
    rcases List.mem_cons.1 h with rfl | h
    · simp [Eff.sizes]
    · have := Eff.size_le_sizes h; simp only [Eff.sizes]; omega
theorem Eff.sub_lt {e x : Eff} (h : x ∈ e.subs) : x.size < e.size := by
  have := Eff.size_le_sizes h
  rw [Eff.size_eq e]; omega
mutual
theorem Eff.depth_le_size : ∀ e : Eff, e.depth ≤ e.size
  | .mk _ _ _ _ l => by have := Eff.depths_le_sizes l; simp only [Eff.depth, Eff.size]; omega
theorem Eff.depths_le_sizes : ∀ l : List Eff, Eff.depths l ≤ Eff.sizes l
  | [] => by simp [Eff.depths]
  | e :: l => by have h1 := Eff.depth_le_size e; have h2 := Eff.depths_le_sizes l; simp only [Eff.depths, Eff.sizes]; omega
end
theorem effOf_subs (r : List Dat) : (effOf r).subs = (subR r).map effOf := by rw [effOf_eq]; rfl
theorem effOf_op (r : List Dat) : (effOf r).op = rowI r 0 := by rw [effOf_eq]; rfl
theorem effOf_n (r : List Dat) : (effOf r).n = rowI r 1 := by rw [effOf_eq]; rfl
theorem effOf_m (r : List Dat) : (effOf r).m = rowI r 2 := by rw [effOf_eq]; rfl
theorem effOf_who (r : List Dat) : (effOf r).who = rowI r 3 := by rw [effOf_eq]; rfl
/-- a row out of its cells -/
theorem fold5 {r : List Dat} (h : r.length = 5) (a b c d e : Dat) : [r.getD 0 a, r.getD 1 b, r.getD 2 c, r.getD 3 d, r.getD 4 e] = r := by
  match r, h with
  | [_, _, _, _, _], _ => rfl
/-- the rows of a list of effects have five cells -/
theorem eff_len {d : Dat} (h : Has E0.Δ (.list 24) d) : ∀ r ∈ d.xs, r.length = 5 := by
  cases h with
  | list _ A n c xs hl _ => exact fun r hr => hl r hr
/-- the effect that stands first in a call's arguments -/
def argE (ds : List Dat) : Eff := effOf (ds.take 5)
def mE (ds : List Dat) : Nat := (argE ds).size
theorem argE_row {r e : List Dat} (h : r.length = 5) : argE (r ++ e) = effOf r := by
  rw [argE, List.take_append_of_le_length (by omega), List.take_of_length_le (by omega)]
theorem argE_row0 {r : List Dat} (h : r.length = 5) : argE r = effOf r := by
  rw [argE, List.take_of_length_le (by omega)]
theorem argE_subs (ds : List Dat) : (argE ds).subs = (argL ds 4).map effOf := by
  rw [argE, effOf_subs, subR, argL]
  congr 2
  rw [List.getD_eq_getElem?_getD, List.getElem?_take, if_pos (by omega), List.getD_eq_getElem?_getD]
theorem argE_op {ds : List Dat} (h : 0 < ds.length) : (argE ds).op = argI ds 0 := by
  cases ds with
  | nil => cases h
  | cons d l =>
    rw [argE, effOf_op, rowI, argI]; rfl
theorem fold5x {r : List Dat} (h : r.length = 5) (a b c d e x : Dat) : [r.getD 0 a, r.getD 1 b, r.getD 2 c, r.getD 3 d, r.getD 4 e, x] = r ++ [x] := by
  match r, h with
  | [_, _, _, _, _], _ => rfl
theorem fold5xy {r : List Dat} (h : r.length = 5) (a b c d e x y : Dat) : [r.getD 0 a, r.getD 1 b, r.getD 2 c, r.getD 3 d, r.getD 4 e, x, y] = r ++ [x, y] := by
  match r, h with
  | [_, _, _, _, _], _ => rfl
end Go.Proofs.Ytccdlmiemelifaa
end

section
namespace Go.Proofs.Ytccdlmiemelifaa
open Go.RowKit
set_option linter.unusedVariables false
set_option linter.unusedSimpArgs false

def k_room : Nat := 20
def sg_room : Sig := ⟨[(true, List.replicate 4 (.int .i64) ++ [.list 24]), (false, [.int .i64]), (false, [.int .i64])], [(false, [.int .i64]), (false, [.bool])], false, false, false, false, false⟩
def tr_room : Tree := (.ite (.cmp .gt (.var 5) (.int .i64 40))
 (.ret [(.ar .add .i64 (.var 6) (.int .i64 1)), (.bool false)])
 (.ite (.cmp .gt (.ar .add .i64 (.var 6) (.int .i64 1)) (.int .i64 300))
  (.ret [(.ar .add .i64 (.var 6) (.int .i64 1)), (.bool false)])
  (.loop [(.ar .add .i64 (.var 6) (.int .i64 1)), (.int .i64 0), (.bool false), (.int .i64 0)] [(.int .i64), (.int .i64), .bool, (.int .i64)]
   (.ite (.cmp .lt (.var 10) (.len (.var 4)))
    (.ob (.cmp .ge (.var 10) (.int .i64 0))
    (.call k_room [(.elem (.var 4) (.var 10) 0 (.int .i64)), (.elem (.var 4) (.var 10) 1 (.int .i64)), (.elem (.var 4) (.var 10) 2 (.int .i64)), (.elem (.var 4) (.var 10) 3 (.int .i64)), (.elem (.var 4) (.var 10) 4 (.list 24)), (.ar .add .i64 (.var 5) (.int .i64 1)), (.var 7)] [(.int .i64), .bool]
    (.ite (.not (.var 12))
     (.ret [(.var 11), (.bool false)])
     (.again 0 [(.var 11), (.var 8), (.var 9), (.ar .add .i64 (.var 10) (.int .i64 1))]))))
    (.ret [(.var 7), (.bool true)])))))
theorem wk_room : walk E0.cx (sgsN [(20, sg_room)]) 0 20 sg_room = tr_room := by kernel_rfl
theorem bo_room : ∃ x, bodyOf E0.P 20 = some x := bo_of (by kernel_rfl)
def room_s : Spec := fun ds Q => 0 ≤ argI ds 5 ∧ argI ds 5 ≤ 41 ∧ 0 ≤ argI ds 6 ∧ argI ds 6 ≤ 300 ∧ ∀ (k : Int) (b : Bool), 0 ≤ k → k ≤ 301 → (b = true → k = argI ds 6 + (argE ds).size ∧ k ≤ 300) → Q [.int .i64 k, .bool b]
theorem room_h : Holds E0 k_room sg_room room_s := holds_rec mE fun n ih => con_fn wf0 mix0 g0 [⟨_, _, _, rfl, bo_room, ih⟩] rfl wk_room rfl (by
  intro Φ hΦ ds Q hs ⟨hm, hd0, hd1, hm0, hm1, h⟩
  have hl : ds.length = 7 := hs.length.symm
  have sp : Φ k_room = (fun ds Q => mE ds < n ∧ room_s ds Q) := by rw [hΦ]; rfl
  clear hΦ
  have hrow := eff_len (all2_get hs (i := 4) rfl)
  rw [argL_fold] at hrow
  have hsub := argE_subs ds
  rw [mE] at hm
  rw [Eff.size_eq, hsub] at hm h
  simp only [tr_room, wp, den_int, den_bool, den_nili, den_ar, den_cmp, den_not, den_len, den_elem, den_isnil, den_errI, den_ifc, den_rep, den_push, den_app, den_emp, den_upd, row0_econs, row0_enil, den_and, den_beq, den_nil, toInt_int, toBool_bool, xs_rows, xs_list, dflt_int, dflt_bool, of_eq, of_ne, of_lt, of_le, of_gt, of_ge, of_add, of_sub, of_rem, List.map_cons, List.map_nil, Dat.bool.injEq, decide_eq_true_eq, decide_eq_false_iff_not, Bool.not_eq_true', Bool.not_eq_false', beq_iff_eq, bne_iff_ne, beq_eq_false_iff_ne, bne_eq_false_iff_eq, ne_eq, List.append_assoc, List.cons_append, List.nil_append, allS, sp, room_s, @den_var0 E0.Δ ds, den_varA, den_varB, hl, Nat.reduceLT, Nat.reduceLeDiff, Nat.reduceSub, List.getD_cons_zero, List.getD_cons_succ, argL_fold ds, argI_fold ds, List.append_assoc, List.cons_append, List.nil_append, toInt_int, toBool_bool, xs_rows, xs_list, Int.toNat_natCast, Dat.bool.injEq]
  rw [wrap64 (x := argI ds 6 + 1) (by omega) (by omega), wrap64 (x := argI ds 5 + 1) (by omega) (by omega)]
  refine ⟨fun _ => h _ _ (by omega) (by omega) (fun e => by cases e), fun h40 => ⟨fun _ => h _ _ (by omega) (by omega) (fun e => by cases e), fun h300 => ?_⟩⟩
  refine ⟨fun xs m => ∃ (i : Nat) (z : Int) (zb : Bool), i ≤ (argL ds 4).length ∧ m = (argL ds 4).length - i ∧ xs = [.int .i64 (argI ds 6 + (1 + Eff.sizes (((argL ds 4).take i).map effOf) : Nat)), .int .i64 z, .bool zb, .int .i64 i] ∧ argI ds 6 + (1 + Eff.sizes (((argL ds 4).take i).map effOf) : Nat) ≤ 300, ⟨_, 0, 0, false, by omega, rfl, by simp [Eff.sizes], by simp [Eff.sizes]; omega⟩, ?_⟩
  rintro s z' zb' i' m ⟨i, z, zb, hi, hmi, e, h3⟩
  cases e
  have hli := Eff.length_le_sizes (((argL ds 4).take i).map effOf)
  rw [List.length_map, List.length_take, Nat.min_eq_left hi] at hli
  refine ⟨fun hlt => ⟨by omega, ?_⟩, fun hge => ?_⟩
  · have hi2 : i < (argL ds 4).length := by omega
    have hr := hrow _ (getD_memL (d := []) hi2)
    have ht := take_succ_getD (d := ([] : List Dat)) hi2
    have hle : (effOf ((argL ds 4).getD i [])).size ≤ Eff.sizes ((argL ds 4).map effOf) := Eff.size_le_sizes (List.mem_map.2 ⟨_, getD_memL hi2, rfl⟩)
    simp only [Int.toNat_natCast, fold5xy hr, mE]
    rw [argE_row hr, argI_row hr (by omega), argI_row hr (by omega), argI_0, argI_1]
    simp only [toInt_int]
    refine ⟨by omega, by omega, by omega, by omega, by omega, fun k b hk0 hk1 hb => ⟨fun hf => h _ _ hk0 hk1 (fun e => by cases e), fun htr => ?_⟩⟩
    obtain ⟨e1, e2⟩ := hb htr
    have et : Eff.sizes (((argL ds 4).take (i + 1)).map effOf) = Eff.sizes (((argL ds 4).take i).map effOf) + (effOf ((argL ds 4).getD i [])).size := by
      rw [ht, List.map_append, Eff.sizes_append]; simp [Eff.sizes]
    refine ⟨(argL ds 4).length - (i + 1), by omega, i + 1, z', zb', by omega, rfl, ?_, by omega⟩
    rw [wrap64 (by omega) (by omega), et, e1]
    congr 2
    omega
  · have hkk : i = (argL ds 4).length := by omega
    rw [hkk, List.take_of_length_le (by omega)] at h3 ⊢
    refine h _ _ (by omega) (by omega) (fun _ => ⟨rfl, h3⟩))
noncomputable def con_room : Con E0 := ⟨k_room, sg_room, room_s, rfl, bo_room, room_h⟩
def k_Large : Nat := 6
def sg_Large : Sig := ⟨[(true, List.replicate 4 (.int .i64) ++ [.list 24])], [(false, [.bool])], false, false, false, false, false⟩
def tr_Large : Tree := (.call k_room [(.var 0), (.var 1), (.var 2), (.var 3), (.var 4), (.int .i64 0), (.int .i64 0)] [(.int .i64), .bool]
(.ite (.not (.var 6))
 (.ret [(.bool true)])
 (.ret [(.cmp .gt (.var 5) (.int .i64 300))])))
theorem wk_Large : walk E0.cx (sgsN [(20, sg_room)]) 0 6 sg_Large = tr_Large := by kernel_rfl
theorem bo_Large : ∃ x, bodyOf E0.P 6 = some x := bo_of (by kernel_rfl)
theorem sp_Large_room : specC [con_room] k_room = room_s := rfl
def Large_s : Spec := fun ds Q => ∀ b : Bool, (b = false → (argE ds).size ≤ 300) → Q [.bool b]
theorem Large_h : Holds E0 k_Large sg_Large Large_s := con_fn wf0 mix0 g0 [con_room] rfl wk_Large rfl (by
  intro Φ hΦ ds Q hs h
  have hl : ds.length = 5 := hs.length.symm
  have sp : Φ k_room = room_s := by rw [hΦ]; rfl
  clear hΦ
  simp only [tr_Large, wp, den_int, den_bool, den_nili, den_ar, den_cmp, den_not, den_len, den_elem, den_isnil, den_errI, den_ifc, den_rep, den_push, den_app, den_emp, den_upd, row0_econs, row0_enil, den_and, den_beq, den_nil, toInt_int, toBool_bool, xs_rows, xs_list, dflt_int, dflt_bool, of_eq, of_ne, of_lt, of_le, of_gt, of_ge, of_add, of_sub, of_rem, List.map_cons, List.map_nil, Dat.bool.injEq, decide_eq_true_eq, decide_eq_false_iff_not, Bool.not_eq_true', Bool.not_eq_false', beq_iff_eq, bne_iff_ne, beq_eq_false_iff_ne, bne_eq_false_iff_eq, ne_eq, List.append_assoc, List.cons_append, List.nil_append, allS, sp, room_s, @den_var0 E0.Δ ds, den_varA, den_varB, hl, Nat.reduceLT, Nat.reduceLeDiff, Nat.reduceSub, List.getD_cons_zero, List.getD_cons_succ, argL_fold ds, argI_fold ds, List.append_assoc, List.cons_append, List.nil_append, toInt_int, toBool_bool, xs_rows, xs_list, Int.toNat_natCast, Dat.bool.injEq, fold5xy hl]
  rw [argE_row hl, argI_row hl (by omega), argI_row hl (by omega), argI_0, argI_1]
  simp only [toInt_int]
  refine ⟨by decide, by decide, by decide, by decide, fun k b hk0 hk1 hb => ⟨fun hf => h _ (fun e => by cases e), fun ht => h _ (fun hf => ?_)⟩⟩
  rw [argE_row0 hl]
  have := (hb ht).1
  simp only [decide_eq_false_iff_not] at hf
  omega)
noncomputable def con_Large : Con E0 := ⟨k_Large, sg_Large, Large_s, rfl, bo_Large, Large_h⟩
end Go.Proofs.Ytccdlmiemelifaa
end

section
namespace Go.Proofs.Ytccdlmiemelifaa
open Go.RowKit
set_option linter.unusedVariables false
set_option linter.unusedSimpArgs false

def objP (op : Int) : Prop := (6 ≤ op ∧ op ≤ 8) ∨ (10 ≤ op ∧ op ≤ 13) ∨ (23 ≤ op ∧ op ≤ 25)
instance (op : Int) : Decidable (objP op) := by unfold objP; infer_instance
def ofS (op : Int) : Bool := decide (op = 10 ∨ op = 24)
def ofN (op : Int) : Int := if op = 20 then 3 else if op = 22 then 2 else 99
def ofM (op : Int) : Int := if op = 15 then 5 else 99
def ofW (op : Int) : Int := if op = 0 ∨ (20 ≤ op ∧ op ≤ 22) then 1 else if op = 1 then 19 else if op = 9 then 0 else if objP op then 8 else 19
def ofT (op : Int) : Int := if op = 0 ∨ (20 ≤ op ∧ op ≤ 22) then 0 else if op = 1 then 14 else if op = 9 then 16 else if objP op then 34 else 4
def ofA (op : Int) : Int := if 20 ≤ op ∧ op ≤ 22 then 1 else 0
def ofB (op : Int) : Int := if op = 21 then 8 else if op = 22 then 2 else if op = 20 then 1 else 0
def k_eof : Nat := 35
def sg_eof : Sig := ⟨[(false, [.int .i64])], [(true, [.bool] ++ [.int .i64, .int .i64] ++ [.int .u64, .int .u64] ++ [.int .i64, .int .i64])], false, true, false, false, false⟩
def tr_eof : Tree := (.ite (.cmp .eq (.var 0) (.int .i64 0))
 (.ret [(.bool false), (.int .i64 99), (.int .i64 99), (.int .u64 1), (.int .u64 0), (.int .i64 0), (.int .i64 0)])
 (.ite (.cmp .eq (.var 0) (.int .i64 21))
  (.ret [(.bool false), (.int .i64 99), (.int .i64 99), (.int .u64 1), (.int .u64 0), (.int .i64 1), (.int .i64 8)])
  (.ite (.cmp .eq (.var 0) (.int .i64 22))
   (.ret [(.bool false), (.int .i64 2), (.int .i64 99), (.int .u64 1), (.int .u64 0), (.int .i64 1), (.int .i64 2)])
   (.ite (.cmp .eq (.var 0) (.int .i64 20))
    (.ret [(.bool false), (.int .i64 3), (.int .i64 99), (.int .u64 1), (.int .u64 0), (.int .i64 1), (.int .i64 1)])
    (.ite (.cmp .eq (.var 0) (.int .i64 1))
     (.ret [(.bool false), (.int .i64 99), (.int .i64 99), (.int .u64 19), (.int .u64 14), (.int .i64 0), (.int .i64 0)])
     (.ite (.cmp .eq (.var 0) (.int .i64 9))
      (.ret [(.bool false), (.int .i64 99), (.int .i64 99), (.int .u64 0), (.int .u64 16), (.int .i64 0), (.int .i64 0)])
      (.ite (.cmp .eq (.var 0) (.int .i64 6))
       (.ret [(.bool false), (.int .i64 99), (.int .i64 99), (.int .u64 8), (.int .u64 34), (.int .i64 0), (.int .i64 0)])
       (.ite (.cmp .eq (.var 0) (.int .i64 7))
        (.ret [(.bool false), (.int .i64 99), (.int .i64 99), (.int .u64 8), (.int .u64 34), (.int .i64 0), (.int .i64 0)])
        (.ite (.cmp .eq (.var 0) (.int .i64 8))
         (.ret [(.bool false), (.int .i64 99), (.int .i64 99), (.int .u64 8), (.int .u64 34), (.int .i64 0), (.int .i64 0)])
         (.ite (.cmp .eq (.var 0) (.int .i64 10))
          (.ret [(.bool true), (.int .i64 99), (.int .i64 99), (.int .u64 8), (.int .u64 34), (.int .i64 0), (.int .i64 0)])
          (.ite (.cmp .eq (.var 0) (.int .i64 11))
           (.ret [(.bool false), (.int .i64 99), (.int .i64 99), (.int .u64 8), (.int .u64 34), (.int .i64 0), (.int .i64 0)])
           (.ite (.cmp .eq (.var 0) (.int .i64 12))
            (.ret [(.bool false), (.int .i64 99), (.int .i64 99), (.int .u64 8), (.int .u64 34), (.int .i64 0), (.int .i64 0)])
            (.ite (.cmp .eq (.var 0) (.int .i64 13))
             (.ret [(.bool false), (.int .i64 99), (.int .i64 99), (.int .u64 8), (.int .u64 34), (.int .i64 0), (.int .i64 0)])
             (.ite (.cmp .eq (.var 0) (.int .i64 23))
              (.ret [(.bool false), (.int .i64 99), (.int .i64 99), (.int .u64 8), (.int .u64 34), (.int .i64 0), (.int .i64 0)])
              (.ite (.cmp .eq (.var 0) (.int .i64 24))
               (.ret [(.bool true), (.int .i64 99), (.int .i64 99), (.int .u64 8), (.int .u64 34), (.int .i64 0), (.int .i64 0)])
               (.ite (.cmp .eq (.var 0) (.int .i64 25))
                (.ret [(.bool false), (.int .i64 99), (.int .i64 99), (.int .u64 8), (.int .u64 34), (.int .i64 0), (.int .i64 0)])
                (.ite (.cmp .eq (.var 0) (.int .i64 15))
                 (.ret [(.bool false), (.int .i64 99), (.int .i64 5), (.int .u64 19), (.int .u64 4), (.int .i64 0), (.int .i64 0)])
                 (.ret [(.bool false), (.int .i64 99), (.int .i64 99), (.int .u64 19), (.int .u64 4), (.int .i64 0), (.int .i64 0)]))))))))))))))))))
theorem wk_eof : walk E0.cx (sgsN []) 0 35 sg_eof = tr_eof := by kernel_rfl
theorem bo_eof : ∃ x, bodyOf E0.P 35 = some x := bo_of (by kernel_rfl)
def eof_s : Spec := fun ds Q => Q [.bool (ofS (argI ds 0)), .int .i64 (ofN (argI ds 0)), .int .i64 (ofM (argI ds 0)), .int .u64 (ofW (argI ds 0)), .int .u64 (ofT (argI ds 0)), .int .i64 (ofA (argI ds 0)), .int .i64 (ofB (argI ds 0))]
theorem eof_h : Holds E0 k_eof sg_eof eof_s := con_each wf0 mix0 g0 [] rfl wk_eof rfl (by
  intro op Q h
  simp only [eof_s, argI, Dat.toInt, List.getD_cons_zero] at h
  simp only [tr_eof, wp, den_int, den_bool, den_nili, den_ar, den_cmp, den_not, den_len, den_elem, den_isnil, den_errI, den_ifc, den_rep, den_push, den_app, den_emp, den_upd, row0_econs, row0_enil, den_and, den_beq, den_nil, toInt_int, toBool_bool, xs_rows, xs_list, dflt_int, dflt_bool, of_eq, of_ne, of_lt, of_le, of_gt, of_ge, of_add, of_sub, of_rem, List.map_cons, List.map_nil, Dat.bool.injEq, decide_eq_true_eq, decide_eq_false_iff_not, Bool.not_eq_true', Bool.not_eq_false', beq_iff_eq, bne_iff_ne, beq_eq_false_iff_ne, bne_eq_false_iff_eq, ne_eq, List.append_assoc, List.cons_append, List.nil_append, den_var0, List.getD_cons_zero]
  have key : ∀ (s : Bool) (n m w t a b : Int), ofS op = s → ofN op = n → ofM op = m → ofW op = w → ofT op = t → ofA op = a → ofB op = b → Q [.bool s, .int .i64 n, .int .i64 m, .int .u64 w, .int .u64 t, .int .i64 a, .int .i64 b] := by
    intro s n m w t a b e1 e2 e3 e4 e5 e6 e7
    subst e1 e2 e3 e4 e5 e6 e7; exact h
  repeat' (first | (refine And.intro (fun h1 => ?_) (fun h1 => ?_)) | (refine key _ _ _ _ _ _ _ ?_ ?_ ?_ ?_ ?_ ?_ ?_))
  all_goals first
    | (subst op; rfl)
    | (simp only [ofS, ofN, ofM, ofW, ofT, ofA, ofB, objP]; repeat' (first | rfl | omega | split | (simp only [decide_eq_true_eq, decide_eq_false_iff_not])) ))
noncomputable def con_eof : Con E0 := ⟨k_eof, sg_eof, eof_s, rfl, bo_eof, eof_h⟩
def bHasB (s i : Int) : Bool := (decide (0 ≤ i) && decide (i < 64)) && Ar.and.of .u64 (Ar.shr.of .u64 s (IntKind.u64.wrap i)) 1 == 1
def k_esingle : Nat := 38
def sg_esingle : Sig := ⟨[(false, [.int .i64])], [(false, [.bool])], false, true, false, false, false⟩
def tr_esingle : Tree := (.ite (.cmp .eq (.var 0) (.int .i64 1))
 (.ret [(.bool true)])
 (.ite (.cmp .eq (.var 0) (.int .i64 0))
  (.ret [(.bool false)])
  (.ite (.cmp .eq (.var 0) (.int .i64 21))
   (.ret [(.bool false)])
   (.ite (.cmp .eq (.var 0) (.int .i64 22))
    (.ret [(.bool false)])
    (.ite (.cmp .eq (.var 0) (.int .i64 20))
     (.ret [(.bool false)])
     (.ite (.cmp .eq (.var 0) (.int .i64 9))
      (.ret [(.bool false)])
      (.ite (.cmp .eq (.var 0) (.int .i64 6))
       (.ret [(.bool true)])
       (.ite (.cmp .eq (.var 0) (.int .i64 7))
        (.ret [(.bool true)])
        (.ite (.cmp .eq (.var 0) (.int .i64 8))
         (.ret [(.bool true)])
         (.ite (.cmp .eq (.var 0) (.int .i64 10))
          (.ret [(.bool true)])
          (.ite (.cmp .eq (.var 0) (.int .i64 11))
           (.ret [(.bool true)])
           (.ite (.cmp .eq (.var 0) (.int .i64 12))
            (.ret [(.bool true)])
            (.ite (.cmp .eq (.var 0) (.int .i64 13))
             (.ret [(.bool true)])
             (.ite (.cmp .eq (.var 0) (.int .i64 23))
              (.ret [(.bool true)])
              (.ite (.cmp .eq (.var 0) (.int .i64 24))
               (.ret [(.bool true)])
               (.ite (.cmp .eq (.var 0) (.int .i64 25))
                (.ret [(.bool true)])
                (.ite (.cmp .eq (.var 0) (.int .i64 15))
                 (.ret [(.bool false)])
                 (.ret [(.bool false)]))))))))))))))))))
theorem wk_esingle : walk E0.cx (sgsN []) 0 38 sg_esingle = tr_esingle := by kernel_rfl
theorem bo_esingle : ∃ x, bodyOf E0.P 38 = some x := bo_of (by kernel_rfl)
def esingle_s : Spec := fun ds Q => Q [.bool (decide (argI ds 0 = 1 ∨ objP (argI ds 0)))]
theorem esingle_h : Holds E0 k_esingle sg_esingle esingle_s := con_each wf0 mix0 g0 [] rfl wk_esingle rfl (by
  intro op Q h
  simp only [esingle_s, argI, Dat.toInt, List.getD_cons_zero] at h
  simp only [tr_esingle, wp, den_int, den_bool, den_nili, den_ar, den_cmp, den_not, den_len, den_elem, den_isnil, den_errI, den_ifc, den_rep, den_push, den_app, den_emp, den_upd, row0_econs, row0_enil, den_and, den_beq, den_nil, toInt_int, toBool_bool, xs_rows, xs_list, dflt_int, dflt_bool, of_eq, of_ne, of_lt, of_le, of_gt, of_ge, of_add, of_sub, of_rem, List.map_cons, List.map_nil, Dat.bool.injEq, decide_eq_true_eq, decide_eq_false_iff_not, Bool.not_eq_true', Bool.not_eq_false', beq_iff_eq, bne_iff_ne, beq_eq_false_iff_ne, bne_eq_false_iff_eq, ne_eq, List.append_assoc, List.cons_append, List.nil_append, den_var0, List.getD_cons_zero]
  have key : ∀ (b : Bool), decide (op = 1 ∨ objP op) = b → Q [.bool b] := by
    intro b e; subst e; exact h
  repeat' (first | (refine And.intro (fun h1 => ?_) (fun h1 => ?_)) | (refine key _ ?_))
  all_goals first
    | (subst op; rfl)
    | (rw [decide_eq_false_iff_not]; unfold objP; omega))
noncomputable def con_esingle : Con E0 := ⟨k_esingle, sg_esingle, esingle_s, rfl, bo_esingle, esingle_h⟩
def numP (s : Bool) (nm mm op n m who : Int) : Prop := 0 ≤ who ∧ who ≤ 4 ∧ (if s = true then -nm ≤ n ∧ n ≤ nm ∧ -mm ≤ m ∧ m ≤ mm else 0 ≤ n ∧ n ≤ nm ∧ 0 ≤ m ∧ m ≤ mm) ∧ (op = 23 ∨ op = 25 → n ≤ 255) ∧ (op = 14 → 112 ≤ m ∧ m ≤ 119)
def k_enumbers : Nat := 37
def sg_enumbers : Sig := ⟨[(true, List.replicate 4 (.int .i64) ++ [.list 24]), (true, [.bool] ++ [.int .i64, .int .i64] ++ [.int .u64, .int .u64] ++ [.int .i64, .int .i64])], [(false, [.bool])], false, false, true, false, false⟩
def tr_enumbers : Tree := (.ite (.or (.not (.ite (.var 5) (.and (.cmp .ge (.var 1) (.ar .sub .i64 (.int .i64 0) (.var 6))) (.cmp .le (.var 1) (.var 6))) (.and (.cmp .ge (.var 1) (.int .i64 0)) (.cmp .le (.var 1) (.var 6))))) (.or (.not (.ite (.var 5) (.and (.cmp .ge (.var 2) (.ar .sub .i64 (.int .i64 0) (.var 7))) (.cmp .le (.var 2) (.var 7))) (.and (.cmp .ge (.var 2) (.int .i64 0)) (.cmp .le (.var 2) (.var 7))))) (.not (.and (.cmp .ge (.var 3) (.int .i64 0)) (.cmp .le (.var 3) (.int .i64 4))))))
 (.ret [(.bool false)])
 (.ite (.or (.cmp .eq (.var 0) (.int .i64 23)) (.cmp .eq (.var 0) (.int .i64 25)))
  (.ret [(.cmp .le (.var 1) (.int .i64 255))])
  (.ite (.cmp .eq (.var 0) (.int .i64 14))
   (.ret [(.and (.cmp .ge (.var 2) (.int .i64 112)) (.cmp .le (.var 2) (.int .i64 119)))])
   (.ret [(.bool true)]))))
theorem wk_enumbers : walk E0.cx (sgsN []) 0 37 sg_enumbers = tr_enumbers := by kernel_rfl
theorem bo_enumbers : ∃ x, bodyOf E0.P 37 = some x := bo_of (by kernel_rfl)
def enumbers_s : Spec := fun ds Q => 0 ≤ argI ds 6 ∧ argI ds 6 ≤ 1000 ∧ 0 ≤ argI ds 7 ∧ argI ds 7 ≤ 1000 ∧ ∀ b : Bool, (b = true ↔ numP (ds.getD 5 (.bool false)).toBool (argI ds 6) (argI ds 7) (argI ds 0) (argI ds 1) (argI ds 2) (argI ds 3)) → Q [.bool b]
theorem enumbers_h : Holds E0 k_enumbers sg_enumbers enumbers_s := con_by wf0 mix0 g0 [] rfl wk_enumbers rfl (by
  intro ds Q hs ⟨a1, a2, b1, b2, h⟩
  have hl : ds.length = 12 := hs.length.symm
  simp only [tr_enumbers, wp, den_int, den_bool, den_nili, den_ar, den_cmp, den_not, den_len, den_elem, den_isnil, den_errI, den_ifc, den_rep, den_push, den_app, den_emp, den_upd, row0_econs, row0_enil, den_and, den_beq, den_nil, toInt_int, toBool_bool, xs_rows, xs_list, dflt_int, dflt_bool, of_eq, of_ne, of_lt, of_le, of_gt, of_ge, of_add, of_sub, of_rem, List.map_cons, List.map_nil, Dat.bool.injEq, decide_eq_true_eq, decide_eq_false_iff_not, Bool.not_eq_true', Bool.not_eq_false', beq_iff_eq, bne_iff_ne, beq_eq_false_iff_ne, bne_eq_false_iff_eq, ne_eq, List.append_assoc, List.cons_append, List.nil_append, den_or, den_ite, toBool_ite, @den_var0 E0.Δ ds, den_varA, den_varB, hl, Nat.reduceLT, Nat.reduceLeDiff, Nat.reduceSub, List.getD_cons_zero, List.getD_cons_succ, argL_fold ds, argI_fold ds, List.append_assoc, List.cons_append, List.nil_append, toInt_int, toBool_bool, xs_rows, xs_list, Int.toNat_natCast, Dat.bool.injEq, Bool.or_eq_true, Bool.and_eq_true, Bool.or_eq_false_iff, Bool.and_eq_false_iff, Int.zero_sub]
  rw [wrap64 (by omega) (by omega), wrap64 (by omega) (by omega)]
  unfold numP at h
  by_cases hs : (ds.getD 5 (.bool false)).toBool = true
  · simp only [if_pos hs, Bool.and_eq_true, Bool.and_eq_false_iff, decide_eq_true_eq, decide_eq_false_iff_not] at h ⊢
    refine ⟨fun h1 => h _ ?_, fun h1 => ⟨fun h2 => h _ ?_, fun h2 => ⟨fun h3 => h _ ?_, fun h3 => h _ ?_⟩⟩⟩
    · simp only [Bool.false_eq_true, false_iff]; rintro ⟨p1, p2, p3, p4, p5⟩; omega
    · simp only [decide_eq_true_eq]; exact ⟨fun h3 => ⟨by omega, by omega, by omega, fun _ => h3, fun _ => by omega⟩, fun h3 => h3.2.2.2.1 h2⟩
    · simp only [Bool.and_eq_true, decide_eq_true_eq]; exact ⟨fun h4 => ⟨by omega, by omega, by omega, fun _ => by omega, fun _ => h4⟩, fun h4 => h4.2.2.2.2 h3⟩
    · simp only [true_iff]; exact ⟨by omega, by omega, by omega, fun _ => by omega, fun _ => by omega⟩
  · simp only [if_neg hs, Bool.and_eq_true, Bool.and_eq_false_iff, decide_eq_true_eq, decide_eq_false_iff_not] at h ⊢
    refine ⟨fun h1 => h _ ?_, fun h1 => ⟨fun h2 => h _ ?_, fun h2 => ⟨fun h3 => h _ ?_, fun h3 => h _ ?_⟩⟩⟩
    · simp only [Bool.false_eq_true, false_iff]; rintro ⟨p1, p2, p3, p4, p5⟩; omega
    · simp only [decide_eq_true_eq]; exact ⟨fun h3 => ⟨by omega, by omega, by omega, fun _ => h3, fun _ => by omega⟩, fun h3 => h3.2.2.2.1 h2⟩
    · simp only [Bool.and_eq_true, decide_eq_true_eq]; exact ⟨fun h4 => ⟨by omega, by omega, by omega, fun _ => by omega, fun _ => h4⟩, fun h4 => h4.2.2.2.2 h3⟩
    · simp only [true_iff]; exact ⟨by omega, by omega, by omega, fun _ => by omega, fun _ => by omega⟩)
noncomputable def con_enumbers : Con E0 := ⟨k_enumbers, sg_enumbers, enumbers_s, rfl, bo_enumbers, enumbers_h⟩
end Go.Proofs.Ytccdlmiemelifaa
end

section
namespace Go.Proofs.Ytccdlmiemelifaa
open Go.RowKit
set_option linter.unusedVariables false
set_option linter.unusedSimpArgs false

def nMax (op : Int) : Int := if op = 20 then 3 else if op = 22 then 2 else if op = 23 ∨ op = 25 then 255 else 99
def mMin (op : Int) : Int := if op = 14 then 112 else 0
def mMax (op : Int) : Int := if op = 15 then 5 else if op = 14 then 119 else 99
/-- numbers are as they may be -/
def rngP (op n m who : Int) : Prop := 0 ≤ who ∧ who ≤ 4 ∧ (if op = 10 ∨ op = 24 then -99 ≤ n ∧ n ≤ 99 ∧ -99 ≤ m ∧ m ≤ 99 else 0 ≤ n ∧ n ≤ nMax op ∧ mMin op ≤ m ∧ m ≤ mMax op)
/-- whom it is about fits -/
def fitP (op who t : Int) : Prop :=
  if op = 0 ∨ (20 ≤ op ∧ op ≤ 22) then who = 0 else if op = 1 then who = 0 ∨ who = 1 ∨ who = 4 ∨ (who = 2 ∧ 1 ≤ t ∧ t ≤ 3)
  else if op = 9 then who = 2 ∧ t = 4 else if objP op then who = 3 ∨ (who = 2 ∧ (t = 1 ∨ t = 5)) else who = 0 ∨ who = 1 ∨ who = 4 ∨ (who = 2 ∧ t = 2)
/-- there are as many within as there may be -/
def formP (op : Int) (k : Nat) (so : Int) : Prop :=
  (op = 20 → k = 1 ∧ (so = 1 ∨ objP so)) ∧ (op = 21 → 1 ≤ k ∧ k ≤ 8) ∧ (op = 22 → 1 ≤ k ∧ k ≤ 2) ∧ (op < 20 ∨ 22 < op → k = 0)
instance (op n m who : Int) : Decidable (rngP op n m who) := by unfold rngP; infer_instance
instance (op who t : Int) : Decidable (fitP op who t) := by unfold fitP; infer_instance
instance (op : Int) (k : Nat) (so : Int) : Decidable (formP op k so) := by unfold formP; infer_instance
def headOp (l : List Eff) : Int := match l with
  | [] => 0
  | e :: _ => e.op
def headE (op n m who t d : Int) (k : Nat) (so : Int) : Int :=
  if op < 0 ∨ 26 ≤ op then 6 else if 8 < d then 3 else if ¬ rngP op n m who then 1 else if ¬ fitP op who t then 11 else if ¬ formP op k so then 2 else 0
mutual
/-- the error of an effect that stands so deep -/
def Eff.chk (t d : Int) : Eff → Int
  | .mk op n m who l => if headE op n m who t d l.length (headOp l) ≠ 0 then headE op n m who t d l.length (headOp l) else if op = 20 then Eff.chkA (d + 1) l else Eff.chks t (d + 1) l
def Eff.chks (t d : Int) : List Eff → Int
  | [] => 0
  | e :: l => if e.chk t d ≠ 0 then e.chk t d else Eff.chks t d l
/-- .. of those within All -/
def Eff.chkA (d : Int) : List Eff → Int
  | [] => 0
  | e :: l => if e.chk 1 d ≠ 0 then e.chk 1 d else if e.who ≠ 2 then 11 else Eff.chkA d l
end
theorem Eff.chk_eq (e : Eff) (t d : Int) : e.chk t d = if headE e.op e.n e.m e.who t d e.subs.length (headOp e.subs) ≠ 0 then headE e.op e.n e.m e.who t d e.subs.length (headOp e.subs) else if e.op = 20 then Eff.chkA (d + 1) e.subs else Eff.chks t (d + 1) e.subs := by
  cases e; rw [Eff.chk]; rfl
/-- the bits say what fits -/
theorem fit_tab : ∀ (op : _root_.Fin 26) (t : _root_.Fin 6) (w : _root_.Fin 5), ((((w.val : Int) == 2) && (decide (0 ≤ (t.val : Int)) && decide ((t.val : Int) < 64) && (Ar.and.of .u64 (Ar.shr.of .u64 (ofT (op.val : Int)) (IntKind.u64.wrap (t.val : Int))) 1 == 1))) || (decide (0 ≤ (w.val : Int)) && decide ((w.val : Int) < 64) && (Ar.and.of .u64 (Ar.shr.of .u64 (ofW (op.val : Int)) (IntKind.u64.wrap (w.val : Int))) 1 == 1))) = decide (fitP (op.val : Int) (w.val : Int) (t.val : Int)) := by decide +kernel
theorem fit_bits {op t w : Int} (h0 : 0 ≤ op) (h1 : op < 26) (t0 : 0 ≤ t) (t1 : t ≤ 5) (w0 : 0 ≤ w) (w1 : w ≤ 4) : (((w == 2) && (decide (0 ≤ t) && decide (t < 64) && (Ar.and.of .u64 (Ar.shr.of .u64 (ofT op) (IntKind.u64.wrap t)) 1 == 1))) || (decide (0 ≤ w) && decide (w < 64) && (Ar.and.of .u64 (Ar.shr.of .u64 (ofW op) (IntKind.u64.wrap w)) 1 == 1))) = decide (fitP op w t) := by
  obtain ⟨o, rfl⟩ := Int.eq_ofNat_of_zero_le h0
  obtain ⟨t', rfl⟩ := Int.eq_ofNat_of_zero_le t0
  obtain ⟨w', rfl⟩ := Int.eq_ofNat_of_zero_le w0
  exact fit_tab ⟨o, by omega⟩ ⟨t', by omega⟩ ⟨w', by omega⟩
theorem wrap_u64 {x : Int} (h : 0 ≤ x) (h2 : x < 64) : IntKind.u64.wrap x = x := by
  obtain ⟨o, rfl⟩ := Int.eq_ofNat_of_zero_le h
  have : ∀ o : _root_.Fin 64, IntKind.u64.wrap (o.val : Int) = (o.val : Int) := by decide +kernel
  exact this ⟨o, by omega⟩
theorem rowI_take {ds : List Dat} {i k : Nat} (h : i < k) : rowI (ds.take k) i = argI ds i := by
  simp only [rowI, argI, List.getD_eq_getElem?_getD, List.getElem?_take, if_pos h]
theorem argE_opI (ds : List Dat) : (argE ds).op = argI ds 0 := by rw [argE, effOf_op, rowI_take (by omega)]
theorem argE_n (ds : List Dat) : (argE ds).n = argI ds 1 := by rw [argE, effOf_n, rowI_take (by omega)]
theorem argE_m (ds : List Dat) : (argE ds).m = argI ds 2 := by rw [argE, effOf_m, rowI_take (by omega)]
theorem argE_who (ds : List Dat) : (argE ds).who = argI ds 3 := by rw [argE, effOf_who, rowI_take (by omega)]
theorem headOp_map {l : List (List Dat)} (h : 0 < l.length) : headOp (l.map effOf) = rowI (l.getD 0 []) 0 := by
  cases l with
  | nil => cases h
  | cons r l => exact effOf_op r
theorem num_rng {op n m who : Int} (h0 : 0 ≤ op) (h1 : op < 26) : numP (ofS op) (if (op == 23 || op == 25) = true then 255 else ofN op) (if (op == 14) = true then 119 else ofM op) op n m who ↔ rngP op n m who := by
  have key : ∀ o : _root_.Fin 26, ofS (o.val : Int) = decide ((o.val : Int) = 10 ∨ (o.val : Int) = 24) ∧ (if ((o.val : Int) == 23 || (o.val : Int) == 25) = true then 255 else ofN (o.val : Int)) = nMax (o.val : Int) ∧ (if ((o.val : Int) == 14) = true then 119 else ofM (o.val : Int)) = mMax (o.val : Int) ∧ (((o.val : Int) = 10 ∨ (o.val : Int) = 24) → nMax (o.val : Int) = 99 ∧ mMax (o.val : Int) = 99) ∧ ((o.val : Int) = 14 → mMin (o.val : Int) = 112 ∧ mMax (o.val : Int) = 119) ∧ ((o.val : Int) ≠ 14 → mMin (o.val : Int) = 0) ∧ (((o.val : Int) = 23 ∨ (o.val : Int) = 25) → nMax (o.val : Int) = 255) := by decide +kernel
  obtain ⟨o, rfl⟩ := Int.eq_ofNat_of_zero_le h0
  obtain ⟨k1, k2, k3, k4, k5, k6, k7⟩ := key ⟨o, by omega⟩
  simp only at k1 k2 k3 k4 k5 k6 k7
  rw [k1, k2, k3]
  unfold numP rngP
  by_cases hs : (o : Int) = 10 ∨ (o : Int) = 24
  · obtain ⟨e1, e2⟩ := k4 hs
    rw [if_pos (decide_eq_true hs), if_pos hs, e1, e2]
    constructor
    · rintro ⟨p1, p2, p3, p4, p5⟩; exact ⟨p1, p2, by omega⟩
    · rintro ⟨p1, p2, p3⟩; exact ⟨p1, p2, by omega, fun _ => by omega, fun _ => by omega⟩
  · simp only [if_neg hs, decide_eq_false hs, Bool.false_eq_true, if_false]
    by_cases h14 : (o : Int) = 14
    · obtain ⟨e1, e2⟩ := k5 h14
      rw [e1, e2]
      constructor
      · rintro ⟨p1, p2, p3, p4, p5⟩
        have := p5 h14
        exact ⟨p1, p2, by omega⟩
      · rintro ⟨p1, p2, p3⟩; exact ⟨p1, p2, by omega, fun _ => by omega, fun _ => by omega⟩
    · rw [k6 h14]
      constructor
      · rintro ⟨p1, p2, p3, p4, p5⟩; exact ⟨p1, p2, by omega⟩
      · rintro ⟨p1, p2, p3⟩
        refine ⟨p1, p2, by omega, fun hx => ?_, fun hx => absurd hx h14⟩
        have := k7 hx
        omega
theorem form_len {op : Int} {k : Nat} {so : Int} (h0 : 0 ≤ op) (h1 : op < 26) : ((decide ((k : Int) < ofA op) || decide (ofB op < (k : Int))) = false ∧ (op = 20 → so = 1 ∨ objP so)) ↔ formP op k so := by
  have key : ∀ (x y : Int), ofA op = x → ofB op = y → ((decide ((k : Int) < ofA op) || decide (ofB op < (k : Int))) = false ↔ x ≤ (k : Int) ∧ (k : Int) ≤ y) := fun x y e1 e2 => by
    rw [e1, e2]; simp only [Bool.or_eq_false_iff, decide_eq_false_iff_not]; omega
  unfold formP
  by_cases a : op = 20
  · rw [key 1 1 (by subst a; rfl) (by subst a; rfl)]
    exact ⟨fun ⟨p, q⟩ => ⟨fun h => ⟨by omega, q h⟩, fun h => by omega, fun h => by omega, fun h => by omega⟩, fun ⟨p, _⟩ => ⟨by have := p a; omega, fun h => (p h).2⟩⟩
  by_cases b : op = 21
  · rw [key 1 8 (by subst b; rfl) (by subst b; rfl)]
    exact ⟨fun ⟨p, q⟩ => ⟨fun h => by omega, fun h => by omega, fun h => by omega, fun h => by omega⟩, fun ⟨_, p, _⟩ => ⟨by have := p b; omega, fun h => by omega⟩⟩
  by_cases c : op = 22
  · rw [key 1 2 (by subst c; rfl) (by subst c; rfl)]
    exact ⟨fun ⟨p, q⟩ => ⟨fun h => by omega, fun h => by omega, fun h => by omega, fun h => by omega⟩, fun ⟨_, _, p, _⟩ => ⟨by have := p c; omega, fun h => by omega⟩⟩
  · rw [key 0 0 (if_neg (by omega)) (by unfold ofB; rw [if_neg b, if_neg c, if_neg a])]
    exact ⟨fun ⟨p, q⟩ => ⟨fun h => absurd h a, fun h => absurd h b, fun h => absurd h c, fun h => by omega⟩, fun ⟨_, _, _, p⟩ => ⟨by have := p (by omega); omega, fun h => absurd h a⟩⟩
def k_echeck : Nat := 28
def sg_echeck : Sig := ⟨[(true, List.replicate 4 (.int .i64) ++ [.list 24]), (false, [.int .i64]), (false, [.int .i64])], [(false, [.err])], false, false, true, false, false⟩
def tr_echeck : Tree := (.ite (.or (.cmp .lt (.var 0) (.int .i64 0)) (.cmp .ge (.var 0) (.int .i64 26)))
 (.ret [(.ifc (.int .i64 6))])
 (.ite (.cmp .gt (.var 6) (.int .i64 8))
  (.ret [(.ifc (.int .i64 3))])
  (.call k_eof [(.var 0)] [.bool, (.int .i64), (.int .i64), (.int .u64), (.int .u64), (.int .i64), (.int .i64)]
  (.ob (.or (.not (.cmp .eq (.var 3) (.int .i64 2))) (.or (.not (.and (.cmp .ge (.var 5) (.int .i64 0)) (.cmp .lt (.var 5) (.int .i64 64)))) (.cmp .ge (.conv .u64 (.var 5)) (.int .u64 0))))
  (.call k_enumbers [(.var 0), (.var 1), (.var 2), (.var 3), (.var 4), (.var 7), (.ite (.or (.cmp .eq (.var 0) (.int .i64 23)) (.cmp .eq (.var 0) (.int .i64 25))) (.int .i64 255) (.var 8)), (.ite (.cmp .eq (.var 0) (.int .i64 14)) (.int .i64 119) (.var 9)), (.var 10), (.var 11), (.var 12), (.var 13)] [.bool]
  (.ite (.not (.var 14))
   (.ret [(.ifc (.int .i64 1))])
   (.ob (.or (.not (.not (.and (.cmp .eq (.var 3) (.int .i64 2)) (.and (.and (.cmp .ge (.var 5) (.int .i64 0)) (.cmp .lt (.var 5) (.int .i64 64))) (.cmp .eq (.ar .and .u64 (.ar .shr .u64 (.var 11) (.conv .u64 (.var 5))) (.int .u64 1)) (.int .u64 1)))))) (.or (.not (.and (.cmp .ge (.var 3) (.int .i64 0)) (.cmp .lt (.var 3) (.int .i64 64)))) (.cmp .ge (.conv .u64 (.var 3)) (.int .u64 0))))
   (.ite (.and (.not (.and (.cmp .eq (.var 3) (.int .i64 2)) (.and (.and (.cmp .ge (.var 5) (.int .i64 0)) (.cmp .lt (.var 5) (.int .i64 64))) (.cmp .eq (.ar .and .u64 (.ar .shr .u64 (.var 11) (.conv .u64 (.var 5))) (.int .u64 1)) (.int .u64 1))))) (.not (.and (.and (.cmp .ge (.var 3) (.int .i64 0)) (.cmp .lt (.var 3) (.int .i64 64))) (.cmp .eq (.ar .and .u64 (.ar .shr .u64 (.var 10) (.conv .u64 (.var 3))) (.int .u64 1)) (.int .u64 1)))))
    (.ret [(.ifc (.int .i64 11))])
    (.ite (.or (.cmp .lt (.len (.var 4)) (.var 12)) (.cmp .gt (.len (.var 4)) (.var 13)))
     (.ret [(.ifc (.int .i64 2))])
     (.ite (.cmp .eq (.var 0) (.int .i64 20))
      (.ob (.cmp .lt (.int .i64 0) (.len (.var 4)))
      (.call k_esingle [(.elem (.var 4) (.int .i64 0) 0 (.int .i64))] [.bool]
      (.ite (.not (.var 15))
       (.ret [(.ifc (.int .i64 2))])
       (.loop [.nili, (.int .i64 0)] [.err, (.int .i64)]
        (.ite (.cmp .lt (.var 17) (.len (.var 4)))
         (.ob (.cmp .ge (.var 17) (.int .i64 0))
         (.call k_echeck [(.elem (.var 4) (.var 17) 0 (.int .i64)), (.elem (.var 4) (.var 17) 1 (.int .i64)), (.elem (.var 4) (.var 17) 2 (.int .i64)), (.elem (.var 4) (.var 17) 3 (.int .i64)), (.elem (.var 4) (.var 17) 4 (.list 24)), (.int .i64 1), (.ar .add .i64 (.var 6) (.int .i64 1))] [.err]
         (.ite (.not (.isnil (.var 18)))
          (.ret [(.var 18)])
          (.ite (.cmp .ne (.elem (.var 4) (.var 17) 3 (.int .i64)) (.int .i64 2))
           (.ret [(.ifc (.int .i64 11))])
           (.again 0 [(.var 16), (.ar .add .i64 (.var 17) (.int .i64 1))])))))
         (.ret [.nili]))))))
      (.loop [.nili, (.int .i64 0)] [.err, (.int .i64)]
       (.ite (.cmp .lt (.var 16) (.len (.var 4)))
        (.ob (.cmp .ge (.var 16) (.int .i64 0))
        (.call k_echeck [(.elem (.var 4) (.var 16) 0 (.int .i64)), (.elem (.var 4) (.var 16) 1 (.int .i64)), (.elem (.var 4) (.var 16) 2 (.int .i64)), (.elem (.var 4) (.var 16) 3 (.int .i64)), (.elem (.var 4) (.var 16) 4 (.list 24)), (.var 5), (.ar .add .i64 (.var 6) (.int .i64 1))] [.err]
        (.ite (.not (.isnil (.var 17)))
         (.ret [(.var 17)])
         (.again 0 [(.var 15), (.ar .add .i64 (.var 16) (.int .i64 1))]))))
        (.ret [.nili])))))))))))))
theorem wk_echeck : walk E0.cx (sgsN [(35, sg_eof), (38, sg_esingle), (37, sg_enumbers), (28, sg_echeck)]) 0 28 sg_echeck = tr_echeck := by kernel_rfl
theorem bo_echeck : ∃ x, bodyOf E0.P 28 = some x := bo_of (by kernel_rfl)
def echeck_s : Spec := fun ds Q => 0 ≤ argI ds 5 ∧ argI ds 5 ≤ 5 ∧ 1 ≤ argI ds 6 ∧ argI ds 6 ≤ 9 ∧ Q [errV ((argE ds).chk (argI ds 5) (argI ds 6))]
theorem echeck_h : Holds E0 k_echeck sg_echeck echeck_s := holds_rec mE fun n ih => con_fn wf0 mix0 g0 [con_eof, con_esingle, con_enumbers, ⟨_, _, _, rfl, bo_echeck, ih⟩] rfl wk_echeck rfl (by
  intro Φ hΦ ds Q hs ⟨hm, t0, t5, d1, d9, h⟩
  have hl : ds.length = 7 := hs.length.symm
  have sp : Φ k_echeck = (fun ds Q => mE ds < n ∧ echeck_s ds Q) := by rw [hΦ]; rfl
  have sp1 : Φ k_eof = eof_s := by rw [hΦ]; rfl
  have sp2 : Φ k_esingle = esingle_s := by rw [hΦ]; rfl
  have sp3 : Φ k_enumbers = enumbers_s := by rw [hΦ]; rfl
  clear hΦ
  have hrow := eff_len (all2_get hs (i := 4) rfl)
  rw [argL_fold] at hrow
  have hsub := argE_subs ds
  simp only [tr_echeck, wp, sp, sp1, sp2, sp3, eof_s, esingle_s, enumbers_s, den_or, den_and, den_not, den_cmp, den_ite, den_ar, den_conv, den_int, den_len, den_elem, den_isnil, den_ifc, den_nili, toBool_bool, toInt_int, toInt_ite, toBool_ite, of_eq, of_ne, of_lt, of_gt, of_ge, of_le, List.map_cons, List.map_nil, argI_c0, argI_c1, dflt_int, Int.toNat_zero, toInt_getD, @den_var0 E0.Δ ds, den_varA, den_varB, hl, Nat.reduceLT, Nat.reduceLeDiff, Nat.reduceSub, List.getD_cons_zero, List.getD_cons_succ, argL_fold ds, argI_fold ds, List.append_assoc, List.cons_append, List.nil_append, toInt_int, toBool_bool, xs_rows, xs_list, Int.toNat_natCast, Dat.bool.injEq]
  have hsz : (argE ds).size = 1 + Eff.sizes ((argL ds 4).map effOf) := by rw [Eff.size_eq, hsub]
  rw [mE, hsz] at hm
  rw [Eff.chk_eq, argE_opI, argE_n, argE_m, argE_who, hsub, List.length_map] at h
  have hso : 0 < (argL ds 4).length → headOp ((argL ds 4).map effOf) = rowI ((argL ds 4).getD 0 []) 0 := headOp_map
  have hop : ∀ v, ds.getD 5 (.bool false) = v → v = .int .i64 (argI ds 5) := fun v hv => by rw [← hv]; exact argV (all2_get hs (i := 5) rfl)
  have hv5 := hop _ rfl
  refine ⟨fun h1 => ?_, fun h1 => ⟨fun h2 => ?_, fun h2 => ?_⟩⟩
  · simp only [Bool.or_eq_true, decide_eq_true_eq] at h1
    have e : headE (argI ds 0) (argI ds 1) (argI ds 2) (argI ds 3) (argI ds 5) (argI ds 6) (argL ds 4).length (headOp ((argL ds 4).map effOf)) = 6 := by rw [headE, if_pos (by omega)]
    rw [e] at h; exact h
  · simp only [Bool.or_eq_false_iff, decide_eq_false_iff_not, decide_eq_true_eq] at h1 h2
    have e : headE (argI ds 0) (argI ds 1) (argI ds 2) (argI ds 3) (argI ds 5) (argI ds 6) (argL ds 4).length (headOp ((argL ds 4).map effOf)) = 3 := by rw [headE, if_neg (by omega), if_pos (by omega)]
    rw [e] at h; exact h
  simp only [Bool.or_eq_false_iff, decide_eq_false_iff_not] at h1 h2
  obtain ⟨hp0, hp1⟩ : 0 ≤ argI ds 0 ∧ argI ds 0 < 26 := by omega
  have hN : ∀ o : _root_.Fin 26, 0 ≤ ofN (o.val : Int) ∧ ofN (o.val : Int) ≤ 1000 ∧ 0 ≤ ofM (o.val : Int) ∧ ofM (o.val : Int) ≤ 1000 := by decide +kernel
  have hN' : 0 ≤ ofN (argI ds 0) ∧ ofN (argI ds 0) ≤ 1000 ∧ 0 ≤ ofM (argI ds 0) ∧ ofM (argI ds 0) ≤ 1000 := by
    obtain ⟨o, ho⟩ := Int.eq_ofNat_of_zero_le hp0
    have := hN ⟨o, by omega⟩
    rw [ho]; exact this
  have g0 : (!argI ds 3 == 2 || (!(decide (0 ≤ argI ds 5) && decide (argI ds 5 < 64)) || decide (0 ≤ IntKind.u64.wrap (argI ds 5)))) = true := by
    rw [wrap_u64 t0 (by omega), decide_eq_true t0]; simp
  refine ⟨g0, by split <;> omega, by split <;> omega, by split <;> omega, by split <;> omega, fun b hb => ⟨fun h3 => ?_, fun h3 => ?_⟩⟩
  · rw [num_rng hp0 hp1] at hb
    have e : headE (argI ds 0) (argI ds 1) (argI ds 2) (argI ds 3) (argI ds 5) (argI ds 6) (argL ds 4).length (headOp ((argL ds 4).map effOf)) = 1 := by
      rw [headE, if_neg (by omega), if_neg (by omega), if_pos (fun hx => by rw [hb.2 hx] at h3; cases h3)]
    rw [e] at h; exact h
  rw [num_rng hp0 hp1] at hb
  have hR : rngP (argI ds 0) (argI ds 1) (argI ds 2) (argI ds 3) := hb.1 (by simpa using h3)
  have w0 := hR.1
  have w1 := hR.2.1
  have hfit := fit_bits hp0 hp1 t0 t5 w0 w1
  rw [← Bool.not_or, hfit]
  have hgood : headE (argI ds 0) (argI ds 1) (argI ds 2) (argI ds 3) (argI ds 5) (argI ds 6) (argL ds 4).length (headOp ((argL ds 4).map effOf)) = if ¬ fitP (argI ds 0) (argI ds 3) (argI ds 5) then 11 else if ¬ formP (argI ds 0) (argL ds 4).length (headOp ((argL ds 4).map effOf)) then 2 else 0 := by
    rw [headE, if_neg (by omega), if_neg (by omega), if_neg (fun hx => hx hR)]
  rw [hgood] at h
  have hform := form_len (k := (argL ds 4).length) (so := headOp ((argL ds 4).map effOf)) hp0 hp1
  have g1 : (!!(argI ds 3 == 2 && (decide (0 ≤ argI ds 5) && decide (argI ds 5 < 64) && Ar.and.of .u64 (Ar.shr.of .u64 (ofT (argI ds 0)) (IntKind.u64.wrap (argI ds 5))) 1 == 1)) || (!(decide (0 ≤ argI ds 3) && decide (argI ds 3 < 64)) || decide (0 ≤ IntKind.u64.wrap (argI ds 3)))) = true := by
    rw [wrap_u64 w0 (by omega), decide_eq_true w0]; simp
  refine ⟨g1, fun h4 => ?_, fun h4 => ⟨fun h5 => ?_, fun h5 => ?_⟩⟩
  · have hF : ¬ fitP (argI ds 0) (argI ds 3) (argI ds 5) := by simpa using h4
    rw [if_pos hF] at h; exact h
  · have hF : ¬ ¬ fitP (argI ds 0) (argI ds 3) (argI ds 5) := by simpa using h4
    rw [if_neg hF] at h
    have hM : ¬ formP (argI ds 0) (argL ds 4).length (headOp ((argL ds 4).map effOf)) := fun hx => by
      have := (hform.2 hx).1
      rw [h5] at this; cases this
    rw [if_pos hM] at h; exact h
  have hF : ¬ ¬ fitP (argI ds 0) (argI ds 3) (argI ds 5) := by simpa using h4
  rw [if_neg hF] at h
  have hlen8 : (argL ds 4).length ≤ 8 := by
    have hB : ∀ o : _root_.Fin 26, ofB (o.val : Int) ≤ 8 := by decide +kernel
    obtain ⟨o, ho⟩ := Int.eq_ofNat_of_zero_le hp0
    have := hB ⟨o, by omega⟩
    simp only [Bool.or_eq_false_iff, decide_eq_false_iff_not, ho] at h5
    simp only at this
    omega
  have hrec : ∀ (i : Nat) (t : Int) (Q' : List Dat → Prop), i < (argL ds 4).length → 0 ≤ t → t ≤ 5 → Q' [errV ((effOf ((argL ds 4).getD i [])).chk t (argI ds 6 + 1))] → mE ((argL ds 4).getD i [] ++ [.int .i64 t, .int .i64 (IntKind.i64.wrap (argI ds 6 + 1))]) < n ∧ echeck_s ((argL ds 4).getD i [] ++ [.int .i64 t, .int .i64 (IntKind.i64.wrap (argI ds 6 + 1))]) Q' := fun i t Q' hi ht0 ht5 hQ => by
    have hr := hrow _ (getD_memL (d := []) hi)
    have hle : (effOf ((argL ds 4).getD i [])).size ≤ Eff.sizes ((argL ds 4).map effOf) := Eff.size_le_sizes (List.mem_map.2 ⟨_, getD_memL hi, rfl⟩)
    rw [wrap64 (by omega) (by omega)]
    simp only [mE, echeck_s, argE_row hr, argI_row hr (show 5 ≤ 5 by omega), argI_row hr (show 5 ≤ 6 by omega), Nat.sub_self, argI_c0, argI_c1, Nat.reduceSub, toInt_int]
    exact ⟨by omega, ht0, ht5, by omega, by omega, hQ⟩
  refine ⟨fun h20 => ?_, fun h20 => ?_⟩
  · have h20' : argI ds 0 = 20 := by simpa using h20
    have hk : (argL ds 4).length = 1 := by
      simp only [Bool.or_eq_false_iff, decide_eq_false_iff_not, h20', ofA, ofB] at h5
      simp at h5
      omega
    rw [hso (by omega)] at h hform
    refine ⟨by simp [hk], fun h6 => ?_, fun h6 => ?_⟩
    · have hM : ¬ formP (argI ds 0) (argL ds 4).length (rowI ((argL ds 4).getD 0 []) 0) := fun hx => by
        have := (hform.2 hx).2 h20'
        simp only [Bool.not_eq_true'] at h6
        exact of_decide_eq_false h6 this
      rw [if_pos hM] at h; exact h
    · have h6' : rowI ((argL ds 4).getD 0 []) 0 = 1 ∨ objP (rowI ((argL ds 4).getD 0 []) 0) := by
        simp only [Bool.not_eq_false'] at h6; exact of_decide_eq_true h6
      have hM : ¬ ¬ formP (argI ds 0) (argL ds 4).length (rowI ((argL ds 4).getD 0 []) 0) := fun hx => hx (hform.1 ⟨h5, fun _ => h6'⟩)
      rw [if_neg hM, if_neg (fun hx => hx rfl), if_pos h20'] at h
      refine ⟨fun xs m => ∃ (z : Dat) (i : Nat), xs = [z, .int .i64 i] ∧ i ≤ (argL ds 4).length ∧ m = (argL ds 4).length - i ∧ Eff.chkA (argI ds 6 + 1) (((argL ds 4).drop i).map effOf) = Eff.chkA (argI ds 6 + 1) ((argL ds 4).map effOf), ⟨_, _, 0, rfl, by omega, rfl, rfl⟩, ?_⟩
      rintro z hz i' m ⟨_, i, e, hi, hmi, hd⟩
      cases e
      refine ⟨fun hlt => ?_, fun hge => ?_⟩
      · have hi2 : i < (argL ds 4).length := by simpa [toInt_int] using hlt
        have hr := hrow _ (getD_memL (d := []) hi2)
        rw [drop_getD (d := []) hi2, List.map_cons, Eff.chkA] at hd
        refine ⟨by simp [toInt_int], ?_⟩
        simp only [List.getD_cons_zero, List.getD_cons_succ, toInt_int, Int.toNat_natCast, fold5xy hr, hv5]
        refine hrec i 1 _ hi2 (by omega) (by omega) ?_
        simp only [List.cons_append, List.nil_append, List.getD_cons_succ, List.getD_cons_zero, toInt_int, Int.toNat_natCast, errV_nil, Bool.not_eq_true', Bool.not_eq_false', decide_eq_false_iff_not, decide_eq_true_eq, bne_iff_ne, bne_eq_false_iff_eq]
        refine ⟨fun hne => ?_, fun he => ⟨fun hw => ?_, fun hw => ?_⟩⟩
        · rw [if_pos hne] at hd
          rw [hd]; exact h
        · rw [if_neg (fun hx => hx he), effOf_who, if_pos hw] at hd
          rw [← hd] at h; exact h
        · rw [if_neg (fun hx => hx he), effOf_who, if_neg (fun hx => hx hw)] at hd
          refine ⟨(argL ds 4).length - (i + 1), by omega, z, i + 1, ?_, by omega, rfl, hd⟩
          rw [of_add, wrap64 (by omega) (by omega)]; rfl
      · have hkk : i = (argL ds 4).length := by simp [toInt_int] at hge; omega
        rw [List.drop_of_length_le (by omega)] at hd
        rw [← hd] at h; exact h
  · have h20' : ¬ argI ds 0 = 20 := by simpa using h20
    have hM : ¬ ¬ formP (argI ds 0) (argL ds 4).length (headOp ((argL ds 4).map effOf)) := fun hx => hx (hform.1 ⟨h5, fun hy => absurd hy h20'⟩)
    rw [if_neg hM, if_neg (fun hx => hx rfl), if_neg h20'] at h
    refine ⟨fun xs m => ∃ (z : Dat) (i : Nat), xs = [z, .int .i64 i] ∧ i ≤ (argL ds 4).length ∧ m = (argL ds 4).length - i ∧ Eff.chks (argI ds 5) (argI ds 6 + 1) (((argL ds 4).drop i).map effOf) = Eff.chks (argI ds 5) (argI ds 6 + 1) ((argL ds 4).map effOf), ⟨_, _, 0, rfl, by omega, rfl, rfl⟩, ?_⟩
    rintro z hz i' m ⟨_, i, e, hi, hmi, hd⟩
    cases e
    refine ⟨fun hlt => ?_, fun hge => ?_⟩
    · have hi2 : i < (argL ds 4).length := by simpa [toInt_int] using hlt
      have hr := hrow _ (getD_memL (d := []) hi2)
      rw [drop_getD (d := []) hi2, List.map_cons, Eff.chks] at hd
      refine ⟨by simp [toInt_int], ?_⟩
      simp only [List.getD_cons_zero, List.getD_cons_succ, toInt_int, Int.toNat_natCast, fold5xy hr, hv5]
      refine hrec i _ _ hi2 t0 t5 ?_
      simp only [List.cons_append, List.nil_append, List.getD_cons_succ, List.getD_cons_zero, toInt_int, Int.toNat_natCast, errV_nil, Bool.not_eq_true', Bool.not_eq_false', decide_eq_false_iff_not, decide_eq_true_eq]
      refine ⟨fun hne => ?_, fun he => ?_⟩
      · rw [if_pos hne] at hd
        rw [hd]; exact h
      · rw [if_neg (fun hx => hx he)] at hd
        refine ⟨(argL ds 4).length - (i + 1), by omega, z, i + 1, ?_, by omega, rfl, hd⟩
        rw [of_add, wrap64 (by omega) (by omega)]; rfl
    · have hkk : i = (argL ds 4).length := by simp [toInt_int] at hge; omega
      rw [List.drop_of_length_le (by omega)] at hd
      rw [← hd] at h; exact h)
noncomputable def con_echeck : Con E0 := ⟨k_echeck, sg_echeck, echeck_s, rfl, bo_echeck, echeck_h⟩
end Go.Proofs.Ytccdlmiemelifaa
end

section
namespace Go.Proofs.Ytccdlmiemelifaa
open Go.RowKit
set_option linter.unusedVariables false
set_option linter.unusedSimpArgs false

theorem Eff.eq_iff (a b : Eff) : a = b ↔ a.op = b.op ∧ a.n = b.n ∧ a.m = b.m ∧ a.who = b.who ∧ a.subs = b.subs := by
  cases a; cases b
  simp [Eff.op, Eff.n, Eff.m, Eff.who, Eff.subs]
theorem fold10 {r s : List Dat} (h : r.length = 5) (h' : s.length = 5) (a b c d e a' b' c' d' e' : Dat) : [r.getD 0 a, r.getD 1 b, r.getD 2 c, r.getD 3 d, r.getD 4 e, s.getD 0 a', s.getD 1 b', s.getD 2 c', s.getD 3 d', s.getD 4 e'] = r ++ s := by
  match r, s, h, h' with
  | [_, _, _, _, _], [_, _, _, _, _], _, _ => rfl
/-- the second effect of a call's arguments -/
def argE2 (ds : List Dat) : Eff := argE (ds.drop 5)
theorem argE2_row {r s : List Dat} (h : r.length = 5) (h' : s.length = 5) : argE2 (r ++ s) = effOf s := by
  rw [argE2, List.drop_append_of_le_length (by omega), List.drop_of_length_le (by omega), List.nil_append, argE_row0 h']
theorem argI_drop (ds : List Dat) (k i : Nat) : argI (ds.drop k) i = argI ds (k + i) := by
  simp [argI, List.getD_eq_getElem?_getD, List.getElem?_drop]
theorem argL_drop (ds : List Dat) (k i : Nat) : argL (ds.drop k) i = argL ds (k + i) := by
  simp [argL, List.getD_eq_getElem?_getD, List.getElem?_drop]
theorem eff_eq (ds : List Dat) : argE ds = argE2 ds ↔ argI ds 0 = argI ds 5 ∧ argI ds 1 = argI ds 6 ∧ argI ds 2 = argI ds 7 ∧ argI ds 3 = argI ds 8 ∧ (argL ds 4).map effOf = (argL ds 9).map effOf := by
  rw [Eff.eq_iff, argE2, argE_opI, argE_n, argE_m, argE_who, argE_subs, argE_opI, argE_n, argE_m, argE_who, argE_subs, argI_drop, argI_drop, argI_drop, argI_drop, argL_drop]
def eqE_s : Spec := fun ds Q => (argE ds).size ≤ 1000 ∧ ∀ b : Bool, (b = true ↔ argE ds = argE2 ds) → Q [.bool b]
theorem map_take_succ {l : List (List Dat)} {i : Nat} (h : i < l.length) : (l.take (i + 1)).map effOf = (l.take i).map effOf ++ [effOf (l.getD i [])] := by
  rw [take_succ_getD (d := ([] : List Dat)) h, List.map_append]; rfl
theorem take_of_map {l m : List (List Dat)} (h : l.map effOf = m.map effOf) (i : Nat) : (l.take i).map effOf = (m.take i).map effOf := by
  rw [List.map_take, List.map_take, h]
def k_numEffects : Nat := 10
def sg_numEffects : Sig := ⟨[(true, List.replicate 4 (.int .i64) ++ [.list 24]), (true, List.replicate 4 (.int .i64) ++ [.list 24])], [(false, [.bool])], false, false, true, false, false⟩
def tr_numEffects : Tree := (.ite (.or (.cmp .ne (.var 0) (.var 5)) (.or (.cmp .ne (.var 1) (.var 6)) (.or (.cmp .ne (.var 2) (.var 7)) (.or (.cmp .ne (.var 3) (.var 8)) (.cmp .ne (.len (.var 4)) (.len (.var 9)))))))
 (.ret [(.bool false)])
 (.loop [(.bool false), (.int .i64 0)] [.bool, (.int .i64)]
  (.ite (.cmp .lt (.var 11) (.len (.var 4)))
   (.ob (.cmp .ge (.var 11) (.int .i64 0))
   (.ob (.cmp .ge (.var 11) (.int .i64 0))
   (.ob (.cmp .lt (.var 11) (.len (.var 9)))
   (.call k_numEffects [(.elem (.var 4) (.var 11) 0 (.int .i64)), (.elem (.var 4) (.var 11) 1 (.int .i64)), (.elem (.var 4) (.var 11) 2 (.int .i64)), (.elem (.var 4) (.var 11) 3 (.int .i64)), (.elem (.var 4) (.var 11) 4 (.list 24)), (.elem (.var 9) (.var 11) 0 (.int .i64)), (.elem (.var 9) (.var 11) 1 (.int .i64)), (.elem (.var 9) (.var 11) 2 (.int .i64)), (.elem (.var 9) (.var 11) 3 (.int .i64)), (.elem (.var 9) (.var 11) 4 (.list 24))] [.bool]
   (.ite (.not (.var 12))
    (.ret [(.bool false)])
    (.again 0 [(.var 10), (.ar .add .i64 (.var 11) (.int .i64 1))]))))))
   (.ret [(.bool true)]))))
theorem wk_numEffects : walk E0.cx (sgsN [(10, sg_numEffects)]) 0 10 sg_numEffects = tr_numEffects := by kernel_rfl
theorem bo_numEffects : ∃ x, bodyOf E0.P 10 = some x := bo_of (by kernel_rfl)
theorem numEffects_h : Holds E0 k_numEffects sg_numEffects eqE_s := holds_rec mE fun n ih => con_fn wf0 mix0 g0 [⟨_, _, _, rfl, bo_numEffects, ih⟩] rfl wk_numEffects rfl (by
  intro Φ hΦ ds Q hs ⟨hm, hsz, h⟩
  have hl : ds.length = 10 := hs.length.symm
  have sp : Φ k_numEffects = (fun ds Q => mE ds < n ∧ eqE_s ds Q) := by rw [hΦ]; rfl
  clear hΦ
  have hrow := eff_len (all2_get hs (i := 4) rfl)
  have hrow2 := eff_len (all2_get hs (i := 9) rfl)
  rw [argL_fold] at hrow hrow2
  have hsub := argE_subs ds
  have hlen := Eff.length_le_sizes ((argL ds 4).map effOf)
  rw [List.length_map] at hlen
  rw [mE] at hm
  rw [Eff.size_eq, hsub] at hm hsz
  rw [eff_eq] at h
  simp only [tr_numEffects, wp, den_int, den_bool, den_nili, den_ar, den_cmp, den_not, den_len, den_elem, den_isnil, den_errI, den_ifc, den_rep, den_push, den_app, den_emp, den_upd, row0_econs, row0_enil, den_and, den_beq, den_nil, toInt_int, toBool_bool, xs_rows, xs_list, dflt_int, dflt_bool, of_eq, of_ne, of_lt, of_le, of_gt, of_ge, of_add, of_sub, of_rem, List.map_cons, List.map_nil, Dat.bool.injEq, decide_eq_true_eq, decide_eq_false_iff_not, Bool.not_eq_true', Bool.not_eq_false', beq_iff_eq, bne_iff_ne, beq_eq_false_iff_ne, bne_eq_false_iff_eq, ne_eq, List.append_assoc, List.cons_append, List.nil_append, allS, sp, eqE_s, den_or, @den_var0 E0.Δ ds, den_varA, den_varB, hl, Nat.reduceLT, Nat.reduceLeDiff, Nat.reduceSub, List.getD_cons_zero, List.getD_cons_succ, argL_fold ds, argI_fold ds, List.append_assoc, List.cons_append, List.nil_append, toInt_int, toBool_bool, xs_rows, xs_list, Int.toNat_natCast, Dat.bool.injEq]
  refine ⟨fun h1 => h _ ?_, fun h1 => ?_⟩
  · simp only [Bool.or_eq_true, bne_iff_ne, ne_eq] at h1
    simp only [Bool.false_eq_true, false_iff]
    rintro ⟨p1, p2, p3, p4, p5⟩
    have := congrArg List.length p5
    simp only [List.length_map] at this
    omega
  simp only [Bool.or_eq_false_iff, bne_eq_false_iff_eq] at h1
  obtain ⟨p1, p2, p3, p4, p5⟩ := h1
  have hll : (argL ds 4).length = (argL ds 9).length := by omega
  refine ⟨fun xs m => ∃ (i : Nat) (b : Bool), xs = [.bool b, .int .i64 (i : Int)] ∧ i ≤ (argL ds 4).length ∧ m = (argL ds 4).length - i ∧ ((argL ds 4).take i).map effOf = ((argL ds 9).take i).map effOf, ⟨_, 0, _, rfl, by omega, rfl, by simp⟩, ?_⟩
  rintro b i' m ⟨i, _, e, hi, hmi, hsame⟩
  cases e
  refine ⟨fun hlt => ⟨by omega, by omega, by omega, ?_⟩, fun hge => ?_⟩
  · have hi2 : i < (argL ds 4).length := by omega
    have hi3 : i < (argL ds 9).length := by omega
    have hr := hrow _ (getD_memL (d := []) hi2)
    have hr2 := hrow2 _ (getD_memL (d := []) hi3)
    have hle : (effOf ((argL ds 4).getD i [])).size ≤ Eff.sizes ((argL ds 4).map effOf) := Eff.size_le_sizes (List.mem_map.2 ⟨_, getD_memL hi2, rfl⟩)
    simp only [Int.toNat_natCast, fold10 hr hr2, mE]
    simp only [argE_row hr, argE2_row hr hr2]
    refine ⟨by omega, by omega, fun v hv => ⟨fun hf => h _ ?_, fun ht => ?_⟩⟩
    · simp only [Bool.false_eq_true, false_iff]
      rintro ⟨_, _, _, _, p6⟩
      have := take_of_map p6 (i + 1)
      rw [map_take_succ hi2, map_take_succ hi3, hsame] at this
      have hq := List.append_cancel_left this
      have hv2 : v = true := hv.2 (List.cons.inj hq).1
      have hf2 : v = false := hf
      rw [hv2] at hf2; cases hf2
    · refine ⟨(argL ds 4).length - (i + 1), by omega, i + 1, b, ?_, by omega, rfl, ?_⟩
      · rw [wrap64 (by omega) (by omega)]; rfl
      · rw [map_take_succ hi2, map_take_succ hi3, hsame, hv.1 ht]
  · have hkk : i = (argL ds 4).length := by omega
    rw [List.take_of_length_le (by omega), List.take_of_length_le (by omega)] at hsame
    refine h _ ?_
    simp only [true_iff]
    exact ⟨p1, p2, p3, p4, hsame⟩)
def numEffects_s : Spec := eqE_s
noncomputable def con_numEffects : Con E0 := ⟨k_numEffects, sg_numEffects, numEffects_s, rfl, bo_numEffects, numEffects_h⟩
def k_effSame : Nat := 9
def sg_effSame : Sig := ⟨[(true, List.replicate 4 (.int .i64) ++ [.list 24]), (true, List.replicate 4 (.int .i64) ++ [.list 24])], [(false, [.bool])], false, false, false, false, false⟩
def tr_effSame : Tree := (.ite (.cmp .eq (.var 0) (.var 5))
 (.ite (.cmp .eq (.var 1) (.var 6))
  (.ite (.cmp .eq (.var 2) (.var 7))
   (.ite (.cmp .eq (.var 3) (.var 8))
    (.ite (.cmp .ne (.len (.var 4)) (.len (.var 9)))
     (.ret [(.bool false)])
     (.loop [(.bool false), (.int .i64 0)] [.bool, (.int .i64)]
      (.ite (.cmp .lt (.var 11) (.len (.var 4)))
       (.ob (.cmp .ge (.var 11) (.int .i64 0))
       (.ob (.cmp .ge (.var 11) (.int .i64 0))
       (.ob (.cmp .lt (.var 11) (.len (.var 9)))
       (.call k_effSame [(.elem (.var 4) (.var 11) 0 (.int .i64)), (.elem (.var 4) (.var 11) 1 (.int .i64)), (.elem (.var 4) (.var 11) 2 (.int .i64)), (.elem (.var 4) (.var 11) 3 (.int .i64)), (.elem (.var 4) (.var 11) 4 (.list 24)), (.elem (.var 9) (.var 11) 0 (.int .i64)), (.elem (.var 9) (.var 11) 1 (.int .i64)), (.elem (.var 9) (.var 11) 2 (.int .i64)), (.elem (.var 9) (.var 11) 3 (.int .i64)), (.elem (.var 9) (.var 11) 4 (.list 24))] [.bool]
       (.ite (.not (.var 12))
        (.ret [(.bool false)])
        (.again 0 [(.var 10), (.ar .add .i64 (.var 11) (.int .i64 1))]))))))
       (.ret [(.bool true)]))))
    (.ret [(.bool false)]))
   (.ret [(.bool false)]))
  (.ret [(.bool false)]))
 (.ret [(.bool false)]))
theorem wk_effSame : walk E0.cx (sgsN [(9, sg_effSame)]) 0 9 sg_effSame = tr_effSame := by kernel_rfl
theorem bo_effSame : ∃ x, bodyOf E0.P 9 = some x := bo_of (by kernel_rfl)
def effSame_s : Spec := eqE_s
theorem effSame_h : Holds E0 k_effSame sg_effSame effSame_s := holds_rec mE fun n ih => con_fn wf0 mix0 g0 [⟨_, _, _, rfl, bo_effSame, ih⟩] rfl wk_effSame rfl (by
  intro Φ hΦ ds Q hs ⟨hm, hsz, h⟩
  have hl : ds.length = 10 := hs.length.symm
  have sp : Φ k_effSame = (fun ds Q => mE ds < n ∧ effSame_s ds Q) := by rw [hΦ]; rfl
  clear hΦ
  have hrow := eff_len (all2_get hs (i := 4) rfl)
  have hrow2 := eff_len (all2_get hs (i := 9) rfl)
  rw [argL_fold] at hrow hrow2
  have hsub := argE_subs ds
  have hlen := Eff.length_le_sizes ((argL ds 4).map effOf)
  rw [List.length_map] at hlen
  rw [mE] at hm
  rw [Eff.size_eq, hsub] at hm hsz
  rw [eff_eq] at h
  simp only [tr_effSame, wp, den_int, den_bool, den_nili, den_ar, den_cmp, den_not, den_len, den_elem, den_isnil, den_errI, den_ifc, den_rep, den_push, den_app, den_emp, den_upd, row0_econs, row0_enil, den_and, den_beq, den_nil, toInt_int, toBool_bool, xs_rows, xs_list, dflt_int, dflt_bool, of_eq, of_ne, of_lt, of_le, of_gt, of_ge, of_add, of_sub, of_rem, List.map_cons, List.map_nil, Dat.bool.injEq, decide_eq_true_eq, decide_eq_false_iff_not, Bool.not_eq_true', Bool.not_eq_false', beq_iff_eq, bne_iff_ne, beq_eq_false_iff_ne, bne_eq_false_iff_eq, ne_eq, List.append_assoc, List.cons_append, List.nil_append, allS, sp, effSame_s, eqE_s, @den_var0 E0.Δ ds, den_varA, den_varB, hl, Nat.reduceLT, Nat.reduceLeDiff, Nat.reduceSub, List.getD_cons_zero, List.getD_cons_succ, argL_fold ds, argI_fold ds, List.append_assoc, List.cons_append, List.nil_append, toInt_int, toBool_bool, xs_rows, xs_list, Int.toNat_natCast, Dat.bool.injEq]
  have no : ¬ (argI ds 0 = argI ds 5 ∧ argI ds 1 = argI ds 6 ∧ argI ds 2 = argI ds 7 ∧ argI ds 3 = argI ds 8 ∧ (argL ds 4).map effOf = (argL ds 9).map effOf) → Q [.bool false] := fun hx => h _ (by simp only [Bool.false_eq_true, false_iff]; exact hx)
  refine ⟨fun p1 => ⟨fun p2 => ⟨fun p3 => ⟨fun p4 => ⟨fun p5 => ?_, fun p5 => ?_⟩, fun p4 => ?_⟩, fun p3 => ?_⟩, fun p2 => ?_⟩, fun p1 => ?_⟩
  · refine no fun hx => p5 ?_
    have := congrArg List.length hx.2.2.2.2
    simp only [List.length_map] at this
    omega
  · have hll : (argL ds 4).length = (argL ds 9).length := by omega
    refine ⟨fun xs m => ∃ (i : Nat) (b : Bool), xs = [.bool b, .int .i64 (i : Int)] ∧ i ≤ (argL ds 4).length ∧ m = (argL ds 4).length - i ∧ ((argL ds 4).take i).map effOf = ((argL ds 9).take i).map effOf, ⟨_, 0, _, rfl, by omega, rfl, by simp⟩, ?_⟩
    rintro b i' m ⟨i, _, e, hi, hmi, hsame⟩
    cases e
    refine ⟨fun hlt => ⟨by omega, by omega, by omega, ?_⟩, fun hge => ?_⟩
    · have hi2 : i < (argL ds 4).length := by omega
      have hi3 : i < (argL ds 9).length := by omega
      have hr := hrow _ (getD_memL (d := []) hi2)
      have hr2 := hrow2 _ (getD_memL (d := []) hi3)
      have hle : (effOf ((argL ds 4).getD i [])).size ≤ Eff.sizes ((argL ds 4).map effOf) := Eff.size_le_sizes (List.mem_map.2 ⟨_, getD_memL hi2, rfl⟩)
      simp only [Int.toNat_natCast, fold10 hr hr2, mE]
      simp only [argE_row hr, argE2_row hr hr2]
      refine ⟨by omega, by omega, fun v hv => ⟨fun hf => no ?_, fun ht => ?_⟩⟩
      · rintro ⟨_, _, _, _, p6⟩
        have := take_of_map p6 (i + 1)
        rw [map_take_succ hi2, map_take_succ hi3, hsame] at this
        have hq := List.append_cancel_left this
        have hv2 : v = true := hv.2 (List.cons.inj hq).1
        have hf2 : v = false := hf
        rw [hv2] at hf2; cases hf2
      · refine ⟨(argL ds 4).length - (i + 1), by omega, i + 1, b, ?_, by omega, rfl, ?_⟩
        · rw [wrap64 (by omega) (by omega)]; rfl
        · rw [map_take_succ hi2, map_take_succ hi3, hsame, hv.1 ht]
    · have hkk : i = (argL ds 4).length := by omega
      rw [List.take_of_length_le (by omega), List.take_of_length_le (by omega)] at hsame
      refine h _ ?_
      simp only [true_iff]
      exact ⟨p1, p2, p3, p4, hsame⟩
  · exact no fun hx => p4 hx.2.2.2.1
  · exact no fun hx => p3 hx.2.2.1
  · exact no fun hx => p2 hx.2.1
  · exact no fun hx => p1 hx.1)
noncomputable def con_effSame : Con E0 := ⟨k_effSame, sg_effSame, effSame_s, rfl, bo_effSame, effSame_h⟩
end Go.Proofs.Ytccdlmiemelifaa
end
