import Derived.Test.YtfpgbdefopbfbaaDoorM9
import Derived.Shelf.Strings.BuilderK
import Derived.Shelf.Strings.BuilderF
import Derived.Shelf.Strconv.Itoa3
import Derived.Shelf.Strings.Repeat
import Derived.Shelf.Slices.Turned
import Derived.Shelf.LaysM
import Derived.Shelf.Strings.Trim
import Derived.Shelf.LaysC
import Derived.Shelf.Strconv.AtoiAll
import Derived.Shelf.Strconv.ErrVarAll
import Derived.Shelf.Strings.Runes
import Derived.Shelf.Strings.Search1
import Derived.Shelf.Strings.Prefix
import Derived.Shelf.Strings.SlTrimAscii
import Derived.Lib.OthersKept
import Derived.WalkKit
import Derived.BigCall
import Derived.Lib.LaidTab
import Derived.Deep.LoopGhost
import Derived.WalkMore
import Derived.Laws.Cover4
import Derived.Lib.PathFns
import Derived.WalkSmall

set_option linter.unusedVariables false
set_option linter.unusedSimpArgs false

section
namespace Go.Proofs.YtfpgbdefopbfbaaDoor
open Go.RowKit
set_option linter.unusedVariables false
set_option linter.unusedSimpArgs false

/-- a contract of a function that calls itself: by what gets less -/
theorem holds_rec {E : Env} {f : FuncId} {sg : Sig} {Φ : Spec} (m : List Dat → Nat)
    (step : ∀ n, Holds E f sg (fun ds Q => m ds < n ∧ Φ ds Q) → Holds E f sg (fun ds Q => m ds < n + 1 ∧ Φ ds Q)) : Holds E f sg Φ := by
  have all : ∀ n, Holds E f sg (fun ds Q => m ds < n ∧ Φ ds Q) := by
    intro n
    induction n with
    | zero => intro w ds Q _ _ _ _ h; exact absurd h.1 (Nat.not_lt_zero _)
    | succ n ih => exact step n ih
  intro w ds Q h1 h2 h3 h4 h5
  exact all (m ds + 1) w ds Q h1 h2 h3 h4 ⟨Nat.lt_succ_self _, h5⟩

/-- .. its callees' contracts behind a name -/
theorem con_fn {E : Env} (hW : E.Wf) (hmix : E.P.follows .mixedOrders = true) (hγ : E.γ = []) (T : List (Con E)) {ns : List (Nat × Sig)} (hn : names T = ns) {f : Nat} {sg : Sig} {tr : Tree} (hT : walk E.cx (sgsN ns) 0 f sg = tr) (hsg : sg.ok = true) {Ψ : Spec}
    (h : ∀ Φ : Nat → Spec, Φ = specC T → ∀ ds Q, All2 (Has E.Δ) (Sig.sorts sg.params) ds → Ψ ds Q → wp E.Δ Φ Q tr ds []) : Holds E f sg Ψ :=
  con_by hW hmix hγ T hn hT hsg (h _ rfl)

/-- a slice that is nil has nothing -/
def NilOk (d : Dat) : Prop := isNilI d = true → d.xs = []
theorem nilOk {d : Dat} {w : World} (ho : OkD w d) : NilOk d := fun hn => by
  cases ho with
  | list v sz xs hr _ =>
    obtain ⟨A, c, rfl, hc, hlen, ha⟩ := hr
    cases A with
    | some a => cases hn
    | none =>
      cases xs with
      | nil => rfl
      | cons x xs =>
        obtain ⟨ad, e, _⟩ := ha (by simp)
        cases e
  | rows xs _ => cases hn
  | _ => rfl
theorem con_fnN {E : Env} (hW : E.Wf) (hmix : E.P.follows .mixedOrders = true) (hγ : E.γ = []) (T : List (Con E)) {ns : List (Nat × Sig)} (hn : names T = ns) {f : Nat} {sg : Sig} {tr : Tree} (hT : walk E.cx (sgsN ns) 0 f sg = tr) (hsg : sg.ok = true) {Ψ : Spec}
    (h : ∀ Φ : Nat → Spec, Φ = specC T → ∀ ds Q, All2 (Has E.Δ) (Sig.sorts sg.params) ds → (∀ d ∈ ds, NilOk d) → Ψ ds Q → wp E.Δ Φ Q tr ds []) : Holds E f sg Ψ := fun w ds Q h1 h2 h3 h4 h5 =>
  con_fn hW hmix hγ T hn hT hsg (Ψ := fun ds Q => (∀ d ∈ ds, NilOk d) ∧ Ψ ds Q) (fun Φ hΦ ds Q hs hq => h Φ hΦ ds Q hs hq.1 hq.2) w ds Q h1 h2 h3 h4 ⟨fun d hd => nilOk (h2 d hd), h5⟩
theorem take_succ_getD {α : Type} {l : List α} {i : Nat} {d : α} (h : i < l.length) : l.take (i + 1) = l.take i ++ [l.getD i d] := by
  rw [List.getD_eq_getElem?_getD, List.getElem?_eq_getElem h, List.take_add_one, List.getElem?_eq_getElem h]; rfl
theorem drop_getD {α : Type} {l : List α} {i : Nat} {d : α} (h : i < l.length) : l.drop i = l.getD i d :: l.drop (i + 1) := by
  rw [List.getD_eq_getElem?_getD, List.getElem?_eq_getElem h, List.drop_eq_getElem_cons h]; rfl
theorem getD_memL {α : Type} {l : List α} {i : Nat} {d : α} (h : i < l.length) : l.getD i d ∈ l := by
  rw [List.getD_eq_getElem?_getD, List.getElem?_eq_getElem h]; exact List.getElem_mem h
theorem argV {Δ : Tab} {k : IntKind} {ds : List Dat} {i : Nat} (h : Has Δ (.int k) (ds.getD i (.bool false))) : ds.getD i (.bool false) = .int k (argI ds i) := by
  rw [← argI_fold]; exact has_int h
theorem den_ite (Δ : Tab) (ρ : List Dat) (c a b : Tm) : den Δ ρ (.ite c a b) = if (den Δ ρ c).toBool then den Δ ρ a else den Δ ρ b := rfl
theorem argI_c0 {d : Dat} {l : List Dat} : argI (d :: l) 0 = d.toInt := rfl
theorem argI_c1 {d : Dat} {l : List Dat} {n : Nat} : argI (d :: l) (n + 1) = argI l n := rfl
theorem argL_c0 {d : Dat} {l : List Dat} : argL (d :: l) 0 = d.xs := rfl
theorem argL_c1 {d : Dat} {l : List Dat} {n : Nat} : argL (d :: l) (n + 1) = argL l n := rfl
theorem xs_cutD {Δ : Tab} {r : Nat} {d : Dat} {l h : Nat} (hd : Has Δ (.list r) d) (h1 : l ≤ h) (h2 : h ≤ d.xs.length) : (cutD l h d).xs = (d.xs.take h).drop l := by
  cases hd with
  | list _ A n c xs hl hh =>
    have hall : xs.all (fun r' => r'.length == (Δ.row r).length) = true := List.all_eq_true.2 fun row hr => by simpa using hl row hr
    simp only [cutD]
    rw [if_pos ⟨h1, h2, hall⟩]
    rfl
theorem den_or (Δ : Tab) (ρ : List Dat) (a b : Tm) : den Δ ρ (.or a b) = .bool ((den Δ ρ a).toBool || (den Δ ρ b).toBool) := rfl
theorem den_conv (Δ : Tab) (ρ : List Dat) (k : IntKind) (a : Tm) : den Δ ρ (.conv k a) = .int k (k.wrap (den Δ ρ a).toInt) := rfl
theorem den_cutT (Δ : Tab) (ρ : List Dat) (a l h : Tm) : den Δ ρ (.cut a l h) = cutD (den Δ ρ l).toInt.toNat (den Δ ρ h).toInt.toNat (den Δ ρ a) := rfl
theorem ite_datb (c : Prop) [Decidable c] (a b : Bool) : (if c then Dat.bool a else Dat.bool b) = Dat.bool (if c then a else b) := by split <;> rfl
theorem ite_dati (k : IntKind) (c : Prop) [Decidable c] (a b : Int) : (if c then Dat.int k a else Dat.int k b) = Dat.int k (if c then a else b) := by split <;> rfl
theorem toInt_ite (c : Prop) [Decidable c] (a b : Dat) : (if c then a else b).toInt = if c then a.toInt else b.toInt := by split <;> rfl
theorem toBool_ite (c : Prop) [Decidable c] (a b : Dat) : (if c then a else b).toBool = if c then a.toBool else b.toBool := by split <;> rfl
theorem argI_row {r e : List Dat} {i k : Nat} (h : r.length = k) (hk : k ≤ i) : argI (r ++ e) i = argI e (i - k) := by
  subst h
  simp [argI, List.getD_eq_getElem?_getD, List.getElem?_append_right hk]
theorem argI_0 {d : Dat} {l : List Dat} : argI (d :: l) 0 = d.toInt := rfl
theorem argI_1 {a d : Dat} {l : List Dat} : argI (a :: d :: l) 1 = d.toInt := rfl
def errV (n : Int) : Dat := if n = 0 then .val .nilIface else .val (.iface 44 (.int .i64 n))
theorem errV_nil (n : Int) : isNilI (errV n) = decide (n = 0) := by
  unfold errV
  by_cases h : n = 0
  · rw [if_pos h, decide_eq_true h]; rfl
  · rw [if_neg h, decide_eq_false h]; rfl
theorem errV_0 : errV 0 = .val .nilIface := rfl
theorem errV_n {n : Int} (h : n ≠ 0) : errV n = .val (.iface 44 (.int .i64 n)) := if_neg h
def k_Num : Nat := 10
def sg_Num : Sig := ⟨[(false, [.err])], [(false, [.int .i64])], false, false, false, false, false⟩
def tr_Num : Tree := (.ite (.isnil (.var 0))
 (.ret [(.int .i64 0)])
 (.ite (.cmp .ne (.errI (.var 0)) (.int .i64 0))
  (.ret [(.errI (.var 0))])
  (.ret [(.int .i64 (-1))])))
theorem wk_Num : walk E0.cx (sgsN []) 0 10 sg_Num = tr_Num := by kernel_rfl
theorem bo_Num : ∃ x, bodyOf E0.P 10 = some x := bo_of (by kernel_rfl)
def Num_s : Spec := fun ds Q => ∃ n : Int, ds = [errV n] ∧ Q [.int .i64 n]
theorem Num_h : Holds E0 k_Num sg_Num Num_s := con_by wf0 mix0 g0 [] rfl wk_Num rfl (by
  intro ds Q hs ⟨n, e, h⟩
  subst e
  simp only [tr_Num, wp, den_int, den_bool, den_nili, den_ar, den_cmp, den_not, den_len, den_elem, den_isnil, den_errI, den_ifc, den_rep, den_push, den_app, den_emp, den_upd, row0_econs, row0_enil, den_and, den_beq, den_nil, toInt_int, toBool_bool, xs_rows, xs_list, dflt_int, dflt_bool, of_eq, of_ne, of_lt, of_le, of_gt, of_ge, of_add, of_sub, of_rem, List.map_cons, List.map_nil, Dat.bool.injEq, decide_eq_true_eq, decide_eq_false_iff_not, Bool.not_eq_true', Bool.not_eq_false', beq_iff_eq, bne_iff_ne, beq_eq_false_iff_ne, bne_eq_false_iff_eq, ne_eq, List.append_assoc, List.cons_append, List.nil_append, den_var0, List.getD_cons_zero]
  by_cases hn : n = 0
  · subst hn
    exact ⟨fun _ => h, fun hx => Bool.noConfusion hx⟩
  · simp only [errV, if_neg hn, errN]
    exact ⟨fun hx => Bool.noConfusion hx, fun _ => ⟨fun _ => h, fun hx => absurd hx hn⟩⟩)
noncomputable def con_Num : Con E0 := ⟨k_Num, sg_Num, Num_s, rfl, bo_Num, Num_h⟩
def true_s : Spec := fun ds Q => Q [.bool true]
end Go.Proofs.YtfpgbdefopbfbaaDoor
end

section
namespace Go.Proofs.YtfpgbdefopbfbaaDoor
open Go.Shelf
def sh_lays169_ren : Go.Shelf.Ren := ⟨fun | 169 => 23 | n => n, fun | 70 => 47 | 9 => 9 | 0 => 0 | 72 => 50 | 37 => 48 | 127 => 67 | 3 => 3 | 5 => 5 | n => n, fun | n => n⟩
theorem sh_lays169 : Go.Proofs.Lays.n169 Tryd.prog sh_lays169_ren := {
  mixed := by kernel_rfl
  f169 := Tryd.func23.trans (congrArg some (by kernel_rfl))
  t0 := Tryd.underlying0
  a0 := Tryd.isAgg0
  z0 := Tryd.sizeOf0
  v0 := Tryd.zeroValue0
  t3 := Tryd.underlying3
  a3 := Tryd.isAgg3
  z3 := Tryd.sizeOf3
  v3 := Tryd.zeroValue3
  t9 := Tryd.underlying9
  a9 := Tryd.isAgg9
  z9 := Tryd.sizeOf9
  v9 := Tryd.zeroValue9
  t37 := Tryd.underlying48
  a37 := Tryd.isAgg48
  z37 := Tryd.sizeOf48
  v37 := Tryd.zeroValue48
  t70 := Tryd.underlying47
  a70 := Tryd.isAgg47
  z70 := Tryd.sizeOf47
  v70 := Tryd.zeroValue47
  t72 := Tryd.underlying50
  a72 := Tryd.isAgg50
  z72 := Tryd.sizeOf50
  v72 := Tryd.zeroValue50
  t127 := Tryd.underlying67
  a127 := Tryd.isAgg67
  z127 := Tryd.sizeOf67
  v127 := Tryd.zeroValue67 }
theorem sh_Builder_Extra_169 : Builder.Extra Tryd.prog sh_lays169_ren := {
  sizeBuilder := by kernel_rfl
  liesBuilder := by kernel_rfl
  t5 := Tryd.underlying5
  a5 := Tryd.isAgg5
  z5 := Tryd.sizeOf5
  v5 := Tryd.zeroValue5
  infoByte := by kernel_rfl
  cellsByte := by kernel_rfl
  sizeByte := by kernel_rfl
  neB5 := by decide }
open Go.RowKit in
theorem sh_Builder_String_any_k (B b : Nat) (l : List UInt8) (w : World) (h : Lib.IsBuilderF 50 5 B b (Lib.byteCells l) w) (hBw : B ≤ w.heap.size) :
    Calls Tryd.prog 23 #[.pointer (some ⟨b, 0, none⟩)] w fun e w' => e = .returned (.string ⟨l.toArray⟩) ∧ (Lib.IsBuilderF 50 5 B b (Lib.byteCells l) w' ∧ Below B w w' ∧ Lib.OthersKept 5 (some b) w w') := Any.Builder_String_any_k sh_lays169 sh_Builder_Extra_169 B b l w h hBw
def sh_laysM171_ren : Go.Shelf.Ren := ⟨fun | 171 => 21 | 243 => 29 | 246 => 39 | 283 => 54 | 284 => 55 | 285 => 56 | 286 => 57 | 129 => 69 | 317 => 68 | 318 => 70 | 319 => 71 | 320 => 72 | 337 => 78 | 338 => 79 | n => n, fun | 3 => 3 | 9 => 9 | 2 => 2 | 4 => 4 | 171 => 92 | 0 => 0 | 53 => 77 | 37 => 48 | 5 => 5 | 173 => 95 | 212 => 109 | 51 => 74 | 20 => 20 | 213 => 110 | 46 => 61 | 232 => 127 | 233 => 128 | n => n, fun | 17 => 1 | 18 => 6 | 19 => 7 | n => n⟩
theorem sh_laysM171 : Go.Proofs.LaysM.n171 Tryd.prog sh_laysM171_ren := {
  mixed := by kernel_rfl
  f129 := Tryd.func69.trans (congrArg some (by kernel_rfl))
  f171 := Tryd.func21.trans (congrArg some (by kernel_rfl))
  f243 := Tryd.func29.trans (congrArg some (by kernel_rfl))
  f246 := Tryd.func39.trans (congrArg some (by kernel_rfl))
  f283 := Tryd.func54.trans (congrArg some (by kernel_rfl))
  f284 := Tryd.func55.trans (congrArg some (by kernel_rfl))
  f285 := Tryd.func56.trans (congrArg some (by kernel_rfl))
  f286 := Tryd.func57.trans (congrArg some (by kernel_rfl))
  f317 := Tryd.func68.trans (congrArg some (by kernel_rfl))
  f318 := Tryd.func70.trans (congrArg some (by kernel_rfl))
  f319 := Tryd.func71.trans (congrArg some (by kernel_rfl))
  f320 := Tryd.func72.trans (congrArg some (by kernel_rfl))
  f337 := Tryd.func78.trans (congrArg some (by kernel_rfl))
  f338 := Tryd.func79.trans (congrArg some (by kernel_rfl))
  t0 := Tryd.underlying0
  a0 := Tryd.isAgg0
  z0 := Tryd.sizeOf0
  v0 := Tryd.zeroValue0
  t2 := Tryd.underlying2
  a2 := Tryd.isAgg2
  z2 := Tryd.sizeOf2
  v2 := Tryd.zeroValue2
  t3 := Tryd.underlying3
  a3 := Tryd.isAgg3
  z3 := Tryd.sizeOf3
  v3 := Tryd.zeroValue3
  t4 := Tryd.underlying4
  a4 := Tryd.isAgg4
  z4 := Tryd.sizeOf4
  v4 := Tryd.zeroValue4
  t5 := Tryd.underlying5
  a5 := Tryd.isAgg5
  z5 := Tryd.sizeOf5
  v5 := Tryd.zeroValue5
  t9 := Tryd.underlying9
  a9 := Tryd.isAgg9
  z9 := Tryd.sizeOf9
  v9 := Tryd.zeroValue9
  t20 := Tryd.underlying20
  a20 := Tryd.isAgg20
  z20 := Tryd.sizeOf20
  v20 := Tryd.zeroValue20
  t37 := Tryd.underlying48
  a37 := Tryd.isAgg48
  z37 := Tryd.sizeOf48
  v37 := Tryd.zeroValue48
  t46 := Tryd.underlying61
  a46 := Tryd.isAgg61
  z46 := Tryd.sizeOf61
  v46 := Tryd.zeroValue61
  t51 := Tryd.underlying74
  a51 := Tryd.isAgg74
  z51 := Tryd.sizeOf74
  v51 := Tryd.zeroValue74
  t53 := Tryd.underlying77
  a53 := Tryd.isAgg77
  z53 := Tryd.sizeOf77
  v53 := Tryd.zeroValue77
  t171 := Tryd.underlying92
  a171 := Tryd.isAgg92
  z171 := Tryd.sizeOf92
  v171 := Tryd.zeroValue92
  t173 := Tryd.underlying95
  a173 := Tryd.isAgg95
  z173 := Tryd.sizeOf95
  v173 := Tryd.zeroValue95
  t212 := Tryd.underlying109
  a212 := Tryd.isAgg109
  z212 := Tryd.sizeOf109
  v212 := Tryd.zeroValue109
  t213 := Tryd.underlying110
  a213 := Tryd.isAgg110
  z213 := Tryd.sizeOf110
  t232 := Tryd.underlying127
  a232 := Tryd.isAgg127
  z232 := Tryd.sizeOf127
  v232 := Tryd.zeroValue127
  t233 := Tryd.underlying128
  a233 := Tryd.isAgg128
  z233 := Tryd.sizeOf128
  v233 := Tryd.zeroValue128
  g17 := by kernel_rfl
  g18 := by kernel_rfl
  g19 := by kernel_rfl
  i0 := by kernel_rfl
  i2 := by kernel_rfl
  i3 := by kernel_rfl
  i4 := by kernel_rfl
  i5 := by kernel_rfl
  i9 := by kernel_rfl
  i20 := by kernel_rfl
  i37 := by kernel_rfl
  i46 := by kernel_rfl
  i51 := by kernel_rfl
  i53 := by kernel_rfl
  i171 := by kernel_rfl
  i173 := by kernel_rfl
  i212 := by kernel_rfl
  i232 := by kernel_rfl
  i233 := by kernel_rfl
  m17 := by kernel_rfl
  m18 := by kernel_rfl
  m19 := by kernel_rfl }
open Go.RowKit Go.Sort Go.Lib in
theorem sh_strconv_Itoa (n : Int) (h0 : -9223372036854775808 ≤ n) (h1 : n ≤ 9223372036854775807) (w : World) (htab : Lib.TabIs Tryd.prog w "internal/strconv.uint64pow10" .u64 Lib.pow10Tab) :
    Calls Tryd.prog 21 #[.int .i64 n] w fun e w' => e = .returned (.string ⟨(Lib.itoa n).toArray⟩) ∧ ∃ k os, w' = grow (w.drewN k) os := Any.strconv_Itoa sh_laysM171 n h0 h1 w htab
def sh_lays171_ren : Go.Shelf.Ren := ⟨fun | 171 => 21 | 243 => 29 | 246 => 39 | 283 => 54 | 284 => 55 | 285 => 56 | 286 => 57 | 129 => 69 | 317 => 68 | 318 => 70 | 319 => 71 | 320 => 72 | 337 => 78 | 338 => 79 | n => n, fun | 3 => 3 | 9 => 9 | 2 => 2 | 4 => 4 | 171 => 92 | 0 => 0 | 53 => 77 | 37 => 48 | 5 => 5 | 173 => 95 | 212 => 109 | 51 => 74 | 20 => 20 | 213 => 110 | 46 => 61 | 232 => 127 | 233 => 128 | n => n, fun | 17 => 1 | 18 => 6 | 19 => 7 | n => n⟩
theorem sh_lays171 : Go.Proofs.Lays.n171 Tryd.prog sh_lays171_ren := {
  mixed := by kernel_rfl
  f129 := Tryd.func69.trans (congrArg some (by kernel_rfl))
  f171 := Tryd.func21.trans (congrArg some (by kernel_rfl))
  f243 := Tryd.func29.trans (congrArg some (by kernel_rfl))
  f246 := Tryd.func39.trans (congrArg some (by kernel_rfl))
  f283 := Tryd.func54.trans (congrArg some (by kernel_rfl))
  f284 := Tryd.func55.trans (congrArg some (by kernel_rfl))
  f285 := Tryd.func56.trans (congrArg some (by kernel_rfl))
  f286 := Tryd.func57.trans (congrArg some (by kernel_rfl))
  f317 := Tryd.func68.trans (congrArg some (by kernel_rfl))
  f318 := Tryd.func70.trans (congrArg some (by kernel_rfl))
  f319 := Tryd.func71.trans (congrArg some (by kernel_rfl))
  f320 := Tryd.func72.trans (congrArg some (by kernel_rfl))
  f337 := Tryd.func78.trans (congrArg some (by kernel_rfl))
  f338 := Tryd.func79.trans (congrArg some (by kernel_rfl))
  t0 := Tryd.underlying0
  a0 := Tryd.isAgg0
  z0 := Tryd.sizeOf0
  v0 := Tryd.zeroValue0
  t2 := Tryd.underlying2
  a2 := Tryd.isAgg2
  z2 := Tryd.sizeOf2
  v2 := Tryd.zeroValue2
  t3 := Tryd.underlying3
  a3 := Tryd.isAgg3
  z3 := Tryd.sizeOf3
  v3 := Tryd.zeroValue3
  t4 := Tryd.underlying4
  a4 := Tryd.isAgg4
  z4 := Tryd.sizeOf4
  v4 := Tryd.zeroValue4
  t5 := Tryd.underlying5
  a5 := Tryd.isAgg5
  z5 := Tryd.sizeOf5
  v5 := Tryd.zeroValue5
  t9 := Tryd.underlying9
  a9 := Tryd.isAgg9
  z9 := Tryd.sizeOf9
  v9 := Tryd.zeroValue9
  t20 := Tryd.underlying20
  a20 := Tryd.isAgg20
  z20 := Tryd.sizeOf20
  v20 := Tryd.zeroValue20
  t37 := Tryd.underlying48
  a37 := Tryd.isAgg48
  z37 := Tryd.sizeOf48
  v37 := Tryd.zeroValue48
  t46 := Tryd.underlying61
  a46 := Tryd.isAgg61
  z46 := Tryd.sizeOf61
  v46 := Tryd.zeroValue61
  t51 := Tryd.underlying74
  a51 := Tryd.isAgg74
  z51 := Tryd.sizeOf74
  v51 := Tryd.zeroValue74
  t53 := Tryd.underlying77
  a53 := Tryd.isAgg77
  z53 := Tryd.sizeOf77
  v53 := Tryd.zeroValue77
  t171 := Tryd.underlying92
  a171 := Tryd.isAgg92
  z171 := Tryd.sizeOf92
  v171 := Tryd.zeroValue92
  t173 := Tryd.underlying95
  a173 := Tryd.isAgg95
  z173 := Tryd.sizeOf95
  v173 := Tryd.zeroValue95
  t212 := Tryd.underlying109
  a212 := Tryd.isAgg109
  z212 := Tryd.sizeOf109
  v212 := Tryd.zeroValue109
  t213 := Tryd.underlying110
  a213 := Tryd.isAgg110
  z213 := Tryd.sizeOf110
  t232 := Tryd.underlying127
  a232 := Tryd.isAgg127
  z232 := Tryd.sizeOf127
  v232 := Tryd.zeroValue127
  t233 := Tryd.underlying128
  a233 := Tryd.isAgg128
  z233 := Tryd.sizeOf128
  v233 := Tryd.zeroValue128
  g17 := by kernel_rfl
  g18 := by kernel_rfl
  g19 := by kernel_rfl }
open Go.RowKit Go.Sort Go.Lib in
theorem sh_strconv_Itoa_small (i : Nat) (hi : i < 100) (w : World) :
    Calls Tryd.prog 21 #[.int .i64 i] w fun e w' => e = .returned (.string ⟨(Lib.decDigits i).toArray⟩) ∧ w' = w := Any.strconv_Itoa_small sh_lays171 i hi w
def sh_lays105_ren : Go.Shelf.Ren := ⟨fun | 105 => 22 | 212 => 30 | 99 => 31 | 165 => 32 | 166 => 20 | 170 => 33 | 169 => 23 | 263 => 40 | 264 => 41 | 206 => 42 | 240 => 28 | 241 => 43 | 276 => 38 | 277 => 58 | n => n, fun | 9 => 9 | 3 => 3 | 4 => 4 | 20 => 20 | 0 => 0 | 46 => 61 | 109 => 62 | 5 => 5 | 72 => 50 | 76 => 51 | 51 => 74 | 146 => 75 | 53 => 77 | 148 => 78 | 70 => 47 | 37 => 48 | 75 => 26 | 127 => 67 | 164 => 71 | 80 => 55 | n => n, fun | n => n⟩
theorem sh_lays105 : Go.Proofs.Lays.n105 Tryd.prog sh_lays105_ren := {
  mixed := by kernel_rfl
  f99 := Tryd.func31.trans (congrArg some (by kernel_rfl))
  f105 := Tryd.func22.trans (congrArg some (by kernel_rfl))
  f165 := Tryd.func32.trans (congrArg some (by kernel_rfl))
  f166 := Tryd.func20.trans (congrArg some (by kernel_rfl))
  f169 := Tryd.func23.trans (congrArg some (by kernel_rfl))
  f170 := Tryd.func33.trans (congrArg some (by kernel_rfl))
  f206 := Tryd.func42.trans (congrArg some (by kernel_rfl))
  f212 := Tryd.func30.trans (congrArg some (by kernel_rfl))
  f240 := Tryd.func28.trans (congrArg some (by kernel_rfl))
  f241 := Tryd.func43.trans (congrArg some (by kernel_rfl))
  f263 := Tryd.func40.trans (congrArg some (by kernel_rfl))
  f264 := Tryd.func41.trans (congrArg some (by kernel_rfl))
  f276 := Tryd.func38.trans (congrArg some (by kernel_rfl))
  f277 := Tryd.func58.trans (congrArg some (by kernel_rfl))
  t0 := Tryd.underlying0
  a0 := Tryd.isAgg0
  z0 := Tryd.sizeOf0
  v0 := Tryd.zeroValue0
  t3 := Tryd.underlying3
  a3 := Tryd.isAgg3
  z3 := Tryd.sizeOf3
  v3 := Tryd.zeroValue3
  t4 := Tryd.underlying4
  a4 := Tryd.isAgg4
  z4 := Tryd.sizeOf4
  v4 := Tryd.zeroValue4
  t5 := Tryd.underlying5
  a5 := Tryd.isAgg5
  z5 := Tryd.sizeOf5
  v5 := Tryd.zeroValue5
  t9 := Tryd.underlying9
  a9 := Tryd.isAgg9
  z9 := Tryd.sizeOf9
  v9 := Tryd.zeroValue9
  t20 := Tryd.underlying20
  a20 := Tryd.isAgg20
  z20 := Tryd.sizeOf20
  v20 := Tryd.zeroValue20
  t37 := Tryd.underlying48
  a37 := Tryd.isAgg48
  z37 := Tryd.sizeOf48
  v37 := Tryd.zeroValue48
  t46 := Tryd.underlying61
  a46 := Tryd.isAgg61
  z46 := Tryd.sizeOf61
  v46 := Tryd.zeroValue61
  t51 := Tryd.underlying74
  a51 := Tryd.isAgg74
  z51 := Tryd.sizeOf74
  v51 := Tryd.zeroValue74
  t53 := Tryd.underlying77
  a53 := Tryd.isAgg77
  z53 := Tryd.sizeOf77
  v53 := Tryd.zeroValue77
  t70 := Tryd.underlying47
  a70 := Tryd.isAgg47
  z70 := Tryd.sizeOf47
  v70 := Tryd.zeroValue47
  t72 := Tryd.underlying50
  a72 := Tryd.isAgg50
  z72 := Tryd.sizeOf50
  v72 := Tryd.zeroValue50
  t75 := Tryd.underlying26
  a75 := Tryd.isAgg26
  z75 := Tryd.sizeOf26
  v75 := Tryd.zeroValue26
  t76 := Tryd.underlying51
  a76 := Tryd.isAgg51
  z76 := Tryd.sizeOf51
  v76 := Tryd.zeroValue51
  t109 := Tryd.underlying62
  a109 := Tryd.isAgg62
  z109 := Tryd.sizeOf62
  v109 := Tryd.zeroValue62
  t127 := Tryd.underlying67
  a127 := Tryd.isAgg67
  z127 := Tryd.sizeOf67
  v127 := Tryd.zeroValue67
  t146 := Tryd.underlying75
  a146 := Tryd.isAgg75
  z146 := Tryd.sizeOf75
  v146 := Tryd.zeroValue75
  t148 := Tryd.underlying78
  a148 := Tryd.isAgg78
  z148 := Tryd.sizeOf78
  v148 := Tryd.zeroValue78
  t164 := Tryd.underlying71
  a164 := Tryd.isAgg71
  z164 := Tryd.sizeOf71
  v164 := Tryd.zeroValue71 }
theorem sh_Builder_Extra_105 : Builder.Extra Tryd.prog sh_lays105_ren := {
  sizeBuilder := by kernel_rfl
  liesBuilder := by kernel_rfl
  t5 := Tryd.underlying5
  a5 := Tryd.isAgg5
  z5 := Tryd.sizeOf5
  v5 := Tryd.zeroValue5
  infoByte := by kernel_rfl
  cellsByte := by kernel_rfl
  sizeByte := by kernel_rfl
  neB5 := by decide }
open Go.RowKit Go.Lib in
theorem sh_strings_Repeat (s : ByteArray) (c : Nat) (w : World) (hc : c ≤ 9223372036854775807) (hlen : s.size * c ≤ 140737488355328) :
    Calls Tryd.prog 22 #[.string s, .int .i64 c] w fun e w' => e = .returned (.string ⟨(Lib.repeatL s.data.toList c).toArray⟩) ∧ Below w.heap.size w w' := Any.strings_Repeat sh_lays105 sh_Builder_Extra_105 s c w hc hlen
def sh_lays113_ren : Go.Shelf.Ren := ⟨fun | 113 => 19 | n => n, fun | 28 => 46 | 3 => 3 | 4 => 4 | 9 => 9 | 20 => 20 | 0 => 0 | n => n, fun | n => n⟩
theorem sh_lays113 : Go.Proofs.Lays.n113 Tryd.prog sh_lays113_ren := {
  mixed := by kernel_rfl
  f113 := Tryd.func19.trans (congrArg some (by kernel_rfl))
  t0 := Tryd.underlying0
  a0 := Tryd.isAgg0
  z0 := Tryd.sizeOf0
  v0 := Tryd.zeroValue0
  t3 := Tryd.underlying3
  a3 := Tryd.isAgg3
  z3 := Tryd.sizeOf3
  v3 := Tryd.zeroValue3
  t4 := Tryd.underlying4
  a4 := Tryd.isAgg4
  z4 := Tryd.sizeOf4
  v4 := Tryd.zeroValue4
  t9 := Tryd.underlying9
  a9 := Tryd.isAgg9
  z9 := Tryd.sizeOf9
  v9 := Tryd.zeroValue9
  t20 := Tryd.underlying20
  a20 := Tryd.isAgg20
  z20 := Tryd.sizeOf20
  v20 := Tryd.zeroValue20
  t28 := Tryd.underlying46
  a28 := Tryd.isAgg46
  z28 := Tryd.sizeOf46
  v28 := Tryd.zeroValue46 }
open Go.Lib in
theorem sh_slices_Max_int (b off n c : Nat) (zs : List Int) (w : World) (hn : 0 < n) (hz : n ≤ zs.length) (hbig : n ≤ 9223372036854775807) (hc : ∀ j, j < zs.length → w.cell? ⟨b, off + j, none⟩ = some (.int .i64 (zs.getD j 0))) :
    Calls Tryd.prog 19 #[.slice (some ⟨b, off, none⟩) n c] w fun e w' => e = .returned (.int .i64 (Lib.maxOf (zs.take n))) ∧ w' = w := Any.slices_Max_int sh_lays113 b off n c zs w hn hz hbig hc
theorem sh_lays166 : Go.Proofs.Lays.n166 Tryd.prog sh_lays105_ren := { sh_lays105 with }
open Go.RowKit in
theorem sh_Builder_WriteString_k (B b : Nat) (bs : List Value) (s : ByteArray) (w : World) (h : Lib.IsBuilderF 50 5 B b bs w) (hlen : bs.length + s.size ≤ 140737488355328) (hBw : B ≤ w.heap.size) :
    Calls Tryd.prog 20 #[.pointer (some ⟨b, 0, none⟩), .string s] w fun e w' => e = .returned (.tuple #[.int .i64 s.size, .nilIface]) ∧ (Lib.BuilderAtF 50 5 B b (.pointer (some ⟨b, 0, none⟩)) (bs ++ Lib.strCells s) w' ∧ Below B w w' ∧ Lib.OthersKept 5 (some b) w w') := Any.Builder_WriteString_k sh_lays166 sh_Builder_Extra_105 B b bs s w h hlen hBw
end Go.Proofs.YtfpgbdefopbfbaaDoor
end

section
namespace Go.Proofs.YtfpgbdefopbfbaaDoor
open Go.Shelf
def sh_lays161_ren : Go.Shelf.Ren := ⟨fun | 161 => 35 | 231 => 44 | 227 => 45 | 233 => 46 | 235 => 47 | 228 => 59 | 197 => 60 | 151 => 61 | 260 => 73 | 152 => 37 | 137 => 50 | 119 => 51 | 224 => 52 | 225 => 53 | 217 => 67 | 266 => 77 | n => n, fun | 9 => 9 | 4 => 4 | 3 => 3 | 5 => 5 | 117 => 83 | 116 => 82 | 0 => 0 | 124 => 86 | 105 => 99 | 21 => 21 | 119 => 119 | 46 => 61 | 139 => 122 | 138 => 121 | n => n, fun | 3 => 4 | 4 => 5 | n => n⟩
theorem sh_lays161 : Go.Proofs.Lays.n161 Tryd.prog sh_lays161_ren := {
  mixed := by kernel_rfl
  f119 := Tryd.func51.trans (congrArg some (by kernel_rfl))
  f137 := Tryd.func50.trans (congrArg some (by kernel_rfl))
  f151 := Tryd.func61.trans (congrArg some (by kernel_rfl))
  f152 := Tryd.func37.trans (congrArg some (by kernel_rfl))
  f161 := Tryd.func35.trans (congrArg some (by kernel_rfl))
  f197 := Tryd.func60.trans (congrArg some (by kernel_rfl))
  f217 := Tryd.func67.trans (congrArg some (by kernel_rfl))
  f224 := Tryd.func52.trans (congrArg some (by kernel_rfl))
  f225 := Tryd.func53.trans (congrArg some (by kernel_rfl))
  f227 := Tryd.func45.trans (congrArg some (by kernel_rfl))
  f228 := Tryd.func59.trans (congrArg some (by kernel_rfl))
  f231 := Tryd.func44.trans (congrArg some (by kernel_rfl))
  f233 := Tryd.func46.trans (congrArg some (by kernel_rfl))
  f235 := Tryd.func47.trans (congrArg some (by kernel_rfl))
  f260 := Tryd.func73.trans (congrArg some (by kernel_rfl))
  f266 := Tryd.func77.trans (congrArg some (by kernel_rfl))
  t0 := Tryd.underlying0
  a0 := Tryd.isAgg0
  z0 := Tryd.sizeOf0
  v0 := Tryd.zeroValue0
  t3 := Tryd.underlying3
  a3 := Tryd.isAgg3
  z3 := Tryd.sizeOf3
  v3 := Tryd.zeroValue3
  t4 := Tryd.underlying4
  a4 := Tryd.isAgg4
  z4 := Tryd.sizeOf4
  v4 := Tryd.zeroValue4
  t5 := Tryd.underlying5
  a5 := Tryd.isAgg5
  z5 := Tryd.sizeOf5
  v5 := Tryd.zeroValue5
  t9 := Tryd.underlying9
  a9 := Tryd.isAgg9
  z9 := Tryd.sizeOf9
  v9 := Tryd.zeroValue9
  t21 := Tryd.underlying21
  a21 := Tryd.isAgg21
  z21 := Tryd.sizeOf21
  v21 := Tryd.zeroValue21
  t46 := Tryd.underlying61
  a46 := Tryd.isAgg61
  z46 := Tryd.sizeOf61
  v46 := Tryd.zeroValue61
  t105 := Tryd.underlying99
  a105 := Tryd.isAgg99
  z105 := Tryd.sizeOf99
  v105 := Tryd.zeroValue99
  t116 := Tryd.underlying82
  a116 := Tryd.isAgg82
  z116 := Tryd.sizeOf82
  t117 := Tryd.underlying83
  a117 := Tryd.isAgg83
  z117 := Tryd.sizeOf83
  v117 := Tryd.zeroValue83
  t119 := Tryd.underlying119
  a119 := Tryd.isAgg119
  z119 := Tryd.sizeOf119
  t124 := Tryd.underlying86
  a124 := Tryd.isAgg86
  z124 := Tryd.sizeOf86
  v124 := Tryd.zeroValue86
  t138 := Tryd.underlying121
  a138 := Tryd.isAgg121
  z138 := Tryd.sizeOf121
  v138 := Tryd.zeroValue121
  t139 := Tryd.underlying122
  a139 := Tryd.isAgg122
  z139 := Tryd.sizeOf122
  v139 := Tryd.zeroValue122
  g3 := by kernel_rfl
  g4 := by kernel_rfl }
open Go.RowKit in
theorem sh_strings_TrimLeft_one (s : ByteArray) (c : UInt8) (hc : c.toNat < 128) (w : World) :
    Calls Tryd.prog 35 #[.string s, .string ⟨#[c]⟩] w fun e w' => e = .returned (.string ⟨(Lib.trimLeftB s.data.toList c).toArray⟩) ∧ w' = w := Any.strings_TrimLeft_one sh_lays161 s c hc w
def sh_laysC172_ren : Go.Shelf.Ren := ⟨fun | 172 => 36 | 244 => 48 | 245 => 49 | 247 => 62 | 279 => 63 | 280 => 64 | 281 => 65 | 282 => 66 | 287 => 74 | 316 => 75 | 171 => 21 | 205 => 76 | 321 => 80 | 322 => 81 | 243 => 29 | 246 => 39 | 283 => 54 | 284 => 55 | 285 => 56 | 286 => 57 | 129 => 69 | 317 => 68 | 318 => 70 | 319 => 71 | 320 => 72 | 337 => 78 | 338 => 79 | n => n, fun | 9 => 9 | 3 => 3 | 75 => 26 | 76 => 51 | 4 => 4 | 5 => 5 | 167 => 102 | 37 => 48 | 0 => 0 | 85 => 103 | 2 => 2 | 168 => 105 | 53 => 77 | 175 => 112 | 46 => 61 | 210 => 116 | 127 => 67 | 145 => 126 | 143 => 124 | 21 => 21 | 171 => 92 | 173 => 95 | 212 => 109 | 51 => 74 | 20 => 20 | 213 => 110 | 232 => 127 | 233 => 128 | 80 => 55 | n => n, fun | 15 => 2 | 16 => 3 | 17 => 1 | 18 => 6 | 19 => 7 | n => n⟩
theorem sh_laysC172 : Go.Proofs.LaysC.n172 Tryd.prog sh_laysC172_ren := {
  mixed := by kernel_rfl
  f129 := Tryd.func69.trans (congrArg some (by kernel_rfl))
  f171 := Tryd.func21.trans (congrArg some (by kernel_rfl))
  f172 := Tryd.func36.trans (congrArg some (by kernel_rfl))
  f205 := Tryd.func76.trans (congrArg some (by kernel_rfl))
  f243 := Tryd.func29.trans (congrArg some (by kernel_rfl))
  f244 := Tryd.func48.trans (congrArg some (by kernel_rfl))
  f245 := Tryd.func49.trans (congrArg some (by kernel_rfl))
  f246 := Tryd.func39.trans (congrArg some (by kernel_rfl))
  f247 := Tryd.func62.trans (congrArg some (by kernel_rfl))
  f279 := Tryd.func63.trans (congrArg some (by kernel_rfl))
  f280 := Tryd.func64.trans (congrArg some (by kernel_rfl))
  f281 := Tryd.func65.trans (congrArg some (by kernel_rfl))
  f282 := Tryd.func66.trans (congrArg some (by kernel_rfl))
  f283 := Tryd.func54.trans (congrArg some (by kernel_rfl))
  f284 := Tryd.func55.trans (congrArg some (by kernel_rfl))
  f285 := Tryd.func56.trans (congrArg some (by kernel_rfl))
  f286 := Tryd.func57.trans (congrArg some (by kernel_rfl))
  f287 := Tryd.func74.trans (congrArg some (by kernel_rfl))
  f316 := Tryd.func75.trans (congrArg some (by kernel_rfl))
  f317 := Tryd.func68.trans (congrArg some (by kernel_rfl))
  f318 := Tryd.func70.trans (congrArg some (by kernel_rfl))
  f319 := Tryd.func71.trans (congrArg some (by kernel_rfl))
  f320 := Tryd.func72.trans (congrArg some (by kernel_rfl))
  f321 := Tryd.func80.trans (congrArg some (by kernel_rfl))
  f322 := Tryd.func81.trans (congrArg some (by kernel_rfl))
  f337 := Tryd.func78.trans (congrArg some (by kernel_rfl))
  f338 := Tryd.func79.trans (congrArg some (by kernel_rfl))
  t0 := Tryd.underlying0
  a0 := Tryd.isAgg0
  z0 := Tryd.sizeOf0
  v0 := Tryd.zeroValue0
  t2 := Tryd.underlying2
  a2 := Tryd.isAgg2
  z2 := Tryd.sizeOf2
  v2 := Tryd.zeroValue2
  t3 := Tryd.underlying3
  a3 := Tryd.isAgg3
  z3 := Tryd.sizeOf3
  v3 := Tryd.zeroValue3
  t4 := Tryd.underlying4
  a4 := Tryd.isAgg4
  z4 := Tryd.sizeOf4
  v4 := Tryd.zeroValue4
  t5 := Tryd.underlying5
  a5 := Tryd.isAgg5
  z5 := Tryd.sizeOf5
  v5 := Tryd.zeroValue5
  t9 := Tryd.underlying9
  a9 := Tryd.isAgg9
  z9 := Tryd.sizeOf9
  v9 := Tryd.zeroValue9
  t20 := Tryd.underlying20
  a20 := Tryd.isAgg20
  z20 := Tryd.sizeOf20
  v20 := Tryd.zeroValue20
  t21 := Tryd.underlying21
  a21 := Tryd.isAgg21
  z21 := Tryd.sizeOf21
  v21 := Tryd.zeroValue21
  t37 := Tryd.underlying48
  a37 := Tryd.isAgg48
  z37 := Tryd.sizeOf48
  v37 := Tryd.zeroValue48
  t46 := Tryd.underlying61
  a46 := Tryd.isAgg61
  z46 := Tryd.sizeOf61
  v46 := Tryd.zeroValue61
  t51 := Tryd.underlying74
  a51 := Tryd.isAgg74
  z51 := Tryd.sizeOf74
  v51 := Tryd.zeroValue74
  t53 := Tryd.underlying77
  a53 := Tryd.isAgg77
  z53 := Tryd.sizeOf77
  v53 := Tryd.zeroValue77
  t75 := Tryd.underlying26
  a75 := Tryd.isAgg26
  z75 := Tryd.sizeOf26
  v75 := Tryd.zeroValue26
  t76 := Tryd.underlying51
  a76 := Tryd.isAgg51
  z76 := Tryd.sizeOf51
  v76 := Tryd.zeroValue51
  t85 := Tryd.underlying103
  a85 := Tryd.isAgg103
  z85 := Tryd.sizeOf103
  v85 := Tryd.zeroValue103
  t127 := Tryd.underlying67
  a127 := Tryd.isAgg67
  z127 := Tryd.sizeOf67
  v127 := Tryd.zeroValue67
  t143 := Tryd.underlying124
  a143 := Tryd.isAgg124
  z143 := Tryd.sizeOf124
  v143 := Tryd.zeroValue124
  t145 := Tryd.underlying126
  a145 := Tryd.isAgg126
  z145 := Tryd.sizeOf126
  v145 := Tryd.zeroValue126
  t167 := Tryd.underlying102
  a167 := Tryd.isAgg102
  z167 := Tryd.sizeOf102
  v167 := Tryd.zeroValue102
  t168 := Tryd.underlying105
  a168 := Tryd.isAgg105
  z168 := Tryd.sizeOf105
  v168 := Tryd.zeroValue105
  t171 := Tryd.underlying92
  a171 := Tryd.isAgg92
  z171 := Tryd.sizeOf92
  v171 := Tryd.zeroValue92
  t173 := Tryd.underlying95
  a173 := Tryd.isAgg95
  z173 := Tryd.sizeOf95
  v173 := Tryd.zeroValue95
  t175 := Tryd.underlying112
  a175 := Tryd.isAgg112
  z175 := Tryd.sizeOf112
  v175 := Tryd.zeroValue112
  t210 := Tryd.underlying116
  a210 := Tryd.isAgg116
  z210 := Tryd.sizeOf116
  v210 := Tryd.zeroValue116
  t212 := Tryd.underlying109
  a212 := Tryd.isAgg109
  z212 := Tryd.sizeOf109
  v212 := Tryd.zeroValue109
  t213 := Tryd.underlying110
  a213 := Tryd.isAgg110
  z213 := Tryd.sizeOf110
  t232 := Tryd.underlying127
  a232 := Tryd.isAgg127
  z232 := Tryd.sizeOf127
  v232 := Tryd.zeroValue127
  t233 := Tryd.underlying128
  a233 := Tryd.isAgg128
  z233 := Tryd.sizeOf128
  v233 := Tryd.zeroValue128
  g15 := by kernel_rfl
  g16 := by kernel_rfl
  g17 := by kernel_rfl
  g18 := by kernel_rfl
  g19 := by kernel_rfl
  t80 := Tryd.underlying55
  a80 := Tryd.isAgg55
  z80 := Tryd.sizeOf55
  v80 := Tryd.zeroValue55
  i0 := by kernel_rfl
  i2 := by kernel_rfl
  i3 := by kernel_rfl
  i4 := by kernel_rfl
  i5 := by kernel_rfl
  i9 := by kernel_rfl
  i20 := by kernel_rfl
  i21 := by kernel_rfl
  i37 := by kernel_rfl
  i46 := by kernel_rfl
  i51 := by kernel_rfl
  i53 := by kernel_rfl
  i75 := by kernel_rfl
  i76 := by kernel_rfl
  i80 := by kernel_rfl
  i85 := by kernel_rfl
  i127 := by kernel_rfl
  i143 := by kernel_rfl
  i145 := by kernel_rfl
  i167 := by kernel_rfl
  i168 := by kernel_rfl
  i171 := by kernel_rfl
  i173 := by kernel_rfl
  i175 := by kernel_rfl
  i210 := by kernel_rfl
  i212 := by kernel_rfl
  i232 := by kernel_rfl
  i233 := by kernel_rfl
  m15 := by kernel_rfl
  m16 := by kernel_rfl
  m17 := by kernel_rfl
  m18 := by kernel_rfl
  m19 := by kernel_rfl
  c0 := by kernel_rfl
  c2 := by kernel_rfl
  c3 := by kernel_rfl
  c4 := by kernel_rfl
  c5 := by kernel_rfl
  c9 := by kernel_rfl
  c20 := by kernel_rfl
  c21 := by kernel_rfl
  c37 := by kernel_rfl
  c46 := by kernel_rfl
  c51 := by kernel_rfl
  c53 := by kernel_rfl
  c75 := by kernel_rfl
  c76 := by kernel_rfl
  c80 := by kernel_rfl
  c85 := by kernel_rfl
  c127 := by kernel_rfl
  c143 := by kernel_rfl
  c145 := by kernel_rfl
  c167 := by kernel_rfl
  c168 := by kernel_rfl
  c171 := by kernel_rfl
  c173 := by kernel_rfl
  c175 := by kernel_rfl
  c210 := by kernel_rfl
  c212 := by kernel_rfl
  c213 := by kernel_rfl
  c232 := by kernel_rfl
  c233 := by kernel_rfl }
open Go.RowKit in
theorem sh_strconv_Atoi_ok (s : ByteArray) (hmax : s.size ≤ 9223372036854775806) (v : Int) (h : Lib.atoiAll s.data.toList = .ok v) (w : World) :
    Calls Tryd.prog 36 #[.string s] w fun e w' => e = .returned (.tuple #[.int .i64 v, .nilIface]) ∧ (w' = w ∨ ∃ t, w' = Lib.bytesWorld w 5 t) := Any.strconv_Atoi_ok sh_laysC172 s hmax v h w
open Go.RowKit in
theorem sh_strconv_Atoi_syntax_var (s : ByteArray) (hlim : s.size ≤ 281474976710656) (h : Lib.atoiAll s.data.toList = Lib.NumEnd.syntax) (tp : TypeId) (p : Value) (w : World) (hvar : w.var? Tryd.prog "strconv.ErrSyntax" = some #[.iface tp p]) :
    Calls Tryd.prog 36 #[.string s] w fun e w' => ∃ N, e = .returned (.tuple #[.int .i64 0, .iface 105 (.pointer (some ⟨N, 0, none⟩))]) ∧ w.heap.size ≤ N ∧ w'.heap[N]? = some (.cells #[.string ⟨#[65, 116, 111, 105]⟩, .string s, .iface tp p] 116 (0, 0)) ∧ Below w.heap.size w w' := Any.strconv_Atoi_syntax_var sh_laysC172 s hlim h tp p w hvar
open Go.RowKit in
theorem sh_strconv_Atoi_range_var (s : ByteArray) (hlim : s.size ≤ 281474976710656) (h : Lib.atoiAll s.data.toList = .range) (tp : TypeId) (p : Value) (w : World) (hvar : w.var? Tryd.prog "strconv.ErrRange" = some #[.iface tp p]) :
    Calls Tryd.prog 36 #[.string s] w fun e w' => ∃ N, e = .returned (.tuple #[.int .i64 (Lib.atoiSat s.data.toList), .iface 105 (.pointer (some ⟨N, 0, none⟩))]) ∧ w.heap.size ≤ N ∧ w'.heap[N]? = some (.cells #[.string ⟨#[65, 116, 111, 105]⟩, .string s, .iface tp p] 116 (0, 0)) ∧ Below w.heap.size w w' := Any.strconv_Atoi_range_var sh_laysC172 s hlim h tp p w hvar
def sh_lays152_ren : Go.Shelf.Ren := ⟨fun | 152 => 37 | 137 => 50 | 119 => 51 | 224 => 52 | 225 => 53 | 217 => 67 | 266 => 77 | n => n, fun | 9 => 9 | 21 => 21 | 3 => 3 | 4 => 4 | 5 => 5 | 0 => 0 | 46 => 61 | n => n, fun | n => n⟩
theorem sh_lays152 : Go.Proofs.Lays.n152 Tryd.prog sh_lays152_ren := {
  mixed := by kernel_rfl
  f119 := Tryd.func51.trans (congrArg some (by kernel_rfl))
  f137 := Tryd.func50.trans (congrArg some (by kernel_rfl))
  f152 := Tryd.func37.trans (congrArg some (by kernel_rfl))
  f217 := Tryd.func67.trans (congrArg some (by kernel_rfl))
  f224 := Tryd.func52.trans (congrArg some (by kernel_rfl))
  f225 := Tryd.func53.trans (congrArg some (by kernel_rfl))
  f266 := Tryd.func77.trans (congrArg some (by kernel_rfl))
  t0 := Tryd.underlying0
  a0 := Tryd.isAgg0
  z0 := Tryd.sizeOf0
  v0 := Tryd.zeroValue0
  t3 := Tryd.underlying3
  a3 := Tryd.isAgg3
  z3 := Tryd.sizeOf3
  v3 := Tryd.zeroValue3
  t4 := Tryd.underlying4
  a4 := Tryd.isAgg4
  z4 := Tryd.sizeOf4
  v4 := Tryd.zeroValue4
  t5 := Tryd.underlying5
  a5 := Tryd.isAgg5
  z5 := Tryd.sizeOf5
  v5 := Tryd.zeroValue5
  t9 := Tryd.underlying9
  a9 := Tryd.isAgg9
  z9 := Tryd.sizeOf9
  v9 := Tryd.zeroValue9
  t21 := Tryd.underlying21
  a21 := Tryd.isAgg21
  z21 := Tryd.sizeOf21
  v21 := Tryd.zeroValue21
  t46 := Tryd.underlying61
  a46 := Tryd.isAgg61
  z46 := Tryd.sizeOf61
  v46 := Tryd.zeroValue61 }
open Go.RowKit Go.Lib in
theorem sh_strings_IndexRune_ascii (s : ByteArray) (r : Int) (w : World) (h0 : 0 ≤ r) (h1 : r < 128) :
    Calls Tryd.prog 37 #[.string s, .int .i32 r] w fun e w' => e = .returned (.int .i64 (Lib.indexByte s.data.toList r.toNat.toUInt8)) ∧ w' = w := Any.strings_IndexRune_ascii sh_lays152 s r w h0 h1
def sh_lays137_ren : Go.Shelf.Ren := ⟨fun | 137 => 50 | 217 => 67 | 266 => 77 | n => n, fun | 9 => 9 | 5 => 5 | 3 => 3 | n => n, fun | n => n⟩
theorem sh_lays137 : Go.Proofs.Lays.n137 Tryd.prog sh_lays137_ren := {
  mixed := by kernel_rfl
  f137 := Tryd.func50.trans (congrArg some (by kernel_rfl))
  f217 := Tryd.func67.trans (congrArg some (by kernel_rfl))
  f266 := Tryd.func77.trans (congrArg some (by kernel_rfl))
  t3 := Tryd.underlying3
  a3 := Tryd.isAgg3
  z3 := Tryd.sizeOf3
  v3 := Tryd.zeroValue3
  t5 := Tryd.underlying5
  a5 := Tryd.isAgg5
  z5 := Tryd.sizeOf5
  v5 := Tryd.zeroValue5
  t9 := Tryd.underlying9
  a9 := Tryd.isAgg9
  z9 := Tryd.sizeOf9
  v9 := Tryd.zeroValue9 }
open Go.RowKit in
theorem sh_strings_IndexByte (s : ByteArray) (c : Int) (w : World) :
    Calls Tryd.prog 50 #[.string s, .int .u8 c] w fun e w' => e = .returned (.int .i64 (Lib.indexByte s.data.toList c.toNat.toUInt8)) ∧ w' = w := Any.strings_IndexByte sh_lays137 s c w

open Go.RowKit in
theorem sh_strings_TrimLeft (s cutset : ByteArray) (w : World) (hcs : cutset.size < 4294967281) (ha : ∀ (j : Nat) b, cutset.data.toList[j]? = some b → b.toNat < 128) :
    Calls Tryd.prog 35 #[.string s, .string cutset] w fun e w' => e = .returned (.string ⟨(Lib.trimLeftS s.data.toList cutset.data.toList).toArray⟩) ∧ Below w.heap.size w w' := Any.strings_TrimLeft_laid sh_lays161 (by kernel_rfl) s cutset w hcs ha
end Go.Proofs.YtfpgbdefopbfbaaDoor
end

section
namespace Go.Proofs.YtfpgbdefopbfbaaDoor
open Go.RowKit
set_option linter.unusedVariables false
set_option linter.unusedSimpArgs false

def goodC (ds : List Dat) : Bool := (List.range 6).all fun i => decide (0 ≤ argI ds i ∧ argI ds i ≤ 1000)
theorem goodC_t {ds : List Dat} : goodC ds = true ↔ ∀ i, i < 6 → 0 ≤ argI ds i ∧ argI ds i ≤ 1000 := by
  unfold goodC
  rw [List.all_eq_true]
  exact ⟨fun h i hi => of_decide_eq_true (h i (List.mem_range.2 hi)), fun h i hi => decide_eq_true (h i (List.mem_range.1 hi))⟩
theorem goodC_f {ds : List Dat} {i : Nat} (hi : i < 6) (h : ¬ (0 ≤ argI ds i ∧ argI ds i ≤ 1000)) : goodC ds = false := by
  cases e : goodC ds with
  | false => rfl
  | true => exact absurd (goodC_t.1 e i hi) h
theorem badC {x : Int} (h : (decide (x < 0) || decide (1000 < x)) = true) : ¬ (0 ≤ x ∧ x ≤ 1000) := by
  rw [Bool.or_eq_true, decide_eq_true_eq, decide_eq_true_eq] at h; omega
theorem okC4 {x : Int} (h : (decide (x < 0) || decide (1000 < x)) = false) : 0 ≤ x ∧ x ≤ 1000 := by
  rw [Bool.or_eq_false_iff, decide_eq_false_iff_not, decide_eq_false_iff_not] at h; omega
theorem sel6 (ds : List Dat) (hl : ds.length = 6) {i : Nat} (h : i < 6) : ([ds.getD 0 (Dat.bool false), ds.getD 1 (Dat.bool false), ds.getD 2 (Dat.bool false), ds.getD 3 (Dat.bool false), ds.getD 4 (Dat.bool false), ds.getD 5 (Dat.bool false)].getD i (Dat.int .i64 0)).toInt = argI ds i := by
  match ds, hl with
  | [_, _, _, _, _, _], _ =>
    match i, h with
    | 0, _ | 1, _ | 2, _ | 3, _ | 4, _ | 5, _ => rfl
def k_mGood : Nat := 13
def sg_mGood : Sig := ⟨[(true, List.replicate 6 (.int .i64))], [(false, [.bool])], false, false, true, false, false⟩
def tr_mGood : Tree := (.loop [(.int .i64 0), (.int .i64 0)] [(.int .i64), (.int .i64)]
 (.ite (.cmp .lt (.var 7) (.int .i64 6))
  (.ob (.cmp .ge (.var 7) (.int .i64 0))
  (.ite (.or (.cmp .lt (.sel (.econs (.var 0) (.econs (.var 1) (.econs (.var 2) (.econs (.var 3) (.econs (.var 4) (.econs (.var 5) .enil)))))) (.var 7) (.int .i64)) (.int .i64 0)) (.cmp .gt (.sel (.econs (.var 0) (.econs (.var 1) (.econs (.var 2) (.econs (.var 3) (.econs (.var 4) (.econs (.var 5) .enil)))))) (.var 7) (.int .i64)) (.int .i64 1000)))
   (.ret [(.not (.cmp .ge (.var 7) (.int .i64 0)))])
   (.again 0 [(.var 6), (.ar .add .i64 (.var 7) (.int .i64 1))])))
  (.ret [(.bool true)])))
theorem wk_mGood : walk E0.cx (sgsN []) 0 13 sg_mGood = tr_mGood := by kernel_rfl
theorem bo_mGood : ∃ x, bodyOf E0.P 13 = some x := bo_of (by kernel_rfl)
def mGood_s : Spec := fun ds Q => Q [.bool (goodC ds)]
theorem mGood_h : Holds E0 k_mGood sg_mGood mGood_s := con_fn wf0 mix0 g0 [] rfl wk_mGood rfl (by
  intro Φ hΦ ds Q hs h
  have hl : ds.length = 6 := hs.length.symm
  have h : Q [.bool (goodC ds)] := h
  clear hΦ
  simp only [tr_mGood, wp, den_int, den_bool, den_nili, den_ar, den_cmp, den_not, den_len, den_elem, den_isnil, den_errI, den_ifc, den_rep, den_push, den_app, den_emp, den_upd, row0_econs, row0_enil, den_and, den_beq, den_nil, toInt_int, toBool_bool, xs_rows, xs_list, dflt_int, dflt_bool, of_eq, of_ne, of_lt, of_le, of_gt, of_ge, of_add, of_sub, of_rem, List.map_cons, List.map_nil, Dat.bool.injEq, decide_eq_true_eq, decide_eq_false_iff_not, Bool.not_eq_true', Bool.not_eq_false', beq_iff_eq, bne_iff_ne, beq_eq_false_iff_ne, bne_eq_false_iff_eq, ne_eq, List.append_assoc, List.cons_append, List.nil_append, allS, @den_var0 E0.Δ ds, den_varA, den_varB, hl, Nat.reduceLT, Nat.reduceLeDiff, Nat.reduceSub, List.getD_cons_zero, List.getD_cons_succ, argL_fold ds, argI_fold ds, List.append_assoc, List.cons_append, List.nil_append, toInt_int, toBool_bool, xs_rows, xs_list, Int.toNat_natCast, Dat.bool.injEq, den_or, den_sel, row0_econs, row0_enil, den_elem, den_len, @den_var0 E0.Δ ds, den_varA, den_varB, hl, Nat.reduceLT, Nat.reduceLeDiff, Nat.reduceSub, List.getD_cons_zero, List.getD_cons_succ, argL_fold ds, argI_fold ds, List.append_assoc, List.cons_append, List.nil_append, toInt_int, toBool_bool, xs_rows, xs_list, Int.toNat_natCast, Dat.bool.injEq]
  refine ⟨fun xs m => ∃ (a : Int) (i : Nat), i ≤ 6 ∧ m = 6 - i ∧ xs = [.int .i64 a, .int .i64 i] ∧ ∀ k, k < i → 0 ≤ argI ds k ∧ argI ds k ≤ 1000, ⟨_, 0, 0, by omega, rfl, rfl, fun k hk => absurd hk (by omega)⟩, ?_⟩
  rintro a n m ⟨_, i, hi, hm, e, hall⟩
  cases e
  refine ⟨fun hlt => ?_, fun hge => ?_⟩
  · have hi6 : i < 6 := by omega
    rw [Int.toNat_natCast, sel6 ds hl hi6]
    refine ⟨by omega, fun hb => ?_, fun hb => ⟨_, (by omega : 6 - (i + 1) < _), a, i + 1, by omega, rfl, by rw [wrap64 (by omega) (by omega)]; rfl, fun k hk => ?_⟩⟩
    · rw [goodC_f hi6 (badC hb)] at h
      rw [show (decide ((0 : Int) ≤ (i : Int))) = true from decide_eq_true (by omega)]
      exact h
    · rcases Nat.lt_succ_iff_lt_or_eq.1 hk with hk | rfl
      · exact hall k hk
      · exact okC4 hb
  · rw [goodC_t.2 fun k hk => hall k (by omega)] at h
    exact h)
noncomputable def con_mGood : Con E0 := ⟨k_mGood, sg_mGood, mGood_s, rfl, bo_mGood, mGood_h⟩
def k_mTotal : Nat := 15
def sg_mTotal : Sig := ⟨[(true, List.replicate 6 (.int .i64))], [(false, [.int .i64])], false, true, true, false, false⟩
def tr_mTotal : Tree := (.ret [(.ar .add .i64 (.ar .add .i64 (.ar .add .i64 (.ar .add .i64 (.ar .add .i64 (.ar .add .i64 (.int .i64 0) (.var 0)) (.var 1)) (.var 2)) (.var 3)) (.var 4)) (.var 5))])
theorem wk_mTotal : walk E0.cx (sgsN []) 0 15 sg_mTotal = tr_mTotal := by kernel_rfl
theorem bo_mTotal : ∃ x, bodyOf E0.P 15 = some x := bo_of (by kernel_rfl)
def totC (ds : List Dat) : Int := IntKind.i64.wrap (IntKind.i64.wrap (IntKind.i64.wrap (IntKind.i64.wrap (IntKind.i64.wrap (IntKind.i64.wrap (0 + argI ds 0) + argI ds 1) + argI ds 2) + argI ds 3) + argI ds 4) + argI ds 5)
theorem totC_good {ds : List Dat} (h : goodC ds = true) : totC ds = argI ds 0 + argI ds 1 + argI ds 2 + argI ds 3 + argI ds 4 + argI ds 5 := by
  have h := goodC_t.1 h
  have h0 := h 0 (by omega)
  have h1 := h 1 (by omega)
  have h2 := h 2 (by omega)
  have h3 := h 3 (by omega)
  have h4 := h 4 (by omega)
  have h5 := h 5 (by omega)
  unfold totC
  rw [wrap64 (x := 0 + argI ds 0) (by omega) (by omega), wrap64 (x := 0 + argI ds 0 + argI ds 1) (by omega) (by omega), wrap64 (x := 0 + argI ds 0 + argI ds 1 + argI ds 2) (by omega) (by omega), wrap64 (x := 0 + argI ds 0 + argI ds 1 + argI ds 2 + argI ds 3) (by omega) (by omega), wrap64 (x := 0 + argI ds 0 + argI ds 1 + argI ds 2 + argI ds 3 + argI ds 4) (by omega) (by omega), wrap64 (by omega) (by omega)]
  omega
def mTotal_s : Spec := fun ds Q => Q [.int .i64 (totC ds)]
theorem mTotal_h : Holds E0 k_mTotal sg_mTotal mTotal_s := con_fn wf0 mix0 g0 [] rfl wk_mTotal rfl (by
  intro Φ hΦ ds Q hs h
  have hl : ds.length = 6 := hs.length.symm
  clear hΦ
  simp only [tr_mTotal, wp, den_int, den_bool, den_nili, den_ar, den_cmp, den_not, den_len, den_elem, den_isnil, den_errI, den_ifc, den_rep, den_push, den_app, den_emp, den_upd, row0_econs, row0_enil, den_and, den_beq, den_nil, toInt_int, toBool_bool, xs_rows, xs_list, dflt_int, dflt_bool, of_eq, of_ne, of_lt, of_le, of_gt, of_ge, of_add, of_sub, of_rem, List.map_cons, List.map_nil, Dat.bool.injEq, decide_eq_true_eq, decide_eq_false_iff_not, Bool.not_eq_true', Bool.not_eq_false', beq_iff_eq, bne_iff_ne, beq_eq_false_iff_ne, bne_eq_false_iff_eq, ne_eq, List.append_assoc, List.cons_append, List.nil_append, allS, @den_var0 E0.Δ ds, den_varA, den_varB, hl, Nat.reduceLT, Nat.reduceLeDiff, Nat.reduceSub, List.getD_cons_zero, List.getD_cons_succ, argL_fold ds, argI_fold ds, List.append_assoc, List.cons_append, List.nil_append, toInt_int, toBool_bool, xs_rows, xs_list, Int.toNat_natCast, Dat.bool.injEq, den_or, den_sel, row0_econs, row0_enil, den_elem, den_len, @den_var0 E0.Δ ds, den_varA, den_varB, hl, Nat.reduceLT, Nat.reduceLeDiff, Nat.reduceSub, List.getD_cons_zero, List.getD_cons_succ, argL_fold ds, argI_fold ds, List.append_assoc, List.cons_append, List.nil_append, toInt_int, toBool_bool, xs_rows, xs_list, Int.toNat_natCast, Dat.bool.injEq]
  exact h)
noncomputable def con_mTotal : Con E0 := ⟨k_mTotal, sg_mTotal, mTotal_s, rfl, bo_mTotal, mTotal_h⟩
def k_rGood04 : Nat := 14
def sg_rGood04 : Sig := ⟨[(true, List.replicate 6 (.int .i64))], [(false, [.bool])], false, true, true, false, false⟩
def tr_rGood04 : Tree := (.ite (.or (.cmp .lt (.var 0) (.int .i64 0)) (.cmp .gt (.var 0) (.int .i64 1000)))
 (.ret [(.bool false)])
 (.ite (.or (.cmp .lt (.var 1) (.int .i64 0)) (.cmp .gt (.var 1) (.int .i64 1000)))
  (.ret [(.bool false)])
  (.ite (.or (.cmp .lt (.var 2) (.int .i64 0)) (.cmp .gt (.var 2) (.int .i64 1000)))
   (.ret [(.bool false)])
   (.ite (.or (.cmp .lt (.var 3) (.int .i64 0)) (.cmp .gt (.var 3) (.int .i64 1000)))
    (.ret [(.bool false)])
    (.ite (.or (.cmp .lt (.var 4) (.int .i64 0)) (.cmp .gt (.var 4) (.int .i64 1000)))
     (.ret [(.bool false)])
     (.ite (.or (.cmp .lt (.var 5) (.int .i64 0)) (.cmp .gt (.var 5) (.int .i64 1000)))
      (.ret [(.bool false)])
      (.ret [(.bool true)])))))))
theorem wk_rGood04 : walk E0.cx (sgsN []) 0 14 sg_rGood04 = tr_rGood04 := by kernel_rfl
theorem bo_rGood04 : ∃ x, bodyOf E0.P 14 = some x := bo_of (by kernel_rfl)
def rGood04_s : Spec := fun ds Q => Q [.bool (goodC ds)]
theorem rGood04_h : Holds E0 k_rGood04 sg_rGood04 rGood04_s := con_fn wf0 mix0 g0 [] rfl wk_rGood04 rfl (by
  intro Φ hΦ ds Q hs h
  have hl : ds.length = 6 := hs.length.symm
  have h : Q [.bool (goodC ds)] := h
  clear hΦ
  simp only [tr_rGood04, wp, den_int, den_bool, den_nili, den_ar, den_cmp, den_not, den_len, den_elem, den_isnil, den_errI, den_ifc, den_rep, den_push, den_app, den_emp, den_upd, row0_econs, row0_enil, den_and, den_beq, den_nil, toInt_int, toBool_bool, xs_rows, xs_list, dflt_int, dflt_bool, of_eq, of_ne, of_lt, of_le, of_gt, of_ge, of_add, of_sub, of_rem, List.map_cons, List.map_nil, Dat.bool.injEq, decide_eq_true_eq, decide_eq_false_iff_not, Bool.not_eq_true', Bool.not_eq_false', beq_iff_eq, bne_iff_ne, beq_eq_false_iff_ne, bne_eq_false_iff_eq, ne_eq, List.append_assoc, List.cons_append, List.nil_append, allS, @den_var0 E0.Δ ds, den_varA, den_varB, hl, Nat.reduceLT, Nat.reduceLeDiff, Nat.reduceSub, List.getD_cons_zero, List.getD_cons_succ, argL_fold ds, argI_fold ds, List.append_assoc, List.cons_append, List.nil_append, toInt_int, toBool_bool, xs_rows, xs_list, Int.toNat_natCast, Dat.bool.injEq, den_or, den_sel, row0_econs, row0_enil, den_elem, den_len, @den_var0 E0.Δ ds, den_varA, den_varB, hl, Nat.reduceLT, Nat.reduceLeDiff, Nat.reduceSub, List.getD_cons_zero, List.getD_cons_succ, argL_fold ds, argI_fold ds, List.append_assoc, List.cons_append, List.nil_append, toInt_int, toBool_bool, xs_rows, xs_list, Int.toNat_natCast, Dat.bool.injEq]
  refine ⟨fun hb => ?_, fun b0 => ⟨fun hb => ?_, fun b1 => ⟨fun hb => ?_, fun b2 => ⟨fun hb => ?_, fun b3 => ⟨fun hb => ?_, fun b4 => ⟨fun hb => ?_, fun b5 => ?_⟩⟩⟩⟩⟩⟩
  · rw [goodC_f (i := 0) (by omega) (badC hb)] at h; exact h
  · rw [goodC_f (i := 1) (by omega) (badC hb)] at h; exact h
  · rw [goodC_f (i := 2) (by omega) (badC hb)] at h; exact h
  · rw [goodC_f (i := 3) (by omega) (badC hb)] at h; exact h
  · rw [goodC_f (i := 4) (by omega) (badC hb)] at h; exact h
  · rw [goodC_f (i := 5) (by omega) (badC hb)] at h; exact h
  · rw [goodC_t.2 fun k hk => ?_] at h
    · exact h
    · match k, hk with
      | 0, _ => exact okC4 b0
      | 1, _ => exact okC4 b1
      | 2, _ => exact okC4 b2
      | 3, _ => exact okC4 b3
      | 4, _ => exact okC4 b4
      | 5, _ => exact okC4 b5)
noncomputable def con_rGood04 : Con E0 := ⟨k_rGood04, sg_rGood04, rGood04_s, rfl, bo_rGood04, rGood04_h⟩
end Go.Proofs.YtfpgbdefopbfbaaDoor
end

section
namespace Go.Proofs.YtfpgbdefopbfbaaDoor
open Go.RowKit
set_option linter.unusedVariables false
set_option linter.unusedSimpArgs false

def costV (a0 a1 a2 a3 a4 a5 : Int) : Value := .agg #[.int .i64 a0, .int .i64 a1, .int .i64 a2, .int .i64 a3, .int .i64 a4, .int .i64 a5]
def costD (a0 a1 a2 a3 a4 a5 : Int) : List Dat := [.int .i64 a0, .int .i64 a1, .int .i64 a2, .int .i64 a3, .int .i64 a4, .int .i64 a5]
theorem cost_has (a0 a1 a2 a3 a4 a5 : Int) : All2 (Has E0.Δ) [.int .i64, .int .i64, .int .i64, .int .i64, .int .i64, .int .i64] (costD a0 a1 a2 a3 a4 a5) :=
  .cons (.int _ _) (.cons (.int _ _) (.cons (.int _ _) (.cons (.int _ _) (.cons (.int _ _) (.cons (.int _ _) .nil)))))
theorem cost_ok (a0 a1 a2 a3 a4 a5 : Int) (w : World) : OkL w (costD a0 a1 a2 a3 a4 a5) := fun d hd => by
  simp only [costD, List.mem_cons, List.not_mem_nil, or_false] at hd
  rcases hd with rfl | rfl | rfl | rfl | rfl | rfl <;> exact .int _ _
theorem good_w {w : World} (hG : E0.globs w) (a0 a1 a2 a3 a4 a5 : Int) {b : Bool} (hb : goodC (costD a0 a1 a2 a3 a4 a5) = b) :
    Calls Tryd.prog 13 #[costV a0 a1 a2 a3 a4 a5] w fun e w' => e = .returned (.bool b) ∧ Below w.heap.size w w' := by
  refine (mGood_h w (costD a0 a1 a2 a3 a4 a5) (fun rs => rs = [.bool b]) (cost_has ..) (cost_ok _ _ _ _ _ _ _) (fun d hd => absurd hd (by simp [E0])) hG (by show [Dat.bool (goodC (costD a0 a1 a2 a3 a4 a5))] = _; rw [hb])).mono fun e W' ⟨rs, hrs, _, hbw, _, _, he⟩ => ?_
  subst hrs
  exact ⟨he, hbw⟩
theorem total_w {w : World} (hG : E0.globs w) (a0 a1 a2 a3 a4 a5 : Int) {t : Int} (ht : totC (costD a0 a1 a2 a3 a4 a5) = t) :
    Calls Tryd.prog 15 #[costV a0 a1 a2 a3 a4 a5] w fun e w' => e = .returned (.int .i64 t) ∧ Below w.heap.size w w' := by
  refine (mTotal_h w (costD a0 a1 a2 a3 a4 a5) (fun rs => rs = [.int .i64 t]) (cost_has ..) (cost_ok _ _ _ _ _ _ _) (fun d hd => absurd hd (by simp [E0])) hG (by show [Dat.int .i64 (totC (costD a0 a1 a2 a3 a4 a5))] = _; rw [ht])).mono fun e W' ⟨rs, hrs, _, hbw, _, _, he⟩ => ?_
  subst hrs
  exact ⟨he, hbw⟩
theorem globs_below {w w' : World} {B : Nat} (hG : E0.globs w) (hB : w.heap.size ≤ B) (hb : Below B w w') : E0.globs w' := hG.block fun k hk _ => hb.block k (Nat.lt_of_lt_of_le hk hB)
theorem pow_tab {w : World} (hG : E0.globs w) : Lib.TabIs Tryd.prog w "internal/strconv.uint64pow10" .u64 Lib.pow10Tab := by
  have hm : gts.getD 0 (0, [], 0) ∈ E0.gt := List.mem_cons_self
  obtain ⟨T, h⟩ := hG.tab _ hm
  have h : w.heap[1]? = some (.cells (Lib.pow10Tab.map fun z => Value.int .u64 z).toArray T (0, 0)) := h
  unfold Lib.TabIs World.var?
  have hn : Tryd.prog.globalNamed "internal/strconv.uint64pow10" = some 1 := by kernel_rfl
  rw [hn, Option.bind_some, h]
end Go.Proofs.YtfpgbdefopbfbaaDoor
end

section
namespace Go.Proofs.YtfpgbdefopbfbaaDoor
open Go.RowKit
set_option linter.unusedVariables false
set_option linter.unusedSimpArgs false
set_option maxRecDepth 1000000
set_option maxHeartbeats 4000000

def letB : ByteArray := ⟨#[87, 85, 66, 82, 71]⟩
theorem valid_w (r : Nat) (w : World) : Calls Tryd.prog 51 #[.int .i32 r] w fun e w' => (∃ b : Bool, e = .returned (.bool b)) ∧ w' = w := by
  go_enter Tryd.func51, Tryd.ntmps51
  go_wp2
  all_goals go_ret
  all_goals refine ⟨?_, rfl⟩
  all_goals first | exact ⟨_, rfl⟩ | exact .inl rfl | exact .inr rfl
theorem idx_err (w : World) : Calls Tryd.prog 37 #[.string letB, .int .i32 65533] w fun e w' => e = .returned (.int .i64 (-1)) ∧ Below w.heap.size w w' := by
  go_enter Tryd.func37, Tryd.ntmps37
  go_wp2
  go_loopg [5, 6] 5 (fun g _ _ wx => ∃ i : Nat, i + g = 5 ∧ wx = w.iter letB i)
  case atStart => exact ⟨0, rfl, rfl⟩
  case round =>
    obtain ⟨i, hig, rfl⟩ := hrel
    have hsz : letB.size = 5 := rfl
    cases gk with
    | zero =>
      obtain rfl : i = 5 := by omega
      have hnx := fun ty => run_next_end (P := Tryd.prog) w letB 5 ty (by decide)
      go_wp2
      go_ret
      exact ⟨rfl, (Below.refl _ _).alloc (Nat.le_refl _) _⟩
    | succ g =>
      have hi : i < 5 := by omega
      obtain ⟨x, hx, hlt⟩ : ∃ x : UInt8, letB[i]'(by rw [hsz]; exact hi) = x ∧ x.toNat < 128 := by
        match i, hi with
        | 0, _ => exact ⟨87, rfl, by decide⟩
        | 1, _ => exact ⟨85, rfl, by decide⟩
        | 2, _ => exact ⟨66, rfl, by decide⟩
        | 3, _ => exact ⟨82, rfl, by decide⟩
        | 4, _ => exact ⟨71, rfl, by decide⟩
      have hnx := fun ty => run_next_ascii (P := Tryd.prog) w letB i ty (by rw [hsz]; exact hi) (by rw [hx]; exact hlt)
      rw [hx] at hnx
      have hne : ((x.toNat : Int) == 65533) = false := beq_eq_false_iff_ne.2 (by omega)
      go_wp2
      go_roundg g
      case measure => omega
      case rel => exact ⟨i + 1, by omega, rfl⟩
theorem ib_hi (b : UInt8) : ∀ (l : List UInt8), 128 ≤ b.toNat → (∀ c ∈ l, c.toNat < 128) → Lib.indexByte l ((b.toNat : Int).toNat.toUInt8) = -1
  | [], _, _ => rfl
  | c :: l, hb, hl => by
    have ih := ib_hi b l hb (fun x hx => hl x (by simp [hx]))
    have e : ((b.toNat : Int).toNat.toUInt8) = b := by simp
    rw [e] at ih ⊢
    unfold Lib.indexByte
    rw [if_neg (by
      intro h
      have := hl c (by simp)
      rw [beq_iff_eq.1 h] at this; omega), if_pos (by rw [ih]; rfl)]
theorem enc_hi (r : Nat) (hr : 128 ≤ r) : ∃ x y z b : UInt8, 128 ≤ b.toNat ∧ (Utf8.encode r = ⟨#[x, b]⟩ ∨ Utf8.encode r = ⟨#[x, y, b]⟩ ∨ Utf8.encode r = ⟨#[x, y, z, b]⟩) := by
  unfold Utf8.encode
  simp only [Int.toNat_natCast]
  have hge : 128 ≤ (if Utf8.valid (r : Int) then r else Utf8.runeError) := by split <;> first | exact hr | decide
  generalize (if Utf8.valid (r : Int) then r else Utf8.runeError) = c at *
  have key : ∀ n, 128 ≤ (UInt8.ofNat (128 + n % 64)).toNat := fun n => by
    have : n % 64 < 64 := Nat.mod_lt _ (by decide)
    simp only [UInt8.toNat_ofNat']; omega
  rw [if_neg (by omega)]
  split
  · exact ⟨_, 0, 0, _, key c, .inl rfl⟩
  · split
    · exact ⟨_, _, 0, _, key c, .inr (.inl rfl)⟩
    · exact ⟨_, _, _, _, key c, .inr (.inr rfl)⟩
end Go.Proofs.YtfpgbdefopbfbaaDoor
end

section
namespace Go.Proofs.YtfpgbdefopbfbaaDoor
open Go.RowKit
set_option linter.unusedVariables false
set_option linter.unusedSimpArgs false
set_option maxRecDepth 1000000
set_option maxHeartbeats 4000000

theorem idx_2 (r : Nat) (hr : 128 ≤ r) (hm : r ≤ 2147483647) (hne : r ≠ 65533) (x b : UInt8) (hb : 128 ≤ b.toNat) (he : Utf8.encode r = ⟨#[x, b]⟩) (w : World) : Calls Tryd.prog 37 #[.string letB, .int .i32 r] w fun e w' => e = .returned (.int .i64 (-1)) ∧ Below w.heap.size w w' := by
  have h1 : ((0 : Int) ≤ (r : Int)) := by omega
  have h2 : ¬ ((r : Int) < 128) := by omega
  have h3 : ((r : Int) == 65533) = false := beq_eq_false_iff_ne.2 (by omega)
  go_enter Tryd.func37, Tryd.ntmps37
  go_wp2_with (go_at_call 51; refine (valid_w r _).mono ?_; rintro e w' ⟨⟨v, rfl⟩, rfl⟩)
  · go_ret
    exact ⟨rfl, Below.refl _ _⟩
  go_step3
  go_wp2
  go_loopg [9, 10, 11, 12] 0 (fun g i _ _ _ wx => i = .int .i64 1 ∧ wx = w')
  case atStart => exact ⟨rfl, rfl⟩
  case round =>
    obtain ⟨rfl, rfl⟩ := hrel
    have hneq : (((letB[1]'(by decide)).toNat : Int) != (((ByteArray.mk #[x, b])[1]'(by show 1 < 2; decide)).toNat : Int)) = true := by
      show ((85 : Int) != (b.toNat : Int)) = true
      exact bne_iff_ne.2 (by omega)
    have hib : Lib.indexByte (letB.extract 2 letB.size).data.toList ((((ByteArray.mk #[x, b])[1]'(by show 1 < 2; decide)).toNat : Int).toNat.toUInt8) = -1 := by
      show Lib.indexByte [66, 82, 71] ((b.toNat : Int).toNat.toUInt8) = -1
      exact ib_hi b _ hb (by decide)
    have HB := Lib.hid hib
    clear hib
    go_wp2
    go_step3
    go_wp2
    refine wp_region_E [(true, 0), (true, 1), (true, 2), (true, 3), (true, 4), (true, 5), (true, 6)] (by kernel_rfl) (by kernel_rfl) (by kernel_rfl) (by kernel_rfl) ?_
    repeat (refine wpE_quiet rfl ?_; go_big_quiet_step (fail); refine wpQuiet_nil ?_)
    refine wpE_nil ?_
    go_wp2
    refine wp_region_E [(true, 0), (true, 1), (true, 2), (true, 3), (true, 4), (true, 5), (true, 6), (false, 7), (true, 8)] (by kernel_rfl) (by kernel_rfl) (by kernel_rfl) (by kernel_rfl) ?_
    repeat (refine wpE_quiet rfl ?_; go_big_quiet_step (fail); refine wpQuiet_nil ?_)
    refine wpE_event rfl rfl (fun K hK => ?_)
    go_step
    refine (sh_strings_IndexByte _ _ _).mono ?_
    rintro e w4 ⟨rfl, rfl⟩
    rw [HB.out]
    refine hK _ _ (Lat.of (Below.refl _ _)) ?_
    clear hK K
    repeat (refine wpE_quiet rfl ?_; go_big_quiet_step (fail); refine wpQuiet_nil ?_)
    refine wpE_nil ?_
    go_wp2
    refine show Exit.inBlock 2 _ Exit.ret _ _ from ?_
    simp only [Exit.inBlock, Exit.then, Exit.noGoto]
    go_ret
    exact ⟨rfl, (Below.refl _ _).drew.drew⟩
end Go.Proofs.YtfpgbdefopbfbaaDoor
end

section
namespace Go.Proofs.YtfpgbdefopbfbaaDoor
open Go.RowKit
set_option linter.unusedVariables false
set_option linter.unusedSimpArgs false
set_option maxRecDepth 1000000
set_option maxHeartbeats 4000000

theorem idx_3 (r : Nat) (hr : 128 ≤ r) (hm : r ≤ 2147483647) (hne : r ≠ 65533) (x y b : UInt8) (hb : 128 ≤ b.toNat) (he : Utf8.encode r = ⟨#[x, y, b]⟩) (w : World) : Calls Tryd.prog 37 #[.string letB, .int .i32 r] w fun e w' => e = .returned (.int .i64 (-1)) ∧ Below w.heap.size w w' := by
  have h1 : ((0 : Int) ≤ (r : Int)) := by omega
  have h2 : ¬ ((r : Int) < 128) := by omega
  have h3 : ((r : Int) == 65533) = false := beq_eq_false_iff_ne.2 (by omega)
  go_enter Tryd.func37, Tryd.ntmps37
  go_wp2_with (go_at_call 51; refine (valid_w r _).mono ?_; rintro e w' ⟨⟨v, rfl⟩, rfl⟩)
  · go_ret
    exact ⟨rfl, Below.refl _ _⟩
  go_step3
  go_wp2
  go_loopg [9, 10, 11, 12] 0 (fun g i _ _ _ wx => i = .int .i64 2 ∧ wx = w')
  case atStart => exact ⟨rfl, rfl⟩
  case round =>
    obtain ⟨rfl, rfl⟩ := hrel
    have hneq : (((letB[2]'(by decide)).toNat : Int) != (((ByteArray.mk #[x, y, b])[2]'(by show 2 < 3; decide)).toNat : Int)) = true := by
      show ((66 : Int) != (b.toNat : Int)) = true
      exact bne_iff_ne.2 (by omega)
    have hib : Lib.indexByte (letB.extract 3 letB.size).data.toList ((((ByteArray.mk #[x, y, b])[2]'(by show 2 < 3; decide)).toNat : Int).toNat.toUInt8) = -1 := by
      show Lib.indexByte [82, 71] ((b.toNat : Int).toNat.toUInt8) = -1
      exact ib_hi b _ hb (by decide)
    have HB := Lib.hid hib
    clear hib
    go_wp2
    go_step3
    go_wp2
    refine wp_region_E [(true, 0), (true, 1), (true, 2), (true, 3), (true, 4), (true, 5), (true, 6)] (by kernel_rfl) (by kernel_rfl) (by kernel_rfl) (by kernel_rfl) ?_
    repeat (refine wpE_quiet rfl ?_; go_big_quiet_step (fail); refine wpQuiet_nil ?_)
    refine wpE_nil ?_
    go_wp2
    refine wp_region_E [(true, 0), (true, 1), (true, 2), (true, 3), (true, 4), (true, 5), (true, 6), (false, 7), (true, 8)] (by kernel_rfl) (by kernel_rfl) (by kernel_rfl) (by kernel_rfl) ?_
    repeat (refine wpE_quiet rfl ?_; go_big_quiet_step (fail); refine wpQuiet_nil ?_)
    refine wpE_event rfl rfl (fun K hK => ?_)
    go_step
    refine (sh_strings_IndexByte _ _ _).mono ?_
    rintro e w4 ⟨rfl, rfl⟩
    rw [HB.out]
    refine hK _ _ (Lat.of (Below.refl _ _)) ?_
    clear hK K
    repeat (refine wpE_quiet rfl ?_; go_big_quiet_step (fail); refine wpQuiet_nil ?_)
    refine wpE_nil ?_
    go_wp2
    refine show Exit.inBlock 2 _ Exit.ret _ _ from ?_
    simp only [Exit.inBlock, Exit.then, Exit.noGoto]
    go_ret
    exact ⟨rfl, (Below.refl _ _).drew.drew⟩
end Go.Proofs.YtfpgbdefopbfbaaDoor
end

section
namespace Go.Proofs.YtfpgbdefopbfbaaDoor
open Go.RowKit
set_option linter.unusedVariables false
set_option linter.unusedSimpArgs false
set_option maxRecDepth 1000000
set_option maxHeartbeats 4000000

theorem idx_4 (r : Nat) (hr : 128 ≤ r) (hm : r ≤ 2147483647) (hne : r ≠ 65533) (x y z b : UInt8) (hb : 128 ≤ b.toNat) (he : Utf8.encode r = ⟨#[x, y, z, b]⟩) (w : World) : Calls Tryd.prog 37 #[.string letB, .int .i32 r] w fun e w' => e = .returned (.int .i64 (-1)) ∧ Below w.heap.size w w' := by
  have h1 : ((0 : Int) ≤ (r : Int)) := by omega
  have h2 : ¬ ((r : Int) < 128) := by omega
  have h3 : ((r : Int) == 65533) = false := beq_eq_false_iff_ne.2 (by omega)
  go_enter Tryd.func37, Tryd.ntmps37
  go_wp2_with (go_at_call 51; refine (valid_w r _).mono ?_; rintro e w' ⟨⟨v, rfl⟩, rfl⟩)
  · go_ret
    exact ⟨rfl, Below.refl _ _⟩
  go_step3
  go_wp2
  go_loopg [9, 10, 11, 12] 0 (fun g i _ _ _ wx => i = .int .i64 3 ∧ wx = w')
  case atStart => exact ⟨rfl, rfl⟩
  case round =>
    obtain ⟨rfl, rfl⟩ := hrel
    have hneq : (((letB[3]'(by decide)).toNat : Int) != (((ByteArray.mk #[x, y, z, b])[3]'(by show 3 < 4; decide)).toNat : Int)) = true := by
      show ((82 : Int) != (b.toNat : Int)) = true
      exact bne_iff_ne.2 (by omega)
    have hib : Lib.indexByte (letB.extract 4 letB.size).data.toList ((((ByteArray.mk #[x, y, z, b])[3]'(by show 3 < 4; decide)).toNat : Int).toNat.toUInt8) = -1 := by
      show Lib.indexByte [71] ((b.toNat : Int).toNat.toUInt8) = -1
      exact ib_hi b _ hb (by decide)
    have HB := Lib.hid hib
    clear hib
    go_wp2
    go_step3
    go_wp2
    refine wp_region_E [(true, 0), (true, 1), (true, 2), (true, 3), (true, 4), (true, 5), (true, 6)] (by kernel_rfl) (by kernel_rfl) (by kernel_rfl) (by kernel_rfl) ?_
    repeat (refine wpE_quiet rfl ?_; go_big_quiet_step (fail); refine wpQuiet_nil ?_)
    refine wpE_nil ?_
    go_wp2
    refine wp_region_E [(true, 0), (true, 1), (true, 2), (true, 3), (true, 4), (true, 5), (true, 6), (false, 7), (true, 8)] (by kernel_rfl) (by kernel_rfl) (by kernel_rfl) (by kernel_rfl) ?_
    repeat (refine wpE_quiet rfl ?_; go_big_quiet_step (fail); refine wpQuiet_nil ?_)
    refine wpE_event rfl rfl (fun K hK => ?_)
    go_step
    refine (sh_strings_IndexByte _ _ _).mono ?_
    rintro e w4 ⟨rfl, rfl⟩
    rw [HB.out]
    refine hK _ _ (Lat.of (Below.refl _ _)) ?_
    clear hK K
    repeat (refine wpE_quiet rfl ?_; go_big_quiet_step (fail); refine wpQuiet_nil ?_)
    refine wpE_nil ?_
    go_wp2
    refine show Exit.inBlock 2 _ Exit.ret _ _ from ?_
    simp only [Exit.inBlock, Exit.then, Exit.noGoto]
    go_ret
    exact ⟨rfl, (Below.refl _ _).drew.drew⟩
end Go.Proofs.YtfpgbdefopbfbaaDoor
end

section
namespace Go.Proofs.YtfpgbdefopbfbaaDoor
open Go.RowKit
set_option linter.unusedVariables false
set_option linter.unusedSimpArgs false

def letL : List UInt8 := [87, 85, 66, 82, 71]
def digL : List UInt8 := [48, 49, 50, 51, 52, 53, 54, 55, 56, 57]
def figL (l : List UInt8) : List UInt8 := l.takeWhile (digL.contains ·)
def rstL (l : List UInt8) : List UInt8 := l.dropWhile (digL.contains ·)
theorem fig_rst (l : List UInt8) : figL l ++ rstL l = l := List.takeWhile_append_dropWhile
theorem fig_len (l : List UInt8) : (figL l).length + (rstL l).length = l.length := by
  have := congrArg List.length (fig_rst l)
  rwa [List.length_append] at this
theorem fig_take (l : List UInt8) : l.take (figL l).length = figL l := by
  have h : (figL l ++ rstL l).take (figL l).length = figL l := List.take_left
  rwa [fig_rst] at h
theorem fig_drop (l : List UInt8) : l.drop (figL l).length = rstL l := by
  have h : (figL l ++ rstL l).drop (figL l).length = rstL l := List.drop_left
  rwa [fig_rst] at h
/-- the number of figures; 0 where there is none -/
def numF (l : List UInt8) : Int := match Lib.atoiAll l with
  | .ok v => v
  | _ => 0
/-- how the letters of the first places were counted -/
def Cnt (l : List UInt8) (pos : Nat) (cs : List Int) : Prop :=
  cs.length = 5 ∧ (∀ i, i < 5 → 0 ≤ cs.getD i 0 ∧ cs.getD i 0 ≤ pos ∧ cs.getD i 0 ≤ l.length) ∧ ((∀ b ∈ l.take pos, b.toNat < 128) → pos ≤ l.length ∧ ∀ i, i < 5 → cs.getD i 0 = (l.take pos).count (letL.getD i 0))
theorem Cnt.zero (l : List UInt8) : Cnt l 0 [0, 0, 0, 0, 0] := by
  refine ⟨rfl, fun i hi => ?_, fun _ => ⟨Nat.zero_le _, fun i hi => ?_⟩⟩
  · match i, hi with
    | 0, _ | 1, _ | 2, _ | 3, _ | 4, _ => exact ⟨Int.le_refl _, Int.le_refl _, Int.natCast_nonneg _⟩
  · match i, hi with
    | 0, _ | 1, _ | 2, _ | 3, _ | 4, _ => rfl
theorem takeB_snoc {l : List UInt8} {pos : Nat} {x : UInt8} (h : l[pos]? = some x) : l.take (pos + 1) = l.take pos ++ [x] := by
  rw [List.take_add_one, h]; rfl
/-- a sign that is none of the letters -/
theorem Cnt.pass {l : List UInt8} {pos : Nat} {cs : List Int} (h : Cnt l pos cs) {x : UInt8} (hx : l[pos]? = some x) (hn : ¬ x ∈ letL) (w : Nat) (hw : 1 ≤ w) (ha : x.toNat < 128 → w = 1) : Cnt l (pos + w) cs := by
  obtain ⟨h1, h2, h3⟩ := h
  have hlt := (List.getElem?_eq_some_iff.1 hx).1
  refine ⟨h1, fun i hi => ⟨(h2 i hi).1, by have := (h2 i hi).2.1; omega, (h2 i hi).2.2⟩, fun hall => ?_⟩
  have hx128 : x.toNat < 128 := hall x (by
    have : x ∈ l.take (pos + 1) := by rw [takeB_snoc hx]; simp
    exact List.mem_of_mem_take (i := pos + 1) (by rw [List.take_take, Nat.min_eq_left (by omega)]; exact this))
  obtain rfl := ha hx128
  obtain ⟨h4, h5⟩ := h3 fun b hb => hall b (by rw [takeB_snoc hx]; exact List.mem_append_left _ hb)
  refine ⟨hlt, fun i hi => ?_⟩
  rw [h5 i hi, takeB_snoc hx, List.count_append]
  have : List.count (letL.getD i 0) [x] = 0 := by
    rw [List.count_eq_zero]
    intro hm
    rw [List.mem_singleton] at hm
    apply hn
    rw [← hm]
    match i, hi with
    | 0, _ | 1, _ | 2, _ | 3, _ | 4, _ => decide
  rw [this]; rfl
theorem Cnt.hit {l : List UInt8} {pos : Nat} {cs : List Int} (h : Cnt l pos cs) {k : Nat} (hk : k < 5) (hx : l[pos]? = some (letL.getD k 0)) : Cnt l (pos + 1) (cs.set k (cs.getD k 0 + 1)) := by
  obtain ⟨h1, h2, h3⟩ := h
  have hlt := (List.getElem?_eq_some_iff.1 hx).1
  have hget : ∀ i, i < 5 → (cs.set k (cs.getD k 0 + 1)).getD i 0 = if k = i then cs.getD k 0 + 1 else cs.getD i 0 := fun i hi => by
    rw [List.getD_eq_getElem?_getD, List.getElem?_set, List.getD_eq_getElem?_getD, List.getD_eq_getElem?_getD]
    split
    · rename_i e; subst e
      rw [if_pos (by omega)]; rfl
    · rfl
  refine ⟨by simp [h1], fun i hi => ?_, fun hall => ?_⟩
  · rw [hget i hi]
    have hki := h2 k hk
    have hii := h2 i hi
    split <;> omega
  · obtain ⟨h4, h5⟩ := h3 fun b hb => hall b (by rw [takeB_snoc hx]; exact List.mem_append_left _ hb)
    refine ⟨hlt, fun i hi => ?_⟩
    rw [hget i hi, takeB_snoc hx, List.count_append]
    have hc : List.count (letL.getD i 0) [letL.getD k 0] = if k = i then 1 else 0 := by
      match k, hk with
      | 0, _ | 1, _ | 2, _ | 3, _ | 4, _ =>
        match i, hi with
        | 0, _ | 1, _ | 2, _ | 3, _ | 4, _ => decide
    rw [hc]
    split
    · rename_i e; subst e; rw [h5 _ hk]; omega
    · rw [h5 i hi]; omega
theorem Cnt.more {l : List UInt8} {pos : Nat} {cs : List Int} (h : Cnt l pos cs) (hp : l.length ≤ pos) : (∀ i, i < 5 → 0 ≤ cs.getD i 0 ∧ cs.getD i 0 ≤ l.length) ∧ ((∀ b ∈ l, b.toNat < 128) → ∀ i, i < 5 → cs.getD i 0 = l.count (letL.getD i 0)) := by
  obtain ⟨h1, h2, h3⟩ := h
  rw [List.take_of_length_le hp] at h3
  exact ⟨fun i hi => ⟨(h2 i hi).1, (h2 i hi).2.2⟩, fun hall => (h3 hall).2⟩
theorem idx_let (x : UInt8) (hx : x ∉ letL) : Lib.indexByte letL x = -1 := by
  have : ∀ (l : List UInt8), x ∉ l → Lib.indexByte l x = -1 := by
    intro l
    induction l with
    | nil => intro _; rfl
    | cons c l ih =>
      intro h
      unfold Lib.indexByte
      rw [List.mem_cons, not_or] at h
      rw [if_neg (by intro e; exact h.1 (beq_iff_eq.1 e).symm), if_pos (by rw [ih h.2]; rfl)]
  exact this _ hx
/-- a rune among the letters -/
theorem idx_any (r : Nat) (hm : r ≤ 2147483647) (w : World) : Calls Tryd.prog 37 #[.string letB, .int .i32 r] w fun e w' => ∃ i : Int, e = .returned (.int .i64 i) ∧ i = (if r < 128 then Lib.indexByte letL r.toUInt8 else -1) ∧ Below w.heap.size w w' := by
  by_cases h : r < 128
  · refine (sh_strings_IndexRune_ascii letB r w (by omega) (by omega)).mono fun e w' ⟨he, hw⟩ => ?_
    subst hw
    exact ⟨_, he, by rw [if_pos h, Int.toNat_natCast]; rfl, Below.refl _ _⟩
  · by_cases h2 : r = 65533
    · subst h2
      exact (idx_err w).mono fun e w' ⟨he, hw⟩ => ⟨_, he, by rw [if_neg h], hw⟩
    · obtain ⟨x, y, z, b, hb, h3 | h3 | h3⟩ := enc_hi r (by omega)
      · exact (idx_2 r (by omega) hm h2 x b hb h3 w).mono fun e w' ⟨he, hw⟩ => ⟨_, he, by rw [if_neg h], hw⟩
      · exact (idx_3 r (by omega) hm h2 x y b hb h3 w).mono fun e w' ⟨he, hw⟩ => ⟨_, he, by rw [if_neg h], hw⟩
      · exact (idx_4 r (by omega) hm h2 x y z b hb h3 w).mono fun e w' ⟨he, hw⟩ => ⟨_, he, by rw [if_neg h], hw⟩
theorem err_var {w : World} (hG : E0.globs w) {n : String} {g : Nat} (hn : Tryd.prog.globalNamed n = some g) (hm : g ∈ E0.gx) : ∃ t p, w.var? Tryd.prog n = some #[.iface t p] := by
  obtain ⟨T, t, p, h⟩ := hG.err g hm
  refine ⟨t, p, ?_⟩
  unfold World.var?
  rw [hn, Option.bind_some, h]
/-- the library's number of a text -/
theorem atoi_w (s : ByteArray) (hs : s.size ≤ 300) (w : World) (hG : E0.globs w) : Calls Tryd.prog 36 #[.string s] w fun e w' =>
    (∃ (v : Int) (er : Value), e = .returned (.tuple #[.int .i64 v, er]) ∧ ((er = .nilIface ∧ v = numF s.data.toList) ∨ ((∃ t p, er = .iface t p) ∧ numF s.data.toList = 0))) ∧ Below w.heap.size w w' := by
  match h : Lib.atoiAll s.data.toList with
  | Lib.NumEnd.ok v =>
    have e0 : numF s.data.toList = v := by unfold numF; rw [h]
    refine (sh_strconv_Atoi_ok s (by omega) v h w).mono fun e w' ⟨he, hw⟩ => ⟨⟨v, _, he, .inl ⟨rfl, e0.symm⟩⟩, ?_⟩
    rcases hw with rfl | ⟨t, rfl⟩
    · exact Below.refl _ _
    · exact Lib.bytesWorld_below _ _ _
  | Lib.NumEnd.syntax =>
    have e0 : numF s.data.toList = 0 := by unfold numF; rw [h]
    obtain ⟨t, p, hv⟩ := err_var hG (n := "strconv.ErrSyntax") (g := 2) (by kernel_rfl) (by show _ ∈ [_, _]; simp)
    exact (sh_strconv_Atoi_syntax_var s (by omega) h t p w hv).mono fun e w' ⟨N, he, _, _, hb⟩ => ⟨⟨_, _, he, .inr ⟨⟨_, _, rfl⟩, e0⟩⟩, hb⟩
  | Lib.NumEnd.range =>
    have e0 : numF s.data.toList = 0 := by unfold numF; rw [h]
    obtain ⟨t, p, hv⟩ := err_var hG (n := "strconv.ErrRange") (g := 3) (by kernel_rfl) (by show _ ∈ [_, _]; simp)
    exact (sh_strconv_Atoi_range_var s (by omega) h t p w hv).mono fun e w' ⟨N, he, _, _, hb⟩ => ⟨⟨_, _, he, .inr ⟨⟨_, _, rfl⟩, e0⟩⟩, hb⟩
end Go.Proofs.YtfpgbdefopbfbaaDoor
end
