import Derived.Test.YtbpbdanggilnpaaDoorM16
import Derived.Test.YtbpbdanggilnpaaDoorM15

set_option linter.unusedVariables false
set_option linter.unusedSimpArgs false

section
namespace Go.Proofs.YtbpbdanggilnpaaDoor
open Go.RowKit
set_option linter.unusedVariables false
set_option linter.unusedSimpArgs false
def k_rParse35 : Nat := 7
def sg_rParse35 : Sig := ⟨[(false, [.list 5])], [(true, [.list 3, .list 3, .list 3] ++ [.list 62]), (false, [.int .i64])], false, false, true, false, false, [], [], none⟩
def tr_rParse35_1 : Tree := (.ite (.and (.cmp .gt (.var 38) (.int .i64 0)) (.cmp .eq (.var 41) (.int .i64 0))) (.call k_qNum [(.var 39), (.var 40), (.var 41)] [(.int .i64), (.list 5), (.int .i64), (.int .i64)] (.call k_qNum [(.var 44), (.var 45), (.var 46)] [(.int .i64), (.list 5), (.int .i64), (.int .i64)] (.call k_qNum [(.var 48), (.var 49), (.var 50)] [(.int .i64), (.list 5), (.int .i64), (.int .i64)] (.call k_qNum [(.var 52), (.var 53), (.var 54)] [(.int .i64), (.list 5), (.int .i64), (.int .i64)] (.call k_qLst [(.int .i64 400), (.var 56), (.var 57), (.var 58)] [(.list 3), (.list 5), (.int .i64), (.int .i64)] (.ob (.cmp .le (.len (.push (.var 42) (.econs (.var 43) (.econs (.var 47) (.econs (.var 51) (.econs (.var 55) (.econs (.var 59) .enil))))))) (.int .i64 2513169434916)) (.again 1 [(.ar .sub .i64 (.var 38) (.int .i64 1)), (.var 60), (.var 61), (.var 62), (.push (.var 42) (.econs (.var 43) (.econs (.var 47) (.econs (.var 51) (.econs (.var 55) (.econs (.var 59) .enil))))))]))))))) (.share 64 (.var 42) (.ob (.cmp .le (.len (.push (.var 21) (.econs (.var 22) (.econs (.var 26) (.econs (.var 30) (.econs (.var 43) .enil)))))) (.int .i64 2932031007402)) (.again 0 [(.ar .sub .i64 (.var 17) (.int .i64 1)), (.var 39), (.var 40), (.var 41), (.push (.var 21) (.econs (.var 22) (.econs (.var 26) (.econs (.var 30) (.econs (.var 43) .enil)))))]))))
def tr_rParse35_2 : Tree := (.ite (.and (.cmp .gt (.var 17) (.int .i64 0)) (.cmp .eq (.var 20) (.int .i64 0))) (.call k_qNum [(.var 18), (.var 19), (.var 20)] [(.int .i64), (.list 5), (.int .i64), (.int .i64)] (.call k_qNum [(.var 23), (.var 24), (.var 25)] [(.int .i64), (.list 5), (.int .i64), (.int .i64)] (.call k_qNum [(.var 27), (.var 28), (.var 29)] [(.int .i64), (.list 5), (.int .i64), (.int .i64)] (.call k_qCnt [(.int .i64 16), (.var 31), (.var 32), (.var 33)] [(.int .i64), (.list 5), (.int .i64), (.int .i64)] (.loop [(.var 34), (.var 35), (.var 36), (.var 37), .emp] [(.int .i64), (.list 5), (.int .i64), (.int .i64), (.rows 64)] tr_rParse35_1))))) (.ite (.cmp .eq (.ite (.and (.cmp .eq (.var 20) (.int .i64 0)) (.cmp .lt (.var 19) (.len (.var 0)))) (.int .i64 3) (.var 20)) (.int .i64 0)) (.share 62 (.var 21) (.call k_rCheck [(.var 1), (.var 5), (.var 9), (.var 22)] [(.int .i64)] (.ite (.cmp .ne (.var 23) (.int .i64 0)) (.both (.both (.ret [(.nil 3), (.nil 3), (.nil 3), (.nil 62), (.var 23)]) (.ret [(.nil 3), (.nil 3), (.nil 3), (.nil 62), (.var 23)])) (.ret [(.nil 3), (.nil 3), (.nil 3), (.nil 62), (.var 23)])) (.ret [(.var 1), (.var 5), (.var 9), (.var 22), (.int .i64 0)])))) (.both (.both (.ret [(.nil 3), (.nil 3), (.nil 3), (.nil 62), (.ite (.and (.cmp .eq (.var 20) (.int .i64 0)) (.cmp .lt (.var 19) (.len (.var 0)))) (.int .i64 3) (.var 20))]) (.ret [(.nil 3), (.nil 3), (.nil 3), (.nil 62), (.ite (.and (.cmp .eq (.var 20) (.int .i64 0)) (.cmp .lt (.var 19) (.len (.var 0)))) (.int .i64 3) (.var 20))])) (.ret [(.nil 3), (.nil 3), (.nil 3), (.nil 62), (.ite (.and (.cmp .eq (.var 20) (.int .i64 0)) (.cmp .lt (.var 19) (.len (.var 0)))) (.int .i64 3) (.var 20))]))))
def tr_rParse35 : Tree := (.ite (.cmp .gt (.len (.var 0)) (.int .i64 65536)) (.ret [(.nil 3), (.nil 3), (.nil 3), (.nil 62), (.int .i64 3)]) (.call k_qLst [(.int .i64 100), (.var 0), (.int .i64 0), (.int .i64 0)] [(.list 3), (.list 5), (.int .i64), (.int .i64)] (.call k_qLst [(.int .i64 100), (.var 2), (.var 3), (.var 4)] [(.list 3), (.list 5), (.int .i64), (.int .i64)] (.call k_qLst [(.int .i64 4096), (.var 6), (.var 7), (.var 8)] [(.list 3), (.list 5), (.int .i64), (.int .i64)] (.call k_qCnt [(.int .i64 1000), (.var 10), (.var 11), (.var 12)] [(.int .i64), (.list 5), (.int .i64), (.int .i64)] (.loop [(.var 13), (.var 14), (.var 15), (.var 16), .emp] [(.int .i64), (.list 5), (.int .i64), (.int .i64), (.rows 62)] tr_rParse35_2))))))
theorem wk_rParse35 : walk E0.cx (sgsN [(17, sg_qLst), (18, sg_qCnt), (19, sg_qNum), (20, sg_rCheck)]) 0 7 sg_rParse35 = tr_rParse35 := by kernel_rfl
theorem bo_rParse35 : ∃ x, bodyOf E0.P 7 = some x := bo_of (by kernel_rfl)
theorem sp_rParse35_qLst : specX [.p con_qLst, .p con_qCnt, .p con_qNum, .q con_rCheck] k_qLst = qLst_s := rfl
theorem sp_rParse35_qCnt : specX [.p con_qLst, .p con_qCnt, .p con_qNum, .q con_rCheck] k_qCnt = qCnt_s := rfl
theorem sp_rParse35_qNum : specX [.p con_qLst, .p con_qCnt, .p con_qNum, .q con_rCheck] k_qNum = qNum_s := rfl
theorem sp_rParse35_rCheck : specX [.p con_qLst, .p con_qCnt, .p con_qNum, .q con_rCheck] k_rCheck = rCheck_s := rfl
/-- a reader under way: it is at `a` and well, or an error `b` is known -/
def RdQ (l : List Nat) (a b : Int) (K : List Nat → Prop) (E : Int → Prop) : Prop := (b ≠ 0 ∧ E b) ∨ (b = 0 ∧ ∃ j : Nat, a = j ∧ j ≤ l.length ∧ K (l.drop j))
theorem RdQ.mono {l : List Nat} {a b : Int} {K K' : List Nat → Prop} {E : Int → Prop} (h : RdQ l a b K E) (hk : ∀ r, K r → K' r) : RdQ l a b K' E := by
  rcases h with h | ⟨h0, j, h1, h2, h3⟩
  · exact .inl h
  · exact .inr ⟨h0, j, h1, h2, hk _ h3⟩
theorem RdQ.err {l : List Nat} {a a' b : Int} {K K' : List Nat → Prop} {E : Int → Prop} (h : RdQ l a b K E) (hb : b ≠ 0) : RdQ l a' b K' E := by
  rcases h with h | ⟨h0, _⟩
  · exact .inl h
  · exact (hb h0).elim
theorem qS_step {α : Type} {i : Nat} {p : List Dat → P1 α} {enc : α → List Dat → Prop} {any : List Dat → Prop} {ds : List Dat} {Q : List Dat → Prop} {l : List Nat} {K : α → List Nat → Prop} {E : Int → Prop}
    (hx : argL ds i = u8R l) (hb : Bts l) (hz : Enz (p ds)) (ha : ∀ x rs, enc x rs → any rs) (h : RdQ l (argI ds (i + 1)) (argI ds (i + 2)) (fun r => Run (p ds) r K E) E)
    (hq : ∀ rs a b, any rs → RdQ l a b (fun r => ∃ x r0, p ds r0 = .ok (x, r) ∧ enc x rs ∧ K x r) E → Q (rs ++ [ds.getD i (.bool false), .int .i64 a, .int .i64 b])) : qS i p enc any ds Q := by
  refine ⟨l, hx, hb, fun h0 rs a' hrs => hq _ _ _ hrs (h.err h0), fun h0 => ?_⟩
  rcases h with ⟨h1, _⟩ | ⟨_, j, h1, h2, h3⟩
  · exact (h1 h0).elim
  refine ⟨j, h1, h2, h3.mono (fun x r ex hk rs j' he hj hr => ?_) (fun n ex hn rs a' hrs => hq _ _ _ hrs (.inl ⟨hz _ _ ex, hn⟩))⟩
  exact hq _ _ _ (ha _ _ he) (.inr ⟨rfl, j', rfl, hj, x, _, hr ▸ ex, he, hr ▸ hk⟩)
theorem qNum_step {ds : List Dat} {Q : List Dat → Prop} {l : List Nat} {K : Int → List Nat → Prop} {E : Int → Prop} {B : Dat} {a b : Int} (hx : B.xs = u8R l) (hb : Bts l) (h : RdQ l a b (fun r => Run pN r K E) E) (hd : ds = [B, .int .i64 a, .int .i64 b])
    (hq : ∀ n a b, RdQ l a b (K n) E → Q [.int .i64 n, B, .int .i64 a, .int .i64 b]) : qNum_s ds Q := by
  subst hd
  refine qS_step (i := 0) (p := fun _ => pN) hx hb enz_N (fun x rs h => ⟨x, h⟩) h ?_
  rintro rs a b ⟨n, rfl⟩ h
  refine hq n a b (h.mono ?_)
  rintro r ⟨x, r0, _, e, hk⟩
  have e : [Dat.int .i64 n] = [.int .i64 x] := e
  injection e with e _
  injection e with _ e
  subst e
  exact hk
theorem qCnt_step {ds : List Dat} {Q : List Dat → Prop} {l : List Nat} {K : Int → List Nat → Prop} {E : Int → Prop} {B : Dat} {c a b : Int} (h0 : 0 ≤ c) (hx : B.xs = u8R l) (hb : Bts l) (h : RdQ l a b (fun r => Run (pC c) r K E) E) (hd : ds = [.int .i64 c, B, .int .i64 a, .int .i64 b])
    (hq : ∀ n a b, 0 ≤ n → n ≤ c → RdQ l a b (K n) E → Q [.int .i64 n, B, .int .i64 a, .int .i64 b]) : qCnt_s ds Q := by
  subst hd
  refine ⟨l, hx, hb, ?_, ?_⟩
  · rintro h1 rs a' hrs
    have hrs : rs = [.int .i64 0] := hrs
    subst hrs
    exact hq 0 _ _ (by omega) h0 (h.err h1)
  · intro h1
    rcases h with ⟨h2, _⟩ | ⟨_, j, h3, h4, h5⟩
    · exact (h2 h1).elim
    refine ⟨j, h3, h4, h5.mono (fun x r ex hk rs j' he hj hr => ?_) (fun n ex hn rs a' hrs => ?_)⟩
    · have he : rs = [.int .i64 x] := he
      subst he hr
      exact hq x _ _ (pC_rng ex).1 (pC_rng ex).2 (.inr ⟨rfl, j', rfl, hj, hk⟩)
    · have hrs : rs = [.int .i64 0] := hrs
      subst hrs
      exact hq 0 _ _ (by omega) h0 (.inl ⟨enz_C _ _ _ ex, hn⟩)
theorem qLst_step {ds : List Dat} {Q : List Dat → Prop} {l : List Nat} {K : List Int → List Nat → Prop} {E : Int → Prop} {B : Dat} {c a b : Int} (h0 : c ≤ 100000) (hx : B.xs = u8R l) (hb : Bts l) (h : RdQ l a b (fun r => Run (pL c) r K E) E) (hd : ds = [.int .i64 c, B, .int .i64 a, .int .i64 b])
    (hq : ∀ d a b, RdQ l a b (fun r => ∃ x, d.xs = i64R x ∧ K x r) E → Q [d, B, .int .i64 a, .int .i64 b]) : qLst_s ds Q := by
  subst hd
  refine ⟨h0, qS_step (i := 1) (p := fun ds => pL (argI ds 0)) hx hb (enz_L _) (fun x rs ⟨d, h, _⟩ => ⟨d, h⟩) h ?_⟩
  rintro rs a b ⟨d, rfl⟩ h
  refine hq d a b (h.mono ?_)
  rintro r ⟨x, r0, _, ⟨d', e, hx⟩, hk⟩
  injection e with e _
  subst e
  exact ⟨x, hx, hk⟩
section
variable {l : List Nat} {B : Dat}
/-- decisions under way -/
def DecI (l : List Nat) (B : Dat) (K : List DecT → List Nat → Prop) (E : Int → Prop) (xs : List Dat) (m : Nat) : Prop :=
  ∃ (i a b : Int) (rows : List (List Dat)), xs = [.int .i64 i, B, .int .i64 a, .int .i64 b, .rows rows] ∧ i ≤ 16 ∧ rows.length + i.toNat ≤ 16 ∧ m = i.toNat ∧
    RdQ l a b (fun r => ∃ acc : List DecT, All2 encDec acc rows ∧ Run (pMany pD i.toNat) r (fun zs r => K (acc ++ zs) r) E) E
/-- operations under way -/
def OpsI (l : List Nat) (B : Dat) (K : List OpT → List Nat → Prop) (E : Int → Prop) (xs : List Dat) (m : Nat) : Prop :=
  ∃ (i a b : Int) (rows : List (List Dat)), xs = [.int .i64 i, B, .int .i64 a, .int .i64 b, .rows rows] ∧ i ≤ 1000 ∧ rows.length + i.toNat ≤ 1000 ∧ m = i.toNat ∧
    RdQ l a b (fun r => ∃ acc : List OpT, All2 encOp acc rows ∧ Run (pMany pO i.toNat) r (fun zs r => K (acc ++ zs) r) E) E
/-- what follows the decisions of one operation -/
def DecK (I n1 n2 n3 : Int) (R : List (List Dat)) (K : List OpT → List Nat → Prop) (E : Int → Prop) (os : List DecT) (r : List Nat) : Prop :=
  ∃ acc0 : List OpT, All2 encOp acc0 R ∧ Run (pMany pO (I.toNat - 1)) r (fun zs r' => K (acc0 ++ (n1, n2, n3, os) :: zs) r') E
theorem Run_D {l : List Nat} {K : DecT → List Nat → Prop} {E : Int → Prop} : Run pD l K E = Run pN l (fun a l => Run pN l (fun b l => Run pN l (fun c l => Run pN l (fun d l => Run (pL 400) l (fun x l => K (a, b, c, d, x) l) E) E) E) E) E := by
  unfold pD
  simp only [Run_bnd, Run_unit]
theorem Run_O {l : List Nat} {K : OpT → List Nat → Prop} {E : Int → Prop} : Run pO l K E = Run pN l (fun a l => Run pN l (fun b l => Run pN l (fun c l => Run (pC 16) l (fun n l => Run (pMany pD n.toNat) l (fun x l => K (a, b, c, x) l) E) E) E) E) E := by
  unfold pO
  simp only [Run_bnd, Run_unit]
theorem Run_ex {α β : Type} {P : β → Prop} {p : P1 α} {r : List Nat} {K : β → α → List Nat → Prop} {E : Int → Prop} (h : ∃ acc, P acc ∧ Run p r (K acc) E) : Run p r (fun x r => ∃ acc, P acc ∧ K acc x r) E := by
  obtain ⟨acc, hp, h⟩ := h
  exact h.mono (fun x r _ hk => ⟨acc, hp, hk⟩) (fun n _ h => h)
/-- the loop of decisions, once -/
theorem par_1 {Φ : Nat → Spec} {ds : List Dat} {Q : List Dat → Prop} {K : List OpT → List Nat → Prop} {E : Int → Prop} {I n1 n2 n3 : Int} {R : List (List Dat)}
    (s2 : Φ k_qNum = qNum_s) (s1 : Φ k_qLst = qLst_s) (hl : ds.length = 38) (h17 : ds.getD 17 (.bool false) = .int .i64 I) (h21 : ds.getD 21 (.bool false) = .rows R) (h22 : ds.getD 22 (.bool false) = .int .i64 n1) (h26 : ds.getD 26 (.bool false) = .int .i64 n2) (h30 : ds.getD 30 (.bool false) = .int .i64 n3)
    (hI : 0 < I) (hI2 : I ≤ 1000) (hR : R.length + I.toNat ≤ 1000) (hb : Bts l) (hB : B.xs = u8R l) {xs : List Dat} {m : Nat}
    (h : DecI l B (DecK I n1 n2 n3 R K E) E xs m) :
    wp E0.Δ Φ Q tr_rParse35_1 (ds ++ xs) [(OpsI l B K E, I.toNat), (DecI l B (DecK I n1 n2 n3 R K E) E, m)] := by
  obtain ⟨i, a, b, rows, rfl, hi, hrows, rfl, h⟩ := h
  simp only [tr_rParse35_1, wp, den_int, den_bool, den_nili, den_ar, den_cmp, den_not, den_len, den_elem, den_isnil, den_errI, den_ifc, den_rep, den_push, den_app, den_emp, den_upd, row0_econs, row0_enil, den_and, den_beq, den_nil, toInt_int, toBool_bool, xs_rows, xs_list, dflt_int, dflt_bool, of_eq, of_ne, of_lt, of_le, of_gt, of_ge, of_add, of_sub, of_rem, List.map_cons, List.map_nil, Dat.bool.injEq, decide_eq_true_eq, decide_eq_false_iff_not, Bool.not_eq_true', Bool.not_eq_false', beq_iff_eq, bne_iff_ne, beq_eq_false_iff_ne, bne_eq_false_iff_eq, ne_eq, List.append_assoc, List.cons_append, List.nil_append, allS, s1, s2, den_ite, den_and, den_cmp, den_int, toInt_int, toBool_bool, Cmp.of, beq_eq_decide, @den_var0 E0.Δ ds, den_varA, den_varB, hl, Nat.reduceLT, Nat.reduceLeDiff, Nat.reduceSub, List.getD_cons_zero, List.getD_cons_succ, argL_fold ds, argI_fold ds, List.append_assoc, List.cons_append, List.nil_append, toInt_int, toBool_bool, xs_rows, xs_list, Int.toNat_natCast, Dat.bool.injEq, List.cons_append, List.nil_append, h17, h21, h22, h26, h30]
  refine ⟨fun hc => ?_, fun hc => ?_⟩
  · rw [Bool.and_eq_true, decide_eq_true_eq, decide_eq_true_eq] at hc
    obtain ⟨hi0, rfl⟩ := hc
    obtain ⟨k, hk⟩ : ∃ k, i.toNat = k + 1 := ⟨i.toNat - 1, by omega⟩
    rw [hk] at h
    simp only [Run_many, Run_D] at h
    refine qNum_step hB hb (h.mono fun r => Run_ex) rfl fun m1 a b h => ?_
    refine qNum_step hB hb (h.mono fun r => Run_ex) rfl fun m2 a b h => ?_
    refine qNum_step hB hb (h.mono fun r => Run_ex) rfl fun m3 a b h => ?_
    refine qNum_step hB hb (h.mono fun r => Run_ex) rfl fun m4 a b h => ?_
    refine qLst_step (by decide) hB hb (h.mono fun r => Run_ex) rfl fun d a b h => ?_
    have hk' : (i - 1).toNat = k := by omega
    refine ⟨by rw [List.length_append]; simp only [List.length_cons, List.length_nil]; omega, k, by show k < i.toNat; omega, i - 1, a, b, rows ++ [[.int .i64 m1, .int .i64 m2, .int .i64 m3, .int .i64 m4, d]], by rw [wrap64 (by omega) (by omega)]; rfl, by omega, by rw [List.length_append]; simp only [List.length_cons, List.length_nil]; omega, hk'.symm, h.mono ?_⟩
    rintro r ⟨x, hx, acc, ha, hr⟩
    refine ⟨acc ++ [(m1, m2, m3, m4, x)], ha.append (.one ⟨d, rfl, hx⟩), ?_⟩
    rw [hk']
    refine Run.mono (p := pMany pD k) hr (fun zs r' _ h => ?_) (fun _ _ h => h)
    rw [List.append_assoc]; exact h
  · have h0 : ¬ (i > 0 ∧ b = 0) := fun ⟨h1, h2⟩ => by rw [decide_eq_true h1, decide_eq_true h2] at hc; cases hc
    intro A c
    refine ⟨by rw [List.length_append]; simp only [List.length_cons, List.length_nil]; omega, (I - 1).toNat, by show (I - 1).toNat < I.toNat; omega, I - 1, a, b, _, by rw [wrap64 (by omega) (by omega)], by omega, by rw [List.length_append]; simp only [List.length_cons, List.length_nil]; omega, rfl, ?_⟩
    rcases h with h | ⟨hb0, j, h1, h2, acc, ha, hr⟩
    · exact .inl h
    · have hz : i.toNat = 0 := by omega
      rw [hz] at hr
      have hr : DecK I n1 n2 n3 R K E (acc ++ []) (l.drop j) := hr
      rw [List.append_nil] at hr
      obtain ⟨acc0, ha0, hr⟩ := hr
      refine .inr ⟨hb0, j, h1, h2, acc0 ++ [(n1, n2, n3, acc)], ha0.append (.one ⟨_, rfl, ha⟩), ?_⟩
      rw [show (I - 1).toNat = I.toNat - 1 by omega]
      refine Run.mono (p := pMany pO _) hr (fun zs r' _ h => ?_) (fun _ _ h => h)
      rw [List.append_assoc]; exact h
theorem app_at {ds P : List Dat} {n : Nat} {x : Dat} (hl : ds.length = n) (k : Nat) : (ds ++ P).getD (n + k) x = P.getD k x := by
  rw [List.getD_eq_getElem?_getD, List.getD_eq_getElem?_getD, List.getElem?_append_right (by omega), hl, Nat.add_sub_cancel_left]
/-- the loop of operations, once -/
theorem par_2 {Φ : Nat → Spec} {ds : List Dat} {Q : List Dat → Prop} {K : List OpT → List Nat → Prop} {E : Int → Prop}
    (s2 : Φ k_qNum = qNum_s) (s1 : Φ k_qLst = qLst_s) (s3 : Φ k_qCnt = qCnt_s) (s4 : Φ k_rCheck = rCheck_s) (hl : ds.length = 17) (hlen : (argL ds 0).length = l.length) (hb : Bts l) (hB : B.xs = u8R l)
    (hE : ∀ n, E n → Q (scrZ ++ [.int .i64 n])) (hK : ∀ os r, K os r → if r = [] then ∀ d : Dat, All2 encOp os d.xs → if scrD [ds.getD 1 (.bool false), ds.getD 5 (.bool false), ds.getD 9 (.bool false), d] = 0 then Q ([ds.getD 1 (.bool false), ds.getD 5 (.bool false), ds.getD 9 (.bool false), d] ++ [.int .i64 0]) else Q (scrZ ++ [.int .i64 (scrD [ds.getD 1 (.bool false), ds.getD 5 (.bool false), ds.getD 9 (.bool false), d])]) else Q (scrZ ++ [.int .i64 3]))
    {xs : List Dat} {m : Nat} (h : OpsI l B K E xs m) :
    wp E0.Δ Φ Q tr_rParse35_2 (ds ++ xs) [(OpsI l B K E, m)] := by
  obtain ⟨i, a, b, rows, rfl, hi, hrows, rfl, h⟩ := h
  simp only [tr_rParse35_2, wp, den_int, den_bool, den_nili, den_ar, den_cmp, den_not, den_len, den_elem, den_isnil, den_errI, den_ifc, den_rep, den_push, den_app, den_emp, den_upd, row0_econs, row0_enil, den_and, den_beq, den_nil, toInt_int, toBool_bool, xs_rows, xs_list, dflt_int, dflt_bool, of_eq, of_ne, of_lt, of_le, of_gt, of_ge, of_add, of_sub, of_rem, List.map_cons, List.map_nil, Dat.bool.injEq, decide_eq_true_eq, decide_eq_false_iff_not, Bool.not_eq_true', Bool.not_eq_false', beq_iff_eq, bne_iff_ne, beq_eq_false_iff_ne, bne_eq_false_iff_eq, ne_eq, List.append_assoc, List.cons_append, List.nil_append, allS, s1, s2, s3, s4, den_ite, den_and, den_cmp, den_int, toInt_int, toBool_bool, Cmp.of, beq_eq_decide, @den_var0 E0.Δ ds, den_varA, den_varB, hl, Nat.reduceLT, Nat.reduceLeDiff, Nat.reduceSub, List.getD_cons_zero, List.getD_cons_succ, argL_fold ds, argI_fold ds, List.append_assoc, List.cons_append, List.nil_append, toInt_int, toBool_bool, xs_rows, xs_list, Int.toNat_natCast, Dat.bool.injEq, List.cons_append, List.nil_append]
  refine ⟨fun hc => ?_, fun hc => ?_⟩
  · rw [Bool.and_eq_true, decide_eq_true_eq, decide_eq_true_eq] at hc
    obtain ⟨hi0, rfl⟩ := hc
    obtain ⟨k, hk⟩ : ∃ k, i.toNat = k + 1 := ⟨i.toNat - 1, by omega⟩
    rw [hk] at h
    simp only [Run_many, Run_O] at h
    refine qNum_step hB hb (h.mono fun r => Run_ex) rfl fun m1 a1 b1 h1 => ?_
    refine qNum_step hB hb (h1.mono fun r => Run_ex) rfl fun m2 a2 b2 h2 => ?_
    refine qNum_step hB hb (h2.mono fun r => Run_ex) rfl fun m3 a3 b3 h3 => ?_
    refine qCnt_step (by omega) hB hb (h3.mono fun r => Run_ex) rfl fun n a4 b4 hn0 hn1 h4 => ?_
    clear h h1 h2 h3
    refine ⟨DecI l B (DecK i m1 m2 m3 rows K E) E, ⟨n.toNat, n, a4, b4, [], rfl, hn1, by rw [List.length_nil]; omega, rfl, h4.mono ?_⟩, ?_⟩
    · rintro r ⟨acc, ha, hr⟩
      refine ⟨[], .nil, Run.mono (p := pMany pD _) hr (fun zs r' _ h => ⟨acc, ha, ?_⟩) (fun _ _ h => h)⟩
      rw [hk]; exact h
    · intro n1 d hd n2 n3 d1 hd1 m hI
      have := par_1 (ds := ds ++ ([.int .i64 i, B, .int .i64 a, .int .i64 0, .rows rows] ++ ([.int .i64 m1, B, .int .i64 a1, .int .i64 b1] ++ ([.int .i64 m2, B, .int .i64 a2, .int .i64 b2] ++ ([.int .i64 m3, B, .int .i64 a3, .int .i64 b3] ++ [.int .i64 n, B, .int .i64 a4, .int .i64 b4]))))) (Q := Q)
        s2 s1 (by rw [List.length_append, hl]; rfl) (app_at hl 0) (app_at hl 4) (app_at hl 5) (app_at hl 9) (app_at hl 13) hi0 hi hrows hb hB hI
      rw [List.append_assoc] at this
      exact this
  · have h0 : ¬ (i > 0 ∧ b = 0) := fun ⟨h1, h2⟩ => by rw [decide_eq_true h1, decide_eq_true h2] at hc; cases hc
    rcases h with ⟨hb0, h⟩ | ⟨rfl, j, rfl, hj, acc, ha, hr⟩
    · have t := hE b h
      simp only [decide_eq_false hb0, Bool.false_and, Bool.false_eq_true, if_false]
      exact ⟨fun hx => (hb0 hx).elim, fun _ => ⟨⟨t, t⟩, t⟩⟩
    · have hz : i.toNat = 0 := by omega
      rw [hz] at hr
      have hr : K (acc ++ []) (l.drop j) := hr
      rw [List.append_nil] at hr
      have t := hK _ _ hr
      by_cases hlt : j < l.length
      · rw [if_neg (fun hx => by have := congrArg List.length hx; rw [List.length_drop, List.length_nil] at this; omega)] at t
        have e : decide ((j : Int) < ((argL ds 0).length : Int)) = true := decide_eq_true (by rw [hlen]; omega)
        simp only [e, decide_true, Bool.and_self, if_true]
        exact ⟨fun hx => absurd hx (by decide), fun _ => ⟨⟨t, t⟩, t⟩⟩
      · rw [if_pos (List.drop_eq_nil_of_le (by omega))] at t
        have e : decide ((j : Int) < ((argL ds 0).length : Int)) = false := decide_eq_false (by rw [hlen]; omega)
        simp only [e, Bool.and_false, Bool.false_eq_true, if_false]
        refine ⟨fun _ A c => ?_, fun hx => absurd rfl hx⟩
        have t := t (.list (.slice A rows.length c) (E0.Δ.row 62).length rows) ha
        refine ⟨fun hne => ?_, fun he => ?_⟩
        · rw [if_neg (show ¬ scrD [ds.getD 1 (.bool false), ds.getD 5 (.bool false), ds.getD 9 (.bool false), .list (.slice A rows.length c) (E0.Δ.row 62).length rows] = 0 from hne)] at t; exact ⟨⟨t, t⟩, t⟩
        · rw [if_pos (show scrD [ds.getD 1 (.bool false), ds.getD 5 (.bool false), ds.getD 9 (.bool false), .list (.slice A rows.length c) (E0.Δ.row 62).length rows] = 0 from he)] at t; exact t
end
def rParse35_s : Spec := fun ds Q => ∃ l : List Nat, argL ds 0 = u8R l ∧ bytes l ∧ l.length ≤ 90000000 ∧ (if 65536 < l.length then Q (scrZ ++ [.int .i64 3]) else readQ l fun rs n => Q (rs ++ [.int .i64 n]))
theorem rParse35_h : Holds E0 k_rParse35 sg_rParse35 rParse35_s := con_fnX wf0 mix0 g0 [.p con_qLst, .p con_qCnt, .p con_qNum, .q con_rCheck] rfl wk_rParse35 rfl (by
  intro Φ hΦ ds Q hs ⟨l, hx, hb, hlen, h⟩
  have hl : ds.length = 1 := hs.length.symm
  have s1 : Φ k_qLst = qLst_s := by rw [hΦ]; rfl
  have s2 : Φ k_qNum = qNum_s := by rw [hΦ]; rfl
  have s3 : Φ k_qCnt = qCnt_s := by rw [hΦ]; rfl
  have s4 : Φ k_rCheck = rCheck_s := by rw [hΦ]; rfl
  clear hΦ
  have hn : (argL ds 0).length = l.length := by rw [hx, u8R_len]
  simp only [tr_rParse35, wp, den_int, den_bool, den_nili, den_ar, den_cmp, den_not, den_len, den_elem, den_isnil, den_errI, den_ifc, den_rep, den_push, den_app, den_emp, den_upd, row0_econs, row0_enil, den_and, den_beq, den_nil, toInt_int, toBool_bool, xs_rows, xs_list, dflt_int, dflt_bool, of_eq, of_ne, of_lt, of_le, of_gt, of_ge, of_add, of_sub, of_rem, List.map_cons, List.map_nil, Dat.bool.injEq, decide_eq_true_eq, decide_eq_false_iff_not, Bool.not_eq_true', Bool.not_eq_false', beq_iff_eq, bne_iff_ne, beq_eq_false_iff_ne, bne_eq_false_iff_eq, ne_eq, List.append_assoc, List.cons_append, List.nil_append, allS, s1, s2, s3, s4, den_ite, den_and, den_cmp, den_int, toInt_int, toBool_bool, Cmp.of, beq_eq_decide, @den_var0 E0.Δ ds, den_varA, den_varB, hl, Nat.reduceLT, Nat.reduceLeDiff, Nat.reduceSub, List.getD_cons_zero, List.getD_cons_succ, argL_fold ds, argI_fold ds, List.append_assoc, List.cons_append, List.nil_append, toInt_int, toBool_bool, xs_rows, xs_list, Int.toNat_natCast, Dat.bool.injEq, List.cons_append, List.nil_append, hn]
  refine ⟨fun h1 => by rw [if_pos (by omega)] at h; exact h, fun h1 => ?_⟩
  rw [if_neg (by omega)] at h
  obtain ⟨B, rfl⟩ := List.length_eq_one_iff.1 hl
  have hB : B.xs = u8R l := hx
  have hb : Bts l := ⟨hb, hlen⟩
  have h0 : RdQ l 0 0 (fun r => Run pS r (fun x r => if r = [] then ∀ rs, encScr x rs → if scrD rs = 0 then Q (rs ++ [.int .i64 0]) else Q (scrZ ++ [.int .i64 (scrD rs)]) else Q (scrZ ++ [.int .i64 3])) (fun n => Q (scrZ ++ [.int .i64 n]))) (fun n => Q (scrZ ++ [.int .i64 n])) := .inr ⟨rfl, 0, rfl, Nat.zero_le _, h⟩
  clear h
  simp only [pS, Run_bnd, Run_unit] at h0
  refine qLst_step (by omega) hB hb h0 rfl fun d0 a0 b0 h0 => ?_
  refine qLst_step (by omega) hB hb (h0.mono fun r => Run_ex) rfl fun d1 a1 b1 h1 => ?_
  refine qLst_step (by omega) hB hb (h1.mono fun r hr => Run_ex (hr.imp fun y hy => ⟨hy.1, Run_ex hy.2⟩)) rfl fun d2 a2 b2 h2 => ?_
  refine qCnt_step (by omega) hB hb (h2.mono fun r hr => Run_ex (hr.imp fun y hy => ⟨hy.1, Run_ex (hy.2.imp fun z hz => ⟨hz.1, Run_ex hz.2⟩)⟩)) rfl fun n a3 b3 hn0 hn1 h3 => ?_
  clear h0 h1 h2
  have h3 := h3.mono fun r hr => Run_ex (hr.imp fun y hy => ⟨hy.1, Run_ex (hy.2.imp fun z hz => ⟨hz.1, Run_ex hz.2⟩)⟩)
  refine ⟨OpsI l B (fun os r => ∃ y, d2.xs = i64R y ∧ ∃ z, d1.xs = i64R z ∧ ∃ x, d0.xs = i64R x ∧ if r = [] then ∀ rs, encScr (x, z, y, os) rs → if scrD rs = 0 then Q (rs ++ [Dat.int .i64 0]) else Q (scrZ ++ [Dat.int .i64 (scrD rs)]) else Q (scrZ ++ [Dat.int .i64 3])) _, ⟨n.toNat, n, a3, b3, [], rfl, hn1, by rw [List.length_nil]; omega, rfl, h3.mono fun r hr => ⟨[], .nil, hr⟩⟩, ?_⟩
  intro n1 d hd n2 n3 d3 hd3 m hI
  refine par_2 (ds := [B] ++ ([d0, B, .int .i64 a0, .int .i64 b0] ++ ([d1, B, .int .i64 a1, .int .i64 b1] ++ ([d2, B, .int .i64 a2, .int .i64 b2] ++ [.int .i64 n, B, .int .i64 a3, .int .i64 b3])))) s2 s1 s3 s4 rfl hn hb hB (fun n h => h) ?_ hI
  rintro os r ⟨y, hy, z, hz, x, hx, hk⟩
  by_cases hr : r = []
  · rw [if_pos hr] at hk ⊢
    exact fun d hd => hk [d0, d1, d2, d] ⟨d0, d1, d2, d, rfl, hx, hz, hy, hd⟩
  · rw [if_neg hr] at hk ⊢
    exact hk)
noncomputable def con_rParse35 : Con E0 := ⟨k_rParse35, sg_rParse35, rParse35_s, rfl, bo_rParse35, rParse35_h⟩
end Go.Proofs.YtbpbdanggilnpaaDoor
end

section
namespace Go.Proofs.YtbpbdanggilnpaaDoor
open Go.RowKit
set_option linter.unusedVariables false
set_option linter.unusedSimpArgs false

def BytesS (ds : List Dat) (Q : Dat → Int → Prop) : Prop :=
  ∀ d : Dat, ∀ n : Int, (scrD ds ≠ 0 → n = scrD ds ∧ d.xs = []) → (scrD ds = 0 → 65536 < (encS ds).length → n = 3 ∧ d.xs = []) → (scrD ds = 0 → ¬ 65536 < (encS ds).length → n = 0 ∧ d.xs = u8R (encS ds)) → Q d n
def k_sBytes : Nat := 12
def sg_sBytes : Sig := ⟨[(true, [.list 3, .list 3, .list 3] ++ [.list 68])], [(false, [.list 5]), (false, [.err])], false, false, true, false, false, [], [], none⟩
def tr_sBytes_1 : Tree := (.ite (.cmp .lt (.var 19) (.len (.elem (.var 3) (.var 13) 3 (.list 64)))) (.ob (.cmp .ge (.var 19) (.int .i64 0)) (.share 3 (.push (.push (.push (.push .emp (.econs (.elem (.elem (.var 3) (.var 13) 3 (.list 64)) (.var 19) 0 (.int .i64)) .enil)) (.econs (.elem (.elem (.var 3) (.var 13) 3 (.list 64)) (.var 19) 1 (.int .i64)) .enil)) (.econs (.elem (.elem (.var 3) (.var 13) 3 (.list 64)) (.var 19) 2 (.int .i64)) .enil)) (.econs (.elem (.elem (.var 3) (.var 13) 3 (.list 64)) (.var 19) 3 (.int .i64)) .enil)) (.call k_sPut [(.var 18), (.var 20)] [(.list 5)] (.call k_wPutList [(.var 21), (.elem (.elem (.var 3) (.var 13) 3 (.list 64)) (.var 19) 4 (.list 3))] [(.list 5)] (.ite (.cmp .gt (.len (.var 22)) (.int .i64 65536)) (.share 5 .emp (.ret [(.var 23), (.ifc (.int .i64 3))])) (.again 1 [(.var 16), (.var 17), (.var 22), (.ar .add .i64 (.var 19) (.int .i64 1))])))))) (.again 0 [(.var 16), (.var 17), (.var 18), (.ar .add .i64 (.var 13) (.int .i64 1))]))
def tr_sBytes_2 : Tree := (.ite (.cmp .lt (.var 13) (.len (.var 3))) (.ob (.cmp .ge (.var 13) (.int .i64 0)) (.share 3 (.push (.push (.push (.push .emp (.econs (.elem (.var 3) (.var 13) 0 (.int .i64)) .enil)) (.econs (.elem (.var 3) (.var 13) 1 (.int .i64)) .enil)) (.econs (.elem (.var 3) (.var 13) 2 (.int .i64)) .enil)) (.econs (.len (.elem (.var 3) (.var 13) 3 (.list 64))) .enil)) (.call k_sPut [(.var 12), (.var 14)] [(.list 5)] (.loop [(.var 10), (.var 11), (.var 15), (.int .i64 0)] [(.rows 5), .err, (.list 5), (.int .i64)] tr_sBytes_1)))) (.ite (.cmp .gt (.len (.var 12)) (.int .i64 65536)) (.share 5 .emp (.ret [(.var 14), (.ifc (.int .i64 3))])) (.ret [(.var 12), .nili])))
def tr_sBytes : Tree := (.call k_sCheck [(.var 0), (.var 1), (.var 2), (.var 3)] [.err] (.ite (.not (.isnil (.var 4))) (.share 5 .emp (.ret [(.var 5), (.var 4)])) (.call k_wPutList [(.nil 5), (.var 0)] [(.list 5)] (.call k_wPutList [(.var 5), (.var 1)] [(.list 5)] (.call k_wPutList [(.var 6), (.var 2)] [(.list 5)] (.share 3 (.push .emp (.econs (.len (.var 3)) .enil)) (.call k_sPut [(.var 7), (.var 8)] [(.list 5)] (.loop [.emp, .nili, (.var 9), (.int .i64 0)] [(.rows 5), .err, (.list 5), (.int .i64)] tr_sBytes_2))))))))
theorem wk_sBytes : walk E0.cx (sgsN [(15, sg_sCheck), (23, sg_wPutList), (24, sg_sPut)]) 0 12 sg_sBytes = tr_sBytes := by kernel_rfl
theorem bo_sBytes : ∃ x, bodyOf E0.P 12 = some x := bo_of (by kernel_rfl)
theorem sp_sBytes_sCheck : specC [con_sCheck, con_wPutList, con_sPut] k_sCheck = sCheck_s := rfl
theorem sp_sBytes_wPutList : specC [con_sCheck, con_wPutList, con_sPut] k_wPutList = wPutList_s := rfl
theorem sp_sBytes_sPut : specC [con_sCheck, con_wPutList, con_sPut] k_sPut = sPut_s := rfl
def sBytes_s : Spec := fun ds Q => SmS ds ∧ in64s (nums (argL ds 0)) ∧ in64s (nums (argL ds 1)) ∧ BytesS ds fun d n => Q [d, errV n]
theorem sBytes_h : Holds E0 k_sBytes sg_sBytes sBytes_s := con_fn wf0 mix0 g0 [con_sCheck, con_wPutList, con_sPut] rfl wk_sBytes rfl (by
  intro Φ hΦ ds Q hs ⟨hsm, i0, i1, h⟩
  have hl : ds.length = 4 := hs.length.symm
  have s1 : Φ k_sCheck = sCheck_s := by rw [hΦ]; rfl
  have s2 : Φ k_wPutList = wPutList_s := by rw [hΦ]; rfl
  have s3 : Φ k_sPut = sPut_s := by rw [hΦ]; rfl
  clear hΦ
  simp only [tr_sBytes, tr_sBytes_1, tr_sBytes_2, wp, den_int, den_bool, den_nili, den_ar, den_cmp, den_not, den_len, den_elem, den_isnil, den_errI, den_ifc, den_rep, den_push, den_app, den_emp, den_upd, row0_econs, row0_enil, den_and, den_beq, den_nil, toInt_int, toBool_bool, xs_rows, xs_list, dflt_int, dflt_bool, of_eq, of_ne, of_lt, of_le, of_gt, of_ge, of_add, of_sub, of_rem, List.map_cons, List.map_nil, Dat.bool.injEq, decide_eq_true_eq, decide_eq_false_iff_not, Bool.not_eq_true', Bool.not_eq_false', beq_iff_eq, bne_iff_ne, beq_eq_false_iff_ne, bne_eq_false_iff_eq, ne_eq, List.append_assoc, List.cons_append, List.nil_append, allS, s1, s2, s3, sCheck_s, wPutList_s, sPut_s, @den_var0 E0.Δ ds, den_varA, den_varB, hl, Nat.reduceLT, Nat.reduceLeDiff, Nat.reduceSub, List.getD_cons_zero, List.getD_cons_succ, argL_fold ds, argI_fold ds, List.append_assoc, List.cons_append, List.nil_append, toInt_int, toBool_bool, xs_rows, xs_list, Int.toNat_natCast, Dat.bool.injEq, argL_c0, argL_c1, getD_xs, errV_nil, dflt_int, toInt_getD]
  have e4 : scrD [ds.getD 0 (Dat.bool false), ds.getD 1 (Dat.bool false), ds.getD 2 (Dat.bool false), ds.getD 3 (Dat.bool false)] = scrD ds := rfl
  rw [e4]
  refine ⟨i0, i1, fun hne A c => h _ _ (fun _ => ⟨rfl, rfl⟩) (fun hx => absurd hx hne) (fun hx => absurd hx hne), fun h0 => ?_⟩
  have h := fun d n (hA : 65536 < (encS ds).length → n = 3 ∧ d.xs = []) (hB : ¬ 65536 < (encS ds).length → n = 0 ∧ d.xs = u8R (encS ds)) => h d n (fun hx => absurd h0 hx) (fun _ => hA) (fun _ => hB)
  have long : 65536 < (encS ds).length → ∀ (A : Option Addr) (c : Nat), Q [Dat.list (Value.slice A 0 c) (E0.Δ.row 5).length [], errV 3] := fun hx A c => h _ 3 (fun _ => ⟨rfl, rfl⟩) (fun hn => absurd hx hn)
  have hH := hdS_len h0 hsm
  obtain ⟨k0, k1⟩ := scr_0 h0
  obtain ⟨k2, k3, kn, kp⟩ := hsm
  have l0 := lstB_len (argL ds 0)
  have l1 := lstB_len (argL ds 1)
  have l2 := lstB_len (argL ds 2)
  refine ⟨by simp only [List.length_nil]; omega, kn 0 (by omega), fun d0 hd0 => ?_⟩
  have hd0 : d0.xs = u8R (lstB (argL ds 0)) := hd0
  refine ⟨by rw [hd0, u8R_len]; omega, kn 1 (by omega), fun d1 hd1 => ?_⟩
  have hd1 : d1.xs = u8R (lstB (argL ds 0) ++ lstB (argL ds 1)) := by rw [hd1, hd0, u8R_app]; rfl
  refine ⟨by rw [hd1, u8R_len, List.length_append]; omega, kn 2 (by omega), fun d2 hd2 A c => ?_⟩
  have hd2 : d2.xs = u8R (lstB (argL ds 0) ++ lstB (argL ds 1) ++ lstB (argL ds 2)) := by rw [hd2, hd1, u8R_app (lstB (argL ds 0) ++ lstB (argL ds 1))]; rfl
  refine ⟨by rw [hd2, u8R_len, List.length_append, List.length_append, List.length_cons, List.length_nil]; omega, fun n hn => ?_, fun d3 hd3 => ?_⟩
  · obtain rfl : n = ((argL ds 3).length : Int) := List.mem_singleton.1 hn
    exact ⟨by omega, by omega⟩
  have hb : d3.xs = u8R (hdS ds) := by rw [hd3, hd2]; unfold hdS; rw [u8R_app (_ ++ lstB (argL ds 2))]; rfl
  have hE : encS ds = hdS ds ++ (argL ds 3).flatMap encO := rfl
  clear hd0 hd1 hd2 hd3 i0 i1 k0 k1 kn hs s1 e4
  generalize hdS ds = H at *
  generalize argL ds 3 = ops at *
  generalize encS ds = S at *
  refine ⟨fun xs m => ∃ (b : Dat) (i : Nat), i ≤ ops.length ∧ m = ops.length - i ∧ (∃ a e, xs = [a, e, b, .int .i64 i]) ∧ b.xs = u8R (H ++ (ops.take i).flatMap encO), ⟨_, d3, 0, by omega, rfl, ⟨_, _, rfl⟩, by rw [hb, List.take_zero]; simp⟩, ?_⟩
  rintro a1 ha1 e1 he1 b1 hb1 n m ⟨_, i, hi, hm, ⟨_, _, e⟩, hbx⟩
  cases e
  refine ⟨fun hlt => ?_, fun hge => ?_⟩
  · have hi2 : i < ops.length := by omega
    have hp := kp i hi2
    have hol := ops_len k3 kp i
    have hsu := flat_succ (f := encO) hi2
    have htl := flat_take_le (f := encO) ops (i + 1)
    rw [hsu] at htl
    simp only [Int.toNat_natCast]
    generalize ops.getD i [] = r at *
    obtain ⟨p1, p2, p3, p4, p5⟩ := hp
    have hdl := encs4_len (rowI r 0) (rowI r 1) (rowI r 2) ((oDo r).length : Int)
    refine ⟨by omega, fun A c => ⟨?_, fun n hn => ?_, fun b2 hb2 => ?_⟩⟩
    · rw [hbx, u8R_len, List.length_append]
      show _ + 10 * 4 ≤ 90000000
      omega
    · have hn : n ∈ [rowI r 0, rowI r 1, rowI r 2, ((oDo r).length : Int)] := hn
      simp only [List.mem_cons, List.not_mem_nil, or_false] at hn
      rcases hn with rfl | rfl | rfl | rfl
      · exact p2
      · exact p3
      · exact p4
      · exact ⟨by omega, by omega⟩
    have hb2 : b2.xs = u8R (H ++ (ops.take i).flatMap encO ++ hdO r) := by rw [hb2, hbx, u8R_app (H ++ (ops.take i).flatMap encO)]; rfl
    refine ⟨fun xs m => ∃ (b : Dat) (t : Nat), t ≤ (oDo r).length ∧ m = (oDo r).length - t ∧ (∃ a e, xs = [a, e, b, .int .i64 t]) ∧ b.xs = u8R (H ++ (ops.take i).flatMap encO ++ hdO r ++ ((oDo r).take t).flatMap encD), ⟨_, b2, 0, by omega, rfl, ⟨_, _, rfl⟩, by rw [hb2, List.take_zero]; simp⟩, ?_⟩
    rintro a2 ha2 e2 he2 b3 hb3 n2 m2 ⟨_, t, ht, hm2, ⟨_, _, e⟩, hbx2⟩
    cases e
    refine ⟨fun hlt2 => ?_, fun hge2 => ?_⟩
    · have ht2 : t < (oDo r).length := by unfold oDo; omega
      have hd := p5 t ht2
      have hdo := do_len ⟨p1, p2, p3, p4, p5⟩ t
      have hsu2 := flat_succ (f := encD) ht2
      have htl2 := flat_take_le (f := encD) (oDo r) (t + 1)
      rw [hsu2] at htl2
      simp only [Int.toNat_natCast]
      change 0 ≤ (t : Int) ∧ _
      generalize hq : (oDo r).getD t [] = q at *
      have hq' : (r.getD 3 (Dat.bool false)).xs.getD t [] = q := hq
      rw [hq']
      have hql := encs4_len (rowI q 0) (rowI q 1) (rowI q 2) (rowI q 3)
      have hqb := lstB_len (dLst q)
      obtain ⟨q1, q2, q3, q4, q5, q6⟩ := hd
      refine ⟨by omega, fun A c => ⟨?_, fun n hn => ?_, fun b4 hb4 => ⟨?_, q6, fun b5 hb5 => ?_⟩⟩⟩
      · rw [hbx2, u8R_len, List.length_append, List.length_append, List.length_append]
        show _ + 10 * 4 ≤ 90000000
        unfold hdO
        omega
      · have hn : n ∈ [rowI q 0, rowI q 1, rowI q 2, rowI q 3] := hn
        simp only [List.mem_cons, List.not_mem_nil, or_false] at hn
        rcases hn with rfl | rfl | rfl | rfl
        · exact q2
        · exact q3
        · exact q4
        · exact q5
      · have e : (nums [[q.getD 0 (Dat.int .i64 0)], [q.getD 1 (Dat.int .i64 0)], [q.getD 2 (Dat.int .i64 0)], [q.getD 3 (Dat.int .i64 0)]]) = [rowI q 0, rowI q 1, rowI q 2, rowI q 3] := rfl
        rw [hb4, hbx2, e, List.length_append, u8R_len, u8R_len, List.length_append, List.length_append, List.length_append]
        change _ + 10 * (dLst q).length ≤ 89999990
        unfold hdO
        omega
      have hb5 : b5.xs = u8R (H ++ (ops.take i).flatMap encO ++ hdO r ++ ((oDo r).take (t + 1)).flatMap encD) := by
        rw [hb5, hb4, hbx2, hsu2]
        change _ ++ u8R (encs [rowI q 0, rowI q 1, rowI q 2, rowI q 3]) ++ u8R (lstB (dLst q)) = _
        unfold encD
        simp only [u8R_app, List.append_assoc]
      refine ⟨fun hx A c => long ?_ A c, fun hx => ⟨_, (by omega : (oDo r).length - (t + 1) < _), b5, t + 1, by omega, rfl, ⟨_, _, by rw [wrap64 (by omega) (by omega)]; rfl⟩, hb5⟩⟩
      rw [hb5, u8R_len, hsu2] at hx
      have eO : encO r = hdO r ++ (oDo r).flatMap encD := rfl
      rw [eO] at htl
      rw [hE]
      simp only [List.length_append] at hx htl htl2 ⊢
      omega
    · have ht3 : t = (oDo r).length := by unfold oDo at *; omega
      refine ⟨_, (by omega : ops.length - (i + 1) < _), b3, i + 1, by omega, rfl, ⟨_, _, by rw [wrap64 (by omega) (by omega)]; rfl⟩, ?_⟩
      rw [hbx2, ht3, List.take_length, hsu]
      unfold encO
      simp only [List.append_assoc]
  · have hi3 : i = ops.length := by omega
    rw [hi3, List.take_length, ← hE] at hbx
    refine ⟨fun hx A c => ?_, fun hx => ?_⟩
    · exact long (by rw [hbx, u8R_len] at hx; omega) A c
    · exact h _ 0 (fun hx2 => absurd hx2 (by rw [hbx, u8R_len] at hx; omega)) (fun _ => ⟨rfl, hbx⟩))
noncomputable def con_sBytes : Con E0 := ⟨k_sBytes, sg_sBytes, sBytes_s, rfl, bo_sBytes, sBytes_h⟩
end Go.Proofs.YtbpbdanggilnpaaDoor
end

section
namespace Go.Proofs.YtbpbdanggilnpaaDoor
open Go.RowKit
set_option linter.unusedVariables false
set_option linter.unusedSimpArgs false

/-! what is taken, as bytes -/
def Back {α : Type} (p : P1 α) (e : α → List Nat) (ok : α → Prop) : Prop := ∀ x r, ok x → p (e x ++ r) = .ok (x, r)
def Cano {α : Type} (p : P1 α) (e : α → List Nat) (ok : α → Prop) : Prop := ∀ l x r, bytes l → p l = .ok (x, r) → l = e x ++ r ∧ ok x
theorem bytes_r {a b : List Nat} (h : bytes (a ++ b)) : bytes b := fun c hc => h c (List.mem_append_right _ hc)
theorem bnd_inv {α β : Type} {p : P1 α} {f : α → P1 β} {l r : List Nat} {y : β} (h : bnd p f l = .ok (y, r)) : ∃ x r1, p l = .ok (x, r1) ∧ f x r1 = .ok (y, r) := by
  unfold bnd at h
  cases e : p l with
  | error n => rw [e] at h; cases h
  | ok q => rw [e] at h; exact ⟨q.1, q.2, rfl, h⟩
theorem back_N : Back pN mth.encI okN := fun n r h => by
  have := mth.tk_enc n r h.1 h.2
  rw [pN_0 (by rw [this]), this]
  show Except.ok (n, (mth.encI n ++ r).drop (mth.encI n).length) = _
  rw [List.drop_left]
theorem cano_N : Cano pN mth.encI okN := fun l n r hb h => by
  by_cases h0 : (mth.tk 0 0 l).2.2 = 0
  · rw [pN_0 h0] at h
    obtain ⟨h1, h2⟩ := Prod.mk.inj (Except.ok.inj h)
    have hc := mth.tk_canon l _ _ hb (show mth.tk 0 0 l = ((mth.tk 0 0 l).1, (mth.tk 0 0 l).2.1, 0) by rw [← h0])
    refine ⟨?_, ?_⟩
    · rw [← h1, ← hc.1, ← h2, List.take_append_drop]
    · rw [← h1]; exact ⟨hc.2.2.2.1, hc.2.2.2.2⟩
  · rw [pN_1 h0] at h; cases h
theorem back_L (most : Int) (hm : most ≤ 100000) : Back (pL most) mth.encL fun l => mth.Ok l ∧ (l.length : Int) ≤ most := fun l r ⟨h1, h2⟩ => by
  have := mth.tkL_back l r most h1 (by omega) h2
  unfold pL
  rw [if_pos (by rw [this]), this]
theorem cano_L (most : Int) : Cano (pL most) mth.encL fun l => mth.Ok l ∧ (l.length : Int) ≤ most := fun l x r hb h => by
  unfold pL at h
  split at h
  · rename_i h0
    obtain ⟨h1, h2⟩ := Prod.mk.inj (Except.ok.inj h)
    have := mth.tkL_canon l most _ _ hb (show mth.tkL l most = ((mth.tkL l most).1, (mth.tkL l most).2.1, 0) by rw [← h0])
    rw [← h1, ← h2]
    exact ⟨this.1.symm, this.2.1, this.2.2⟩
  · cases h
theorem back_C (most : Int) (hm : most ≤ 100000) : Back (pC most) mth.encI fun n => 0 ≤ n ∧ n ≤ most := fun n r ⟨h0, h1⟩ => by
  unfold pC
  rw [bnd_of (back_N n r ⟨by omega, by omega⟩), if_neg (by omega), if_neg (by omega)]; rfl
theorem cano_C (most : Int) : Cano (pC most) mth.encI fun n => 0 ≤ n ∧ n ≤ most := fun l n r hb h => by
  have hr := pC_rng h
  obtain ⟨x, r1, h1, h2⟩ := bnd_inv h
  have hc := cano_N l x r1 hb h1
  have : x = n ∧ r1 = r := by
    by_cases g0 : x < 0
    · rw [if_pos g0] at h2; cases h2
    · rw [if_neg g0] at h2
      by_cases g1 : most < x
      · rw [if_pos g1] at h2; cases h2
      · rw [if_neg g1] at h2; cases h2; exact ⟨rfl, rfl⟩
  obtain ⟨rfl, rfl⟩ := this
  exact ⟨hc.1, hr⟩
theorem back_many {α : Type} {p : P1 α} {e : α → List Nat} {ok : α → Prop} (h : Back p e ok) : ∀ (xs : List α) (r : List Nat), (∀ x ∈ xs, ok x) → pMany p xs.length (xs.flatMap e ++ r) = .ok (xs, r)
  | [], r, _ => rfl
  | a :: xs, r, ho => by
    rw [List.flatMap_cons, List.append_assoc, List.length_cons, pMany, bnd_of (h a _ (ho a List.mem_cons_self)), bnd_of (back_many h xs r fun x hx => ho x (List.mem_cons_of_mem _ hx))]; rfl
theorem cano_many {α : Type} {p : P1 α} {e : α → List Nat} {ok : α → Prop} (h : Cano p e ok) : ∀ (n : Nat) (l : List Nat) (xs : List α) (r : List Nat), bytes l → pMany p n l = .ok (xs, r) → l = xs.flatMap e ++ r ∧ xs.length = n ∧ ∀ x ∈ xs, ok x
  | 0, l, xs, r, hb, hp => by
    cases hp
    exact ⟨rfl, rfl, fun x hx => by cases hx⟩
  | n + 1, l, xs, r, hb, hp => by
    rw [pMany] at hp
    obtain ⟨x, r1, h1, hp⟩ := bnd_inv hp
    obtain ⟨ys, r2, h2, hp⟩ := bnd_inv hp
    cases hp
    obtain ⟨c1, c2⟩ := h l x r1 hb h1
    subst c1
    obtain ⟨d1, d2, d3⟩ := cano_many h n r1 ys r (bytes_r hb) h2
    refine ⟨by rw [List.flatMap_cons, List.append_assoc, ← d1], by rw [List.length_cons, d2], fun y hy => ?_⟩
    rcases List.mem_cons.1 hy with rfl | hy
    · exact c2
    · exact d3 y hy
def eD (x : DecT) : List Nat := mth.encI x.1 ++ (mth.encI x.2.1 ++ (mth.encI x.2.2.1 ++ (mth.encI x.2.2.2.1 ++ mth.encL x.2.2.2.2)))
def okDt (x : DecT) : Prop := okN x.1 ∧ okN x.2.1 ∧ okN x.2.2.1 ∧ okN x.2.2.2.1 ∧ mth.Ok x.2.2.2.2 ∧ (x.2.2.2.2.length : Int) ≤ 400
def eO (x : OpT) : List Nat := mth.encI x.1 ++ (mth.encI x.2.1 ++ (mth.encI x.2.2.1 ++ (mth.encI (x.2.2.2.length : Int) ++ x.2.2.2.flatMap eD)))
def okOt (x : OpT) : Prop := okN x.1 ∧ okN x.2.1 ∧ okN x.2.2.1 ∧ (x.2.2.2.length : Int) ≤ 16 ∧ ∀ y ∈ x.2.2.2, okDt y
def eS (x : ScrT) : List Nat := mth.encL x.1 ++ (mth.encL x.2.1 ++ (mth.encL x.2.2.1 ++ (mth.encI (x.2.2.2.length : Int) ++ x.2.2.2.flatMap eO)))
def okSt (x : ScrT) : Prop := (mth.Ok x.1 ∧ (x.1.length : Int) ≤ 100) ∧ (mth.Ok x.2.1 ∧ (x.2.1.length : Int) ≤ 100) ∧ (mth.Ok x.2.2.1 ∧ (x.2.2.1.length : Int) ≤ 4096) ∧ (x.2.2.2.length : Int) ≤ 1000 ∧ ∀ y ∈ x.2.2.2, okOt y
theorem back_D : Back pD eD okDt := fun ⟨a, b, c, d, l⟩ r ⟨h1, h2, h3, h4, h5, h6⟩ => by
  unfold pD eD
  simp only [List.append_assoc]
  rw [bnd_of (back_N a _ h1), bnd_of (back_N b _ h2), bnd_of (back_N c _ h3), bnd_of (back_N d _ h4), bnd_of (back_L 400 (by omega) l _ ⟨h5, h6⟩)]; rfl
theorem back_O : Back pO eO okOt := fun ⟨a, b, c, l⟩ r ⟨h1, h2, h3, h4, h5⟩ => by
  unfold pO eO
  simp only [List.append_assoc]
  rw [bnd_of (back_N a _ h1), bnd_of (back_N b _ h2), bnd_of (back_N c _ h3), bnd_of (back_C 16 (by omega) (l.length : Int) _ ⟨by omega, h4⟩), Int.toNat_natCast, bnd_of (back_many back_D l _ h5)]; rfl
theorem back_S : Back pS eS okSt := fun ⟨a, b, c, l⟩ r ⟨h1, h2, h3, h4, h5⟩ => by
  unfold pS eS
  simp only [List.append_assoc]
  rw [bnd_of (back_L 100 (by omega) a _ h1), bnd_of (back_L 100 (by omega) b _ h2), bnd_of (back_L 4096 (by omega) c _ h3), bnd_of (back_C 1000 (by omega) (l.length : Int) _ ⟨by omega, h4⟩), Int.toNat_natCast, bnd_of (back_many back_O l _ h5)]; rfl
theorem cano_D : Cano pD eD okDt := fun l x r hb h => by
  unfold pD at h
  obtain ⟨a, r1, g1, h9⟩ := bnd_inv h
  replace h := h9
  clear h9
  obtain ⟨e1, k1⟩ := cano_N _ _ _ hb g1
  subst e1
  replace hb := bytes_r hb
  obtain ⟨b, r2, g2, h9⟩ := bnd_inv h
  replace h := h9
  clear h9
  obtain ⟨e2, k2⟩ := cano_N _ _ _ hb g2
  subst e2
  replace hb := bytes_r hb
  obtain ⟨c, r3, g3, h9⟩ := bnd_inv h
  replace h := h9
  clear h9
  obtain ⟨e3, k3⟩ := cano_N _ _ _ hb g3
  subst e3
  replace hb := bytes_r hb
  obtain ⟨d, r4, g4, h9⟩ := bnd_inv h
  replace h := h9
  clear h9
  obtain ⟨e4, k4⟩ := cano_N _ _ _ hb g4
  subst e4
  replace hb := bytes_r hb
  obtain ⟨q, r5, g5, h9⟩ := bnd_inv h
  replace h := h9
  clear h9
  obtain ⟨e5, k5, k6⟩ := cano_L _ _ _ _ hb g5
  subst e5
  cases h
  exact ⟨by unfold eD; simp only [List.append_assoc], k1, k2, k3, k4, k5, k6⟩
theorem cano_O : Cano pO eO okOt := fun l x r hb h => by
  unfold pO at h
  obtain ⟨a, r1, g1, h9⟩ := bnd_inv h
  replace h := h9
  clear h9
  obtain ⟨e1, k1⟩ := cano_N _ _ _ hb g1
  subst e1
  replace hb := bytes_r hb
  obtain ⟨b, r2, g2, h9⟩ := bnd_inv h
  replace h := h9
  clear h9
  obtain ⟨e2, k2⟩ := cano_N _ _ _ hb g2
  subst e2
  replace hb := bytes_r hb
  obtain ⟨c, r3, g3, h9⟩ := bnd_inv h
  replace h := h9
  clear h9
  obtain ⟨e3, k3⟩ := cano_N _ _ _ hb g3
  subst e3
  replace hb := bytes_r hb
  obtain ⟨n, r4, g4, h9⟩ := bnd_inv h
  replace h := h9
  clear h9
  obtain ⟨e4, k4, k5⟩ := cano_C _ _ _ _ hb g4
  subst e4
  replace hb := bytes_r hb
  obtain ⟨q, r5, g5, h9⟩ := bnd_inv h
  replace h := h9
  clear h9
  obtain ⟨e5, k6, k7⟩ := cano_many cano_D _ _ _ _ hb g5
  subst e5
  cases h
  have hn : n = (q.length : Int) := by omega
  subst hn
  exact ⟨by unfold eO; simp only [List.append_assoc], k1, k2, k3, k5, k7⟩
theorem cano_S : Cano pS eS okSt := fun l x r hb h => by
  unfold pS at h
  obtain ⟨a, r1, g1, h9⟩ := bnd_inv h
  replace h := h9
  clear h9
  obtain ⟨e1, k1⟩ := cano_L _ _ _ _ hb g1
  subst e1
  replace hb := bytes_r hb
  obtain ⟨b, r2, g2, h9⟩ := bnd_inv h
  replace h := h9
  clear h9
  obtain ⟨e2, k2⟩ := cano_L _ _ _ _ hb g2
  subst e2
  replace hb := bytes_r hb
  obtain ⟨c, r3, g3, h9⟩ := bnd_inv h
  replace h := h9
  clear h9
  obtain ⟨e3, k3⟩ := cano_L _ _ _ _ hb g3
  subst e3
  replace hb := bytes_r hb
  obtain ⟨n, r4, g4, h9⟩ := bnd_inv h
  replace h := h9
  clear h9
  obtain ⟨e4, k4, k5⟩ := cano_C _ _ _ _ hb g4
  subst e4
  replace hb := bytes_r hb
  obtain ⟨q, r5, g5, h9⟩ := bnd_inv h
  replace h := h9
  clear h9
  obtain ⟨e5, k6, k7⟩ := cano_many cano_O _ _ _ _ hb g5
  subst e5
  cases h
  have hn : n = (q.length : Int) := by omega
  subst hn
  exact ⟨by unfold eS; simp only [List.append_assoc], k1, k2, k3, k5, k7⟩
/-! rows, read as what is taken -/
def triD (r : List Dat) : DecT := (rowI r 0, rowI r 1, rowI r 2, rowI r 3, nums (dLst r))
def triO (r : List Dat) : OpT := (rowI r 0, rowI r 1, rowI r 2, (oDo r).map triD)
def triS (ds : List Dat) : ScrT := (nums (argL ds 0), nums (argL ds 1), nums (argL ds 2), (argL ds 3).map triO)
theorem tri_enc_D {x : DecT} {r : List Dat} (h : encDec x r) : triD r = x := by
  obtain ⟨d, rfl, hd⟩ := h
  obtain ⟨a, b, c, e, l⟩ := x
  show (a, b, c, e, nums d.xs) = _
  rw [hd, nums_i64]
theorem tri_all {α : Type} {enc : α → List Dat → Prop} {tri : List Dat → α} (h : ∀ x r, enc x r → tri r = x) {xs : List α} {rows : List (List Dat)} (ha : All2 enc xs rows) : rows.map tri = xs := by
  induction ha with
  | nil => rfl
  | cons h1 _ ih => rw [List.map_cons, h _ _ h1, ih]
theorem tri_enc_O {x : OpT} {r : List Dat} (h : encOp x r) : triO r = x := by
  obtain ⟨d, rfl, hd⟩ := h
  obtain ⟨a, b, c, l⟩ := x
  show (a, b, c, d.xs.map triD) = _
  rw [tri_all (tri := triD) (fun _ _ => tri_enc_D) hd]
theorem tri_enc_S {x : ScrT} {rs : List Dat} (h : encScr x rs) : triS rs = x := by
  obtain ⟨d0, d1, d2, d3, rfl, h0, h1, h2, h3⟩ := h
  obtain ⟨a, b, c, l⟩ := x
  show (nums d0.xs, nums d1.xs, nums d2.xs, d3.xs.map triO) = _
  rw [h0, h1, h2, nums_i64, nums_i64, nums_i64, tri_all (tri := triO) (fun _ _ => tri_enc_O) h3]
theorem encAll_eq (l : List Int) : mth.encAll l = encs l := by
  induction l with
  | nil => rfl
  | cons a l ih => rw [encs_cons, ← ih]; rfl
theorem encL_lst (l : List (List Dat)) : mth.encL (nums l) = lstB l := by
  unfold mth.encL lstB
  rw [encAll_eq, nums_len, encs_cons]
theorem eD_tri (r : List Dat) : eD (triD r) = encD r := by
  unfold eD encD triD
  rw [encL_lst]
  simp only [encs, List.flatMap_cons, List.flatMap_nil, List.append_nil, List.append_assoc]
theorem flat_map {α : Type} {e : α → List Nat} {e' : List Dat → List Nat} {tri : List Dat → α} (h : ∀ r, e (tri r) = e' r) (rows : List (List Dat)) : (rows.map tri).flatMap e = rows.flatMap e' := by
  induction rows with
  | nil => rfl
  | cons a l ih => rw [List.map_cons, List.flatMap_cons, List.flatMap_cons, h, ih]
theorem eO_tri (r : List Dat) : eO (triO r) = encO r := by
  unfold eO encO triO hdO
  simp only [encs, List.flatMap_cons, List.flatMap_nil, List.append_nil, List.append_assoc, List.length_map, flat_map eD_tri]
theorem eS_tri (ds : List Dat) : eS (triS ds) = encS ds := by
  unfold eS encS triS hdS
  simp only [encL_lst, encs, List.flatMap_cons, List.flatMap_nil, List.append_nil, List.append_assoc, List.length_map, flat_map eO_tri]
theorem map_at {α : Type} {tri : List Dat → α} {A B : List (List Dat)} (h : A.map tri = B.map tri) : A.length = B.length ∧ ∀ i, i < A.length → tri (A.getD i []) = tri (B.getD i []) := by
  have hl : A.length = B.length := by simpa using congrArg List.length h
  refine ⟨hl, fun i hi => ?_⟩
  have := congrArg (fun l => l[i]?) h
  simp only [List.getElem?_map] at this
  rw [List.getElem?_eq_getElem hi, List.getElem?_eq_getElem (hl ▸ hi)] at this
  rw [List.getD_eq_getElem?_getD, List.getD_eq_getElem?_getD, List.getElem?_eq_getElem hi, List.getElem?_eq_getElem (hl ▸ hi)]
  simpa using this
theorem tri_DecR {a b : List Dat} (h : triD a = triD b) : DecR a b := by
  unfold triD at h
  simp only [Prod.mk.injEq] at h
  exact ⟨h.1, h.2.1, h.2.2.1, h.2.2.2.1, h.2.2.2.2⟩
theorem tri_OpR {a b : List Dat} (h : triO a = triO b) : OpR a b := by
  unfold triO at h
  simp only [Prod.mk.injEq] at h
  obtain ⟨hl, hk⟩ := map_at h.2.2.2
  exact ⟨h.1, h.2.1, h.2.2.1, hl, fun k hk' => tri_DecR (hk k hk')⟩
theorem tri_OpsR {A B : List (List Dat)} (h : A.map triO = B.map triO) : OpsR A B :=
  ⟨(map_at h).1, fun i hi => tri_OpR ((map_at h).2 i hi)⟩
theorem firstE_map {α : Type} {tri : List Dat → α} {f : List Dat → Int} (hf : ∀ a b, tri a = tri b → f a = f b) : ∀ {A B : List (List Dat)}, A.map tri = B.map tri → firstE f A = firstE f B
  | [], [], _ => rfl
  | [], b :: B, h => by simp at h
  | a :: A, [], h => by simp at h
  | a :: A, b :: B, h => by
    rw [List.map_cons, List.map_cons] at h
    injection h with h1 h2
    show (if f a = 0 then firstE f A else f a) = (if f b = 0 then firstE f B else f b)
    rw [hf a b h1, firstE_map hf h2]
theorem dec_tri (a b : List Dat) (h : triD a = triD b) : decE a = decE b := by
  obtain ⟨h1, h2, h3, h4, h5⟩ := tri_DecR h
  have hl : (dLst a).length = (dLst b).length := by rw [← nums_len, h5, nums_len]
  unfold decE
  rw [h1, h2, h3, h4, hl]
theorem op_tri (a b : List Dat) (h : triO a = triO b) : opR a = opR b := by
  have hm := h
  unfold triO at hm
  simp only [Prod.mk.injEq] at hm
  obtain ⟨h1, h2, h3, hl⟩ := hm
  have hl2 := (map_at hl).1
  unfold opR opE
  rw [h1, h2, h3, hl2, firstE_map dec_tri hl]
theorem scr_tri {a b : List Dat} (h : triS a = triS b) : scrD a = scrD b := by
  unfold triS at h
  simp only [Prod.mk.injEq] at h
  obtain ⟨h1, h2, h3, h4⟩ := h
  have hl : (argL a 2).length = (argL b 2).length := by rw [← nums_len, h3, nums_len]
  unfold scrD scrN
  rw [h1, h2, hl, (map_at h4).1, firstE_map op_tri h4]
theorem readQ.mono {l : List Nat} {K K' : List Dat → Int → Prop} (h : readQ l K) (hk : ∀ rs n, K rs n → K' rs n) : readQ l K' := by
  unfold readQ Run at *
  cases e : pS l with
  | error n => rw [e] at h; exact hk _ _ h
  | ok q =>
    obtain ⟨x, r⟩ := q
    rw [e] at h
    by_cases hr : r = []
    · subst hr
      simp only [if_true] at h ⊢
      intro rs hs
      have := h rs hs
      split at this
      · rename_i h0; rw [if_pos h0]; exact hk _ _ this
      · rename_i h0; rw [if_neg h0]; exact hk _ _ this
    · simp only [if_neg hr] at h ⊢
      exact hk _ _ h
/-- two answers for the same bytes -/
theorem readQ_two {l : List Nat} {P : List Dat → Int → List Dat → Int → Prop} (hb : bytes l)
    (h1 : ∀ n, n ≠ 0 → P scrZ n scrZ n) (h2 : ∀ x rs rs', pS l = .ok (x, []) → encScr x rs → encScr x rs' → scrD rs = 0 → P rs 0 rs' 0) :
    readQ l fun rs n => readQ l fun rs' n' => P rs n rs' n' := by
  have hz := enz_S l
  unfold readQ Run
  cases e : pS l with
  | error n => exact h1 n (hz n e)
  | ok q =>
    obtain ⟨x, r⟩ := q
    by_cases hr : r = []
    · subst hr
      simp only [if_true]
      intro rs h
      by_cases hs : scrD rs = 0
      · rw [if_pos hs]
        intro rs' h'
        rw [if_pos (by rw [← hs]; exact scr_tri ((tri_enc_S h').trans (tri_enc_S h).symm))]
        exact h2 x rs rs' e h h' hs
      · rw [if_neg hs]
        intro rs' h'
        have e2 : scrD rs' = scrD rs := scr_tri ((tri_enc_S h').trans (tri_enc_S h).symm)
        rw [if_neg (by rw [e2]; exact hs), e2]
        exact h1 _ hs
    · simp only [if_neg hr]
      exact h1 3 (by decide)
/-- one answer -/
theorem readQ_one {l : List Nat} {P : List Dat → Int → Prop} 
    (h1 : ∀ n, n ≠ 0 → P scrZ n) (h2 : ∀ x rs, pS l = .ok (x, []) → encScr x rs → scrD rs = 0 → P rs 0) :
    readQ l fun rs n => P rs n := by
  have hz := enz_S l
  unfold readQ Run
  cases e : pS l with
  | error n => exact h1 n (hz n e)
  | ok q =>
    obtain ⟨x, r⟩ := q
    by_cases hr : r = []
    · subst hr
      simp only [if_true]
      intro rs h
      by_cases hs : scrD rs = 0
      · rw [if_pos hs]
        exact h2 x rs e h hs
      · rw [if_neg hs]
        exact h1 _ hs
    · simp only [if_neg hr]
      exact h1 3 (by decide)
end Go.Proofs.YtbpbdanggilnpaaDoor
end

section
namespace Go.Proofs.YtbpbdanggilnpaaDoor
open Go.RowKit
set_option linter.unusedVariables false
set_option linter.unusedSimpArgs false

theorem u8_1 (a : Int) : u8R (encs [a]) = u8R (mth.encI a) := by unfold encs; simp only [List.flatMap_cons, List.flatMap_nil, List.append_nil]
theorem u8_4 (a b c d : Int) : u8R (encs [a, b, c, d]) = u8R (mth.encI a) ++ (u8R (mth.encI b) ++ (u8R (mth.encI c) ++ u8R (mth.encI d))) := by
  unfold encs; simp only [List.flatMap_cons, List.flatMap_nil, List.append_nil, u8R_app]
-- lacks mulligan/mulliganref35.Bytes : rBytes35
def rBytes35_s : Spec := fun ds Q => SmS ds ∧ BytesS ds fun d n => Q [d, .int .i64 n]
end Go.Proofs.YtbpbdanggilnpaaDoor
end

section
namespace Go.Proofs.YtbpbdanggilnpaaDoor
open Go.RowKit
set_option linter.unusedVariables false
set_option linter.unusedSimpArgs false

def nameL : List Dat := [.val (strB [100, 101, 99, 105, 100, 101]), .val (strB [116, 97, 107, 101, 98, 97, 99, 107]), .val (strB [114, 101, 119, 105, 110, 100]), .val (strB [98, 97, 99, 107, 117, 112]), .val (strB [108, 111, 111, 112]), .val (strB [121, 105, 101, 108, 100]), .val (strB [98, 108, 111, 99, 107]), .val (strB [112, 117, 110, 105, 115, 104]), .val (strB [110, 101, 120, 116])]
def nameD (k : Int) : Dat := if k < 0 ∨ 9 ≤ k then .val (strB []) else nameL.getD k.toNat (.bool false)
-- lacks mulligan/script.Name : sName
def sName_s : Spec := fun ds Q => Q [nameD (argI ds 0)]
def rName_s : Spec := fun ds Q => Q [nameD (argI ds 0)]
theorem okN_wf {n : Int} (h : (Lit.int .i64 n).wf = true) : okN n := bd_i64 h
theorem wf_okN {n : Int} (h : okN n) : (Lit.int .i64 n).wf = true := by
  obtain ⟨h1, h2⟩ := h
  simp only [Lit.wf, IntKind.min, IntKind.max, IntKind.signed, IntKind.bits]
  simp
  omega
theorem xs_in {d : Dat} (h : InD d) : ∀ row ∈ d.xs, ∀ x ∈ row, InD x := by
  cases h with
  | list v sz xs hl h => exact h
  | _ => intro row hr; cases hr
theorem xs_has {t : Nat} {d : Dat} (h : Has E0.Δ (.list t) d) : ∀ row ∈ d.xs, row.length = (E0.Δ.row t).length ∧ ∀ (c : Nat) (s : Srt) (x : Dat), (E0.Δ.row t)[c]? = some s → row[c]? = some x → Has E0.Δ s x := by
  cases h with
  | list r A n c xs hl hh => exact fun row hr => ⟨hl row hr, hh row hr⟩
theorem col_has {t : Nat} {D : Dat} (h : Has E0.Δ (.list t) D) (hi : InD D) {row : List Dat} (hr : row ∈ D.xs) {c : Nat} {s : Srt} (hc : (E0.Δ.row t)[c]? = some s) : ∃ x, row[c]? = some x ∧ Has E0.Δ s x ∧ InD x := by
  obtain ⟨hl, hh⟩ := xs_has h row hr
  have hlt : c < row.length := by
    rw [hl]
    exact (List.getElem?_eq_some_iff.1 hc).1
  exact ⟨row[c], List.getElem?_eq_getElem hlt, hh c s _ hc (List.getElem?_eq_getElem hlt), xs_in hi row hr _ (List.getElem_mem hlt)⟩
theorem col_int {t : Nat} {D : Dat} (h : Has E0.Δ (.list t) D) (hi : InD D) {row : List Dat} (hr : row ∈ D.xs) {c : Nat} (hc : (E0.Δ.row t)[c]? = some (.int .i64)) : okN (rowI row c) := by
  obtain ⟨x, hx, h1, h2⟩ := col_has h hi hr hc
  have e : rowI row c = x.toInt := by
    unfold rowI
    rw [List.getD_eq_getElem?_getD, hx]; rfl
  rw [e]
  cases h1 with
  | int k n =>
    cases h2 with
    | int k n hw => exact okN_wf hw
theorem col_list {t t' : Nat} {D : Dat} (h : Has E0.Δ (.list t) D) (hi : InD D) {row : List Dat} (hr : row ∈ D.xs) {c : Nat} (hc : (E0.Δ.row t)[c]? = some (.list t')) : Has E0.Δ (.list t') (row.getD c (.bool false)) ∧ InD (row.getD c (.bool false)) := by
  obtain ⟨x, hx, h1, h2⟩ := col_has h hi hr hc
  rw [List.getD_eq_getElem?_getD, hx]
  exact ⟨h1, h2⟩
theorem nums_in {D : Dat} (h : Has E0.Δ (.list 3) D) (hi : InD D) : ∀ n ∈ nums D.xs, okN n := fun n hn => by
  obtain ⟨row, hr, rfl⟩ := List.mem_map.1 hn
  exact col_int h hi hr (by rfl)
theorem smS_of {ds : List Dat} (hl : 4 ≤ ds.length) (h0 : ∀ i, i < 3 → Has E0.Δ (.list 3) (ds.getD i (.bool false))) (h3 : Has E0.Δ (.list 68) (ds.getD 3 (.bool false))) (hi : ∀ i, i < 4 → InD (ds.getD i (.bool false))) (hs : ShortS ds) : SmS ds := by
  refine ⟨hs.1, hs.2.1, fun i hi3 => nums_in (h0 i hi3) (hi i (by omega)), fun i hi' => ?_⟩
  have hr : (argL ds 3).getD i [] ∈ argL ds 3 := getD_memL hi'
  obtain ⟨a1, a2⟩ := hs.2.2 i hi'
  have H := col_list h3 (hi 3 (by omega)) hr (c := 3) (t' := 64) (by rfl)
  have q0 := col_int h3 (hi 3 (by omega)) hr (c := 0) (by rfl)
  have q1 := col_int h3 (hi 3 (by omega)) hr (c := 1) (by rfl)
  have q2 := col_int h3 (hi 3 (by omega)) hr (c := 2) (by rfl)
  generalize (argL ds 3).getD i [] = r at *
  refine ⟨a1, q0, q1, q2, fun k hk => ?_⟩
  have hq : (oDo r).getD k [] ∈ (r.getD 3 (.bool false)).xs := getD_memL hk
  have K := col_list H.1 H.2 hq (c := 4) (t' := 3) (by rfl)
  exact ⟨Nat.le_trans (a2 k hk) (by omega), col_int H.1 H.2 hq (c := 0) (by rfl), col_int H.1 H.2 hq (c := 1) (by rfl), col_int H.1 H.2 hq (c := 2) (by rfl), col_int H.1 H.2 hq (c := 3) (by rfl), nums_in K.1 K.2⟩
/-! a script as the chapter's -/
theorem norm_opR (r : List Dat) : opR (normO r) = opR r := by
  unfold opR
  rw [norm_rowI _ 0 (by omega), norm_rowI _ 1 (by omega), norm_rowI _ 2 (by omega), norm_do]
theorem norm_encO (r : List Dat) : encO (normO r) = encO r := by
  unfold encO hdO
  rw [norm_rowI _ 0 (by omega), norm_rowI _ 1 (by omega), norm_rowI _ 2 (by omega), norm_do]
theorem norm_firstE (A : List (List Dat)) : firstE opR (A.map normO) = firstE opR A := by
  induction A with
  | nil => rfl
  | cons a A ih =>
    show (if opR (normO a) = 0 then firstE opR (A.map normO) else opR (normO a)) = if opR a = 0 then firstE opR A else opR a
    rw [norm_opR, ih]
theorem norm_flat (A : List (List Dat)) : (A.map normO).flatMap encO = A.flatMap encO := by
  rw [List.flatMap_map]
  exact congrArg (fun f => A.flatMap f) (funext norm_encO)
theorem norm_smP {r : List Dat} (h : SmP r) : SmP (normO r) := by
  unfold SmP
  rw [norm_rowI _ 0 (by omega), norm_rowI _ 1 (by omega), norm_rowI _ 2 (by omega), norm_do]
  exact h
def docD (ds : List Dat) (d : Dat) : List Dat := [ds.getD 0 (.bool false), ds.getD 1 (.bool false), ds.getD 2 (.bool false), d]
theorem norm_scr {ds : List Dat} {d : Dat} (h : d.xs = (argL ds 3).map normO) : scrD (docD ds d) = scrD ds := by
  have e3 : argL (docD ds d) 3 = (argL ds 3).map normO := h
  unfold scrD scrN
  rw [e3, List.length_map, norm_firstE]; rfl
theorem norm_enc {ds : List Dat} {d : Dat} (h : d.xs = (argL ds 3).map normO) : encS (docD ds d) = encS ds := by
  have e3 : argL (docD ds d) 3 = (argL ds 3).map normO := h
  unfold encS hdS
  rw [e3, List.length_map, norm_flat]; rfl
theorem norm_smS {ds : List Dat} {d : Dat} (h : d.xs = (argL ds 3).map normO) (hs : SmS ds) : SmS (docD ds d) := by
  have e3 : argL (docD ds d) 3 = (argL ds 3).map normO := h
  obtain ⟨h1, h2, h3, h4⟩ := hs
  unfold SmS
  rw [e3, List.length_map]
  refine ⟨h1, h2, fun i hi => ?_, fun i hi => ?_⟩
  · match i, hi with
    | 0, _ => exact h3 0 (by omega)
    | 1, _ => exact h3 1 (by omega)
    | 2, _ => exact h3 2 (by omega)
  · rw [norm_get hi]
    exact norm_smP (h4 i hi)
/-! bytes are bytes -/
theorem encs_byte' {l : List Int} (h : ∀ n ∈ l, okN n) : ∀ c ∈ encs l, c < 256 := fun c hc => by
  obtain ⟨n, hn, hc⟩ := List.mem_flatMap.1 hc
  exact mth.encF_byte 9 _ (Nat.lt_trans (mth.zig_lt n (h n hn).1 (h n hn).2) (by decide)) c hc
theorem lstB_byte {l : List (List Dat)} (h : ∀ n ∈ nums l, okN n) (hl : l.length ≤ 1000000) : ∀ c ∈ lstB l, c < 256 := encs_byte' fun n hn => by
  rcases List.mem_cons.1 hn with rfl | hn
  · exact ⟨by omega, by omega⟩
  · exact h n hn
theorem encs4_byte {a b c d : Int} (ha : okN a) (hb : okN b) (hc : okN c) (hd : okN d) : ∀ x ∈ encs [a, b, c, d], x < 256 := encs_byte' fun n hn => by
  simp only [List.mem_cons, List.not_mem_nil, or_false] at hn
  rcases hn with rfl | rfl | rfl | rfl <;> assumption
theorem memFlat {f : List Dat → List Nat} {l : List (List Dat)} {c : Nat} (h : c ∈ l.flatMap f) : ∃ i, i < l.length ∧ c ∈ f (l.getD i []) := by
  obtain ⟨r, hr, hc⟩ := List.mem_flatMap.1 h
  obtain ⟨i, hi, e⟩ := List.getElem_of_mem hr
  exact ⟨i, hi, by rw [List.getD_eq_getElem?_getD, List.getElem?_eq_getElem hi]; rw [e]; exact hc⟩
theorem encS_byte {ds : List Dat} (h : SmS ds) (h0 : scrD ds = 0) : ∀ c ∈ encS ds, c < 256 := fun c hc => by
  obtain ⟨k2, k3, kn, kp⟩ := h
  obtain ⟨k0, k1⟩ := scr_0 h0
  unfold encS hdS at hc
  simp only [List.mem_append] at hc
  rcases hc with (((hc | hc) | hc) | hc) | hc
  · exact lstB_byte (kn 0 (by omega)) (by omega) c hc
  · exact lstB_byte (kn 1 (by omega)) (by omega) c hc
  · exact lstB_byte (kn 2 (by omega)) (by omega) c hc
  · exact encs_byte' (fun n hn => by rw [List.mem_singleton.1 hn]; exact ⟨by omega, by omega⟩) c hc
  · obtain ⟨i, hi, hc⟩ := memFlat hc
    obtain ⟨p1, p2, p3, p4, p5⟩ := kp i hi
    generalize (argL ds 3).getD i [] = r at *
    unfold encO hdO at hc
    rcases List.mem_append.1 hc with hc | hc
    · exact encs4_byte p2 p3 p4 ⟨by omega, by omega⟩ c hc
    · obtain ⟨k, hk, hc⟩ := memFlat hc
      obtain ⟨q1, q2, q3, q4, q5, q6⟩ := p5 k hk
      generalize (oDo r).getD k [] = q at *
      unfold encD at hc
      rcases List.mem_append.1 hc with hc | hc
      · exact encs4_byte q2 q3 q4 q5 c hc
      · exact lstB_byte q6 (by omega) c hc
end Go.Proofs.YtbpbdanggilnpaaDoor
end

section
namespace Go.Proofs.YtbpbdanggilnpaaDoor
open Go.RowKit
set_option linter.unusedVariables false
set_option linter.unusedSimpArgs false
/-- rows that are small enough -/
def Sml (A : List (List Dat)) : Prop := A.length ≤ 1000 ∧ ∀ i, i < A.length → (oDo (A.getD i [])).length ≤ 16 ∧ ∀ k, k < (oDo (A.getD i [])).length → (dLst ((oDo (A.getD i [])).getD k [])).length ≤ 400 ∧ okDt (triD ((oDo (A.getD i [])).getD k []))
theorem Sml.sm {A : List (List Dat)} (h : Sml A) : SmO A :=
  ⟨Nat.le_trans h.1 (by omega), fun i hi => ⟨Nat.le_trans (h.2 i hi).1 (by omega), fun k hk => Nat.le_trans ((h.2 i hi).2 k hk).1 (by omega)⟩⟩
theorem mem_tri {α : Type} {tri : List Dat → α} {A : List (List Dat)} {i : Nat} (h : i < A.length) : tri (A.getD i []) ∈ A.map tri :=
  List.mem_map_of_mem (getD_memL h)
theorem sml_of {A : List (List Dat)} {l : List OpT} (h : A.map triO = l) (h1 : (l.length : Int) ≤ 1000) (h2 : ∀ y ∈ l, okOt y) : Sml A := by
  have hl : A.length = l.length := by rw [← h, List.length_map]
  refine ⟨by omega, fun i hi => ?_⟩
  have hm := h2 _ (h ▸ mem_tri hi)
  generalize A.getD i [] = r at *
  obtain ⟨_, _, _, q1, q2⟩ := hm
  have q1 : (((oDo r).map triD).length : Int) ≤ 16 := q1
  rw [List.length_map] at q1
  refine ⟨by omega, fun k hk => ?_⟩
  have hd := q2 _ (mem_tri hk)
  generalize (oDo r).getD k [] = q at *
  have := hd.2.2.2.2.2
  have this : ((nums (dLst q)).length : Int) ≤ 400 := this
  rw [nums_len] at this
  exact ⟨by omega, hd⟩
/-- four cells that hold what was taken -/
structure Held (x : ScrT) (a b c d : Dat) : Prop where
  ok : okSt x
  enc : encScr x [a, b, c, d]
namespace Held
variable {x : ScrT} {a b c d : Dat}
theorem tri (h : Held x a b c d) : (nums a.xs, nums b.xs, nums c.xs, d.xs.map triO) = x := tri_enc_S h.enc
theorem sml (h : Held x a b c d) : Sml d.xs := by
  have e := h.tri
  have o := h.ok
  subst e
  exact sml_of rfl o.2.2.2.1 o.2.2.2.2
theorem lens (h : Held x a b c d) : a.xs.length ≤ 100 ∧ b.xs.length ≤ 100 ∧ c.xs.length ≤ 4096 := by
  have e := h.tri
  have o := h.ok
  subst e
  have h1 := o.1.2
  have h2 := o.2.1.2
  have h3 := o.2.2.1.2
  simp only [nums_len] at h1 h2 h3
  exact ⟨by omega, by omega, by omega⟩
theorem same {a' b' c' d' : Dat} (h : Held x a b c d) (h' : Held x a' b' c' d') : nums a.xs = nums a'.xs ∧ nums b.xs = nums b'.xs ∧ nums c.xs = nums c'.xs ∧ d.xs.map triO = d'.xs.map triO := by
  have e := h.tri.trans h'.tri.symm
  simp only [Prod.mk.injEq] at e
  exact e
end Held
theorem zero_held : Held ([], [], [], []) z1 z1 z1 z4 :=
  ⟨⟨⟨(fun n hn => by cases hn), by decide⟩, ⟨(fun n hn => by cases hn), by decide⟩, ⟨(fun n hn => by cases hn), by decide⟩, by decide, (fun n hn => by cases hn)⟩, z1, z1, z1, z4, rfl, rfl, rfl, rfl, .nil⟩
theorem held_of {l : List Nat} {x : ScrT} {r : List Nat} {a b c d : Dat} (hb : bytes l) (hp : pS l = .ok (x, r)) (he : encScr x [a, b, c, d]) : Held x a b c d :=
  ⟨(cano_S l x r hb hp).2, he⟩
theorem norm_opsL {A B : List (List Dat)} (h : OpsR A B) : OpsR (A.map normO) B := by
  refine ⟨by rw [List.length_map]; exact h.1, fun i hi => ?_⟩
  rw [List.length_map] at hi
  rw [norm_get hi]
  have := h.2 i hi
  unfold OpR at *
  rw [norm_rowI _ 0 (by omega), norm_rowI _ 1 (by omega), norm_rowI _ 2 (by omega), norm_do]
  exact this
theorem two_s {B : Dat} {l : List Nat} {Q : List Dat → List Dat → Prop} (hx : B.xs = u8R l) (hb : bytes l) (hlen : l.length ≤ 90000000)
    (h : ∀ n x a b c d a' b' c' d', Held x a b c d → Held x a' b' c' d' → Q [a, b, c, d, errV n] [a', b', c', d', .int .i64 n]) :
    tParse_s [B] fun rs => rParse35_s [B] fun rs' => Q rs rs' := by
  have hz : ∀ n, Q (scrZ ++ [errV n]) (scrZ ++ [.int .i64 n]) := fun n => h n _ z1 z1 z1 z4 z1 z1 z1 z4 zero_held zero_held
  refine ⟨l, hx, hb, hlen, ?_⟩
  by_cases h0 : 65536 < l.length
  · rw [if_pos h0]
    exact ⟨l, hx, hb, hlen, by rw [if_pos h0]; exact hz 3⟩
  · rw [if_neg h0]
    refine (readQ_two (P := fun rs n rs' n' => Q (rs ++ [errV n]) (rs' ++ [.int .i64 n'])) hb (fun n _ => hz n) ?_).mono fun rs n h => ⟨l, hx, hb, hlen, by rw [if_neg h0]; exact h⟩
    intro x rs rs' hp he he' _
    obtain ⟨a, b, c, d, rfl, q⟩ := he
    obtain ⟨a', b', c', d', rfl, q'⟩ := he'
    exact h 0 x a b c d a' b' c' d' (held_of hb hp ⟨a, b, c, d, rfl, q⟩) (held_of hb hp ⟨a', b', c', d', rfl, q'⟩)
def k_lparses35 : Nat := 3
def sg_lparses35 : Sig := ⟨[(false, [.list 5])], [(false, [.bool])], false, false, true, false, false, [], [], none⟩
def tr_lparses35 : Tree := (.call k_alive35 [] [.bool]
(.ite (.not (.var 1))
 (.ret [(.bool false)])
 (.ite (.ite (.cmp .gt (.len (.var 0)) (.int .i64 3000)) (.or (.cmp .le (.len (.var 0)) (.int .i64 65536)) (.cmp .gt (.len (.var 0)) (.int .i64 70000))) (.cmp .gt (.len (.var 0)) (.int .i64 70000)))
  (.ret [(.bool true)])
  (.call k_tParse [(.var 0)] [(.list 3), (.list 3), (.list 3), (.list 68), .err]
  (.call k_rParse35 [(.var 0)] [(.list 3), (.list 3), (.list 3), (.list 62), (.int .i64)]
  (.call k_Doc35 [(.var 2), (.var 3), (.var 4), (.var 5)] [(.list 3), (.list 3), (.list 3), (.list 62)]
  (.call k_rSame35 [(.var 12), (.var 13), (.var 14), (.var 15), (.var 7), (.var 8), (.var 9), (.var 10)] [.bool]
  (.ite (.var 16)
   (.call k_Num [(.var 6)] [(.int .i64)]
   (.ret [(.cmp .eq (.var 17) (.var 11))]))
   (.ret [(.bool false)])))))))))
theorem wk_lparses35 : walk E0.cx (sgsN [(5, sg_alive35), (6, sg_tParse), (9, sg_Doc35), (7, sg_rParse35), (8, sg_rSame35), (10, sg_Num)]) 0 3 sg_lparses35 = tr_lparses35 := by kernel_rfl
theorem bo_lparses35 : ∃ x, bodyOf E0.P 3 = some x := bo_of (by kernel_rfl)
theorem sp_lparses35_alive35 : specC [con_alive35, con_tParse, con_Doc35, con_rParse35, con_rSame35, con_Num] k_alive35 = alive35_s := rfl
theorem sp_lparses35_tParse : specC [con_alive35, con_tParse, con_Doc35, con_rParse35, con_rSame35, con_Num] k_tParse = tParse_s := rfl
theorem sp_lparses35_Doc35 : specC [con_alive35, con_tParse, con_Doc35, con_rParse35, con_rSame35, con_Num] k_Doc35 = Doc35_s := rfl
theorem sp_lparses35_rParse35 : specC [con_alive35, con_tParse, con_Doc35, con_rParse35, con_rSame35, con_Num] k_rParse35 = rParse35_s := rfl
theorem sp_lparses35_rSame35 : specC [con_alive35, con_tParse, con_Doc35, con_rParse35, con_rSame35, con_Num] k_rSame35 = rSame35_s := rfl
theorem sp_lparses35_Num : specC [con_alive35, con_tParse, con_Doc35, con_rParse35, con_rSame35, con_Num] k_Num = Num_s := rfl
def lparses35_s : Spec := law_s
theorem lparses35_h : Holds E0 k_lparses35 sg_lparses35 lparses35_s := con_fn wf0 mix0 g0 [con_alive35, con_tParse, con_Doc35, con_rParse35, con_rSame35, con_Num] rfl wk_lparses35 rfl (by
  intro Φ hΦ ds Q hs ⟨hin, h⟩
  have hl : ds.length = 1 := hs.length.symm
  have s1 : Φ k_alive35 = alive35_s := by rw [hΦ]; rfl
  have s2 : Φ k_tParse = tParse_s := by rw [hΦ]; rfl
  have s3 : Φ k_Doc35 = Doc35_s := by rw [hΦ]; rfl
  have s4 : Φ k_rParse35 = rParse35_s := by rw [hΦ]; rfl
  have s5 : Φ k_rSame35 = rSame35_s := by rw [hΦ]; rfl
  have s6 : Φ k_Num = Num_s := by rw [hΦ]; rfl
  clear hΦ
  have hH : Has E0.Δ (.list 5) (ds.getD 0 (.bool false)) := all2_get hs (i := 0) rfl
  obtain ⟨l, hx, hb, hlen⟩ := byte_has hH (hin _ (getD_memL (by omega)))
  have hn : (argL ds 0).length = l.length := by
    have : (argL ds 0).length = (u8R l).length := congrArg List.length hx
    rw [this, u8R_len]
  simp only [tr_lparses35, wp, den_int, den_bool, den_nili, den_ar, den_cmp, den_not, den_len, den_elem, den_isnil, den_errI, den_ifc, den_rep, den_push, den_app, den_emp, den_upd, row0_econs, row0_enil, den_and, den_beq, den_nil, toInt_int, toBool_bool, xs_rows, xs_list, dflt_int, dflt_bool, of_eq, of_ne, of_lt, of_le, of_gt, of_ge, of_add, of_sub, of_rem, List.map_cons, List.map_nil, Dat.bool.injEq, decide_eq_true_eq, decide_eq_false_iff_not, Bool.not_eq_true', Bool.not_eq_false', beq_iff_eq, bne_iff_ne, beq_eq_false_iff_ne, bne_eq_false_iff_eq, ne_eq, List.append_assoc, List.cons_append, List.nil_append, allS, s1, s2, s3, s4, s5, s6, alive35_s, Doc35_s, Num_s, den_ite, den_or, den_cmp, den_int, toInt_int, toBool_bool, Cmp.of, @den_var0 E0.Δ ds, den_varA, den_varB, hl, Nat.reduceLT, Nat.reduceLeDiff, Nat.reduceSub, List.getD_cons_zero, List.getD_cons_succ, argL_fold ds, argI_fold ds, List.append_assoc, List.cons_append, List.nil_append, toInt_int, toBool_bool, xs_rows, xs_list, Int.toNat_natCast, Dat.bool.injEq, hn]
  obtain ⟨B, rfl⟩ := List.length_eq_one_iff.1 hl
  refine ⟨fun hx => Bool.noConfusion hx, fun _ => ⟨fun _ => h, fun hc => ?_⟩⟩
  have hc : l.length ≤ 90000000 := by
    by_cases h1 : (l.length : Int) > 3000
    · rw [if_pos h1] at hc
      have hc := Dat.bool.inj hc
      rw [Bool.or_eq_false_iff, decide_eq_false_iff_not, decide_eq_false_iff_not] at hc
      omega
    · omega
  refine two_s hx hb hc ?_
  intro n x a b c d a' b' c' d' hh hh'
  obtain ⟨l1, l2, l3⟩ := hh.lens
  obtain ⟨e1, e2, e3, e4⟩ := hh.same hh'
  have hsz : ∀ i, i < 3 → (argL [a, b, c] i).length ≤ 9223372036854775807 := fun i hi => by
    match i, hi with
    | 0, _ => exact Nat.le_trans l1 (by omega)
    | 1, _ => exact Nat.le_trans l2 (by omega)
    | 2, _ => exact Nat.le_trans l3 (by omega)
  refine ⟨hh.sml.sm.1, fun d1 hd1 => ⟨fun i hi => ?_, ?_, fun v hv => ?_⟩⟩
  · match i, hi with
    | 0, _ => exact hsz 0 (by omega)
    | 1, _ => exact hsz 1 (by omega)
    | 2, _ => exact hsz 2 (by omega)
  · show SmO d1.xs
    rw [hd1]; exact norm_sm hh.sml.sm
  · have hv : v = true ↔ nums a.xs = nums a'.xs ∧ nums b.xs = nums b'.xs ∧ nums c.xs = nums c'.xs ∧ OpsR d1.xs d'.xs := hv
    obtain rfl : v = true := hv.2 ⟨e1, e2, e3, by rw [hd1]; exact norm_opsL (tri_OpsR e4)⟩
    refine ⟨fun _ => ⟨n, rfl, ?_⟩, fun hx => by cases hx⟩
    show Q [.bool (n == n)]
    rw [beq_self_eq_true]; exact h)
noncomputable def con_lparses35 : Con E0 := ⟨k_lparses35, sg_lparses35, lparses35_s, rfl, bo_lparses35, lparses35_h⟩
end Go.Proofs.YtbpbdanggilnpaaDoor
end
