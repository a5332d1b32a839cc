/-
  Which effects are right: the check itself.
-/
import Derived.Test.YtiolgkmfjcdbiaaEffC
namespace Go.Proofs.Ytiolgkmfjcdbiaa
open Go.RowKit
set_option linter.unusedVariables false
set_option linter.unusedSimpArgs false

def nMax (op : Int) : Int := if op = 20 then 3 else if op = 22 then 2 else if op = 23 ∨ op = 25 then 255 else 99
def mMin (op : Int) : Int := if op = 14 then 112 else 0
def mMax (op : Int) : Int := if op = 15 then 5 else if op = 14 then 119 else 99
/-- numbers are as they may be -/
def rngP (op n m who : Int) : Prop := 0 ≤ who ∧ who ≤ 4 ∧ (if op = 10 ∨ op = 24 then -99 ≤ n ∧ n ≤ 99 ∧ -99 ≤ m ∧ m ≤ 99 else 0 ≤ n ∧ n ≤ nMax op ∧ mMin op ≤ m ∧ m ≤ mMax op)
/-- whom it is about fits -/
def fitP (op who t : Int) : Prop :=
  if op = 0 ∨ (20 ≤ op ∧ op ≤ 22) then who = 0 else if op = 1 then who = 0 ∨ who = 1 ∨ who = 4 ∨ (who = 2 ∧ 1 ≤ t ∧ t ≤ 3)
  else if op = 9 then who = 2 ∧ t = 4 else if objP op then who = 3 ∨ (who = 2 ∧ (t = 1 ∨ t = 5)) else who = 0 ∨ who = 1 ∨ who = 4 ∨ (who = 2 ∧ t = 2)
/-- there are as many within as there may be -/
def formP (op : Int) (k : Nat) (so : Int) : Prop :=
  (op = 20 → k = 1 ∧ (so = 1 ∨ objP so)) ∧ (op = 21 → 1 ≤ k ∧ k ≤ 8) ∧ (op = 22 → 1 ≤ k ∧ k ≤ 2) ∧ (op < 20 ∨ 22 < op → k = 0)
instance (op n m who : Int) : Decidable (rngP op n m who) := by unfold rngP; infer_instance
instance (op who t : Int) : Decidable (fitP op who t) := by unfold fitP; infer_instance
instance (op : Int) (k : Nat) (so : Int) : Decidable (formP op k so) := by unfold formP; infer_instance
def headOp (l : List Eff) : Int := match l with
  | [] => 0
  | e :: _ => e.op
def headE (op n m who t d : Int) (k : Nat) (so : Int) : Int :=
  if op < 0 ∨ 26 ≤ op then 6 else if 8 < d then 3 else if ¬ rngP op n m who then 1 else if ¬ fitP op who t then 11 else if ¬ formP op k so then 2 else 0
mutual
/-- the error of an effect that stands so deep -/
def Eff.chk (t d : Int) : Eff → Int
  | .mk op n m who l => if headE op n m who t d l.length (headOp l) ≠ 0 then headE op n m who t d l.length (headOp l) else if op = 20 then Eff.chkA (d + 1) l else Eff.chks t (d + 1) l
def Eff.chks (t d : Int) : List Eff → Int
  | [] => 0
  | e :: l => if e.chk t d ≠ 0 then e.chk t d else Eff.chks t d l
/-- .. of those within All -/
def Eff.chkA (d : Int) : List Eff → Int
  | [] => 0
  | e :: l => if e.chk 1 d ≠ 0 then e.chk 1 d else if e.who ≠ 2 then 11 else Eff.chkA d l
end
theorem Eff.chk_eq (e : Eff) (t d : Int) : e.chk t d = if headE e.op e.n e.m e.who t d e.subs.length (headOp e.subs) ≠ 0 then headE e.op e.n e.m e.who t d e.subs.length (headOp e.subs) else if e.op = 20 then Eff.chkA (d + 1) e.subs else Eff.chks t (d + 1) e.subs := by
  cases e; rw [Eff.chk]; rfl
/-- the bits say what fits -/
theorem fit_tab : ∀ (op : _root_.Fin 26) (t : _root_.Fin 6) (w : _root_.Fin 5), ((((w.val : Int) == 2) && (decide (0 ≤ (t.val : Int)) && decide ((t.val : Int) < 64) && (Ar.and.of .u64 (Ar.shr.of .u64 (ofT (op.val : Int)) (IntKind.u64.wrap (t.val : Int))) 1 == 1))) || (decide (0 ≤ (w.val : Int)) && decide ((w.val : Int) < 64) && (Ar.and.of .u64 (Ar.shr.of .u64 (ofW (op.val : Int)) (IntKind.u64.wrap (w.val : Int))) 1 == 1))) = decide (fitP (op.val : Int) (w.val : Int) (t.val : Int)) := by decide +kernel
theorem fit_bits {op t w : Int} (h0 : 0 ≤ op) (h1 : op < 26) (t0 : 0 ≤ t) (t1 : t ≤ 5) (w0 : 0 ≤ w) (w1 : w ≤ 4) : (((w == 2) && (decide (0 ≤ t) && decide (t < 64) && (Ar.and.of .u64 (Ar.shr.of .u64 (ofT op) (IntKind.u64.wrap t)) 1 == 1))) || (decide (0 ≤ w) && decide (w < 64) && (Ar.and.of .u64 (Ar.shr.of .u64 (ofW op) (IntKind.u64.wrap w)) 1 == 1))) = decide (fitP op w t) := by
  obtain ⟨o, rfl⟩ := Int.eq_ofNat_of_zero_le h0
  obtain ⟨t', rfl⟩ := Int.eq_ofNat_of_zero_le t0
  obtain ⟨w', rfl⟩ := Int.eq_ofNat_of_zero_le w0
  exact fit_tab ⟨o, by omega⟩ ⟨t', by omega⟩ ⟨w', by omega⟩
theorem wrap_u64 {x : Int} (h : 0 ≤ x) (h2 : x < 64) : IntKind.u64.wrap x = x := by
  obtain ⟨o, rfl⟩ := Int.eq_ofNat_of_zero_le h
  have : ∀ o : _root_.Fin 64, IntKind.u64.wrap (o.val : Int) = (o.val : Int) := by decide +kernel
  exact this ⟨o, by omega⟩
theorem rowI_take {ds : List Dat} {i k : Nat} (h : i < k) : rowI (ds.take k) i = argI ds i := by
  simp only [rowI, argI, List.getD_eq_getElem?_getD, List.getElem?_take, if_pos h]
theorem argE_opI (ds : List Dat) : (argE ds).op = argI ds 0 := by rw [argE, effOf_op, rowI_take (by omega)]
theorem argE_n (ds : List Dat) : (argE ds).n = argI ds 1 := by rw [argE, effOf_n, rowI_take (by omega)]
theorem argE_m (ds : List Dat) : (argE ds).m = argI ds 2 := by rw [argE, effOf_m, rowI_take (by omega)]
theorem argE_who (ds : List Dat) : (argE ds).who = argI ds 3 := by rw [argE, effOf_who, rowI_take (by omega)]
theorem headOp_map {l : List (List Dat)} (h : 0 < l.length) : headOp (l.map effOf) = rowI (l.getD 0 []) 0 := by
  cases l with
  | nil => cases h
  | cons r l => exact effOf_op r
theorem num_rng {op n m who : Int} (h0 : 0 ≤ op) (h1 : op < 26) : numP (ofS op) (if (op == 23 || op == 25) = true then 255 else ofN op) (if (op == 14) = true then 119 else ofM op) op n m who ↔ rngP op n m who := by
  have key : ∀ o : _root_.Fin 26, ofS (o.val : Int) = decide ((o.val : Int) = 10 ∨ (o.val : Int) = 24) ∧ (if ((o.val : Int) == 23 || (o.val : Int) == 25) = true then 255 else ofN (o.val : Int)) = nMax (o.val : Int) ∧ (if ((o.val : Int) == 14) = true then 119 else ofM (o.val : Int)) = mMax (o.val : Int) ∧ (((o.val : Int) = 10 ∨ (o.val : Int) = 24) → nMax (o.val : Int) = 99 ∧ mMax (o.val : Int) = 99) ∧ ((o.val : Int) = 14 → mMin (o.val : Int) = 112 ∧ mMax (o.val : Int) = 119) ∧ ((o.val : Int) ≠ 14 → mMin (o.val : Int) = 0) ∧ (((o.val : Int) = 23 ∨ (o.val : Int) = 25) → nMax (o.val : Int) = 255) := by decide +kernel
  obtain ⟨o, rfl⟩ := Int.eq_ofNat_of_zero_le h0
  obtain ⟨k1, k2, k3, k4, k5, k6, k7⟩ := key ⟨o, by omega⟩
  simp only at k1 k2 k3 k4 k5 k6 k7
  rw [k1, k2, k3]
  unfold numP rngP
  by_cases hs : (o : Int) = 10 ∨ (o : Int) = 24
  · obtain ⟨e1, e2⟩ := k4 hs
    rw [if_pos (decide_eq_true hs), if_pos hs, e1, e2]
    constructor
    · rintro ⟨p1, p2, p3, p4, p5⟩; exact ⟨p1, p2, by omega⟩
    · rintro ⟨p1, p2, p3⟩; exact ⟨p1, p2, by omega, fun _ => by omega, fun _ => by omega⟩
  · simp only [if_neg hs, decide_eq_false hs, Bool.false_eq_true, if_false]
    by_cases h14 : (o : Int) = 14
    · obtain ⟨e1, e2⟩ := k5 h14
      rw [e1, e2]
      constructor
      · rintro ⟨p1, p2, p3, p4, p5⟩
        have := p5 h14
        exact ⟨p1, p2, by omega⟩
      · rintro ⟨p1, p2, p3⟩; exact ⟨p1, p2, by omega, fun _ => by omega, fun _ => by omega⟩
    · rw [k6 h14]
      constructor
      · rintro ⟨p1, p2, p3, p4, p5⟩; exact ⟨p1, p2, by omega⟩
      · rintro ⟨p1, p2, p3⟩
        refine ⟨p1, p2, by omega, fun hx => ?_, fun hx => absurd hx h14⟩
        have := k7 hx
        omega
theorem form_len {op : Int} {k : Nat} {so : Int} (h0 : 0 ≤ op) (h1 : op < 26) : ((decide ((k : Int) < ofA op) || decide (ofB op < (k : Int))) = false ∧ (op = 20 → so = 1 ∨ objP so)) ↔ formP op k so := by
  have key : ∀ (x y : Int), ofA op = x → ofB op = y → ((decide ((k : Int) < ofA op) || decide (ofB op < (k : Int))) = false ↔ x ≤ (k : Int) ∧ (k : Int) ≤ y) := fun x y e1 e2 => by
    rw [e1, e2]; simp only [Bool.or_eq_false_iff, decide_eq_false_iff_not]; omega
  unfold formP
  by_cases a : op = 20
  · rw [key 1 1 (by subst a; rfl) (by subst a; rfl)]
    exact ⟨fun ⟨p, q⟩ => ⟨fun h => ⟨by omega, q h⟩, fun h => by omega, fun h => by omega, fun h => by omega⟩, fun ⟨p, _⟩ => ⟨by have := p a; omega, fun h => (p h).2⟩⟩
  by_cases b : op = 21
  · rw [key 1 8 (by subst b; rfl) (by subst b; rfl)]
    exact ⟨fun ⟨p, q⟩ => ⟨fun h => by omega, fun h => by omega, fun h => by omega, fun h => by omega⟩, fun ⟨_, p, _⟩ => ⟨by have := p b; omega, fun h => by omega⟩⟩
  by_cases c : op = 22
  · rw [key 1 2 (by subst c; rfl) (by subst c; rfl)]
    exact ⟨fun ⟨p, q⟩ => ⟨fun h => by omega, fun h => by omega, fun h => by omega, fun h => by omega⟩, fun ⟨_, _, p, _⟩ => ⟨by have := p c; omega, fun h => by omega⟩⟩
  · rw [key 0 0 (if_neg (by omega)) (by unfold ofB; rw [if_neg b, if_neg c, if_neg a])]
    exact ⟨fun ⟨p, q⟩ => ⟨fun h => absurd h a, fun h => absurd h b, fun h => absurd h c, fun h => by omega⟩, fun ⟨_, _, _, p⟩ => ⟨by have := p (by omega); omega, fun h => absurd h a⟩⟩
def k_echeck : Nat := 29
def sg_echeck : Sig := ⟨[(true, List.replicate 4 (.int .i64) ++ [.list 36]), (false, [.int .i64]), (false, [.int .i64])], [(false, [.err])], false, false, true⟩
def tr_echeck : Tree := (.ite (.or (.cmp .lt (.var 0) (.int .i64 0)) (.cmp .ge (.var 0) (.int .i64 26)))
 (.ret [(.ifc (.int .i64 6))])
 (.ite (.cmp .gt (.var 6) (.int .i64 8))
  (.ret [(.ifc (.int .i64 3))])
  (.call k_eof [(.var 0)] [.bool, (.int .i64), (.int .i64), (.int .u64), (.int .u64), (.int .i64), (.int .i64)]
  (.ob (.or (.not (.cmp .eq (.var 3) (.int .i64 2))) (.or (.not (.and (.cmp .ge (.var 5) (.int .i64 0)) (.cmp .lt (.var 5) (.int .i64 64)))) (.cmp .ge (.conv .u64 (.var 5)) (.int .u64 0))))
  (.call k_enumbers [(.var 0), (.var 1), (.var 2), (.var 3), (.var 4), (.var 7), (.ite (.or (.cmp .eq (.var 0) (.int .i64 23)) (.cmp .eq (.var 0) (.int .i64 25))) (.int .i64 255) (.var 8)), (.ite (.cmp .eq (.var 0) (.int .i64 14)) (.int .i64 119) (.var 9)), (.var 10), (.var 11), (.var 12), (.var 13)] [.bool]
  (.ite (.not (.var 14))
   (.ret [(.ifc (.int .i64 1))])
   (.ob (.or (.not (.not (.and (.cmp .eq (.var 3) (.int .i64 2)) (.and (.and (.cmp .ge (.var 5) (.int .i64 0)) (.cmp .lt (.var 5) (.int .i64 64))) (.cmp .eq (.ar .and .u64 (.ar .shr .u64 (.var 11) (.conv .u64 (.var 5))) (.int .u64 1)) (.int .u64 1)))))) (.or (.not (.and (.cmp .ge (.var 3) (.int .i64 0)) (.cmp .lt (.var 3) (.int .i64 64)))) (.cmp .ge (.conv .u64 (.var 3)) (.int .u64 0))))
   (.ite (.and (.not (.and (.cmp .eq (.var 3) (.int .i64 2)) (.and (.and (.cmp .ge (.var 5) (.int .i64 0)) (.cmp .lt (.var 5) (.int .i64 64))) (.cmp .eq (.ar .and .u64 (.ar .shr .u64 (.var 11) (.conv .u64 (.var 5))) (.int .u64 1)) (.int .u64 1))))) (.not (.and (.and (.cmp .ge (.var 3) (.int .i64 0)) (.cmp .lt (.var 3) (.int .i64 64))) (.cmp .eq (.ar .and .u64 (.ar .shr .u64 (.var 10) (.conv .u64 (.var 3))) (.int .u64 1)) (.int .u64 1)))))
    (.ret [(.ifc (.int .i64 11))])
    (.ite (.or (.cmp .lt (.len (.var 4)) (.var 12)) (.cmp .gt (.len (.var 4)) (.var 13)))
     (.ret [(.ifc (.int .i64 2))])
     (.ite (.cmp .eq (.var 0) (.int .i64 20))
      (.ob (.cmp .lt (.int .i64 0) (.len (.var 4)))
      (.call k_esingle [(.elem (.var 4) (.int .i64 0) 0 (.int .i64))] [.bool]
      (.ite (.not (.var 15))
       (.ret [(.ifc (.int .i64 2))])
       (.loop [.nili, (.int .i64 0)] [.err, (.int .i64)]
        (.ite (.cmp .lt (.var 17) (.len (.var 4)))
         (.ob (.cmp .ge (.var 17) (.int .i64 0))
         (.call k_echeck [(.elem (.var 4) (.var 17) 0 (.int .i64)), (.elem (.var 4) (.var 17) 1 (.int .i64)), (.elem (.var 4) (.var 17) 2 (.int .i64)), (.elem (.var 4) (.var 17) 3 (.int .i64)), (.elem (.var 4) (.var 17) 4 (.list 36)), (.int .i64 1), (.ar .add .i64 (.var 6) (.int .i64 1))] [.err]
         (.ite (.not (.isnil (.var 18)))
          (.ret [(.var 18)])
          (.ite (.cmp .ne (.elem (.var 4) (.var 17) 3 (.int .i64)) (.int .i64 2))
           (.ret [(.ifc (.int .i64 11))])
           (.again 0 [(.var 16), (.ar .add .i64 (.var 17) (.int .i64 1))])))))
         (.ret [.nili]))))))
      (.loop [.nili, (.int .i64 0)] [.err, (.int .i64)]
       (.ite (.cmp .lt (.var 16) (.len (.var 4)))
        (.ob (.cmp .ge (.var 16) (.int .i64 0))
        (.call k_echeck [(.elem (.var 4) (.var 16) 0 (.int .i64)), (.elem (.var 4) (.var 16) 1 (.int .i64)), (.elem (.var 4) (.var 16) 2 (.int .i64)), (.elem (.var 4) (.var 16) 3 (.int .i64)), (.elem (.var 4) (.var 16) 4 (.list 36)), (.var 5), (.ar .add .i64 (.var 6) (.int .i64 1))] [.err]
        (.ite (.not (.isnil (.var 17)))
         (.ret [(.var 17)])
         (.again 0 [(.var 15), (.ar .add .i64 (.var 16) (.int .i64 1))]))))
        (.ret [.nili])))))))))))))
theorem wk_echeck : walk E0.cx (sgsN [(41, sg_eof), (44, sg_esingle), (43, sg_enumbers), (29, sg_echeck)]) 0 29 sg_echeck = tr_echeck := by kernel_rfl
theorem bo_echeck : ∃ x, bodyOf E0.P 29 = some x := bo_of (by kernel_rfl)
def echeck_s : Spec := fun ds Q => 0 ≤ argI ds 5 ∧ argI ds 5 ≤ 5 ∧ 1 ≤ argI ds 6 ∧ argI ds 6 ≤ 9 ∧ Q [errV ((argE ds).chk (argI ds 5) (argI ds 6))]
theorem echeck_h : Holds E0 k_echeck sg_echeck echeck_s := holds_rec mE fun n ih => con_fn wf0 mix0 g0 [con_eof, con_esingle, con_enumbers, ⟨_, _, _, rfl, bo_echeck, ih⟩] rfl wk_echeck rfl (by
  intro Φ hΦ ds Q hs ⟨hm, t0, t5, d1, d9, h⟩
  have hl : ds.length = 7 := hs.length.symm
  have sp : Φ k_echeck = (fun ds Q => mE ds < n ∧ echeck_s ds Q) := by rw [hΦ]; rfl
  have sp1 : Φ k_eof = eof_s := by rw [hΦ]; rfl
  have sp2 : Φ k_esingle = esingle_s := by rw [hΦ]; rfl
  have sp3 : Φ k_enumbers = enumbers_s := by rw [hΦ]; rfl
  clear hΦ
  have hrow := eff_len (all2_get hs (i := 4) rfl)
  rw [argL_fold] at hrow
  have hsub := argE_subs ds
  simp only [tr_echeck, wp, sp, sp1, sp2, sp3, eof_s, esingle_s, enumbers_s, den_or, den_and, den_not, den_cmp, den_ite, den_ar, den_conv, den_int, den_len, den_elem, den_isnil, den_ifc, den_nili, toBool_bool, toInt_int, toInt_ite, toBool_ite, of_eq, of_ne, of_lt, of_gt, of_ge, of_le, List.map_cons, List.map_nil, argI_c0, argI_c1, dflt_int, Int.toNat_zero, toInt_getD, @den_var0 E0.Δ ds, den_varA, den_varB, hl, Nat.reduceLT, Nat.reduceLeDiff, Nat.reduceSub, List.getD_cons_zero, List.getD_cons_succ, argL_fold ds, argI_fold ds, List.append_assoc, List.cons_append, List.nil_append, toInt_int, toBool_bool, xs_rows, xs_list, Int.toNat_natCast, Dat.bool.injEq]
  have hsz : (argE ds).size = 1 + Eff.sizes ((argL ds 4).map effOf) := by rw [Eff.size_eq, hsub]
  rw [mE, hsz] at hm
  rw [Eff.chk_eq, argE_opI, argE_n, argE_m, argE_who, hsub, List.length_map] at h
  have hso : 0 < (argL ds 4).length → headOp ((argL ds 4).map effOf) = rowI ((argL ds 4).getD 0 []) 0 := headOp_map
  have hop : ∀ v, ds.getD 5 (.bool false) = v → v = .int .i64 (argI ds 5) := fun v hv => by rw [← hv]; exact argV (all2_get hs (i := 5) rfl)
  have hv5 := hop _ rfl
  refine ⟨fun h1 => ?_, fun h1 => ⟨fun h2 => ?_, fun h2 => ?_⟩⟩
  · simp only [Bool.or_eq_true, decide_eq_true_eq] at h1
    have e : headE (argI ds 0) (argI ds 1) (argI ds 2) (argI ds 3) (argI ds 5) (argI ds 6) (argL ds 4).length (headOp ((argL ds 4).map effOf)) = 6 := by rw [headE, if_pos (by omega)]
    rw [e] at h; exact h
  · simp only [Bool.or_eq_false_iff, decide_eq_false_iff_not, decide_eq_true_eq] at h1 h2
    have e : headE (argI ds 0) (argI ds 1) (argI ds 2) (argI ds 3) (argI ds 5) (argI ds 6) (argL ds 4).length (headOp ((argL ds 4).map effOf)) = 3 := by rw [headE, if_neg (by omega), if_pos (by omega)]
    rw [e] at h; exact h
  simp only [Bool.or_eq_false_iff, decide_eq_false_iff_not] at h1 h2
  obtain ⟨hp0, hp1⟩ : 0 ≤ argI ds 0 ∧ argI ds 0 < 26 := by omega
  have hN : ∀ o : _root_.Fin 26, 0 ≤ ofN (o.val : Int) ∧ ofN (o.val : Int) ≤ 1000 ∧ 0 ≤ ofM (o.val : Int) ∧ ofM (o.val : Int) ≤ 1000 := by decide +kernel
  have hN' : 0 ≤ ofN (argI ds 0) ∧ ofN (argI ds 0) ≤ 1000 ∧ 0 ≤ ofM (argI ds 0) ∧ ofM (argI ds 0) ≤ 1000 := by
    obtain ⟨o, ho⟩ := Int.eq_ofNat_of_zero_le hp0
    have := hN ⟨o, by omega⟩
    rw [ho]; exact this
  have g0 : (!argI ds 3 == 2 || (!(decide (0 ≤ argI ds 5) && decide (argI ds 5 < 64)) || decide (0 ≤ IntKind.u64.wrap (argI ds 5)))) = true := by
    rw [wrap_u64 t0 (by omega), decide_eq_true t0]; simp
  refine ⟨g0, by split <;> omega, by split <;> omega, by split <;> omega, by split <;> omega, fun b hb => ⟨fun h3 => ?_, fun h3 => ?_⟩⟩
  · rw [num_rng hp0 hp1] at hb
    have e : headE (argI ds 0) (argI ds 1) (argI ds 2) (argI ds 3) (argI ds 5) (argI ds 6) (argL ds 4).length (headOp ((argL ds 4).map effOf)) = 1 := by
      rw [headE, if_neg (by omega), if_neg (by omega), if_pos (fun hx => by rw [hb.2 hx] at h3; cases h3)]
    rw [e] at h; exact h
  rw [num_rng hp0 hp1] at hb
  have hR : rngP (argI ds 0) (argI ds 1) (argI ds 2) (argI ds 3) := hb.1 (by simpa using h3)
  have w0 := hR.1
  have w1 := hR.2.1
  have hfit := fit_bits hp0 hp1 t0 t5 w0 w1
  rw [← Bool.not_or, hfit]
  have hgood : headE (argI ds 0) (argI ds 1) (argI ds 2) (argI ds 3) (argI ds 5) (argI ds 6) (argL ds 4).length (headOp ((argL ds 4).map effOf)) = if ¬ fitP (argI ds 0) (argI ds 3) (argI ds 5) then 11 else if ¬ formP (argI ds 0) (argL ds 4).length (headOp ((argL ds 4).map effOf)) then 2 else 0 := by
    rw [headE, if_neg (by omega), if_neg (by omega), if_neg (fun hx => hx hR)]
  rw [hgood] at h
  have hform := form_len (k := (argL ds 4).length) (so := headOp ((argL ds 4).map effOf)) hp0 hp1
  have g1 : (!!(argI ds 3 == 2 && (decide (0 ≤ argI ds 5) && decide (argI ds 5 < 64) && Ar.and.of .u64 (Ar.shr.of .u64 (ofT (argI ds 0)) (IntKind.u64.wrap (argI ds 5))) 1 == 1)) || (!(decide (0 ≤ argI ds 3) && decide (argI ds 3 < 64)) || decide (0 ≤ IntKind.u64.wrap (argI ds 3)))) = true := by
    rw [wrap_u64 w0 (by omega), decide_eq_true w0]; simp
  refine ⟨g1, fun h4 => ?_, fun h4 => ⟨fun h5 => ?_, fun h5 => ?_⟩⟩
  · have hF : ¬ fitP (argI ds 0) (argI ds 3) (argI ds 5) := by simpa using h4
    rw [if_pos hF] at h; exact h
  · have hF : ¬ ¬ fitP (argI ds 0) (argI ds 3) (argI ds 5) := by simpa using h4
    rw [if_neg hF] at h
    have hM : ¬ formP (argI ds 0) (argL ds 4).length (headOp ((argL ds 4).map effOf)) := fun hx => by
      have := (hform.2 hx).1
      rw [h5] at this; cases this
    rw [if_pos hM] at h; exact h
  have hF : ¬ ¬ fitP (argI ds 0) (argI ds 3) (argI ds 5) := by simpa using h4
  rw [if_neg hF] at h
  have hlen8 : (argL ds 4).length ≤ 8 := by
    have hB : ∀ o : _root_.Fin 26, ofB (o.val : Int) ≤ 8 := by decide +kernel
    obtain ⟨o, ho⟩ := Int.eq_ofNat_of_zero_le hp0
    have := hB ⟨o, by omega⟩
    simp only [Bool.or_eq_false_iff, decide_eq_false_iff_not, ho] at h5
    simp only at this
    omega
  have hrec : ∀ (i : Nat) (t : Int) (Q' : List Dat → Prop), i < (argL ds 4).length → 0 ≤ t → t ≤ 5 → Q' [errV ((effOf ((argL ds 4).getD i [])).chk t (argI ds 6 + 1))] → mE ((argL ds 4).getD i [] ++ [.int .i64 t, .int .i64 (IntKind.i64.wrap (argI ds 6 + 1))]) < n ∧ echeck_s ((argL ds 4).getD i [] ++ [.int .i64 t, .int .i64 (IntKind.i64.wrap (argI ds 6 + 1))]) Q' := fun i t Q' hi ht0 ht5 hQ => by
    have hr := hrow _ (getD_memL (d := []) hi)
    have hle : (effOf ((argL ds 4).getD i [])).size ≤ Eff.sizes ((argL ds 4).map effOf) := Eff.size_le_sizes (List.mem_map.2 ⟨_, getD_memL hi, rfl⟩)
    rw [wrap64 (by omega) (by omega)]
    simp only [mE, echeck_s, argE_row hr, argI_row hr (show 5 ≤ 5 by omega), argI_row hr (show 5 ≤ 6 by omega), Nat.sub_self, argI_c0, argI_c1, Nat.reduceSub, toInt_int]
    exact ⟨by omega, ht0, ht5, by omega, by omega, hQ⟩
  refine ⟨fun h20 => ?_, fun h20 => ?_⟩
  · have h20' : argI ds 0 = 20 := by simpa using h20
    have hk : (argL ds 4).length = 1 := by
      simp only [Bool.or_eq_false_iff, decide_eq_false_iff_not, h20', ofA, ofB] at h5
      simp at h5
      omega
    rw [hso (by omega)] at h hform
    refine ⟨by simp [hk], fun h6 => ?_, fun h6 => ?_⟩
    · have hM : ¬ formP (argI ds 0) (argL ds 4).length (rowI ((argL ds 4).getD 0 []) 0) := fun hx => by
        have := (hform.2 hx).2 h20'
        simp only [Bool.not_eq_true'] at h6
        exact of_decide_eq_false h6 this
      rw [if_pos hM] at h; exact h
    · have h6' : rowI ((argL ds 4).getD 0 []) 0 = 1 ∨ objP (rowI ((argL ds 4).getD 0 []) 0) := by
        simp only [Bool.not_eq_false'] at h6; exact of_decide_eq_true h6
      have hM : ¬ ¬ formP (argI ds 0) (argL ds 4).length (rowI ((argL ds 4).getD 0 []) 0) := fun hx => hx (hform.1 ⟨h5, fun _ => h6'⟩)
      rw [if_neg hM, if_neg (fun hx => hx rfl), if_pos h20'] at h
      refine ⟨fun xs m => ∃ (z : Dat) (i : Nat), xs = [z, .int .i64 i] ∧ i ≤ (argL ds 4).length ∧ m = (argL ds 4).length - i ∧ Eff.chkA (argI ds 6 + 1) (((argL ds 4).drop i).map effOf) = Eff.chkA (argI ds 6 + 1) ((argL ds 4).map effOf), ⟨_, _, 0, rfl, by omega, rfl, rfl⟩, ?_⟩
      rintro z hz i' m ⟨_, i, e, hi, hmi, hd⟩
      cases e
      refine ⟨fun hlt => ?_, fun hge => ?_⟩
      · have hi2 : i < (argL ds 4).length := by simpa [toInt_int] using hlt
        have hr := hrow _ (getD_memL (d := []) hi2)
        rw [drop_getD (d := []) hi2, List.map_cons, Eff.chkA] at hd
        refine ⟨by simp [toInt_int], ?_⟩
        simp only [List.getD_cons_zero, List.getD_cons_succ, toInt_int, Int.toNat_natCast, fold5xy hr, hv5]
        refine hrec i 1 _ hi2 (by omega) (by omega) ?_
        simp only [List.cons_append, List.nil_append, List.getD_cons_succ, List.getD_cons_zero, toInt_int, Int.toNat_natCast, errV_nil, Bool.not_eq_true', Bool.not_eq_false', decide_eq_false_iff_not, decide_eq_true_eq, bne_iff_ne, bne_eq_false_iff_eq]
        refine ⟨fun hne => ?_, fun he => ⟨fun hw => ?_, fun hw => ?_⟩⟩
        · rw [if_pos hne] at hd
          rw [hd]; exact h
        · rw [if_neg (fun hx => hx he), effOf_who, if_pos hw] at hd
          rw [← hd] at h; exact h
        · rw [if_neg (fun hx => hx he), effOf_who, if_neg (fun hx => hx hw)] at hd
          refine ⟨(argL ds 4).length - (i + 1), by omega, z, i + 1, ?_, by omega, rfl, hd⟩
          rw [of_add, wrap64 (by omega) (by omega)]; rfl
      · have hkk : i = (argL ds 4).length := by simp [toInt_int] at hge; omega
        rw [List.drop_of_length_le (by omega)] at hd
        rw [← hd] at h; exact h
  · have h20' : ¬ argI ds 0 = 20 := by simpa using h20
    have hM : ¬ ¬ formP (argI ds 0) (argL ds 4).length (headOp ((argL ds 4).map effOf)) := fun hx => hx (hform.1 ⟨h5, fun hy => absurd hy h20'⟩)
    rw [if_neg hM, if_neg (fun hx => hx rfl), if_neg h20'] at h
    refine ⟨fun xs m => ∃ (z : Dat) (i : Nat), xs = [z, .int .i64 i] ∧ i ≤ (argL ds 4).length ∧ m = (argL ds 4).length - i ∧ Eff.chks (argI ds 5) (argI ds 6 + 1) (((argL ds 4).drop i).map effOf) = Eff.chks (argI ds 5) (argI ds 6 + 1) ((argL ds 4).map effOf), ⟨_, _, 0, rfl, by omega, rfl, rfl⟩, ?_⟩
    rintro z hz i' m ⟨_, i, e, hi, hmi, hd⟩
    cases e
    refine ⟨fun hlt => ?_, fun hge => ?_⟩
    · have hi2 : i < (argL ds 4).length := by simpa [toInt_int] using hlt
      have hr := hrow _ (getD_memL (d := []) hi2)
      rw [drop_getD (d := []) hi2, List.map_cons, Eff.chks] at hd
      refine ⟨by simp [toInt_int], ?_⟩
      simp only [List.getD_cons_zero, List.getD_cons_succ, toInt_int, Int.toNat_natCast, fold5xy hr, hv5]
      refine hrec i _ _ hi2 t0 t5 ?_
      simp only [List.cons_append, List.nil_append, List.getD_cons_succ, List.getD_cons_zero, toInt_int, Int.toNat_natCast, errV_nil, Bool.not_eq_true', Bool.not_eq_false', decide_eq_false_iff_not, decide_eq_true_eq]
      refine ⟨fun hne => ?_, fun he => ?_⟩
      · rw [if_pos hne] at hd
        rw [hd]; exact h
      · rw [if_neg (fun hx => hx he)] at hd
        refine ⟨(argL ds 4).length - (i + 1), by omega, z, i + 1, ?_, by omega, rfl, hd⟩
        rw [of_add, wrap64 (by omega) (by omega)]; rfl
    · have hkk : i = (argL ds 4).length := by simp [toInt_int] at hge; omega
      rw [List.drop_of_length_le (by omega)] at hd
      rw [← hd] at h; exact h)
noncomputable def con_echeck : Con E0 := ⟨k_echeck, sg_echeck, echeck_s, rfl, bo_echeck, echeck_h⟩
end Go.Proofs.Ytiolgkmfjcdbiaa
