/-
  Contracts: the document's answer on who knows an object behind an event.
-/
import Derived.Test.YtlgfnimahmmgeaaKnowF
import Derived.Test.YtlgfnimahmmgeaaMathN2
namespace Go.Proofs.Ytlgfnimahmmgeaa
open Go.RowKit
set_option linter.unusedVariables false

theorem bit_g (n p : Int) (b : Bool) (w : World) (h : kn n p = b) (n1 : -9223372036854775808 ≤ n) (n2 : n ≤ 9223372036854775807) : Calls Try.prog 23 #[.int .i64 n, .int .i64 p] w (Ret w (.bool b)) := by
  subst h; exact bit_c n p w n1 n2
/-- the bits, player by player -/
def chg (players was : Int) (is : Bool) : Nat → Int
  | 0 => was
  | p + 1 => if kn players p && (kn (chg players was is p) p != is) then (if is then chg players was is p + (p + 1) else chg players was is p - (p + 1)) else chg players was is p
theorem chg1 (players was : Int) (is : Bool) : chg players was is 1 = if mth.bt players 0 && (mth.bt was 0 != is) then (if is then was + 1 else was - 1) else was := by
  simp only [chg, Int.ofNat_zero, kn0]; rfl
theorem chg_bd (players was : Int) (is : Bool) (p : Nat) (hp : p < 2) (h1 : -9223372036854775808 ≤ was) (h2 : was ≤ 9223372036854775807) :
    -9223372036854775808 ≤ chg players was is p ∧ chg players was is p ≤ 9223372036854775807 ∧ (is = true → kn (chg players was is p) p = false → chg players was is p + (p + 1) ≤ 9223372036854775807) ∧ (is = false → kn (chg players was is p) p = true → -9223372036854775808 ≤ chg players was is p - (p + 1)) := by
  have hp2 : p = 0 ∨ p = 1 := by omega
  rcases hp2 with rfl | rfl
  · simp only [chg, Int.ofNat_zero, kn0, mth.bt]
    refine ⟨h1, h2, fun _ h => ?_, fun _ h => ?_⟩ <;> simp at h <;> omega
  · rw [chg1]
    simp only [Int.ofNat_one, kn1, mth.bt]
    cases is <;> cases hb : (players % 2 == 1) <;> cases hw : (was % 2 == 1) <;> simp at hw ⊢ <;> omega
theorem chg2 (players was : Int) (is : Bool) (h1 : -9223372036854775808 ≤ was) (h2 : was ≤ 9223372036854775807) : chg players was is 2 = if is then orW was players else clrW was players := by
  have e : chg players was is 2 = if mth.bt players 1 && (mth.bt (chg players was is 1) 1 != is) then (if is then chg players was is 1 + 2 else chg players was is 1 - 2) else chg players was is 1 := by
    show (if kn players ((1 : Nat) : Int) && (kn (chg players was is 1) ((1 : Nat) : Int) != is) then (if is then chg players was is 1 + (((1 : Nat) : Int) + 1) else chg players was is 1 - (((1 : Nat) : Int) + 1)) else chg players was is 1) = _
    rw [Int.ofNat_one, kn1, kn1]; rfl
  rw [e, chg1, mth.orW_eq was players h1 h2, mth.clrW_eq was players h1 h2]
  have hb : ∀ n : Int, mth.bt n 0 = (n % 2 == 1) := fun n => rfl
  have hb1 : ∀ n : Int, mth.bt n 1 = (n / 2 % 2 == 1) := fun n => rfl
  have a1 : (was % 2 == 1) = false → ((was + 1) / 2 % 2 == 1) = (was / 2 % 2 == 1) := fun h => by
    rw [Bool.eq_iff_iff]; simp at h ⊢; omega
  have a2 : (was % 2 == 1) = true → ((was - 1) / 2 % 2 == 1) = (was / 2 % 2 == 1) := fun h => by
    rw [Bool.eq_iff_iff]; simp at h ⊢; omega
  simp only [hb, hb1]
  cases is <;> cases (players % 2 == 1) <;> cases (players / 2 % 2 == 1) <;> cases hw : (was % 2 == 1) <;> (try simp [a1 hw]) <;> (try simp [a2 hw]) <;> (try (cases hv : (was / 2 % 2 == 1) <;> simp)) <;> (try omega)
def chgF (players : Int) (is : Bool) (was : Int) : Int := chg players was is 2
set_option maxRecDepth 100000 in
set_option maxHeartbeats 2000000 in
theorem Change_m (v : StV) (s : St) (id players : Int) (is : Bool) (w : World) (hst : StIn w v s) (hok : ∀ f ∈ s.objs, Ok18 f 18) (p1 : -9223372036854775808 ≤ players) (p2 : players ≤ 9223372036854775807) :
    Calls Try.prog 20 #[.agg (stC v), .int .i64 id, .int .i64 players, .bool is] w (RetOw w 6 (turnL (chgF players is) s.objs id).length (rowsC 6 (turnL (chgF players is) s.objs id))) := by
  have HM := Lib.hid ((Mem.start (o := none) w).addSt hst)
  have hn := hst.hn 0 (by omega)
  have HL := Lib.hid hst.len
  clear hst
  by_cases hin : 0 ≤ id ∧ id < v.n 0
  · obtain ⟨k, rfl⟩ : ∃ k : Nat, id = (k : Int) := ⟨id.toNat, by omega⟩
    have hk : k < v.n 0 := by omega
    have hkl : k < s.objs.length := by have := HL.out; omega
    obtain ⟨o1, o2⟩ := hok _ (List.getElem_mem hkl) 17 (by omega)
    have HX := Lib.hid (rowsC_get 18 s.objs k 17 hkl (by omega))
    have HT := Lib.hid (fun was hw => turnL_in (nx := chgF players is) hkl (was := was) hw)
    generalize hwas : s.objs[k] 17 = was at *
    replace HT := Lib.hid (HT.out was rfl)
    clear hwas hin hok
    go_enter Try.func20, Try.ntmps20
    go_wp2_with (first
      | (refine W_at (o := ⟨some 36, _, _, _, _, _⟩) ?_; fail_if_success (refine W_lit 35 rfl ?_); refine W_cases 35 _ rfl (fun hb35 => ?_) (fun hb35 => ?_) <;> (try simp only [decide_eq_true_eq, decide_eq_false_iff_not, beq_iff_eq, bne_iff_ne, beq_eq_false_iff_ne, bne_eq_false_iff_eq, ne_eq, Bool.not_eq_true', Bool.not_eq_false', Bool.and_eq_true, Bool.or_eq_true, Bool.and_eq_false_iff, Bool.or_eq_false_iff, Int.not_lt, Int.not_le, Nat.not_lt, Nat.not_le] at hb35) <;> simp only [Act.put, List.setIfInBounds_toArray, List.set_cons_succ, List.set_cons_zero])
      | (refine W_at (o := ⟨some 15, _, _, _, _, _⟩) ?_; fail_if_success (refine W_lit 14 rfl ?_); refine W_cases 14 _ rfl (fun hb14 => ?_) (fun hb14 => ?_) <;> (try simp only [decide_eq_true_eq, decide_eq_false_iff_not, beq_iff_eq, bne_iff_ne, beq_eq_false_iff_ne, bne_eq_false_iff_eq, ne_eq, Bool.not_eq_true', Bool.not_eq_false', Bool.and_eq_true, Bool.or_eq_true, Bool.and_eq_false_iff, Bool.or_eq_false_iff, Int.not_lt, Int.not_le, Nat.not_lt, Nat.not_le] at hb14) <;> simp only [Act.put, List.setIfInBounds_toArray, List.set_cons_succ, List.set_cons_zero])
      | (refine M_box HM.out rfl rfl rfl ?_; clear HM; intro b4 w4 HM; replace HM := Lib.hid HM)
      | (refine M_of _ rfl (R_field rfl rfl Try.underlying36 rfl (by kernel_rfl)) ?_)
      | (refine M_of _ rfl (R_cell HM.out rfl rfl (by (repeat (first | exact List.Mem.head _ | apply List.Mem.tail)); done) (by first | exact ints_get _ (by decide) | exact stC_sl _ (by decide) | exact stC_pl _ (by decide) (by decide) | exact stC_gm _ (by decide) (by decide) | assumption | rfl) Try.underlying29 rfl) ?_)
      | (refine M_of _ rfl (R_at (HM.out.rdi (by (repeat (first | exact RdIn.rd _ | exact RdIn.ow _ | apply RdIn.tail)); done)) rfl rfl (by first | assumption | rfl) Try.underlying29 rfl) ?_)
      | (refine M_of _ rfl (R_index (HM.out.rdi (by (repeat (first | exact RdIn.rd _ | exact RdIn.ow _ | apply RdIn.tail)); done)) rfl rfl rfl (by omega) (by omega) Try.underlying29 tsz_39 rfl) ?_)
      | (refine M_of _ rfl (R_elem rfl rfl rfl (by omega) (by omega) Try.underlying39 tsz_3 rfl) ?_)
      | (refine M_of _ rfl (R_cell HM.out rfl rfl (by (repeat (first | exact List.Mem.head _ | apply List.Mem.tail)); done) (by first | exact ints_get _ (by decide) | exact stC_sl _ (by decide) | exact stC_pl _ (by decide) (by decide) | exact stC_gm _ (by decide) (by decide) | assumption | rfl) Try.underlying3 rfl) ?_)
      | (refine M_of _ rfl (R_at (HM.out.rdi (by (repeat (first | exact RdIn.rd _ | exact RdIn.ow _ | apply RdIn.tail)); done)) rfl rfl (by first | assumption | rfl) Try.underlying3 rfl) ?_)
      | (go_at_call 23; refine (bit_g _ _ _ _ (by assumption) (by omega) (by omega)).mono ?_; rintro e wv ⟨rfl, hb⟩; replace HM := Lib.hid (HM.out.keep hb); clear hb)
      | (refine M_buildSlice (n := 1) HM.out rfl [_] rfl Try.underlying22 tinfo_25 rfl rfl (by decide) (by decide) (by intro u hu; simp at hu; (try (rcases hu with rfl)); all_goals (first | rfl | (subst hu; rfl) | simp [Value.cells, ints_size])) ?_; clear HM; intro b58 w58 HM; replace HM := Lib.hid HM; try simp only [Act.eval, Array.getD_eq_getD_getElem?, List.getElem?_toArray, List.getElem?_cons_succ, List.getElem?_cons_zero, Option.getD_some, List.flatMap_cons, List.flatMap_nil, Value.cells, List.append_nil, List.cons_append, List.nil_append] at HM))
    go_loopw [11, 10] (fun pv nv wr => ∃ p : Nat, p ≤ 2 ∧ pv = .int .i64 p ∧ nv = .int .i64 (chg players was is p) ∧ Mem none w wr [.row b4 (stC v) 36, .rd 18 (.slice (v.A 0) (v.n 0) (v.c 0)) (v.n 0) (rowsC 18 s.objs), .ls v s.ls]) (fun pv _ _ => 2 - (intOf pv).toNat)
    case atStart => exact ⟨0, by omega, rfl, rfl, HM.out⟩
    case round =>
      obtain ⟨p, hp, rfl, rfl, hm⟩ := hrel
      clear HM
      have HM := Lib.hid hm
      clear hm
      by_cases hlt : p < 2
      · obtain ⟨d1, d2, d3, d4⟩ := chg_bd players was is p hlt o1 o2
        have HC : Hid (chg players was is (p + 1) = if kn players p && (kn (chg players was is p) p != is) then (if is then chg players was is p + (p + 1) else chg players was is p - (p + 1)) else chg players was is p) := Lib.hid rfl
        generalize chg players was is p = now at *
        cases is <;> cases hb1 : kn players p <;> cases hb2 : kn now p
        all_goals (
          first | (have d5 := d3 rfl hb2) | (have d5 := d4 rfl hb2) | skip
          clear d3 d4
          have HB1 := Lib.hid hb1
          have HB2 := Lib.hid hb2
          (go_wp2_with (first | (refine W_at (o := ⟨some 36, _, _, _, _, _⟩) ?_; fail_if_success (refine W_lit 35 rfl ?_); refine W_cases 35 _ rfl (fun hb35 => ?_) (fun hb35 => ?_) <;> (try simp only [decide_eq_true_eq, decide_eq_false_iff_not, beq_iff_eq, bne_iff_ne, beq_eq_false_iff_ne, bne_eq_false_iff_eq, ne_eq, Bool.not_eq_true', Bool.not_eq_false', Bool.and_eq_true, Bool.or_eq_true, Bool.and_eq_false_iff, Bool.or_eq_false_iff, Int.not_lt, Int.not_le, Nat.not_lt, Nat.not_le] at hb35) <;> simp only [Act.put, List.setIfInBounds_toArray, List.set_cons_succ, List.set_cons_zero]) | (refine W_at (o := ⟨some 15, _, _, _, _, _⟩) ?_; fail_if_success (refine W_lit 14 rfl ?_); refine W_cases 14 _ rfl (fun hb14 => ?_) (fun hb14 => ?_) <;> (try simp only [decide_eq_true_eq, decide_eq_false_iff_not, beq_iff_eq, bne_iff_ne, beq_eq_false_iff_ne, bne_eq_false_iff_eq, ne_eq, Bool.not_eq_true', Bool.not_eq_false', Bool.and_eq_true, Bool.or_eq_true, Bool.and_eq_false_iff, Bool.or_eq_false_iff, Int.not_lt, Int.not_le, Nat.not_lt, Nat.not_le] at hb14) <;> simp only [Act.put, List.setIfInBounds_toArray, List.set_cons_succ, List.set_cons_zero]) | (refine M_box HM.out rfl rfl rfl ?_; clear HM; intro b4 w4 HM; replace HM := Lib.hid HM) | (refine M_of _ rfl (R_field rfl rfl Try.underlying36 rfl (by kernel_rfl)) ?_) | (refine M_of _ rfl (R_cell HM.out rfl rfl (by (repeat (first | exact List.Mem.head _ | apply List.Mem.tail)); done) (by first | exact ints_get _ (by decide) | exact stC_sl _ (by decide) | exact stC_pl _ (by decide) (by decide) | exact stC_gm _ (by decide) (by decide) | assumption | rfl) Try.underlying29 rfl) ?_) | (refine M_of _ rfl (R_at (HM.out.rdi (by (repeat (first | exact RdIn.rd _ | exact RdIn.ow _ | apply RdIn.tail)); done)) rfl rfl (by first | assumption | rfl) Try.underlying29 rfl) ?_) | (refine M_of _ rfl (R_index (HM.out.rdi (by (repeat (first | exact RdIn.rd _ | exact RdIn.ow _ | apply RdIn.tail)); done)) rfl rfl rfl (by omega) (by omega) Try.underlying29 tsz_39 rfl) ?_) | (refine M_of _ rfl (R_elem rfl rfl rfl (by omega) (by omega) Try.underlying39 tsz_3 rfl) ?_) | (refine M_of _ rfl (R_cell HM.out rfl rfl (by (repeat (first | exact List.Mem.head _ | apply List.Mem.tail)); done) (by first | exact ints_get _ (by decide) | exact stC_sl _ (by decide) | exact stC_pl _ (by decide) (by decide) | exact stC_gm _ (by decide) (by decide) | assumption | rfl) Try.underlying3 rfl) ?_) | (refine M_of _ rfl (R_at (HM.out.rdi (by (repeat (first | exact RdIn.rd _ | exact RdIn.ow _ | apply RdIn.tail)); done)) rfl rfl (by first | assumption | rfl) Try.underlying3 rfl) ?_) | (go_at_call 23; refine (bit_g _ _ _ _ (by assumption) (by omega) (by omega)).mono ?_; rintro e wv ⟨rfl, hb⟩; replace HM := Lib.hid (HM.out.keep hb); clear hb) | (refine M_buildSlice (n := 1) HM.out rfl [_] rfl Try.underlying22 tinfo_25 rfl rfl (by decide) (by decide) (by intro u hu; simp at hu; (try (rcases hu with rfl)); all_goals (first | rfl | (subst hu; rfl) | simp [Value.cells, ints_size])) ?_; clear HM; intro b58 w58 HM; replace HM := Lib.hid HM; try simp only [Act.eval, Array.getD_eq_getD_getElem?, List.getElem?_toArray, List.getElem?_cons_succ, List.getElem?_cons_zero, Option.getD_some, List.flatMap_cons, List.flatMap_nil, Value.cells, List.append_nil, List.cons_append, List.nil_append] at HM)))
          go_roundw
          case rel => exact ⟨p + 1, by omega, by go_num, by rw [HC.out, HB1.out, HB2.out]; simp, HM.out⟩
          case measure => (simp [intOf] <;> omega))
      · obtain rfl : p = 2 := by omega
        have HC : Hid (turnL (chgF players is) s.objs ↑k = turnE ↑k was (chg players was is 2)) := HT
        generalize chg players was is 2 = now at *
        by_cases he : now = was
        · have HE := Lib.hid (HC.out.trans (turnE_same he))
          have e1 : (now == was) = true := by simpa using he
          clear he
          go_wp2_with (first
            | (refine W_at (o := ⟨some 36, _, _, _, _, _⟩) ?_; fail_if_success (refine W_lit 35 rfl ?_); refine W_cases 35 _ rfl (fun hb35 => ?_) (fun hb35 => ?_) <;> (try simp only [decide_eq_true_eq, decide_eq_false_iff_not, beq_iff_eq, bne_iff_ne, beq_eq_false_iff_ne, bne_eq_false_iff_eq, ne_eq, Bool.not_eq_true', Bool.not_eq_false', Bool.and_eq_true, Bool.or_eq_true, Bool.and_eq_false_iff, Bool.or_eq_false_iff, Int.not_lt, Int.not_le, Nat.not_lt, Nat.not_le] at hb35) <;> simp only [Act.put, List.setIfInBounds_toArray, List.set_cons_succ, List.set_cons_zero])
            | (refine W_at (o := ⟨some 15, _, _, _, _, _⟩) ?_; fail_if_success (refine W_lit 14 rfl ?_); refine W_cases 14 _ rfl (fun hb14 => ?_) (fun hb14 => ?_) <;> (try simp only [decide_eq_true_eq, decide_eq_false_iff_not, beq_iff_eq, bne_iff_ne, beq_eq_false_iff_ne, bne_eq_false_iff_eq, ne_eq, Bool.not_eq_true', Bool.not_eq_false', Bool.and_eq_true, Bool.or_eq_true, Bool.and_eq_false_iff, Bool.or_eq_false_iff, Int.not_lt, Int.not_le, Nat.not_lt, Nat.not_le] at hb14) <;> simp only [Act.put, List.setIfInBounds_toArray, List.set_cons_succ, List.set_cons_zero])
            | (refine M_box HM.out rfl rfl rfl ?_; clear HM; intro b4 w4 HM; replace HM := Lib.hid HM)
            | (refine M_of _ rfl (R_field rfl rfl Try.underlying36 rfl (by kernel_rfl)) ?_)
            | (refine M_of _ rfl (R_cell HM.out rfl rfl (by (repeat (first | exact List.Mem.head _ | apply List.Mem.tail)); done) (by first | exact ints_get _ (by decide) | exact stC_sl _ (by decide) | exact stC_pl _ (by decide) (by decide) | exact stC_gm _ (by decide) (by decide) | assumption | rfl) Try.underlying29 rfl) ?_)
            | (refine M_of _ rfl (R_at (HM.out.rdi (by (repeat (first | exact RdIn.rd _ | exact RdIn.ow _ | apply RdIn.tail)); done)) rfl rfl (by first | assumption | rfl) Try.underlying29 rfl) ?_)
            | (refine M_of _ rfl (R_index (HM.out.rdi (by (repeat (first | exact RdIn.rd _ | exact RdIn.ow _ | apply RdIn.tail)); done)) rfl rfl rfl (by omega) (by omega) Try.underlying29 tsz_39 rfl) ?_)
            | (refine M_of _ rfl (R_elem rfl rfl rfl (by omega) (by omega) Try.underlying39 tsz_3 rfl) ?_)
            | (refine M_of _ rfl (R_cell HM.out rfl rfl (by (repeat (first | exact List.Mem.head _ | apply List.Mem.tail)); done) (by first | exact ints_get _ (by decide) | exact stC_sl _ (by decide) | exact stC_pl _ (by decide) (by decide) | exact stC_gm _ (by decide) (by decide) | assumption | rfl) Try.underlying3 rfl) ?_)
            | (refine M_of _ rfl (R_at (HM.out.rdi (by (repeat (first | exact RdIn.rd _ | exact RdIn.ow _ | apply RdIn.tail)); done)) rfl rfl (by first | assumption | rfl) Try.underlying3 rfl) ?_)
            | (go_at_call 23; refine (bit_g _ _ _ _ (by assumption) (by omega) (by omega)).mono ?_; rintro e wv ⟨rfl, hb⟩; replace HM := Lib.hid (HM.out.keep hb); clear hb)
            | (refine M_buildSlice (n := 1) HM.out rfl [_] rfl Try.underlying22 tinfo_25 rfl rfl (by decide) (by decide) (by intro u hu; simp at hu; (try (rcases hu with rfl)); all_goals (first | rfl | (subst hu; rfl) | simp [Value.cells, ints_size])) ?_; clear HM; intro b58 w58 HM; replace HM := Lib.hid HM; try simp only [Act.eval, Array.getD_eq_getD_getElem?, List.getElem?_toArray, List.getElem?_cons_succ, List.getElem?_cons_zero, Option.getD_some, List.flatMap_cons, List.flatMap_nil, Value.cells, List.append_nil, List.cons_append, List.nil_append] at HM))
          go_ret
          rw [HE.out]
          exact ⟨_, _, rfl, Ow.nil _ _ _, HM.out.below⟩
        · have HE := Lib.hid (HC.out.trans (turnE_other he))
          have e1 : (now == was) = false := by simpa using he
          clear he
          go_wp2_with (first
            | (refine W_at (o := ⟨some 36, _, _, _, _, _⟩) ?_; fail_if_success (refine W_lit 35 rfl ?_); refine W_cases 35 _ rfl (fun hb35 => ?_) (fun hb35 => ?_) <;> (try simp only [decide_eq_true_eq, decide_eq_false_iff_not, beq_iff_eq, bne_iff_ne, beq_eq_false_iff_ne, bne_eq_false_iff_eq, ne_eq, Bool.not_eq_true', Bool.not_eq_false', Bool.and_eq_true, Bool.or_eq_true, Bool.and_eq_false_iff, Bool.or_eq_false_iff, Int.not_lt, Int.not_le, Nat.not_lt, Nat.not_le] at hb35) <;> simp only [Act.put, List.setIfInBounds_toArray, List.set_cons_succ, List.set_cons_zero])
            | (refine W_at (o := ⟨some 15, _, _, _, _, _⟩) ?_; fail_if_success (refine W_lit 14 rfl ?_); refine W_cases 14 _ rfl (fun hb14 => ?_) (fun hb14 => ?_) <;> (try simp only [decide_eq_true_eq, decide_eq_false_iff_not, beq_iff_eq, bne_iff_ne, beq_eq_false_iff_ne, bne_eq_false_iff_eq, ne_eq, Bool.not_eq_true', Bool.not_eq_false', Bool.and_eq_true, Bool.or_eq_true, Bool.and_eq_false_iff, Bool.or_eq_false_iff, Int.not_lt, Int.not_le, Nat.not_lt, Nat.not_le] at hb14) <;> simp only [Act.put, List.setIfInBounds_toArray, List.set_cons_succ, List.set_cons_zero])
            | (refine M_box HM.out rfl rfl rfl ?_; clear HM; intro b4 w4 HM; replace HM := Lib.hid HM)
            | (refine M_of _ rfl (R_field rfl rfl Try.underlying36 rfl (by kernel_rfl)) ?_)
            | (refine M_of _ rfl (R_cell HM.out rfl rfl (by (repeat (first | exact List.Mem.head _ | apply List.Mem.tail)); done) (by first | exact ints_get _ (by decide) | exact stC_sl _ (by decide) | exact stC_pl _ (by decide) (by decide) | exact stC_gm _ (by decide) (by decide) | assumption | rfl) Try.underlying29 rfl) ?_)
            | (refine M_of _ rfl (R_at (HM.out.rdi (by (repeat (first | exact RdIn.rd _ | exact RdIn.ow _ | apply RdIn.tail)); done)) rfl rfl (by first | assumption | rfl) Try.underlying29 rfl) ?_)
            | (refine M_of _ rfl (R_index (HM.out.rdi (by (repeat (first | exact RdIn.rd _ | exact RdIn.ow _ | apply RdIn.tail)); done)) rfl rfl rfl (by omega) (by omega) Try.underlying29 tsz_39 rfl) ?_)
            | (refine M_of _ rfl (R_elem rfl rfl rfl (by omega) (by omega) Try.underlying39 tsz_3 rfl) ?_)
            | (refine M_of _ rfl (R_cell HM.out rfl rfl (by (repeat (first | exact List.Mem.head _ | apply List.Mem.tail)); done) (by first | exact ints_get _ (by decide) | exact stC_sl _ (by decide) | exact stC_pl _ (by decide) (by decide) | exact stC_gm _ (by decide) (by decide) | assumption | rfl) Try.underlying3 rfl) ?_)
            | (refine M_of _ rfl (R_at (HM.out.rdi (by (repeat (first | exact RdIn.rd _ | exact RdIn.ow _ | apply RdIn.tail)); done)) rfl rfl (by first | assumption | rfl) Try.underlying3 rfl) ?_)
            | (go_at_call 23; refine (bit_g _ _ _ _ (by assumption) (by omega) (by omega)).mono ?_; rintro e wv ⟨rfl, hb⟩; replace HM := Lib.hid (HM.out.keep hb); clear hb)
            | (refine M_buildSlice (n := 1) HM.out rfl [_] rfl Try.underlying22 tinfo_25 rfl rfl (by decide) (by decide) (by intro u hu; simp at hu; (try (rcases hu with rfl)); all_goals (first | rfl | (subst hu; rfl) | simp [Value.cells, ints_size])) ?_; clear HM; intro b58 w58 HM; replace HM := Lib.hid HM; try simp only [Act.eval, Array.getD_eq_getD_getElem?, List.getElem?_toArray, List.getElem?_cons_succ, List.getElem?_cons_zero, Option.getD_some, List.flatMap_cons, List.flatMap_nil, Value.cells, List.append_nil, List.cons_append, List.nil_append] at HM))
          go_ret
          rw [HE.out, evO_rows]
          exact ⟨_, _, rfl, HM.out.ow (List.Mem.head _), HM.out.below⟩
  · have HE := Lib.hid (turnL_out (nx := chgF players is) (l := s.objs) (id := id) (by rw [HL.out]; exact hin))
    have hc2 : id < 0 ∨ (¬ id < 0 ∧ (v.n 0 : Int) ≤ id) := by omega
    clear hin
    rcases hc2 with h | ⟨h, h2⟩
    all_goals (
      go_enter Try.func20, Try.ntmps20
      (go_wp2_with (first | (refine W_at (o := ⟨some 36, _, _, _, _, _⟩) ?_; fail_if_success (refine W_lit 35 rfl ?_); refine W_cases 35 _ rfl (fun hb35 => ?_) (fun hb35 => ?_) <;> (try simp only [decide_eq_true_eq, decide_eq_false_iff_not, beq_iff_eq, bne_iff_ne, beq_eq_false_iff_ne, bne_eq_false_iff_eq, ne_eq, Bool.not_eq_true', Bool.not_eq_false', Bool.and_eq_true, Bool.or_eq_true, Bool.and_eq_false_iff, Bool.or_eq_false_iff, Int.not_lt, Int.not_le, Nat.not_lt, Nat.not_le] at hb35) <;> simp only [Act.put, List.setIfInBounds_toArray, List.set_cons_succ, List.set_cons_zero]) | (refine W_at (o := ⟨some 15, _, _, _, _, _⟩) ?_; fail_if_success (refine W_lit 14 rfl ?_); refine W_cases 14 _ rfl (fun hb14 => ?_) (fun hb14 => ?_) <;> (try simp only [decide_eq_true_eq, decide_eq_false_iff_not, beq_iff_eq, bne_iff_ne, beq_eq_false_iff_ne, bne_eq_false_iff_eq, ne_eq, Bool.not_eq_true', Bool.not_eq_false', Bool.and_eq_true, Bool.or_eq_true, Bool.and_eq_false_iff, Bool.or_eq_false_iff, Int.not_lt, Int.not_le, Nat.not_lt, Nat.not_le] at hb14) <;> simp only [Act.put, List.setIfInBounds_toArray, List.set_cons_succ, List.set_cons_zero]) | (refine M_box HM.out rfl rfl rfl ?_; clear HM; intro b4 w4 HM; replace HM := Lib.hid HM) | (refine M_of _ rfl (R_field rfl rfl Try.underlying36 rfl (by kernel_rfl)) ?_) | (refine M_of _ rfl (R_cell HM.out rfl rfl (by (repeat (first | exact List.Mem.head _ | apply List.Mem.tail)); done) (by first | exact ints_get _ (by decide) | exact stC_sl _ (by decide) | exact stC_pl _ (by decide) (by decide) | exact stC_gm _ (by decide) (by decide) | assumption | rfl) Try.underlying29 rfl) ?_) | (refine M_of _ rfl (R_at (HM.out.rdi (by (repeat (first | exact RdIn.rd _ | exact RdIn.ow _ | apply RdIn.tail)); done)) rfl rfl (by first | assumption | rfl) Try.underlying29 rfl) ?_) | (refine M_of _ rfl (R_index (HM.out.rdi (by (repeat (first | exact RdIn.rd _ | exact RdIn.ow _ | apply RdIn.tail)); done)) rfl rfl rfl (by omega) (by omega) Try.underlying29 tsz_39 rfl) ?_) | (refine M_of _ rfl (R_elem rfl rfl rfl (by omega) (by omega) Try.underlying39 tsz_3 rfl) ?_) | (refine M_of _ rfl (R_cell HM.out rfl rfl (by (repeat (first | exact List.Mem.head _ | apply List.Mem.tail)); done) (by first | exact ints_get _ (by decide) | exact stC_sl _ (by decide) | exact stC_pl _ (by decide) (by decide) | exact stC_gm _ (by decide) (by decide) | assumption | rfl) Try.underlying3 rfl) ?_) | (refine M_of _ rfl (R_at (HM.out.rdi (by (repeat (first | exact RdIn.rd _ | exact RdIn.ow _ | apply RdIn.tail)); done)) rfl rfl (by first | assumption | rfl) Try.underlying3 rfl) ?_) | (go_at_call 23; refine (bit_g _ _ _ _ (by assumption) (by omega) (by omega)).mono ?_; rintro e wv ⟨rfl, hb⟩; replace HM := Lib.hid (HM.out.keep hb); clear hb) | (refine M_buildSlice (n := 1) HM.out rfl [_] rfl Try.underlying22 tinfo_25 rfl rfl (by decide) (by decide) (by intro u hu; simp at hu; (try (rcases hu with rfl)); all_goals (first | rfl | (subst hu; rfl) | simp [Value.cells, ints_size])) ?_; clear HM; intro b58 w58 HM; replace HM := Lib.hid HM; try simp only [Act.eval, Array.getD_eq_getD_getElem?, List.getElem?_toArray, List.getElem?_cons_succ, List.getElem?_cons_zero, Option.getD_some, List.flatMap_cons, List.flatMap_nil, Value.cells, List.append_nil, List.cons_append, List.nil_append] at HM)))
      go_ret
      rw [HE.out]
      exact ⟨_, _, rfl, Ow.nil _ _ _, HM.out.below⟩)
end Go.Proofs.Ytlgfnimahmmgeaa
