import Derived.Test.YtbpbdanggilnpaaDoorM17

set_option linter.unusedVariables false
set_option linter.unusedSimpArgs false

section
namespace Go.Proofs.YtbpbdanggilnpaaDoor
open Go.RowKit
set_option linter.unusedVariables false
set_option linter.unusedSimpArgs false
theorem op_16 {k a b : Int} {l : List (List Dat)} (h : opE k a b l = 0) : l.length ≤ 16 := by
  unfold opE at h
  split at h
  · cases h
  · rename_i hk
    split at h
    · cases h
    · rename_i hb
      have h16 := opTo_16 hk
      unfold opBad at hb
      rw [Bool.not_eq_true, Bool.or_eq_false_iff, Bool.or_eq_false_iff, decide_eq_false_iff_not, decide_eq_false_iff_not] at hb
      omega
theorem ok_nums {l : List (List Dat)} (h : ∀ n ∈ nums l, okN n) : mth.Ok (nums l) := fun n hn => h n hn
theorem mem_map_tri {α : Type} {tri : List Dat → α} {A : List (List Dat)} {y : α} (h : y ∈ A.map tri) : ∃ i, i < A.length ∧ y = tri (A.getD i []) := by
  obtain ⟨r, hr, e⟩ := List.mem_map.1 h
  obtain ⟨i, hi, e2⟩ := List.getElem_of_mem hr
  exact ⟨i, hi, by rw [List.getD_eq_getElem?_getD, List.getElem?_eq_getElem hi, ← e, ← e2]; rfl⟩
/-- a right script can be taken back -/
theorem ok_of {ds : List Dat} (h : scrD ds = 0) (hs : SmS ds) : okSt (triS ds) := by
  obtain ⟨k0, k1⟩ := scr_0 h
  obtain ⟨h2, h3, hn, ho⟩ := hs
  have hz : (argL ds 2).length ≤ 4096 ∧ (argL ds 3).length ≤ 1000 ∧ firstE opR (argL ds 3) = 0 := by
    unfold scrD scrN at h
    by_cases g0 : dk.deckN (nums (argL ds 0)) = 0
    · rw [if_neg (fun hx => hx g0)] at h
      by_cases g1 : dk.deckN (nums (argL ds 1)) = 0
      · rw [if_neg (fun hx => hx g1)] at h
        by_cases g2 : 4096 < (argL ds 2).length
        · rw [if_pos g2] at h; cases h
        · rw [if_neg g2] at h
          by_cases g3 : 1000 < (argL ds 3).length
          · rw [if_pos g3] at h; cases h
          · rw [if_neg g3] at h; exact ⟨by omega, by omega, h⟩
      · rw [if_pos g1] at h; exact absurd h g1
    · rw [if_pos g0] at h; exact absurd h g0
  obtain ⟨z2, z3, z4⟩ := hz
  have hz := firstE_ne opR z4
  refine ⟨⟨ok_nums (hn 0 (by omega)), ?_⟩, ⟨ok_nums (hn 1 (by omega)), ?_⟩, ⟨ok_nums (hn 2 (by omega)), ?_⟩, ?_, ?_⟩
  · show ((nums (argL ds 0)).length : Int) ≤ 100
    rw [nums_len]; omega
  · show ((nums (argL ds 1)).length : Int) ≤ 100
    rw [nums_len]; omega
  · show ((nums (argL ds 2)).length : Int) ≤ 4096
    rw [nums_len]; omega
  · show (((argL ds 3).map triO).length : Int) ≤ 1000
    rw [List.length_map]; omega
  · intro y hy
    obtain ⟨i, hi, rfl⟩ := mem_map_tri hy
    obtain ⟨p1, p2, p3, p4, p5⟩ := ho i hi
    have h16 := op_16 (hz i hi)
    generalize (argL ds 3).getD i [] = r at *
    refine ⟨p2, p3, p4, ?_, ?_⟩
    · show (((oDo r).map triD).length : Int) ≤ 16
      rw [List.length_map]; omega
    · intro y hy
      obtain ⟨k, hk, rfl⟩ := mem_map_tri hy
      obtain ⟨q1, q2, q3, q4, q5, q6⟩ := p5 k hk
      generalize (oDo r).getD k [] = q at *
      refine ⟨q2, q3, q4, q5, ok_nums q6, ?_⟩
      show ((nums (dLst q)).length : Int) ≤ 400
      rw [nums_len]; omega
/-- what is taken can be written -/
theorem Held.smS {x : ScrT} {a b c d : Dat} (h : Held x a b c d) : SmS [a, b, c, d] := by
  have hl := h.lens
  have hm := h.sml
  have e := h.tri
  have o := h.ok
  subst e
  refine ⟨Nat.le_trans hl.2.2 (by omega), Nat.le_trans hm.1 (by omega), fun i hi => ?_, fun i hi => ?_⟩
  · match i, hi with
    | 0, _ => exact o.1.1
    | 1, _ => exact o.2.1.1
    | 2, _ => exact o.2.2.1.1
  · have hi : i < d.xs.length := hi
    have hp := o.2.2.2.2 _ (mem_tri hi)
    have hs := hm.2 i hi
    show SmP (d.xs.getD i [])
    generalize d.xs.getD i [] = r at *
    refine ⟨Nat.le_trans hs.1 (by omega), hp.1, hp.2.1, hp.2.2.1, fun k hk => ?_⟩
    obtain ⟨q0, q1⟩ := hs.2 k hk
    exact ⟨q0, q1.1, q1.2.1, q1.2.2.1, q1.2.2.2.1, q1.2.2.2.2.1⟩
theorem Held.in0 {x : ScrT} {a b c d : Dat} (h : Held x a b c d) : in64s (nums a.xs) ∧ in64s (nums b.xs) :=
  ⟨fun n hn => wf_okN (h.smS.2.2.1 0 (by omega) n hn), fun n hn => wf_okN (h.smS.2.2.1 1 (by omega) n hn)⟩
theorem one_s {B : Dat} {l : List Nat} {Q : List Dat → Prop} (hx : B.xs = u8R l) (hb : bytes l) (hlen : l.length ≤ 90000000)
    (h1 : ∀ n, n ≠ 0 → Q (scrZ ++ [errV n])) (h2 : ∀ x a b c d, l = eS x → Held x a b c d → scrD [a, b, c, d] = 0 → Q [a, b, c, d, errV 0]) : tParse_s [B] Q := by
  refine ⟨l, hx, hb, hlen, ?_⟩
  by_cases h0 : 65536 < l.length
  · rw [if_pos h0]; exact h1 3 (by decide)
  · rw [if_neg h0]
    refine readQ_one (P := fun rs n => Q (rs ++ [errV n])) h1 ?_
    intro x rs hp he hz
    obtain ⟨a, b, c, d, rfl, q⟩ := he
    have := (cano_S l x [] hb hp).1
    rw [List.append_nil] at this
    exact h2 x a b c d this (held_of hb hp ⟨a, b, c, d, rfl, q⟩) hz
theorem back_s {B : Dat} {x : ScrT} {Q : List Dat → Prop} (hx : B.xs = u8R (eS x)) (hb : bytes (eS x)) (hlen : (eS x).length ≤ 65536) (ho : okSt x) (hz : ∀ a b c d, Held x a b c d → scrD [a, b, c, d] = 0)
    (h2 : ∀ a b c d, Held x a b c d → Q [a, b, c, d, errV 0]) : tParse_s [B] Q := by
  refine ⟨eS x, hx, hb, by omega, ?_⟩
  rw [if_neg (by omega)]
  have hp := back_S x [] ho
  rw [List.append_nil] at hp
  unfold readQ Run
  rw [hp]
  show if ([] : List Nat) = [] then _ else _
  rw [if_pos rfl]
  intro rs he
  obtain ⟨a, b, c, d, rfl, q⟩ := he
  have hh : Held x a b c d := held_of hb hp ⟨a, b, c, d, rfl, q⟩
  rw [if_pos (hz a b c d hh)]
  exact h2 a b c d hh
theorem good_tail {raw : List Nat} {x : ScrT} {a b c d R : Dat} {Q : List Dat → Prop} (hh : Held x a b c d) (hp : raw = eS x) (hz : scrD [a, b, c, d] = 0) (hR : R.xs = u8R raw) (hb : bytes raw) (hlen : raw.length ≤ 3000) (h : Q [.bool true]) :
    SmS [a, b, c, d] ∧ in64s (nums a.xs) ∧ in64s (nums b.xs) ∧ BytesS [a, b, c, d] fun d' n =>
      (isNilI (errV n) = true → ∃ l m, d'.xs = u8R l ∧ R.xs = u8R m ∧ (∀ c ∈ l, c < 256) ∧ (∀ c ∈ m, c < 256) ∧ (Dat.bool (decide (l = m)) = Dat.bool true → in64s (nums a.xs) ∧ in64s (nums b.xs) ∧ Q [.bool (isNilI (errV (scrD [a, b, c, d])))]) ∧ (Dat.bool (decide (l = m)) = Dat.bool false → Q [.bool false])) ∧
      (isNilI (errV n) = false → Q [.bool false]) := by
  have he : encS [a, b, c, d] = raw := by rw [hp, ← eS_tri, show triS [a, b, c, d] = x from hh.tri]
  refine ⟨hh.smS, hh.in0.1, hh.in0.2, fun d' n h1 h2 h3 => ?_⟩
  obtain ⟨rfl, hd⟩ := h3 hz (by rw [he]; omega)
  rw [he] at hd
  refine ⟨fun _ => ⟨raw, raw, hd, hR, hb, hb, fun _ => ⟨hh.in0.1, hh.in0.2, ?_⟩, fun hx => ?_⟩, fun hx => ?_⟩
  · rw [hz]; exact h
  · rw [decide_eq_true rfl] at hx; cases hx
  · cases hx
theorem bad_tail {n : Int} {Q : List Dat → Prop} {X : Prop} (hn : n ≠ 0) (h : Q [.bool true]) : (isNilI (errV n) = false → sSame_s [z1, z1, z1, z4, z1, z1, z1, z4] fun rs => Q [rs.getD 0 (.bool false)]) ∧ (isNilI (errV n) = true → X) := by
  refine ⟨fun _ => ⟨fun i hi => ?_, zero_held.sml.sm, fun v hv => ?_⟩, fun hx => ?_⟩
  · match i, hi with
    | 0, _ | 1, _ | 2, _ => exact Nat.zero_le _
  · obtain rfl : v = true := hv.2 ⟨rfl, rfl, rfl, ops_refl _⟩
    exact h
  · rw [errV_ne hn] at hx; cases hx
def k_lback35 : Nat := 4
def sg_lback35 : Sig := ⟨[(true, [.list 3, .list 3, .list 3] ++ [.list 68]), (false, [.list 5])], [(false, [.bool])], false, false, true, false, false, [], [], none⟩
def tr_lback35 : Tree := (.call k_alive35 [] [.bool] (.ite (.not (.var 5)) (.ret [(.bool false)]) (.call k_Long35 [(.var 0), (.var 1), (.var 2), (.var 3)] [.bool] (.ite (.or (.var 6) (.cmp .gt (.len (.var 4)) (.int .i64 3000))) (.ret [(.bool true)]) (.call k_sBytes [(.var 0), (.var 1), (.var 2), (.var 3)] [(.list 5), .err] (.ite (.isnil (.var 8)) (.call k_tParse [(.var 7)] [(.list 3), (.list 3), (.list 3), (.list 68), .err] (.ite (.not (.isnil (.var 13))) (.ret [(.bool false)]) (.call k_sSame [(.var 0), (.var 1), (.var 2), (.var 3), (.var 9), (.var 10), (.var 11), (.var 12)] [.bool] (.ite (.or (.not (.var 14)) (.cmp .gt (.len (.var 7)) (.int .i64 65536))) (.ret [(.bool false)]) (.call k_tParse [(.var 4)] [(.list 3), (.list 3), (.list 3), (.list 68), .err] (.ite (.not (.isnil (.var 19))) (.call k_sSame [(.var 15), (.var 16), (.var 17), (.var 18), (.nil 3), (.nil 3), (.nil 3), (.nil 68)] [.bool] (.ret [(.var 20)])) (.call k_sBytes [(.var 15), (.var 16), (.var 17), (.var 18)] [(.list 5), .err] (.ite (.isnil (.var 21)) (.call k_sameB [(.var 20), (.var 4)] [.bool] (.ite (.var 22) (.call k_sCheck [(.var 15), (.var 16), (.var 17), (.var 18)] [.err] (.ret [(.isnil (.var 23))])) (.ret [(.bool false)]))) (.ret [(.bool false)]))))))))) (.call k_tParse [(.var 4)] [(.list 3), (.list 3), (.list 3), (.list 68), .err] (.ite (.not (.isnil (.var 13))) (.call k_sSame [(.var 9), (.var 10), (.var 11), (.var 12), (.nil 3), (.nil 3), (.nil 3), (.nil 68)] [.bool] (.ret [(.var 14)])) (.call k_sBytes [(.var 9), (.var 10), (.var 11), (.var 12)] [(.list 5), .err] (.ite (.isnil (.var 15)) (.call k_sameB [(.var 14), (.var 4)] [.bool] (.ite (.var 16) (.call k_sCheck [(.var 9), (.var 10), (.var 11), (.var 12)] [.err] (.ret [(.isnil (.var 17))])) (.ret [(.bool false)]))) (.ret [(.bool false)])))))))))))
theorem wk_lback35 : walk E0.cx (sgsN [(5, sg_alive35), (11, sg_Long35), (12, sg_sBytes), (6, sg_tParse), (13, sg_sSame), (15, sg_sCheck), (14, sg_sameB)]) 0 4 sg_lback35 = tr_lback35 := by kernel_rfl
theorem bo_lback35 : ∃ x, bodyOf E0.P 4 = some x := bo_of (by kernel_rfl)
theorem sp_lback35_alive35 : specC [con_alive35, con_Long35, con_sBytes, con_tParse, con_sSame, con_sCheck, con_sameB] k_alive35 = alive35_s := rfl
theorem sp_lback35_Long35 : specC [con_alive35, con_Long35, con_sBytes, con_tParse, con_sSame, con_sCheck, con_sameB] k_Long35 = Long35_s := rfl
theorem sp_lback35_sBytes : specC [con_alive35, con_Long35, con_sBytes, con_tParse, con_sSame, con_sCheck, con_sameB] k_sBytes = sBytes_s := rfl
theorem sp_lback35_tParse : specC [con_alive35, con_Long35, con_sBytes, con_tParse, con_sSame, con_sCheck, con_sameB] k_tParse = tParse_s := rfl
theorem sp_lback35_sSame : specC [con_alive35, con_Long35, con_sBytes, con_tParse, con_sSame, con_sCheck, con_sameB] k_sSame = sSame_s := rfl
theorem sp_lback35_sCheck : specC [con_alive35, con_Long35, con_sBytes, con_tParse, con_sSame, con_sCheck, con_sameB] k_sCheck = sCheck_s := rfl
theorem sp_lback35_sameB : specC [con_alive35, con_Long35, con_sBytes, con_tParse, con_sSame, con_sCheck, con_sameB] k_sameB = sameB_s := rfl
def lback35_s : Spec := law_s
theorem lback35_h : Holds E0 k_lback35 sg_lback35 lback35_s := con_fn wf0 mix0 g0 [con_alive35, con_Long35, con_sBytes, con_tParse, con_sSame, con_sCheck, con_sameB] rfl wk_lback35 rfl (by
  intro Φ hΦ ds Q hs ⟨hin, h⟩
  have hl : ds.length = 5 := hs.length.symm
  have s1 : Φ k_alive35 = alive35_s := by rw [hΦ]; rfl
  have s2 : Φ k_Long35 = Long35_s := by rw [hΦ]; rfl
  have s3 : Φ k_sBytes = sBytes_s := by rw [hΦ]; rfl
  have s4 : Φ k_tParse = tParse_s := by rw [hΦ]; rfl
  have s5 : Φ k_sSame = sSame_s := by rw [hΦ]; rfl
  have s6 : Φ k_sCheck = sCheck_s := by rw [hΦ]; rfl
  have s7 : Φ k_sameB = sameB_s := by rw [hΦ]; rfl
  clear hΦ
  simp only [tr_lback35, wp, den_int, den_bool, den_nili, den_ar, den_cmp, den_not, den_len, den_elem, den_isnil, den_errI, den_ifc, den_rep, den_push, den_app, den_emp, den_upd, row0_econs, row0_enil, den_and, den_beq, den_nil, toInt_int, toBool_bool, xs_rows, xs_list, dflt_int, dflt_bool, of_eq, of_ne, of_lt, of_le, of_gt, of_ge, of_add, of_sub, of_rem, List.map_cons, List.map_nil, Dat.bool.injEq, decide_eq_true_eq, decide_eq_false_iff_not, Bool.not_eq_true', Bool.not_eq_false', beq_iff_eq, bne_iff_ne, beq_eq_false_iff_ne, bne_eq_false_iff_eq, ne_eq, List.append_assoc, List.cons_append, List.nil_append, allS, s1, s2, s3, s4, s5, s6, s7, alive35_s, Long35_s, sBytes_s, sCheck_s, sameB_s, errV_nil, @den_var0 E0.Δ ds, den_varA, den_varB, hl, Nat.reduceLT, Nat.reduceLeDiff, Nat.reduceSub, List.getD_cons_zero, List.getD_cons_succ, argL_fold ds, argI_fold ds, List.append_assoc, List.cons_append, List.nil_append, toInt_int, toBool_bool, xs_rows, xs_list, Int.toNat_natCast, Dat.bool.injEq]
  have hI : ∀ i, i < 5 → InD (ds.getD i (.bool false)) := fun i hi => hin _ (getD_memL (by omega))
  have hH : ∀ {i : Nat} {s : Srt}, (Sig.sorts sg_lback35.params)[i]? = some s → Has E0.Δ s (ds.getD i (.bool false)) := fun {i s} hi => by
    obtain ⟨b, hb, hh⟩ := hs.get hi
    rw [List.getD_eq_getElem?_getD, hb]; exact hh
  have h012 : ∀ i, i < 3 → Has E0.Δ (.list 3) (ds.getD i (.bool false)) := fun i hi => by
    match i, hi with
    | 0, _ => exact hH (by rfl)
    | 1, _ => exact hH (by rfl)
    | 2, _ => exact hH (by rfl)
  have h3 : Has E0.Δ (.list 68) (ds.getD 3 (.bool false)) := hH (by rfl)
  obtain ⟨raw, hx, hb, hlen⟩ := byte_has (hH (i := 4) (by rfl)) (hI 4 (by omega))
  have hsm0 : ShortS ds → SmS ds := smS_of (by omega) h012 h3 (fun i hi => hI i (by omega))
  clear hI hH h012 h3 hs hin
  obtain ⟨S0, S1, S2, S3, R, rfl⟩ : ∃ S0 S1 S2 S3 R, ds = [S0, S1, S2, S3, R] := by
    match ds, hl with
    | [a, b, c, d, e], _ => exact ⟨a, b, c, d, e, rfl⟩
  have hR : R.xs = u8R raw := hx
  have hsm0 : ShortS [S0, S1, S2, S3] → SmS [S0, S1, S2, S3] := fun h => by
    have q := hsm0 h
    refine ⟨q.1, q.2.1, fun i hi => ?_, q.2.2.2⟩
    match i, hi with
    | 0, _ => exact q.2.2.1 0 (by omega)
    | 1, _ => exact q.2.2.1 1 (by omega)
    | 2, _ => exact q.2.2.1 2 (by omega)
  refine ⟨fun hx => Bool.noConfusion hx, fun _ b hbs => ⟨fun _ => h, fun hc => ?_⟩⟩
  have hc : Dat.bool (b || decide ((R.xs.length : Int) > 3000)) = Dat.bool false := hc
  have hc := Dat.bool.inj hc
  rw [Bool.or_eq_false_iff, decide_eq_false_iff_not, hR, u8R_len] at hc
  obtain ⟨hbf, hc⟩ := hc
  have hraw : raw.length ≤ 3000 := by omega
  have hsh : ShortS [S0, S1, S2, S3] := hbs hbf
  have hsm : SmS [S0, S1, S2, S3] := hsm0 hsh
  refine ⟨hsm, fun n hn => wf_okN (hsm.2.2.1 0 (by omega) n hn), fun n hn => wf_okN (hsm.2.2.1 1 (by omega) n hn), fun d n a1 a2 a3 => ⟨fun h0 => ?_, fun h0 => ?_⟩⟩
  · have a1 : scrD [S0, S1, S2, S3] ≠ 0 → n = scrD [S0, S1, S2, S3] ∧ d.xs = [] := a1
    have a2 : scrD [S0, S1, S2, S3] = 0 → 65536 < (encS [S0, S1, S2, S3]).length → n = 3 ∧ d.xs = [] := a2
    have a3 : scrD [S0, S1, S2, S3] = 0 → ¬ 65536 < (encS [S0, S1, S2, S3]).length → n = 0 ∧ d.xs = u8R (encS [S0, S1, S2, S3]) := a3
    have hz : scrD [S0, S1, S2, S3] = 0 := by
      by_cases hz : scrD [S0, S1, S2, S3] = 0
      · exact hz
      · rw [← (a1 hz).1]; exact h0
    have hle : ¬ 65536 < (encS [S0, S1, S2, S3]).length := fun hx => by
      have := (a2 hz hx).1
      omega
    have hd := (a3 hz hle).2
    have e := eS_tri [S0, S1, S2, S3]
    have hk := scr_0 hz
    refine back_s (x := triS [S0, S1, S2, S3]) (by rw [e]; exact hd) (by rw [e]; exact encS_byte hsm hz) (by rw [e]; omega) (ok_of hz hsm) (fun a b c d hh => by rw [← hz]; exact scr_tri hh.tri) (fun a1 b1 c1 d1 hh => ⟨fun hx => (by cases hx), fun _ => ⟨fun i hi => ?_, ?_, fun v hv => ?_⟩⟩)
    · match i, hi with
      | 0, _ => exact Nat.le_trans hk.1 (by omega)
      | 1, _ => exact Nat.le_trans hk.2 (by omega)
      | 2, _ => exact Nat.le_trans hsm.1 (by omega)
    · exact smO_of hsh.2.1 hsh.2.2
    · have hv : v = true ↔ nums S0.xs = nums a1.xs ∧ nums S1.xs = nums b1.xs ∧ nums S2.xs = nums c1.xs ∧ OpsR S3.xs d1.xs := hv
      have ht := hh.tri
      simp only [triS, Prod.mk.injEq] at ht
      obtain rfl : v = true := hv.2 ⟨ht.1.symm, ht.2.1.symm, ht.2.2.1.symm, tri_OpsR ht.2.2.2.symm⟩
      refine ⟨fun hx => ?_, fun _ => one_s hR hb (by omega) (fun n hn => bad_tail hn h) (fun x a b c d hp hh hz => ⟨fun hx => (by cases hx), fun _ => good_tail hh hp hz hR hb hraw h⟩)⟩
      have hx : Dat.bool (!true || decide ((d.xs.length : Int) > 65536)) = Dat.bool true := hx
      have hx := Dat.bool.inj hx
      rw [Bool.not_true, Bool.false_or, decide_eq_true_eq, hd, u8R_len] at hx
      omega
  · refine one_s hR hb (by omega) (fun n hn => bad_tail hn h) (fun x a b c d hp hh hz => ⟨fun hx => (by cases hx), fun _ => good_tail hh hp hz hR hb hraw h⟩)
    )
noncomputable def con_lback35 : Con E0 := ⟨k_lback35, sg_lback35, lback35_s, rfl, bo_lback35, lback35_h⟩
end Go.Proofs.YtbpbdanggilnpaaDoor
end
