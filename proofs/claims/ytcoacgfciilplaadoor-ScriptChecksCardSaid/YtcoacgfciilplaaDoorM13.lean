import Derived.Test.YtcoacgfciilplaaDoorM12

set_option linter.unusedVariables false
set_option linter.unusedSimpArgs false

section
namespace Go.Proofs.YtcoacgfciilplaaDoor
open Go.RowKit
set_option linter.unusedVariables false
set_option linter.unusedSimpArgs false

theorem bytes_eq {ds ds' : List Dat} {d d' : Dat} {n n' : Int} (hs : SmS ds) (e0 : scrD ds' = scrD ds) (e1 : encS ds' = encS ds)
    (a : (scrD ds ≠ 0 → n = scrD ds ∧ d.xs = []) ∧ (scrD ds = 0 → 65536 < (encS ds).length → n = 3 ∧ d.xs = []) ∧ (scrD ds = 0 → ¬ 65536 < (encS ds).length → n = 0 ∧ d.xs = u8R (encS ds)))
    (b : (scrD ds' ≠ 0 → n' = scrD ds' ∧ d'.xs = []) ∧ (scrD ds' = 0 → 65536 < (encS ds').length → n' = 3 ∧ d'.xs = []) ∧ (scrD ds' = 0 → ¬ 65536 < (encS ds').length → n' = 0 ∧ d'.xs = u8R (encS ds'))) :
    n = n' ∧ ∃ l, d.xs = u8R l ∧ d'.xs = u8R l ∧ ∀ c ∈ l, c < 256 := by
  rw [e0, e1] at b
  by_cases h0 : scrD ds = 0
  · by_cases h1 : 65536 < (encS ds).length
    · obtain ⟨x1, x2⟩ := a.2.1 h0 h1
      obtain ⟨y1, y2⟩ := b.2.1 h0 h1
      exact ⟨by rw [x1, y1], [], x2, y2, fun c hc => by cases hc⟩
    · obtain ⟨x1, x2⟩ := a.2.2 h0 h1
      obtain ⟨y1, y2⟩ := b.2.2 h0 h1
      exact ⟨by rw [x1, y1], _, x2, y2, encS_byte hs h0⟩
  · obtain ⟨x1, x2⟩ := a.1 h0
    obtain ⟨y1, y2⟩ := b.1 h0
    exact ⟨by rw [x1, y1], [], x2, y2, fun c hc => by cases hc⟩
def k_lchecks35 : Nat := 3
def sg_lchecks35 : Sig := ⟨[(true, [.list 3, .list 3, .list 3] ++ [.list 42]), (false, [.int .i64])], [(false, [.bool])], false, false, true, false, false⟩
def tr_lchecks35 : Tree := (.call k_alive35 [] [.bool]
(.ite (.not (.var 5))
 (.ret [(.bool false)])
 (.call k_Long35 [(.var 0), (.var 1), (.var 2), (.var 3)] [.bool]
 (.ite (.var 6)
  (.ret [(.bool true)])
  (.call k_Doc35 [(.var 0), (.var 1), (.var 2), (.var 3)] [(.list 3), (.list 3), (.list 3), (.list 46)]
  (.call k_sBytes [(.var 0), (.var 1), (.var 2), (.var 3)] [(.list 5), .err]
  (.call k_rBytes35 [(.var 7), (.var 8), (.var 9), (.var 10)] [(.list 5), (.int .i64)]
  (.loop [(.bool false), (.int .i64 0)] [.bool, (.int .i64)]
   (.ite (.cmp .lt (.var 16) (.len (.var 3)))
    (.ob (.cmp .ge (.var 16) (.int .i64 0))
    (.call k_sCheckOp [(.elem (.var 3) (.var 16) 0 (.int .i64)), (.elem (.var 3) (.var 16) 1 (.int .i64)), (.elem (.var 3) (.var 16) 2 (.int .i64)), (.elem (.var 3) (.var 16) 3 (.list 55))] [.err]
    (.call k_Num [(.var 17)] [(.int .i64)]
    (.call k_rCheckOp [(.elem (.var 3) (.var 16) 0 (.int .i64)), (.elem (.var 3) (.var 16) 1 (.int .i64)), (.elem (.var 3) (.var 16) 2 (.int .i64)), (.elem (.var 3) (.var 16) 3 (.list 55))] [(.int .i64)]
    (.ite (.cmp .ne (.var 18) (.var 19))
     (.ret [(.bool false)])
     (.again 0 [(.var 15), (.ar .add .i64 (.var 16) (.int .i64 1))]))))))
    (.call k_sCheck [(.var 0), (.var 1), (.var 2), (.var 3)] [.err]
    (.call k_Num [(.var 17)] [(.int .i64)]
    (.call k_rCheck [(.var 7), (.var 8), (.var 9), (.var 10)] [(.int .i64)]
    (.ite (.cmp .eq (.var 18) (.var 19))
     (.call k_sameB [(.var 11), (.var 13)] [.bool]
     (.ite (.var 20)
      (.call k_Num [(.var 12)] [(.int .i64)]
      (.ite (.cmp .eq (.var 21) (.var 14))
       (.call k_sName [(.var 4)] [.str]
       (.call k_rName [(.var 4)] [.str]
       (.ret [(.seq (.var 22) (.var 23))])))
       (.ret [(.bool false)])))
      (.ret [(.bool false)])))
     (.ret [(.bool false)]))))))))))))))
theorem wk_lchecks35 : walk E0.cx (sgsN [(5, sg_alive35), (6, sg_Long35), (7, sg_Doc35), (8, sg_sBytes), (9, sg_rBytes35), (11, sg_sCheckOp), (12, sg_rCheckOp), (13, sg_sCheck), (14, sg_rCheck), (15, sg_sameB), (16, sg_sName), (17, sg_rName), (10, sg_Num)]) 0 3 sg_lchecks35 = tr_lchecks35 := by kernel_rfl
theorem bo_lchecks35 : ∃ x, bodyOf E0.P 3 = some x := bo_of (by kernel_rfl)
theorem sp_lchecks35_alive35 : specC [con_alive35, con_Long35, con_Doc35, con_sBytes, con_rBytes35, con_sCheckOp, con_rCheckOp, con_sCheck, con_rCheck, con_sameB, con_sName, con_rName, con_Num] k_alive35 = alive35_s := rfl
theorem sp_lchecks35_Long35 : specC [con_alive35, con_Long35, con_Doc35, con_sBytes, con_rBytes35, con_sCheckOp, con_rCheckOp, con_sCheck, con_rCheck, con_sameB, con_sName, con_rName, con_Num] k_Long35 = Long35_s := rfl
theorem sp_lchecks35_Doc35 : specC [con_alive35, con_Long35, con_Doc35, con_sBytes, con_rBytes35, con_sCheckOp, con_rCheckOp, con_sCheck, con_rCheck, con_sameB, con_sName, con_rName, con_Num] k_Doc35 = Doc35_s := rfl
theorem sp_lchecks35_sBytes : specC [con_alive35, con_Long35, con_Doc35, con_sBytes, con_rBytes35, con_sCheckOp, con_rCheckOp, con_sCheck, con_rCheck, con_sameB, con_sName, con_rName, con_Num] k_sBytes = sBytes_s := rfl
theorem sp_lchecks35_rBytes35 : specC [con_alive35, con_Long35, con_Doc35, con_sBytes, con_rBytes35, con_sCheckOp, con_rCheckOp, con_sCheck, con_rCheck, con_sameB, con_sName, con_rName, con_Num] k_rBytes35 = rBytes35_s := rfl
theorem sp_lchecks35_sCheckOp : specC [con_alive35, con_Long35, con_Doc35, con_sBytes, con_rBytes35, con_sCheckOp, con_rCheckOp, con_sCheck, con_rCheck, con_sameB, con_sName, con_rName, con_Num] k_sCheckOp = sCheckOp_s := rfl
theorem sp_lchecks35_rCheckOp : specC [con_alive35, con_Long35, con_Doc35, con_sBytes, con_rBytes35, con_sCheckOp, con_rCheckOp, con_sCheck, con_rCheck, con_sameB, con_sName, con_rName, con_Num] k_rCheckOp = rCheckOp_s := rfl
theorem sp_lchecks35_sCheck : specC [con_alive35, con_Long35, con_Doc35, con_sBytes, con_rBytes35, con_sCheckOp, con_rCheckOp, con_sCheck, con_rCheck, con_sameB, con_sName, con_rName, con_Num] k_sCheck = sCheck_s := rfl
theorem sp_lchecks35_rCheck : specC [con_alive35, con_Long35, con_Doc35, con_sBytes, con_rBytes35, con_sCheckOp, con_rCheckOp, con_sCheck, con_rCheck, con_sameB, con_sName, con_rName, con_Num] k_rCheck = rCheck_s := rfl
theorem sp_lchecks35_sameB : specC [con_alive35, con_Long35, con_Doc35, con_sBytes, con_rBytes35, con_sCheckOp, con_rCheckOp, con_sCheck, con_rCheck, con_sameB, con_sName, con_rName, con_Num] k_sameB = sameB_s := rfl
theorem sp_lchecks35_sName : specC [con_alive35, con_Long35, con_Doc35, con_sBytes, con_rBytes35, con_sCheckOp, con_rCheckOp, con_sCheck, con_rCheck, con_sameB, con_sName, con_rName, con_Num] k_sName = sName_s := rfl
theorem sp_lchecks35_rName : specC [con_alive35, con_Long35, con_Doc35, con_sBytes, con_rBytes35, con_sCheckOp, con_rCheckOp, con_sCheck, con_rCheck, con_sameB, con_sName, con_rName, con_Num] k_rName = rName_s := rfl
theorem sp_lchecks35_Num : specC [con_alive35, con_Long35, con_Doc35, con_sBytes, con_rBytes35, con_sCheckOp, con_rCheckOp, con_sCheck, con_rCheck, con_sameB, con_sName, con_rName, con_Num] k_Num = Num_s := rfl
def lchecks35_s : Spec := law_s
theorem lchecks35_h : Holds E0 k_lchecks35 sg_lchecks35 lchecks35_s := con_fn wf0 mix0 g0 [con_alive35, con_Long35, con_Doc35, con_sBytes, con_rBytes35, con_sCheckOp, con_rCheckOp, con_sCheck, con_rCheck, con_sameB, con_sName, con_rName, con_Num] rfl wk_lchecks35 rfl (by
  intro Φ hΦ ds Q hs ⟨hin, h⟩
  have hl : ds.length = 5 := hs.length.symm
  have s1 : Φ k_alive35 = alive35_s := by rw [hΦ]; rfl
  have s2 : Φ k_Long35 = Long35_s := by rw [hΦ]; rfl
  have s3 : Φ k_Doc35 = Doc35_s := by rw [hΦ]; rfl
  have s4 : Φ k_sBytes = sBytes_s := by rw [hΦ]; rfl
  have s5 : Φ k_rBytes35 = rBytes35_s := by rw [hΦ]; rfl
  have s6 : Φ k_sCheckOp = sCheckOp_s := by rw [hΦ]; rfl
  have s7 : Φ k_rCheckOp = rCheckOp_s := by rw [hΦ]; rfl
  have s8 : Φ k_sCheck = sCheck_s := by rw [hΦ]; rfl
  have s9 : Φ k_rCheck = rCheck_s := by rw [hΦ]; rfl
  have s10 : Φ k_sameB = sameB_s := by rw [hΦ]; rfl
  have s11 : Φ k_sName = sName_s := by rw [hΦ]; rfl
  have s12 : Φ k_rName = rName_s := by rw [hΦ]; rfl
  have s13 : Φ k_Num = Num_s := by rw [hΦ]; rfl
  clear hΦ
  simp only [tr_lchecks35, wp, den_int, den_bool, den_nili, den_ar, den_cmp, den_not, den_len, den_elem, den_isnil, den_errI, den_ifc, den_rep, den_push, den_app, den_emp, den_upd, row0_econs, row0_enil, den_and, den_beq, den_nil, toInt_int, toBool_bool, xs_rows, xs_list, dflt_int, dflt_bool, of_eq, of_ne, of_lt, of_le, of_gt, of_ge, of_add, of_sub, of_rem, List.map_cons, List.map_nil, Dat.bool.injEq, decide_eq_true_eq, decide_eq_false_iff_not, Bool.not_eq_true', Bool.not_eq_false', beq_iff_eq, bne_iff_ne, beq_eq_false_iff_ne, bne_eq_false_iff_eq, ne_eq, List.append_assoc, List.cons_append, List.nil_append, allS, s1, s2, s3, s4, s5, s6, s7, s8, s9, s10, s11, s12, s13, alive35_s, Long35_s, Doc35_s, sBytes_s, rBytes35_s, sCheckOp_s, rCheckOp_s, sCheck_s, rCheck_s, sameB_s, sName_s, rName_s, Num_s, @den_var0 E0.Δ ds, den_varA, den_varB, hl, Nat.reduceLT, Nat.reduceLeDiff, Nat.reduceSub, List.getD_cons_zero, List.getD_cons_succ, argL_fold ds, argI_fold ds, List.append_assoc, List.cons_append, List.nil_append, toInt_int, toBool_bool, xs_rows, xs_list, Int.toNat_natCast, Dat.bool.injEq, opD_row]
  have hI : ∀ i, i < 5 → InD (ds.getD i (.bool false)) := fun i hi => hin _ (getD_memL (by omega))
  have hH : ∀ {i : Nat} {s : Srt}, (Sig.sorts sg_lchecks35.params)[i]? = some s → Has E0.Δ s (ds.getD i (.bool false)) := fun {i s} hi => by
    obtain ⟨b, hb, hh⟩ := hs.get hi
    rw [List.getD_eq_getElem?_getD, hb]; exact hh
  have h012 : ∀ i, i < 3 → Has E0.Δ (.list 3) (ds.getD i (.bool false)) := fun i hi => by
    match i, hi with
    | 0, _ => exact hH (by rfl)
    | 1, _ => exact hH (by rfl)
    | 2, _ => exact hH (by rfl)
  have h3 : Has E0.Δ (.list 42) (ds.getD 3 (.bool false)) := hH (by rfl)
  have in0 : in64s (nums (argL ds 0)) := fun x hx => wf_okN (nums_in (h012 0 (by omega)) (hI 0 (by omega)) x hx)
  have in1 : in64s (nums (argL ds 1)) := fun x hx => wf_okN (nums_in (h012 1 (by omega)) (hI 1 (by omega)) x hx)
  refine ⟨fun hx => Bool.noConfusion hx, fun _ b hb => ⟨fun _ => h, fun hbf => ?_⟩⟩
  have hsh : ShortS ds := hb hbf
  have hsm : SmS ds := smS_of (by omega) h012 h3 (fun i hi => hI i (by omega)) hsh
  have hsm' : SmS [ds.getD 0 (Dat.bool false), ds.getD 1 (Dat.bool false), ds.getD 2 (Dat.bool false), ds.getD 3 (Dat.bool false)] := ⟨hsm.1, hsm.2.1, fun i hi => by
    match i, hi with
    | 0, _ => exact hsm.2.2.1 0 (by omega)
    | 1, _ => exact hsm.2.2.1 1 (by omega)
    | 2, _ => exact hsm.2.2.1 2 (by omega), hsm.2.2.2⟩
  have key : ∀ (E : List Dat) (x : Dat), E.getD 17 (.bool false) = x → E.getD 18 (.bool false) = x → den E0.Δ (ds ++ E) ((Tm.var 22).seq (Tm.var 23)) = .bool true := by
    intro E x h1 h2
    clear hs hin hI hH h012 h3 in0 in1 hb hsh hsm hsm'
    match ds, hl with
    | [_, _, _, _, _], _ =>
      show Dat.bool ((strD (E.getD 17 (.bool false))).toList == (strD (E.getD 18 (.bool false))).toList) = _
      rw [h1, h2, beq_self_eq_true]
  refine ⟨Nat.le_trans hsh.2.1 (by omega), fun d hd => ⟨hsm', in0, in1, fun d1 n1 a1 a2 a3 => ⟨norm_smS hd hsm, fun d2 n2 b1 b2 b3 => ?_⟩⟩⟩
  have e0 : scrD (docD ds d) = scrD ds := norm_scr hd
  have e1 : encS (docD ds d) = encS ds := norm_enc hd
  obtain ⟨hn, l, hl1, hl2, hl3⟩ := bytes_eq hsm e0 e1 ⟨a1, a2, a3⟩ ⟨b1, b2, b3⟩
  have hops : (argL ds 3).length ≤ 1010 := hsh.2.1
  refine ⟨fun xs m => ∃ (b : Bool) (i : Nat), i ≤ (argL ds 3).length ∧ m = (argL ds 3).length - i ∧ xs = [.bool b, .int .i64 i], ⟨_, _, 0, by omega, rfl, rfl⟩, ?_⟩
  rintro b n m ⟨_, i, hi, hm, e⟩
  cases e
  refine ⟨fun hlt => ⟨by omega, _, rfl, fun hx => absurd rfl hx, fun _ => ⟨_, (by omega : (argL ds 3).length - (i + 1) < _), b, i + 1, by omega, rfl, by rw [wrap64 (by omega) (by omega)]; rfl⟩⟩, fun hge => ?_⟩
  refine ⟨in0, in1, _, rfl, fun _ => ⟨l, l, hl1, hl2, hl3, hl3, fun _ => ⟨_, rfl, fun _ => ?_, fun hx => absurd hn hx⟩, fun hx => absurd rfl hx⟩, fun hx => absurd e0.symm hx⟩
  rw [key _ _ rfl rfl]
  exact h)
noncomputable def con_lchecks35 : Con E0 := ⟨k_lchecks35, sg_lchecks35, lchecks35_s, rfl, bo_lchecks35, lchecks35_h⟩
end Go.Proofs.YtcoacgfciilplaaDoor
end
