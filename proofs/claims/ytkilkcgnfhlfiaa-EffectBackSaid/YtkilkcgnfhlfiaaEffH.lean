/-
  With which effect bytes begin: program and document.
-/
import Derived.Test.YtkilkcgnfhlfiaaEffG
namespace Go.Proofs.Ytkilkcgnfhlfiaa
open Go.RowKit
set_option linter.unusedVariables false
set_option linter.unusedSimpArgs false

def nilE : Eff := .mk 0 0 0 0 []
def nx (b : List Nat) (k : Int → Nat → Eff × Nat × Int) : Eff × Nat × Int := if (mth.tk 0 0 b).2.2 = 0 then k (mth.tk 0 0 b).1 (mth.tk 0 0 b).2.1 else (nilE, 0, (mth.tk 0 0 b).2.2)
def tkEs (g : List Nat → Eff × Nat × Int) : Nat → List Nat → List Eff × Nat × Int
  | 0, _ => ([], 0, 0)
  | m + 1, b => if (g b).2.2 = 0 then (if (tkEs g m (b.drop (g b).2.1)).2.2 = 0 then ((g b).1 :: (tkEs g m (b.drop (g b).2.1)).1, (g b).2.1 + (tkEs g m (b.drop (g b).2.1)).2.1, 0) else ([], 0, (tkEs g m (b.drop (g b).2.1)).2.2)) else ([], 0, (g b).2.2)
/-- an effect, how many bytes it has, an error's number; f: how much deeper it may go -/
def tkE : Nat → List Nat → Eff × Nat × Int
  | 0, _ => (nilE, 0, 3)
  | f + 1, b => nx b fun o k1 => nx (b.drop k1) fun n k2 => nx (b.drop (k1 + k2)) fun m k3 => nx (b.drop (k1 + k2 + k3)) fun w k4 => nx (b.drop (k1 + k2 + k3 + k4)) fun c k5 =>
      if c < 0 then (nilE, 0, 1) else if 8 < c then (nilE, 0, 19) else
        (if (tkEs (tkE f) c.toNat (b.drop (k1 + k2 + k3 + k4 + k5))).2.2 = 0 then (.mk o n m w (tkEs (tkE f) c.toNat (b.drop (k1 + k2 + k3 + k4 + k5))).1, k1 + k2 + k3 + k4 + k5 + (tkEs (tkE f) c.toNat (b.drop (k1 + k2 + k3 + k4 + k5))).2.1, 0)
          else (nilE, 0, (tkEs (tkE f) c.toNat (b.drop (k1 + k2 + k3 + k4 + k5))).2.2))
/-- numbers of effects that are taken one behind the other, in the program's way: what is there already, and what is left -/
def goE (g : List Nat → Eff × Nat × Int) : Nat → List Eff → List Nat → Option (List Eff × List Nat) × Int
  | 0, acc, b => (some (acc, b), 0)
  | m + 1, acc, b => if (g b).2.2 = 0 then goE g m (acc ++ [(g b).1]) (b.drop (g b).2.1) else (none, (g b).2.2)
theorem goE_tk (g : List Nat → Eff × Nat × Int) : ∀ (m : Nat) (acc : List Eff) (b : List Nat), goE g m acc b = if (tkEs g m b).2.2 = 0 then (some (acc ++ (tkEs g m b).1, b.drop (tkEs g m b).2.1), 0) else (none, (tkEs g m b).2.2)
  | 0, acc, b => by simp [goE, tkEs]
  | m + 1, acc, b => by
    by_cases h : (g b).2.2 = 0
    · simp only [goE, tkEs, if_pos h]
      rw [goE_tk g m]
      by_cases h2 : (tkEs g m (b.drop (g b).2.1)).2.2 = 0
      · simp [h2, List.drop_drop, Nat.add_comm]
      · simp [h2]
    · simp only [goE, tkEs, if_neg h]
theorem effOf_nil {v : Value} {sz : Nat} : effOf [.int .i64 0, .int .i64 0, .int .i64 0, .int .i64 0, .list v sz []] = nilE := by rw [effOf_eq]; rfl
theorem drop_bytes {l : List Nat} (h : ∀ c ∈ l, c < 256) (k : Nat) : ∀ c ∈ l.drop k, c < 256 := fun c hc => h c (List.mem_of_mem_drop hc)
def mD (ds : List Dat) : Nat := (9 - argI ds 1).toNat
def k_etake : Nat := 35
def sg_etake : Sig := ⟨[(false, [.list 5]), (false, [.int .i64])], [(true, List.replicate 4 (.int .i64) ++ [.list 24]), (false, [.list 5]), (false, [.err])], false, true, false⟩
def tr_etake : Tree := (.ite (.cmp .gt (.var 1) (.int .i64 8))
 (.share 5 .emp
 (.ret [(.int .i64 0), (.int .i64 0), (.int .i64 0), (.int .i64 0), (.nil 24), (.var 2), (.ifc (.int .i64 3))]))
 (.call k_wTake [(.var 0)] [(.int .i64), (.list 5), .err]
 (.ite (.not (.isnil (.var 4)))
  (.share 5 .emp
  (.ret [(.int .i64 0), (.int .i64 0), (.int .i64 0), (.int .i64 0), (.nil 24), (.var 5), (.var 4)]))
  (.call k_wTake [(.var 3)] [(.int .i64), (.list 5), .err]
  (.ite (.not (.isnil (.var 7)))
   (.share 5 .emp
   (.ret [(.int .i64 0), (.int .i64 0), (.int .i64 0), (.int .i64 0), (.nil 24), (.var 8), (.var 7)]))
   (.call k_wTake [(.var 6)] [(.int .i64), (.list 5), .err]
   (.ite (.not (.isnil (.var 10)))
    (.share 5 .emp
    (.ret [(.int .i64 0), (.int .i64 0), (.int .i64 0), (.int .i64 0), (.nil 24), (.var 11), (.var 10)]))
    (.call k_wTake [(.var 9)] [(.int .i64), (.list 5), .err]
    (.ite (.not (.isnil (.var 13)))
     (.share 5 .emp
     (.ret [(.int .i64 0), (.int .i64 0), (.int .i64 0), (.int .i64 0), (.nil 24), (.var 14), (.var 13)]))
     (.call k_wTake [(.var 12)] [(.int .i64), (.list 5), .err]
     (.ite (.not (.isnil (.var 16)))
      (.share 5 .emp
      (.ret [(.int .i64 0), (.int .i64 0), (.int .i64 0), (.int .i64 0), (.nil 24), (.var 17), (.var 16)]))
      (.ite (.cmp .lt (.var 14) (.int .i64 0))
       (.share 5 .emp
       (.ret [(.int .i64 0), (.int .i64 0), (.int .i64 0), (.int .i64 0), (.nil 24), (.var 17), (.ifc (.int .i64 1))]))
       (.ite (.cmp .gt (.var 14) (.int .i64 8))
        (.share 5 .emp
        (.ret [(.int .i64 0), (.int .i64 0), (.int .i64 0), (.int .i64 0), (.nil 24), (.var 17), (.ifc (.int .i64 19))]))
        (.loop [(.var 15), .emp, (.var 16), (.int .i64 0), (.var 2), (.var 5), (.var 8), (.var 11), .emp] [(.list 5), (.rows 5), .err, (.int .i64), (.int .i64), (.int .i64), (.int .i64), (.int .i64), (.rows 24)]
         (.ite (.cmp .lt (.var 20) (.var 14))
          (.call k_etake [(.var 17), (.ar .add .i64 (.var 1) (.int .i64 1))] [(.int .i64), (.int .i64), (.int .i64), (.int .i64), (.list 24), (.list 5), .err]
          (.ite (.not (.isnil (.var 32)))
           (.share 5 .emp
           (.ret [(.int .i64 0), (.int .i64 0), (.int .i64 0), (.int .i64 0), (.nil 24), (.var 33), (.var 32)]))
           (.ob (.cmp .le (.len (.push (.var 25) (.econs (.var 26) (.econs (.var 27) (.econs (.var 28) (.econs (.var 29) (.econs (.var 30) .enil))))))) (.int .i64 2513169434916))
           (.again 0 [(.var 31), (.var 18), (.var 19), (.ar .add .i64 (.var 20) (.int .i64 1)), (.var 21), (.var 22), (.var 23), (.var 24), (.push (.var 25) (.econs (.var 26) (.econs (.var 27) (.econs (.var 28) (.econs (.var 29) (.econs (.var 30) .enil))))))]))))
          (.share 24 (.var 25)
          (.ret [(.var 21), (.var 22), (.var 23), (.var 24), (.var 26), (.var 17), .nili])))))))))))))))))
theorem wk_etake : walk E0.cx (sgsN [(47, sg_wTake), (35, sg_etake)]) 0 35 sg_etake = tr_etake := by kernel_rfl
theorem bo_etake : ∃ x, bodyOf E0.P 35 = some x := bo_of (by kernel_rfl)
def etake_s : Spec := fun ds Q => ∃ (l : List Nat) (f : Nat), argL ds 0 = u8R l ∧ (∀ c ∈ l, c < 256) ∧ l.length ≤ 90000000 ∧ f ≤ 8 ∧ argI ds 1 = 9 - (f : Int) ∧ ∀ (r : List Dat) (rest : Dat), r.length = 5 → effOf r = (tkE f l).1 → rest.xs = (if (tkE f l).2.2 = 0 then u8R (l.drop (tkE f l).2.1) else []) → Q (r ++ [rest, errV (tkE f l).2.2])
theorem etake_h : Holds E0 k_etake sg_etake etake_s := holds_rec mD fun n ih => con_fn wf0 mix0 g0 [con_wTake, ⟨_, _, _, rfl, bo_etake, ih⟩] rfl wk_etake rfl (by
  intro Φ hΦ ds Q hs ⟨hm, l, f, hx, hb, hln, hf8, hd, h⟩
  have hl : ds.length = 2 := hs.length.symm
  have sp : Φ k_etake = (fun ds Q => mD ds < n ∧ etake_s ds Q) := by rw [hΦ]; rfl
  have sp1 : Φ k_wTake = wTake_s := by rw [hΦ]; rfl
  clear hΦ
  rw [mD, hd] at hm
  have wt : ∀ (b : List Nat) (d : Dat) (W : List Dat → Prop), d.xs = u8R b → (∀ c ∈ b, c < 256) → b.length ≤ 90000000 → (∀ d', d'.xs = (if (mth.tk 0 0 b).2.2 = 0 then u8R (b.drop (mth.tk 0 0 b).2.1) else []) → W [.int .i64 (mth.tk 0 0 b).1, d', errV (mth.tk 0 0 b).2.2]) → wTake_s [d] W := fun b d W h1 h2 h3 h4 => ⟨b, h1, h2, h3, h4⟩
  have bad : ∀ (e : Int) (d4 d5 : Dat), tkE f l = (nilE, 0, e) → e ≠ 0 → d4.xs = [] → d5.xs = [] → (∃ v sz, d4 = .list v sz []) → Q [.int .i64 0, .int .i64 0, .int .i64 0, .int .i64 0, d4, d5, errV e] := fun e d4 d5 h1 h2 h3 h4 ⟨v, sz, h5⟩ => by
    subst h5
    rw [h1] at h
    refine h [_, _, _, _, _] d5 rfl effOf_nil ?_
    rw [if_neg h2]; exact h4
  simp only [tr_etake, wp, den_int, den_bool, den_nili, den_ar, den_cmp, den_not, den_len, den_elem, den_isnil, den_errI, den_ifc, den_rep, den_push, den_app, den_emp, den_upd, row0_econs, row0_enil, den_and, den_beq, den_nil, toInt_int, toBool_bool, xs_rows, xs_list, dflt_int, dflt_bool, of_eq, of_ne, of_lt, of_le, of_gt, of_ge, of_add, of_sub, of_rem, List.map_cons, List.map_nil, Dat.bool.injEq, decide_eq_true_eq, decide_eq_false_iff_not, Bool.not_eq_true', Bool.not_eq_false', beq_iff_eq, bne_iff_ne, beq_eq_false_iff_ne, bne_eq_false_iff_eq, ne_eq, List.append_assoc, List.cons_append, List.nil_append, allS, sp, sp1, @den_var0 E0.Δ ds, den_varA, den_varB, hl, Nat.reduceLT, Nat.reduceLeDiff, Nat.reduceSub, List.getD_cons_zero, List.getD_cons_succ, argL_fold ds, argI_fold ds, List.append_assoc, List.cons_append, List.nil_append, toInt_int, toBool_bool, xs_rows, xs_list, Int.toNat_natCast, Dat.bool.injEq]
  refine ⟨fun h8 => ?_, fun h8 => ?_⟩
  · intro A c
    have hf0 : f = 0 := by omega
    subst hf0
    exact bad 3 _ _ rfl (by decide) rfl rfl ⟨_, _, rfl⟩
  obtain ⟨f', rfl⟩ : ∃ f', f = f' + 1 := ⟨f - 1, by omega⟩
  have tkn : tkE (f' + 1) l = nx l fun o k1 => nx (l.drop k1) fun n k2 => nx (l.drop (k1 + k2)) fun m k3 => nx (l.drop (k1 + k2 + k3)) fun w k4 => nx (l.drop (k1 + k2 + k3 + k4)) fun c k5 =>
      if c < 0 then (nilE, 0, 1) else if 8 < c then (nilE, 0, 19) else
        (if (tkEs (tkE f') c.toNat (l.drop (k1 + k2 + k3 + k4 + k5))).2.2 = 0 then (.mk o n m w (tkEs (tkE f') c.toNat (l.drop (k1 + k2 + k3 + k4 + k5))).1, k1 + k2 + k3 + k4 + k5 + (tkEs (tkE f') c.toNat (l.drop (k1 + k2 + k3 + k4 + k5))).2.1, 0)
          else (nilE, 0, (tkEs (tkE f') c.toNat (l.drop (k1 + k2 + k3 + k4 + k5))).2.2)) := rfl
  have dlen : ∀ k, (l.drop k).length ≤ 90000000 := fun k => by rw [List.length_drop]; omega
  refine wt (l) _ _ (by rw [argL_fold, hx]) hb hln (fun d1 hd1 => ?_)
  simp only [List.cons_append, List.nil_append, List.getD_cons_zero, List.getD_cons_succ, errV_nil, decide_eq_false_iff_not, decide_eq_true_eq, toInt_int]
  obtain ⟨v1, k1, e1, ht1⟩ : ∃ v k e, mth.tk 0 0 (l) = (v, k, e) := ⟨_, _, _, rfl⟩
  simp only [ht1] at hd1 ⊢
  refine ⟨fun he A c => ?_, fun he => ?_⟩
  · exact bad _ _ _ (by rw [tkn]; simp only [nx, ht1, if_true, if_neg he]) he rfl rfl ⟨_, _, rfl⟩
  subst he
  rw [if_pos rfl] at hd1
  refine wt (l.drop k1) _ _ (hd1) (drop_bytes hb _) (dlen _) (fun d2 hd2 => ?_)
  simp only [List.cons_append, List.nil_append, List.getD_cons_zero, List.getD_cons_succ, errV_nil, decide_eq_false_iff_not, decide_eq_true_eq, toInt_int]
  obtain ⟨v2, k2, e2, ht2⟩ : ∃ v k e, mth.tk 0 0 (l.drop k1) = (v, k, e) := ⟨_, _, _, rfl⟩
  simp only [ht2] at hd2 ⊢
  refine ⟨fun he A c => ?_, fun he => ?_⟩
  · exact bad _ _ _ (by rw [tkn]; simp only [nx, ht1, ht2, if_true, if_neg he]) he rfl rfl ⟨_, _, rfl⟩
  subst he
  rw [if_pos rfl] at hd2
  rw [List.drop_drop] at hd2
  refine wt (l.drop (k1 + k2)) _ _ (hd2) (drop_bytes hb _) (dlen _) (fun d3 hd3 => ?_)
  simp only [List.cons_append, List.nil_append, List.getD_cons_zero, List.getD_cons_succ, errV_nil, decide_eq_false_iff_not, decide_eq_true_eq, toInt_int]
  obtain ⟨v3, k3, e3, ht3⟩ : ∃ v k e, mth.tk 0 0 (l.drop (k1 + k2)) = (v, k, e) := ⟨_, _, _, rfl⟩
  simp only [ht3] at hd3 ⊢
  refine ⟨fun he A c => ?_, fun he => ?_⟩
  · exact bad _ _ _ (by rw [tkn]; simp only [nx, ht1, ht2, ht3, if_true, if_neg he]) he rfl rfl ⟨_, _, rfl⟩
  subst he
  rw [if_pos rfl] at hd3
  rw [List.drop_drop] at hd3
  refine wt (l.drop (k1 + k2 + k3)) _ _ (hd3) (drop_bytes hb _) (dlen _) (fun d4 hd4 => ?_)
  simp only [List.cons_append, List.nil_append, List.getD_cons_zero, List.getD_cons_succ, errV_nil, decide_eq_false_iff_not, decide_eq_true_eq, toInt_int]
  obtain ⟨v4, k4, e4, ht4⟩ : ∃ v k e, mth.tk 0 0 (l.drop (k1 + k2 + k3)) = (v, k, e) := ⟨_, _, _, rfl⟩
  simp only [ht4] at hd4 ⊢
  refine ⟨fun he A c => ?_, fun he => ?_⟩
  · exact bad _ _ _ (by rw [tkn]; simp only [nx, ht1, ht2, ht3, ht4, if_true, if_neg he]) he rfl rfl ⟨_, _, rfl⟩
  subst he
  rw [if_pos rfl] at hd4
  rw [List.drop_drop] at hd4
  refine wt (l.drop (k1 + k2 + k3 + k4)) _ _ (hd4) (drop_bytes hb _) (dlen _) (fun d5 hd5 => ?_)
  simp only [List.cons_append, List.nil_append, List.getD_cons_zero, List.getD_cons_succ, errV_nil, decide_eq_false_iff_not, decide_eq_true_eq, toInt_int]
  obtain ⟨v5, k5, e5, ht5⟩ : ∃ v k e, mth.tk 0 0 (l.drop (k1 + k2 + k3 + k4)) = (v, k, e) := ⟨_, _, _, rfl⟩
  simp only [ht5] at hd5 ⊢
  refine ⟨fun he A c => ?_, fun he => ?_⟩
  · exact bad _ _ _ (by rw [tkn]; simp only [nx, ht1, ht2, ht3, ht4, ht5, if_true, if_neg he]) he rfl rfl ⟨_, _, rfl⟩
  subst he
  rw [if_pos rfl] at hd5
  rw [List.drop_drop] at hd5
  have hts : ∀ {a b c d e : Prop}, True := trivial
  refine ⟨fun hneg A c => ?_, fun hneg => ⟨fun hbig A c => ?_, fun hbig => ?_⟩⟩
  · exact bad 1 _ _ (by rw [tkn]; simp only [nx, ht1, ht2, ht3, ht4, ht5, if_true, if_pos hneg]) (by decide) rfl rfl ⟨_, _, rfl⟩
  · exact bad 19 _ _ (by rw [tkn]; simp only [nx, ht1, ht2, ht3, ht4, ht5, if_true, if_neg hneg, if_pos hbig]) (by decide) rfl rfl ⟨_, _, rfl⟩
  obtain ⟨M, hM⟩ : ∃ M : Nat, M = v5.toNat := ⟨_, rfl⟩
  have hMv : v5 = (M : Int) := by omega
  subst hMv
  have hM8 : M ≤ 8 := by omega
  have hgt := goE_tk (tkE f') M [] (l.drop (k1 + k2 + k3 + k4 + k5))
  have fin : ∀ E : Eff × Nat × Int, (if (tkEs (tkE f') M (l.drop (k1 + k2 + k3 + k4 + k5))).2.2 = 0 then (Eff.mk v1 v2 v3 v4 (tkEs (tkE f') M (l.drop (k1 + k2 + k3 + k4 + k5))).1, k1 + k2 + k3 + k4 + k5 + (tkEs (tkE f') M (l.drop (k1 + k2 + k3 + k4 + k5))).2.1, 0) else (nilE, 0, (tkEs (tkE f') M (l.drop (k1 + k2 + k3 + k4 + k5))).2.2)) = E → tkE (f' + 1) l = E := fun E hE => by
    rw [tkn]
    simp only [nx, ht1, ht2, ht3, ht4, ht5, if_true, if_neg hneg, if_neg hbig, Int.toNat_natCast]
    exact hE
  refine ⟨fun xs m => ∃ (i : Nat) (b : List Nat) (d y1 y2 : Dat) (rows : List (List Dat)), xs = [d, y1, y2, .int .i64 (i : Int), .int .i64 v1, .int .i64 v2, .int .i64 v3, .int .i64 v4, .rows rows] ∧ i ≤ M ∧ d.xs = u8R b ∧ (∀ c ∈ b, c < 256) ∧ b.length ≤ 90000000 ∧ rows.length = i ∧ goE (tkE f') (M - i) (rows.map effOf) b = goE (tkE f') M [] (l.drop (k1 + k2 + k3 + k4 + k5)) ∧ m = M - i, ⟨_, 0, _, _, _, _, [], rfl, by omega, hd5, drop_bytes hb _, dlen _, rfl, by simp, rfl⟩, ?_⟩
  rintro d hd y1 hy1 y2 hy2 i' z1 z2 z3 z4 dr hdr m ⟨i, b, _, _, _, rows, e, hiM, hxb, hbb, hbl, hrl, hgo, hmm⟩
  cases e
  refine ⟨fun hlt => ?_, fun hge A c => ?_⟩
  · have hi2 : i < M := by omega
    obtain ⟨j, hj⟩ : ∃ j, M - i = j + 1 := ⟨M - i - 1, by omega⟩
    rw [hj, goE] at hgo
    refine ⟨?_, b, f', hxb, hbb, hbl, by omega, ?_, fun r rest hr5 hre hrest => ?_⟩
    · simp only [mD, argI_c0, argI_c1, toInt_int]
      rw [wrap64 (by omega) (by omega)]; omega
    · simp only [argI_c0, argI_c1, toInt_int]
      rw [wrap64 (by omega) (by omega)]; omega
    · match r, hr5 with
      | [r0, r1, r2, r3, r4], _ =>
      simp only [List.cons_append, List.nil_append, List.getD_cons_zero, List.getD_cons_succ, errV_nil, decide_eq_false_iff_not, decide_eq_true_eq]
      refine ⟨fun he A c => ?_, fun he => ⟨?_, ?_⟩⟩
      · rw [if_neg he] at hrest hgo
        rw [hgt] at hgo
        have he2 : (tkEs (tkE f') M (l.drop (k1 + k2 + k3 + k4 + k5))).2.2 = (tkE f' b).2.2 := by
          split at hgo
          · cases hgo
          · exact (Prod.mk.inj hgo).2.symm
        refine bad _ _ _ (fin _ ?_) he rfl rfl ⟨_, _, rfl⟩
        rw [he2, if_neg he]
      · simp only [xs_rows, List.length_append, List.length_cons, List.length_nil, hrl]; omega
      · rw [if_pos he] at hrest hgo
        refine ⟨j, by omega, i + 1, _, rest, y1, y2, rows ++ [[r0, r1, r2, r3, r4]], ?_, by omega, hrest, drop_bytes hbb _, by rw [List.length_drop]; omega, by simp [hrl], ?_, by omega⟩
        · rw [wrap64 (by omega) (by omega)]; rfl
        · rw [show M - (i + 1) = j by omega, List.map_append, List.map_cons, List.map_nil, hre]; exact hgo
  · have hiM2 : i = M := by omega
    rw [hiM2, Nat.sub_self, goE, hgt] at hgo
    have hall : (tkEs (tkE f') M (l.drop (k1 + k2 + k3 + k4 + k5))).2.2 = 0 := by
      apply Classical.byContradiction; intro hne
      rw [if_neg hne] at hgo
      cases hgo
    rw [if_pos hall] at hgo
    have hg1 := (Prod.mk.inj (Option.some.inj (Prod.mk.inj hgo).1))
    have hT := fin _ (if_pos hall)
    rw [hT] at h
    refine h [_, _, _, _, _] d rfl ?_ ?_
    · rw [effOf_eq]
      show Eff.mk _ _ _ _ (rows.map effOf) = _
      rw [hg1.1, List.nil_append]; rfl
    · rw [if_pos rfl, hxb, hg1.2, List.drop_drop])
noncomputable def con_etake : Con E0 := ⟨k_etake, sg_etake, etake_s, rfl, bo_etake, etake_h⟩
def k_eTake : Nat := 23
def sg_eTake : Sig := ⟨[(false, [.list 5])], [(true, List.replicate 4 (.int .i64) ++ [.list 24]), (false, [.list 5]), (false, [.err])], false, false, false⟩
def tr_eTake : Tree := (.call k_etake [(.var 0), (.int .i64 1)] [(.int .i64), (.int .i64), (.int .i64), (.int .i64), (.list 24), (.list 5), .err]
(.ret [(.var 1), (.var 2), (.var 3), (.var 4), (.var 5), (.var 6), (.var 7)]))
theorem wk_eTake : walk E0.cx (sgsN [(35, sg_etake)]) 0 23 sg_eTake = tr_eTake := by kernel_rfl
theorem bo_eTake : ∃ x, bodyOf E0.P 23 = some x := bo_of (by kernel_rfl)
theorem sp_eTake_etake : specC [con_etake] k_etake = etake_s := rfl
def eTake_s : Spec := fun ds Q => ∃ l : List Nat, argL ds 0 = u8R l ∧ (∀ c ∈ l, c < 256) ∧ l.length ≤ 90000000 ∧ ∀ (r : List Dat) (rest : Dat), r.length = 5 → effOf r = (tkE 8 l).1 → rest.xs = (if (tkE 8 l).2.2 = 0 then u8R (l.drop (tkE 8 l).2.1) else []) → Q (r ++ [rest, errV (tkE 8 l).2.2])
theorem eTake_h : Holds E0 k_eTake sg_eTake eTake_s := con_fn wf0 mix0 g0 [con_etake] rfl wk_eTake rfl (by
  intro Φ hΦ ds Q hs ⟨l, hx, hb, hln, h⟩
  have hl : ds.length = 1 := hs.length.symm
  have sp : Φ k_etake = etake_s := by rw [hΦ]; rfl
  clear hΦ
  simp only [tr_eTake, wp, den_int, den_bool, den_nili, den_ar, den_cmp, den_not, den_len, den_elem, den_isnil, den_errI, den_ifc, den_rep, den_push, den_app, den_emp, den_upd, row0_econs, row0_enil, den_and, den_beq, den_nil, toInt_int, toBool_bool, xs_rows, xs_list, dflt_int, dflt_bool, of_eq, of_ne, of_lt, of_le, of_gt, of_ge, of_add, of_sub, of_rem, List.map_cons, List.map_nil, Dat.bool.injEq, decide_eq_true_eq, decide_eq_false_iff_not, Bool.not_eq_true', Bool.not_eq_false', beq_iff_eq, bne_iff_ne, beq_eq_false_iff_ne, bne_eq_false_iff_eq, ne_eq, List.append_assoc, List.cons_append, List.nil_append, allS, sp, @den_var0 E0.Δ ds, den_varA, den_varB, hl, Nat.reduceLT, Nat.reduceLeDiff, Nat.reduceSub, List.getD_cons_zero, List.getD_cons_succ, argL_fold ds, argI_fold ds, List.append_assoc, List.cons_append, List.nil_append, toInt_int, toBool_bool, xs_rows, xs_list, Int.toNat_natCast, Dat.bool.injEq]
  refine ⟨l, 8, by rw [argL_c0, argL_fold]; exact hx, hb, hln, by omega, rfl, fun r rest h1 h2 h3 => ?_⟩
  match r, h1 with
  | [r0, r1, r2, r3, r4], _ => exact h [r0, r1, r2, r3, r4] rest rfl h2 h3)
noncomputable def con_eTake : Con E0 := ⟨k_eTake, sg_eTake, eTake_s, rfl, bo_eTake, eTake_h⟩
def k_rTake6 : Nat := 24
def sg_rTake6 : Sig := ⟨[(false, [.list 5]), (false, [.int .i64])], [(true, List.replicate 4 (.int .i64) ++ [.list 24]), (false, [.int .i64]), (false, [.int .i64])], false, true, false⟩
def tr_rTake6 : Tree := (.ite (.cmp .gt (.var 1) (.int .i64 8))
 (.ret [(.int .i64 0), (.int .i64 0), (.int .i64 0), (.int .i64 0), (.nil 24), (.int .i64 0), (.int .i64 3)])
 (.ob (.cmp .le (.int .i64 0) (.len (.var 0)))
 (.call k_rTake2 [(.cut (.var 0) (.int .i64 0) (.len (.var 0)))] [(.int .i64), (.int .i64), (.int .i64)]
 (.ite (.cmp .ne (.var 4) (.int .i64 0))
  (.ret [(.int .i64 0), (.int .i64 0), (.int .i64 0), (.int .i64 0), (.nil 24), (.int .i64 0), (.var 4)])
  (.ob (.cmp .ge (.ar .add .i64 (.int .i64 0) (.var 3)) (.int .i64 0))
  (.ob (.cmp .le (.ar .add .i64 (.int .i64 0) (.var 3)) (.len (.var 0)))
  (.call k_rTake2 [(.cut (.var 0) (.ar .add .i64 (.int .i64 0) (.var 3)) (.len (.var 0)))] [(.int .i64), (.int .i64), (.int .i64)]
  (.ite (.cmp .ne (.var 7) (.int .i64 0))
   (.ret [(.int .i64 0), (.int .i64 0), (.int .i64 0), (.int .i64 0), (.nil 24), (.int .i64 0), (.var 7)])
   (.ob (.cmp .ge (.ar .add .i64 (.ar .add .i64 (.int .i64 0) (.var 3)) (.var 6)) (.int .i64 0))
   (.ob (.cmp .le (.ar .add .i64 (.ar .add .i64 (.int .i64 0) (.var 3)) (.var 6)) (.len (.var 0)))
   (.call k_rTake2 [(.cut (.var 0) (.ar .add .i64 (.ar .add .i64 (.int .i64 0) (.var 3)) (.var 6)) (.len (.var 0)))] [(.int .i64), (.int .i64), (.int .i64)]
   (.ite (.cmp .ne (.var 10) (.int .i64 0))
    (.ret [(.int .i64 0), (.int .i64 0), (.int .i64 0), (.int .i64 0), (.nil 24), (.int .i64 0), (.var 10)])
    (.ob (.cmp .ge (.ar .add .i64 (.ar .add .i64 (.ar .add .i64 (.int .i64 0) (.var 3)) (.var 6)) (.var 9)) (.int .i64 0))
    (.ob (.cmp .le (.ar .add .i64 (.ar .add .i64 (.ar .add .i64 (.int .i64 0) (.var 3)) (.var 6)) (.var 9)) (.len (.var 0)))
    (.call k_rTake2 [(.cut (.var 0) (.ar .add .i64 (.ar .add .i64 (.ar .add .i64 (.int .i64 0) (.var 3)) (.var 6)) (.var 9)) (.len (.var 0)))] [(.int .i64), (.int .i64), (.int .i64)]
    (.ite (.cmp .ne (.var 13) (.int .i64 0))
     (.ret [(.int .i64 0), (.int .i64 0), (.int .i64 0), (.int .i64 0), (.nil 24), (.int .i64 0), (.var 13)])
     (.ob (.cmp .ge (.ar .add .i64 (.ar .add .i64 (.ar .add .i64 (.ar .add .i64 (.int .i64 0) (.var 3)) (.var 6)) (.var 9)) (.var 12)) (.int .i64 0))
     (.ob (.cmp .le (.ar .add .i64 (.ar .add .i64 (.ar .add .i64 (.ar .add .i64 (.int .i64 0) (.var 3)) (.var 6)) (.var 9)) (.var 12)) (.len (.var 0)))
     (.call k_rTake2 [(.cut (.var 0) (.ar .add .i64 (.ar .add .i64 (.ar .add .i64 (.ar .add .i64 (.int .i64 0) (.var 3)) (.var 6)) (.var 9)) (.var 12)) (.len (.var 0)))] [(.int .i64), (.int .i64), (.int .i64)]
     (.ite (.cmp .ne (.var 16) (.int .i64 0))
      (.ret [(.int .i64 0), (.int .i64 0), (.int .i64 0), (.int .i64 0), (.nil 24), (.int .i64 0), (.var 16)])
      (.ite (.cmp .lt (.var 14) (.int .i64 0))
       (.ret [(.int .i64 0), (.int .i64 0), (.int .i64 0), (.int .i64 0), (.nil 24), (.int .i64 0), (.int .i64 1)])
       (.ite (.cmp .gt (.var 14) (.int .i64 8))
        (.ret [(.int .i64 0), (.int .i64 0), (.int .i64 0), (.int .i64 0), (.nil 24), (.int .i64 0), (.int .i64 19)])
        (.loop [(.int .i64 0), (.int .i64 0), (.ar .add .i64 (.ar .add .i64 (.ar .add .i64 (.ar .add .i64 (.ar .add .i64 (.int .i64 0) (.var 3)) (.var 6)) (.var 9)) (.var 12)) (.var 15)), (.int .i64 0), (.int .i64 0), (.int .i64 0), (.int .i64 0), (.int .i64 0), .emp, .emp] [(.int .i64), (.int .i64), (.int .i64), (.int .i64), (.int .i64), (.int .i64), (.int .i64), (.int .i64), (.rows 24), (.rows 24)]
         (.ite (.cmp .lt (.var 20) (.var 14))
          (.ob (.cmp .ge (.var 19) (.int .i64 0))
          (.ob (.cmp .le (.var 19) (.len (.var 0)))
          (.call k_rTake6 [(.cut (.var 0) (.var 19) (.len (.var 0))), (.ar .add .i64 (.var 1) (.int .i64 1))] [(.int .i64), (.int .i64), (.int .i64), (.int .i64), (.list 24), (.int .i64), (.int .i64)]
          (.ite (.cmp .ne (.var 33) (.int .i64 0))
           (.ret [(.int .i64 0), (.int .i64 0), (.int .i64 0), (.int .i64 0), (.nil 24), (.int .i64 0), (.var 33)])
           (.ob (.cmp .le (.len (.push (.var 26) (.econs (.var 27) (.econs (.var 28) (.econs (.var 29) (.econs (.var 30) (.econs (.var 31) .enil))))))) (.int .i64 2513169434916))
           (.again 0 [(.var 17), (.var 18), (.ar .add .i64 (.var 19) (.var 32)), (.ar .add .i64 (.var 20) (.int .i64 1)), (.var 21), (.var 22), (.var 23), (.var 24), (.var 25), (.push (.var 26) (.econs (.var 27) (.econs (.var 28) (.econs (.var 29) (.econs (.var 30) (.econs (.var 31) .enil))))))]))))))
          (.share 24 (.var 26)
          (.ret [(.var 2), (.var 5), (.var 8), (.var 11), (.var 27), (.var 19), (.int .i64 0)]))))))))))))))))))))))))))
theorem wk_rTake6 : walk E0.cx (sgsN [(36, sg_rTake2), (24, sg_rTake6)]) 0 24 sg_rTake6 = tr_rTake6 := by kernel_rfl
theorem bo_rTake6 : ∃ x, bodyOf E0.P 24 = some x := bo_of (by kernel_rfl)
def rTake6_s : Spec := fun ds Q => ∃ (l : List Nat) (f : Nat), argL ds 0 = u8R l ∧ (∀ c ∈ l, c < 256) ∧ l.length ≤ 90000000 ∧ f ≤ 8 ∧ argI ds 1 = 9 - (f : Int) ∧ ∀ (r : List Dat), r.length = 5 → effOf r = (tkE f l).1 → Q (r ++ [.int .i64 ((tkE f l).2.1 : Nat), .int .i64 (tkE f l).2.2])
theorem tk_le {l : List Nat} (hb : ∀ c ∈ l, c < 256) {v : Int} {k : Nat} {e : Int} (h : mth.tk 0 0 l = (v, k, e)) : k ≤ l.length := by
  by_cases he : e = 0
  · subst he; exact (mth.tk_canon l v k hb h).2.2.1
  · have := (mth.tk_bad l v k e 0 0 h he).2.1; omega
theorem xs_cutN {d : Dat} {l : List Nat} {k : Nat} {z : Int} (hd : Has E0.Δ (.list 5) d) (hx : d.xs = u8R l) (hk : k ≤ l.length) (hz : z = (k : Int)) : (cutD z.toNat d.xs.length d).xs = u8R (l.drop k) := by
  subst hz
  rw [Int.toNat_natCast, xs_cutD hd (by rw [hx, u8R_len]; exact hk) (Nat.le_refl _), List.take_of_length_le (Nat.le_refl _), hx]
  simp [u8R, List.map_drop]
theorem tkEs_le (g : List Nat → Eff × Nat × Int) (hg : ∀ b, (∀ c ∈ b, c < 256) → (g b).2.1 ≤ b.length) : ∀ (m : Nat) (b : List Nat), (∀ c ∈ b, c < 256) → (tkEs g m b).2.1 ≤ b.length
  | 0, b, _ => by simp [tkEs]
  | m + 1, b, hb => by
    have h1 := hg b hb
    have h2 := tkEs_le g hg m (b.drop (g b).2.1) (drop_bytes hb _)
    rw [List.length_drop] at h2
    simp only [tkEs]
    split
    · split
      · simp only; omega
      · simp
    · simp
theorem tkE_le : ∀ (f : Nat) (b : List Nat), (∀ c ∈ b, c < 256) → (tkE f b).2.1 ≤ b.length
  | 0, b, _ => by simp [tkE]
  | f + 1, b, hb => by
    have key : ∀ (k : Nat) (F : Int → Nat → Eff × Nat × Int), k ≤ b.length → (∀ v k', k + k' ≤ b.length → (F v k').2.1 ≤ b.length) → (nx (b.drop k) F).2.1 ≤ b.length := fun k F hk hF => by
      unfold nx
      split
      · refine hF _ _ ?_
        have := tk_le (drop_bytes hb k) (v := (mth.tk 0 0 (b.drop k)).1) (k := (mth.tk 0 0 (b.drop k)).2.1) (e := (mth.tk 0 0 (b.drop k)).2.2) rfl
        rw [List.length_drop] at this
        omega
      · simp
    rw [tkE]
    refine key 0 _ (Nat.zero_le _) fun o k1 h1 => ?_
    rw [Nat.zero_add] at h1
    refine key k1 _ h1 fun n k2 h2 => key (k1 + k2) _ h2 fun m k3 h3 => key (k1 + k2 + k3) _ h3 fun w k4 h4 => key (k1 + k2 + k3 + k4) _ h4 fun c k5 h5 => ?_
    split
    · simp
    · split
      · simp
      · split
        · have := tkEs_le (tkE f) (fun b hb => tkE_le f b hb) c.toNat (b.drop (k1 + k2 + k3 + k4 + k5)) (drop_bytes hb _)
          rw [List.length_drop] at this
          simp only; omega
        · simp
theorem rTake6_h : Holds E0 k_rTake6 sg_rTake6 rTake6_s := holds_rec mD fun n ih => con_fn wf0 mix0 g0 [con_rTake2, ⟨_, _, _, rfl, bo_rTake6, ih⟩] rfl wk_rTake6 rfl (by
  intro Φ hΦ ds Q hs ⟨hm, l, f, hx, hb, hln, hf8, hd, h⟩
  have hl : ds.length = 2 := hs.length.symm
  have sp : Φ k_rTake6 = (fun ds Q => mD ds < n ∧ rTake6_s ds Q) := by rw [hΦ]; rfl
  have sp1 : Φ k_rTake2 = rTake2_s := by rw [hΦ]; rfl
  clear hΦ
  rw [mD, hd] at hm
  have hH : Has E0.Δ (.list 5) (ds.getD 0 (.bool false)) := all2_get hs (i := 0) rfl
  have hx0 : (ds.getD 0 (.bool false)).xs = u8R l := by rw [argL_fold]; exact hx
  have hlen : (argL ds 0).length = l.length := by rw [hx, u8R_len]
  have wt : ∀ (k : Nat) (z : Int) (W : List Dat → Prop), z = (k : Int) → k ≤ l.length → W [.int .i64 (mth.tk 0 0 (l.drop k)).1, .int .i64 ((mth.tk 0 0 (l.drop k)).2.1 : Nat), .int .i64 (mth.tk 0 0 (l.drop k)).2.2] → rTake2_s [cutD z.toNat (argL ds 0).length (ds.getD 0 (.bool false))] W := fun k z W h1 h2 h3 => by
    refine ⟨l.drop k, ?_, drop_bytes hb _, by rw [List.length_drop]; omega, h3⟩
    rw [argL_c0, ← argL_fold]
    exact xs_cutN hH hx0 h2 h1
  have bad : ∀ (e : Int) (d4 : Dat), tkE f l = (nilE, 0, e) → (∃ v sz, d4 = .list v sz []) → Q [.int .i64 0, .int .i64 0, .int .i64 0, .int .i64 0, d4, .int .i64 0, .int .i64 e] := fun e d4 h1 ⟨v, sz, h5⟩ => by
    subst h5
    rw [h1] at h
    exact h [_, _, _, _, _] rfl effOf_nil
  simp only [tr_rTake6, wp, den_int, den_bool, den_nili, den_ar, den_cmp, den_not, den_len, den_elem, den_isnil, den_errI, den_ifc, den_rep, den_push, den_app, den_emp, den_upd, row0_econs, row0_enil, den_and, den_beq, den_nil, toInt_int, toBool_bool, xs_rows, xs_list, dflt_int, dflt_bool, of_eq, of_ne, of_lt, of_le, of_gt, of_ge, of_add, of_sub, of_rem, List.map_cons, List.map_nil, Dat.bool.injEq, decide_eq_true_eq, decide_eq_false_iff_not, Bool.not_eq_true', Bool.not_eq_false', beq_iff_eq, bne_iff_ne, beq_eq_false_iff_ne, bne_eq_false_iff_eq, ne_eq, List.append_assoc, List.cons_append, List.nil_append, allS, sp, sp1, den_cutT, @den_var0 E0.Δ ds, den_varA, den_varB, hl, Nat.reduceLT, Nat.reduceLeDiff, Nat.reduceSub, List.getD_cons_zero, List.getD_cons_succ, argL_fold ds, argI_fold ds, List.append_assoc, List.cons_append, List.nil_append, toInt_int, toBool_bool, xs_rows, xs_list, Int.toNat_natCast, Dat.bool.injEq]
  refine ⟨fun h8 => ?_, fun h8 => ⟨by omega, ?_⟩⟩
  · have hf0 : f = 0 := by omega
    subst hf0
    exact bad 3 _ rfl ⟨_, _, rfl⟩
  obtain ⟨f', rfl⟩ : ∃ f', f = f' + 1 := ⟨f - 1, by omega⟩
  have tkn : tkE (f' + 1) l = nx l fun o k1 => nx (l.drop k1) fun n k2 => nx (l.drop (k1 + k2)) fun m k3 => nx (l.drop (k1 + k2 + k3)) fun w k4 => nx (l.drop (k1 + k2 + k3 + k4)) fun c k5 =>
      if c < 0 then (nilE, 0, 1) else if 8 < c then (nilE, 0, 19) else
        (if (tkEs (tkE f') c.toNat (l.drop (k1 + k2 + k3 + k4 + k5))).2.2 = 0 then (.mk o n m w (tkEs (tkE f') c.toNat (l.drop (k1 + k2 + k3 + k4 + k5))).1, k1 + k2 + k3 + k4 + k5 + (tkEs (tkE f') c.toNat (l.drop (k1 + k2 + k3 + k4 + k5))).2.1, 0)
          else (nilE, 0, (tkEs (tkE f') c.toNat (l.drop (k1 + k2 + k3 + k4 + k5))).2.2)) := rfl
  refine wt 0 _ _ (rfl) (Nat.zero_le _) ?_
  simp only [List.cons_append, List.nil_append, List.getD_cons_zero, List.getD_cons_succ, toInt_int]
  obtain ⟨v1, k1, e1, ht1⟩ : ∃ v k e, mth.tk 0 0 (l) = (v, k, e) := ⟨_, _, _, rfl⟩
  have hk1 := tk_le (hb) ht1
  simp only [List.drop_zero, ht1]
  refine ⟨fun he => ?_, fun he => ?_⟩
  · exact bad _ _ (by rw [tkn]; simp only [nx, ht1, if_true, if_neg he]) ⟨_, _, rfl⟩
  subst he
  have hw1 : IntKind.i64.wrap (0 + (k1 : Int)) = ((k1 : Nat) : Int) := by rw [wrap64 (by omega) (by omega)]; omega
  rw [hw1]
  refine ⟨by omega, by omega, ?_⟩
  refine wt k1 _ _ (by push_cast; omega) (by omega) ?_
  simp only [List.cons_append, List.nil_append, List.getD_cons_zero, List.getD_cons_succ, toInt_int]
  obtain ⟨v2, k2, e2, ht2⟩ : ∃ v k e, mth.tk 0 0 (l.drop k1) = (v, k, e) := ⟨_, _, _, rfl⟩
  have hk2 := tk_le (drop_bytes hb _) ht2
  simp only [ht2]
  refine ⟨fun he => ?_, fun he => ?_⟩
  · exact bad _ _ (by rw [tkn]; simp only [nx, ht1, ht2, if_true, if_neg he]) ⟨_, _, rfl⟩
  subst he
  rw [List.length_drop] at hk2
  have hw2 : IntKind.i64.wrap (((k1 : Nat) : Int) + (k2 : Int)) = ((k1 + k2 : Nat) : Int) := by rw [wrap64 (by omega) (by omega)]; omega
  rw [hw2]
  refine ⟨by omega, by omega, ?_⟩
  refine wt (k1 + k2) _ _ (by push_cast; omega) (by omega) ?_
  simp only [List.cons_append, List.nil_append, List.getD_cons_zero, List.getD_cons_succ, toInt_int]
  obtain ⟨v3, k3, e3, ht3⟩ : ∃ v k e, mth.tk 0 0 (l.drop (k1 + k2)) = (v, k, e) := ⟨_, _, _, rfl⟩
  have hk3 := tk_le (drop_bytes hb _) ht3
  simp only [ht3]
  refine ⟨fun he => ?_, fun he => ?_⟩
  · exact bad _ _ (by rw [tkn]; simp only [nx, ht1, ht2, ht3, if_true, if_neg he]) ⟨_, _, rfl⟩
  subst he
  rw [List.length_drop] at hk3
  have hw3 : IntKind.i64.wrap (((k1 + k2 : Nat) : Int) + (k3 : Int)) = ((k1 + k2 + k3 : Nat) : Int) := by rw [wrap64 (by omega) (by omega)]; omega
  rw [hw3]
  refine ⟨by omega, by omega, ?_⟩
  refine wt (k1 + k2 + k3) _ _ (by push_cast; omega) (by omega) ?_
  simp only [List.cons_append, List.nil_append, List.getD_cons_zero, List.getD_cons_succ, toInt_int]
  obtain ⟨v4, k4, e4, ht4⟩ : ∃ v k e, mth.tk 0 0 (l.drop (k1 + k2 + k3)) = (v, k, e) := ⟨_, _, _, rfl⟩
  have hk4 := tk_le (drop_bytes hb _) ht4
  simp only [ht4]
  refine ⟨fun he => ?_, fun he => ?_⟩
  · exact bad _ _ (by rw [tkn]; simp only [nx, ht1, ht2, ht3, ht4, if_true, if_neg he]) ⟨_, _, rfl⟩
  subst he
  rw [List.length_drop] at hk4
  have hw4 : IntKind.i64.wrap (((k1 + k2 + k3 : Nat) : Int) + (k4 : Int)) = ((k1 + k2 + k3 + k4 : Nat) : Int) := by rw [wrap64 (by omega) (by omega)]; omega
  rw [hw4]
  refine ⟨by omega, by omega, ?_⟩
  refine wt (k1 + k2 + k3 + k4) _ _ (by push_cast; omega) (by omega) ?_
  simp only [List.cons_append, List.nil_append, List.getD_cons_zero, List.getD_cons_succ, toInt_int]
  obtain ⟨v5, k5, e5, ht5⟩ : ∃ v k e, mth.tk 0 0 (l.drop (k1 + k2 + k3 + k4)) = (v, k, e) := ⟨_, _, _, rfl⟩
  have hk5 := tk_le (drop_bytes hb _) ht5
  simp only [ht5]
  refine ⟨fun he => ?_, fun he => ?_⟩
  · exact bad _ _ (by rw [tkn]; simp only [nx, ht1, ht2, ht3, ht4, ht5, if_true, if_neg he]) ⟨_, _, rfl⟩
  subst he
  rw [List.length_drop] at hk5
  have hw5 : IntKind.i64.wrap (((k1 + k2 + k3 + k4 : Nat) : Int) + (k5 : Int)) = ((k1 + k2 + k3 + k4 + k5 : Nat) : Int) := by rw [wrap64 (by omega) (by omega)]; omega
  rw [hw5]
  refine ⟨fun hneg => ?_, fun hneg => ⟨fun hbig => ?_, fun hbig => ?_⟩⟩
  · exact bad 1 _ (by rw [tkn]; simp only [nx, ht1, ht2, ht3, ht4, ht5, if_true, if_pos hneg]) ⟨_, _, rfl⟩
  · exact bad 19 _ (by rw [tkn]; simp only [nx, ht1, ht2, ht3, ht4, ht5, if_true, if_neg hneg, if_pos hbig]) ⟨_, _, rfl⟩
  obtain ⟨M, hM⟩ : ∃ M : Nat, M = v5.toNat := ⟨_, rfl⟩
  have hMv : v5 = (M : Int) := by omega
  subst hMv
  have hM8 : M ≤ 8 := by omega
  have hgt := goE_tk (tkE f') M [] (l.drop (k1 + k2 + k3 + k4 + k5))
  have fin : ∀ E : Eff × Nat × Int, (if (tkEs (tkE f') M (l.drop (k1 + k2 + k3 + k4 + k5))).2.2 = 0 then (Eff.mk v1 v2 v3 v4 (tkEs (tkE f') M (l.drop (k1 + k2 + k3 + k4 + k5))).1, k1 + k2 + k3 + k4 + k5 + (tkEs (tkE f') M (l.drop (k1 + k2 + k3 + k4 + k5))).2.1, 0) else (nilE, 0, (tkEs (tkE f') M (l.drop (k1 + k2 + k3 + k4 + k5))).2.2)) = E → tkE (f' + 1) l = E := fun E hE => by
    rw [tkn]
    simp only [nx, ht1, ht2, ht3, ht4, ht5, if_true, if_neg hneg, if_neg hbig, Int.toNat_natCast]
    exact hE
  have hsum := tkEs_le (tkE f') (fun b hb => tkE_le f' b hb) M (l.drop (k1 + k2 + k3 + k4 + k5)) (drop_bytes hb _)
  rw [List.length_drop] at hsum
  refine ⟨fun xs m => ∃ (i at' : Nat) (y1 y2 y3 y4 y5 y6 : Int) (z : Dat) (rows : List (List Dat)), xs = [.int .i64 y1, .int .i64 y2, .int .i64 (at' : Int), .int .i64 (i : Int), .int .i64 y3, .int .i64 y4, .int .i64 y5, .int .i64 y6, z, .rows rows] ∧ i ≤ M ∧ at' ≤ l.length ∧ rows.length = i ∧ goE (tkE f') (M - i) (rows.map effOf) (l.drop at') = goE (tkE f') M [] (l.drop (k1 + k2 + k3 + k4 + k5)) ∧ ((tkEs (tkE f') M (l.drop (k1 + k2 + k3 + k4 + k5))).2.2 = 0 → at' + (tkEs (tkE f') (M - i) (l.drop at')).2.1 = k1 + k2 + k3 + k4 + k5 + (tkEs (tkE f') M (l.drop (k1 + k2 + k3 + k4 + k5))).2.1) ∧ m = M - i, ⟨_, 0, k1 + k2 + k3 + k4 + k5, _, _, _, _, _, _, _, [], rfl, by omega, by omega, rfl, by simp, fun _ => by rw [Nat.sub_zero], rfl⟩, ?_⟩
  rintro z1 z2 at' i' z3 z4 z5 z6 dz hdz dr hdr m ⟨i, at2, _, _, _, _, _, _, _, rows, e, hiM, hat, hrl, hgo, hk0, hmm⟩
  cases e
  refine ⟨fun hlt => ?_, fun hge A c => ?_⟩
  · have hi2 : i < M := by omega
    obtain ⟨j, hj⟩ : ∃ j, M - i = j + 1 := ⟨M - i - 1, by omega⟩
    rw [hj, goE] at hgo
    rw [hj] at hk0
    refine ⟨by omega, by omega, ?_, l.drop at2, f', ?_, drop_bytes hb _, by rw [List.length_drop]; omega, by omega, ?_, fun r hr5 hre => ?_⟩
    · simp only [mD, argI_c0, argI_c1, toInt_int]
      rw [wrap64 (by omega) (by omega)]; omega
    · rw [argL_c0, ← argL_fold]
      exact xs_cutN hH hx0 hat rfl
    · simp only [argI_c0, argI_c1, toInt_int]
      rw [wrap64 (by omega) (by omega)]; omega
    · match r, hr5 with
      | [r0, r1, r2, r3, r4], _ =>
      simp only [List.cons_append, List.nil_append, List.getD_cons_zero, List.getD_cons_succ, toInt_int]
      refine ⟨fun he => ?_, fun he => ⟨?_, ?_⟩⟩
      · rw [if_neg he] at hgo
        rw [hgt] at hgo
        have he2 : (tkEs (tkE f') M (l.drop (k1 + k2 + k3 + k4 + k5))).2.2 = (tkE f' (l.drop at2)).2.2 := by
          split at hgo
          · cases hgo
          · exact (Prod.mk.inj hgo).2.symm
        refine bad _ _ (fin _ ?_) ⟨_, _, rfl⟩
        rw [he2, if_neg he]
      · simp only [xs_rows, List.length_append, List.length_cons, List.length_nil, hrl]; omega
      · rw [if_pos he] at hgo
        have hkl := tkE_le f' (l.drop at2) (drop_bytes hb _)
        rw [List.length_drop] at hkl
        refine ⟨j, by omega, i + 1, at2 + (tkE f' (l.drop at2)).2.1, z1, z2, z3, z4, z5, z6, dz, rows ++ [[r0, r1, r2, r3, r4]], ?_, by omega, by omega, by simp [hrl], ?_, ?_, by omega⟩
        · rw [wrap64 (by omega) (by omega), wrap64 (by omega) (by omega)]; rfl
        · rw [show M - (i + 1) = j by omega, List.map_append, List.map_cons, List.map_nil, hre, ← List.drop_drop]; exact hgo
        · intro hz
          have h2 := hk0 hz
          have hz2 : (tkEs (tkE f') j ((l.drop at2).drop (tkE f' (l.drop at2)).2.1)).2.2 = 0 := by
            rw [goE_tk, hgt, if_pos hz] at hgo
            apply Classical.byContradiction; intro hne
            rw [if_neg hne] at hgo
            cases hgo
          rw [tkEs, if_pos he, if_pos hz2] at h2
          rw [show M - (i + 1) = j by omega, ← List.drop_drop]
          simp only at h2
          omega
  · have hiM2 : i = M := by omega
    rw [hiM2, Nat.sub_self, goE, hgt] at hgo
    have hall : (tkEs (tkE f') M (l.drop (k1 + k2 + k3 + k4 + k5))).2.2 = 0 := by
      apply Classical.byContradiction; intro hne
      rw [if_neg hne] at hgo
      cases hgo
    rw [if_pos hall] at hgo
    have hg1 := (Prod.mk.inj (Option.some.inj (Prod.mk.inj hgo).1))
    have hk1' := hk0 hall
    rw [hiM2, Nat.sub_self, tkEs] at hk1'
    have hT := fin _ (if_pos hall)
    rw [hT] at h
    have h9 := h [.int .i64 v1, .int .i64 v2, .int .i64 v3, .int .i64 v4, .list (.slice A rows.length c) (E0.Δ.row 24).length rows] rfl (by
      rw [effOf_eq]
      show Eff.mk _ _ _ _ (rows.map effOf) = _
      rw [hg1.1, List.nil_append]; rfl)
    simp only at h9 hk1'
    rw [← hk1'] at h9
    exact h9)
noncomputable def con_rTake6 : Con E0 := ⟨k_rTake6, sg_rTake6, rTake6_s, rfl, bo_rTake6, rTake6_h⟩
end Go.Proofs.Ytkilkcgnfhlfiaa
