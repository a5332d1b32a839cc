import Derived.Test.YtnhahmgbgocdgaaDoorM17

set_option linter.unusedVariables false
set_option linter.unusedSimpArgs false

section
namespace Go.Proofs.YtnhahmgbgocdgaaDoor
open Go.RowKit
set_option linter.unusedVariables false
set_option linter.unusedSimpArgs false
set_option maxRecDepth 100000

theorem nums_few {S : List Dat} (h : errP S 0) : (encs (numsOf S)).length ≤ 90000000 := by
  obtain ⟨h4, hR, hZ⟩ := errP_0 h
  have h1 := encs_len (numsOf S)
  have h2 := lists_len hZ h4 11 (Nat.le_refl _)
  have h3 : (numsOf S).length = 1 + (10 * (argL S 0).length + ((listsN S).length + 25)) := by
    show (_ :: (_ ++ (_ ++ _))).length = _
    rw [List.length_cons, List.length_append, flat_len, List.length_append, numN_len]; omega
  have h5 : (listsN S).length ≤ 401 * 11 := h2
  omega
/-- what is read from a right state's bytes -/
theorem back_same {S rs : List Dat} {e : Int} (hS : StOf S (partS S)) (hn : errP S 0) (h : Parsed (encs (numsOf S)) rs e) : e = 0 ∧ argL S 0 = argL rs 0 ∧ (∀ z, z < 11 → argL S (z + 1) = argL rs (z + 1)) ∧ ∀ i, i < 25 → argI S (12 + i) = argI rs (12 + i) := by
  have hp := pState_back hn
  rcases h with ⟨h1, _⟩ | ⟨h1, T, h2, h3, h4⟩
  · rw [hp] at h1; exact absurd rfl h1
  · rw [hp] at h2 h4
    have := errP_inj (hS.err h2 hn) h3
    subst this
    rcases h4 with ⟨h4, _⟩ | ⟨_, h4⟩
    · exact absurd rfl h4
    · exact ⟨rfl, hS.objs.trans h4.objs.symm, fun z hz => (hS.lists z hz).trans (h4.lists z hz).symm, fun i hi => (hS.nums i hi).trans (h4.nums i hi).symm⟩
theorem back_bytes {l : List Nat} (hb : bytes l) {rs : List Dat} (h : Parsed l rs 0) : encs (numsOf rs) = l :=
  pState_canon hb h.good.2.1 h.good.2.2
theorem zero_same {rs : List Dat} (hr : rs.length = 37) (h : ZeroS rs) : SameS (rs ++ zeroD) :=
  same_of hr rfl ((h.1 0 (by omega)).trans (zero_zero.1 0 (by omega)).symm) (fun z hz => (h.1 _ (by omega)).trans (zero_zero.1 _ (by omega)).symm) (fun i hi => (h.2 i hi).trans (zero_zero.2 i hi).symm)
theorem seq_same {d e : Dat} {l : List Nat} (hd : d.xs = u8R l) (he : e.xs = u8R l) {ρ : List Dat} {s t : Tm} (h1 : den E0.Δ ρ s = d) (h2 : den E0.Δ ρ t = e) : den E0.Δ ρ (.seq (.sof s) (.sof t)) = .bool true := by
  simp only [den, h1, h2, hd, he]
  exact congrArg Dat.bool (beq_self_eq_true _)
def zeroT : List Tm := [.nil 50, .nil 3, .nil 3, .nil 3, .nil 3, .nil 3, .nil 3, .nil 3, .nil 3, .nil 3, .nil 3, .nil 3, .int .i64 0, .int .i64 0, .int .i64 0, .int .i64 0, .int .i64 0, .int .i64 0, .int .i64 0, .int .i64 0, .int .i64 0, .int .i64 0, .int .i64 0, .int .i64 0, .int .i64 0, .int .i64 0, .int .i64 0, .int .i64 0, .int .i64 0, .int .i64 0, .int .i64 0, .int .i64 0, .int .i64 0, .int .i64 0, .int .i64 0, .int .i64 0, .int .i64 0]
def parS : List Srt := [.list 50, .list 3, .list 3, .list 3, .list 3, .list 3, .list 3, .list 3, .list 3, .list 3, .list 3, .list 3, .int .i64, .int .i64, .int .i64, .int .i64, .int .i64, .int .i64, .int .i64, .int .i64, .int .i64, .int .i64, .int .i64, .int .i64, .int .i64, .int .i64, .int .i64, .int .i64, .int .i64, .int .i64, .int .i64, .int .i64, .int .i64, .int .i64, .int .i64, .int .i64, .int .i64, .err]
def vars (P : Nat) : List Tm := (List.range' P 37).map Tm.var
/-- what is done with bytes that came in -/
def tailT (P : Nat) : Tree := .call k_tParse [.var 37] parS (.ite (.not (.isnil (.var (P + 37)))) (.call k_nStates (vars P ++ zeroT) [.bool] (.ret [.var (P + 38)])) (.call k_tBytes11 (vars P) [.list 5, .err] (.ret [.and (.isnil (.var (P + 39))) (.seq (.sof (.var (P + 38))) (.sof (.var 37)))])))
theorem tail_ok {Φ : Nat → Spec} {Q : List Dat → Prop} (s3 : Φ k_tBytes11 = tBytes11_s) (s4 : Φ k_tParse = tParse_s) (s5 : Φ k_nStates = nStates_s) (h : Q [.bool true]) {A : List Dat} {P : Nat} (hP : A.length = P) {x : Dat} (hx : ∀ m, den E0.Δ (A ++ m) (.var 37) = x) {l : List Nat} (e1 : x.xs = u8R l) (e2 : bytes l) (hlen : l.length ≤ 2000) : wp E0.Δ Φ Q (tailT P) A [] := by
  unfold tailT
  refine wp_callE (args := [x]) ?_ ?_
  · have := hx []
    rw [List.append_nil] at this
    show [den E0.Δ A (.var 37)] = _
    rw [this]
  rw [s4]
  refine ⟨l, e1, e2, by omega, fun ss e hss hq => ?_⟩
  have at_ : ∀ (m : List Dat) (k : Nat), den E0.Δ (A ++ (ss ++ m)) (.var (P + (37 + k))) = m.getD k (.bool false) := fun m k => by
    rw [den_end (37 + k) hP, getD_end hss]
  refine wp_two (v := !decide (e = 0)) ?_ (fun hv => ?_) fun hv => ?_
  · show Dat.bool (!isNilI (den E0.Δ (A ++ (ss ++ [errV e])) (.var (P + (37 + 0))))) = _
    rw [at_]
    show Dat.bool (!isNilI (errV e)) = _
    rw [errV_nil]
  · have he : e ≠ 0 := by simpa using hv
    refine wp_callE (args := ss ++ zeroD) ?_ ?_
    · show ((List.range' P 37).map Tm.var ++ zeroT).map (den E0.Δ (A ++ (ss ++ [errV e]))) = _
      rw [List.map_append, args_at hP hss]; rfl
    rw [s5]
    have hdr : (ss ++ zeroD).drop 37 = zeroD := List.drop_left' hss
    refine ⟨sm_app hss hq.sm, by rw [hdr]; exact sm_zero zero_zero, fun c hc => ?_⟩
    obtain rfl : c = true := hc.2 (zero_same hss (hq.zero he))
    show Q [den E0.Δ (A ++ (ss ++ [errV e]) ++ [.bool true]) (.var (P + (37 + 1)))]
    rw [List.append_assoc, List.append_assoc, at_]
    exact h
  · obtain rfl : e = 0 := by simpa using hv
    refine wp_callE (args := ss) (args_at hP hss) ?_
    rw [s3]
    refine tB_of (sm_right hq.good.1) hq.good.1 fun d hd => ?_
    have hd := hd rfl
    rw [back_bytes e2 hq] at hd
    have env : A ++ (ss ++ [errV 0]) ++ [d, errV 0] = A ++ (ss ++ [errV 0, d, errV 0]) := by simp only [List.append_assoc, List.cons_append, List.nil_append]
    rw [env]
    show Q [Dat.bool ((Dat.bool (isNilI (den E0.Δ (A ++ (ss ++ [errV 0, d, errV 0])) (.var (P + (37 + 2)))))).toBool && (den E0.Δ (A ++ (ss ++ [errV 0, d, errV 0])) (.seq (.sof (.var (P + (37 + 1)))) (.sof (.var 37)))).toBool)]
    rw [at_, seq_same hd e1 (at_ _ 1) (hx _)]
    exact h
def lback_s : Spec := law_s
theorem lback_h : Holds E0 k_lback sg_lback lback_s := con_fn wf0 mix0 g0 [con_alive11, con_Long, con_tBytes11, con_tParse, con_nStates, con_sameB] rfl wk_lback rfl (by
  intro Φ hΦ ds Q hs ⟨hin, h⟩
  have hl : ds.length = 38 := hs.length.symm
  have s1 : Φ k_alive11 = alive11_s := by rw [hΦ]; rfl
  have s2 : Φ k_Long = Long_s := by rw [hΦ]; rfl
  have s3 : Φ k_tBytes11 = tBytes11_s := by rw [hΦ]; rfl
  have s4 : Φ k_tParse = tParse_s := by rw [hΦ]; rfl
  have s5 : Φ k_nStates = nStates_s := by rw [hΦ]; rfl
  clear hΦ
  have ht : (ds.take 37).length = 37 := by rw [List.length_take]; omega
  have tk : ∀ i, i < 37 → ∀ d, (ds.take 37).getD i d = ds.getD i d := fun i hi d => by
    rw [List.getD_eq_getElem?_getD, List.getElem?_take, if_pos hi, List.getD_eq_getElem?_getD]
  have hS : StOf (ds.take 37) (partS (ds.take 37)) := self_of (by rw [tk 0 (by omega)]; exact all2_get hs (i := 0) rfl) fun z hz => by
    rw [tk _ (by omega)]
    match z, hz with
    | 0, _ | 1, _ | 2, _ | 3, _ | 4, _ | 5, _ | 6, _ | 7, _ | 8, _ | 9, _ | 10, _ => exact all2_get hs rfl
  obtain ⟨x, hx⟩ : ∃ x, ds.getD 37 (.bool false) = x := ⟨_, rfl⟩
  have hmem : x ∈ ds := by rw [← hx]; exact getD_memL (by omega)
  obtain ⟨l, e1, e2, e3⟩ := byte_has (hx ▸ all2_get hs (i := 37) rfl) (hin x hmem)
  clear hs hin
  have g : ∀ (m : List Dat) (k : Nat) (d : Dat), (ds ++ m).getD (38 + k) d = m.getD k d := fun m k d => getD_end hl d
  have gx : ∀ m : List Dat, (ds ++ m).getD 37 (.bool false) = x := fun m => by rw [getD_old (by omega), hx]
  have aS : ∀ e, ((List.range' 0 37).map Tm.var).map (den E0.Δ (ds ++ e)) = ds.take 37 := fun e => by rw [argsT (by omega)]; rfl
  unfold tr_lback
  refine wp_callE (args := []) rfl ?_
  rw [s1]
  show wp E0.Δ Φ Q _ (ds ++ [.bool true]) []
  refine wp_no ?_ ?_
  · show Dat.bool (!((ds ++ [Dat.bool true]).getD (38 + 0) (.bool false)).toBool) = _
    rw [g]; rfl
  refine wp_callG (args := ds.take 37 ++ [.int .i64 100]) ?_ ?_
  · show ((List.range' 0 37).map Tm.var ++ [Tm.int .i64 100]).map (den E0.Δ (ds ++ [.bool true])) = _
    rw [List.map_append, aS]; rfl
  rw [s2]
  have hA : argI (ds.take 37 ++ [Dat.int .i64 100]) 37 = 100 := (argI_end (k := 0) ht).trans rfl
  refine ⟨by rw [hA]; decide, by rw [hA]; decide, fun b hb => ?_⟩
  rw [hA] at hb
  show wp E0.Δ Φ Q _ (ds ++ [.bool true, .bool b]) []
  refine wp_two (v := b || decide ((2000 : Int) < (x.xs.length : Int))) ?_ (fun _ => h) fun hbf => ?_
  · show Dat.bool (((ds ++ [Dat.bool true, .bool b]).getD (38 + 1) (.bool false)).toBool || decide ((2000 : Int) < (((ds ++ [Dat.bool true, .bool b]).getD 37 (.bool false)).xs.length : Int))) = _
    rw [g, gx]; rfl
  rw [Bool.or_eq_false_iff] at hbf
  obtain ⟨hbf, hlen⟩ := hbf
  have LA := long_lens ht (fun hL => by rw [hb.2 hL] at hbf; cases hbf)
  have hlen : l.length ≤ 2000 := by
    have := of_decide_eq_false hlen
    rw [e1, u8R_len] at this
    omega
  clear hb hA
  have smS : Sm (ds.take 37) := fun y hy => by have := LA y hy; omega
  obtain ⟨n, hn⟩ := errP_ex (ds.take 37)
  refine wp_callG (args := ds.take 37) (aS _) ?_
  rw [s3]
  refine tB_of smS hn fun d1 h1 => ?_
  show wp E0.Δ Φ Q _ (ds ++ [.bool true, .bool b, d1, errV n]) []
  refine wp_two (v := decide (n = 0)) ?_ (fun hv => ?_) fun hv => ?_
  · show Dat.bool (isNilI ((ds ++ [.bool true, .bool b, d1, errV n]).getD (38 + 3) (.bool false))) = _
    rw [g]
    show Dat.bool (isNilI (errV n)) = _
    rw [errV_nil]
  · obtain rfl : n = 0 := of_decide_eq_true hv
    have h1 := h1 rfl
    refine wp_callG (args := [d1]) ?_ ?_
    · show [(ds ++ [.bool true, .bool b, d1, errV 0]).getD (38 + 2) (.bool false)] = _
      rw [g]; rfl
    rw [s4]
    refine ⟨encs (numsOf (ds.take 37)), h1, encs_byte (numsOf_ok hn), nums_few hn, fun rs e hrs hp => ?_⟩
    obtain ⟨rfl, q1, q2, q3⟩ := back_same hS hn hp
    have env : ds ++ ([Dat.bool true, .bool b, d1, errV 0] ++ (rs ++ [errV 0])) = (ds ++ [Dat.bool true, .bool b, d1, errV 0]) ++ (rs ++ [errV 0]) := by simp only [List.append_assoc, List.cons_append, List.nil_append]
    have hA4 : (ds ++ [Dat.bool true, .bool b, d1, errV 0]).length = 42 := by rw [List.length_append, hl]; rfl
    rw [env]
    refine wp_no ?_ ?_
    · show Dat.bool (!isNilI (den E0.Δ ((ds ++ [Dat.bool true, .bool b, d1, errV 0]) ++ (rs ++ [errV 0])) (.var (42 + 37)))) = _
      rw [den_end 37 hA4, getD_end (k := 0) hrs]; rfl
    refine wp_callE (args := ds.take 37 ++ rs) ?_ ?_
    · show ((List.range' 0 37).map Tm.var ++ (List.range' 42 37).map Tm.var).map (den E0.Δ _) = _
      rw [List.map_append, args_at hA4 hrs, List.append_assoc, aS]
    rw [s5]
    have hdr : (ds.take 37 ++ rs).drop 37 = rs := List.drop_left' ht
    refine ⟨sm_app ht smS, by rw [hdr]; exact hp.sm, fun c hc => ?_⟩
    obtain rfl : c = true := hc.2 (same_of ht hrs q1 q2 q3)
    have env2 : (ds ++ [Dat.bool true, .bool b, d1, errV 0]) ++ (rs ++ [errV 0]) ++ [Dat.bool true] = (ds ++ [Dat.bool true, .bool b, d1, errV 0]) ++ (rs ++ [errV 0, .bool true]) := by simp only [List.append_assoc, List.cons_append, List.nil_append]
    rw [env2]
    refine wp_no ?_ ?_
    · show Dat.bool (!(den E0.Δ ((ds ++ [Dat.bool true, .bool b, d1, errV 0]) ++ (rs ++ [errV 0, .bool true])) (.var (42 + 38))).toBool) = _
      rw [den_end 38 hA4, getD_end (k := 1) hrs]; rfl
    have hlen81 : ((ds ++ [Dat.bool true, .bool b, d1, errV 0]) ++ (rs ++ [errV 0, .bool true])).length = 81 := by simp only [List.length_append, hl, hrs, List.length_cons, List.length_nil]
    exact tail_ok s3 s4 s5 h hlen81 (fun m => by rw [List.append_assoc, List.append_assoc]; exact gx _) e1 e2 hlen
  · have hlen42 : (ds ++ [Dat.bool true, .bool b, d1, errV n]).length = 42 := by rw [List.length_append, hl]; rfl
    exact tail_ok s3 s4 s5 h hlen42 (fun m => by rw [List.append_assoc]; exact gx _) e1 e2 hlen)
noncomputable def con_lback : Con E0 := ⟨k_lback, sg_lback, lback_s, rfl, bo_lback, lback_h⟩
end Go.Proofs.YtnhahmgbgocdgaaDoor
end
