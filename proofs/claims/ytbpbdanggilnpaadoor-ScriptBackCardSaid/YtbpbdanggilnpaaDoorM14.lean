import Derived.Test.YtbpbdanggilnpaaDoorM13
import Derived.Test.YtbpbdanggilnpaaDoorM8

set_option linter.unusedVariables false
set_option linter.unusedSimpArgs false

section
namespace Go.Proofs.YtbpbdanggilnpaaDoor
open Go.RowKit
set_option linter.unusedVariables false
set_option linter.unusedSimpArgs false

theorem byte_has {d : Dat} (h : Has E0.Δ (.list 5) d) (hi : InD d) : ∃ l : List Nat, d.xs = u8R l ∧ (∀ c ∈ l, c < 256) ∧ l.length ≤ maxLen := by
  cases h with
  | list _ A n c xs hl hh =>
    cases hi with
    | list v sz _ hm hr =>
      have key : ∀ xs : List (List Dat), (∀ r ∈ xs, r.length = (E0.Δ.row 5).length) → (∀ row ∈ xs, ∀ (c : Nat) (s : Srt) (d : Dat), (E0.Δ.row 5)[c]? = some s → row[c]? = some d → Has E0.Δ s d) → (∀ r ∈ xs, ∀ d ∈ r, InD d) → ∃ l : List Nat, xs = u8R l ∧ ∀ c ∈ l, c < 256 := by
        intro xs
        induction xs with
        | nil => intro _ _ _; exact ⟨[], rfl, by simp⟩
        | cons x xs ih =>
          intro h1 h2 h3
          obtain ⟨l, e1, e2⟩ := ih (fun r hr => h1 r (List.mem_cons_of_mem _ hr)) (fun r hr => h2 r (List.mem_cons_of_mem _ hr)) (fun r hr => h3 r (List.mem_cons_of_mem _ hr))
          have hx := h2 x List.mem_cons_self
          have hin := h3 x List.mem_cons_self
          have hlx : x.length = 1 := h1 x List.mem_cons_self
          match x, hlx with
          | [d], _ =>
            have hd : Has E0.Δ (.int .u8) d := hx 0 _ d rfl rfl
            have hid := hin d List.mem_cons_self
            cases hd with
            | int k n =>
              cases hid with
              | int _ _ hw =>
                simp only [Lit.wf, Bool.and_eq_true, decide_eq_true_eq] at hw
                have h0 : 0 ≤ n := hw.1
                have h255 : n ≤ 255 := hw.2
                obtain ⟨m, rfl⟩ := Int.eq_ofNat_of_zero_le h0
                refine ⟨m :: l, by rw [e1]; rfl, fun c hc => ?_⟩
                rcases List.mem_cons.1 hc with rfl | hc
                · omega
                · exact e2 c hc
      obtain ⟨l, e1, e2⟩ := key xs hl hh hr
      exact ⟨l, e1, e2, by simpa [e1, u8R_len] using hm⟩
theorem encI_byte {n : Int} (h1 : -9223372036854775808 ≤ n) (h2 : n ≤ 9223372036854775807) : ∀ c ∈ mth.encI n, c < 256 := by
  have h := mth.zig_lt n h1 h2
  exact mth.encF_byte 9 _ (Nat.lt_of_lt_of_le h (by decide))
/-- bytes are the same -/
theorem loop_toList (b : ByteArray) : ∀ (n i : Nat) (r : List UInt8), b.size - i = n → ByteArray.toList.loop b i r = r.reverse ++ b.data.toList.drop i
  | 0, i, r, h => by
    unfold ByteArray.toList.loop
    have hs : b.data.toList.length = b.size := Array.length_toList
    rw [if_neg (by omega), List.drop_of_length_le (by omega), List.append_nil]
  | n + 1, i, r, h => by
    unfold ByteArray.toList.loop
    have hs : b.data.toList.length = b.size := Array.length_toList
    have hi : i < b.data.toList.length := by omega
    rw [if_pos (by omega), loop_toList b n (i + 1) _ (by omega), List.drop_eq_getElem_cons hi]
    have : b.get! i = b.data.toList[i] := by
      have : i < b.data.size := by simpa using hi
      simp only [ByteArray.get!]
      rw [Array.getElem_toList, getElem!_pos b.data i this]
    rw [this]
    simp
theorem toList_data (b : ByteArray) : b.toList = b.data.toList := (loop_toList b _ 0 [] rfl).trans (by simp)
theorem bytesOf_u8R (l : List Nat) : bytesOf (u8R l) = ⟨(l.map UInt8.ofNat).toArray⟩ := by
  have e : ∀ a : Nat, (Dat.int .u8 (a : Int)).toInt.toNat = a := fun a => rfl
  simp [bytesOf, u8R, e]
theorem u8_inj : ∀ {l m : List Nat}, (∀ c ∈ l, c < 256) → (∀ c ∈ m, c < 256) → (l.map UInt8.ofNat = m.map UInt8.ofNat ↔ l = m)
  | [], [], _, _ => by simp
  | [], _ :: _, _, _ => by simp
  | _ :: _, [], _, _ => by simp
  | a :: l, b :: m, h1, h2 => by
    have ih := u8_inj (fun c hc => h1 c (List.mem_cons_of_mem _ hc)) (fun c hc => h2 c (List.mem_cons_of_mem _ hc))
    have ha := h1 a List.mem_cons_self
    have hb := h2 b List.mem_cons_self
    simp only [List.map_cons, List.cons.injEq, ih]
    refine and_congr_left fun _ => ⟨fun h => ?_, fun h => by rw [h]⟩
    have := congrArg UInt8.toNat h
    rw [UInt8.toNat_ofNat', UInt8.toNat_ofNat'] at this
    omega
theorem u8R_inj {l m : List Nat} (h : u8R l = u8R m) : l = m := by
  have h2 := congrArg (List.map fun r : List Dat => (r.headD (.int .u8 0)).toInt.toNat) h
  have e : ∀ l : List Nat, (u8R l).map (fun r : List Dat => (r.headD (.int .u8 0)).toInt.toNat) = l := fun l => by
    unfold u8R
    rw [List.map_map]
    exact (List.map_congr_left fun a _ => rfl).trans (List.map_id l)
  rw [e, e] at h2
  exact h2
theorem strD_toList {l : List Nat} : (strD (.val (.string (bytesOf (u8R l))))).toList = l.map UInt8.ofNat := by
  rw [bytesOf_u8R, strD, toList_data]
def k_sameB : Nat := 14
def sg_sameB : Sig := ⟨[(false, [.list 5]), (false, [.list 5])], [(false, [.bool])], false, false, false, false, false, [], [], none⟩
def tr_sameB : Tree := (.ret [(.seq (.sof (.var 0)) (.sof (.var 1)))])
theorem wk_sameB : walk E0.cx (sgsN []) 0 14 sg_sameB = tr_sameB := by kernel_rfl
theorem bo_sameB : ∃ x, bodyOf E0.P 14 = some x := bo_of (by kernel_rfl)
def sameB_s : Spec := fun ds Q => ∃ l m : List Nat, argL ds 0 = u8R l ∧ argL ds 1 = u8R m ∧ (∀ c ∈ l, c < 256) ∧ (∀ c ∈ m, c < 256) ∧ Q [.bool (decide (l = m))]
theorem sameB_h : Holds E0 k_sameB sg_sameB sameB_s := con_fn wf0 mix0 g0 [] rfl wk_sameB rfl (by
  intro Φ hΦ ds Q hs ⟨l, m, h1, h2, h3, h4, h⟩
  clear hΦ
  simp only [tr_sameB, wp, List.map_cons, List.map_nil, den, argL_fold, h1, h2, strD_toList]
  refine cast (congrArg Q ?_) h
  have e := u8_inj h3 h4
  congr 2
  rw [Bool.eq_iff_iff, decide_eq_true_eq, beq_iff_eq, e])
noncomputable def con_sameB : Con E0 := ⟨k_sameB, sg_sameB, sameB_s, rfl, bo_sameB, sameB_h⟩
end Go.Proofs.YtbpbdanggilnpaaDoor
end

section
namespace Go.Proofs.YtbpbdanggilnpaaDoor
open Go.RowKit
set_option linter.unusedVariables false
set_option linter.unusedSimpArgs false

def k_wPutL : Nat := 38
def sg_wPutL : Sig := ⟨[(false, [.list 5]), (false, [.int .i64])], [(false, [.list 5])], false, false, false, false, false, [], [], none⟩
def tr_wPutL : Tree := (.call k_Cl8 [(.var 0)] [(.rows 5)]
(.loop [(.app .emp (.var 2)), (.ar .xor .u64 (.ar .shl .u64 (.conv .u64 (.var 1)) (.int .u64 1)) (.conv .u64 (.ar .shr .i64 (.var 1) (.int .u64 63))))] [(.rows 5), (.int .u64)]
 (.ite (.cmp .ge (.var 4) (.int .u64 128))
  (.ob (.cmp .le (.len (.push (.var 3) (.econs (.ar .or .u8 (.conv .u8 (.var 4)) (.int .u8 128)) .enil))) (.int .i64 140737488355328))
  (.again 0 [(.push (.var 3) (.econs (.ar .or .u8 (.conv .u8 (.var 4)) (.int .u8 128)) .enil)), (.ar .shr .u64 (.var 4) (.int .u64 7))]))
  (.ob (.cmp .le (.len (.push (.var 3) (.econs (.conv .u8 (.var 4)) .enil))) (.int .i64 140737488355328))
  (.share 5 (.push (.var 3) (.econs (.conv .u8 (.var 4)) .enil))
  (.ret [(.var 5)]))))))
theorem wk_wPutL : walk E0.cx (sgsN [(47, sg_Cl8)]) 0 38 sg_wPutL = tr_wPutL := by kernel_rfl
theorem bo_wPutL : ∃ x, bodyOf E0.P 38 = some x := bo_of (by kernel_rfl)
theorem sp_wPutL_Cl8 : specC [con_Cl8] k_Cl8 = Cl8_s := rfl
def wPutL_s : Spec := fun ds Q => (argL ds 0).length ≤ 90000000 ∧ -9223372036854775808 ≤ argI ds 1 ∧ argI ds 1 ≤ 9223372036854775807 ∧ ∀ d : Dat, d.xs = argL ds 0 ++ u8R (mth.encI (argI ds 1)) → Q [d]
theorem wPutL_h : Holds E0 k_wPutL sg_wPutL wPutL_s := con_fn wf0 mix0 g0 [con_Cl8] rfl wk_wPutL rfl (by
  intro Φ hΦ ds Q hs ⟨hn, n1, n2, h⟩
  have hl : ds.length = 2 := hs.length.symm
  have sp : Φ k_Cl8 = Cl8_s := by rw [hΦ]; rfl
  clear hΦ
  simp only [tr_wPutL, wp, den_int, den_bool, den_nili, den_ar, den_cmp, den_not, den_len, den_elem, den_isnil, den_errI, den_ifc, den_rep, den_push, den_app, den_emp, den_upd, row0_econs, row0_enil, den_and, den_beq, den_nil, toInt_int, toBool_bool, xs_rows, xs_list, dflt_int, dflt_bool, of_eq, of_ne, of_lt, of_le, of_gt, of_ge, of_add, of_sub, of_rem, List.map_cons, List.map_nil, Dat.bool.injEq, decide_eq_true_eq, decide_eq_false_iff_not, Bool.not_eq_true', Bool.not_eq_false', beq_iff_eq, bne_iff_ne, beq_eq_false_iff_ne, bne_eq_false_iff_eq, ne_eq, List.append_assoc, List.cons_append, List.nil_append, allS, sp, Cl8_s, den_conv, argL_c0, @den_var0 E0.Δ ds, den_varA, den_varB, hl, Nat.reduceLT, Nat.reduceLeDiff, Nat.reduceSub, List.getD_cons_zero, List.getD_cons_succ, argL_fold ds, argI_fold ds, List.append_assoc, List.cons_append, List.nil_append, toInt_int, toBool_bool, xs_rows, xs_list, Int.toNat_natCast, Dat.bool.injEq]
  rw [zig_of _ n1 n2]
  have hX := mth.zig_lt _ n1 n2
  refine ⟨by omega, fun xs m => ∃ (k y : Nat) (dn : List Nat), mth.Going (mth.zig (argI ds 1)) k y dn ∧ xs = [.rows (argL ds 0 ++ u8R dn), .int .u64 (y : Int)] ∧ m = y, ⟨_, 0, _, [], mth.going_start _ hX, by simp [u8R], rfl⟩, ?_⟩
  rintro d hd n m ⟨k, y, dn, hg, e, hm⟩
  cases e
  have hlen := hg.len
  have hk := hg.hk
  have hle := hg.le
  refine ⟨fun h128 => ⟨?_, ?_⟩, fun h128 => ⟨?_, ?_⟩⟩
  · simp only [xs_rows, List.length_append, u8R_len, List.length_cons, List.length_nil]; omega
  · have hy : ¬ y < 128 := by omega
    refine ⟨y / 128, by omega, k + 1, y / 128, _, mth.going_step hg hy, ?_, rfl⟩
    rw [or128_of y (by omega), shr7, u8R_app, ← List.append_assoc]; rfl
  · simp only [xs_rows, List.length_append, u8R_len, List.length_cons, List.length_nil]; omega
  · have hy : y < 128 := by omega
    have he := (mth.going_end hg hy).1
    have ew : IntKind.u8.wrap (y : Int) = (y : Int) := by rw [IntKind.wrap_u8]; omega
    rw [ew]
    have e2 : u8R (mth.encI (argI ds 1)) = u8R dn ++ [[.int .u8 (y : Int)]] := by
      rw [mth.encI, ← he, u8R_app]; rfl
    rw [e2, ← List.append_assoc] at h
    exact fun A c => h _ (by rw [xs_list]; rfl))
noncomputable def con_wPutL : Con E0 := ⟨k_wPutL, sg_wPutL, wPutL_s, rfl, bo_wPutL, wPutL_h⟩
def encs (l : List Int) : List Nat := l.flatMap mth.encI
theorem encs_app (l m : List Int) : encs (l ++ m) = encs l ++ encs m := List.flatMap_append
theorem encs_len (l : List Int) : (encs l).length ≤ 10 * l.length := by
  induction l with
  | nil => exact Nat.le_refl _
  | cons a l ih =>
    have := (mth.enc_len (mth.zig a)).2
    show (mth.encI a ++ encs l).length ≤ _
    rw [List.length_append, List.length_cons]
    have h2 : (mth.encI a).length ≤ 10 := this
    omega
def okN (n : Int) : Prop := -9223372036854775808 ≤ n ∧ n ≤ 9223372036854775807
def k_sPut : Nat := 24
def sg_sPut : Sig := ⟨[(false, [.list 5]), (false, [.list 3])], [(false, [.list 5])], false, false, false, false, false, [], [], none⟩
def tr_sPut : Tree := (.loop [(.var 0), (.int .i64 0)] [(.list 5), (.int .i64)]
 (.ite (.cmp .lt (.var 3) (.len (.var 1)))
  (.ob (.cmp .ge (.var 3) (.int .i64 0))
  (.call k_wPutL [(.var 2), (.elem (.var 1) (.var 3) 0 (.int .i64))] [(.list 5)]
  (.again 0 [(.var 4), (.ar .add .i64 (.var 3) (.int .i64 1))])))
  (.ret [(.var 2)])))
theorem wk_sPut : walk E0.cx (sgsN [(38, sg_wPutL)]) 0 24 sg_sPut = tr_sPut := by kernel_rfl
theorem bo_sPut : ∃ x, bodyOf E0.P 24 = some x := bo_of (by kernel_rfl)
theorem sp_sPut_wPutL : specC [con_wPutL] k_wPutL = wPutL_s := rfl
def sPut_s : Spec := fun ds Q => (argL ds 0).length + 10 * (argL ds 1).length ≤ 90000000 ∧ (∀ n ∈ nums (argL ds 1), okN n) ∧ ∀ d : Dat, d.xs = argL ds 0 ++ u8R (encs (nums (argL ds 1))) → Q [d]
theorem sPut_h : Holds E0 k_sPut sg_sPut sPut_s := con_fn wf0 mix0 g0 [con_wPutL] rfl wk_sPut rfl (by
  intro Φ hΦ ds Q hs ⟨hlen, hok, h⟩
  have hl : ds.length = 2 := hs.length.symm
  have sp : Φ k_wPutL = wPutL_s := by rw [hΦ]; rfl
  clear hΦ
  have hnl := nums_len (argL ds 1)
  have hat : ∀ i, i < (argL ds 1).length → rowI ((argL ds 1).getD i []) 0 = (nums (argL ds 1)).getD i 0 := fun i hi => num_at hi
  simp only [tr_sPut, wp, den_int, den_bool, den_nili, den_ar, den_cmp, den_not, den_len, den_elem, den_isnil, den_errI, den_ifc, den_rep, den_push, den_app, den_emp, den_upd, row0_econs, row0_enil, den_and, den_beq, den_nil, toInt_int, toBool_bool, xs_rows, xs_list, dflt_int, dflt_bool, of_eq, of_ne, of_lt, of_le, of_gt, of_ge, of_add, of_sub, of_rem, List.map_cons, List.map_nil, Dat.bool.injEq, decide_eq_true_eq, decide_eq_false_iff_not, Bool.not_eq_true', Bool.not_eq_false', beq_iff_eq, bne_iff_ne, beq_eq_false_iff_ne, bne_eq_false_iff_eq, ne_eq, List.append_assoc, List.cons_append, List.nil_append, allS, sp, wPutL_s, @den_var0 E0.Δ ds, den_varA, den_varB, hl, Nat.reduceLT, Nat.reduceLeDiff, Nat.reduceSub, List.getD_cons_zero, List.getD_cons_succ, argL_fold ds, argI_fold ds, List.append_assoc, List.cons_append, List.nil_append, toInt_int, toBool_bool, xs_rows, xs_list, Int.toNat_natCast, Dat.bool.injEq, argL_c0, argI_c0, argI_c1, dflt_int, toInt_getD]
  generalize nums (argL ds 1) = L at *
  refine ⟨fun xs m => ∃ (d : Dat) (k : Nat), xs = [d, .int .i64 k] ∧ k ≤ L.length ∧ m = L.length - k ∧ d.xs = argL ds 0 ++ u8R (encs (L.take k)), ⟨_, _, 0, rfl, by omega, rfl, by rw [List.take_zero, argL_fold]; simp [encs, u8R]⟩, ?_⟩
  rintro d1 hd1 n1 m ⟨d, k, e, hk, hm, hd⟩
  obtain ⟨rfl, rfl⟩ : d1 = d ∧ n1 = (k : Int) := by simpa using e
  subst hm
  refine ⟨fun hlt => ⟨by omega, ?_⟩, fun hge => ?_⟩
  · have hk2 : k < L.length := by omega
    rw [Int.toNat_natCast, hat k (by omega)]
    have ho := hok _ (getD_memL (d := 0) hk2)
    have hel := encs_len (L.take k)
    rw [List.length_take] at hel
    refine ⟨by rw [hd, List.length_append, u8R_len]; omega, ho.1, ho.2, fun d2 hd2 => ⟨_, (by omega : L.length - (k + 1) < _), d2, k + 1, by rw [wrap64 (by omega) (by omega)]; rfl, by omega, rfl, ?_⟩⟩
    rw [hd2, hd, take_succ_getD (d := 0) hk2, encs_app, u8R_app, List.append_assoc]
    congr 3
    simp [encs]
  · have hk3 : k = L.length := by omega
    rw [hk3, List.take_length] at hd
    exact h _ hd)
noncomputable def con_sPut : Con E0 := ⟨k_sPut, sg_sPut, sPut_s, rfl, bo_sPut, sPut_h⟩
def k_wPutList : Nat := 23
def sg_wPutList : Sig := ⟨[(false, [.list 5]), (false, [.list 3])], [(false, [.list 5])], false, false, false, false, false, [], [], none⟩
def tr_wPutList : Tree := (.call k_wPutL [(.var 0), (.len (.var 1))] [(.list 5)]
(.loop [(.var 2), (.int .i64 0)] [(.list 5), (.int .i64)]
 (.ite (.cmp .lt (.var 4) (.len (.var 1)))
  (.ob (.cmp .ge (.var 4) (.int .i64 0))
  (.call k_wPutL [(.var 3), (.elem (.var 1) (.var 4) 0 (.int .i64))] [(.list 5)]
  (.again 0 [(.var 5), (.ar .add .i64 (.var 4) (.int .i64 1))])))
  (.ret [(.var 3)]))))
theorem wk_wPutList : walk E0.cx (sgsN [(38, sg_wPutL)]) 0 23 sg_wPutList = tr_wPutList := by kernel_rfl
theorem bo_wPutList : ∃ x, bodyOf E0.P 23 = some x := bo_of (by kernel_rfl)
theorem sp_wPutList_wPutL : specC [con_wPutL] k_wPutL = wPutL_s := rfl
def wPutList_s : Spec := fun ds Q => (argL ds 0).length + 10 * (argL ds 1).length + 10 ≤ 90000000 ∧ (∀ n ∈ nums (argL ds 1), okN n) ∧ ∀ d : Dat, d.xs = argL ds 0 ++ u8R (encs (((argL ds 1).length : Int) :: nums (argL ds 1))) → Q [d]
theorem wPutList_h : Holds E0 k_wPutList sg_wPutList wPutList_s := con_fn wf0 mix0 g0 [con_wPutL] rfl wk_wPutList rfl (by
  intro Φ hΦ ds Q hs ⟨hlen, hok, h⟩
  have hl : ds.length = 2 := hs.length.symm
  have sp : Φ k_wPutL = wPutL_s := by rw [hΦ]; rfl
  clear hΦ
  have hnl := nums_len (argL ds 1)
  have hat : ∀ i, i < (argL ds 1).length → rowI ((argL ds 1).getD i []) 0 = (nums (argL ds 1)).getD i 0 := fun i hi => num_at hi
  simp only [tr_wPutList, wp, den_int, den_bool, den_nili, den_ar, den_cmp, den_not, den_len, den_elem, den_isnil, den_errI, den_ifc, den_rep, den_push, den_app, den_emp, den_upd, row0_econs, row0_enil, den_and, den_beq, den_nil, toInt_int, toBool_bool, xs_rows, xs_list, dflt_int, dflt_bool, of_eq, of_ne, of_lt, of_le, of_gt, of_ge, of_add, of_sub, of_rem, List.map_cons, List.map_nil, Dat.bool.injEq, decide_eq_true_eq, decide_eq_false_iff_not, Bool.not_eq_true', Bool.not_eq_false', beq_iff_eq, bne_iff_ne, beq_eq_false_iff_ne, bne_eq_false_iff_eq, ne_eq, List.append_assoc, List.cons_append, List.nil_append, allS, sp, wPutL_s, @den_var0 E0.Δ ds, den_varA, den_varB, hl, Nat.reduceLT, Nat.reduceLeDiff, Nat.reduceSub, List.getD_cons_zero, List.getD_cons_succ, argL_fold ds, argI_fold ds, List.append_assoc, List.cons_append, List.nil_append, toInt_int, toBool_bool, xs_rows, xs_list, Int.toNat_natCast, Dat.bool.injEq, argL_c0, argI_c0, argI_c1, dflt_int, toInt_getD]
  generalize nums (argL ds 1) = L at *
  refine ⟨by omega, by omega, by omega, fun d0 hd0 => ?_⟩
  have hl0 : (mth.encI ((argL ds 1).length : Int)).length ≤ 10 := (mth.enc_len _).2
  refine ⟨fun xs m => ∃ (d : Dat) (k : Nat), xs = [d, .int .i64 k] ∧ k ≤ L.length ∧ m = L.length - k ∧ d.xs = argL ds 0 ++ u8R (mth.encI ((argL ds 1).length : Int) ++ encs (L.take k)), ⟨_, _, 0, rfl, by omega, rfl, by rw [List.take_zero, hd0]; simp [encs]⟩, ?_⟩
  rintro d1 hd1 n1 m ⟨d, k, e, hk, hm, hd⟩
  obtain ⟨rfl, rfl⟩ : d1 = d ∧ n1 = (k : Int) := by simpa using e
  subst hm
  refine ⟨fun hlt => ⟨by omega, ?_⟩, fun hge => ?_⟩
  · have hk2 : k < L.length := by omega
    rw [Int.toNat_natCast, hat k (by omega)]
    have ho := hok _ (getD_memL (d := 0) hk2)
    have hel := encs_len (L.take k)
    rw [List.length_take] at hel
    refine ⟨by rw [hd, List.length_append, u8R_len, List.length_append]; omega, ho.1, ho.2, fun d2 hd2 => ⟨_, (by omega : L.length - (k + 1) < _), d2, k + 1, by rw [wrap64 (by omega) (by omega)]; rfl, by omega, rfl, ?_⟩⟩
    rw [hd2, hd, take_succ_getD (d := 0) hk2, encs_app]
    simp only [u8R_app, List.append_assoc, encs, List.flatMap_cons, List.flatMap_nil, List.append_nil]
  · have hk3 : k = L.length := by omega
    rw [hk3, List.take_length] at hd
    exact h _ hd)
noncomputable def con_wPutList : Con E0 := ⟨k_wPutList, sg_wPutList, wPutList_s, rfl, bo_wPutList, wPutList_h⟩
end Go.Proofs.YtbpbdanggilnpaaDoor
end

section
namespace Go.Proofs.YtbpbdanggilnpaaDoor
open Go.RowKit
set_option linter.unusedVariables false
set_option linter.unusedSimpArgs false

theorem odt {p : Prop} {i : Decidable p} (h : @decide p i = true) : p := @of_decide_eq_true p i h
theorem odf {p : Prop} {i : Decidable p} (h : @decide p i = false) : ¬ p := @of_decide_eq_false p i h
/-- the loop of lists side by side -/
theorem nums_side {a b : List (List Dat)} (hl : a.length = b.length) : nums a = nums b ↔ ∀ i, i < a.length → rowI (a.getD i []) 0 = rowI (b.getD i []) 0 := by
  constructor
  · intro h i hi
    have := nums_get hi
    rw [h, nums_get (by omega)] at this
    exact (Option.some.inj this).symm
  · intro h
    refine List.ext_getElem? fun k => ?_
    by_cases hk : k < a.length
    · rw [nums_get hk, nums_get (by omega), h k hk]
    · rw [List.getElem?_eq_none (by rw [nums_len]; omega), List.getElem?_eq_none (by rw [nums_len]; omega)]
theorem nums_ne {a b : List (List Dat)} (hl : a.length ≠ b.length) : nums a ≠ nums b := fun h => hl (by have := congrArg List.length h; rwa [nums_len, nums_len] at this)
def k_sEq : Nat := 25
def sg_sEq : Sig := ⟨[(false, [.list 3]), (false, [.list 3])], [(false, [.bool])], false, false, false, false, false, [], [], none⟩
def tr_sEq : Tree := (.ite (.cmp .ne (.len (.var 0)) (.len (.var 1)))
 (.ret [(.bool false)])
 (.loop [(.bool false), (.int .i64 0)] [.bool, (.int .i64)]
  (.ite (.cmp .lt (.var 3) (.len (.var 0)))
   (.ob (.cmp .ge (.var 3) (.int .i64 0))
   (.ob (.cmp .ge (.var 3) (.int .i64 0))
   (.ob (.cmp .lt (.var 3) (.len (.var 1)))
   (.ite (.cmp .ne (.elem (.var 0) (.var 3) 0 (.int .i64)) (.elem (.var 1) (.var 3) 0 (.int .i64)))
    (.ret [(.bool false)])
    (.again 0 [(.var 2), (.ar .add .i64 (.var 3) (.int .i64 1))])))))
   (.ret [(.bool true)]))))
theorem wk_sEq : walk E0.cx (sgsN []) 0 25 sg_sEq = tr_sEq := by kernel_rfl
theorem bo_sEq : ∃ x, bodyOf E0.P 25 = some x := bo_of (by kernel_rfl)
def sEq_s : Spec := fun ds Q => (argL ds 0).length ≤ 9223372036854775807 ∧ ∀ b : Bool, (b = true ↔ nums (argL ds 0) = nums (argL ds 1)) → Q [.bool b]
theorem sEq_h : Holds E0 k_sEq sg_sEq sEq_s := con_fn wf0 mix0 g0 [] rfl wk_sEq rfl (by
  intro Φ hΦ ds Q hs ⟨hlen, h⟩
  have hl : ds.length = 2 := hs.length.symm
  clear hΦ
  have fin : ∀ b : Bool, (b = true ↔ nums (argL ds 0) = nums (argL ds 1)) → Q [.bool b] := h
  simp only [tr_sEq, wp, den_int, den_bool, den_nili, den_ar, den_cmp, den_not, den_len, den_elem, den_isnil, den_errI, den_ifc, den_rep, den_push, den_app, den_emp, den_upd, row0_econs, row0_enil, den_and, den_beq, den_nil, toInt_int, toBool_bool, xs_rows, xs_list, dflt_int, dflt_bool, of_eq, of_ne, of_lt, of_le, of_gt, of_ge, of_add, of_sub, of_rem, List.map_cons, List.map_nil, Dat.bool.injEq, decide_eq_true_eq, decide_eq_false_iff_not, Bool.not_eq_true', Bool.not_eq_false', beq_iff_eq, bne_iff_ne, beq_eq_false_iff_ne, bne_eq_false_iff_eq, ne_eq, List.append_assoc, List.cons_append, List.nil_append, allS, @den_var0 E0.Δ ds, den_varA, den_varB, hl, Nat.reduceLT, Nat.reduceLeDiff, Nat.reduceSub, List.getD_cons_zero, List.getD_cons_succ, argL_fold ds, argI_fold ds, List.append_assoc, List.cons_append, List.nil_append, toInt_int, toBool_bool, xs_rows, xs_list, Int.toNat_natCast, Dat.bool.injEq, dflt_int, toInt_getD]
  refine ⟨fun hne => fin false ⟨fun hx => Bool.noConfusion hx, fun he => absurd he (nums_ne (by omega))⟩, fun heq => ?_⟩
  have heq : (argL ds 0).length = (argL ds 1).length := by omega
  have hside := nums_side heq
  refine ⟨fun xs m => ∃ (b : Bool) (i : Nat), i ≤ (argL ds 0).length ∧ m = (argL ds 0).length - i ∧ xs = [.bool b, .int .i64 i] ∧ ∀ k, k < i → rowI ((argL ds 0).getD k []) 0 = rowI ((argL ds 1).getD k []) 0, ⟨_, _, 0, by omega, rfl, rfl, fun k hk => absurd hk (by omega)⟩, ?_⟩
  rintro b n m ⟨_, i, hi, hm, e, hall⟩
  cases e
  refine ⟨fun hlt => ⟨by omega, by omega, by omega, fun hne => fin false ⟨fun hx => Bool.noConfusion hx, fun he => ?_⟩, fun he => ?_⟩, fun hge => fin true ⟨fun _ => hside.2 fun k hk => hall k (by omega), fun _ => rfl⟩⟩
  · rw [Int.toNat_natCast] at hne
    exact absurd (hside.1 he i (by omega)) hne
  · rw [Int.toNat_natCast] at he
    refine ⟨_, (by omega : (argL ds 0).length - (i + 1) < _), b, i + 1, by omega, rfl, by rw [wrap64 (by omega) (by omega)]; rfl, fun k hk => ?_⟩
    rcases Nat.lt_succ_iff_lt_or_eq.1 hk with hk | rfl
    · exact hall k hk
    · exact he)
noncomputable def con_sEq : Con E0 := ⟨k_sEq, sg_sEq, sEq_s, rfl, bo_sEq, sEq_h⟩
def DecS (a b : List Dat) : Prop := argI a 0 = argI b 0 ∧ argI a 1 = argI b 1 ∧ argI a 2 = argI b 2 ∧ argI a 3 = argI b 3 ∧ nums (argL a 4) = nums (argL b 4)
def k_dSame : Nat := 40
def sg_dSame : Sig := ⟨[(true, List.replicate 4 (.int .i64) ++ [.list 3]), (true, List.replicate 4 (.int .i64) ++ [.list 3])], [(false, [.bool])], false, false, true, false, false, [], [], none⟩
def tr_dSame : Tree := (.ite (.cmp .eq (.var 0) (.var 5))
 (.ite (.cmp .eq (.var 1) (.var 6))
  (.ite (.cmp .eq (.var 2) (.var 7))
   (.ite (.cmp .eq (.var 3) (.var 8))
    (.call k_sEq [(.var 4), (.var 9)] [.bool]
    (.ret [(.var 10)]))
    (.ret [(.bool false)]))
   (.ret [(.bool false)]))
  (.ret [(.bool false)]))
 (.ret [(.bool false)]))
theorem wk_dSame : walk E0.cx (sgsN [(25, sg_sEq)]) 0 40 sg_dSame = tr_dSame := by kernel_rfl
theorem bo_dSame : ∃ x, bodyOf E0.P 40 = some x := bo_of (by kernel_rfl)
theorem sp_dSame_sEq : specC [con_sEq] k_sEq = sEq_s := rfl
def dSame_s : Spec := fun ds Q => (argL ds 4).length ≤ 9223372036854775807 ∧ ∀ b : Bool, (b = true ↔ DecS ds (ds.drop 5)) → Q [.bool b]
theorem dSame_h : Holds E0 k_dSame sg_dSame dSame_s := con_fn wf0 mix0 g0 [con_sEq] rfl wk_dSame rfl (by
  intro Φ hΦ ds Q hs ⟨hlen, h⟩
  have hl : ds.length = 10 := hs.length.symm
  have s1 : Φ k_sEq = sEq_s := by rw [hΦ]; rfl
  clear hΦ
  have hd : ∀ i, argI (ds.drop 5) i = argI ds (5 + i) ∧ argL (ds.drop 5) i = argL ds (5 + i) := fun i => ⟨by unfold argI; rw [List.getD_eq_getElem?_getD, List.getElem?_drop, List.getD_eq_getElem?_getD], by unfold argL; rw [List.getD_eq_getElem?_getD, List.getElem?_drop, List.getD_eq_getElem?_getD]⟩
  have hD : DecS ds (ds.drop 5) ↔ argI ds 0 = argI ds 5 ∧ argI ds 1 = argI ds 6 ∧ argI ds 2 = argI ds 7 ∧ argI ds 3 = argI ds 8 ∧ nums (argL ds 4) = nums (argL ds 9) := by
    unfold DecS
    rw [(hd 0).1, (hd 1).1, (hd 2).1, (hd 3).1, (hd 4).2]
  rw [hD] at h
  simp only [tr_dSame, wp, den_int, den_bool, den_nili, den_ar, den_cmp, den_not, den_len, den_elem, den_isnil, den_errI, den_ifc, den_rep, den_push, den_app, den_emp, den_upd, row0_econs, row0_enil, den_and, den_beq, den_nil, toInt_int, toBool_bool, xs_rows, xs_list, dflt_int, dflt_bool, of_eq, of_ne, of_lt, of_le, of_gt, of_ge, of_add, of_sub, of_rem, List.map_cons, List.map_nil, Dat.bool.injEq, decide_eq_true_eq, decide_eq_false_iff_not, Bool.not_eq_true', Bool.not_eq_false', beq_iff_eq, bne_iff_ne, beq_eq_false_iff_ne, bne_eq_false_iff_eq, ne_eq, List.append_assoc, List.cons_append, List.nil_append, allS, s1, sEq_s, @den_var0 E0.Δ ds, den_varA, den_varB, hl, Nat.reduceLT, Nat.reduceLeDiff, Nat.reduceSub, List.getD_cons_zero, List.getD_cons_succ, argL_fold ds, argI_fold ds, List.append_assoc, List.cons_append, List.nil_append, toInt_int, toBool_bool, xs_rows, xs_list, Int.toNat_natCast, Dat.bool.injEq, argL_c0, argI_c0]
  have no : ¬ (argI ds 0 = argI ds 5 ∧ argI ds 1 = argI ds 6 ∧ argI ds 2 = argI ds 7 ∧ argI ds 3 = argI ds 8 ∧ nums (argL ds 4) = nums (argL ds 9)) → Q [.bool false] := fun hn => h false ⟨fun hx => Bool.noConfusion hx, fun hx => absurd hx hn⟩
  refine ⟨fun h0 => ⟨fun h1 => ⟨fun h2 => ⟨fun h3 => ⟨hlen, fun b hb => h b ?_⟩, fun h3 => no fun hx => h3 hx.2.2.2.1⟩, fun h2 => no fun hx => h2 hx.2.2.1⟩, fun h1 => no fun hx => h1 hx.2.1⟩, fun h0 => no fun hx => h0 hx.1⟩
  have hb : b = true ↔ nums (argL ds 4) = nums (argL ds 9) := hb
  rw [hb]
  exact ⟨fun hx => ⟨h0, h1, h2, h3, hx⟩, fun hx => hx.2.2.2.2⟩)
noncomputable def con_dSame : Con E0 := ⟨k_dSame, sg_dSame, dSame_s, rfl, bo_dSame, dSame_h⟩
def k_rSame26 : Nat := 37
def sg_rSame26 : Sig := ⟨[(true, List.replicate 4 (.int .i64) ++ [.list 3]), (true, List.replicate 4 (.int .i64) ++ [.list 3])], [(false, [.bool])], false, false, false, false, false, [], [], none⟩
def tr_rSame26 : Tree := (.ite (.cmp .ne (.var 0) (.var 5))
 (.ret [(.bool false)])
 (.ite (.cmp .ne (.var 1) (.var 6))
  (.ret [(.bool false)])
  (.ite (.cmp .ne (.var 2) (.var 7))
   (.ret [(.bool false)])
   (.ite (.cmp .ne (.var 3) (.var 8))
    (.ret [(.bool false)])
    (.ite (.cmp .ne (.len (.var 4)) (.len (.var 9)))
     (.ret [(.bool false)])
     (.loop [(.bool false), (.int .i64 0)] [.bool, (.int .i64)]
      (.ite (.cmp .lt (.var 11) (.len (.var 4)))
       (.ob (.cmp .ge (.var 11) (.int .i64 0))
       (.ob (.cmp .ge (.var 11) (.int .i64 0))
       (.ob (.cmp .lt (.var 11) (.len (.var 9)))
       (.ite (.cmp .ne (.elem (.var 4) (.var 11) 0 (.int .i64)) (.elem (.var 9) (.var 11) 0 (.int .i64)))
        (.ret [(.bool false)])
        (.again 0 [(.var 10), (.ar .add .i64 (.var 11) (.int .i64 1))])))))
       (.ret [(.bool true)]))))))))
theorem wk_rSame26 : walk E0.cx (sgsN []) 0 37 sg_rSame26 = tr_rSame26 := by kernel_rfl
theorem bo_rSame26 : ∃ x, bodyOf E0.P 37 = some x := bo_of (by kernel_rfl)
def rSame26_s : Spec := fun ds Q => (argL ds 4).length ≤ 9223372036854775807 ∧ ∀ b : Bool, (b = true ↔ DecS ds (ds.drop 5)) → Q [.bool b]
theorem rSame26_h : Holds E0 k_rSame26 sg_rSame26 rSame26_s := con_fn wf0 mix0 g0 [] rfl wk_rSame26 rfl (by
  intro Φ hΦ ds Q hs ⟨hlen, h⟩
  have hl : ds.length = 10 := hs.length.symm
  clear hΦ
  have hd : ∀ i, argI (ds.drop 5) i = argI ds (5 + i) ∧ argL (ds.drop 5) i = argL ds (5 + i) := fun i => ⟨by unfold argI; rw [List.getD_eq_getElem?_getD, List.getElem?_drop, List.getD_eq_getElem?_getD], by unfold argL; rw [List.getD_eq_getElem?_getD, List.getElem?_drop, List.getD_eq_getElem?_getD]⟩
  have hD : DecS ds (ds.drop 5) ↔ argI ds 0 = argI ds 5 ∧ argI ds 1 = argI ds 6 ∧ argI ds 2 = argI ds 7 ∧ argI ds 3 = argI ds 8 ∧ nums (argL ds 4) = nums (argL ds 9) := by
    unfold DecS
    rw [(hd 0).1, (hd 1).1, (hd 2).1, (hd 3).1, (hd 4).2]
  rw [hD] at h
  simp only [tr_rSame26, wp, den_int, den_bool, den_nili, den_ar, den_cmp, den_not, den_len, den_elem, den_isnil, den_errI, den_ifc, den_rep, den_push, den_app, den_emp, den_upd, row0_econs, row0_enil, den_and, den_beq, den_nil, toInt_int, toBool_bool, xs_rows, xs_list, dflt_int, dflt_bool, of_eq, of_ne, of_lt, of_le, of_gt, of_ge, of_add, of_sub, of_rem, List.map_cons, List.map_nil, Dat.bool.injEq, decide_eq_true_eq, decide_eq_false_iff_not, Bool.not_eq_true', Bool.not_eq_false', beq_iff_eq, bne_iff_ne, beq_eq_false_iff_ne, bne_eq_false_iff_eq, ne_eq, List.append_assoc, List.cons_append, List.nil_append, allS, @den_var0 E0.Δ ds, den_varA, den_varB, hl, Nat.reduceLT, Nat.reduceLeDiff, Nat.reduceSub, List.getD_cons_zero, List.getD_cons_succ, argL_fold ds, argI_fold ds, List.append_assoc, List.cons_append, List.nil_append, toInt_int, toBool_bool, xs_rows, xs_list, Int.toNat_natCast, Dat.bool.injEq, dflt_int, toInt_getD]
  have no : ¬ (argI ds 0 = argI ds 5 ∧ argI ds 1 = argI ds 6 ∧ argI ds 2 = argI ds 7 ∧ argI ds 3 = argI ds 8 ∧ nums (argL ds 4) = nums (argL ds 9)) → Q [.bool false] := fun hn => h false ⟨fun hx => Bool.noConfusion hx, fun hx => absurd hx hn⟩
  refine ⟨fun h0 => no fun hx => h0 hx.1, fun h0 => ⟨fun h1 => no fun hx => h1 hx.2.1, fun h1 => ⟨fun h2 => no fun hx => h2 hx.2.2.1, fun h2 => ⟨fun h3 => no fun hx => h3 hx.2.2.2.1, fun h3 => ⟨fun h4 => no fun hx => absurd hx.2.2.2.2 (nums_ne (by omega)), fun h4 => ?_⟩⟩⟩⟩⟩
  have heq : (argL ds 4).length = (argL ds 9).length := by omega
  have hside := nums_side heq
  refine ⟨fun xs m => ∃ (b : Bool) (i : Nat), i ≤ (argL ds 4).length ∧ m = (argL ds 4).length - i ∧ xs = [.bool b, .int .i64 i] ∧ ∀ k, k < i → rowI ((argL ds 4).getD k []) 0 = rowI ((argL ds 9).getD k []) 0, ⟨_, _, 0, by omega, rfl, rfl, fun k hk => absurd hk (by omega)⟩, ?_⟩
  rintro b n m ⟨_, i, hi, hm, e, hall⟩
  cases e
  refine ⟨fun hlt => ⟨by omega, by omega, by omega, fun hne => no fun hx => ?_, fun he => ?_⟩, fun hge => h true ⟨fun _ => ⟨h0, h1, h2, h3, hside.2 fun k hk => hall k (by omega)⟩, fun _ => rfl⟩⟩
  · rw [Int.toNat_natCast] at hne
    exact hne (hside.1 hx.2.2.2.2 i (by omega))
  · rw [Int.toNat_natCast] at he
    refine ⟨_, (by omega : (argL ds 4).length - (i + 1) < _), b, i + 1, by omega, rfl, by rw [wrap64 (by omega) (by omega)]; rfl, fun k hk => ?_⟩
    rcases Nat.lt_succ_iff_lt_or_eq.1 hk with hk | rfl
    · exact hall k hk
    · exact he)
noncomputable def con_rSame26 : Con E0 := ⟨k_rSame26, sg_rSame26, rSame26_s, rfl, bo_rSame26, rSame26_h⟩
end Go.Proofs.YtbpbdanggilnpaaDoor
end

section
namespace Go.Proofs.YtbpbdanggilnpaaDoor
open Go.RowKit
set_option linter.unusedVariables false
set_option linter.unusedSimpArgs false

def oDo (o : List Dat) : List (List Dat) := (o.getD 3 (.bool false)).xs
def dLst (d : List Dat) : List (List Dat) := (d.getD 4 (.bool false)).xs
theorem getD_xs (r : List Dat) (c : Nat) (t : Nat) : (r.getD c (dflt E0.Δ (.list t))).xs = (r.getD c (.bool false)).xs := by
  rw [List.getD_eq_getElem?_getD, List.getD_eq_getElem?_getD]
  cases r[c]? <;> rfl
def DecR (a b : List Dat) : Prop := rowI a 0 = rowI b 0 ∧ rowI a 1 = rowI b 1 ∧ rowI a 2 = rowI b 2 ∧ rowI a 3 = rowI b 3 ∧ nums (dLst a) = nums (dLst b)
def OpR (a b : List Dat) : Prop := rowI a 0 = rowI b 0 ∧ rowI a 1 = rowI b 1 ∧ rowI a 2 = rowI b 2 ∧ (oDo a).length = (oDo b).length ∧ ∀ k, k < (oDo a).length → DecR ((oDo a).getD k []) ((oDo b).getD k [])
def OpsR (A B : List (List Dat)) : Prop := A.length = B.length ∧ ∀ i, i < A.length → OpR (A.getD i []) (B.getD i [])
def SmO (A : List (List Dat)) : Prop := A.length ≤ 1000000 ∧ ∀ i, i < A.length → (oDo (A.getD i [])).length ≤ 1000000 ∧ ∀ k, k < (oDo (A.getD i [])).length → (dLst ((oDo (A.getD i [])).getD k [])).length ≤ 1000000
noncomputable def decArgs (a b : List Dat) : List Dat := [a.getD 0 (.int .i64 0), a.getD 1 (.int .i64 0), a.getD 2 (.int .i64 0), a.getD 3 (.int .i64 0), a.getD 4 (dflt E0.Δ (.list 3)), b.getD 0 (.int .i64 0), b.getD 1 (.int .i64 0), b.getD 2 (.int .i64 0), b.getD 3 (.int .i64 0), b.getD 4 (dflt E0.Δ (.list 3))]
theorem decL (a b : List Dat) : argL (decArgs a b) 4 = dLst a := getD_xs _ _ _
theorem decS_R (a b : List Dat) : DecS (decArgs a b) ((decArgs a b).drop 5) ↔ DecR a b := by
  show (_ ∧ _ ∧ _ ∧ _ ∧ nums (a.getD 4 (dflt E0.Δ (.list 3))).xs = nums (b.getD 4 (dflt E0.Δ (.list 3))).xs) ↔ _
  rw [getD_xs, getD_xs]
  exact Iff.rfl
def k_sSame : Nat := 13
def sg_sSame : Sig := ⟨[(true, [.list 3, .list 3, .list 3] ++ [.list 68]), (true, [.list 3, .list 3, .list 3] ++ [.list 68])], [(false, [.bool])], false, false, true, false, false, [], [], none⟩
def tr_sSame_1 : Tree := (.ite (.cmp .lt (.var 14) (.len (.elem (.var 3) (.var 12) 3 (.list 64)))) (.ob (.cmp .ge (.var 14) (.int .i64 0)) (.ob (.cmp .ge (.var 14) (.int .i64 0)) (.ob (.cmp .lt (.var 14) (.len (.elem (.var 7) (.var 12) 3 (.list 64)))) (.call k_dSame [(.elem (.elem (.var 3) (.var 12) 3 (.list 64)) (.var 14) 0 (.int .i64)), (.elem (.elem (.var 3) (.var 12) 3 (.list 64)) (.var 14) 1 (.int .i64)), (.elem (.elem (.var 3) (.var 12) 3 (.list 64)) (.var 14) 2 (.int .i64)), (.elem (.elem (.var 3) (.var 12) 3 (.list 64)) (.var 14) 3 (.int .i64)), (.elem (.elem (.var 3) (.var 12) 3 (.list 64)) (.var 14) 4 (.list 3)), (.elem (.elem (.var 7) (.var 12) 3 (.list 64)) (.var 14) 0 (.int .i64)), (.elem (.elem (.var 7) (.var 12) 3 (.list 64)) (.var 14) 1 (.int .i64)), (.elem (.elem (.var 7) (.var 12) 3 (.list 64)) (.var 14) 2 (.int .i64)), (.elem (.elem (.var 7) (.var 12) 3 (.list 64)) (.var 14) 3 (.int .i64)), (.elem (.elem (.var 7) (.var 12) 3 (.list 64)) (.var 14) 4 (.list 3))] [.bool] (.ite (.not (.var 15)) (.ret [(.bool false)]) (.again 1 [(.var 13), (.ar .add .i64 (.var 14) (.int .i64 1))])))))) (.again 0 [(.var 11), (.ar .add .i64 (.var 12) (.int .i64 1))]))
def tr_sSame_2 : Tree := (.ite (.cmp .lt (.var 12) (.len (.var 3))) (.ob (.cmp .ge (.var 12) (.int .i64 0)) (.ob (.cmp .ge (.var 12) (.int .i64 0)) (.ob (.cmp .lt (.var 12) (.len (.var 7))) (.ite (.cmp .eq (.elem (.var 3) (.var 12) 0 (.int .i64)) (.elem (.var 7) (.var 12) 0 (.int .i64))) (.ite (.cmp .eq (.elem (.var 3) (.var 12) 1 (.int .i64)) (.elem (.var 7) (.var 12) 1 (.int .i64))) (.ite (.cmp .eq (.elem (.var 3) (.var 12) 2 (.int .i64)) (.elem (.var 7) (.var 12) 2 (.int .i64))) (.ite (.cmp .ne (.len (.elem (.var 3) (.var 12) 3 (.list 64))) (.len (.elem (.var 7) (.var 12) 3 (.list 64)))) (.ret [(.bool false)]) (.loop [(.bool false), (.int .i64 0)] [.bool, (.int .i64)] tr_sSame_1)) (.ret [(.bool false)])) (.ret [(.bool false)])) (.ret [(.bool false)]))))) (.ret [(.bool true)]))
def tr_sSame : Tree := (.call k_sEq [(.var 0), (.var 4)] [.bool] (.ite (.var 8) (.call k_sEq [(.var 1), (.var 5)] [.bool] (.ite (.var 9) (.call k_sEq [(.var 2), (.var 6)] [.bool] (.ite (.var 10) (.ite (.cmp .ne (.len (.var 3)) (.len (.var 7))) (.ret [(.bool false)]) (.loop [(.bool false), (.int .i64 0)] [.bool, (.int .i64)] tr_sSame_2)) (.ret [(.bool false)]))) (.ret [(.bool false)]))) (.ret [(.bool false)])))
theorem wk_sSame : walk E0.cx (sgsN [(25, sg_sEq), (40, sg_dSame)]) 0 13 sg_sSame = tr_sSame := by kernel_rfl
theorem bo_sSame : ∃ x, bodyOf E0.P 13 = some x := bo_of (by kernel_rfl)
theorem sp_sSame_sEq : specC [con_sEq, con_dSame] k_sEq = sEq_s := rfl
theorem sp_sSame_dSame : specC [con_sEq, con_dSame] k_dSame = dSame_s := rfl
def sSame_s : Spec := fun ds Q => (∀ i, i < 3 → (argL ds i).length ≤ 9223372036854775807) ∧ SmO (argL ds 3) ∧ ∀ b : Bool, (b = true ↔ nums (argL ds 0) = nums (argL ds 4) ∧ nums (argL ds 1) = nums (argL ds 5) ∧ nums (argL ds 2) = nums (argL ds 6) ∧ OpsR (argL ds 3) (argL ds 7)) → Q [.bool b]
theorem sSame_h : Holds E0 k_sSame sg_sSame sSame_s := con_fn wf0 mix0 g0 [con_sEq, con_dSame] rfl wk_sSame rfl (by
  intro Φ hΦ ds Q hs ⟨hsm, hso, h⟩
  have hl : ds.length = 8 := hs.length.symm
  have s1 : Φ k_sEq = sEq_s := by rw [hΦ]; rfl
  have s2 : Φ k_dSame = dSame_s := by rw [hΦ]; rfl
  clear hΦ
  simp only [tr_sSame, tr_sSame_1, tr_sSame_2, wp, den_int, den_bool, den_nili, den_ar, den_cmp, den_not, den_len, den_elem, den_isnil, den_errI, den_ifc, den_rep, den_push, den_app, den_emp, den_upd, row0_econs, row0_enil, den_and, den_beq, den_nil, toInt_int, toBool_bool, xs_rows, xs_list, dflt_int, dflt_bool, of_eq, of_ne, of_lt, of_le, of_gt, of_ge, of_add, of_sub, of_rem, List.map_cons, List.map_nil, Dat.bool.injEq, decide_eq_true_eq, decide_eq_false_iff_not, Bool.not_eq_true', Bool.not_eq_false', beq_iff_eq, bne_iff_ne, beq_eq_false_iff_ne, bne_eq_false_iff_eq, ne_eq, List.append_assoc, List.cons_append, List.nil_append, allS, s1, s2, sEq_s, dSame_s, @den_var0 E0.Δ ds, den_varA, den_varB, hl, Nat.reduceLT, Nat.reduceLeDiff, Nat.reduceSub, List.getD_cons_zero, List.getD_cons_succ, argL_fold ds, argI_fold ds, List.append_assoc, List.cons_append, List.nil_append, toInt_int, toBool_bool, xs_rows, xs_list, Int.toNat_natCast, Dat.bool.injEq, argL_c0, dflt_int, toInt_getD, getD_xs]
  have no : ¬ (nums (argL ds 0) = nums (argL ds 4) ∧ nums (argL ds 1) = nums (argL ds 5) ∧ nums (argL ds 2) = nums (argL ds 6) ∧ OpsR (argL ds 3) (argL ds 7)) → Q [.bool false] := fun hn => h false ⟨fun hx => Bool.noConfusion hx, fun hx => absurd hx hn⟩
  have nf : ∀ {b : Bool} {P : Prop}, (b = true ↔ P) → b = false → ¬ P := fun hb h0 hx => by rw [hb.2 hx] at h0; cases h0
  refine ⟨hsm 0 (by omega), fun b hb => ⟨fun h0 => ⟨hsm 1 (by omega), fun b1 hb1 => ⟨fun h1 => ⟨hsm 2 (by omega), fun b2 hb2 => ⟨fun h2 => ?_, fun h2 => no fun hx => nf hb2 h2 hx.2.2.1⟩⟩, fun h1 => no fun hx => nf hb1 h1 hx.2.1⟩⟩, fun h0 => no fun hx => nf hb h0 hx.1⟩⟩
  have e0 := hb.1 h0
  have e1 := hb1.1 h1
  have e2 := hb2.1 h2
  clear hb hb1 hb2 h0 h1 h2
  have noO : ¬ OpsR (argL ds 3) (argL ds 7) → Q [.bool false] := fun hn => no fun hx => hn hx.2.2.2
  have yes : OpsR (argL ds 3) (argL ds 7) → Q [.bool true] := fun hx => h true ⟨fun _ => ⟨e0, e1, e2, hx⟩, fun _ => rfl⟩
  clear h no
  generalize argL ds 3 = A at *
  generalize argL ds 7 = B at *
  obtain ⟨hA, hA2⟩ := hso
  refine ⟨fun hne => noO fun hx => absurd hx.1 (by omega), fun heq => ?_⟩
  have heq : A.length = B.length := by omega
  refine ⟨fun xs m => ∃ (b : Bool) (i : Nat), i ≤ A.length ∧ m = A.length - i ∧ xs = [.bool b, .int .i64 i] ∧ ∀ k, k < i → OpR (A.getD k []) (B.getD k []), ⟨_, _, 0, by omega, rfl, rfl, fun k hk => absurd hk (by omega)⟩, ?_⟩
  rintro b n m ⟨_, i, hi, hm, e, hall⟩
  cases e
  refine ⟨fun hlt => ⟨by omega, by omega, by omega, ?_⟩, fun hge => yes ⟨heq, fun k hk => hall k (by omega)⟩⟩
  have hlt : i < A.length := by omega
  simp only [Int.toNat_natCast]
  have noI : ¬ OpR (A.getD i []) (B.getD i []) → Q [.bool false] := fun hn => noO fun hx => hn (hx.2 i hlt)
  obtain ⟨hd1, hd2⟩ := hA2 i hlt
  have next : OpR (A.getD i []) (B.getD i []) → ∀ k, k < i + 1 → OpR (A.getD k []) (B.getD k []) := fun hO k hk => by
    rcases Nat.lt_succ_iff_lt_or_eq.1 hk with hk | rfl
    · exact hall k hk
    · exact hO
  generalize A.getD i [] = ra at *
  generalize B.getD i [] = rb at *
  refine ⟨fun h0 => ⟨fun h1 => ⟨fun h2 => ⟨fun h3 => noI fun hx => ?_, fun h3 => ?_⟩, fun h2 => noI fun hx => h2 hx.2.2.1⟩, fun h1 => noI fun hx => h1 hx.2.1⟩, fun h0 => noI fun hx => h0 hx.1⟩
  · have := hx.2.2.2.1
    unfold oDo at this
    omega
  change (oDo ra).length ≤ 1000000 at hd1
  refine ⟨fun xs m => ∃ (b : Bool) (t : Nat), t ≤ (oDo ra).length ∧ m = (oDo ra).length - t ∧ xs = [.bool b, .int .i64 t] ∧ ∀ k, k < t → DecR ((oDo ra).getD k []) ((oDo rb).getD k []), ⟨_, _, 0, by omega, rfl, rfl, fun k hk => absurd hk (by omega)⟩, ?_⟩
  rintro b3 n3 m3 ⟨_, t, ht, hm3, e3, hall3⟩
  cases e3
  have h3 : (oDo ra).length = (oDo rb).length := by unfold oDo; omega
  refine ⟨fun hlt3 => ?_, fun hge3 => ?_⟩
  · have ht2 : t < (oDo ra).length := by unfold oDo; omega
    simp only [Int.toNat_natCast]
    have hdl := hd2 t ht2
    refine ⟨by omega, by omega, by unfold oDo at *; omega, ?_, fun b4 hb4 => ?_⟩
    · exact Nat.le_trans (Nat.le_of_eq (congrArg List.length (decL ((oDo ra).getD t []) ((oDo rb).getD t [])))) (Nat.le_trans hdl (by omega))
    have hb4 : b4 = true ↔ DecR ((oDo ra).getD t []) ((oDo rb).getD t []) := hb4.trans (decS_R _ _)
    refine ⟨fun hf => noI fun hx => ?_, fun hT => ⟨_, (by omega : (oDo ra).length - (t + 1) < _), b3, t + 1, by omega, rfl, by rw [wrap64 (by omega) (by omega)]; rfl, fun k hk => ?_⟩⟩
    · rw [hb4.2 (hx.2.2.2.2 t ht2)] at hf; cases hf
    · rcases Nat.lt_succ_iff_lt_or_eq.1 hk with hk | rfl
      · exact hall3 k hk
      · exact hb4.1 hT
  · have ht3 : t = (oDo ra).length := by unfold oDo at *; omega
    exact ⟨_, (by omega : A.length - (i + 1) < _), _, i + 1, by omega, rfl, by rw [wrap64 (by omega) (by omega)]; rfl, next ⟨h0, h1, h2, h3, fun k hk => hall3 k (by omega)⟩⟩)
noncomputable def con_sSame : Con E0 := ⟨k_sSame, sg_sSame, sSame_s, rfl, bo_sSame, sSame_h⟩
def k_rSameOps : Nat := 22
def sg_rSameOps : Sig := ⟨[(false, [.list 62]), (false, [.list 62])], [(false, [.bool])], false, false, true, false, false, [], [], none⟩
def tr_rSameOps : Tree := (.ite (.cmp .ne (.len (.var 0)) (.len (.var 1)))
 (.ret [(.bool false)])
 (.loop [(.bool false), (.int .i64 0)] [.bool, (.int .i64)]
  (.ite (.cmp .lt (.var 3) (.len (.var 0)))
   (.ob (.cmp .ge (.var 3) (.int .i64 0))
   (.ob (.cmp .ge (.var 3) (.int .i64 0))
   (.ob (.cmp .lt (.var 3) (.len (.var 1)))
   (.ite (.cmp .ne (.elem (.var 0) (.var 3) 0 (.int .i64)) (.elem (.var 1) (.var 3) 0 (.int .i64)))
    (.ret [(.bool false)])
    (.ob (.cmp .ge (.var 3) (.int .i64 0))
    (.ob (.cmp .ge (.var 3) (.int .i64 0))
    (.ob (.cmp .lt (.var 3) (.len (.var 1)))
    (.ite (.cmp .ne (.elem (.var 0) (.var 3) 1 (.int .i64)) (.elem (.var 1) (.var 3) 1 (.int .i64)))
     (.ret [(.bool false)])
     (.ob (.cmp .ge (.var 3) (.int .i64 0))
     (.ob (.cmp .ge (.var 3) (.int .i64 0))
     (.ob (.cmp .lt (.var 3) (.len (.var 1)))
     (.ite (.cmp .ne (.elem (.var 0) (.var 3) 2 (.int .i64)) (.elem (.var 1) (.var 3) 2 (.int .i64)))
      (.ret [(.bool false)])
      (.ob (.cmp .ge (.var 3) (.int .i64 0))
      (.ob (.cmp .ge (.var 3) (.int .i64 0))
      (.ob (.cmp .lt (.var 3) (.len (.var 1)))
      (.ite (.cmp .ne (.len (.elem (.var 0) (.var 3) 3 (.list 64))) (.len (.elem (.var 1) (.var 3) 3 (.list 64))))
       (.ret [(.bool false)])
       (.ob (.cmp .ge (.var 3) (.int .i64 0))
       (.loop [(.var 2), (.int .i64 0)] [.bool, (.int .i64)]
        (.ite (.cmp .lt (.var 5) (.len (.elem (.var 0) (.var 3) 3 (.list 64))))
         (.ob (.cmp .ge (.var 3) (.int .i64 0))
         (.ob (.cmp .ge (.var 5) (.int .i64 0))
         (.ob (.cmp .ge (.var 3) (.int .i64 0))
         (.ob (.cmp .lt (.var 3) (.len (.var 1)))
         (.ob (.cmp .ge (.var 5) (.int .i64 0))
         (.ob (.cmp .lt (.var 5) (.len (.elem (.var 1) (.var 3) 3 (.list 64))))
         (.call k_rSame26 [(.elem (.elem (.var 0) (.var 3) 3 (.list 64)) (.var 5) 0 (.int .i64)), (.elem (.elem (.var 0) (.var 3) 3 (.list 64)) (.var 5) 1 (.int .i64)), (.elem (.elem (.var 0) (.var 3) 3 (.list 64)) (.var 5) 2 (.int .i64)), (.elem (.elem (.var 0) (.var 3) 3 (.list 64)) (.var 5) 3 (.int .i64)), (.elem (.elem (.var 0) (.var 3) 3 (.list 64)) (.var 5) 4 (.list 3)), (.elem (.elem (.var 1) (.var 3) 3 (.list 64)) (.var 5) 0 (.int .i64)), (.elem (.elem (.var 1) (.var 3) 3 (.list 64)) (.var 5) 1 (.int .i64)), (.elem (.elem (.var 1) (.var 3) 3 (.list 64)) (.var 5) 2 (.int .i64)), (.elem (.elem (.var 1) (.var 3) 3 (.list 64)) (.var 5) 3 (.int .i64)), (.elem (.elem (.var 1) (.var 3) 3 (.list 64)) (.var 5) 4 (.list 3))] [.bool]
         (.ite (.not (.var 6))
          (.ret [(.bool false)])
          (.again 1 [(.var 4), (.ar .add .i64 (.var 5) (.int .i64 1))])))))))))
         (.again 0 [(.var 4), (.ar .add .i64 (.var 3) (.int .i64 1))]))))))))))))))))))))
   (.ret [(.bool true)]))))
theorem wk_rSameOps : walk E0.cx (sgsN [(37, sg_rSame26)]) 0 22 sg_rSameOps = tr_rSameOps := by kernel_rfl
theorem bo_rSameOps : ∃ x, bodyOf E0.P 22 = some x := bo_of (by kernel_rfl)
theorem sp_rSameOps_rSame26 : specC [con_rSame26] k_rSame26 = rSame26_s := rfl
def rSameOps_s : Spec := fun ds Q => SmO (argL ds 0) ∧ ∀ b : Bool, (b = true ↔ OpsR (argL ds 0) (argL ds 1)) → Q [.bool b]
theorem rSameOps_h : Holds E0 k_rSameOps sg_rSameOps rSameOps_s := con_fn wf0 mix0 g0 [con_rSame26] rfl wk_rSameOps rfl (by
  intro Φ hΦ ds Q hs ⟨hso, h⟩
  have hl : ds.length = 2 := hs.length.symm
  have s2 : Φ k_rSame26 = rSame26_s := by rw [hΦ]; rfl
  clear hΦ
  simp only [tr_rSameOps, wp, den_int, den_bool, den_nili, den_ar, den_cmp, den_not, den_len, den_elem, den_isnil, den_errI, den_ifc, den_rep, den_push, den_app, den_emp, den_upd, row0_econs, row0_enil, den_and, den_beq, den_nil, toInt_int, toBool_bool, xs_rows, xs_list, dflt_int, dflt_bool, of_eq, of_ne, of_lt, of_le, of_gt, of_ge, of_add, of_sub, of_rem, List.map_cons, List.map_nil, Dat.bool.injEq, decide_eq_true_eq, decide_eq_false_iff_not, Bool.not_eq_true', Bool.not_eq_false', beq_iff_eq, bne_iff_ne, beq_eq_false_iff_ne, bne_eq_false_iff_eq, ne_eq, List.append_assoc, List.cons_append, List.nil_append, allS, s2, rSame26_s, @den_var0 E0.Δ ds, den_varA, den_varB, hl, Nat.reduceLT, Nat.reduceLeDiff, Nat.reduceSub, List.getD_cons_zero, List.getD_cons_succ, argL_fold ds, argI_fold ds, List.append_assoc, List.cons_append, List.nil_append, toInt_int, toBool_bool, xs_rows, xs_list, Int.toNat_natCast, Dat.bool.injEq, argL_c0, dflt_int, toInt_getD, getD_xs]
  have noO : ¬ OpsR (argL ds 0) (argL ds 1) → Q [.bool false] := fun hn => h false ⟨fun hx => Bool.noConfusion hx, fun hx => absurd hx hn⟩
  have yes : OpsR (argL ds 0) (argL ds 1) → Q [.bool true] := fun hx => h true ⟨fun _ => hx, fun _ => rfl⟩
  clear h
  generalize argL ds 0 = A at *
  generalize argL ds 1 = B at *
  obtain ⟨hA, hA2⟩ := hso
  refine ⟨fun hne => noO fun hx => absurd hx.1 (by omega), fun heq => ?_⟩
  have heq : A.length = B.length := by omega
  refine ⟨fun xs m => ∃ (b : Bool) (i : Nat), i ≤ A.length ∧ m = A.length - i ∧ xs = [.bool b, .int .i64 i] ∧ ∀ k, k < i → OpR (A.getD k []) (B.getD k []), ⟨_, _, 0, by omega, rfl, rfl, fun k hk => absurd hk (by omega)⟩, ?_⟩
  rintro b n m ⟨_, i, hi, hm, e, hall⟩
  cases e
  refine ⟨fun hlt => ⟨by omega, by omega, by omega, ?_⟩, fun hge => yes ⟨heq, fun k hk => hall k (by omega)⟩⟩
  have hlt : i < A.length := by omega
  simp only [Int.toNat_natCast]
  have noI : ¬ OpR (A.getD i []) (B.getD i []) → Q [.bool false] := fun hn => noO fun hx => hn (hx.2 i hlt)
  obtain ⟨hd1, hd2⟩ := hA2 i hlt
  have next : OpR (A.getD i []) (B.getD i []) → ∀ k, k < i + 1 → OpR (A.getD k []) (B.getD k []) := fun hO k hk => by
    rcases Nat.lt_succ_iff_lt_or_eq.1 hk with hk | rfl
    · exact hall k hk
    · exact hO
  generalize A.getD i [] = ra at *
  generalize B.getD i [] = rb at *
  have p0 : (0 : Int) ≤ (i : Int) := by omega
  have p1 : (i : Int) < (B.length : Int) := by omega
  refine ⟨fun h0 => noI fun hx => h0 hx.1, fun h0 => ⟨p0, p0, p1, fun h1 => noI fun hx => h1 hx.2.1, fun h1 => ⟨p0, p0, p1, fun h2 => noI fun hx => h2 hx.2.2.1, fun h2 => ⟨p0, p0, p1, fun h3 => noI fun hx => ?_, fun h3 => ⟨p0, ?_⟩⟩⟩⟩⟩
  · have := hx.2.2.2.1
    unfold oDo at this
    omega
  change (oDo ra).length ≤ 1000000 at hd1
  refine ⟨fun xs m => ∃ (b : Bool) (t : Nat), t ≤ (oDo ra).length ∧ m = (oDo ra).length - t ∧ xs = [.bool b, .int .i64 t] ∧ ∀ k, k < t → DecR ((oDo ra).getD k []) ((oDo rb).getD k []), ⟨_, _, 0, by omega, rfl, rfl, fun k hk => absurd hk (by omega)⟩, ?_⟩
  rintro b3 n3 m3 ⟨_, t, ht, hm3, e3, hall3⟩
  cases e3
  have h3 : (oDo ra).length = (oDo rb).length := by unfold oDo; omega
  refine ⟨fun hlt3 => ?_, fun hge3 => ?_⟩
  · have ht2 : t < (oDo ra).length := by unfold oDo; omega
    simp only [Int.toNat_natCast]
    have hdl := hd2 t ht2
    refine ⟨p0, by omega, p0, p1, by omega, by unfold oDo at *; omega, ?_, fun b4 hb4 => ?_⟩
    · exact Nat.le_trans (Nat.le_of_eq (congrArg List.length (decL ((oDo ra).getD t []) ((oDo rb).getD t [])))) (Nat.le_trans hdl (by omega))
    have hb4 : b4 = true ↔ DecR ((oDo ra).getD t []) ((oDo rb).getD t []) := hb4.trans (decS_R _ _)
    refine ⟨fun hf => noI fun hx => ?_, fun hT => ⟨_, (by omega : (oDo ra).length - (t + 1) < _), b3, t + 1, by omega, rfl, by rw [wrap64 (by omega) (by omega)]; rfl, fun k hk => ?_⟩⟩
    · rw [hb4.2 (hx.2.2.2.2 t ht2)] at hf; cases hf
    · rcases Nat.lt_succ_iff_lt_or_eq.1 hk with hk | rfl
      · exact hall3 k hk
      · exact hb4.1 hT
  · have ht3 : t = (oDo ra).length := by unfold oDo at *; omega
    exact ⟨_, (by omega : A.length - (i + 1) < _), _, i + 1, by omega, rfl, by rw [wrap64 (by omega) (by omega)]; rfl, next ⟨h0, h1, h2, h3, fun k hk => hall3 k (by omega)⟩⟩)
noncomputable def con_rSameOps : Con E0 := ⟨k_rSameOps, sg_rSameOps, rSameOps_s, rfl, bo_rSameOps, rSameOps_h⟩
def IntsB_s : Spec := fun ds Q => (argL ds 0).length ≤ 9223372036854775807 ∧ Q [.bool (decide (nums (argL ds 0) = nums (argL ds 1)))]
def k_IntsB : Nat := 21
def sg_IntsB : Sig := ⟨[(false, [.list 3]), (false, [.list 3])], [(false, [.bool])], false, false, false, false, false, [], [], none⟩
def tr_IntsB : Tree := (.ite (.cmp .ne (.len (.var 0)) (.len (.var 1)))
 (.ret [(.bool false)])
 (.loop [(.bool false), (.int .i64 0)] [.bool, (.int .i64)]
  (.ite (.cmp .lt (.var 3) (.len (.var 0)))
   (.ob (.cmp .ge (.var 3) (.int .i64 0))
   (.ob (.cmp .ge (.var 3) (.int .i64 0))
   (.ob (.cmp .lt (.var 3) (.len (.var 1)))
   (.ite (.cmp .ne (.elem (.var 0) (.var 3) 0 (.int .i64)) (.elem (.var 1) (.var 3) 0 (.int .i64)))
    (.ret [(.bool false)])
    (.again 0 [(.var 2), (.ar .add .i64 (.var 3) (.int .i64 1))])))))
   (.ret [(.bool true)]))))
theorem wk_IntsB : walk E0.cx (sgsN []) 0 21 sg_IntsB = tr_IntsB := by kernel_rfl
theorem bo_IntsB : ∃ x, bodyOf E0.P 21 = some x := bo_of (by kernel_rfl)
theorem IntsB_h : Holds E0 k_IntsB sg_IntsB IntsB_s := con_fn wf0 mix0 g0 [] rfl wk_IntsB rfl (by
  intro Φ hΦ ds Q hs ⟨hlen, h⟩
  have hl : ds.length = 2 := hs.length.symm
  clear hΦ
  simp only [tr_IntsB, wp, den_int, den_bool, den_nili, den_ar, den_cmp, den_not, den_len, den_elem, den_isnil, den_errI, den_ifc, den_rep, den_push, den_app, den_emp, den_upd, row0_econs, row0_enil, den_and, den_beq, den_nil, toInt_int, toBool_bool, xs_rows, xs_list, dflt_int, dflt_bool, of_eq, of_ne, of_lt, of_le, of_gt, of_ge, of_add, of_sub, of_rem, List.map_cons, List.map_nil, Dat.bool.injEq, decide_eq_true_eq, decide_eq_false_iff_not, Bool.not_eq_true', Bool.not_eq_false', beq_iff_eq, bne_iff_ne, beq_eq_false_iff_ne, bne_eq_false_iff_eq, ne_eq, List.append_assoc, List.cons_append, List.nil_append, allS, @den_var0 E0.Δ ds, den_varA, den_varB, hl, Nat.reduceLT, Nat.reduceLeDiff, Nat.reduceSub, List.getD_cons_zero, List.getD_cons_succ, argL_fold ds, argI_fold ds, List.append_assoc, List.cons_append, List.nil_append, toInt_int, toBool_bool, xs_rows, xs_list, Int.toNat_natCast, Dat.bool.injEq]
  have fin : ∀ b : Bool, (b = true ↔ nums (argL ds 0) = nums (argL ds 1)) → Q [.bool b] := fun b hb => by
    rw [show b = decide (nums (argL ds 0) = nums (argL ds 1)) by rw [Bool.eq_iff_iff, hb, decide_eq_true_eq]]
    exact h
  refine ⟨fun hne => fin _ ⟨fun hx => Bool.noConfusion hx, fun he => ?_⟩, fun hne => ?_⟩
  · have := congrArg List.length he
    rw [nums_len, nums_len] at this
    omega
  have hll : (argL ds 0).length = (argL ds 1).length := by omega
  refine ⟨fun xs m => ∃ (i : Nat) (b : Bool), i ≤ (argL ds 0).length ∧ m = (argL ds 0).length - i ∧ xs = [.bool b, .int .i64 i] ∧ ∀ k < i, (nums (argL ds 0))[k]? = (nums (argL ds 1))[k]?, ⟨_, 0, _, by omega, rfl, rfl, by omega⟩, ?_⟩
  rintro b i' m ⟨i, _, hi, hmi, e, hall⟩
  cases e
  refine ⟨fun hlt => ⟨by omega, by omega, by omega, fun h9 => fin _ ⟨fun hx => Bool.noConfusion hx, fun he => ?_⟩, fun h9 => ?_⟩, fun hge => fin _ ⟨fun _ => ?_, fun _ => rfl⟩⟩
  · have hi2 : i < (argL ds 0).length := by omega
    have h1 := nums_get hi2
    have h2 := nums_get (l := argL ds 1) (i := i) (by omega)
    rw [he, h2] at h1
    exact absurd (Option.some.inj h1).symm h9
  · have hi2 : i < (argL ds 0).length := by omega
    refine ⟨(argL ds 0).length - (i + 1), by omega, i + 1, b, by omega, by omega, ?_, fun k hk => ?_⟩
    · rw [wrap64 (by omega) (by omega)]; rfl
    · rcases Nat.lt_succ_iff_lt_or_eq.1 hk with hk | rfl
      · exact hall k hk
      · rw [nums_get hi2, nums_get (l := argL ds 1) (by omega)]
        exact congrArg some h9
  · refine List.ext_getElem? fun k => ?_
    by_cases hk : k < i
    · exact hall k hk
    · rw [List.getElem?_eq_none (by rw [nums_len]; omega), List.getElem?_eq_none (by rw [nums_len]; omega)])
noncomputable def con_IntsB : Con E0 := ⟨k_IntsB, sg_IntsB, IntsB_s, rfl, bo_IntsB, IntsB_h⟩
def k_rSame35 : Nat := 8
def sg_rSame35 : Sig := ⟨[(true, [.list 3, .list 3, .list 3] ++ [.list 62]), (true, [.list 3, .list 3, .list 3] ++ [.list 62])], [(false, [.bool])], false, false, true, false, false, [], [], none⟩
def tr_rSame35 : Tree := (.call k_IntsB [(.var 0), (.var 4)] [.bool]
(.ite (.var 8)
 (.call k_IntsB [(.var 1), (.var 5)] [.bool]
 (.ite (.var 9)
  (.call k_IntsB [(.var 2), (.var 6)] [.bool]
  (.ite (.var 10)
   (.call k_rSameOps [(.var 3), (.var 7)] [.bool]
   (.ret [(.var 11)]))
   (.ret [(.bool false)])))
  (.ret [(.bool false)])))
 (.ret [(.bool false)])))
theorem wk_rSame35 : walk E0.cx (sgsN [(21, sg_IntsB), (22, sg_rSameOps)]) 0 8 sg_rSame35 = tr_rSame35 := by kernel_rfl
theorem bo_rSame35 : ∃ x, bodyOf E0.P 8 = some x := bo_of (by kernel_rfl)
theorem sp_rSame35_IntsB : specC [con_IntsB, con_rSameOps] k_IntsB = IntsB_s := rfl
theorem sp_rSame35_rSameOps : specC [con_IntsB, con_rSameOps] k_rSameOps = rSameOps_s := rfl
def rSame35_s : Spec := sSame_s
theorem rSame35_h : Holds E0 k_rSame35 sg_rSame35 rSame35_s := con_fn wf0 mix0 g0 [con_IntsB, con_rSameOps] rfl wk_rSame35 rfl (by
  intro Φ hΦ ds Q hs ⟨hsm, hso, h⟩
  have hl : ds.length = 8 := hs.length.symm
  have s1 : Φ k_IntsB = IntsB_s := by rw [hΦ]; rfl
  have s2 : Φ k_rSameOps = rSameOps_s := by rw [hΦ]; rfl
  clear hΦ
  simp only [tr_rSame35, wp, den_int, den_bool, den_nili, den_ar, den_cmp, den_not, den_len, den_elem, den_isnil, den_errI, den_ifc, den_rep, den_push, den_app, den_emp, den_upd, row0_econs, row0_enil, den_and, den_beq, den_nil, toInt_int, toBool_bool, xs_rows, xs_list, dflt_int, dflt_bool, of_eq, of_ne, of_lt, of_le, of_gt, of_ge, of_add, of_sub, of_rem, List.map_cons, List.map_nil, Dat.bool.injEq, decide_eq_true_eq, decide_eq_false_iff_not, Bool.not_eq_true', Bool.not_eq_false', beq_iff_eq, bne_iff_ne, beq_eq_false_iff_ne, bne_eq_false_iff_eq, ne_eq, List.append_assoc, List.cons_append, List.nil_append, allS, s1, s2, IntsB_s, rSameOps_s, @den_var0 E0.Δ ds, den_varA, den_varB, hl, Nat.reduceLT, Nat.reduceLeDiff, Nat.reduceSub, List.getD_cons_zero, List.getD_cons_succ, argL_fold ds, argI_fold ds, List.append_assoc, List.cons_append, List.nil_append, toInt_int, toBool_bool, xs_rows, xs_list, Int.toNat_natCast, Dat.bool.injEq, argL_c0]
  have no : ¬ (nums (argL ds 0) = nums (argL ds 4) ∧ nums (argL ds 1) = nums (argL ds 5) ∧ nums (argL ds 2) = nums (argL ds 6) ∧ OpsR (argL ds 3) (argL ds 7)) → Q [.bool false] := fun hn => h false ⟨fun hx => Bool.noConfusion hx, fun hx => absurd hx hn⟩
  refine ⟨hsm 0 (by omega), fun h0 => ⟨hsm 1 (by omega), fun h1 => ⟨hsm 2 (by omega), fun h2 => ⟨hso, fun b hb => h b ?_⟩, fun h2 => no fun hx => odf h2 hx.2.2.1⟩, fun h1 => no fun hx => odf h1 hx.2.1⟩, fun h0 => no fun hx => odf h0 hx.1⟩
  have hb : b = true ↔ OpsR (argL ds 3) (argL ds 7) := hb
  rw [hb]
  exact ⟨fun hx => ⟨odt h0, odt h1, odt h2, hx⟩, fun hx => hx.2.2.2⟩)
noncomputable def con_rSame35 : Con E0 := ⟨k_rSame35, sg_rSame35, rSame35_s, rfl, bo_rSame35, rSame35_h⟩
def ShortS (ds : List Dat) : Prop := (argL ds 2).length ≤ 5000 ∧ (argL ds 3).length ≤ 1010 ∧ ∀ i, i < (argL ds 3).length → (oDo ((argL ds 3).getD i [])).length ≤ 20 ∧ ∀ k, k < (oDo ((argL ds 3).getD i [])).length → (dLst ((oDo ((argL ds 3).getD i [])).getD k [])).length ≤ 50
def k_Long35 : Nat := 11
def sg_Long35 : Sig := ⟨[(true, [.list 3, .list 3, .list 3] ++ [.list 68])], [(false, [.bool])], false, false, true, false, false, [], [], none⟩
def tr_Long35 : Tree := (.ite (.or (.cmp .gt (.ar .add .i64 (.len (.var 0)) (.len (.var 1))) (.int .i64 250)) (.or (.cmp .gt (.len (.var 2)) (.int .i64 5000)) (.cmp .gt (.len (.var 3)) (.int .i64 1010))))
 (.ret [(.bool true)])
 (.loop [(.bool false), (.int .i64 0)] [.bool, (.int .i64)]
  (.ite (.cmp .lt (.var 5) (.len (.var 3)))
   (.ob (.cmp .ge (.var 5) (.int .i64 0))
   (.ite (.cmp .gt (.len (.elem (.var 3) (.var 5) 3 (.list 64))) (.int .i64 20))
    (.ret [(.bool true)])
    (.loop [(.var 4), (.int .i64 0)] [.bool, (.int .i64)]
     (.ite (.cmp .lt (.var 7) (.len (.elem (.var 3) (.var 5) 3 (.list 64))))
      (.ob (.cmp .ge (.var 7) (.int .i64 0))
      (.ite (.cmp .gt (.len (.elem (.elem (.var 3) (.var 5) 3 (.list 64)) (.var 7) 4 (.list 3))) (.int .i64 50))
       (.ret [(.bool true)])
       (.again 1 [(.var 6), (.ar .add .i64 (.var 7) (.int .i64 1))])))
      (.again 0 [(.var 6), (.ar .add .i64 (.var 5) (.int .i64 1))])))))
   (.ret [(.bool false)]))))
theorem wk_Long35 : walk E0.cx (sgsN []) 0 11 sg_Long35 = tr_Long35 := by kernel_rfl
theorem bo_Long35 : ∃ x, bodyOf E0.P 11 = some x := bo_of (by kernel_rfl)
def Long35_s : Spec := fun ds Q => ∀ b : Bool, (b = false → ShortS ds) → Q [.bool b]
theorem Long35_h : Holds E0 k_Long35 sg_Long35 Long35_s := con_fn wf0 mix0 g0 [] rfl wk_Long35 rfl (by
  intro Φ hΦ ds Q hs h
  have h : ∀ b : Bool, (b = false → ShortS ds) → Q [.bool b] := h
  have hl : ds.length = 4 := hs.length.symm
  clear hΦ
  have yes : Q [.bool true] := h true fun hx => Bool.noConfusion hx
  simp only [tr_Long35, wp, den_int, den_bool, den_nili, den_ar, den_cmp, den_not, den_len, den_elem, den_isnil, den_errI, den_ifc, den_rep, den_push, den_app, den_emp, den_upd, row0_econs, row0_enil, den_and, den_beq, den_nil, toInt_int, toBool_bool, xs_rows, xs_list, dflt_int, dflt_bool, of_eq, of_ne, of_lt, of_le, of_gt, of_ge, of_add, of_sub, of_rem, List.map_cons, List.map_nil, Dat.bool.injEq, decide_eq_true_eq, decide_eq_false_iff_not, Bool.not_eq_true', Bool.not_eq_false', beq_iff_eq, bne_iff_ne, beq_eq_false_iff_ne, bne_eq_false_iff_eq, ne_eq, List.append_assoc, List.cons_append, List.nil_append, allS, @den_var0 E0.Δ ds, den_varA, den_varB, hl, Nat.reduceLT, Nat.reduceLeDiff, Nat.reduceSub, List.getD_cons_zero, List.getD_cons_succ, argL_fold ds, argI_fold ds, List.append_assoc, List.cons_append, List.nil_append, toInt_int, toBool_bool, xs_rows, xs_list, Int.toNat_natCast, Dat.bool.injEq, dflt_int, toInt_getD, getD_xs, den_or]
  refine ⟨fun _ => yes, fun hn => ?_⟩
  simp only [Bool.or_eq_false_iff, decide_eq_false_iff_not] at hn
  obtain ⟨_, h1, h2⟩ := hn
  refine ⟨fun xs m => ∃ (b : Bool) (i : Nat), i ≤ (argL ds 3).length ∧ m = (argL ds 3).length - i ∧ xs = [.bool b, .int .i64 i] ∧ ∀ j, j < i → (oDo ((argL ds 3).getD j [])).length ≤ 20 ∧ ∀ k, k < (oDo ((argL ds 3).getD j [])).length → (dLst ((oDo ((argL ds 3).getD j [])).getD k [])).length ≤ 50, ⟨_, _, 0, by omega, rfl, rfl, fun k hk => absurd hk (by omega)⟩, ?_⟩
  rintro b n m ⟨_, i, hi, hm, e, hall⟩
  cases e
  refine ⟨fun hlt => ⟨by omega, fun _ => yes, fun h20 => ?_⟩, fun hge => h false fun _ => ⟨by omega, by omega, fun j hj => hall j (by omega)⟩⟩
  simp only [Int.toNat_natCast] at h20 ⊢
  have next : ((oDo ((argL ds 3).getD i [])).length ≤ 20 ∧ ∀ k, k < (oDo ((argL ds 3).getD i [])).length → (dLst ((oDo ((argL ds 3).getD i [])).getD k [])).length ≤ 50) → ∀ j, j < i + 1 → (oDo ((argL ds 3).getD j [])).length ≤ 20 ∧ ∀ k, k < (oDo ((argL ds 3).getD j [])).length → (dLst ((oDo ((argL ds 3).getD j [])).getD k [])).length ≤ 50 := fun hO k hk => by
    rcases Nat.lt_succ_iff_lt_or_eq.1 hk with hk | rfl
    · exact hall k hk
    · exact hO
  generalize (argL ds 3).getD i [] = ra at *
  have h20 : (oDo ra).length ≤ 20 := by unfold oDo; omega
  refine ⟨fun xs m => ∃ (b : Bool) (t : Nat), t ≤ (oDo ra).length ∧ m = (oDo ra).length - t ∧ xs = [.bool b, .int .i64 t] ∧ ∀ k, k < t → (dLst ((oDo ra).getD k [])).length ≤ 50, ⟨_, _, 0, by omega, rfl, rfl, fun k hk => absurd hk (by omega)⟩, ?_⟩
  rintro b3 n3 m3 ⟨_, t, ht, hm3, e3, hall3⟩
  cases e3
  refine ⟨fun hlt3 => ⟨by omega, fun _ => yes, fun h50 => ?_⟩, fun hge3 => ?_⟩
  · simp only [Int.toNat_natCast] at h50
    have ht2 : t < (oDo ra).length := by unfold oDo; omega
    refine ⟨_, (by omega : (oDo ra).length - (t + 1) < _), b3, t + 1, by omega, rfl, by rw [wrap64 (by omega) (by omega)]; rfl, fun k hk => ?_⟩
    rcases Nat.lt_succ_iff_lt_or_eq.1 hk with hk | rfl
    · exact hall3 k hk
    · have h50' : ¬ 50 < ((dLst ((oDo ra).getD k [])).length : Int) := h50
      omega
  · have ht3 : t = (oDo ra).length := by unfold oDo at *; omega
    exact ⟨_, (by omega : (argL ds 3).length - (i + 1) < _), _, i + 1, by omega, rfl, by rw [wrap64 (by omega) (by omega)]; rfl, next ⟨h20, fun k hk => hall3 k (by omega)⟩⟩)
noncomputable def con_Long35 : Con E0 := ⟨k_Long35, sg_Long35, Long35_s, rfl, bo_Long35, Long35_h⟩
noncomputable def normO (r : List Dat) : List Dat := [r.getD 0 (.int .i64 0), r.getD 1 (.int .i64 0), r.getD 2 (.int .i64 0), r.getD 3 (dflt E0.Δ (.list 64))]
def k_Doc35 : Nat := 9
def sg_Doc35 : Sig := ⟨[(true, [.list 3, .list 3, .list 3] ++ [.list 68])], [(true, [.list 3, .list 3, .list 3] ++ [.list 62])], false, false, true, false, false, [], [], none⟩
def tr_Doc35 : Tree := (.loop [(.int .i64 0), .emp] [(.int .i64), (.rows 62)]
 (.ite (.cmp .lt (.var 4) (.len (.var 3)))
  (.ob (.cmp .ge (.var 4) (.int .i64 0))
  (.ob (.cmp .le (.len (.push (.var 5) (.econs (.elem (.var 3) (.var 4) 0 (.int .i64)) (.econs (.elem (.var 3) (.var 4) 1 (.int .i64)) (.econs (.elem (.var 3) (.var 4) 2 (.int .i64)) (.econs (.elem (.var 3) (.var 4) 3 (.list 64)) .enil)))))) (.int .i64 2932031007402))
  (.again 0 [(.ar .add .i64 (.var 4) (.int .i64 1)), (.push (.var 5) (.econs (.elem (.var 3) (.var 4) 0 (.int .i64)) (.econs (.elem (.var 3) (.var 4) 1 (.int .i64)) (.econs (.elem (.var 3) (.var 4) 2 (.int .i64)) (.econs (.elem (.var 3) (.var 4) 3 (.list 64)) .enil)))))])))
  (.share 62 (.var 5)
  (.ret [(.var 0), (.var 1), (.var 2), (.var 6)]))))
theorem wk_Doc35 : walk E0.cx (sgsN []) 0 9 sg_Doc35 = tr_Doc35 := by kernel_rfl
theorem bo_Doc35 : ∃ x, bodyOf E0.P 9 = some x := bo_of (by kernel_rfl)
def Doc35_s : Spec := fun ds Q => (argL ds 3).length ≤ 1000000 ∧ ∀ d : Dat, d.xs = (argL ds 3).map normO → Q [ds.getD 0 (.bool false), ds.getD 1 (.bool false), ds.getD 2 (.bool false), d]
theorem Doc35_h : Holds E0 k_Doc35 sg_Doc35 Doc35_s := con_fn wf0 mix0 g0 [] rfl wk_Doc35 rfl (by
  intro Φ hΦ ds Q hs ⟨hlen, h⟩
  have hl : ds.length = 4 := hs.length.symm
  clear hΦ
  simp only [tr_Doc35, wp, den_int, den_bool, den_nili, den_ar, den_cmp, den_not, den_len, den_elem, den_isnil, den_errI, den_ifc, den_rep, den_push, den_app, den_emp, den_upd, row0_econs, row0_enil, den_and, den_beq, den_nil, toInt_int, toBool_bool, xs_rows, xs_list, dflt_int, dflt_bool, of_eq, of_ne, of_lt, of_le, of_gt, of_ge, of_add, of_sub, of_rem, List.map_cons, List.map_nil, Dat.bool.injEq, decide_eq_true_eq, decide_eq_false_iff_not, Bool.not_eq_true', Bool.not_eq_false', beq_iff_eq, bne_iff_ne, beq_eq_false_iff_ne, bne_eq_false_iff_eq, ne_eq, List.append_assoc, List.cons_append, List.nil_append, allS, @den_var0 E0.Δ ds, den_varA, den_varB, hl, Nat.reduceLT, Nat.reduceLeDiff, Nat.reduceSub, List.getD_cons_zero, List.getD_cons_succ, argL_fold ds, argI_fold ds, List.append_assoc, List.cons_append, List.nil_append, toInt_int, toBool_bool, xs_rows, xs_list, Int.toNat_natCast, Dat.bool.injEq, dflt_int]
  refine ⟨fun xs m => ∃ i : Nat, i ≤ (argL ds 3).length ∧ m = (argL ds 3).length - i ∧ xs = [.int .i64 i, .rows (((argL ds 3).take i).map normO)], ⟨_, 0, by omega, rfl, by rw [List.take_zero]; rfl⟩, ?_⟩
  rintro n d hd m ⟨i, hi, hm, e⟩
  cases e
  refine ⟨fun hlt => ⟨by omega, ?_, _, (by omega : (argL ds 3).length - (i + 1) < _), i + 1, by omega, rfl, ?_⟩, fun hge A c => h _ ?_⟩
  · simp only [xs_rows, List.length_append, List.length_map, List.length_take, List.length_cons, List.length_nil]; omega
  · rw [wrap64 (by omega) (by omega), take_succ_getD (d := []) (by omega), List.map_append, Int.toNat_natCast]; rfl
  · rw [xs_list, xs_rows, List.take_of_length_le (by omega)])
noncomputable def con_Doc35 : Con E0 := ⟨k_Doc35, sg_Doc35, Doc35_s, rfl, bo_Doc35, Doc35_h⟩
theorem norm_rowI (r : List Dat) (c : Nat) (h : c < 3) : rowI (normO r) c = rowI r c := by
  match c, h with
  | 0, _ | 1, _ | 2, _ => rfl
theorem norm_do (r : List Dat) : oDo (normO r) = oDo r := getD_xs _ _ _
theorem norm_op (a b : List Dat) : OpR (normO a) (normO b) ↔ OpR a b := by
  unfold OpR
  rw [norm_rowI _ 0 (by omega), norm_rowI _ 0 (by omega), norm_rowI _ 1 (by omega), norm_rowI _ 1 (by omega), norm_rowI _ 2 (by omega), norm_rowI _ 2 (by omega), norm_do, norm_do]
theorem norm_get {A : List (List Dat)} {i : Nat} (h : i < A.length) : (A.map normO).getD i [] = normO (A.getD i []) := by
  rw [List.getD_eq_getElem?_getD, List.getElem?_map, List.getElem?_eq_getElem h, List.getD_eq_getElem?_getD, List.getElem?_eq_getElem h]; rfl
theorem norm_ops (A B : List (List Dat)) : OpsR (A.map normO) (B.map normO) ↔ OpsR A B := by
  unfold OpsR
  rw [List.length_map, List.length_map]
  constructor
  · rintro ⟨h1, h2⟩
    refine ⟨h1, fun i hi => ?_⟩
    have := h2 i hi
    rw [norm_get hi, norm_get (by omega)] at this
    exact (norm_op _ _).1 this
  · rintro ⟨h1, h2⟩
    refine ⟨h1, fun i hi => ?_⟩
    rw [norm_get hi, norm_get (by omega)]
    exact (norm_op _ _).2 (h2 i hi)
theorem norm_sm {A : List (List Dat)} (h : SmO A) : SmO (A.map normO) := by
  refine ⟨by rw [List.length_map]; exact h.1, fun i hi => ?_⟩
  rw [List.length_map] at hi
  rw [norm_get hi, norm_do]
  exact h.2 i hi
theorem ops_refl (A : List (List Dat)) : OpsR A A := ⟨rfl, fun _ _ => ⟨rfl, rfl, rfl, rfl, fun _ _ => ⟨rfl, rfl, rfl, rfl, rfl⟩⟩⟩
end Go.Proofs.YtbpbdanggilnpaaDoor
end

section
namespace Go.Proofs.YtbpbdanggilnpaaDoor
open Go.RowKit
set_option linter.unusedVariables false
set_option linter.unusedSimpArgs false

/-! script.CheckOp where it is not reached -/
def k_sOp0 : Nat := 30
def sg_sOp0 : Sig := ⟨[(true, [.int .i64, .int .i64, .int .i64, .list 64])], [(false, [.err])], false, false, false, false, false, [], [], none⟩
theorem bo_sOp0 : ∃ x, bodyOf E0.P 30 = some x := bo_of (by kernel_rfl)
def sOp0_s : Spec := fun _ _ => False
theorem sOp0_h : Holds E0 k_sOp0 sg_sOp0 sOp0_s := fun w ds Q _ _ _ _ h => h.elim
noncomputable def con_sOp0 : Con E0 := ⟨k_sOp0, sg_sOp0, sOp0_s, rfl, bo_sOp0, sOp0_h⟩
def E4 (ds : List Dat) : Prop := ∀ i, i < 4 → argL ds i = []
def k_sCheck0 : Nat := 15
def sg_sCheck0 : Sig := ⟨[(true, [.list 3, .list 3, .list 3] ++ [.list 68])], [(false, [.err])], false, false, true, false, false, [], [], none⟩
def tr_sCheck0 : Tree := (.loop [.nili, (.int .i64 0)] [.err, (.int .i64)]
 (.ite (.cmp .lt (.var 5) (.int .i64 2))
  (.ob (.cmp .ge (.var 5) (.int .i64 0))
  (.call k_tDeck [(.sel (.econs (.var 0) (.econs (.var 1) .enil)) (.var 5) (.list 3))] [.err]
  (.ite (.not (.isnil (.var 6)))
   (.ret [(.var 6)])
   (.again 0 [(.var 4), (.ar .add .i64 (.var 5) (.int .i64 1))]))))
  (.ite (.not (.isnil (.ite (.cmp .gt (.len (.var 2)) (.int .i64 4096)) (.ifc (.int .i64 19)) .nili)))
   (.ret [(.ite (.cmp .gt (.len (.var 2)) (.int .i64 4096)) (.ifc (.int .i64 19)) .nili)])
   (.ite (.cmp .gt (.len (.var 3)) (.int .i64 1000))
    (.ret [(.ifc (.int .i64 19))])
    (.loop [(.var 4), (.int .i64 0)] [.err, (.int .i64)]
     (.ite (.cmp .lt (.var 7) (.len (.var 3)))
      (.ob (.cmp .ge (.var 7) (.int .i64 0))
      (.call k_sOp0 [(.elem (.var 3) (.var 7) 0 (.int .i64)), (.elem (.var 3) (.var 7) 1 (.int .i64)), (.elem (.var 3) (.var 7) 2 (.int .i64)), (.elem (.var 3) (.var 7) 3 (.list 64))] [.err]
      (.ite (.not (.isnil (.var 8)))
       (.ret [(.var 8)])
       (.again 1 [(.var 6), (.ar .add .i64 (.var 7) (.int .i64 1))]))))
      (.ret [.nili])))))))
theorem wk_sCheck0 : walk E0.cx (sgsN [(28, sg_tDeck), (30, sg_sOp0)]) 0 15 sg_sCheck0 = tr_sCheck0 := by kernel_rfl
theorem bo_sCheck0 : ∃ x, bodyOf E0.P 15 = some x := bo_of (by kernel_rfl)
theorem sp_sCheck0_tDeck : specC [con_tDeck, con_sOp0] k_tDeck = tDeck_s := rfl
theorem sp_sCheck0_sOp0 : specC [con_tDeck, con_sOp0] k_sOp0 = sOp0_s := rfl
def sCheck0_s : Spec := fun ds Q => E4 ds ∧ Q [errV 0]
theorem sCheck0_h : Holds E0 k_sCheck0 sg_sCheck0 sCheck0_s := con_fn wf0 mix0 g0 [con_tDeck, con_sOp0] rfl wk_sCheck0 rfl (by
  intro Φ hΦ ds Q hs ⟨he, h⟩
  have hl : ds.length = 4 := hs.length.symm
  have s1 : Φ k_tDeck = tDeck_s := by rw [hΦ]; rfl
  have s2 : Φ k_sOp0 = sOp0_s := by rw [hΦ]; rfl
  clear hΦ
  simp only [tr_sCheck0, wp, den_int, den_bool, den_nili, den_ar, den_cmp, den_not, den_len, den_elem, den_isnil, den_errI, den_ifc, den_rep, den_push, den_app, den_emp, den_upd, row0_econs, row0_enil, den_and, den_beq, den_nil, toInt_int, toBool_bool, xs_rows, xs_list, dflt_int, dflt_bool, of_eq, of_ne, of_lt, of_le, of_gt, of_ge, of_add, of_sub, of_rem, List.map_cons, List.map_nil, Dat.bool.injEq, decide_eq_true_eq, decide_eq_false_iff_not, Bool.not_eq_true', Bool.not_eq_false', beq_iff_eq, bne_iff_ne, beq_eq_false_iff_ne, bne_eq_false_iff_eq, ne_eq, List.append_assoc, List.cons_append, List.nil_append, allS, s1, s2, tDeck_s, sOp0_s, @den_var0 E0.Δ ds, den_varA, den_varB, hl, Nat.reduceLT, Nat.reduceLeDiff, Nat.reduceSub, List.getD_cons_zero, List.getD_cons_succ, argL_fold ds, argI_fold ds, List.append_assoc, List.cons_append, List.nil_append, toInt_int, toBool_bool, xs_rows, xs_list, Int.toNat_natCast, Dat.bool.injEq, argL_c0, den_ite, he 2 (by omega), he 3 (by omega)]
  have d0 : dk.deckN (nums []) = 0 := by
    unfold dk.deckN
    rw [if_neg (by decide), if_neg (by simp [nums]), if_neg (by simp [nums])]
  have i0 : in64s (nums []) := fun x hx => by cases hx
  refine ⟨fun xs m => ∃ (d : Dat) (i : Nat), i ≤ 2 ∧ m = 2 - i ∧ xs = [d, .int .i64 i], ⟨_, _, 0, by omega, rfl, rfl⟩, ?_⟩
  rintro d hd n m ⟨_, i, hi, hm, e⟩
  obtain ⟨rfl, rfl⟩ : d = _ ∧ n = (i : Int) := by simpa using e
  refine ⟨fun hlt => ⟨by omega, ?_⟩, fun hge => ⟨fun hx => absurd hx (by decide), fun _ => ⟨fun hx => absurd hx (by decide), fun _ => ⟨fun xs m => xs = [d, .int .i64 0], ⟨0, rfl⟩, ?_⟩⟩⟩⟩
  · have hsel : (den E0.Δ (ds ++ [d, Dat.int .i64 i]) (((Tm.var 0).econs ((Tm.var 1).econs Tm.enil)).sel (Tm.var 5) (Srt.list 3))).xs = [] := by
      have hi2 : i = 0 ∨ i = 1 := by omega
      rcases hi2 with rfl | rfl
      · simp only [den_sel, row0_econs, row0_enil, den_elem, den_len, @den_var0 E0.Δ ds, den_varA, den_varB, hl, Nat.reduceLT, Nat.reduceLeDiff, Nat.reduceSub, List.getD_cons_zero, List.getD_cons_succ, argL_fold ds, argI_fold ds, List.append_assoc, List.cons_append, List.nil_append, toInt_int, toBool_bool, xs_rows, xs_list, Int.toNat_natCast, Dat.bool.injEq, Int.toNat_natCast]
        exact he 0 (by omega)
      · simp only [den_sel, row0_econs, row0_enil, den_elem, den_len, @den_var0 E0.Δ ds, den_varA, den_varB, hl, Nat.reduceLT, Nat.reduceLeDiff, Nat.reduceSub, List.getD_cons_zero, List.getD_cons_succ, argL_fold ds, argI_fold ds, List.append_assoc, List.cons_append, List.nil_append, toInt_int, toBool_bool, xs_rows, xs_list, Int.toNat_natCast, Dat.bool.injEq, Int.toNat_natCast]
        exact he 1 (by omega)
    rw [hsel, d0]
    refine ⟨i0, fun hx => (by cases hx), fun _ => ⟨_, (by omega : 2 - (i + 1) < _), _, i + 1, by omega, rfl, by rw [wrap64 (by omega) (by omega)]; rfl⟩⟩
  · rintro d' hd' n' m' e'
    obtain ⟨rfl, rfl⟩ : d' = d ∧ n' = 0 := by simpa using e'
    exact ⟨fun hx => absurd hx (by decide), fun _ => h⟩)
noncomputable def con_sCheck0 : Con E0 := ⟨k_sCheck0, sg_sCheck0, sCheck0_s, rfl, bo_sCheck0, sCheck0_h⟩
def k_sBytes0 : Nat := 12
def sg_sBytes0 : Sig := ⟨[(true, [.list 3, .list 3, .list 3] ++ [.list 68])], [(false, [.list 5]), (false, [.err])], false, false, true, false, false, [], [], none⟩
def tr_sBytes0 : Tree := (.call k_sCheck0 [(.var 0), (.var 1), (.var 2), (.var 3)] [.err]
(.ite (.not (.isnil (.var 4)))
 (.share 5 .emp
 (.ret [(.var 5), (.var 4)]))
 (.call k_wPutList [(.nil 5), (.var 0)] [(.list 5)]
 (.call k_wPutList [(.var 5), (.var 1)] [(.list 5)]
 (.call k_wPutList [(.var 6), (.var 2)] [(.list 5)]
 (.share 3 (.push .emp (.econs (.len (.var 3)) .enil))
 (.call k_sPut [(.var 7), (.var 8)] [(.list 5)]
 (.loop [.emp, .nili, (.var 9), (.int .i64 0)] [(.rows 5), .err, (.list 5), (.int .i64)]
  (.ite (.cmp .lt (.var 13) (.len (.var 3)))
   (.ob (.cmp .ge (.var 13) (.int .i64 0))
   (.share 3 (.push (.push (.push (.push .emp (.econs (.elem (.var 3) (.var 13) 0 (.int .i64)) .enil)) (.econs (.elem (.var 3) (.var 13) 1 (.int .i64)) .enil)) (.econs (.elem (.var 3) (.var 13) 2 (.int .i64)) .enil)) (.econs (.len (.elem (.var 3) (.var 13) 3 (.list 64))) .enil))
   (.call k_sPut [(.var 12), (.var 14)] [(.list 5)]
   (.loop [(.var 10), (.var 11), (.var 15), (.int .i64 0)] [(.rows 5), .err, (.list 5), (.int .i64)]
    (.ite (.cmp .lt (.var 19) (.len (.elem (.var 3) (.var 13) 3 (.list 64))))
     (.ob (.cmp .ge (.var 19) (.int .i64 0))
     (.share 3 (.push (.push (.push (.push .emp (.econs (.elem (.elem (.var 3) (.var 13) 3 (.list 64)) (.var 19) 0 (.int .i64)) .enil)) (.econs (.elem (.elem (.var 3) (.var 13) 3 (.list 64)) (.var 19) 1 (.int .i64)) .enil)) (.econs (.elem (.elem (.var 3) (.var 13) 3 (.list 64)) (.var 19) 2 (.int .i64)) .enil)) (.econs (.elem (.elem (.var 3) (.var 13) 3 (.list 64)) (.var 19) 3 (.int .i64)) .enil))
     (.call k_sPut [(.var 18), (.var 20)] [(.list 5)]
     (.call k_wPutList [(.var 21), (.elem (.elem (.var 3) (.var 13) 3 (.list 64)) (.var 19) 4 (.list 3))] [(.list 5)]
     (.ite (.cmp .gt (.len (.var 22)) (.int .i64 65536))
      (.share 5 .emp
      (.ret [(.var 23), (.ifc (.int .i64 3))]))
      (.again 1 [(.var 16), (.var 17), (.var 22), (.ar .add .i64 (.var 19) (.int .i64 1))]))))))
     (.again 0 [(.var 16), (.var 17), (.var 18), (.ar .add .i64 (.var 13) (.int .i64 1))]))))))
   (.ite (.cmp .gt (.len (.var 12)) (.int .i64 65536))
    (.share 5 .emp
    (.ret [(.var 14), (.ifc (.int .i64 3))]))
    (.ret [(.var 12), .nili])))))))))))
theorem wk_sBytes0 : walk E0.cx (sgsN [(15, sg_sCheck0), (23, sg_wPutList), (24, sg_sPut)]) 0 12 sg_sBytes0 = tr_sBytes0 := by kernel_rfl
theorem bo_sBytes0 : ∃ x, bodyOf E0.P 12 = some x := bo_of (by kernel_rfl)
theorem sp_sBytes0_sCheck0 : specC [con_sCheck0, con_wPutList, con_sPut] k_sCheck0 = sCheck0_s := rfl
theorem sp_sBytes0_wPutList : specC [con_sCheck0, con_wPutList, con_sPut] k_wPutList = wPutList_s := rfl
theorem sp_sBytes0_sPut : specC [con_sCheck0, con_wPutList, con_sPut] k_sPut = sPut_s := rfl
def sBytes0_s : Spec := fun ds Q => E4 ds ∧ ∀ d : Dat, d.xs = u8R [0, 0, 0, 0] → Q [d, errV 0]
theorem sBytes0_h : Holds E0 k_sBytes0 sg_sBytes0 sBytes0_s := con_fn wf0 mix0 g0 [con_sCheck0, con_wPutList, con_sPut] rfl wk_sBytes0 rfl (by
  intro Φ hΦ ds Q hs ⟨he, h⟩
  have hl : ds.length = 4 := hs.length.symm
  have s1 : Φ k_sCheck0 = sCheck0_s := by rw [hΦ]; rfl
  have s2 : Φ k_wPutList = wPutList_s := by rw [hΦ]; rfl
  have s3 : Φ k_sPut = sPut_s := by rw [hΦ]; rfl
  clear hΦ
  have a0 : ∀ x, argL [x, ds.getD 0 (.bool false)] 1 = [] := fun x => he 0 (by omega)
  have a1 : ∀ x, argL [x, ds.getD 1 (.bool false)] 1 = [] := fun x => he 1 (by omega)
  have a2 : ∀ x, argL [x, ds.getD 2 (.bool false)] 1 = [] := fun x => he 2 (by omega)
  have a3 : ∀ (x : Dat) v z, argL [x, Dat.list v z [[Dat.int .i64 ((([] : List (List Dat)).length : Nat) : Int)]]] 1 = [[.int .i64 0]] := fun x v z => rfl
  have en : encs (((([] : List (List Dat)).length : Nat) : Int) :: nums []) = [0] := by decide
  have en2 : encs (nums [[Dat.int .i64 0]]) = [0] := by decide
  simp only [tr_sBytes0, wp, den_int, den_bool, den_nili, den_ar, den_cmp, den_not, den_len, den_elem, den_isnil, den_errI, den_ifc, den_rep, den_push, den_app, den_emp, den_upd, row0_econs, row0_enil, den_and, den_beq, den_nil, toInt_int, toBool_bool, xs_rows, xs_list, dflt_int, dflt_bool, of_eq, of_ne, of_lt, of_le, of_gt, of_ge, of_add, of_sub, of_rem, List.map_cons, List.map_nil, Dat.bool.injEq, decide_eq_true_eq, decide_eq_false_iff_not, Bool.not_eq_true', Bool.not_eq_false', beq_iff_eq, bne_iff_ne, beq_eq_false_iff_ne, bne_eq_false_iff_eq, ne_eq, List.append_assoc, List.cons_append, List.nil_append, allS, s1, s2, s3, sCheck0_s, wPutList_s, sPut_s, @den_var0 E0.Δ ds, den_varA, den_varB, hl, Nat.reduceLT, Nat.reduceLeDiff, Nat.reduceSub, List.getD_cons_zero, List.getD_cons_succ, argL_fold ds, argI_fold ds, List.append_assoc, List.cons_append, List.nil_append, toInt_int, toBool_bool, xs_rows, xs_list, Int.toNat_natCast, Dat.bool.injEq, argL_c0, argL_fold ds, he 0 (by omega), he 1 (by omega), he 2 (by omega), he 3 (by omega), a0, a1, a2, a3, en, en2]
  have nil : ∀ n : Int, n ∈ nums [] → okN n := fun n hn => by cases hn
  have one : ∀ n : Int, n ∈ nums [[Dat.int .i64 0]] → okN n := fun n hn => by
    rw [show nums [[Dat.int .i64 0]] = [0] from rfl, List.mem_singleton] at hn
    subst hn; exact ⟨by omega, by omega⟩
  refine ⟨fun i hi => ?_, fun hx => (by cases hx), fun _ => ⟨by decide, nil, fun d1 h1 => ⟨by rw [h1]; decide, nil, fun d2 h2 => ⟨by rw [h2, h1]; decide, nil, fun d3 h3 A c => ⟨by rw [h3, h2, h1]; decide, one, fun d4 h4 => ?_⟩⟩⟩⟩⟩
  · match i, hi with
    | 0, _ => exact he 0 (by omega)
    | 1, _ => exact he 1 (by omega)
    | 2, _ => exact he 2 (by omega)
    | 3, _ => exact he 3 (by omega)
  rw [h3, h2, h1] at h4
  refine ⟨fun xs m => ∃ d5 d6 : Dat, xs = [d5, d6, d4, .int .i64 0], ⟨0, _, _, rfl⟩, ?_⟩
  rintro d5 hd5 d6 hd6 d7 hd7 n m ⟨_, _, e⟩
  obtain ⟨rfl, rfl, rfl, rfl⟩ : d5 = _ ∧ d6 = _ ∧ d7 = d4 ∧ n = 0 := by simpa using e
  refine ⟨fun hx => absurd hx (by decide), fun _ => ⟨fun hx => ?_, fun _ => h _ h4⟩⟩
  rw [h4] at hx
  exact absurd hx (by decide))
noncomputable def con_sBytes0 : Con E0 := ⟨k_sBytes0, sg_sBytes0, sBytes0_s, rfl, bo_sBytes0, sBytes0_h⟩
def k_alive35 : Nat := 5
def sg_alive35 : Sig := ⟨[], [(false, [.bool])], false, false, true, false, false, [], [], none⟩
def tr_alive35 : Tree := (.call k_sBytes0 [(.nil 3), (.nil 3), (.nil 3), (.nil 68)] [(.list 5), .err]
(.ret [(.and (.isnil (.var 1)) (.seq (.sof (.var 0)) (.str [0, 0, 0, 0])))]))
theorem wk_alive35 : walk E0.cx (sgsN [(12, sg_sBytes0)]) 0 5 sg_alive35 = tr_alive35 := by kernel_rfl
theorem bo_alive35 : ∃ x, bodyOf E0.P 5 = some x := bo_of (by kernel_rfl)
theorem sp_alive35_sBytes0 : specC [con_sBytes0] k_sBytes0 = sBytes0_s := rfl
def alive35_s : Spec := fun ds Q => Q [.bool true]
theorem alive35_h : Holds E0 k_alive35 sg_alive35 alive35_s := con_fn wf0 mix0 g0 [con_sBytes0] rfl wk_alive35 rfl (by
  intro Φ hΦ ds Q hs h
  have s1 : Φ k_sBytes0 = sBytes0_s := by rw [hΦ]; rfl
  have h : Q [.bool true] := h
  clear hΦ
  have hl : ds.length = 0 := hs.length.symm
  obtain rfl : ds = [] := List.length_eq_zero_iff.1 hl
  simp only [tr_alive35, wp, List.map_cons, List.map_nil, s1]
  refine ⟨fun i hi => ?_, fun d hd => ?_⟩
  · match i, hi with
    | 0, _ | 1, _ | 2, _ | 3, _ => rfl
  show Q [Dat.bool (isNilI (errV 0) && ((strD (Dat.val (.string (bytesOf d.xs)))).toList == (strD (Dat.val (strB [0, 0, 0, 0]))).toList))]
  have e2 : (strD (Dat.val (strB [0, 0, 0, 0]))).toList = ([0, 0, 0, 0] : List Nat).map UInt8.ofNat := by
    rw [strB, strD, toList_data]
  rw [hd, strD_toList, e2, beq_self_eq_true]
  exact h)
noncomputable def con_alive35 : Con E0 := ⟨k_alive35, sg_alive35, alive35_s, rfl, bo_alive35, alive35_h⟩
def law_s : Spec := fun ds Q => InL ds ∧ Q [.bool true]
theorem len_in {ds : List Dat} (hi : InL ds) {i : Nat} (h : i < ds.length) : (argL ds i).length ≤ maxLen := by
  have hm : ds.getD i (.bool false) ∈ ds := getD_memL h
  have := hi _ hm
  show (ds.getD i (.bool false)).xs.length ≤ _
  generalize ds.getD i (.bool false) = d at this
  cases this with
  | list v sz xs hm hr => exact hm
  | _ => exact Nat.zero_le _
theorem smO_of {A : List (List Dat)} (h1 : A.length ≤ 1010) (h2 : ∀ i, i < A.length → (oDo (A.getD i [])).length ≤ 20 ∧ ∀ k, k < (oDo (A.getD i [])).length → (dLst ((oDo (A.getD i [])).getD k [])).length ≤ 50) : SmO A :=
  ⟨by omega, fun i hi => ⟨Nat.le_trans (h2 i hi).1 (by omega), fun k hk => Nat.le_trans ((h2 i hi).2 k hk) (by omega)⟩⟩
-- lacks mulligan/mulliganlaw35.ScriptSame : lsame35
def lsame35_s : Spec := law_s
end Go.Proofs.YtbpbdanggilnpaaDoor
end
