/-
  Effects' bytes: program and document.
-/
import Derived.Test.YtkilkcgnfhlfiaaEffD
import Derived.Test.YtkilkcgnfhlfiaaWir
namespace Go.Proofs.Ytkilkcgnfhlfiaa
open Go.RowKit
set_option linter.unusedVariables false
set_option linter.unusedSimpArgs false

mutual
def Eff.enc : Eff → List Nat
  | .mk op n m who l => mth.encI op ++ mth.encI n ++ mth.encI m ++ mth.encI who ++ mth.encI (l.length : Int) ++ Eff.encs l
def Eff.encs : List Eff → List Nat
  | [] => []
  | e :: l => e.enc ++ Eff.encs l
end
def in64 (n : Int) : Prop := -9223372036854775808 ≤ n ∧ n ≤ 9223372036854775807
mutual
/-- all numbers are within 64 bits -/
def Eff.ok : Eff → Prop
  | .mk op n m who l => in64 op ∧ in64 n ∧ in64 m ∧ in64 who ∧ Eff.oks l
def Eff.oks : List Eff → Prop
  | [] => True
  | e :: l => e.ok ∧ Eff.oks l
end
theorem Eff.oks_mem : ∀ {l : List Eff}, Eff.oks l → ∀ e ∈ l, e.ok
  | x :: l, h, e, he => by
    rcases List.mem_cons.1 he with rfl | he
    · exact h.1
    · exact Eff.oks_mem h.2 e he
theorem Eff.oks_of : ∀ {l : List Eff}, (∀ e ∈ l, e.ok) → Eff.oks l
  | [], _ => trivial
  | x :: l, h => ⟨h x (by simp), Eff.oks_of fun e he => h e (by simp [he])⟩
theorem Eff.ok_eq (e : Eff) : e.ok ↔ in64 e.op ∧ in64 e.n ∧ in64 e.m ∧ in64 e.who ∧ Eff.oks e.subs := by cases e; rfl
theorem Eff.enc_eq (e : Eff) : e.enc = mth.encI e.op ++ mth.encI e.n ++ mth.encI e.m ++ mth.encI e.who ++ mth.encI (e.subs.length : Int) ++ Eff.encs e.subs := by cases e; rfl
theorem Eff.encs_append : ∀ (a b : List Eff), Eff.encs (a ++ b) = Eff.encs a ++ Eff.encs b
  | [], b => by simp [Eff.encs]
  | e :: a, b => by simp [Eff.encs, Eff.encs_append a b]
theorem encI_len (n : Int) : (mth.encI n).length ≤ 10 := (mth.enc_len _).2
mutual
theorem Eff.enc_len : ∀ e : Eff, e.enc.length ≤ 50 * e.size
  | .mk op n m who l => by
    have h1 := encI_len op
    have h2 := encI_len n
    have h3 := encI_len m
    have h4 := encI_len who
    have h5 := encI_len (l.length : Int)
    have h6 := Eff.encs_len l
    simp only [Eff.enc, Eff.size, List.length_append]; omega
theorem Eff.encs_len : ∀ l : List Eff, (Eff.encs l).length ≤ 50 * Eff.sizes l
  | [] => by simp [Eff.encs, Eff.sizes]
  | e :: l => by
    have h1 := Eff.enc_len e
    have h2 := Eff.encs_len l
    simp only [Eff.encs, Eff.sizes, List.length_append]; omega
end
theorem encs_take {l : List (List Dat)} {i : Nat} (h : i < l.length) : Eff.encs ((l.take (i + 1)).map effOf) = Eff.encs ((l.take i).map effOf) ++ (effOf (l.getD i [])).enc := by
  rw [take_succ_getD (d := ([] : List Dat)) h, List.map_append, Eff.encs_append]
  simp [Eff.encs]
def k_eBytes : Nat := 25
def sg_eBytes : Sig := ⟨[(true, List.replicate 4 (.int .i64) ++ [.list 24])], [(false, [.rows 5])], true, true, false⟩
def tr_eBytes : Tree := (.share 5 .emp
(.call k_wPut [(.var 5), (.var 0)] [(.rows 5)]
(.share 5 (.app .emp (.var 6))
(.call k_wPut [(.var 7), (.var 1)] [(.rows 5)]
(.share 5 (.app .emp (.var 8))
(.call k_wPut [(.var 9), (.var 2)] [(.rows 5)]
(.share 5 (.app .emp (.var 10))
(.call k_wPut [(.var 11), (.var 3)] [(.rows 5)]
(.share 5 (.app .emp (.var 12))
(.call k_wPut [(.var 13), (.len (.var 4))] [(.rows 5)]
(.loop [(.app .emp (.var 14)), (.int .i64 0)] [(.rows 5), (.int .i64)]
 (.ite (.cmp .lt (.var 16) (.len (.var 4)))
  (.ob (.cmp .ge (.var 16) (.int .i64 0))
  (.call k_eBytes [(.elem (.var 4) (.var 16) 0 (.int .i64)), (.elem (.var 4) (.var 16) 1 (.int .i64)), (.elem (.var 4) (.var 16) 2 (.int .i64)), (.elem (.var 4) (.var 16) 3 (.int .i64)), (.elem (.var 4) (.var 16) 4 (.list 24))] [(.rows 5)]
  (.ob (.cmp .le (.len (.app (.var 15) (.app .emp (.var 17)))) (.int .i64 140737488355328))
  (.again 0 [(.app (.var 15) (.app .emp (.var 17))), (.ar .add .i64 (.var 16) (.int .i64 1))]))))
  (.ret [(.var 15)])))))))))))))
theorem wk_eBytes : walk E0.cx (sgsN [(37, sg_wPut), (25, sg_eBytes)]) 0 25 sg_eBytes = tr_eBytes := by kernel_rfl
theorem bo_eBytes : ∃ x, bodyOf E0.P 25 = some x := bo_of (by kernel_rfl)
def eBytes_s : Spec := fun ds Q => (argE ds).size ≤ 1000 ∧ (argE ds).ok ∧ Q [.rows (u8R (argE ds).enc)]
theorem eBytes_h : Holds E0 k_eBytes sg_eBytes eBytes_s := holds_rec mE fun n ih => con_fn wf0 mix0 g0 [con_wPut, ⟨_, _, _, rfl, bo_eBytes, ih⟩] rfl wk_eBytes rfl (by
  intro Φ hΦ ds Q hs ⟨hm, hsz, hok, h⟩
  have hl : ds.length = 5 := hs.length.symm
  have sp : Φ k_eBytes = (fun ds Q => mE ds < n ∧ eBytes_s ds Q) := by rw [hΦ]; rfl
  have sp1 : Φ k_wPut = wPut_s := by rw [hΦ]; rfl
  clear hΦ
  have hrow := eff_len (all2_get hs (i := 4) rfl)
  rw [argL_fold] at hrow
  have hsub := argE_subs ds
  have hlen := Eff.length_le_sizes ((argL ds 4).map effOf)
  rw [List.length_map] at hlen
  rw [mE] at hm
  rw [Eff.size_eq, hsub] at hm hsz
  rw [Eff.enc_eq, hsub, List.length_map, argE_opI, argE_n, argE_m, argE_who] at h
  rw [Eff.ok_eq, argE_opI, argE_n, argE_m, argE_who, hsub] at hok
  obtain ⟨o1, o2, o3, o4, o5⟩ := hok
  have q1 := encI_len (argI ds 0)
  have q2 := encI_len (argI ds 1)
  have q3 := encI_len (argI ds 2)
  have q4 := encI_len (argI ds 3)
  have q5 := encI_len ((argL ds 4).length : Int)
  have a0 : ∀ {x y : List Dat}, argL (x ++ y) 0 = argL (x ++ y) 0 := rfl
  simp only [tr_eBytes, wp, den_int, den_bool, den_nili, den_ar, den_cmp, den_not, den_len, den_elem, den_isnil, den_errI, den_ifc, den_rep, den_push, den_app, den_emp, den_upd, row0_econs, row0_enil, den_and, den_beq, den_nil, toInt_int, toBool_bool, xs_rows, xs_list, dflt_int, dflt_bool, of_eq, of_ne, of_lt, of_le, of_gt, of_ge, of_add, of_sub, of_rem, List.map_cons, List.map_nil, Dat.bool.injEq, decide_eq_true_eq, decide_eq_false_iff_not, Bool.not_eq_true', Bool.not_eq_false', beq_iff_eq, bne_iff_ne, beq_eq_false_iff_ne, bne_eq_false_iff_eq, ne_eq, List.append_assoc, List.cons_append, List.nil_append, allS, sp, sp1, wPut_s, @den_var0 E0.Δ ds, den_varA, den_varB, hl, Nat.reduceLT, Nat.reduceLeDiff, Nat.reduceSub, List.getD_cons_zero, List.getD_cons_succ, argL_fold ds, argI_fold ds, List.append_assoc, List.cons_append, List.nil_append, toInt_int, toBool_bool, xs_rows, xs_list, Int.toNat_natCast, Dat.bool.injEq, argL_c0, argI_c1, argI_c0]
  have p : ∀ i, i < 4 → True := fun _ _ => trivial
  intro A1 c1
  refine ⟨by simp, o1.1, o1.2, fun A2 c2 => ⟨?_, o2.1, o2.2, fun A3 c3 => ⟨?_, o3.1, o3.2, fun A4 c4 => ⟨?_, o4.1, o4.2, fun A5 c5 => ⟨?_, by omega, by omega, ?_⟩⟩⟩⟩⟩
  · simp only [List.length_append, u8R_len, List.length_nil]; omega
  · simp only [List.length_append, u8R_len, List.length_nil]; omega
  · simp only [List.length_append, u8R_len, List.length_nil]; omega
  · simp only [List.length_append, u8R_len, List.length_nil]; omega
  refine ⟨fun xs m => ∃ i : Nat, i ≤ (argL ds 4).length ∧ m = (argL ds 4).length - i ∧ xs = [.rows (u8R (mth.encI (argI ds 0) ++ mth.encI (argI ds 1) ++ mth.encI (argI ds 2) ++ mth.encI (argI ds 3) ++ mth.encI ((argL ds 4).length : Int) ++ Eff.encs (((argL ds 4).take i).map effOf))), .int .i64 i], ⟨_, 0, by omega, rfl, by simp [Eff.encs, u8R_app]⟩, ?_⟩
  rintro d hd i' m ⟨i, hi, hmi, e⟩
  cases e
  refine ⟨fun hlt => ⟨by omega, ?_⟩, fun hge => ?_⟩
  · have hi2 : i < (argL ds 4).length := by omega
    have hr := hrow _ (getD_memL (d := []) hi2)
    have hle : (effOf ((argL ds 4).getD i [])).size ≤ Eff.sizes ((argL ds 4).map effOf) := Eff.size_le_sizes (List.mem_map.2 ⟨_, getD_memL hi2, rfl⟩)
    have hokx := Eff.oks_mem o5 _ (List.mem_map.2 ⟨_, getD_memL (d := ([] : List Dat)) hi2, rfl⟩)
    have hl1 := Eff.encs_len (((argL ds 4).take i).map effOf)
    have hl2 := Eff.sizes_take (argL ds 4) i
    have hl3 := Eff.enc_len (effOf ((argL ds 4).getD i []))
    simp only [Int.toNat_natCast, fold5 hr, mE, eBytes_s]
    simp only [argE_row0 hr]
    refine ⟨by omega, by omega, hokx, ?_, (argL ds 4).length - (i + 1), by omega, i + 1, by omega, rfl, ?_⟩
    · simp only [xs_rows, List.length_append, u8R_len, List.getD_cons_zero, List.nil_append]; omega
    · rw [wrap64 (by omega) (by omega), encs_take hi2]
      simp only [xs_rows, List.getD_cons_zero, List.nil_append, u8R_app, List.append_assoc]; rfl
  · have hkk : i = (argL ds 4).length := by omega
    rw [hkk, List.take_of_length_le (by omega)]
    exact h)
noncomputable def con_eBytes : Con E0 := ⟨k_eBytes, sg_eBytes, eBytes_s, rfl, bo_eBytes, eBytes_h⟩
def k_rBytes6 : Nat := 18
def sg_rBytes6 : Sig := ⟨[(true, List.replicate 4 (.int .i64) ++ [.list 24])], [(false, [.rows 5])], true, true, false⟩
def tr_rBytes6 : Tree := (.call k_rBytes2 [(.var 0)] [(.rows 5)]
(.call k_rBytes2 [(.var 1)] [(.rows 5)]
(.ob (.cmp .le (.len (.app (.app .emp (.var 5)) (.app .emp (.var 6)))) (.int .i64 140737488355328))
(.call k_rBytes2 [(.var 2)] [(.rows 5)]
(.ob (.cmp .le (.len (.app (.app (.app .emp (.var 5)) (.app .emp (.var 6))) (.app .emp (.var 7)))) (.int .i64 140737488355328))
(.call k_rBytes2 [(.var 3)] [(.rows 5)]
(.ob (.cmp .le (.len (.app (.app (.app (.app .emp (.var 5)) (.app .emp (.var 6))) (.app .emp (.var 7))) (.app .emp (.var 8)))) (.int .i64 140737488355328))
(.call k_rBytes2 [(.len (.var 4))] [(.rows 5)]
(.ob (.cmp .le (.len (.app (.app (.app (.app (.app .emp (.var 5)) (.app .emp (.var 6))) (.app .emp (.var 7))) (.app .emp (.var 8))) (.app .emp (.var 9)))) (.int .i64 140737488355328))
(.loop [(.app (.app (.app (.app (.app .emp (.var 5)) (.app .emp (.var 6))) (.app .emp (.var 7))) (.app .emp (.var 8))) (.app .emp (.var 9))), (.int .i64 0)] [(.rows 5), (.int .i64)]
 (.ite (.cmp .lt (.var 11) (.len (.var 4)))
  (.ob (.cmp .ge (.var 11) (.int .i64 0))
  (.call k_rBytes6 [(.elem (.var 4) (.var 11) 0 (.int .i64)), (.elem (.var 4) (.var 11) 1 (.int .i64)), (.elem (.var 4) (.var 11) 2 (.int .i64)), (.elem (.var 4) (.var 11) 3 (.int .i64)), (.elem (.var 4) (.var 11) 4 (.list 24))] [(.rows 5)]
  (.ob (.cmp .le (.len (.app (.var 10) (.app .emp (.var 12)))) (.int .i64 140737488355328))
  (.again 0 [(.app (.var 10) (.app .emp (.var 12))), (.ar .add .i64 (.var 11) (.int .i64 1))]))))
  (.ret [(.var 10)]))))))))))))
theorem wk_rBytes6 : walk E0.cx (sgsN [(26, sg_rBytes2), (18, sg_rBytes6)]) 0 18 sg_rBytes6 = tr_rBytes6 := by kernel_rfl
theorem bo_rBytes6 : ∃ x, bodyOf E0.P 18 = some x := bo_of (by kernel_rfl)
def rBytes6_s : Spec := fun ds Q => (argE ds).size ≤ 1000 ∧ (argE ds).ok ∧ Q [.rows (u8R (argE ds).enc)]
theorem rBytes6_h : Holds E0 k_rBytes6 sg_rBytes6 rBytes6_s := holds_rec mE fun n ih => con_fn wf0 mix0 g0 [con_rBytes2, ⟨_, _, _, rfl, bo_rBytes6, ih⟩] rfl wk_rBytes6 rfl (by
  intro Φ hΦ ds Q hs ⟨hm, hsz, hok, h⟩
  have hl : ds.length = 5 := hs.length.symm
  have sp : Φ k_rBytes6 = (fun ds Q => mE ds < n ∧ rBytes6_s ds Q) := by rw [hΦ]; rfl
  have sp1 : Φ k_rBytes2 = rBytes2_s := by rw [hΦ]; rfl
  clear hΦ
  have hrow := eff_len (all2_get hs (i := 4) rfl)
  rw [argL_fold] at hrow
  have hsub := argE_subs ds
  have hlen := Eff.length_le_sizes ((argL ds 4).map effOf)
  rw [List.length_map] at hlen
  rw [mE] at hm
  rw [Eff.size_eq, hsub] at hm hsz
  rw [Eff.enc_eq, hsub, List.length_map, argE_opI, argE_n, argE_m, argE_who] at h
  rw [Eff.ok_eq, argE_opI, argE_n, argE_m, argE_who, hsub] at hok
  obtain ⟨o1, o2, o3, o4, o5⟩ := hok
  have q1 := encI_len (argI ds 0)
  have q2 := encI_len (argI ds 1)
  have q3 := encI_len (argI ds 2)
  have q4 := encI_len (argI ds 3)
  have q5 := encI_len ((argL ds 4).length : Int)
  have a0 : ∀ {x y : List Dat}, argL (x ++ y) 0 = argL (x ++ y) 0 := rfl
  simp only [tr_rBytes6, wp, den_int, den_bool, den_nili, den_ar, den_cmp, den_not, den_len, den_elem, den_isnil, den_errI, den_ifc, den_rep, den_push, den_app, den_emp, den_upd, row0_econs, row0_enil, den_and, den_beq, den_nil, toInt_int, toBool_bool, xs_rows, xs_list, dflt_int, dflt_bool, of_eq, of_ne, of_lt, of_le, of_gt, of_ge, of_add, of_sub, of_rem, List.map_cons, List.map_nil, Dat.bool.injEq, decide_eq_true_eq, decide_eq_false_iff_not, Bool.not_eq_true', Bool.not_eq_false', beq_iff_eq, bne_iff_ne, beq_eq_false_iff_ne, bne_eq_false_iff_eq, ne_eq, List.append_assoc, List.cons_append, List.nil_append, allS, sp, sp1, rBytes2_s, @den_var0 E0.Δ ds, den_varA, den_varB, hl, Nat.reduceLT, Nat.reduceLeDiff, Nat.reduceSub, List.getD_cons_zero, List.getD_cons_succ, argL_fold ds, argI_fold ds, List.append_assoc, List.cons_append, List.nil_append, toInt_int, toBool_bool, xs_rows, xs_list, Int.toNat_natCast, Dat.bool.injEq, argL_c0, argI_c1, argI_c0]
  have p : ∀ i, i < 4 → True := fun _ _ => trivial
  refine ⟨o1.1, o1.2, o2.1, o2.2, ?_, o3.1, o3.2, ?_, o4.1, o4.2, ?_, by omega, by omega, ?_, ?_⟩
  · simp only [xs_rows, List.length_append, u8R_len, List.length_nil, List.nil_append]; omega
  · simp only [xs_rows, List.length_append, u8R_len, List.length_nil, List.nil_append]; omega
  · simp only [xs_rows, List.length_append, u8R_len, List.length_nil, List.nil_append]; omega
  · simp only [xs_rows, List.length_append, u8R_len, List.length_nil, List.nil_append]; omega
  refine ⟨fun xs m => ∃ i : Nat, i ≤ (argL ds 4).length ∧ m = (argL ds 4).length - i ∧ xs = [.rows (u8R (mth.encI (argI ds 0) ++ mth.encI (argI ds 1) ++ mth.encI (argI ds 2) ++ mth.encI (argI ds 3) ++ mth.encI ((argL ds 4).length : Int) ++ Eff.encs (((argL ds 4).take i).map effOf))), .int .i64 i], ⟨_, 0, by omega, rfl, by simp [Eff.encs, u8R_app]⟩, ?_⟩
  rintro d hd i' m ⟨i, hi, hmi, e⟩
  cases e
  refine ⟨fun hlt => ⟨by omega, ?_⟩, fun hge => ?_⟩
  · have hi2 : i < (argL ds 4).length := by omega
    have hr := hrow _ (getD_memL (d := []) hi2)
    have hle : (effOf ((argL ds 4).getD i [])).size ≤ Eff.sizes ((argL ds 4).map effOf) := Eff.size_le_sizes (List.mem_map.2 ⟨_, getD_memL hi2, rfl⟩)
    have hokx := Eff.oks_mem o5 _ (List.mem_map.2 ⟨_, getD_memL (d := ([] : List Dat)) hi2, rfl⟩)
    have hl1 := Eff.encs_len (((argL ds 4).take i).map effOf)
    have hl2 := Eff.sizes_take (argL ds 4) i
    have hl3 := Eff.enc_len (effOf ((argL ds 4).getD i []))
    simp only [Int.toNat_natCast, fold5 hr, mE, rBytes6_s]
    simp only [argE_row0 hr]
    refine ⟨by omega, by omega, hokx, ?_, (argL ds 4).length - (i + 1), by omega, i + 1, by omega, rfl, ?_⟩
    · simp only [xs_rows, List.length_append, u8R_len, List.getD_cons_zero, List.nil_append]; omega
    · rw [wrap64 (by omega) (by omega), encs_take hi2]
      simp only [xs_rows, List.getD_cons_zero, List.nil_append, u8R_app, List.append_assoc]; rfl
  · have hkk : i = (argL ds 4).length := by omega
    rw [hkk, List.take_of_length_le (by omega)]
    exact h)
noncomputable def con_rBytes6 : Con E0 := ⟨k_rBytes6, sg_rBytes6, rBytes6_s, rfl, bo_rBytes6, rBytes6_h⟩
end Go.Proofs.Ytkilkcgnfhlfiaa
