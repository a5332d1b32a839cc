/-
  Contracts: states that are larger than is looked at.
-/
import Derived.Test.YtlgfnimahmmgeaaNumA
namespace Go.Proofs.Ytlgfnimahmmgeaa
open Go.RowKit
set_option linter.unusedVariables false

/-- is a state larger? -/
def longS (s : St) (most : Int) : Bool := decide (most < (s.objs.length : Int)) || (List.range 11).any fun z => decide (most + 10 < ((s.ls z).length : Int))
def longFrom (s : St) (most : Int) (z m : Nat) : Bool := (List.range' z m).any fun z => decide (most + 10 < ((s.ls z).length : Int))
theorem longFrom_step {s : St} {most : Int} {z : Nat} (h : z < 11) : longFrom s most z (11 - z) = (decide (most + 10 < ((s.ls z).length : Int)) || longFrom s most (z + 1) (11 - (z + 1))) := by
  unfold longFrom
  rw [show 11 - z = (11 - (z + 1)) + 1 by omega, List.range'_succ, List.any_cons]
theorem longS_eq (s : St) (most : Int) (n : Nat) (h : s.objs.length = n) : longS s most = (decide (most < (n : Int)) || longFrom s most 0 (11 - 0)) := by
  unfold longS longFrom; rw [List.range_eq_range', h]
set_option maxRecDepth 100000 in
set_option maxHeartbeats 1000000 in
theorem Long_m (v : StV) (s : St) (most : Int) (w : World) (hst : StIn w v s) (h0 : 0 ≤ most) (h1 : most ≤ 1000000) :
    Calls Try.prog 11 #[.agg (stC v), .int .i64 most] w (Ret w (.bool (longS s most))) := by
  have HM := Lib.hid ((Mem.start (o := none) w).addSt hst)
  have hn := hst.hn 0 (by omega)
  have HN := Lib.hid hst.hn
  have HL := Lib.hid hst.len
  have HLL := Lib.hid (fun z hz => hst.llen (z := z) hz)
  have HE := Lib.hid (longS_eq s most _ hst.len)
  have HS := Lib.hid (stC_ls v)
  clear hst
  by_cases hlt : most < v.n 0
  · go_enter Try.func11, Try.ntmps11
    go_wp2_with (first
      | (refine M_box HM.out rfl rfl rfl ?_; clear HM; intro b2 w2 HM; replace HM := Lib.hid HM)
      | (refine M_of _ rfl (R_field rfl rfl Try.underlying36 rfl (by kernel_rfl)) ?_)
      | (refine M_of _ rfl (R_cell HM.out rfl rfl (by (repeat (first | exact List.Mem.head _ | apply List.Mem.tail)); done) (by first | exact ints_get _ (by decide) | exact stC_sl _ (by decide) | exact stC_pl _ (by decide) (by decide) | exact stC_gm _ (by decide) (by decide) | assumption | rfl) Try.underlying29 rfl) ?_)
      | (refine M_of _ rfl (R_at (HM.out.rdi (by (repeat (first | exact RdIn.rd _ | exact RdIn.ow _ | apply RdIn.tail)); done)) rfl rfl (by first | assumption | rfl) Try.underlying29 rfl) ?_)
      | (refine M_of _ rfl (R_row HM.out rfl rfl (by (repeat (first | exact List.Mem.head _ | apply List.Mem.tail)); done) Try.underlying31 rfl (by first | (simp only [ints_size, stC_size, ls_size]; exact tsz_31) | exact tsz_31)) ?_)
      | (refine M_of _ rfl (R_ats (HM.out.rdi (by (repeat (first | exact RdIn.rd _ | exact RdIn.ow _ | apply RdIn.tail)); done)) _ rfl rfl (by assumption) (by first | (rw [ints_size]; omega) | decide | simp) Try.underlying31 rfl (by first | (simp only [ints_size, stC_size, ls_size]; exact tsz_31) | exact tsz_31)) ?_)
      | (refine M_of _ rfl (R_sub HM.out _ rfl rfl (by (repeat (first | exact List.Mem.head _ | apply List.Mem.tail)); done) (by assumption) Try.underlying31 rfl (by first | (simp only [ints_size, stC_size, ls_size]; exact tsz_31) | exact tsz_31)) ?_)
      | (refine M_of _ rfl (R_pick rfl rfl rfl (by omega) (by omega) Try.underlying31 tsz_30 Try.underlying30 rfl (by first | exact ints_get _ (by omega) | assumption | exact ls_get _ (by omega) | rfl)) ?_))
    go_ret
    exact ⟨ret_bool (by rw [HE.out, decide_eq_true (by omega), Bool.true_or]), HM.out.below⟩
  · go_enter Try.func11, Try.ntmps11
    go_wp2_with (first
      | (refine M_box HM.out rfl rfl rfl ?_; clear HM; intro b2 w2 HM; replace HM := Lib.hid HM)
      | (refine M_of _ rfl (R_field rfl rfl Try.underlying36 rfl (by kernel_rfl)) ?_)
      | (refine M_of _ rfl (R_cell HM.out rfl rfl (by (repeat (first | exact List.Mem.head _ | apply List.Mem.tail)); done) (by first | exact ints_get _ (by decide) | exact stC_sl _ (by decide) | exact stC_pl _ (by decide) (by decide) | exact stC_gm _ (by decide) (by decide) | assumption | rfl) Try.underlying29 rfl) ?_)
      | (refine M_of _ rfl (R_at (HM.out.rdi (by (repeat (first | exact RdIn.rd _ | exact RdIn.ow _ | apply RdIn.tail)); done)) rfl rfl (by first | assumption | rfl) Try.underlying29 rfl) ?_)
      | (refine M_of _ rfl (R_row HM.out rfl rfl (by (repeat (first | exact List.Mem.head _ | apply List.Mem.tail)); done) Try.underlying31 rfl (by first | (simp only [ints_size, stC_size, ls_size]; exact tsz_31) | exact tsz_31)) ?_)
      | (refine M_of _ rfl (R_ats (HM.out.rdi (by (repeat (first | exact RdIn.rd _ | exact RdIn.ow _ | apply RdIn.tail)); done)) _ rfl rfl (by assumption) (by first | (rw [ints_size]; omega) | decide | simp) Try.underlying31 rfl (by first | (simp only [ints_size, stC_size, ls_size]; exact tsz_31) | exact tsz_31)) ?_)
      | (refine M_of _ rfl (R_sub HM.out _ rfl rfl (by (repeat (first | exact List.Mem.head _ | apply List.Mem.tail)); done) (by assumption) Try.underlying31 rfl (by first | (simp only [ints_size, stC_size, ls_size]; exact tsz_31) | exact tsz_31)) ?_)
      | (refine M_of _ rfl (R_pick rfl rfl rfl (by omega) (by omega) Try.underlying31 tsz_30 Try.underlying30 rfl (by first | exact ints_get _ (by omega) | assumption | exact ls_get _ (by omega) | rfl)) ?_))
    go_loopw [14, 6] (fun iv _ wr => ∃ z : Nat, z ≤ 11 ∧ iv = .int .i64 z ∧ Hid (longS s most = longFrom s most z (11 - z)) ∧ Mem none w wr [.row b2 (stC v) 36, .rd 18 (.slice (v.A 0) (v.n 0) (v.c 0)) (v.n 0) (rowsC 18 s.objs), .ls v s.ls]) (fun iv _ _ => 11 - (intOf iv).toNat)
    case atStart => exact ⟨0, by omega, rfl, Lib.hid (by rw [HE.out, decide_eq_false (by omega), Bool.false_or]), HM.out⟩
    case round =>
      obtain ⟨z, hz, rfl, HD, hm⟩ := hrel
      clear HM
      have HM := Lib.hid hm
      clear hm
      by_cases hz2 : z < 11
      · have HX := Lib.hid (ls_get v hz2)
        have HT := Lib.hid (longFrom_step (s := s) (most := most) hz2)
        have HLZ := Lib.hid (HLL.out z hz2)
        have hnz := HN.out (z + 1) (by omega)
        go_wp2_with (first
          | (refine M_box HM.out rfl rfl rfl ?_; clear HM; intro b2 w2 HM; replace HM := Lib.hid HM)
          | (refine M_of _ rfl (R_field rfl rfl Try.underlying36 rfl (by kernel_rfl)) ?_)
          | (refine M_of _ rfl (R_cell HM.out rfl rfl (by (repeat (first | exact List.Mem.head _ | apply List.Mem.tail)); done) (by first | exact ints_get _ (by decide) | exact stC_sl _ (by decide) | exact stC_pl _ (by decide) (by decide) | exact stC_gm _ (by decide) (by decide) | assumption | rfl) Try.underlying29 rfl) ?_)
          | (refine M_of _ rfl (R_at (HM.out.rdi (by (repeat (first | exact RdIn.rd _ | exact RdIn.ow _ | apply RdIn.tail)); done)) rfl rfl (by first | assumption | rfl) Try.underlying29 rfl) ?_)
          | (refine M_of _ rfl (R_row HM.out rfl rfl (by (repeat (first | exact List.Mem.head _ | apply List.Mem.tail)); done) Try.underlying31 rfl (by first | (simp only [ints_size, stC_size, ls_size]; exact tsz_31) | exact tsz_31)) ?_)
          | (refine M_of _ rfl (R_ats (HM.out.rdi (by (repeat (first | exact RdIn.rd _ | exact RdIn.ow _ | apply RdIn.tail)); done)) _ rfl rfl (by assumption) (by first | (rw [ints_size]; omega) | decide | simp) Try.underlying31 rfl (by first | (simp only [ints_size, stC_size, ls_size]; exact tsz_31) | exact tsz_31)) ?_)
          | (refine M_of _ rfl (R_sub HM.out _ rfl rfl (by (repeat (first | exact List.Mem.head _ | apply List.Mem.tail)); done) (by assumption) Try.underlying31 rfl (by first | (simp only [ints_size, stC_size, ls_size]; exact tsz_31) | exact tsz_31)) ?_)
          | (refine M_of _ rfl (R_pick rfl rfl rfl (by omega) (by omega) Try.underlying31 tsz_30 Try.underlying30 rfl (by first | exact ints_get _ (by omega) | assumption | exact ls_get _ (by omega) | rfl)) ?_))
        all_goals first
          | (go_ret; exact ⟨ret_bool (by rw [HD.out, HT.out, HLZ.out, decide_eq_true (by omega), Bool.true_or]), HM.out.below⟩)
          | (go_roundw
             case rel => exact ⟨z + 1, by omega, by go_num, Lib.hid (by rw [HD.out, HT.out, HLZ.out, decide_eq_false (by omega), Bool.false_or]), HM.out⟩
             case measure => simp [intOf]; omega)
      · obtain rfl : z = 11 := by omega
        go_wp2_with (first
          | (refine M_box HM.out rfl rfl rfl ?_; clear HM; intro b2 w2 HM; replace HM := Lib.hid HM)
          | (refine M_of _ rfl (R_field rfl rfl Try.underlying36 rfl (by kernel_rfl)) ?_)
          | (refine M_of _ rfl (R_cell HM.out rfl rfl (by (repeat (first | exact List.Mem.head _ | apply List.Mem.tail)); done) (by first | exact ints_get _ (by decide) | exact stC_sl _ (by decide) | exact stC_pl _ (by decide) (by decide) | exact stC_gm _ (by decide) (by decide) | assumption | rfl) Try.underlying29 rfl) ?_)
          | (refine M_of _ rfl (R_at (HM.out.rdi (by (repeat (first | exact RdIn.rd _ | exact RdIn.ow _ | apply RdIn.tail)); done)) rfl rfl (by first | assumption | rfl) Try.underlying29 rfl) ?_)
          | (refine M_of _ rfl (R_row HM.out rfl rfl (by (repeat (first | exact List.Mem.head _ | apply List.Mem.tail)); done) Try.underlying31 rfl (by first | (simp only [ints_size, stC_size, ls_size]; exact tsz_31) | exact tsz_31)) ?_)
          | (refine M_of _ rfl (R_ats (HM.out.rdi (by (repeat (first | exact RdIn.rd _ | exact RdIn.ow _ | apply RdIn.tail)); done)) _ rfl rfl (by assumption) (by first | (rw [ints_size]; omega) | decide | simp) Try.underlying31 rfl (by first | (simp only [ints_size, stC_size, ls_size]; exact tsz_31) | exact tsz_31)) ?_)
          | (refine M_of _ rfl (R_sub HM.out _ rfl rfl (by (repeat (first | exact List.Mem.head _ | apply List.Mem.tail)); done) (by assumption) Try.underlying31 rfl (by first | (simp only [ints_size, stC_size, ls_size]; exact tsz_31) | exact tsz_31)) ?_)
          | (refine M_of _ rfl (R_pick rfl rfl rfl (by omega) (by omega) Try.underlying31 tsz_30 Try.underlying30 rfl (by first | exact ints_get _ (by omega) | assumption | exact ls_get _ (by omega) | rfl)) ?_))
        go_ret
        exact ⟨ret_bool (by rw [HD.out]; rfl), HM.out.below⟩
end Go.Proofs.Ytlgfnimahmmgeaa
