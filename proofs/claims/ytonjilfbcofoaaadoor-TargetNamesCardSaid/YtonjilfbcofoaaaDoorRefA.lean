/-
  The document's answer for states.
-/
import Derived.Test.YtonjilfbcofoaaaDoorSymE0
import Derived.Test.YtonjilfbcofoaaaDoorSymP
namespace Go.Proofs.YtonjilfbcofoaaaDoor
open Go.RowKit
set_option linter.unusedVariables false
set_option linter.unusedSimpArgs false
def k_rin : Nat := 27
def sg_rin : Sig := ⟨[(false, [.int .i64]), (false, [.int .i64]), (false, [.int .i64])], [(false, [.bool])], false, false, false⟩
def tr_rin : Tree := (.ite (.cmp .ge (.var 0) (.var 1))
 (.ret [(.cmp .le (.var 0) (.var 2))])
 (.ret [(.bool false)]))
theorem wk_rin : walk E0.cx (sgsN []) 0 27 sg_rin = tr_rin := by kernel_rfl
theorem bo_rin : ∃ x, bodyOf E0.P 27 = some x := bo_of (by kernel_rfl)
def inB (n l m : Int) : Bool := decide (l ≤ n) && decide (n ≤ m)
def rin_s : Spec := fun ds Q => Q [.bool (inB (argI ds 0) (argI ds 1) (argI ds 2))]
theorem rin_h : Holds E0 k_rin sg_rin rin_s := con_each wf0 mix0 g0 [] rfl wk_rin rfl (by
  intro n l m Q h
  simp only [rin_s, argI, Dat.toInt, inB, List.getD_cons_zero, List.getD_cons_succ] at h
  simp only [tr_rin, wp, den, Dat.toInt, Cmp.of, List.nil_append, List.getD_cons_zero, List.getD_cons_succ, List.map_cons, List.map_nil, Dat.bool.injEq, decide_eq_true_eq, decide_eq_false_iff_not, ge_iff_le]
  exact ⟨fun h1 => by simpa [h1] using h, fun h1 => by simpa [h1] using h⟩)
noncomputable def con_rin : Con E0 := ⟨k_rin, sg_rin, rin_s, rfl, bo_rin, rin_h⟩
def k_robj : Nat := 26
def sg_robj : Sig := ⟨[(true, List.replicate 18 (.int .i64)), (false, [.int .i64])], [(false, [.bool])], false, false, false⟩
def tr_robj : Tree := (.call k_rin [(.var 0), (.int .i64 0), (.int .i64 119)] [.bool]
(.ite (.var 19)
 (.call k_rin [(.var 1), (.int .i64 0), (.int .i64 1)] [.bool]
 (.ite (.var 20)
  (.call k_rin [(.var 2), (.int .i64 0), (.int .i64 1)] [.bool]
  (.ite (.var 21)
   (.call k_rin [(.var 3), (.int .i64 0), (.int .i64 10)] [.bool]
   (.ite (.var 22)
    (.call k_rin [(.var 4), (.int .i64 0), (.int .i64 1)] [.bool]
    (.ite (.var 23)
     (.call k_rin [(.var 5), (.int .i64 0), (.int .i64 1)] [.bool]
     (.ite (.var 24)
      (.call k_rin [(.var 11), (.int .i64 0), (.int .i64 1)] [.bool]
      (.ite (.var 25)
       (.call k_rin [(.var 13), (.int .i64 0), (.int .i64 2)] [.bool]
       (.ite (.var 26)
        (.call k_rin [(.var 17), (.int .i64 0), (.int .i64 3)] [.bool]
        (.ite (.var 27)
         (.call k_rin [(.var 10), (.int .i64 0), (.int .i64 255)] [.bool]
         (.ite (.var 28)
          (.call k_rin [(.var 14), (.int .i64 0), (.int .i64 3)] [.bool]
          (.ite (.var 29)
           (.call k_rin [(.var 6), (.int .i64 0), (.int .i64 1073741824)] [.bool]
           (.ite (.var 30)
            (.call k_rin [(.var 7), (.int .i64 0), (.int .i64 1073741824)] [.bool]
            (.ite (.var 31)
             (.call k_rin [(.var 8), (.int .i64 (-1073741824)), (.int .i64 1073741824)] [.bool]
             (.ite (.var 32)
              (.call k_rin [(.var 9), (.int .i64 (-1073741824)), (.int .i64 1073741824)] [.bool]
              (.ite (.var 33)
               (.call k_rin [(.var 12), (.int .i64 0), (.var 18)] [.bool]
               (.ite (.var 34)
                (.call k_rin [(.var 15), (.int .i64 0), (.var 18)] [.bool]
                (.ite (.var 35)
                 (.call k_rin [(.var 16), (.int .i64 (-2)), (.var 18)] [.bool]
                 (.ret [(.var 36)]))
                 (.ret [(.bool false)])))
                (.ret [(.bool false)])))
               (.ret [(.bool false)])))
              (.ret [(.bool false)])))
             (.ret [(.bool false)])))
            (.ret [(.bool false)])))
           (.ret [(.bool false)])))
          (.ret [(.bool false)])))
         (.ret [(.bool false)])))
        (.ret [(.bool false)])))
       (.ret [(.bool false)])))
      (.ret [(.bool false)])))
     (.ret [(.bool false)])))
    (.ret [(.bool false)])))
   (.ret [(.bool false)])))
  (.ret [(.bool false)])))
 (.ret [(.bool false)])))
theorem wk_robj : walk E0.cx (sgsN [(27, sg_rin)]) 0 26 sg_robj = tr_robj := by kernel_rfl
theorem bo_robj : ∃ x, bodyOf E0.P 26 = some x := bo_of (by kernel_rfl)
theorem sp_robj_rin : specC [con_rin] k_rin = rin_s := rfl
def objB (o : List Dat) (m : Int) : Bool :=
  (inB (rowI o 0) 0 119 && inB (rowI o 1) 0 1 && inB (rowI o 2) 0 1 && inB (rowI o 3) 0 10 && inB (rowI o 4) 0 1 && inB (rowI o 5) 0 1 && inB (rowI o 11) 0 1 && inB (rowI o 13) 0 2 && inB (rowI o 17) 0 3 && inB (rowI o 10) 0 255 && inB (rowI o 14) 0 3)
  && inB (rowI o 6) 0 1073741824 && inB (rowI o 7) 0 1073741824 && inB (rowI o 8) (-1073741824) 1073741824 && inB (rowI o 9) (-1073741824) 1073741824 && inB (rowI o 12) 0 m && inB (rowI o 15) 0 m && inB (rowI o 16) (-2) m
def robj_s : Spec := fun ds Q => Q [.bool (objB (ds.take 18) (argI ds 18))]
theorem robj_h : Holds E0 k_robj sg_robj robj_s := con_each wf0 mix0 g0 [con_rin] rfl wk_robj rfl (by
  intro n0 n1 n2 n3 n4 n5 n6 n7 n8 n9 n10 n11 n12 n13 n14 n15 n16 n17 m Q h
  simp only [robj_s, argI, rowI, Dat.toInt, objB, List.getD_cons_zero, List.getD_cons_succ, List.take_succ_cons, List.take_zero] at h
  simp only [tr_robj, wp, den, Dat.toInt, Cmp.of, List.nil_append, List.cons_append, List.getD_cons_zero, List.getD_cons_succ, List.map_cons, List.map_nil, Dat.bool.injEq, sp_robj_rin, rin_s, argI]
  repeat' (refine And.intro (fun h1 => ?_) (fun h1 => ?_))
  all_goals simpa [*] using h)
noncomputable def con_robj : Con E0 := ⟨k_robj, sg_robj, robj_s, rfl, bo_robj, robj_h⟩
end Go.Proofs.YtonjilfbcofoaaaDoor
