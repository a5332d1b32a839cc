/-
  KnowHides: the law.
-/
import Derived.Test.YtlgfnimahmmgeaaDoorKnY
namespace Go.Proofs.YtlgfnimahmmgeaaDoor
open Go.RowKit
set_option linter.unusedVariables false
set_option linter.unusedSimpArgs false


def callK : Tree → Tree
  | .call _ _ _ k => k
  | t => t
noncomputable def con_rApply : Con E0 := ⟨k_rApply, sg_rApply, rApply_s, rfl, bo_rApply, rApply_h⟩
def k_lhides : Nat := 4
def sg_lhides : Sig := ⟨[(true, [.list 49] ++ List.replicate 11 (.list 3) ++ List.replicate 25 (.int .i64)), (false, [.int .i64]), (false, [.int .i64])], [(false, [.bool])], false, false, true⟩
def tr_lhides_1 : Tree := (.call k_rApply [(.var 0), (.var 1), (.var 2), (.var 3), (.var 4), (.var 5), (.var 6), (.var 7), (.var 8), (.var 9), (.var 10), (.var 11), (.var 12), (.var 13), (.var 14), (.var 15), (.var 16), (.var 17), (.var 18), (.var 19), (.var 20), (.var 21), (.var 22), (.var 23), (.var 24), (.var 25), (.var 26), (.var 27), (.var 28), (.var 29), (.var 30), (.var 31), (.var 32), (.var 33), (.var 34), (.var 35), (.var 36), (.elem (.var 44) (.int .i64 0) 0 (.int .i64)), (.elem (.var 44) (.int .i64 0) 1 (.int .i64)), (.elem (.var 44) (.int .i64 0) 2 (.int .i64)), (.elem (.var 44) (.int .i64 0) 3 (.int .i64)), (.elem (.var 44) (.int .i64 0) 4 (.int .i64)), (.elem (.var 44) (.int .i64 0) 5 (.int .i64))] [(.list 49), (.list 3), (.list 3), (.list 3), (.list 3), (.list 3), (.list 3), (.list 3), (.list 3), (.list 3), (.list 3), (.list 3), (.int .i64), (.int .i64), (.int .i64), (.int .i64), (.int .i64), (.int .i64), (.int .i64), (.int .i64), (.int .i64), (.int .i64), (.int .i64), (.int .i64), (.int .i64), (.int .i64), (.int .i64), (.int .i64), (.int .i64), (.int .i64), (.int .i64), (.int .i64), (.int .i64), (.int .i64), (.int .i64), (.int .i64), (.int .i64), (.int .i64)] (.ite (.cmp .ne (.var 84) (.int .i64 0)) (.ret [(.bool false)]) (.ob (.cmp .ge (.conv .i64 (.ar .rem .u64 (.conv .u64 (.var 37)) (.conv .u64 (.len (.var 0))))) (.int .i64 0)) (.ob (.cmp .lt (.conv .i64 (.ar .rem .u64 (.conv .u64 (.var 37)) (.conv .u64 (.len (.var 0))))) (.len (.var 47))) (.call k_Knows [(.elem (.var 47) (.conv .i64 (.ar .rem .u64 (.conv .u64 (.var 37)) (.conv .u64 (.len (.var 0))))) 0 (.int .i64)), (.elem (.var 47) (.conv .i64 (.ar .rem .u64 (.conv .u64 (.var 37)) (.conv .u64 (.len (.var 0))))) 1 (.int .i64)), (.elem (.var 47) (.conv .i64 (.ar .rem .u64 (.conv .u64 (.var 37)) (.conv .u64 (.len (.var 0))))) 2 (.int .i64)), (.elem (.var 47) (.conv .i64 (.ar .rem .u64 (.conv .u64 (.var 37)) (.conv .u64 (.len (.var 0))))) 3 (.int .i64)), (.elem (.var 47) (.conv .i64 (.ar .rem .u64 (.conv .u64 (.var 37)) (.conv .u64 (.len (.var 0))))) 4 (.int .i64)), (.elem (.var 47) (.conv .i64 (.ar .rem .u64 (.conv .u64 (.var 37)) (.conv .u64 (.len (.var 0))))) 5 (.int .i64)), (.elem (.var 47) (.conv .i64 (.ar .rem .u64 (.conv .u64 (.var 37)) (.conv .u64 (.len (.var 0))))) 6 (.int .i64)), (.elem (.var 47) (.conv .i64 (.ar .rem .u64 (.conv .u64 (.var 37)) (.conv .u64 (.len (.var 0))))) 7 (.int .i64)), (.elem (.var 47) (.conv .i64 (.ar .rem .u64 (.conv .u64 (.var 37)) (.conv .u64 (.len (.var 0))))) 8 (.int .i64)), (.elem (.var 47) (.conv .i64 (.ar .rem .u64 (.conv .u64 (.var 37)) (.conv .u64 (.len (.var 0))))) 9 (.int .i64)), (.elem (.var 47) (.conv .i64 (.ar .rem .u64 (.conv .u64 (.var 37)) (.conv .u64 (.len (.var 0))))) 10 (.int .i64)), (.elem (.var 47) (.conv .i64 (.ar .rem .u64 (.conv .u64 (.var 37)) (.conv .u64 (.len (.var 0))))) 11 (.int .i64)), (.elem (.var 47) (.conv .i64 (.ar .rem .u64 (.conv .u64 (.var 37)) (.conv .u64 (.len (.var 0))))) 12 (.int .i64)), (.elem (.var 47) (.conv .i64 (.ar .rem .u64 (.conv .u64 (.var 37)) (.conv .u64 (.len (.var 0))))) 13 (.int .i64)), (.elem (.var 47) (.conv .i64 (.ar .rem .u64 (.conv .u64 (.var 37)) (.conv .u64 (.len (.var 0))))) 14 (.int .i64)), (.elem (.var 47) (.conv .i64 (.ar .rem .u64 (.conv .u64 (.var 37)) (.conv .u64 (.len (.var 0))))) 15 (.int .i64)), (.elem (.var 47) (.conv .i64 (.ar .rem .u64 (.conv .u64 (.var 37)) (.conv .u64 (.len (.var 0))))) 16 (.int .i64)), (.elem (.var 47) (.conv .i64 (.ar .rem .u64 (.conv .u64 (.var 37)) (.conv .u64 (.len (.var 0))))) 17 (.int .i64)), (.var 43)] [.bool] (.ite (.not (.var 85)) (.ret [(.bool false)]) (.ob (.cmp .ge (.conv .i64 (.ar .rem .u64 (.conv .u64 (.var 37)) (.conv .u64 (.len (.var 0))))) (.int .i64 0)) (.ob (.cmp .lt (.conv .i64 (.ar .rem .u64 (.conv .u64 (.var 37)) (.conv .u64 (.len (.var 0))))) (.len (.var 47))) (.ob (.cmp .ge (.conv .i64 (.ar .rem .u64 (.conv .u64 (.var 37)) (.conv .u64 (.len (.var 0))))) (.int .i64 0)) (.ob (.cmp .lt (.conv .i64 (.ar .rem .u64 (.conv .u64 (.var 37)) (.conv .u64 (.len (.var 0))))) (.len (.var 0))) (.call k_Knows [(.elem (.var 47) (.conv .i64 (.ar .rem .u64 (.conv .u64 (.var 37)) (.conv .u64 (.len (.var 0))))) 0 (.int .i64)), (.elem (.var 47) (.conv .i64 (.ar .rem .u64 (.conv .u64 (.var 37)) (.conv .u64 (.len (.var 0))))) 1 (.int .i64)), (.elem (.var 47) (.conv .i64 (.ar .rem .u64 (.conv .u64 (.var 37)) (.conv .u64 (.len (.var 0))))) 2 (.int .i64)), (.elem (.var 47) (.conv .i64 (.ar .rem .u64 (.conv .u64 (.var 37)) (.conv .u64 (.len (.var 0))))) 3 (.int .i64)), (.elem (.var 47) (.conv .i64 (.ar .rem .u64 (.conv .u64 (.var 37)) (.conv .u64 (.len (.var 0))))) 4 (.int .i64)), (.elem (.var 47) (.conv .i64 (.ar .rem .u64 (.conv .u64 (.var 37)) (.conv .u64 (.len (.var 0))))) 5 (.int .i64)), (.elem (.var 47) (.conv .i64 (.ar .rem .u64 (.conv .u64 (.var 37)) (.conv .u64 (.len (.var 0))))) 6 (.int .i64)), (.elem (.var 47) (.conv .i64 (.ar .rem .u64 (.conv .u64 (.var 37)) (.conv .u64 (.len (.var 0))))) 7 (.int .i64)), (.elem (.var 47) (.conv .i64 (.ar .rem .u64 (.conv .u64 (.var 37)) (.conv .u64 (.len (.var 0))))) 8 (.int .i64)), (.elem (.var 47) (.conv .i64 (.ar .rem .u64 (.conv .u64 (.var 37)) (.conv .u64 (.len (.var 0))))) 9 (.int .i64)), (.elem (.var 47) (.conv .i64 (.ar .rem .u64 (.conv .u64 (.var 37)) (.conv .u64 (.len (.var 0))))) 10 (.int .i64)), (.elem (.var 47) (.conv .i64 (.ar .rem .u64 (.conv .u64 (.var 37)) (.conv .u64 (.len (.var 0))))) 11 (.int .i64)), (.elem (.var 47) (.conv .i64 (.ar .rem .u64 (.conv .u64 (.var 37)) (.conv .u64 (.len (.var 0))))) 12 (.int .i64)), (.elem (.var 47) (.conv .i64 (.ar .rem .u64 (.conv .u64 (.var 37)) (.conv .u64 (.len (.var 0))))) 13 (.int .i64)), (.elem (.var 47) (.conv .i64 (.ar .rem .u64 (.conv .u64 (.var 37)) (.conv .u64 (.len (.var 0))))) 14 (.int .i64)), (.elem (.var 47) (.conv .i64 (.ar .rem .u64 (.conv .u64 (.var 37)) (.conv .u64 (.len (.var 0))))) 15 (.int .i64)), (.elem (.var 47) (.conv .i64 (.ar .rem .u64 (.conv .u64 (.var 37)) (.conv .u64 (.len (.var 0))))) 16 (.int .i64)), (.elem (.var 47) (.conv .i64 (.ar .rem .u64 (.conv .u64 (.var 37)) (.conv .u64 (.len (.var 0))))) 17 (.int .i64)), (.ar .sub .i64 (.int .i64 1) (.var 43))] [.bool] (.call k_Knows [(.elem (.var 0) (.conv .i64 (.ar .rem .u64 (.conv .u64 (.var 37)) (.conv .u64 (.len (.var 0))))) 0 (.int .i64)), (.elem (.var 0) (.conv .i64 (.ar .rem .u64 (.conv .u64 (.var 37)) (.conv .u64 (.len (.var 0))))) 1 (.int .i64)), (.elem (.var 0) (.conv .i64 (.ar .rem .u64 (.conv .u64 (.var 37)) (.conv .u64 (.len (.var 0))))) 2 (.int .i64)), (.elem (.var 0) (.conv .i64 (.ar .rem .u64 (.conv .u64 (.var 37)) (.conv .u64 (.len (.var 0))))) 3 (.int .i64)), (.elem (.var 0) (.conv .i64 (.ar .rem .u64 (.conv .u64 (.var 37)) (.conv .u64 (.len (.var 0))))) 4 (.int .i64)), (.elem (.var 0) (.conv .i64 (.ar .rem .u64 (.conv .u64 (.var 37)) (.conv .u64 (.len (.var 0))))) 5 (.int .i64)), (.elem (.var 0) (.conv .i64 (.ar .rem .u64 (.conv .u64 (.var 37)) (.conv .u64 (.len (.var 0))))) 6 (.int .i64)), (.elem (.var 0) (.conv .i64 (.ar .rem .u64 (.conv .u64 (.var 37)) (.conv .u64 (.len (.var 0))))) 7 (.int .i64)), (.elem (.var 0) (.conv .i64 (.ar .rem .u64 (.conv .u64 (.var 37)) (.conv .u64 (.len (.var 0))))) 8 (.int .i64)), (.elem (.var 0) (.conv .i64 (.ar .rem .u64 (.conv .u64 (.var 37)) (.conv .u64 (.len (.var 0))))) 9 (.int .i64)), (.elem (.var 0) (.conv .i64 (.ar .rem .u64 (.conv .u64 (.var 37)) (.conv .u64 (.len (.var 0))))) 10 (.int .i64)), (.elem (.var 0) (.conv .i64 (.ar .rem .u64 (.conv .u64 (.var 37)) (.conv .u64 (.len (.var 0))))) 11 (.int .i64)), (.elem (.var 0) (.conv .i64 (.ar .rem .u64 (.conv .u64 (.var 37)) (.conv .u64 (.len (.var 0))))) 12 (.int .i64)), (.elem (.var 0) (.conv .i64 (.ar .rem .u64 (.conv .u64 (.var 37)) (.conv .u64 (.len (.var 0))))) 13 (.int .i64)), (.elem (.var 0) (.conv .i64 (.ar .rem .u64 (.conv .u64 (.var 37)) (.conv .u64 (.len (.var 0))))) 14 (.int .i64)), (.elem (.var 0) (.conv .i64 (.ar .rem .u64 (.conv .u64 (.var 37)) (.conv .u64 (.len (.var 0))))) 15 (.int .i64)), (.elem (.var 0) (.conv .i64 (.ar .rem .u64 (.conv .u64 (.var 37)) (.conv .u64 (.len (.var 0))))) 16 (.int .i64)), (.elem (.var 0) (.conv .i64 (.ar .rem .u64 (.conv .u64 (.var 37)) (.conv .u64 (.len (.var 0))))) 17 (.int .i64)), (.ar .sub .i64 (.int .i64 1) (.var 43))] [.bool] (.ite (.not (.beq (.var 86) (.var 87))) (.ret [(.bool false)]) (.ob (.cmp .ge (.conv .u64 (.var 43)) (.int .u64 0)) (.call k_Hide [(.var 47), (.var 48), (.var 49), (.var 50), (.var 51), (.var 52), (.var 53), (.var 54), (.var 55), (.var 56), (.var 57), (.var 58), (.var 59), (.var 60), (.var 61), (.var 62), (.var 63), (.var 64), (.var 65), (.var 66), (.var 67), (.var 68), (.var 69), (.var 70), (.var 71), (.var 72), (.var 73), (.var 74), (.var 75), (.var 76), (.var 77), (.var 78), (.var 79), (.var 80), (.var 81), (.var 82), (.var 83), (.conv .i64 (.ar .rem .u64 (.conv .u64 (.var 37)) (.conv .u64 (.len (.var 0))))), (.ar .shl .i64 (.int .i64 1) (.conv .u64 (.var 43)))] [(.list 53)] (.ite (.cmp .ne (.len (.var 88)) (.int .i64 1)) (.ret [(.bool false)]) (.ob (.cmp .lt (.int .i64 0) (.len (.var 88))) (.ob (.cmp .lt (.int .i64 0) (.len (.var 44))) (.call k_Invert [(.elem (.var 44) (.int .i64 0) 0 (.int .i64)), (.elem (.var 44) (.int .i64 0) 1 (.int .i64)), (.elem (.var 44) (.int .i64 0) 2 (.int .i64)), (.elem (.var 44) (.int .i64 0) 3 (.int .i64)), (.elem (.var 44) (.int .i64 0) 4 (.int .i64)), (.elem (.var 44) (.int .i64 0) 5 (.int .i64))] [(.int .i64), (.int .i64), (.int .i64), (.int .i64), (.int .i64), (.int .i64)] (.ite (.not (.and (.cmp .eq (.elem (.var 88) (.int .i64 0) 0 (.int .i64)) (.var 89)) (.and (.cmp .eq (.elem (.var 88) (.int .i64 0) 1 (.int .i64)) (.var 90)) (.and (.cmp .eq (.elem (.var 88) (.int .i64 0) 2 (.int .i64)) (.var 91)) (.and (.cmp .eq (.elem (.var 88) (.int .i64 0) 3 (.int .i64)) (.var 92)) (.and (.cmp .eq (.elem (.var 88) (.int .i64 0) 4 (.int .i64)) (.var 93)) (.cmp .eq (.elem (.var 88) (.int .i64 0) 5 (.int .i64)) (.var 94)))))))) (.ret [(.bool false)]) (.ob (.cmp .le (.len (.app .emp (.var 0))) (.int .i64 977343669134)) (.loop [(.int .i64 0), (.var 1), (.var 2), (.var 3), (.var 4), (.var 5), (.var 6), (.var 7), (.var 8), (.var 9), (.var 10), (.var 11)] [(.int .i64), (.list 3), (.list 3), (.list 3), (.list 3), (.list 3), (.list 3), (.list 3), (.list 3), (.list 3), (.list 3), (.list 3)] (.ite (.cmp .lt (.var 95) (.int .i64 11)) (.ob (.cmp .ge (.var 95) (.int .i64 0)) (.ob (.cmp .le (.len (.app .emp (.sel (.econs (.var 96) (.econs (.var 97) (.econs (.var 98) (.econs (.var 99) (.econs (.var 100) (.econs (.var 101) (.econs (.var 102) (.econs (.var 103) (.econs (.var 104) (.econs (.var 105) (.econs (.var 106) .enil))))))))))) (.var 95) (.list 3)))) (.int .i64 17592186044416)) (.ob (.cmp .ge (.var 95) (.int .i64 0)) (.share 3 (.app .emp (.sel (.econs (.var 96) (.econs (.var 97) (.econs (.var 98) (.econs (.var 99) (.econs (.var 100) (.econs (.var 101) (.econs (.var 102) (.econs (.var 103) (.econs (.var 104) (.econs (.var 105) (.econs (.var 106) .enil))))))))))) (.var 95) (.list 3))) (.again 1 [(.ar .add .i64 (.var 95) (.int .i64 1)), (.ite (.cmp .eq (.var 95) (.int .i64 0)) (.var 107) (.var 96)), (.ite (.cmp .eq (.var 95) (.int .i64 1)) (.var 107) (.var 97)), (.ite (.cmp .eq (.var 95) (.int .i64 2)) (.var 107) (.var 98)), (.ite (.cmp .eq (.var 95) (.int .i64 3)) (.var 107) (.var 99)), (.ite (.cmp .eq (.var 95) (.int .i64 4)) (.var 107) (.var 100)), (.ite (.cmp .eq (.var 95) (.int .i64 5)) (.var 107) (.var 101)), (.ite (.cmp .eq (.var 95) (.int .i64 6)) (.var 107) (.var 102)), (.ite (.cmp .eq (.var 95) (.int .i64 7)) (.var 107) (.var 103)), (.ite (.cmp .eq (.var 95) (.int .i64 8)) (.var 107) (.var 104)), (.ite (.cmp .eq (.var 95) (.int .i64 9)) (.var 107) (.var 105)), (.ite (.cmp .eq (.var 95) (.int .i64 10)) (.var 107) (.var 106))]))))) (.ob (.cmp .ge (.conv .i64 (.ar .rem .u64 (.conv .u64 (.var 37)) (.conv .u64 (.len (.var 0))))) (.int .i64 0)) (.ob (.cmp .lt (.conv .i64 (.ar .rem .u64 (.conv .u64 (.var 37)) (.conv .u64 (.len (.var 0))))) (.len (.app .emp (.var 0)))) (.call k_Sees [(.var 0), (.var 1), (.var 2), (.var 3), (.var 4), (.var 5), (.var 6), (.var 7), (.var 8), (.var 9), (.var 10), (.var 11), (.var 12), (.var 13), (.var 14), (.var 15), (.var 16), (.var 17), (.var 18), (.var 19), (.var 20), (.var 21), (.var 22), (.var 23), (.var 24), (.var 25), (.var 26), (.var 27), (.var 28), (.var 29), (.var 30), (.var 31), (.var 32), (.var 33), (.var 34), (.var 35), (.var 36), (.var 43)] [(.list 49), (.list 3), (.list 3), (.list 3), (.list 3), (.list 3), (.list 3), (.list 3), (.list 3), (.list 3), (.list 3), (.list 3), (.int .i64), (.int .i64), (.int .i64), (.int .i64), (.int .i64), (.int .i64), (.int .i64), (.int .i64), (.int .i64), (.int .i64), (.int .i64), (.int .i64), (.int .i64), (.int .i64), (.int .i64), (.int .i64), (.int .i64), (.int .i64), (.int .i64), (.int .i64), (.int .i64), (.int .i64), (.int .i64), (.int .i64), (.int .i64), .err] (.share 49 (.upd (.app .emp (.var 0)) (.conv .i64 (.ar .rem .u64 (.conv .u64 (.var 37)) (.conv .u64 (.len (.var 0))))) 0 (.conv .i64 (.ar .rem .u64 (.conv .u64 (.var 38)) (.int .u64 120)))) (.call k_Sees [(.var 145), (.var 96), (.var 97), (.var 98), (.var 99), (.var 100), (.var 101), (.var 102), (.var 103), (.var 104), (.var 105), (.var 106), (.var 12), (.var 13), (.var 14), (.var 15), (.var 16), (.var 17), (.var 18), (.var 19), (.var 20), (.var 21), (.var 22), (.var 23), (.var 24), (.var 25), (.var 26), (.var 27), (.var 28), (.var 29), (.var 30), (.var 31), (.var 32), (.var 33), (.var 34), (.var 35), (.var 36), (.var 43)] [(.list 49), (.list 3), (.list 3), (.list 3), (.list 3), (.list 3), (.list 3), (.list 3), (.list 3), (.list 3), (.list 3), (.list 3), (.int .i64), (.int .i64), (.int .i64), (.int .i64), (.int .i64), (.int .i64), (.int .i64), (.int .i64), (.int .i64), (.int .i64), (.int .i64), (.int .i64), (.int .i64), (.int .i64), (.int .i64), (.int .i64), (.int .i64), (.int .i64), (.int .i64), (.int .i64), (.int .i64), (.int .i64), (.int .i64), (.int .i64), (.int .i64), .err] (.ite (.not (.isnil (.var 144))) (.ret [(.bool false)]) (.ite (.not (.isnil (.var 183))) (.ret [(.bool false)]) (.call k_nStates [(.var 107), (.var 108), (.var 109), (.var 110), (.var 111), (.var 112), (.var 113), (.var 114), (.var 115), (.var 116), (.var 117), (.var 118), (.var 119), (.var 120), (.var 121), (.var 122), (.var 123), (.var 124), (.var 125), (.var 126), (.var 127), (.var 128), (.var 129), (.var 130), (.var 131), (.var 132), (.var 133), (.var 134), (.var 135), (.var 136), (.var 137), (.var 138), (.var 139), (.var 140), (.var 141), (.var 142), (.var 143), (.var 146), (.var 147), (.var 148), (.var 149), (.var 150), (.var 151), (.var 152), (.var 153), (.var 154), (.var 155), (.var 156), (.var 157), (.var 158), (.var 159), (.var 160), (.var 161), (.var 162), (.var 163), (.var 164), (.var 165), (.var 166), (.var 167), (.var 168), (.var 169), (.var 170), (.var 171), (.var 172), (.var 173), (.var 174), (.var 175), (.var 176), (.var 177), (.var 178), (.var 179), (.var 180), (.var 181), (.var 182)] [.bool] (.ite (.not (.var 184)) (.ret [(.bool false)]) (.again 0 [(.var 42), (.ar .add .i64 (.var 43) (.int .i64 1))])))))))))))))))))))))))))))))))))
def tr_lhides : Tree := (.call k_alive15 [] [.bool] (.ite (.not (.var 39)) (.ret [(.bool false)]) (.call k_Long [(.var 0), (.var 1), (.var 2), (.var 3), (.var 4), (.var 5), (.var 6), (.var 7), (.var 8), (.var 9), (.var 10), (.var 11), (.var 12), (.var 13), (.var 14), (.var 15), (.var 16), (.var 17), (.var 18), (.var 19), (.var 20), (.var 21), (.var 22), (.var 23), (.var 24), (.var 25), (.var 26), (.var 27), (.var 28), (.var 29), (.var 30), (.var 31), (.var 32), (.var 33), (.var 34), (.var 35), (.var 36), (.int .i64 60)] [.bool] (.ite (.var 40) (.ret [(.bool true)]) (.call k_rCheck [(.var 0), (.var 1), (.var 2), (.var 3), (.var 4), (.var 5), (.var 6), (.var 7), (.var 8), (.var 9), (.var 10), (.var 11), (.var 12), (.var 13), (.var 14), (.var 15), (.var 16), (.var 17), (.var 18), (.var 19), (.var 20), (.var 21), (.var 22), (.var 23), (.var 24), (.var 25), (.var 26), (.var 27), (.var 28), (.var 29), (.var 30), (.var 31), (.var 32), (.var 33), (.var 34), (.var 35), (.var 36)] [(.int .i64)] (.ite (.or (.cmp .ne (.var 41) (.int .i64 0)) (.cmp .eq (.len (.var 0)) (.int .i64 0))) (.ret [(.bool true)]) (.ob (.cmp .ne (.conv .u64 (.len (.var 0))) (.int .u64 0)) (.loop [(.bool false), (.int .i64 0)] [.bool, (.int .i64)] (.ite (.cmp .lt (.var 43) (.int .i64 2)) (.ob (.cmp .ge (.conv .u64 (.var 43)) (.int .u64 0)) (.call k_Show [(.var 0), (.var 1), (.var 2), (.var 3), (.var 4), (.var 5), (.var 6), (.var 7), (.var 8), (.var 9), (.var 10), (.var 11), (.var 12), (.var 13), (.var 14), (.var 15), (.var 16), (.var 17), (.var 18), (.var 19), (.var 20), (.var 21), (.var 22), (.var 23), (.var 24), (.var 25), (.var 26), (.var 27), (.var 28), (.var 29), (.var 30), (.var 31), (.var 32), (.var 33), (.var 34), (.var 35), (.var 36), (.conv .i64 (.ar .rem .u64 (.conv .u64 (.var 37)) (.conv .u64 (.len (.var 0))))), (.ar .shl .i64 (.int .i64 1) (.conv .u64 (.var 43)))] [(.list 53)] (.call k_Gained [(.var 44)] [.bool] (.ite (.not (.beq (.var 45) (.cmp .gt (.len (.var 44)) (.int .i64 0)))) (.ret [(.bool false)]) (.ob (.cmp .ge (.conv .i64 (.ar .rem .u64 (.conv .u64 (.var 37)) (.conv .u64 (.len (.var 0))))) (.int .i64 0)) (.ob (.cmp .lt (.conv .i64 (.ar .rem .u64 (.conv .u64 (.var 37)) (.conv .u64 (.len (.var 0))))) (.len (.var 0))) (.call k_Knows [(.elem (.var 0) (.conv .i64 (.ar .rem .u64 (.conv .u64 (.var 37)) (.conv .u64 (.len (.var 0))))) 0 (.int .i64)), (.elem (.var 0) (.conv .i64 (.ar .rem .u64 (.conv .u64 (.var 37)) (.conv .u64 (.len (.var 0))))) 1 (.int .i64)), (.elem (.var 0) (.conv .i64 (.ar .rem .u64 (.conv .u64 (.var 37)) (.conv .u64 (.len (.var 0))))) 2 (.int .i64)), (.elem (.var 0) (.conv .i64 (.ar .rem .u64 (.conv .u64 (.var 37)) (.conv .u64 (.len (.var 0))))) 3 (.int .i64)), (.elem (.var 0) (.conv .i64 (.ar .rem .u64 (.conv .u64 (.var 37)) (.conv .u64 (.len (.var 0))))) 4 (.int .i64)), (.elem (.var 0) (.conv .i64 (.ar .rem .u64 (.conv .u64 (.var 37)) (.conv .u64 (.len (.var 0))))) 5 (.int .i64)), (.elem (.var 0) (.conv .i64 (.ar .rem .u64 (.conv .u64 (.var 37)) (.conv .u64 (.len (.var 0))))) 6 (.int .i64)), (.elem (.var 0) (.conv .i64 (.ar .rem .u64 (.conv .u64 (.var 37)) (.conv .u64 (.len (.var 0))))) 7 (.int .i64)), (.elem (.var 0) (.conv .i64 (.ar .rem .u64 (.conv .u64 (.var 37)) (.conv .u64 (.len (.var 0))))) 8 (.int .i64)), (.elem (.var 0) (.conv .i64 (.ar .rem .u64 (.conv .u64 (.var 37)) (.conv .u64 (.len (.var 0))))) 9 (.int .i64)), (.elem (.var 0) (.conv .i64 (.ar .rem .u64 (.conv .u64 (.var 37)) (.conv .u64 (.len (.var 0))))) 10 (.int .i64)), (.elem (.var 0) (.conv .i64 (.ar .rem .u64 (.conv .u64 (.var 37)) (.conv .u64 (.len (.var 0))))) 11 (.int .i64)), (.elem (.var 0) (.conv .i64 (.ar .rem .u64 (.conv .u64 (.var 37)) (.conv .u64 (.len (.var 0))))) 12 (.int .i64)), (.elem (.var 0) (.conv .i64 (.ar .rem .u64 (.conv .u64 (.var 37)) (.conv .u64 (.len (.var 0))))) 13 (.int .i64)), (.elem (.var 0) (.conv .i64 (.ar .rem .u64 (.conv .u64 (.var 37)) (.conv .u64 (.len (.var 0))))) 14 (.int .i64)), (.elem (.var 0) (.conv .i64 (.ar .rem .u64 (.conv .u64 (.var 37)) (.conv .u64 (.len (.var 0))))) 15 (.int .i64)), (.elem (.var 0) (.conv .i64 (.ar .rem .u64 (.conv .u64 (.var 37)) (.conv .u64 (.len (.var 0))))) 16 (.int .i64)), (.elem (.var 0) (.conv .i64 (.ar .rem .u64 (.conv .u64 (.var 37)) (.conv .u64 (.len (.var 0))))) 17 (.int .i64)), (.var 43)] [.bool] (.ite (.not (.beq (.var 46) (.cmp .eq (.len (.var 44)) (.int .i64 0)))) (.ret [(.bool false)]) (.ite (.cmp .eq (.len (.var 44)) (.int .i64 0)) (.again 0 [(.var 42), (.ar .add .i64 (.var 43) (.int .i64 1))]) (.ob (.cmp .lt (.int .i64 0) (.len (.var 44))) (.both tr_lhides_1 tr_lhides_1))))))))))) (.ret [(.bool true)]))))))))))
theorem wk_lhides : walk E0.cx (sgsN [(5, sg_alive15), (6, sg_Long), (10, sg_rCheck), (14, sg_Show), (18, sg_Hide), (15, sg_Gained), (16, sg_Knows), (17, sg_rApply), (19, sg_Invert), (8, sg_Sees), (9, sg_nStates)]) 0 4 sg_lhides = tr_lhides := by kernel_rfl
theorem bo_lhides : ∃ x, bodyOf E0.P 4 = some x := bo_of (by kernel_rfl)
theorem sp_lhides_alive15 : specC [con_alive15, con_Long, con_rCheck, con_Show, con_Hide, con_Gained, con_Knows, con_rApply, con_Invert, con_Sees, con_nStates] k_alive15 = alive15_s := rfl
theorem sp_lhides_Long : specC [con_alive15, con_Long, con_rCheck, con_Show, con_Hide, con_Gained, con_Knows, con_rApply, con_Invert, con_Sees, con_nStates] k_Long = Long_s := rfl
theorem sp_lhides_rCheck : specC [con_alive15, con_Long, con_rCheck, con_Show, con_Hide, con_Gained, con_Knows, con_rApply, con_Invert, con_Sees, con_nStates] k_rCheck = rCheck_s := rfl
theorem sp_lhides_Show : specC [con_alive15, con_Long, con_rCheck, con_Show, con_Hide, con_Gained, con_Knows, con_rApply, con_Invert, con_Sees, con_nStates] k_Show = Show_s := rfl
theorem sp_lhides_Hide : specC [con_alive15, con_Long, con_rCheck, con_Show, con_Hide, con_Gained, con_Knows, con_rApply, con_Invert, con_Sees, con_nStates] k_Hide = Hide_s := rfl
theorem sp_lhides_Gained : specC [con_alive15, con_Long, con_rCheck, con_Show, con_Hide, con_Gained, con_Knows, con_rApply, con_Invert, con_Sees, con_nStates] k_Gained = Gained_s := rfl
theorem sp_lhides_Knows : specC [con_alive15, con_Long, con_rCheck, con_Show, con_Hide, con_Gained, con_Knows, con_rApply, con_Invert, con_Sees, con_nStates] k_Knows = Knows_s := rfl
theorem sp_lhides_rApply : specC [con_alive15, con_Long, con_rCheck, con_Show, con_Hide, con_Gained, con_Knows, con_rApply, con_Invert, con_Sees, con_nStates] k_rApply = rApply_s := rfl
theorem sp_lhides_Invert : specC [con_alive15, con_Long, con_rCheck, con_Show, con_Hide, con_Gained, con_Knows, con_rApply, con_Invert, con_Sees, con_nStates] k_Invert = Invert_s := rfl
theorem sp_lhides_Sees : specC [con_alive15, con_Long, con_rCheck, con_Show, con_Hide, con_Gained, con_Knows, con_rApply, con_Invert, con_Sees, con_nStates] k_Sees = Sees_s := rfl
theorem sp_lhides_nStates : specC [con_alive15, con_Long, con_rCheck, con_Show, con_Hide, con_Gained, con_Knows, con_rApply, con_Invert, con_Sees, con_nStates] k_nStates = nStates_s := rfl


theorem take37' {ds : List Dat} (h : 37 ≤ ds.length) : [ds.getD 0 (.bool false), ds.getD 1 (.bool false), ds.getD 2 (.bool false), ds.getD 3 (.bool false), ds.getD 4 (.bool false), ds.getD 5 (.bool false), ds.getD 6 (.bool false), ds.getD 7 (.bool false), ds.getD 8 (.bool false), ds.getD 9 (.bool false), ds.getD 10 (.bool false), ds.getD 11 (.bool false), ds.getD 12 (.bool false), ds.getD 13 (.bool false), ds.getD 14 (.bool false), ds.getD 15 (.bool false), ds.getD 16 (.bool false), ds.getD 17 (.bool false), ds.getD 18 (.bool false), ds.getD 19 (.bool false), ds.getD 20 (.bool false), ds.getD 21 (.bool false), ds.getD 22 (.bool false), ds.getD 23 (.bool false), ds.getD 24 (.bool false), ds.getD 25 (.bool false), ds.getD 26 (.bool false), ds.getD 27 (.bool false), ds.getD 28 (.bool false), ds.getD 29 (.bool false), ds.getD 30 (.bool false), ds.getD 31 (.bool false), ds.getD 32 (.bool false), ds.getD 33 (.bool false), ds.getD 34 (.bool false), ds.getD 35 (.bool false), ds.getD 36 (.bool false)] = ds.take 37 := by
  refine List.ext_getElem (by rw [List.length_take, Nat.min_eq_left h]; rfl) fun i h1 h2 => ?_
  rw [List.getElem_take]
  have e : ∀ j (hj : j < ds.length), ds.getD j (.bool false) = ds[j] := fun j hj => by rw [List.getD_eq_getElem?_getD, List.getElem?_eq_getElem hj]; rfl
  have h3 : i < 37 := h1
  match i, h3 with
  | 0, _ => exact e 0 (by omega)
  | 1, _ => exact e 1 (by omega)
  | 2, _ => exact e 2 (by omega)
  | 3, _ => exact e 3 (by omega)
  | 4, _ => exact e 4 (by omega)
  | 5, _ => exact e 5 (by omega)
  | 6, _ => exact e 6 (by omega)
  | 7, _ => exact e 7 (by omega)
  | 8, _ => exact e 8 (by omega)
  | 9, _ => exact e 9 (by omega)
  | 10, _ => exact e 10 (by omega)
  | 11, _ => exact e 11 (by omega)
  | 12, _ => exact e 12 (by omega)
  | 13, _ => exact e 13 (by omega)
  | 14, _ => exact e 14 (by omega)
  | 15, _ => exact e 15 (by omega)
  | 16, _ => exact e 16 (by omega)
  | 17, _ => exact e 17 (by omega)
  | 18, _ => exact e 18 (by omega)
  | 19, _ => exact e 19 (by omega)
  | 20, _ => exact e 20 (by omega)
  | 21, _ => exact e 21 (by omega)
  | 22, _ => exact e 22 (by omega)
  | 23, _ => exact e 23 (by omega)
  | 24, _ => exact e 24 (by omega)
  | 25, _ => exact e 25 (by omega)
  | 26, _ => exact e 26 (by omega)
  | 27, _ => exact e 27 (by omega)
  | 28, _ => exact e 28 (by omega)
  | 29, _ => exact e 29 (by omega)
  | 30, _ => exact e 30 (by omega)
  | 31, _ => exact e 31 (by omega)
  | 32, _ => exact e 32 (by omega)
  | 33, _ => exact e 33 (by omega)
  | 34, _ => exact e 34 (by omega)
  | 35, _ => exact e 35 (by omega)
  | 36, _ => exact e 36 (by omega)
  | i + 37, h => exact absurd h (by omega)
def gs (ρ : List Dat) (k n : Nat) : List Dat := (List.range n).map fun i => ρ.getD (k + i) (.bool false)
theorem gs_seg {ρ : List Dat} {k n : Nat} (h : k + n ≤ ρ.length) : gs ρ k n = (ρ.drop k).take n := by
  refine List.ext_getElem ?_ fun i h1 h2 => ?_
  · simp [gs]; omega
  · have hi : i < n := by simpa [gs] using h1
    simp only [gs, List.getElem_map, List.getElem_range, List.getElem_take, List.getElem_drop, List.getD_eq_getElem?_getD]
    rw [List.getElem?_eq_getElem (by omega)]; rfl
theorem getD_r {T l : List Dat} {k j : Nat} {d : Dat} (h : T.length = k) : (T ++ l).getD (k + j) d = l.getD j d := by
  subst h
  rw [List.getD_eq_getElem?_getD, List.getElem?_append_right (by omega), Nat.add_sub_cancel_left, ← List.getD_eq_getElem?_getD]
theorem argI_take {ds : List Dat} {k i : Nat} (h : i < k) : argI (ds.take k) i = argI ds i := by
  unfold argI; rw [List.getD_eq_getElem?_getD, List.getD_eq_getElem?_getD, List.getElem?_take_of_lt h]
theorem errP_card {S : List Dat} (hS : errP S 0) {k : Nat} (hk : k < (argL S 0).length) : inB (rowI ((argL S 0).getD k []) 0) 0 119 = true := by
  unfold errP at hS
  split at hS
  · cases hS
  rcases hS with ⟨_, hx⟩ | ⟨_, _, hx⟩ | ⟨_, _, _, hx⟩ | ⟨hr, hz, hf, _⟩
  · cases hx
  · cases hx
  · cases hx
  have := hr.1 _ (getD_memL (d := []) hk)
  unfold objB at this
  simp only [Bool.and_eq_true] at this
  simp only [this]
theorem row_set0 {r : List Dat} {v : Dat} {c : Nat} (hc : c ≠ 0) : rowI (r.set 0 v) c = rowI r c := by
  unfold rowI
  rw [List.getD_eq_getElem?_getD, List.getElem?_set_ne (fun h => hc h.symm), ← List.getD_eq_getElem?_getD]
theorem seen_set0 {p : Int} {r : List Dat} {v : Dat} (h : kn p (rowI r 17) = false) : seenF p (r.set 0 v) = seenF p r := by
  have e : ∀ c, c ≠ 0 → ∀ x, (r.set 0 v).getD c x = r.getD c x := fun c hc x => by
    rw [List.getD_eq_getElem?_getD, List.getElem?_set_ne (fun h => hc h.symm), ← List.getD_eq_getElem?_getD]
  unfold seenF seenR
  rw [row_set0 (by decide), h, e 1 (by decide), e 2 (by decide), e 3 (by decide), if_neg Bool.false_ne_true, if_neg Bool.false_ne_true]
theorem map_set0 {p : Int} {L : List (List Dat)} {I : Nat} {v : Dat} (hI : I < L.length) (h : kn p (rowI (L.getD I []) 17) = false) : (L.set I ((L.getD I []).set 0 v)).map (seenF p) = L.map (seenF p) := by
  rw [List.map_set, seen_set0 h]
  have : L.getD I [] = L[I] := by rw [List.getD_eq_getElem?_getD, List.getElem?_eq_getElem hI]; rfl
  rw [this]
  have h2 : I < (L.map (seenF p)).length := by rw [List.length_map]; exact hI
  have := List.set_getElem_self h2
  rwa [List.getElem_map] at this
theorem shl_p {p : Int} (hp : p = 0 ∨ p = 1) : Ar.shl.of .i64 1 (IntKind.u64.wrap p) = p + 1 := by
  rcases hp with rfl | rfl <;> decide +kernel
def JH : Inv := fun xs m => ∃ (b : Bool) (p : Nat), p ≤ 2 ∧ m = 2 - p ∧ xs = [.bool b, .int .i64 p]
theorem lh2 {Φ : Nat → Spec} (s4 : Φ k_Show = Show_s) (s5 : Φ k_Hide = Hide_s) (s7 : Φ k_Knows = Knows_s) (s9 : Φ k_Invert = Invert_s) (s10 : Φ k_Sees = Sees_s) (s11 : Φ k_nStates = nStates_s) {Q : List Dat → Prop}
    {ds : List Dat} (hl : ds.length = 85) (hrow : ∀ r ∈ argL ds 0, r.length = 18) {p I : Nat} (hp : p < 2) (hv43 : argI ds 43 = p) {b : Bool} (hv42 : ds.getD 42 (.bool false) = .bool b)
    (hI : I < (argL ds 0).length) (hid : IntKind.i64.wrap ((IntKind.u64.wrap (argI ds 37)).tmod (IntKind.u64.wrap ((argL ds 0).length : Int))) = (I : Int))
    (hsm : Sm (ds.take 37)) (herr : errP (ds.take 37) 0) {x : Int} (hx : rowI ((argL ds 0).getD I []) 17 = x) (hx0 : 0 ≤ x) (hx3 : x ≤ 3) (hk : kn p x = false) (hev : Ev1 (argL ds 44) 2 I 17 x (x + (p + 1)) 0)
    (hT1 : (argL ds 47).length = (argL ds 0).length) (hT2 : ∀ k, k < (argL ds 0).length → ∀ c, c < 18 → rowI ((argL ds 47).getD k []) c = if k = I ∧ c = 17 then x + (p + 1) else rowI ((argL ds 0).getD k []) c)
    (h84 : argI ds 84 = 0) : wp E0.Δ Φ Q (callK tr_lhides_1) ds [(JH, 2 - p)] := by
  have hp' : (p : Int) = 0 ∨ (p : Int) = 1 := by omega
  have hmp : 2 - (p + 1) < 2 - p := by omega
  have hwp : IntKind.i64.wrap ((p : Int) + 1) = p + 1 := wrap64 (by omega) (by omega)
  have hp2 : (1 - p : Int) = 0 ∨ (1 - p : Int) = 1 := by omega
  obtain ⟨g1, g2, g3, g4⟩ := gain_bits hx0 hx3 hp' hk
  have h1m : ((argL ds 0).length : Int) ≤ 1000000 := by have := hsm 0 (by omega); rw [argL_take (by omega)] at this; omega
  have hTI : rowI ((argL ds 47).getD I []) 17 = x + (p + 1) := by rw [hT2 I hI 17 (by decide), if_pos ⟨rfl, rfl⟩]
  unfold callK tr_lhides_1
  simp only
  refine wp_ite_f ?_ ?_
  · simp only [wp, den_int, den_bool, den_nili, den_ar, den_cmp, den_not, den_len, den_elem, den_isnil, den_errI, den_ifc, den_rep, den_push, den_app, den_emp, row0_econs, row0_enil, den_and, den_beq, den_nil, toInt_int, toBool_bool, xs_rows, xs_list, dflt_int, dflt_bool, of_eq, of_ne, of_lt, of_le, of_gt, of_ge, of_add, of_sub, of_rem, List.map_cons, List.map_nil, Dat.bool.injEq, decide_eq_true_eq, decide_eq_false_iff_not, Bool.not_eq_true', Bool.not_eq_false', beq_iff_eq, bne_iff_ne, beq_eq_false_iff_ne, bne_eq_false_iff_eq, ne_eq, List.append_assoc, List.cons_append, List.nil_append, @den_var0 E0.Δ ds, den_varA, den_varB, hl, Nat.reduceLT, Nat.reduceLeDiff, Nat.reduceSub, List.getD_cons_zero, List.getD_cons_succ, argL_fold ds, argI_fold ds, List.append_assoc, List.cons_append, List.nil_append, toInt_int, toBool_bool, xs_rows, xs_list, Int.toNat_natCast, Dat.bool.injEq, h84]; try rfl
  refine wp_ob ?_ (wp_ob ?_ ?_)
  · simp only [wp, den_int, den_bool, den_nili, den_ar, den_cmp, den_not, den_len, den_elem, den_isnil, den_errI, den_ifc, den_rep, den_push, den_app, den_emp, row0_econs, row0_enil, den_and, den_beq, den_nil, toInt_int, toBool_bool, xs_rows, xs_list, dflt_int, dflt_bool, of_eq, of_ne, of_lt, of_le, of_gt, of_ge, of_add, of_sub, of_rem, List.map_cons, List.map_nil, Dat.bool.injEq, decide_eq_true_eq, decide_eq_false_iff_not, Bool.not_eq_true', Bool.not_eq_false', beq_iff_eq, bne_iff_ne, beq_eq_false_iff_ne, bne_eq_false_iff_eq, ne_eq, List.append_assoc, List.cons_append, List.nil_append, den_conv, of_rem, @den_var0 E0.Δ ds, den_varA, den_varB, hl, Nat.reduceLT, Nat.reduceLeDiff, Nat.reduceSub, List.getD_cons_zero, List.getD_cons_succ, argL_fold ds, argI_fold ds, List.append_assoc, List.cons_append, List.nil_append, toInt_int, toBool_bool, xs_rows, xs_list, Int.toNat_natCast, Dat.bool.injEq, hid]; simp
  · simp only [wp, den_int, den_bool, den_nili, den_ar, den_cmp, den_not, den_len, den_elem, den_isnil, den_errI, den_ifc, den_rep, den_push, den_app, den_emp, row0_econs, row0_enil, den_and, den_beq, den_nil, toInt_int, toBool_bool, xs_rows, xs_list, dflt_int, dflt_bool, of_eq, of_ne, of_lt, of_le, of_gt, of_ge, of_add, of_sub, of_rem, List.map_cons, List.map_nil, Dat.bool.injEq, decide_eq_true_eq, decide_eq_false_iff_not, Bool.not_eq_true', Bool.not_eq_false', beq_iff_eq, bne_iff_ne, beq_eq_false_iff_ne, bne_eq_false_iff_eq, ne_eq, List.append_assoc, List.cons_append, List.nil_append, den_conv, of_rem, @den_var0 E0.Δ ds, den_varA, den_varB, hl, Nat.reduceLT, Nat.reduceLeDiff, Nat.reduceSub, List.getD_cons_zero, List.getD_cons_succ, argL_fold ds, argI_fold ds, List.append_assoc, List.cons_append, List.nil_append, toInt_int, toBool_bool, xs_rows, xs_list, Int.toNat_natCast, Dat.bool.injEq, hid, hT1]; simp; omega
  simp only [wp, s7, Knows_s]
  simp only [wp, den_int, den_bool, den_nili, den_ar, den_cmp, den_not, den_len, den_elem, den_isnil, den_errI, den_ifc, den_rep, den_push, den_app, den_emp, row0_econs, row0_enil, den_and, den_beq, den_nil, toInt_int, toBool_bool, xs_rows, xs_list, dflt_int, dflt_bool, of_eq, of_ne, of_lt, of_le, of_gt, of_ge, of_add, of_sub, of_rem, List.map_cons, List.map_nil, Dat.bool.injEq, decide_eq_true_eq, decide_eq_false_iff_not, Bool.not_eq_true', Bool.not_eq_false', beq_iff_eq, bne_iff_ne, beq_eq_false_iff_ne, bne_eq_false_iff_eq, ne_eq, List.append_assoc, List.cons_append, List.nil_append, den_conv, of_rem, @den_var0 E0.Δ ds, den_varA, den_varB, hl, Nat.reduceLT, Nat.reduceLeDiff, Nat.reduceSub, List.getD_cons_zero, List.getD_cons_succ, argL_fold ds, argI_fold ds, List.append_assoc, List.cons_append, List.nil_append, toInt_int, toBool_bool, xs_rows, xs_list, Int.toNat_natCast, Dat.bool.injEq, hid, argI_c0, argI_c1, Int.toNat_natCast]
  have ew : IntKind.i64.wrap (1 - (p : Int)) = 1 - p := by rw [wrap64 (by omega) (by omega)]
  have exT : (((argL ds 47).getD I []).getD 17 (Dat.int .i64 0)).toInt = x + (p + 1) := hTI
  have exS : (((argL ds 0).getD I []).getD 17 (Dat.int .i64 0)).toInt = x := hx
  simp only [ew, exT, exS, hv43, shl_p hp']
  refine ⟨hp', fun hx => ?_, fun _ => ⟨by omega, by omega, by omega, by omega, hp2, hp2, fun hne => absurd g4 hne, fun _ => ⟨by rw [wrapU]; omega, ?_⟩⟩⟩
  · rw [g3] at hx; exact Bool.noConfusion hx
  have eb : ∀ L : List Dat, argL L 0 = argL ds 47 → argI L 37 = I → bitsO L (argI L 37) = x + (p + 1) := fun L e1 e2 => by
    unfold bitsO; rw [e1, e2, Int.toNat_natCast]; exact hTI
  rw [s5]
  refine ⟨show (0 : Int) ≤ I by omega, show (I : Int) < (argL ds 47).length by omega, by rw [eb _ rfl rfl]; omega, by rw [eb _ rfl rfl]; exact g2, p, hp', rfl, by rw [eb _ rfl rfl]; exact g3, fun d hd => ?_⟩
  rw [eb _ rfl rfl] at hd
  obtain ⟨k1, k2, k3, k4, k5, k6, k7⟩ := hd
  obtain ⟨v1, v2, v3, v4, v5, v6, v7⟩ := hev
  have k1' : ([d].getD 0 (Dat.bool false)).xs.length = 1 := k1
  refine ⟨fun hne => absurd (by rw [k1']; rfl) hne, fun _ => ⟨by rw [k1']; decide, by rw [v1]; decide, ?_⟩⟩
  rw [s9]
  refine ⟨v2, fun rs hr i0 i1 i2 i3 i4 i5 => ?_⟩
  match rs, hr with
  | [r0, r1, r2, r3, r4, r5], _ =>
  have i0 : r0.toInt = 2 := i0
  have i1 : r1.toInt = I := i1.trans v3
  have i2 : r2.toInt = 17 := i2.trans v4
  have i3 : r3.toInt = x + (p + 1) := i3.trans v6
  have i4 : r4.toInt = x := i4.trans v5
  have i5 : r5.toInt = 0 := i5.trans v7
  simp only [@den_var0 E0.Δ ds, den_varA, den_varB, hl, Nat.reduceLT, Nat.reduceLeDiff, Nat.reduceSub, List.getD_cons_zero, List.getD_cons_succ, argL_fold ds, argI_fold ds, List.append_assoc, List.cons_append, List.nil_append, toInt_int, toBool_bool, xs_rows, xs_list, Int.toNat_natCast, Dat.bool.injEq, i0, i1, i2, i3, i4, i5]
  have k2 : ((d.xs.getD (Int.toNat 0) []).getD 0 (Dat.int .i64 0)).toInt = 2 := k2
  have k3 : ((d.xs.getD (Int.toNat 0) []).getD 1 (Dat.int .i64 0)).toInt = I := k3
  have k4 : ((d.xs.getD (Int.toNat 0) []).getD 2 (Dat.int .i64 0)).toInt = 17 := k4
  have k5 : ((d.xs.getD (Int.toNat 0) []).getD 3 (Dat.int .i64 0)).toInt = x + (p + 1) := k5
  have k6 : ((d.xs.getD (Int.toNat 0) []).getD 4 (Dat.int .i64 0)).toInt = x := by
    have : rowI (d.xs.getD 0 []) 4 = x := by rw [k6]; omega
    exact this
  have k7 : ((d.xs.getD (Int.toNat 0) []).getD 5 (Dat.int .i64 0)).toInt = 0 := k7
  simp only [k2, k3, k4, k5, k6, k7, beq_self_eq_true, Bool.and_self]
  refine ⟨fun hx => Bool.noConfusion hx, fun _ => ⟨by omega, ?_⟩⟩
  refine ⟨I1 ds, ⟨11, 0, by omega, rfl, rfl, rfl, fun y hy => absurd hy (by omega), fun y _ hy => match y, hy with
    | 0, _ => rfl
    | 1, _ => rfl
    | 2, _ => rfl
    | 3, _ => rfl
    | 4, _ => rfl
    | 5, _ => rfl
    | 6, _ => rfl
    | 7, _ => rfl
    | 8, _ => rfl
    | 9, _ => rfl
    | 10, _ => rfl⟩, ?_⟩
  simp only [allS]
  intro z' d0 hd0 d1 hd1 d2 hd2 d3 hd3 d4 hd4 d5 hd5 d6 hd6 d7 hd7 d8 hd8 d9 hd9 d10 hd10 m hIv
  have hIv2 := hIv
  obtain ⟨z, hz, hm, _, hz0, hA, hB⟩ := hIv2
  have hz0 : Dat.int .i64 z' = .int .i64 z := hz0
  cases hz0
  refine ⟨fun hlt => ?_, fun hge => ?_⟩
  · have hz11 : z < 11 := by
      simp only [@den_var0 E0.Δ ds, den_varA, den_varB, hl, Nat.reduceLT, Nat.reduceLeDiff, Nat.reduceSub, List.getD_cons_zero, List.getD_cons_succ, argL_fold ds, argI_fold ds, List.append_assoc, List.cons_append, List.nil_append, toInt_int, toBool_bool, xs_rows, xs_list, Int.toNat_natCast, Dat.bool.injEq] at hlt; omega
    subst hm
    simp only [den_sel, row0_econs, row0_enil, den_elem, den_len, @den_var0 E0.Δ ds, den_varA, den_varB, hl, Nat.reduceLT, Nat.reduceLeDiff, Nat.reduceSub, List.getD_cons_zero, List.getD_cons_succ, argL_fold ds, argI_fold ds, List.append_assoc, List.cons_append, List.nil_append, toInt_int, toBool_bool, xs_rows, xs_list, Int.toNat_natCast, Dat.bool.injEq, wp, den_int, den_bool, den_nili, den_ar, den_cmp, den_not, den_len, den_elem, den_isnil, den_errI, den_ifc, den_rep, den_push, den_app, den_emp, row0_econs, row0_enil, den_and, den_beq, den_nil, toInt_int, toBool_bool, xs_rows, xs_list, dflt_int, dflt_bool, of_eq, of_ne, of_lt, of_le, of_gt, of_ge, of_add, of_sub, of_rem, List.map_cons, List.map_nil, Dat.bool.injEq, decide_eq_true_eq, decide_eq_false_iff_not, Bool.not_eq_true', Bool.not_eq_false', beq_iff_eq, bne_iff_ne, beq_eq_false_iff_ne, bne_eq_false_iff_eq, ne_eq, List.append_assoc, List.cons_append, List.nil_append, den_ite, ites11 hz11, I1_sel hIv hz11, List.getElem?_cons_zero, List.getElem?_cons_succ]
    have hlen := hsm (z + 1) (by omega)
    rw [argL_take (by omega)] at hlen
    exact ⟨by omega, by omega, by omega, fun A c => ⟨11 - (z + 1), by omega, I1_step hIv hz11 rfl⟩⟩
  have hz11 : z = 11 := by
    simp only [@den_var0 E0.Δ ds, den_varA, den_varB, hl, Nat.reduceLT, Nat.reduceLeDiff, Nat.reduceSub, List.getD_cons_zero, List.getD_cons_succ, argL_fold ds, argI_fold ds, List.append_assoc, List.cons_append, List.nil_append, toInt_int, toBool_bool, xs_rows, xs_list, Int.toNat_natCast, Dat.bool.injEq] at hge; omega
  subst hz11
  simp only [wp, den_int, den_bool, den_nili, den_ar, den_cmp, den_not, den_len, den_elem, den_isnil, den_errI, den_ifc, den_rep, den_push, den_app, den_emp, den_upd, row0_econs, row0_enil, den_and, den_beq, den_nil, toInt_int, toBool_bool, xs_rows, xs_list, dflt_int, dflt_bool, of_eq, of_ne, of_lt, of_le, of_gt, of_ge, of_add, of_sub, of_rem, List.map_cons, List.map_nil, Dat.bool.injEq, decide_eq_true_eq, decide_eq_false_iff_not, Bool.not_eq_true', Bool.not_eq_false', beq_iff_eq, bne_iff_ne, beq_eq_false_iff_ne, bne_eq_false_iff_eq, ne_eq, List.append_assoc, List.cons_append, List.nil_append, den_conv, of_rem, @den_var0 E0.Δ ds, den_varA, den_varB, hl, Nat.reduceLT, Nat.reduceLeDiff, Nat.reduceSub, List.getD_cons_zero, List.getD_cons_succ, argL_fold ds, argI_fold ds, List.append_assoc, List.cons_append, List.nil_append, toInt_int, toBool_bool, xs_rows, xs_list, Int.toNat_natCast, Dat.bool.injEq, hid]
  refine ⟨by omega, by omega, ?_⟩
  have hSl : (ds.take 37).length = 37 := by rw [List.length_take, hl]; rfl
  have hSe : ∀ e, (ds.take 37 ++ e).take 37 = ds.take 37 := fun e => by
    have := List.take_left (l₁ := ds.take 37) (l₂ := e); rwa [hSl] at this
  have h43 : (ds.getD 43 (.bool false)).toInt = p := by rw [argI_fold]; exact hv43
  have eS : ([ds.getD 0 (.bool false), ds.getD 1 (.bool false), ds.getD 2 (.bool false), ds.getD 3 (.bool false), ds.getD 4 (.bool false), ds.getD 5 (.bool false), ds.getD 6 (.bool false), ds.getD 7 (.bool false), ds.getD 8 (.bool false), ds.getD 9 (.bool false), ds.getD 10 (.bool false), ds.getD 11 (.bool false), ds.getD 12 (.bool false), ds.getD 13 (.bool false), ds.getD 14 (.bool false), ds.getD 15 (.bool false), ds.getD 16 (.bool false), ds.getD 17 (.bool false), ds.getD 18 (.bool false), ds.getD 19 (.bool false), ds.getD 20 (.bool false), ds.getD 21 (.bool false), ds.getD 22 (.bool false), ds.getD 23 (.bool false), ds.getD 24 (.bool false), ds.getD 25 (.bool false), ds.getD 26 (.bool false), ds.getD 27 (.bool false), ds.getD 28 (.bool false), ds.getD 29 (.bool false), ds.getD 30 (.bool false), ds.getD 31 (.bool false), ds.getD 32 (.bool false), ds.getD 33 (.bool false), ds.getD 34 (.bool false), ds.getD 35 (.bool false), ds.getD 36 (.bool false)] ++ [ds.getD 43 (.bool false)] : List Dat) = ds.take 37 ++ [ds.getD 43 (.bool false)] := congrArg (· ++ [ds.getD 43 (.bool false)]) (take37' (by omega))
  have hpA : ∀ A : List Dat, A.length = 37 → argI (A ++ [ds.getD 43 (.bool false)]) 37 = p := fun A hA => by rw [argI_tail (by omega), hA]; exact h43
  rw [s10]
  change Sees_s ([ds.getD 0 (.bool false), ds.getD 1 (.bool false), ds.getD 2 (.bool false), ds.getD 3 (.bool false), ds.getD 4 (.bool false), ds.getD 5 (.bool false), ds.getD 6 (.bool false), ds.getD 7 (.bool false), ds.getD 8 (.bool false), ds.getD 9 (.bool false), ds.getD 10 (.bool false), ds.getD 11 (.bool false), ds.getD 12 (.bool false), ds.getD 13 (.bool false), ds.getD 14 (.bool false), ds.getD 15 (.bool false), ds.getD 16 (.bool false), ds.getD 17 (.bool false), ds.getD 18 (.bool false), ds.getD 19 (.bool false), ds.getD 20 (.bool false), ds.getD 21 (.bool false), ds.getD 22 (.bool false), ds.getD 23 (.bool false), ds.getD 24 (.bool false), ds.getD 25 (.bool false), ds.getD 26 (.bool false), ds.getD 27 (.bool false), ds.getD 28 (.bool false), ds.getD 29 (.bool false), ds.getD 30 (.bool false), ds.getD 31 (.bool false), ds.getD 32 (.bool false), ds.getD 33 (.bool false), ds.getD 34 (.bool false), ds.getD 35 (.bool false), ds.getD 36 (.bool false)] ++ [ds.getD 43 (.bool false)]) _
  rw [eS]
  refine Sees_mono (by rw [hSe]; exact hsm) fun T1 n n1 hT1l hn hc => ?_
  rw [hSe] at hn
  obtain rfl := errP_inj herr hn
  rw [hpA _ hSl] at hc
  obtain ⟨rfl, hR1⟩ : n1 = 0 ∧ SeesR p (ds.take 37 ++ [ds.getD 43 (.bool false)]) T1 := by
    rcases hc with ⟨h0, _⟩ | ⟨_, h1, _⟩ | ⟨_, _, h2, h3⟩
    · exact absurd rfl h0
    · exact absurd hp' h1
    · exact ⟨h2, h3⟩
  intro A c
  obtain ⟨U, hU⟩ : ∃ U, U = Dat.list (Value.slice A ((argL ds 0).set I (((argL ds 0).getD I []).set 0 (Dat.int .i64 (IntKind.i64.wrap ((IntKind.u64.wrap (argI ds 38)).tmod 120))))).length c) (E0.Δ.row 49).length ((argL ds 0).set I (((argL ds 0).getD I []).set 0 (Dat.int .i64 (IntKind.i64.wrap ((IntKind.u64.wrap (argI ds 38)).tmod 120))))) := ⟨_, rfl⟩
  rw [← hU]
  have hUx : U.xs = ((argL ds 0).set I (((argL ds 0).getD I []).set 0 (Dat.int .i64 (IntKind.i64.wrap ((IntKind.u64.wrap (argI ds 38)).tmod 120))))) := by rw [hU]; rfl
  have e38 : ((T1 ++ [errV 0]) ++ [U]).getD 38 (.bool false) = U := by rw [List.append_assoc]; exact getD_r (j := 1) hT1l
  rw [e38]
  obtain ⟨US, hUS⟩ : ∃ US, US = ([U, d0, d1, d2, d3, d4, d5, d6, d7, d8, d9, d10, ds.getD 12 (.bool false), ds.getD 13 (.bool false), ds.getD 14 (.bool false), ds.getD 15 (.bool false), ds.getD 16 (.bool false), ds.getD 17 (.bool false), ds.getD 18 (.bool false), ds.getD 19 (.bool false), ds.getD 20 (.bool false), ds.getD 21 (.bool false), ds.getD 22 (.bool false), ds.getD 23 (.bool false), ds.getD 24 (.bool false), ds.getD 25 (.bool false), ds.getD 26 (.bool false), ds.getD 27 (.bool false), ds.getD 28 (.bool false), ds.getD 29 (.bool false), ds.getD 30 (.bool false), ds.getD 31 (.bool false), ds.getD 32 (.bool false), ds.getD 33 (.bool false), ds.getD 34 (.bool false), ds.getD 35 (.bool false), ds.getD 36 (.bool false)] : List Dat) := ⟨_, rfl⟩
  have hUSl : US.length = 37 := by rw [hUS]; rfl
  have hU0 : argL US 0 = ((argL ds 0).set I (((argL ds 0).getD I []).set 0 (Dat.int .i64 (IntKind.i64.wrap ((IntKind.u64.wrap (argI ds 38)).tmod 120))))) := by rw [hUS]; exact hUx
  have hUy : ∀ y, y < 11 → argL US (y + 1) = argL ds (y + 1) := fun y hy => by
    rw [hUS]
    match y, hy with
    | 0, _ => exact hA 0 (by omega)
    | 1, _ => exact hA 1 (by omega)
    | 2, _ => exact hA 2 (by omega)
    | 3, _ => exact hA 3 (by omega)
    | 4, _ => exact hA 4 (by omega)
    | 5, _ => exact hA 5 (by omega)
    | 6, _ => exact hA 6 (by omega)
    | 7, _ => exact hA 7 (by omega)
    | 8, _ => exact hA 8 (by omega)
    | 9, _ => exact hA 9 (by omega)
    | 10, _ => exact hA 10 (by omega)
  have hUi : ∀ i, i < 25 → argI US (12 + i) = argI ds (12 + i) := fun i hi => by
    rw [hUS]
    match i, hi with
    | 0, _ => exact argI_fold ds 12
    | 1, _ => exact argI_fold ds 13
    | 2, _ => exact argI_fold ds 14
    | 3, _ => exact argI_fold ds 15
    | 4, _ => exact argI_fold ds 16
    | 5, _ => exact argI_fold ds 17
    | 6, _ => exact argI_fold ds 18
    | 7, _ => exact argI_fold ds 19
    | 8, _ => exact argI_fold ds 20
    | 9, _ => exact argI_fold ds 21
    | 10, _ => exact argI_fold ds 22
    | 11, _ => exact argI_fold ds 23
    | 12, _ => exact argI_fold ds 24
    | 13, _ => exact argI_fold ds 25
    | 14, _ => exact argI_fold ds 26
    | 15, _ => exact argI_fold ds 27
    | 16, _ => exact argI_fold ds 28
    | 17, _ => exact argI_fold ds 29
    | 18, _ => exact argI_fold ds 30
    | 19, _ => exact argI_fold ds 31
    | 20, _ => exact argI_fold ds 32
    | 21, _ => exact argI_fold ds 33
    | 22, _ => exact argI_fold ds 34
    | 23, _ => exact argI_fold ds 35
    | 24, _ => exact argI_fold ds 36
    | i + 25, h => exact absurd h (by omega)
  have hL0 : argL (ds.take 37) 0 = argL ds 0 := argL_take (by omega)
  have hkf : kn p (rowI ((argL ds 0).getD I []) 17) = false := by rw [hx]; exact hk
  have hgetS : ∀ k, k ≠ I → ((argL ds 0).set I (((argL ds 0).getD I []).set 0 (Dat.int .i64 (IntKind.i64.wrap ((IntKind.u64.wrap (argI ds 38)).tmod 120))))).getD k [] = (argL ds 0).getD k [] := fun k hkI => by
    rw [List.getD_eq_getElem?_getD, List.getElem?_set_ne (fun h => hkI h.symm), ← List.getD_eq_getElem?_getD]
  have hgetI : ((argL ds 0).set I (((argL ds 0).getD I []).set 0 (Dat.int .i64 (IntKind.i64.wrap ((IntKind.u64.wrap (argI ds 38)).tmod 120))))).getD I [] = ((argL ds 0).getD I []).set 0 (Dat.int .i64 (IntKind.i64.wrap ((IntKind.u64.wrap (argI ds 38)).tmod 120))) := by
    rw [List.getD_eq_getElem?_getD, List.getElem?_set_self hI]; rfl
  have hlike : LikeS c0 (ds.take 37) US := by
    refine ⟨by rw [hU0, hL0, List.length_set], fun k hkk c hc hcc => ?_, fun y hy => by rw [hUy y hy, argL_take (by omega)], fun i hi => by rw [hUi i hi, argI_take (by omega)]⟩
    rw [hU0, hL0]
    by_cases hkI : k = I
    · subst hkI; rw [hgetI]; exact row_set0 hcc
    · rw [hgetS k hkI]
  have herrU : errP US 0 := errP_like hlike (fun k hkk => by
    rw [hU0]
    by_cases hkI : k = I
    · subst hkI
      rw [hgetI]
      have h18 := hrow _ (getD_memL (d := []) hI)
      have e0 : rowI (((argL ds 0).getD k []).set 0 (Dat.int .i64 (IntKind.i64.wrap ((IntKind.u64.wrap (argI ds 38)).tmod 120)))) 0 = IntKind.i64.wrap ((IntKind.u64.wrap (argI ds 38)).tmod 120) := by
        unfold rowI
        rw [List.getD_eq_getElem?_getD, List.getElem?_set_self (by omega)]; rfl
      have hw : 0 ≤ IntKind.u64.wrap (argI ds 38) := by rw [wrapU]; omega
      rw [e0, Int.tmod_eq_emod_of_nonneg hw, wrap64 (by omega) (by omega)]
      unfold inB
      rw [decide_eq_true (by omega), decide_eq_true (by omega)]; rfl
    · rw [hgetS k hkI]
      have := errP_card herr hkk
      rwa [hL0] at this) herr
  have hsmU : Sm US := fun i hi => by
    match i with
    | 0 => rw [hU0, List.length_set]; have := hsm 0 (by omega); rwa [hL0] at this
    | i + 1 => rw [hUy i (by omega)]; have := hsm (i + 1) hi; rwa [argL_take (by omega)] at this
  have hUe : ∀ e, (US ++ e).take 37 = US := fun e => by
    have := List.take_left (l₁ := US) (l₂ := e); rwa [hUSl] at this
  change Sees_s ([U, d0, d1, d2, d3, d4, d5, d6, d7, d8, d9, d10, ds.getD 12 (.bool false), ds.getD 13 (.bool false), ds.getD 14 (.bool false), ds.getD 15 (.bool false), ds.getD 16 (.bool false), ds.getD 17 (.bool false), ds.getD 18 (.bool false), ds.getD 19 (.bool false), ds.getD 20 (.bool false), ds.getD 21 (.bool false), ds.getD 22 (.bool false), ds.getD 23 (.bool false), ds.getD 24 (.bool false), ds.getD 25 (.bool false), ds.getD 26 (.bool false), ds.getD 27 (.bool false), ds.getD 28 (.bool false), ds.getD 29 (.bool false), ds.getD 30 (.bool false), ds.getD 31 (.bool false), ds.getD 32 (.bool false), ds.getD 33 (.bool false), ds.getD 34 (.bool false), ds.getD 35 (.bool false), ds.getD 36 (.bool false)] ++ [ds.getD 43 (.bool false)]) _
  rw [← hUS]
  refine Sees_mono (by rw [hUe]; exact hsmU) fun T2 n n1 hT2l hn hc => ?_
  rw [hUe] at hn
  obtain rfl := errP_inj herrU hn
  rw [hpA _ hUSl] at hc
  obtain ⟨rfl, hR2⟩ : n1 = 0 ∧ SeesR p (US ++ [ds.getD 43 (.bool false)]) T2 := by
    rcases hc with ⟨h0, _⟩ | ⟨_, h1, _⟩ | ⟨_, _, h2, h3⟩
    · exact absurd rfl h0
    · exact absurd hp' h1
    · exact ⟨h2, h3⟩
  have hsame : SameR T1 T2 := by
    have e0 : argL T1 0 = argL T2 0 := by
      rw [hR1.1, hR2.1, argL_head (by omega), argL_head (by omega), hU0, hL0, map_set0 hI hkf]
    refine ⟨by rw [e0], fun i hi => ?_, fun k hk c hc => by rw [e0], fun z hz => ?_⟩
    · rw [hR1.2.2 i hi, hR2.2.2 i hi, argI_head (by omega), argI_head (by omega), hUi i hi, argI_take (by omega)]
    · rw [hR1.2.1 z hz, hR2.2.1 z hz, argL_head (by omega), argL_head (by omega), hUy z hz, argL_take (by omega)]
  have hsm1 : Sm T1 := sees_sm hR1 (sm_head (by omega) hsm)
  have hsm2 : Sm T2 := sees_sm hR2 (sm_head (by omega) hsmU)
  have r1 : ((T1 ++ [errV 0]) ++ U :: (T2 ++ [errV 0])).getD 37 (.bool false) = errV 0 := by rw [List.append_assoc]; exact getD_r (j := 0) hT1l
  have r2 : ((T1 ++ [errV 0]) ++ U :: (T2 ++ [errV 0])).getD 76 (.bool false) = errV 0 := by
    rw [show ((T1 ++ [errV 0]) ++ U :: (T2 ++ [errV 0])) = ((T1 ++ [errV 0, U]) ++ T2) ++ [errV 0] by simp]
    exact getD_r (k := 76) (j := 0) (by simp [hT1l, hT2l])
  rw [r1, r2]
  refine ⟨fun hx => Bool.noConfusion hx, fun _ => ⟨fun hx => Bool.noConfusion hx, fun _ => ?_⟩⟩
  rw [s11]
  change nStates_s (gs ((T1 ++ [errV 0]) ++ U :: (T2 ++ [errV 0])) 0 37 ++ gs ((T1 ++ [errV 0]) ++ U :: (T2 ++ [errV 0])) 39 37) _
  rw [gs_seg (by simp [hT1l, hT2l]), gs_seg (by simp [hT1l, hT2l])]
  rw [show (((T1 ++ [errV 0]) ++ U :: (T2 ++ [errV 0])).drop 0).take 37 = T1 by rw [List.append_assoc, List.drop_zero]; exact List.take_left' hT1l]
  rw [show (((T1 ++ [errV 0]) ++ U :: (T2 ++ [errV 0])).drop 39).take 37 = T2 by
    rw [show ((T1 ++ [errV 0]) ++ U :: (T2 ++ [errV 0])) = (T1 ++ [errV 0, U]) ++ (T2 ++ [errV 0]) by simp, List.drop_left' (by simp [hT1l])]
    exact List.take_left' hT2l]
  refine nStates_mono hT1l hsm1 hsm2 hsame ?_
  have r3 : ((T1 ++ [errV 0]) ++ U :: ((T2 ++ [errV 0]) ++ [Dat.bool true])).getD 77 (.bool false) = .bool true := by
    rw [show ((T1 ++ [errV 0]) ++ U :: ((T2 ++ [errV 0]) ++ [Dat.bool true])) = (((T1 ++ [errV 0, U]) ++ T2) ++ [errV 0]) ++ [Dat.bool true] by simp]
    exact getD_r (k := 77) (j := 0) (by simp [hT1l, hT2l])
  simp only [r3, hv42, toBool_bool, List.getElem?_cons_zero]
  refine ⟨fun hx => Bool.noConfusion hx, fun _ => ⟨2 - (p + 1), hmp, b, p + 1, hp, rfl, ?_⟩⟩
  rw [hwp]; rfl


theorem lh1 {Φ : Nat → Spec} (s4 : Φ k_Show = Show_s) (s5 : Φ k_Hide = Hide_s) (s7 : Φ k_Knows = Knows_s) (s8 : Φ k_rApply = rApply_s) (s9 : Φ k_Invert = Invert_s) (s10 : Φ k_Sees = Sees_s) (s11 : Φ k_nStates = nStates_s) {Q : List Dat → Prop}
    {ds : List Dat} (hl : ds.length = 39) (hrow : ∀ r ∈ argL ds 0, r.length = 18) {p I : Nat} (hp : p < 2) {b b1 : Bool}
    (hI : I < (argL ds 0).length) (hid : IntKind.i64.wrap ((IntKind.u64.wrap (argI ds 37)).tmod (IntKind.u64.wrap ((argL ds 0).length : Int))) = (I : Int))
    (hsm : Sm (ds.take 37)) (herr : errP (ds.take 37) 0) {x : Int} (hx : rowI ((argL ds 0).getD I []) 17 = x) (hx0 : 0 ≤ x) (hx3 : x ≤ 3) (hk : kn p x = false) {d : Dat} (hev : Ev1 d.xs 2 I 17 x (x + (p + 1)) 0) :
    wp E0.Δ Φ Q tr_lhides_1 (ds ++ [.bool true, .bool b, .int .i64 0, .bool b1, .int .i64 p, d, .bool true, .bool false]) [(JH, 2 - p)] := by
  obtain ⟨ρ, hρ⟩ : ∃ ρ, ρ = ds ++ [Dat.bool true, .bool b, .int .i64 0, .bool b1, .int .i64 p, d, .bool true, .bool false] := ⟨_, rfl⟩
  have lρ : ρ.length = 47 := by rw [hρ, List.length_append, hl]; rfl
  have hS : (ds.take 37).length = 37 := by rw [List.length_take, hl]; rfl
  have hp' : (p : Int) = 0 ∨ (p : Int) = 1 := by omega
  obtain ⟨g1, g2, g3, g4⟩ := gain_bits hx0 hx3 hp' hk
  obtain ⟨v1, v2, v3, v4, v5, v6, v7⟩ := hev
  have hL0 : argL (ds.take 37) 0 = argL ds 0 := argL_take (by omega)
  rw [← hρ]
  show Φ k_rApply (List.map (den E0.Δ ρ) (vs 0 37 ++ [.elem (.var 44) (.int .i64 0) 0 (.int .i64), .elem (.var 44) (.int .i64 0) 1 (.int .i64), .elem (.var 44) (.int .i64 0) 2 (.int .i64), .elem (.var 44) (.int .i64 0) 3 (.int .i64), .elem (.var 44) (.int .i64 0) 4 (.int .i64), .elem (.var 44) (.int .i64 0) 5 (.int .i64)])) (fun rs => wp E0.Δ Φ Q (callK tr_lhides_1) (ρ ++ rs) [(JH, 2 - p)])
  have h44 : den E0.Δ ρ (.var 44) = d := by
    rw [hρ, den_varB (by omega), hl]; rfl
  have htake : (ρ.drop 0).take 37 = ds.take 37 := by rw [hρ]; exact seg_ext rfl (by omega)
  rw [s8, List.map_append, map_vs (by omega), htake]
  simp only [List.map_cons, List.map_nil, den_elem, den_int, h44, toInt_int]
  obtain ⟨E6, hE⟩ : ∃ E6, E6 = [(d.xs.getD (Int.toNat 0) []).getD 0 (dflt E0.Δ (.int .i64)), (d.xs.getD (Int.toNat 0) []).getD 1 (dflt E0.Δ (.int .i64)), (d.xs.getD (Int.toNat 0) []).getD 2 (dflt E0.Δ (.int .i64)), (d.xs.getD (Int.toNat 0) []).getD 3 (dflt E0.Δ (.int .i64)), (d.xs.getD (Int.toNat 0) []).getD 4 (dflt E0.Δ (.int .i64)), (d.xs.getD (Int.toNat 0) []).getD 5 (dflt E0.Δ (.int .i64))] := ⟨_, rfl⟩
  have t : ∀ i, 37 ≤ i → argI (ds.take 37 ++ E6) i = argI E6 (i - 37) := fun i hi => by rw [argI_tail (by omega), hS]
  have t0 : argL (ds.take 37 ++ E6) 0 = argL ds 0 := by rw [argL_head (by omega), hL0]
  have w0 : argI E6 0 = 2 := by rw [hE]; exact v2
  have w1 : argI E6 1 = I := by rw [hE]; exact v3
  have w2 : argI E6 2 = 17 := by rw [hE]; exact v4
  have w3 : argI E6 3 = x := by rw [hE]; exact v5
  have w4 : argI E6 4 = x + (p + 1) := by rw [hE]; exact v6
  have w5 : argI E6 5 = 0 := by rw [hE]; exact v7
  have eb : bitsO (ds.take 37 ++ E6) (argI (ds.take 37 ++ E6) 38) = x := by
    unfold bitsO; rw [t0, t 38 (by omega), show 38 - 37 = 1 from rfl, w1, Int.toNat_natCast]; exact hx
  have goal : rApply_s (ds.take 37 ++ E6) (fun rs => wp E0.Δ Φ Q (callK tr_lhides_1) (ρ ++ rs) [(JH, 2 - p)]) := by
    refine ⟨sm_head (by omega) hsm, by rw [t 37 (by omega)]; exact w0, by rw [t 38 (by omega), show 38 - 37 = 1 from rfl, w1]; omega, by rw [t 38 (by omega), show 38 - 37 = 1 from rfl, w1, t0]; omega, by rw [t 39 (by omega)]; exact w2, by rw [eb, t 40 (by omega)]; exact w3, by rw [t 41 (by omega), show 41 - 37 = 4 from rfl, w4]; omega, by rw [t 41 (by omega), show 41 - 37 = 4 from rfl, w4]; exact g2, by rw [t 42 (by omega)]; exact w5, fun T hTl hA hTs => ?_⟩
    rw [t 38 (by omega), show 38 - 37 = 1 from rfl, w1, Int.toNat_natCast, t 41 (by omega), show 41 - 37 = 4 from rfl, w4] at hA
    obtain ⟨hA1, hA2⟩ := hA
    rw [t0] at hA1 hA2
    have bL : ∀ i, i < 39 → argL (ρ ++ (T ++ [.int .i64 0])) i = argL ds i := fun i hi => by rw [argL_head (by omega), hρ, argL_head (by omega)]
    have bI : ∀ i, i < 39 → argI (ρ ++ (T ++ [.int .i64 0])) i = argI ds i := fun i hi => by rw [argI_head (by omega), hρ, argI_head (by omega)]
    have b47 : argL (ρ ++ (T ++ [.int .i64 0])) 47 = argL T 0 := by rw [argL_tail (by omega), lρ, argL_head (by omega)]
    have btake : (ρ ++ (T ++ [Dat.int .i64 0])).take 37 = ds.take 37 := by
      rw [List.take_append_of_le_length (by omega), hρ, List.take_append_of_le_length (by omega)]
    have b44 : argL (ρ ++ (T ++ [.int .i64 0])) 44 = d.xs := by rw [argL_head (by omega), hρ, argL_tail (by omega), hl]; rfl
    refine lh2 s4 s5 s7 s9 s10 s11 (b := b1) (x := x) (I := I) ?_ ?_ hp ?_ ?_ ?_ ?_ ?_ ?_ ?_ hx0 hx3 hk ?_ ?_ ?_ ?_
    · rw [List.length_append, lρ, List.length_append, hTl]; rfl
    · rw [bL 0 (by omega)]; exact hrow
    · rw [argI_head (by omega), hρ, argI_tail (by omega), hl]; rfl
    · rw [List.getD_eq_getElem?_getD, List.getElem?_append_left (by omega), hρ, List.getElem?_append_right (by omega), hl]; rfl
    · rw [bL 0 (by omega)]; exact hI
    · rw [bL 0 (by omega), bI 37 (by omega)]; exact hid
    · rw [btake]; exact hsm
    · rw [btake]; exact herr
    · rw [bL 0 (by omega)]; exact hx
    · rw [b44]; exact ⟨v1, v2, v3, v4, v5, v6, v7⟩
    · rw [b47, bL 0 (by omega)]; exact hA1
    · rw [b47, bL 0 (by omega)]; exact hA2
    · rw [argI_tail (by omega), lρ, argI_tail (by omega), hTl]; rfl
  rw [hE] at goal
  exact goal
theorem lhides_h : Holds E0 k_lhides sg_lhides true_s := con_fn wf0 mix0 g0 [con_alive15, con_Long, con_rCheck, con_Show, con_Hide, con_Gained, con_Knows, con_rApply, con_Invert, con_Sees, con_nStates] rfl wk_lhides rfl (by
  intro Φ hΦ ds Q hs h
  have hl : ds.length = 39 := hs.length.symm
  have s1 : Φ k_alive15 = alive15_s := by rw [hΦ]; rfl
  have s2 : Φ k_Long = Long_s := by rw [hΦ]; rfl
  have s3 : Φ k_rCheck = rCheck_s := by rw [hΦ]; rfl
  have s4 : Φ k_Show = Show_s := by rw [hΦ]; rfl
  have s5 : Φ k_Hide = Hide_s := by rw [hΦ]; rfl
  have s6 : Φ k_Gained = Gained_s := by rw [hΦ]; rfl
  have s7 : Φ k_Knows = Knows_s := by rw [hΦ]; rfl
  have s8 : Φ k_rApply = rApply_s := by rw [hΦ]; rfl
  have s9 : Φ k_Invert = Invert_s := by rw [hΦ]; rfl
  have s10 : Φ k_Sees = Sees_s := by rw [hΦ]; rfl
  have s11 : Φ k_nStates = nStates_s := by rw [hΦ]; rfl
  clear hΦ
  have h : Q [.bool true] := h
  simp only [tr_lhides, wp, den_int, den_bool, den_nili, den_ar, den_cmp, den_not, den_len, den_elem, den_isnil, den_errI, den_ifc, den_rep, den_push, den_app, den_emp, row0_econs, row0_enil, den_and, den_beq, den_nil, toInt_int, toBool_bool, xs_rows, xs_list, dflt_int, dflt_bool, of_eq, of_ne, of_lt, of_le, of_gt, of_ge, of_add, of_sub, of_rem, List.map_cons, List.map_nil, Dat.bool.injEq, decide_eq_true_eq, decide_eq_false_iff_not, Bool.not_eq_true', Bool.not_eq_false', beq_iff_eq, bne_iff_ne, beq_eq_false_iff_ne, bne_eq_false_iff_eq, ne_eq, List.append_assoc, List.cons_append, List.nil_append, allS, s1, s2, s3, alive15_s, true_s, Long_s, rCheck_s, @den_var0 E0.Δ ds, den_varA, den_varB, hl, Nat.reduceLT, Nat.reduceLeDiff, Nat.reduceSub, List.getD_cons_zero, List.getD_cons_succ, argL_fold ds, argI_fold ds, List.append_assoc, List.cons_append, List.nil_append, toInt_int, toBool_bool, xs_rows, xs_list, Int.toNat_natCast, Dat.bool.injEq, den_conv, den_or, of_rem, take37' (show 37 ≤ ds.length by omega)]
  have hS : (ds.take 37).length = 37 := by rw [List.length_take, hl]; rfl
  refine ⟨fun hx => Bool.noConfusion hx, fun _ => ⟨show (0 : Int) ≤ 60 by decide, show (60 : Int) ≤ 1000 by decide, fun b hb => ?_⟩⟩
  have hb : b = true ↔ LongP 60 (ds.take 37) := by
    have h' : b = true ↔ LongP (argI ([ds.getD 0 (.bool false), ds.getD 1 (.bool false), ds.getD 2 (.bool false), ds.getD 3 (.bool false), ds.getD 4 (.bool false), ds.getD 5 (.bool false), ds.getD 6 (.bool false), ds.getD 7 (.bool false), ds.getD 8 (.bool false), ds.getD 9 (.bool false), ds.getD 10 (.bool false), ds.getD 11 (.bool false), ds.getD 12 (.bool false), ds.getD 13 (.bool false), ds.getD 14 (.bool false), ds.getD 15 (.bool false), ds.getD 16 (.bool false), ds.getD 17 (.bool false), ds.getD 18 (.bool false), ds.getD 19 (.bool false), ds.getD 20 (.bool false), ds.getD 21 (.bool false), ds.getD 22 (.bool false), ds.getD 23 (.bool false), ds.getD 24 (.bool false), ds.getD 25 (.bool false), ds.getD 26 (.bool false), ds.getD 27 (.bool false), ds.getD 28 (.bool false), ds.getD 29 (.bool false), ds.getD 30 (.bool false), ds.getD 31 (.bool false), ds.getD 32 (.bool false), ds.getD 33 (.bool false), ds.getD 34 (.bool false), ds.getD 35 (.bool false), ds.getD 36 (.bool false)] ++ [.int .i64 60]) 37) ([ds.getD 0 (.bool false), ds.getD 1 (.bool false), ds.getD 2 (.bool false), ds.getD 3 (.bool false), ds.getD 4 (.bool false), ds.getD 5 (.bool false), ds.getD 6 (.bool false), ds.getD 7 (.bool false), ds.getD 8 (.bool false), ds.getD 9 (.bool false), ds.getD 10 (.bool false), ds.getD 11 (.bool false), ds.getD 12 (.bool false), ds.getD 13 (.bool false), ds.getD 14 (.bool false), ds.getD 15 (.bool false), ds.getD 16 (.bool false), ds.getD 17 (.bool false), ds.getD 18 (.bool false), ds.getD 19 (.bool false), ds.getD 20 (.bool false), ds.getD 21 (.bool false), ds.getD 22 (.bool false), ds.getD 23 (.bool false), ds.getD 24 (.bool false), ds.getD 25 (.bool false), ds.getD 26 (.bool false), ds.getD 27 (.bool false), ds.getD 28 (.bool false), ds.getD 29 (.bool false), ds.getD 30 (.bool false), ds.getD 31 (.bool false), ds.getD 32 (.bool false), ds.getD 33 (.bool false), ds.getD 34 (.bool false), ds.getD 35 (.bool false), ds.getD 36 (.bool false)] ++ [.int .i64 60]) := hb
    rw [take37' (show 37 ≤ ds.length by omega), longP_head (by omega)] at h'
    have e : argI (ds.take 37 ++ [.int .i64 60]) 37 = 60 := by rw [argI_tail (by omega), hS]; rfl
    rw [e] at h'
    exact h'
  refine ⟨fun _ => h, fun hbf => ?_⟩
  have hsm : Sm (ds.take 37) := sm_of_long (fun hL => by have := hb.2 hL; rw [hbf] at this; cases this) (by decide)
  refine ⟨hsm, fun n hn => ⟨fun _ => h, fun hc => ?_⟩⟩
  simp only [Bool.or_eq_false_iff, bne_eq_false_iff_eq, beq_eq_false_iff_ne] at hc
  obtain ⟨rfl, hlen0⟩ := hc
  clear hb
  have hL0 : argL (ds.take 37) 0 = argL ds 0 := argL_take (by omega)
  have h1m : ((argL ds 0).length : Int) ≤ 1000000 := by have := hsm 0 (by omega); rw [hL0] at this; omega
  have hlen : 0 < (argL ds 0).length := by omega
  have hw : IntKind.u64.wrap ((argL ds 0).length : Int) = (argL ds 0).length := by rw [wrapU]; omega
  have hrow := obj_len (all2_get hs (i := 0) rfl)
  rw [argL_fold] at hrow
  obtain ⟨I, hI, hid⟩ : ∃ I : Nat, I < (argL ds 0).length ∧ IntKind.i64.wrap ((IntKind.u64.wrap (argI ds 37)).tmod (IntKind.u64.wrap ((argL ds 0).length : Int))) = (I : Int) := by
    have h0 : 0 ≤ IntKind.u64.wrap (argI ds 37) := by rw [wrapU]; omega
    rw [hw, Int.tmod_eq_emod_of_nonneg h0]
    have h1 : 0 ≤ IntKind.u64.wrap (argI ds 37) % ((argL ds 0).length : Int) := Int.emod_nonneg _ (by omega)
    have h2 : IntKind.u64.wrap (argI ds 37) % ((argL ds 0).length : Int) < (argL ds 0).length := Int.emod_lt_of_pos _ (by omega)
    refine ⟨(IntKind.u64.wrap (argI ds 37) % ((argL ds 0).length : Int)).toNat, by omega, ?_⟩
    rw [wrap64 (by omega) (by omega)]; omega
  obtain ⟨hx0, hx3⟩ := errP_knows hn (k := I) (by rw [hL0]; exact hI)
  rw [hL0] at hx0 hx3
  obtain ⟨x, hx⟩ : ∃ x, x = rowI ((argL ds 0).getD I []) 17 := ⟨_, rfl⟩
  rw [← hx] at hx0 hx3
  refine ⟨by rw [hw]; omega, JH, ⟨2, false, 0, by omega, rfl, rfl⟩, ?_⟩
  rintro b1 n1 m ⟨b', p, hp, hm, e⟩
  cases e
  refine ⟨fun hlt => ⟨by rw [wrapU]; omega, ?_⟩, fun _ => h⟩
  have hp2 : p < 2 := by omega
  have hp' : (p : Int) = 0 ∨ (p : Int) = 1 := by omega
  simp only [hid, Int.toNat_natCast, shl_p hp']
  have eb : bitsO [ds.getD 0 (.bool false), ds.getD 1 (.bool false), ds.getD 2 (.bool false), ds.getD 3 (.bool false), ds.getD 4 (.bool false), ds.getD 5 (.bool false), ds.getD 6 (.bool false), ds.getD 7 (.bool false), ds.getD 8 (.bool false), ds.getD 9 (.bool false), ds.getD 10 (.bool false), ds.getD 11 (.bool false), ds.getD 12 (.bool false), ds.getD 13 (.bool false), ds.getD 14 (.bool false), ds.getD 15 (.bool false), ds.getD 16 (.bool false), ds.getD 17 (.bool false), ds.getD 18 (.bool false), ds.getD 19 (.bool false), ds.getD 20 (.bool false), ds.getD 21 (.bool false), ds.getD 22 (.bool false), ds.getD 23 (.bool false), ds.getD 24 (.bool false), ds.getD 25 (.bool false), ds.getD 26 (.bool false), ds.getD 27 (.bool false), ds.getD 28 (.bool false), ds.getD 29 (.bool false), ds.getD 30 (.bool false), ds.getD 31 (.bool false), ds.getD 32 (.bool false), ds.getD 33 (.bool false), ds.getD 34 (.bool false), ds.getD 35 (.bool false), ds.getD 36 (.bool false), .int .i64 (I : Int), .int .i64 ((p : Int) + 1)] (argI [ds.getD 0 (.bool false), ds.getD 1 (.bool false), ds.getD 2 (.bool false), ds.getD 3 (.bool false), ds.getD 4 (.bool false), ds.getD 5 (.bool false), ds.getD 6 (.bool false), ds.getD 7 (.bool false), ds.getD 8 (.bool false), ds.getD 9 (.bool false), ds.getD 10 (.bool false), ds.getD 11 (.bool false), ds.getD 12 (.bool false), ds.getD 13 (.bool false), ds.getD 14 (.bool false), ds.getD 15 (.bool false), ds.getD 16 (.bool false), ds.getD 17 (.bool false), ds.getD 18 (.bool false), ds.getD 19 (.bool false), ds.getD 20 (.bool false), ds.getD 21 (.bool false), ds.getD 22 (.bool false), ds.getD 23 (.bool false), ds.getD 24 (.bool false), ds.getD 25 (.bool false), ds.getD 26 (.bool false), ds.getD 27 (.bool false), ds.getD 28 (.bool false), ds.getD 29 (.bool false), ds.getD 30 (.bool false), ds.getD 31 (.bool false), ds.getD 32 (.bool false), ds.getD 33 (.bool false), ds.getD 34 (.bool false), ds.getD 35 (.bool false), ds.getD 36 (.bool false), .int .i64 (I : Int), .int .i64 ((p : Int) + 1)] 37) = x := by
    show rowI ((argL ds 0).getD (I : Int).toNat []) 17 = x
    rw [Int.toNat_natCast]; exact hx.symm
  rw [s4]
  refine ⟨show (0 : Int) ≤ I by omega, show (I : Int) < (argL ds 0).length by omega, by rw [eb]; exact hx0, by rw [eb]; exact hx3, p, hp', rfl, fun d hd1 hd2 => ?_⟩
  rw [eb] at hd1 hd2
  have hkx : kn (p : Int) (((argL ds 0).getD I []).getD 17 (Dat.int .i64 0)).toInt = kn p x := by rw [hx]; rfl
  rw [s6]
  by_cases hk : kn p x = true
  · have hdx : ([d].getD 0 (Dat.bool false)).xs = [] := hd1 hk
    refine .inl ⟨hdx, ?_⟩
    have hdx : d.xs = [] := hd1 hk
    simp only [@den_var0 E0.Δ ds, den_varA, den_varB, hl, Nat.reduceLT, Nat.reduceLeDiff, Nat.reduceSub, List.getD_cons_zero, List.getD_cons_succ, argL_fold ds, argI_fold ds, List.append_assoc, List.cons_append, List.nil_append, toInt_int, toBool_bool, xs_rows, xs_list, Int.toNat_natCast, Dat.bool.injEq, hdx]
    refine ⟨fun hx => absurd rfl hx, fun _ => ⟨by omega, by omega, ?_⟩⟩
    rw [s7]
    refine ⟨hp', ?_⟩
    simp only [argI_c0, argI_c1, toInt_int, hkx, hk, @den_var0 E0.Δ ds, den_varA, den_varB, hl, Nat.reduceLT, Nat.reduceLeDiff, Nat.reduceSub, List.getD_cons_zero, List.getD_cons_succ, argL_fold ds, argI_fold ds, List.append_assoc, List.cons_append, List.nil_append, toInt_int, toBool_bool, xs_rows, xs_list, Int.toNat_natCast, Dat.bool.injEq, List.getElem?_cons_zero]
    refine ⟨fun hx => absurd rfl hx, fun _ => ⟨fun _ => ⟨2 - (p + 1), by omega, b1, p + 1, by omega, rfl, ?_⟩, fun hx => absurd rfl hx⟩⟩
    rw [wrap64 (by omega) (by omega)]; rfl
  · have hk : kn p x = false := by simpa using hk
    have hev : Ev1 d.xs 2 I 17 x (x + (p + 1)) 0 := hd2 hk
    refine .inr ⟨I, x, p, hev, hx0, hx3, hp', hk, ?_⟩
    have main := lh1 s4 s5 s7 s8 s9 s10 s11 (Q := Q) hl hrow hp2 hI hid hsm hn hx.symm hx0 hx3 hk hev (b := b) (b1 := b1)
    rw [← hm] at main
    simp only [@den_var0 E0.Δ ds, den_varA, den_varB, hl, Nat.reduceLT, Nat.reduceLeDiff, Nat.reduceSub, List.getD_cons_zero, List.getD_cons_succ, argL_fold ds, argI_fold ds, List.append_assoc, List.cons_append, List.nil_append, toInt_int, toBool_bool, xs_rows, xs_list, Int.toNat_natCast, Dat.bool.injEq, hev.1]
    refine ⟨fun hx => absurd rfl hx, fun _ => ⟨by omega, by omega, ?_⟩⟩
    rw [s7]
    refine ⟨hp', ?_⟩
    simp only [argI_c0, argI_c1, toInt_int, hkx, hk, @den_var0 E0.Δ ds, den_varA, den_varB, hl, Nat.reduceLT, Nat.reduceLeDiff, Nat.reduceSub, List.getD_cons_zero, List.getD_cons_succ, argL_fold ds, argI_fold ds, List.append_assoc, List.cons_append, List.nil_append, toInt_int, toBool_bool, xs_rows, xs_list, Int.toNat_natCast, Dat.bool.injEq, List.getElem?_cons_zero]
    exact ⟨fun hx => absurd rfl hx, fun _ => ⟨fun hx => absurd hx (by decide), fun _ => ⟨by decide, main, main⟩⟩⟩)
end Go.Proofs.YtlgfnimahmmgeaaDoor
