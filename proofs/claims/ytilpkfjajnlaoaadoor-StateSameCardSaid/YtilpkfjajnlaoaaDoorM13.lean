import Derived.Test.YtilpkfjajnlaoaaDoorM12

set_option linter.unusedVariables false
set_option linter.unusedSimpArgs false

section
namespace Go.Proofs.YtilpkfjajnlaoaaDoor
open Go.RowKit
set_option linter.unusedVariables false
set_option linter.unusedSimpArgs false

def k_lstatesame : Nat := 3
def sg_lstatesame : Sig := ⟨[(true, [.list 36] ++ List.replicate 11 (.list 3) ++ List.replicate 25 (.int .i64)), (true, [.list 36] ++ List.replicate 11 (.list 3) ++ List.replicate 25 (.int .i64))], [(false, [.bool])], false, true, true, true, false⟩
def tr_lstatesame_1 : Tree := (.call k_New [] [(.list 36), (.list 3), (.list 3), (.list 3), (.list 3), (.list 3), (.list 3), (.list 3), (.list 3), (.list 3), (.list 3), (.list 3), (.int .i64), (.int .i64), (.int .i64), (.int .i64), (.int .i64), (.int .i64), (.int .i64), (.int .i64), (.int .i64), (.int .i64), (.int .i64), (.int .i64), (.int .i64), (.int .i64), (.int .i64), (.int .i64), (.int .i64), (.int .i64), (.int .i64), (.int .i64), (.int .i64), (.int .i64), (.int .i64), (.int .i64), (.int .i64)] (.call k_nStates [(.var 129), (.var 130), (.var 131), (.var 132), (.var 133), (.var 134), (.var 135), (.var 136), (.var 137), (.var 138), (.var 139), (.var 140), (.var 141), (.var 142), (.var 143), (.var 144), (.var 145), (.var 146), (.var 147), (.var 148), (.var 149), (.var 150), (.var 151), (.var 152), (.var 153), (.var 154), (.var 155), (.var 156), (.var 157), (.var 158), (.var 159), (.var 160), (.var 161), (.var 162), (.var 163), (.var 164), (.var 165), (.nil 36), (.nil 3), (.nil 3), (.nil 3), (.nil 3), (.nil 3), (.nil 3), (.nil 3), (.nil 3), (.nil 3), (.nil 3), (.nil 3), (.int .i64 0), (.int .i64 0), (.int .i64 0), (.int .i64 0), (.int .i64 0), (.int .i64 0), (.int .i64 0), (.int .i64 0), (.int .i64 0), (.int .i64 0), (.int .i64 0), (.int .i64 0), (.int .i64 0), (.int .i64 0), (.int .i64 0), (.int .i64 0), (.int .i64 0), (.int .i64 0), (.int .i64 0), (.int .i64 0), (.int .i64 0), (.int .i64 0), (.int .i64 0), (.int .i64 0), (.int .i64 0)] [.bool] (.ite (.not (.var 166)) (.ret [(.bool false)]) (.loop [(.int .i64 0), (.app .emp (.var 114))] [(.int .i64), (.rows 36)] (.ite (.cmp .lt (.var 167) (.len (.app .emp (.var 114)))) (.ob (.cmp .ge (.var 167) (.int .i64 0)) (.ob (.cmp .lt (.var 167) (.len (.var 168))) (.ob (.cmp .ge (.var 167) (.int .i64 0)) (.ob (.cmp .lt (.var 167) (.len (.var 168))) (.again 0 [(.ar .add .i64 (.var 167) (.int .i64 1)), (.upd (.var 168) (.var 167) 0 (.ar .add .i64 (.elem (.var 168) (.var 167) 0 (.int .i64)) (.int .i64 1)))]))))) (.loop [(.int .i64 0), (.app .emp (.var 115))] [(.int .i64), (.rows 3)] (.ite (.cmp .lt (.var 169) (.len (.app .emp (.var 115)))) (.ob (.cmp .ge (.var 169) (.int .i64 0)) (.ob (.cmp .lt (.var 169) (.len (.var 170))) (.ob (.cmp .ge (.var 169) (.int .i64 0)) (.ob (.cmp .lt (.var 169) (.len (.var 170))) (.again 1 [(.ar .add .i64 (.var 169) (.int .i64 1)), (.upd (.var 170) (.var 169) 0 (.ar .add .i64 (.elem (.var 170) (.var 169) 0 (.int .i64)) (.int .i64 1)))]))))) (.loop [(.int .i64 0), (.cmp .lt (.var 169) (.len (.app .emp (.var 115)))), (.app .emp (.var 116))] [(.int .i64), .bool, (.rows 3)] (.ite (.cmp .lt (.var 171) (.len (.app .emp (.var 116)))) (.ob (.cmp .ge (.var 171) (.int .i64 0)) (.ob (.cmp .lt (.var 171) (.len (.var 173))) (.ob (.cmp .ge (.var 171) (.int .i64 0)) (.ob (.cmp .lt (.var 171) (.len (.var 173))) (.again 2 [(.ar .add .i64 (.var 171) (.int .i64 1)), (.cmp .lt (.var 171) (.len (.app .emp (.var 116)))), (.upd (.var 173) (.var 171) 0 (.ar .add .i64 (.elem (.var 173) (.var 171) 0 (.int .i64)) (.int .i64 1)))]))))) (.loop [(.int .i64 0), (.cmp .lt (.var 171) (.len (.app .emp (.var 116)))), (.app .emp (.var 117))] [(.int .i64), .bool, (.rows 3)] (.ite (.cmp .lt (.var 174) (.len (.app .emp (.var 117)))) (.ob (.cmp .ge (.var 174) (.int .i64 0)) (.ob (.cmp .lt (.var 174) (.len (.var 176))) (.ob (.cmp .ge (.var 174) (.int .i64 0)) (.ob (.cmp .lt (.var 174) (.len (.var 176))) (.again 3 [(.ar .add .i64 (.var 174) (.int .i64 1)), (.cmp .lt (.var 174) (.len (.app .emp (.var 117)))), (.upd (.var 176) (.var 174) 0 (.ar .add .i64 (.elem (.var 176) (.var 174) 0 (.int .i64)) (.int .i64 1)))]))))) (.loop [(.int .i64 0), (.cmp .lt (.var 174) (.len (.app .emp (.var 117)))), (.app .emp (.var 118))] [(.int .i64), .bool, (.rows 3)] (.ite (.cmp .lt (.var 177) (.len (.app .emp (.var 118)))) (.ob (.cmp .ge (.var 177) (.int .i64 0)) (.ob (.cmp .lt (.var 177) (.len (.var 179))) (.ob (.cmp .ge (.var 177) (.int .i64 0)) (.ob (.cmp .lt (.var 177) (.len (.var 179))) (.again 4 [(.ar .add .i64 (.var 177) (.int .i64 1)), (.cmp .lt (.var 177) (.len (.app .emp (.var 118)))), (.upd (.var 179) (.var 177) 0 (.ar .add .i64 (.elem (.var 179) (.var 177) 0 (.int .i64)) (.int .i64 1)))]))))) (.loop [(.int .i64 0), (.cmp .lt (.var 177) (.len (.app .emp (.var 118)))), (.app .emp (.var 119))] [(.int .i64), .bool, (.rows 3)] (.ite (.cmp .lt (.var 180) (.len (.app .emp (.var 119)))) (.ob (.cmp .ge (.var 180) (.int .i64 0)) (.ob (.cmp .lt (.var 180) (.len (.var 182))) (.ob (.cmp .ge (.var 180) (.int .i64 0)) (.ob (.cmp .lt (.var 180) (.len (.var 182))) (.again 5 [(.ar .add .i64 (.var 180) (.int .i64 1)), (.cmp .lt (.var 180) (.len (.app .emp (.var 119)))), (.upd (.var 182) (.var 180) 0 (.ar .add .i64 (.elem (.var 182) (.var 180) 0 (.int .i64)) (.int .i64 1)))]))))) (.loop [(.int .i64 0), (.cmp .lt (.var 180) (.len (.app .emp (.var 119)))), (.app .emp (.var 120))] [(.int .i64), .bool, (.rows 3)] (.ite (.cmp .lt (.var 183) (.len (.app .emp (.var 120)))) (.ob (.cmp .ge (.var 183) (.int .i64 0)) (.ob (.cmp .lt (.var 183) (.len (.var 185))) (.ob (.cmp .ge (.var 183) (.int .i64 0)) (.ob (.cmp .lt (.var 183) (.len (.var 185))) (.again 6 [(.ar .add .i64 (.var 183) (.int .i64 1)), (.cmp .lt (.var 183) (.len (.app .emp (.var 120)))), (.upd (.var 185) (.var 183) 0 (.ar .add .i64 (.elem (.var 185) (.var 183) 0 (.int .i64)) (.int .i64 1)))]))))) (.loop [(.int .i64 0), (.cmp .lt (.var 183) (.len (.app .emp (.var 120)))), (.app .emp (.var 121))] [(.int .i64), .bool, (.rows 3)] (.ite (.cmp .lt (.var 186) (.len (.app .emp (.var 121)))) (.ob (.cmp .ge (.var 186) (.int .i64 0)) (.ob (.cmp .lt (.var 186) (.len (.var 188))) (.ob (.cmp .ge (.var 186) (.int .i64 0)) (.ob (.cmp .lt (.var 186) (.len (.var 188))) (.again 7 [(.ar .add .i64 (.var 186) (.int .i64 1)), (.cmp .lt (.var 186) (.len (.app .emp (.var 121)))), (.upd (.var 188) (.var 186) 0 (.ar .add .i64 (.elem (.var 188) (.var 186) 0 (.int .i64)) (.int .i64 1)))]))))) (.loop [(.int .i64 0), (.cmp .lt (.var 186) (.len (.app .emp (.var 121)))), (.app .emp (.var 122))] [(.int .i64), .bool, (.rows 3)] (.ite (.cmp .lt (.var 189) (.len (.app .emp (.var 122)))) (.ob (.cmp .ge (.var 189) (.int .i64 0)) (.ob (.cmp .lt (.var 189) (.len (.var 191))) (.ob (.cmp .ge (.var 189) (.int .i64 0)) (.ob (.cmp .lt (.var 189) (.len (.var 191))) (.again 8 [(.ar .add .i64 (.var 189) (.int .i64 1)), (.cmp .lt (.var 189) (.len (.app .emp (.var 122)))), (.upd (.var 191) (.var 189) 0 (.ar .add .i64 (.elem (.var 191) (.var 189) 0 (.int .i64)) (.int .i64 1)))]))))) (.loop [(.int .i64 0), (.cmp .lt (.var 189) (.len (.app .emp (.var 122)))), (.app .emp (.var 123))] [(.int .i64), .bool, (.rows 3)] (.ite (.cmp .lt (.var 192) (.len (.app .emp (.var 123)))) (.ob (.cmp .ge (.var 192) (.int .i64 0)) (.ob (.cmp .lt (.var 192) (.len (.var 194))) (.ob (.cmp .ge (.var 192) (.int .i64 0)) (.ob (.cmp .lt (.var 192) (.len (.var 194))) (.again 9 [(.ar .add .i64 (.var 192) (.int .i64 1)), (.cmp .lt (.var 192) (.len (.app .emp (.var 123)))), (.upd (.var 194) (.var 192) 0 (.ar .add .i64 (.elem (.var 194) (.var 192) 0 (.int .i64)) (.int .i64 1)))]))))) (.loop [(.int .i64 0), (.cmp .lt (.var 192) (.len (.app .emp (.var 123)))), (.app .emp (.var 124))] [(.int .i64), .bool, (.rows 3)] (.ite (.cmp .lt (.var 195) (.len (.app .emp (.var 124)))) (.ob (.cmp .ge (.var 195) (.int .i64 0)) (.ob (.cmp .lt (.var 195) (.len (.var 197))) (.ob (.cmp .ge (.var 195) (.int .i64 0)) (.ob (.cmp .lt (.var 195) (.len (.var 197))) (.again 10 [(.ar .add .i64 (.var 195) (.int .i64 1)), (.cmp .lt (.var 195) (.len (.app .emp (.var 124)))), (.upd (.var 197) (.var 195) 0 (.ar .add .i64 (.elem (.var 197) (.var 195) 0 (.int .i64)) (.int .i64 1)))]))))) (.loop [(.int .i64 0), (.cmp .lt (.var 195) (.len (.app .emp (.var 124)))), (.app .emp (.var 125))] [(.int .i64), .bool, (.rows 3)] (.ite (.cmp .lt (.var 198) (.len (.app .emp (.var 125)))) (.ob (.cmp .ge (.var 198) (.int .i64 0)) (.ob (.cmp .lt (.var 198) (.len (.var 200))) (.ob (.cmp .ge (.var 198) (.int .i64 0)) (.ob (.cmp .lt (.var 198) (.len (.var 200))) (.again 11 [(.ar .add .i64 (.var 198) (.int .i64 1)), (.cmp .lt (.var 198) (.len (.app .emp (.var 125)))), (.upd (.var 200) (.var 198) 0 (.ar .add .i64 (.elem (.var 200) (.var 198) 0 (.int .i64)) (.int .i64 1)))]))))) (.call k_nStates [(.var 0), (.var 1), (.var 2), (.var 3), (.var 4), (.var 5), (.var 6), (.var 7), (.var 8), (.var 9), (.var 10), (.var 11), (.var 12), (.var 13), (.var 14), (.var 15), (.var 16), (.var 17), (.var 18), (.var 19), (.var 20), (.var 21), (.var 22), (.var 23), (.var 24), (.var 25), (.var 26), (.var 27), (.var 28), (.var 29), (.var 30), (.var 31), (.var 32), (.var 33), (.var 34), (.var 35), (.var 36), (.var 77), (.var 78), (.var 79), (.var 80), (.var 81), (.var 82), (.var 83), (.var 84), (.var 85), (.var 86), (.var 87), (.var 88), (.var 89), (.var 90), (.var 91), (.var 92), (.var 93), (.var 94), (.var 95), (.var 96), (.var 97), (.var 98), (.var 99), (.var 100), (.var 101), (.var 102), (.var 103), (.var 104), (.var 105), (.var 106), (.var 107), (.var 108), (.var 109), (.var 110), (.var 111), (.var 112), (.var 113)] [.bool] (.ret [(.var 201)])))))))))))))))))))))))))))))
def tr_lstatesame : Tree := (.call k_alive [] [.bool] (.ite (.not (.var 74)) (.ret [(.bool false)]) (.call k_Long [(.var 0), (.var 1), (.var 2), (.var 3), (.var 4), (.var 5), (.var 6), (.var 7), (.var 8), (.var 9), (.var 10), (.var 11), (.var 12), (.var 13), (.var 14), (.var 15), (.var 16), (.var 17), (.var 18), (.var 19), (.var 20), (.var 21), (.var 22), (.var 23), (.var 24), (.var 25), (.var 26), (.var 27), (.var 28), (.var 29), (.var 30), (.var 31), (.var 32), (.var 33), (.var 34), (.var 35), (.var 36), (.int .i64 200)] [.bool] (.ite (.var 75) (.ret [(.bool true)]) (.call k_Long [(.var 37), (.var 38), (.var 39), (.var 40), (.var 41), (.var 42), (.var 43), (.var 44), (.var 45), (.var 46), (.var 47), (.var 48), (.var 49), (.var 50), (.var 51), (.var 52), (.var 53), (.var 54), (.var 55), (.var 56), (.var 57), (.var 58), (.var 59), (.var 60), (.var 61), (.var 62), (.var 63), (.var 64), (.var 65), (.var 66), (.var 67), (.var 68), (.var 69), (.var 70), (.var 71), (.var 72), (.var 73), (.int .i64 200)] [.bool] (.ite (.var 76) (.ret [(.bool true)]) (.call k_nCopy [(.var 0), (.var 1), (.var 2), (.var 3), (.var 4), (.var 5), (.var 6), (.var 7), (.var 8), (.var 9), (.var 10), (.var 11), (.var 12), (.var 13), (.var 14), (.var 15), (.var 16), (.var 17), (.var 18), (.var 19), (.var 20), (.var 21), (.var 22), (.var 23), (.var 24), (.var 25), (.var 26), (.var 27), (.var 28), (.var 29), (.var 30), (.var 31), (.var 32), (.var 33), (.var 34), (.var 35), (.var 36)] [(.list 36), (.list 3), (.list 3), (.list 3), (.list 3), (.list 3), (.list 3), (.list 3), (.list 3), (.list 3), (.list 3), (.list 3), (.int .i64), (.int .i64), (.int .i64), (.int .i64), (.int .i64), (.int .i64), (.int .i64), (.int .i64), (.int .i64), (.int .i64), (.int .i64), (.int .i64), (.int .i64), (.int .i64), (.int .i64), (.int .i64), (.int .i64), (.int .i64), (.int .i64), (.int .i64), (.int .i64), (.int .i64), (.int .i64), (.int .i64), (.int .i64)] (.call k_oClone [(.var 0)] [(.rows 36)] (.call k_sClone [(.var 1)] [(.rows 3)] (.call k_sClone [(.var 2)] [(.rows 3)] (.call k_sClone [(.var 3)] [(.rows 3)] (.call k_sClone [(.var 4)] [(.rows 3)] (.call k_sClone [(.var 5)] [(.rows 3)] (.call k_sClone [(.var 6)] [(.rows 3)] (.call k_sClone [(.var 7)] [(.rows 3)] (.call k_sClone [(.var 8)] [(.rows 3)] (.call k_sClone [(.var 9)] [(.rows 3)] (.call k_sClone [(.var 10)] [(.rows 3)] (.call k_sClone [(.var 11)] [(.rows 3)] (.lend k_tSame [(36, (.app .emp (.var 114))), (3, (.app .emp (.var 115))), (3, (.app .emp (.var 116))), (3, (.app .emp (.var 117))), (3, (.app .emp (.var 118))), (3, (.app .emp (.var 119))), (3, (.app .emp (.var 120))), (3, (.app .emp (.var 121))), (3, (.app .emp (.var 122))), (3, (.app .emp (.var 123))), (3, (.app .emp (.var 124))), (3, (.app .emp (.var 125)))] [(.var 0), (.var 1), (.var 2), (.var 3), (.var 4), (.var 5), (.var 6), (.var 7), (.var 8), (.var 9), (.var 10), (.var 11), (.var 12), (.var 13), (.var 14), (.var 15), (.var 16), (.var 17), (.var 18), (.var 19), (.var 20), (.var 21), (.var 22), (.var 23), (.var 24), (.var 25), (.var 26), (.var 27), (.var 28), (.var 29), (.var 30), (.var 31), (.var 32), (.var 33), (.var 34), (.var 35), (.var 36), (.var 126), (.var 127), (.var 128), (.var 129), (.var 130), (.var 131), (.var 132), (.var 133), (.var 134), (.var 135), (.var 136), (.var 137), (.var 12), (.var 13), (.var 14), (.var 15), (.var 16), (.var 17), (.var 18), (.var 19), (.var 20), (.var 21), (.var 22), (.var 23), (.var 24), (.var 25), (.var 26), (.var 27), (.var 28), (.var 29), (.var 30), (.var 31), (.var 32), (.var 33), (.var 34), (.var 35), (.var 36)] [.bool] (.ite (.not (.var 126)) (.ret [(.bool false)]) (.call k_tSame [(.var 0), (.var 1), (.var 2), (.var 3), (.var 4), (.var 5), (.var 6), (.var 7), (.var 8), (.var 9), (.var 10), (.var 11), (.var 12), (.var 13), (.var 14), (.var 15), (.var 16), (.var 17), (.var 18), (.var 19), (.var 20), (.var 21), (.var 22), (.var 23), (.var 24), (.var 25), (.var 26), (.var 27), (.var 28), (.var 29), (.var 30), (.var 31), (.var 32), (.var 33), (.var 34), (.var 35), (.var 36), (.var 37), (.var 38), (.var 39), (.var 40), (.var 41), (.var 42), (.var 43), (.var 44), (.var 45), (.var 46), (.var 47), (.var 48), (.var 49), (.var 50), (.var 51), (.var 52), (.var 53), (.var 54), (.var 55), (.var 56), (.var 57), (.var 58), (.var 59), (.var 60), (.var 61), (.var 62), (.var 63), (.var 64), (.var 65), (.var 66), (.var 67), (.var 68), (.var 69), (.var 70), (.var 71), (.var 72), (.var 73)] [.bool] (.call k_nStates [(.var 0), (.var 1), (.var 2), (.var 3), (.var 4), (.var 5), (.var 6), (.var 7), (.var 8), (.var 9), (.var 10), (.var 11), (.var 12), (.var 13), (.var 14), (.var 15), (.var 16), (.var 17), (.var 18), (.var 19), (.var 20), (.var 21), (.var 22), (.var 23), (.var 24), (.var 25), (.var 26), (.var 27), (.var 28), (.var 29), (.var 30), (.var 31), (.var 32), (.var 33), (.var 34), (.var 35), (.var 36), (.var 37), (.var 38), (.var 39), (.var 40), (.var 41), (.var 42), (.var 43), (.var 44), (.var 45), (.var 46), (.var 47), (.var 48), (.var 49), (.var 50), (.var 51), (.var 52), (.var 53), (.var 54), (.var 55), (.var 56), (.var 57), (.var 58), (.var 59), (.var 60), (.var 61), (.var 62), (.var 63), (.var 64), (.var 65), (.var 66), (.var 67), (.var 68), (.var 69), (.var 70), (.var 71), (.var 72), (.var 73)] [.bool] (.ite (.not (.beq (.var 127) (.var 128))) (.ret [(.bool false)]) (.both tr_lstatesame_1 tr_lstatesame_1)))))))))))))))))))))))))
theorem wk_lstatesame : walk E0.cx (sgsN [(28, sg_oClone), (29, sg_sClone), (8, sg_alive), (9, sg_Long), (13, sg_nStates), (10, sg_nCopy), (12, sg_tSame), (14, sg_New)]) 0 3 sg_lstatesame = tr_lstatesame := by kernel_rfl
theorem bo_lstatesame : ∃ x, bodyOf E0.P 3 = some x := bo_of (by kernel_rfl)
theorem sp_lstatesame_oClone : specC [con_oClone, con_sClone, con_alive, con_Long, con_nStates, con_nCopy, con_tSame, con_New] k_oClone = oClone_s := rfl
theorem sp_lstatesame_sClone : specC [con_oClone, con_sClone, con_alive, con_Long, con_nStates, con_nCopy, con_tSame, con_New] k_sClone = sClone_s := rfl
theorem sp_lstatesame_alive : specC [con_oClone, con_sClone, con_alive, con_Long, con_nStates, con_nCopy, con_tSame, con_New] k_alive = alive_s := rfl
theorem sp_lstatesame_Long : specC [con_oClone, con_sClone, con_alive, con_Long, con_nStates, con_nCopy, con_tSame, con_New] k_Long = Long_s := rfl
theorem sp_lstatesame_nStates : specC [con_oClone, con_sClone, con_alive, con_Long, con_nStates, con_nCopy, con_tSame, con_New] k_nStates = nStates_s := rfl
theorem sp_lstatesame_nCopy : specC [con_oClone, con_sClone, con_alive, con_Long, con_nStates, con_nCopy, con_tSame, con_New] k_nCopy = nCopy_s := rfl
theorem sp_lstatesame_tSame : specC [con_oClone, con_sClone, con_alive, con_Long, con_nStates, con_nCopy, con_tSame, con_New] k_tSame = tSame_s := rfl
theorem sp_lstatesame_New : specC [con_oClone, con_sClone, con_alive, con_Long, con_nStates, con_nCopy, con_tSame, con_New] k_New = New_s := rfl
theorem wp_callE {Φ : Nat → Spec} {Q : List Dat → Prop} {f : Nat} {ts : List Tm} {ss : List Srt} {k : Tree} {ρ args : List Dat} {X : List (Inv × Nat)} (e : ts.map (den E0.Δ ρ) = args) (h : Φ f args fun rs => wp E0.Δ Φ Q k (ρ ++ rs) X) : wp E0.Δ Φ Q (.call f ts ss k) ρ X := by
  show Φ f _ _
  rw [e]; exact h
theorem wp_callG {Φ : Nat → Spec} {Q : List Dat → Prop} {f : Nat} {ts : List Tm} {ss : List Srt} {k : Tree} {ρ e args : List Dat} {X : List (Inv × Nat)} (he : ts.map (den E0.Δ (ρ ++ e)) = args) (h : Φ f args fun rs => wp E0.Δ Φ Q k (ρ ++ (e ++ rs)) X) : wp E0.Δ Φ Q (.call f ts ss k) (ρ ++ e) X := by
  refine wp_callE he ?_
  simp only [List.append_assoc]
  exact h
theorem wp_no {Φ : Nat → Spec} {Q : List Dat → Prop} {c : Tm} {a b : Tree} {ρ : List Dat} {X : List (Inv × Nat)} (hc : den E0.Δ ρ c = .bool false) (h : wp E0.Δ Φ Q b ρ X) : wp E0.Δ Φ Q (.ite c a b) ρ X :=
  ⟨fun hx => absurd (Dat.bool.inj (hc.symm.trans hx)) (by decide), fun _ => h⟩
theorem wp_two {Φ : Nat → Spec} {Q : List Dat → Prop} {c : Tm} {a b : Tree} {ρ : List Dat} {X : List (Inv × Nat)} {v : Bool} (hc : den E0.Δ ρ c = .bool v) (h1 : v = true → wp E0.Δ Φ Q a ρ X) (h2 : v = false → wp E0.Δ Φ Q b ρ X) : wp E0.Δ Φ Q (.ite c a b) ρ X :=
  ⟨fun hx => h1 (Dat.bool.inj (hc.symm.trans hx)), fun hx => h2 (Dat.bool.inj (hc.symm.trans hx))⟩
theorem argsT {ds E : List Dat} {a n : Nat} (h : a + n ≤ ds.length) : ((List.range' a n).map Tm.var).map (den E0.Δ (ds ++ E)) = (ds.drop a).take n := by
  refine List.ext_getElem (by simp; omega) fun i h1 h2 => ?_
  rw [List.getElem_map, List.getElem_map, List.getElem_range', List.getElem_take, List.getElem_drop]
  have h3 : i < n := by simpa using h1
  rw [den_varA (by omega), List.getD_eq_getElem?_getD, List.getElem?_eq_getElem (by omega)]
  simp
theorem argsN {ρ e : List Dat} {a n : Nat} (h : ρ.length = a) (he : e.length = n) : ((List.range' a n).map Tm.var).map (den E0.Δ (ρ ++ e)) = e := by
  refine List.ext_getElem (by simp [he]) fun i h1 h2 => ?_
  rw [List.getElem_map, List.getElem_map, List.getElem_range', den_varB (by omega), h, List.getD_eq_getElem?_getD]
  rw [show a + 1 * i - a = i by omega, List.getElem?_eq_getElem h2]
  rfl
theorem argL_end {ρ e : List Dat} {i k : Nat} (hi : ρ.length = i) : argL (ρ ++ e) (i + k) = argL e k := by unfold argL; rw [getD_end hi]
theorem argI_end {ρ e : List Dat} {i k : Nat} (hi : ρ.length = i) : argI (ρ ++ e) (i + k) = argI e k := by unfold argI; rw [getD_end hi]
theorem argL_old {ρ e : List Dat} {i : Nat} (hi : i < ρ.length) : argL (ρ ++ e) i = argL ρ i := by unfold argL; rw [getD_old hi]
theorem argI_old {ρ e : List Dat} {i : Nat} (hi : i < ρ.length) : argI (ρ ++ e) i = argI ρ i := by unfold argI; rw [getD_old hi]
theorem argL_dt {ds : List Dat} {a n i : Nat} (h : i < n) : argL ((ds.drop a).take n) i = argL ds (a + i) := by
  unfold argL
  rw [List.getD_eq_getElem?_getD, List.getElem?_take, if_pos h, List.getElem?_drop, List.getD_eq_getElem?_getD]
theorem argI_dt {ds : List Dat} {a n i : Nat} (h : i < n) : argI ((ds.drop a).take n) i = argI ds (a + i) := by
  unfold argI
  rw [List.getD_eq_getElem?_getD, List.getElem?_take, if_pos h, List.getElem?_drop, List.getD_eq_getElem?_getD]
/-- two states that hold the same lists and numbers -/
theorem sameS_of {xs : List Dat} (h : ∀ y, y < 12 → argL xs y = argL xs (37 + y)) (hi : ∀ i, i < 25 → argI xs (12 + i) = argI xs (49 + i)) : SameS xs :=
  ⟨by rw [h 0 (by omega)], hi, fun k _ c _ => by rw [h 0 (by omega)], fun z hz => by rw [h (z + 1) (by omega), show 37 + (z + 1) = z + 38 by omega]⟩
def okT : Tm → Bool
  | .var i => decide (129 ≤ i) && decide (i < 166)
  | .nil _ => true
  | .int _ n => n == 0
  | _ => false
def zeD (d : Dat) : Prop := d.xs = [] ∧ d.toInt = 0
theorem st0_len : st0.length = 37 := rfl
theorem st0_ze : ∀ d ∈ st0, zeD d := fun d hd => by
  unfold st0 at hd
  rcases List.mem_append.1 hd with hd | hd
  · simp only [List.mem_cons, List.not_mem_nil, or_false] at hd
    rcases hd with rfl | rfl | rfl | rfl | rfl | rfl | rfl | rfl | rfl | rfl | rfl | rfl <;> exact ⟨rfl, rfl⟩
  · rw [(List.mem_replicate.1 hd).2]
    exact ⟨rfl, rfl⟩
theorem ze_den {ds : List Dat} (hl : ds.length = 129) {ts : List Tm} (h : ts.all okT = true) : ∀ d ∈ ts.map (den E0.Δ (ds ++ st0)), zeD d := fun d hd => by
  obtain ⟨t, ht, rfl⟩ := List.mem_map.1 hd
  have := List.all_eq_true.1 h t ht
  unfold okT at this
  split at this
  · rename_i i
    simp only [Bool.and_eq_true, decide_eq_true_eq] at this
    rw [den_varB (by omega), hl]
    refine st0_ze _ ?_
    have h37 := st0_len
    rw [List.getD_eq_getElem?_getD, List.getElem?_eq_getElem (by omega)]
    exact List.getElem_mem _
  · exact ⟨rfl, rfl⟩
  · rw [beq_iff_eq] at this
    subst this
    exact ⟨rfl, rfl⟩
  · cases this
theorem ze_argL {l : List Dat} (h : ∀ d ∈ l, zeD d) (i : Nat) : argL l i = [] := by
  unfold argL
  rw [List.getD_eq_getElem?_getD]
  cases e : l[i]? with
  | none => rfl
  | some d => exact (h d (List.mem_of_getElem? e)).1
theorem ze_argI {l : List Dat} (h : ∀ d ∈ l, zeD d) (i : Nat) : argI l i = 0 := by
  unfold argI
  rw [List.getD_eq_getElem?_getD]
  cases e : l[i]? with
  | none => rfl
  | some d => exact (h d (List.mem_of_getElem? e)).2
set_option maxRecDepth 10000 in
theorem ls_1 {Φ : Nat → Spec} (s1 : Φ k_New = New_s) (s2 : Φ k_nStates = nStates_s) {Q : List Dat → Prop} (h : Q [.bool true]) {ds : List Dat} (hl : ds.length = 129) (hsm : ∀ y, y < 12 → (argL ds y).length ≤ 1000000) (hw : ∀ y, y < 12 → argL ds (77 + y) = argL ds y) (hi : ∀ i, i < 25 → argI ds (89 + i) = argI ds (12 + i)) (hc : ∀ y, y < 12 → argL ds (114 + y) = argL ds y) : wp E0.Δ Φ Q tr_lstatesame_1 ds [] := by
  unfold tr_lstatesame_1
  refine wp_callE (args := []) rfl ?_
  rw [s1]
  show wp E0.Δ Φ Q _ (ds ++ st0) []
  refine wp_callE rfl ?_
  rw [s2]
  have z := ze_den hl (ts := [.var 129, .var 130, .var 131, .var 132, .var 133, .var 134, .var 135, .var 136, .var 137, .var 138, .var 139, .var 140, .var 141, .var 142, .var 143, .var 144, .var 145, .var 146, .var 147, .var 148, .var 149, .var 150, .var 151, .var 152, .var 153, .var 154, .var 155, .var 156, .var 157, .var 158, .var 159, .var 160, .var 161, .var 162, .var 163, .var 164, .var 165, .nil 36, .nil 3, .nil 3, .nil 3, .nil 3, .nil 3, .nil 3, .nil 3, .nil 3, .nil 3, .nil 3, .nil 3, .int .i64 0, .int .i64 0, .int .i64 0, .int .i64 0, .int .i64 0, .int .i64 0, .int .i64 0, .int .i64 0, .int .i64 0, .int .i64 0, .int .i64 0, .int .i64 0, .int .i64 0, .int .i64 0, .int .i64 0, .int .i64 0, .int .i64 0, .int .i64 0, .int .i64 0, .int .i64 0, .int .i64 0, .int .i64 0, .int .i64 0, .int .i64 0, .int .i64 0]) rfl
  refine ⟨fun i _ => ?_, fun i _ => ?_, fun b hb => ?_⟩
  · exact Nat.le_trans (Nat.le_of_eq (congrArg List.length (ze_argL z i))) (by decide)
  · refine Nat.le_trans (Nat.le_of_eq (congrArg List.length (ze_argL (fun d hd => z d (List.mem_of_mem_drop hd)) i))) (by decide)
  have hbt : b = true := hb.2 (sameS_of (fun y _ => (ze_argL z y).trans (ze_argL z _).symm) (fun i _ => (ze_argI z _).trans (ze_argI z _).symm))
  subst hbt
  clear hb z
  have h37 := st0_len
  refine wp_no ?_ ?_
  · show Dat.bool (!((ds ++ st0 ++ [Dat.bool true]).getD (166 + 0) (.bool false)).toBool) = _
    rw [getD_end (by rw [List.length_append]; omega)]; rfl
  have q : ∀ (E : List Dat) (y : Nat), y < 12 → ((ds ++ E).getD (114 + y) (.bool false)).xs.length ≤ 1000000 := fun E y hy => by
    rw [getD_old (by omega)]
    have := hc y hy
    unfold argL at this
    rw [this]
    exact hsm y hy
  refine wp_bump0 (by simp only [List.length_append, List.length_cons, List.length_nil]; omega) rfl (by decide) (by simp only [List.append_assoc]; exact q _ 0 (by omega)) fun n R Im => ?_
  refine wp_bump0 (by simp only [List.length_append, List.length_cons, List.length_nil]; omega) rfl (by decide) (by simp only [List.append_assoc]; exact q _ 1 (by omega)) fun n R Im => ?_
  refine wp_bump (by simp only [List.length_append, List.length_cons, List.length_nil]; omega) rfl (by decide) (by simp only [List.append_assoc]; exact q _ 2 (by omega)) fun n b R Im => ?_
  refine wp_bump (by simp only [List.length_append, List.length_cons, List.length_nil]; omega) rfl (by decide) (by simp only [List.append_assoc]; exact q _ 3 (by omega)) fun n b R Im => ?_
  refine wp_bump (by simp only [List.length_append, List.length_cons, List.length_nil]; omega) rfl (by decide) (by simp only [List.append_assoc]; exact q _ 4 (by omega)) fun n b R Im => ?_
  refine wp_bump (by simp only [List.length_append, List.length_cons, List.length_nil]; omega) rfl (by decide) (by simp only [List.append_assoc]; exact q _ 5 (by omega)) fun n b R Im => ?_
  refine wp_bump (by simp only [List.length_append, List.length_cons, List.length_nil]; omega) rfl (by decide) (by simp only [List.append_assoc]; exact q _ 6 (by omega)) fun n b R Im => ?_
  refine wp_bump (by simp only [List.length_append, List.length_cons, List.length_nil]; omega) rfl (by decide) (by simp only [List.append_assoc]; exact q _ 7 (by omega)) fun n b R Im => ?_
  refine wp_bump (by simp only [List.length_append, List.length_cons, List.length_nil]; omega) rfl (by decide) (by simp only [List.append_assoc]; exact q _ 8 (by omega)) fun n b R Im => ?_
  refine wp_bump (by simp only [List.length_append, List.length_cons, List.length_nil]; omega) rfl (by decide) (by simp only [List.append_assoc]; exact q _ 9 (by omega)) fun n b R Im => ?_
  refine wp_bump (by simp only [List.length_append, List.length_cons, List.length_nil]; omega) rfl (by decide) (by simp only [List.append_assoc]; exact q _ 10 (by omega)) fun n b R Im => ?_
  refine wp_bump (by simp only [List.length_append, List.length_cons, List.length_nil]; omega) rfl (by decide) (by simp only [List.append_assoc]; exact q _ 11 (by omega)) fun n b R Im => ?_
  refine wp_callE (args := ds.take 37 ++ (ds.drop 77).take 37) ?_ ?_
  · show ((List.range' 0 37).map Tm.var ++ (List.range' 77 37).map Tm.var).map (den E0.Δ _) = _
    simp only [List.append_assoc, List.map_append]
    rw [argsT (by omega), argsT (by omega)]; rfl
  rw [s2]
  have ht : (ds.take 37).length = 37 := by rw [List.length_take]; omega
  have a1 : ∀ y, y < 37 → argL (ds.take 37 ++ (ds.drop 77).take 37) y = argL ds y := fun y hy => by rw [argL_old (by omega)]; exact argL_dt (a := 0) hy |>.trans (by rw [Nat.zero_add])
  have a2 : ∀ y, y < 37 → argL (ds.take 37 ++ (ds.drop 77).take 37) (37 + y) = argL ds (77 + y) := fun y hy => by rw [argL_end ht, argL_dt hy]
  have i1 : ∀ y, y < 37 → argI (ds.take 37 ++ (ds.drop 77).take 37) y = argI ds y := fun y hy => by rw [argI_old (by omega)]; exact argI_dt (a := 0) hy |>.trans (by rw [Nat.zero_add])
  have i2 : ∀ y, y < 37 → argI (ds.take 37 ++ (ds.drop 77).take 37) (37 + y) = argI ds (77 + y) := fun y hy => by rw [argI_end ht, argI_dt hy]
  refine ⟨fun i hi12 => by rw [a1 i (by omega)]; exact hsm i hi12, fun i hi12 => ?_, fun b hb => ?_⟩
  · rw [List.drop_left' ht, argL_dt (by omega), hw i hi12]
    exact hsm i hi12
  have hbt : b = true := hb.2 (sameS_of (fun y hy => by rw [a1 y (by omega), a2 y (by omega), hw y hy]) (fun i hi25 => by rw [i1 _ (by omega), show 49 + i = 37 + (12 + i) by omega, i2 _ (by omega), show 77 + (12 + i) = 89 + i by omega, hi i hi25]))
  subst hbt
  show Q [List.getD _ (201 + 0) _]
  rw [getD_end (by simp only [List.length_append, List.length_cons, List.length_nil]; omega)]
  exact h
end Go.Proofs.YtilpkfjajnlaoaaDoor
end

section
namespace Go.Proofs.YtilpkfjajnlaoaaDoor
open Go.RowKit
set_option linter.unusedVariables false
set_option linter.unusedSimpArgs false

theorem wp_callH {Φ : Nat → Spec} {Q : List Dat → Prop} {f : Nat} {ts : List Tm} {ss : List Srt} {k : Tree} {ρ r e args : List Dat} {X : List (Inv × Nat)} (he : ts.map (den E0.Δ (ρ ++ (r ++ e))) = args) (h : Φ f args fun rs => wp E0.Δ Φ Q k (ρ ++ (r ++ (e ++ rs))) X) : wp E0.Δ Φ Q (.call f ts ss k) (ρ ++ (r ++ e)) X := by
  refine wp_callE he ?_
  simp only [List.append_assoc]
  exact h
theorem lendW_all {ρ : List Dat} : ∀ {l : List (Nat × Tm)} {p : List Dat → Prop}, (∀ es : List Dat, es.length = l.length → (∀ y x, l[y]? = some x → (es.getD y (.bool false)).xs = (den E0.Δ ρ x.2).xs) → p es) → lendW E0.Δ ρ l p
  | [], p, h => h [] rfl fun y x hx => by cases hx
  | a :: l, p, h => fun A c => lendW_all fun es h1 h2 => h _ (by rw [List.length_cons, h1, List.length_cons]) fun y x hx => by
    cases y with
    | zero => cases hx; rfl
    | succ y => exact h2 y x hx
theorem wp_lendH {Φ : Nat → Spec} {Q : List Dat → Prop} {f : Nat} {l : List (Nat × Tm)} {ts : List Tm} {ss : List Srt} {k : Tree} {ρ r e : List Dat} {X : List (Inv × Nat)} (h : ∀ es : List Dat, es.length = l.length → (∀ y x, l[y]? = some x → (es.getD y (.bool false)).xs = (den E0.Δ (ρ ++ (r ++ e)) x.2).xs) → Φ f (ts.map (den E0.Δ (ρ ++ (r ++ e) ++ es))) fun rs => wp E0.Δ Φ Q k (ρ ++ (r ++ (e ++ rs))) X) : wp E0.Δ Φ Q (.lend f l ts ss k) (ρ ++ (r ++ e)) X := by
  refine lendW_all fun es h1 h2 => ?_
  have := h es h1 h2
  simp only [← List.append_assoc] at this ⊢
  exact this
theorem phiE {Φ : Nat → Spec} {f : Nat} {a b : List Dat} {c : List Dat → Prop} (e : a = b) (h : Φ f b c) : Φ f a c := by
  rw [e]; exact h
theorem long_lens {S e : List Dat} {m : Int} (hS : S.length = 37) (h : ¬ LongP m (S ++ e)) : ∀ y, y < 12 → ((argL S y).length : Int) ≤ m + 10 := fun y hy => by
  unfold LongP at h
  rw [not_or] at h
  obtain ⟨h1, h2⟩ := h
  cases y with
  | zero =>
    rw [argL_old (by omega)] at h1
    omega
  | succ z =>
    apply Classical.byContradiction
    intro hx
    exact h2 ⟨z, by omega, by rw [argL_old (by omega)]; omega⟩
set_option maxRecDepth 10000 in
theorem lstatesame_h : Holds E0 k_lstatesame sg_lstatesame true_s := con_fn wf0 mix0 g0 [con_oClone, con_sClone, con_alive, con_Long, con_nStates, con_nCopy, con_tSame, con_New] rfl wk_lstatesame rfl (by
  intro Φ hΦ ds Q hs h
  have hl : ds.length = 74 := hs.length.symm
  have s_oClone : Φ k_oClone = oClone_s := by rw [hΦ]; rfl
  have s_sClone : Φ k_sClone = sClone_s := by rw [hΦ]; rfl
  have s_alive : Φ k_alive = alive_s := by rw [hΦ]; rfl
  have s_Long : Φ k_Long = Long_s := by rw [hΦ]; rfl
  have s_nStates : Φ k_nStates = nStates_s := by rw [hΦ]; rfl
  have s_nCopy : Φ k_nCopy = nCopy_s := by rw [hΦ]; rfl
  have s_tSame : Φ k_tSame = tSame_s := by rw [hΦ]; rfl
  have s_New : Φ k_New = New_s := by rw [hΦ]; rfl
  have h : Q [.bool true] := h
  clear hΦ hs
  have ht : (ds.take 37).length = 37 := by rw [List.length_take]; omega
  have hd : ((ds.drop 37).take 37).length = 37 := by rw [List.length_take, List.length_drop]; omega
  have t0 : (ds.drop 0).take 37 = ds.take 37 := rfl
  have tL : ∀ y, y < 37 → argL (ds.take 37) y = argL ds y := fun y hy => (argL_dt (a := 0) hy).trans (by rw [Nat.zero_add])
  have tI : ∀ y, y < 37 → argI (ds.take 37) y = argI ds y := fun y hy => (argI_dt (a := 0) hy).trans (by rw [Nat.zero_add])
  unfold tr_lstatesame
  refine wp_callE (args := []) rfl ?_
  rw [s_alive]
  show wp E0.Δ Φ Q _ (ds ++ [.bool true]) []
  refine wp_no ?_ ?_
  · show Dat.bool (!((ds ++ [Dat.bool true]).getD (74 + 0) (.bool false)).toBool) = _
    rw [getD_end hl]; rfl
  refine wp_callG (args := ds.take 37 ++ [.int .i64 200]) ?_ ?_
  · show ((List.range' 0 37).map Tm.var ++ [Tm.int .i64 200]).map (den E0.Δ (ds ++ [.bool true])) = _
    rw [List.map_append, argsT (by omega)]; rfl
  rw [s_Long]
  have hA : argI (ds.take 37 ++ [Dat.int .i64 200]) 37 = 200 := (argI_end (k := 0) ht).trans rfl
  refine ⟨by rw [hA]; decide, by rw [hA]; decide, fun b hb => ?_⟩
  rw [hA] at hb
  show wp E0.Δ Φ Q _ (ds ++ [.bool true, .bool b]) []
  refine wp_two (v := b) ?_ (fun _ => h) fun hbf => ?_
  · show (ds ++ [Dat.bool true, .bool b]).getD (74 + 1) (.bool false) = _
    rw [getD_end hl]; rfl
  have LA := long_lens ht (fun hL => by rw [hb.2 hL] at hbf; cases hbf)
  refine wp_callG (args := (ds.drop 37).take 37 ++ [.int .i64 200]) ?_ ?_
  · show ((List.range' 37 37).map Tm.var ++ [Tm.int .i64 200]).map (den E0.Δ (ds ++ [.bool true, .bool b])) = _
    rw [List.map_append, argsT (by omega)]; rfl
  rw [s_Long]
  have hB : argI ((ds.drop 37).take 37 ++ [Dat.int .i64 200]) 37 = 200 := (argI_end (k := 0) hd).trans rfl
  refine ⟨by rw [hB]; decide, by rw [hB]; decide, fun b2 hb2 => ?_⟩
  rw [hB] at hb2
  show wp E0.Δ Φ Q _ (ds ++ [.bool true, .bool b, .bool b2]) []
  refine wp_two (v := b2) ?_ (fun _ => h) fun hbf2 => ?_
  · show (ds ++ [Dat.bool true, .bool b, .bool b2]).getD (74 + 2) (.bool false) = _
    rw [getD_end hl]; rfl
  have LB := long_lens hd (fun hL => by rw [hb2.2 hL] at hbf2; cases hbf2)
  clear hb hb2 hA hB
  have hA : ∀ y, y < 12 → (argL ds y).length ≤ 1000000 := fun y hy => by
    have := LA y hy
    rw [tL y (by omega)] at this
    omega
  have hB : ∀ y, y < 12 → (argL ds (37 + y)).length ≤ 1000000 := fun y hy => by
    have := LB y hy
    rw [argL_dt (by omega)] at this
    omega
  have hc100 : ∀ y, y < 12 → (argL ds y).length ≤ 100000000 := fun y hy => Nat.le_trans (hA y hy) (by decide)
  refine wp_callG (args := ds.take 37) ?_ ?_
  · show ((List.range' 0 37).map Tm.var).map (den E0.Δ (ds ++ [.bool true, .bool b, .bool b2])) = _
    rw [argsT (by omega)]; rfl
  rw [s_nCopy]
  refine ⟨fun i hi => by rw [tL i (by omega)]; exact hA i hi, fun rs hrl hC => ?_⟩
  show wp E0.Δ Φ Q _ (ds ++ ([Dat.bool true, .bool b, .bool b2] ++ rs)) []
  have r1 : ∀ y, y < 37 → argL ([Dat.bool true, .bool b, .bool b2] ++ rs) (3 + y) = argL rs y := fun y _ => argL_end rfl
  have r2 : ∀ y, y < 37 → argI ([Dat.bool true, .bool b, .bool b2] ++ rs) (3 + y) = argI rs y := fun y _ => argI_end rfl
  have r3 : ([Dat.bool true, .bool b, .bool b2] ++ rs).length = 40 := by rw [List.length_append, hrl]; rfl
  generalize [Dat.bool true, .bool b, .bool b2] ++ rs = E1 at r1 r2 r3 ⊢
  rw [show ds ++ E1 = ds ++ (E1 ++ []) by rw [List.append_nil]]
  refine wp_callH (args := [ds.getD 0 (.bool false)]) (by show [(ds ++ _).getD 0 (.bool false)] = _; rw [getD_old (by omega)]) ?_
  rw [s_oClone]
  refine ⟨hc100 0 (by omega), ?_⟩
  show wp E0.Δ Φ Q _ (ds ++ (E1 ++ [.rows (argL ds 0)])) []
  refine wp_callH (args := [ds.getD 1 (.bool false)]) (by show [(ds ++ _).getD 1 (.bool false)] = _; rw [getD_old (by omega)]) ?_
  rw [s_sClone]
  refine ⟨hc100 1 (by omega), ?_⟩
  show wp E0.Δ Φ Q _ (ds ++ (E1 ++ [.rows (argL ds 0), .rows (argL ds 1)])) []
  refine wp_callH (args := [ds.getD 2 (.bool false)]) (by show [(ds ++ _).getD 2 (.bool false)] = _; rw [getD_old (by omega)]) ?_
  rw [s_sClone]
  refine ⟨hc100 2 (by omega), ?_⟩
  show wp E0.Δ Φ Q _ (ds ++ (E1 ++ [.rows (argL ds 0), .rows (argL ds 1), .rows (argL ds 2)])) []
  refine wp_callH (args := [ds.getD 3 (.bool false)]) (by show [(ds ++ _).getD 3 (.bool false)] = _; rw [getD_old (by omega)]) ?_
  rw [s_sClone]
  refine ⟨hc100 3 (by omega), ?_⟩
  show wp E0.Δ Φ Q _ (ds ++ (E1 ++ [.rows (argL ds 0), .rows (argL ds 1), .rows (argL ds 2), .rows (argL ds 3)])) []
  refine wp_callH (args := [ds.getD 4 (.bool false)]) (by show [(ds ++ _).getD 4 (.bool false)] = _; rw [getD_old (by omega)]) ?_
  rw [s_sClone]
  refine ⟨hc100 4 (by omega), ?_⟩
  show wp E0.Δ Φ Q _ (ds ++ (E1 ++ [.rows (argL ds 0), .rows (argL ds 1), .rows (argL ds 2), .rows (argL ds 3), .rows (argL ds 4)])) []
  refine wp_callH (args := [ds.getD 5 (.bool false)]) (by show [(ds ++ _).getD 5 (.bool false)] = _; rw [getD_old (by omega)]) ?_
  rw [s_sClone]
  refine ⟨hc100 5 (by omega), ?_⟩
  show wp E0.Δ Φ Q _ (ds ++ (E1 ++ [.rows (argL ds 0), .rows (argL ds 1), .rows (argL ds 2), .rows (argL ds 3), .rows (argL ds 4), .rows (argL ds 5)])) []
  refine wp_callH (args := [ds.getD 6 (.bool false)]) (by show [(ds ++ _).getD 6 (.bool false)] = _; rw [getD_old (by omega)]) ?_
  rw [s_sClone]
  refine ⟨hc100 6 (by omega), ?_⟩
  show wp E0.Δ Φ Q _ (ds ++ (E1 ++ [.rows (argL ds 0), .rows (argL ds 1), .rows (argL ds 2), .rows (argL ds 3), .rows (argL ds 4), .rows (argL ds 5), .rows (argL ds 6)])) []
  refine wp_callH (args := [ds.getD 7 (.bool false)]) (by show [(ds ++ _).getD 7 (.bool false)] = _; rw [getD_old (by omega)]) ?_
  rw [s_sClone]
  refine ⟨hc100 7 (by omega), ?_⟩
  show wp E0.Δ Φ Q _ (ds ++ (E1 ++ [.rows (argL ds 0), .rows (argL ds 1), .rows (argL ds 2), .rows (argL ds 3), .rows (argL ds 4), .rows (argL ds 5), .rows (argL ds 6), .rows (argL ds 7)])) []
  refine wp_callH (args := [ds.getD 8 (.bool false)]) (by show [(ds ++ _).getD 8 (.bool false)] = _; rw [getD_old (by omega)]) ?_
  rw [s_sClone]
  refine ⟨hc100 8 (by omega), ?_⟩
  show wp E0.Δ Φ Q _ (ds ++ (E1 ++ [.rows (argL ds 0), .rows (argL ds 1), .rows (argL ds 2), .rows (argL ds 3), .rows (argL ds 4), .rows (argL ds 5), .rows (argL ds 6), .rows (argL ds 7), .rows (argL ds 8)])) []
  refine wp_callH (args := [ds.getD 9 (.bool false)]) (by show [(ds ++ _).getD 9 (.bool false)] = _; rw [getD_old (by omega)]) ?_
  rw [s_sClone]
  refine ⟨hc100 9 (by omega), ?_⟩
  show wp E0.Δ Φ Q _ (ds ++ (E1 ++ [.rows (argL ds 0), .rows (argL ds 1), .rows (argL ds 2), .rows (argL ds 3), .rows (argL ds 4), .rows (argL ds 5), .rows (argL ds 6), .rows (argL ds 7), .rows (argL ds 8), .rows (argL ds 9)])) []
  refine wp_callH (args := [ds.getD 10 (.bool false)]) (by show [(ds ++ _).getD 10 (.bool false)] = _; rw [getD_old (by omega)]) ?_
  rw [s_sClone]
  refine ⟨hc100 10 (by omega), ?_⟩
  show wp E0.Δ Φ Q _ (ds ++ (E1 ++ [.rows (argL ds 0), .rows (argL ds 1), .rows (argL ds 2), .rows (argL ds 3), .rows (argL ds 4), .rows (argL ds 5), .rows (argL ds 6), .rows (argL ds 7), .rows (argL ds 8), .rows (argL ds 9), .rows (argL ds 10)])) []
  refine wp_callH (args := [ds.getD 11 (.bool false)]) (by show [(ds ++ _).getD 11 (.bool false)] = _; rw [getD_old (by omega)]) ?_
  rw [s_sClone]
  refine ⟨hc100 11 (by omega), ?_⟩
  show wp E0.Δ Φ Q _ (ds ++ (E1 ++ [.rows (argL ds 0), .rows (argL ds 1), .rows (argL ds 2), .rows (argL ds 3), .rows (argL ds 4), .rows (argL ds 5), .rows (argL ds 6), .rows (argL ds 7), .rows (argL ds 8), .rows (argL ds 9), .rows (argL ds 10), .rows (argL ds 11)])) []
  have h126 : (ds ++ (E1 ++ [Dat.rows (argL ds 0), Dat.rows (argL ds 1), Dat.rows (argL ds 2), Dat.rows (argL ds 3), Dat.rows (argL ds 4), Dat.rows (argL ds 5), Dat.rows (argL ds 6), Dat.rows (argL ds 7), Dat.rows (argL ds 8), Dat.rows (argL ds 9), Dat.rows (argL ds 10), Dat.rows (argL ds 11)])).length = 126 := by simp only [List.length_append, List.length_cons, List.length_nil]; omega
  have hcl : ∀ y, y < 12 → argL (ds ++ (E1 ++ [Dat.rows (argL ds 0), Dat.rows (argL ds 1), Dat.rows (argL ds 2), Dat.rows (argL ds 3), Dat.rows (argL ds 4), Dat.rows (argL ds 5), Dat.rows (argL ds 6), Dat.rows (argL ds 7), Dat.rows (argL ds 8), Dat.rows (argL ds 9), Dat.rows (argL ds 10), Dat.rows (argL ds 11)])) (114 + y) = argL ds y := fun y hy => by
    rw [← List.append_assoc, argL_end (show (ds ++ E1).length = 114 by rw [List.length_append]; omega)]
    match y, hy with
    | 0, _ | 1, _ | 2, _ | 3, _ | 4, _ | 5, _ | 6, _ | 7, _ | 8, _ | 9, _ | 10, _ | 11, _ => rfl
  refine wp_lendH fun es hel hes => ?_
  have hel : es.length = 12 := hel
  have hesL : ∀ y, y < 12 → argL es y = argL ds y := fun y hy => by
    rw [← hcl y hy]
    match y, hy with
    | 0, _ => exact (hes 0 _ rfl).trans rfl
    | 1, _ => exact (hes 1 _ rfl).trans rfl
    | 2, _ => exact (hes 2 _ rfl).trans rfl
    | 3, _ => exact (hes 3 _ rfl).trans rfl
    | 4, _ => exact (hes 4 _ rfl).trans rfl
    | 5, _ => exact (hes 5 _ rfl).trans rfl
    | 6, _ => exact (hes 6 _ rfl).trans rfl
    | 7, _ => exact (hes 7 _ rfl).trans rfl
    | 8, _ => exact (hes 8 _ rfl).trans rfl
    | 9, _ => exact (hes 9 _ rfl).trans rfl
    | 10, _ => exact (hes 10 _ rfl).trans rfl
    | 11, _ => exact (hes 11 _ rfl).trans rfl
  have e : ∀ ts, ts = (List.range' 0 37).map Tm.var ++ ((List.range' 126 12).map Tm.var ++ (List.range' 12 25).map Tm.var) → ts.map (den E0.Δ (ds ++ (E1 ++ [.rows (argL ds 0), .rows (argL ds 1), .rows (argL ds 2), .rows (argL ds 3), .rows (argL ds 4), .rows (argL ds 5), .rows (argL ds 6), .rows (argL ds 7), .rows (argL ds 8), .rows (argL ds 9), .rows (argL ds 10), .rows (argL ds 11)]) ++ es)) = ds.take 37 ++ (es ++ (ds.drop 12).take 25) := fun ts hts => by
    rw [hts, List.map_append, List.map_append, argsN h126 hel]
    simp only [List.append_assoc]
    rw [argsT (by omega), argsT (by omega)]; rfl
  refine phiE (e _ rfl) ?_
  rw [s_tSame]
  clear e
  have a1 : ∀ y, y < 37 → argL (ds.take 37 ++ (es ++ (ds.drop 12).take 25)) y = argL ds y := fun y hy => by rw [argL_old (by omega)]; exact tL y hy
  have i1 : ∀ y, y < 37 → argI (ds.take 37 ++ (es ++ (ds.drop 12).take 25)) y = argI ds y := fun y hy => by rw [argI_old (by omega)]; exact tI y hy
  have a2 : ∀ y, y < 12 → argL (ds.take 37 ++ (es ++ (ds.drop 12).take 25)) (37 + y) = argL ds y := fun y hy => by rw [argL_end ht, argL_old (by omega)]; exact hesL y hy
  have i2 : ∀ i, i < 25 → argI (ds.take 37 ++ (es ++ (ds.drop 12).take 25)) (49 + i) = argI ds (12 + i) := fun i hi => by
    rw [show 49 + i = 37 + (12 + i) by omega, argI_end ht, argI_end hel, argI_dt hi]
  refine ⟨fun i hi => by rw [a1 i (by omega)]; exact hA i hi, fun i hi => ?_, fun bs hbs => ?_⟩
  · rw [List.drop_left' ht, argL_old (by omega), hesL i hi]
    exact hA i hi
  have hbt : bs = true := hbs.2 (sameS_of (fun y hy => by rw [a1 y (by omega), a2 y hy]) (fun i hi => by rw [i1 _ (by omega), i2 i hi]))
  subst hbt
  show wp E0.Δ Φ Q _ (ds ++ (E1 ++ [.rows (argL ds 0), .rows (argL ds 1), .rows (argL ds 2), .rows (argL ds 3), .rows (argL ds 4), .rows (argL ds 5), .rows (argL ds 6), .rows (argL ds 7), .rows (argL ds 8), .rows (argL ds 9), .rows (argL ds 10), .rows (argL ds 11), .bool true])) []
  have g : ∀ (l : List Dat) (k : Nat) (d : Dat), (ds ++ (E1 ++ l)).getD (114 + k) d = l.getD k d := fun l k d => by
    rw [← List.append_assoc, getD_end (by rw [List.length_append]; omega)]
  refine wp_no ?_ ?_
  · show Dat.bool (!((ds ++ (E1 ++ [Dat.rows (argL ds 0), Dat.rows (argL ds 1), Dat.rows (argL ds 2), Dat.rows (argL ds 3), Dat.rows (argL ds 4), Dat.rows (argL ds 5), Dat.rows (argL ds 6), Dat.rows (argL ds 7), Dat.rows (argL ds 8), Dat.rows (argL ds 9), Dat.rows (argL ds 10), Dat.rows (argL ds 11), Dat.bool true])).getD (114 + 12) (.bool false)).toBool) = _
    rw [g]; rfl
  have full : ds.take 74 = ds := List.take_of_length_le (by omega)
  have smD : Sm (ds.drop 37) := fun i hi => by
    have := hB i hi
    unfold argL at this ⊢
    rw [List.getD_eq_getElem?_getD, List.getElem?_drop, ← List.getD_eq_getElem?_getD]
    exact this
  refine wp_callH (args := ds) ?_ ?_
  · show ((List.range' 0 74).map Tm.var).map (den E0.Δ (ds ++ _)) = _
    rw [argsT (by omega)]; exact full
  rw [s_tSame]
  refine ⟨hA, smD, fun b3 hb3 => ?_⟩
  show wp E0.Δ Φ Q _ (ds ++ (E1 ++ [.rows (argL ds 0), .rows (argL ds 1), .rows (argL ds 2), .rows (argL ds 3), .rows (argL ds 4), .rows (argL ds 5), .rows (argL ds 6), .rows (argL ds 7), .rows (argL ds 8), .rows (argL ds 9), .rows (argL ds 10), .rows (argL ds 11), .bool true, .bool b3])) []
  refine wp_callH (args := ds) ?_ ?_
  · show ((List.range' 0 74).map Tm.var).map (den E0.Δ (ds ++ _)) = _
    rw [argsT (by omega)]; exact full
  rw [s_nStates]
  refine ⟨hA, smD, fun b4 hb4 => ?_⟩
  obtain rfl : b3 = b4 := by rw [Bool.eq_iff_iff, hb3, hb4]
  show wp E0.Δ Φ Q _ (ds ++ (E1 ++ [.rows (argL ds 0), .rows (argL ds 1), .rows (argL ds 2), .rows (argL ds 3), .rows (argL ds 4), .rows (argL ds 5), .rows (argL ds 6), .rows (argL ds 7), .rows (argL ds 8), .rows (argL ds 9), .rows (argL ds 10), .rows (argL ds 11), .bool true, .bool b3, .bool b3])) []
  refine wp_no ?_ ?_
  · show Dat.bool (!(((ds ++ (E1 ++ [Dat.rows (argL ds 0), Dat.rows (argL ds 1), Dat.rows (argL ds 2), Dat.rows (argL ds 3), Dat.rows (argL ds 4), Dat.rows (argL ds 5), Dat.rows (argL ds 6), Dat.rows (argL ds 7), Dat.rows (argL ds 8), Dat.rows (argL ds 9), Dat.rows (argL ds 10), Dat.rows (argL ds 11), Dat.bool true, .bool b3, .bool b3])).getD (114 + 13) (.bool false)).toBool == ((ds ++ (E1 ++ [Dat.rows (argL ds 0), Dat.rows (argL ds 1), Dat.rows (argL ds 2), Dat.rows (argL ds 3), Dat.rows (argL ds 4), Dat.rows (argL ds 5), Dat.rows (argL ds 6), Dat.rows (argL ds 7), Dat.rows (argL ds 8), Dat.rows (argL ds 9), Dat.rows (argL ds 10), Dat.rows (argL ds 11), Dat.bool true, .bool b3, .bool b3])).getD (114 + 14) (.bool false)).toBool)) = _
    rw [g, g]
    show Dat.bool (!(b3 == b3)) = _
    rw [beq_self_eq_true]; rfl
  have key : wp E0.Δ Φ Q tr_lstatesame_1 (ds ++ (E1 ++ [.rows (argL ds 0), .rows (argL ds 1), .rows (argL ds 2), .rows (argL ds 3), .rows (argL ds 4), .rows (argL ds 5), .rows (argL ds 6), .rows (argL ds 7), .rows (argL ds 8), .rows (argL ds 9), .rows (argL ds 10), .rows (argL ds 11), .bool true, .bool b3, .bool b3])) [] := by
    have oL : ∀ y, y < 74 → argL (ds ++ (E1 ++ [Dat.rows (argL ds 0), Dat.rows (argL ds 1), Dat.rows (argL ds 2), Dat.rows (argL ds 3), Dat.rows (argL ds 4), Dat.rows (argL ds 5), Dat.rows (argL ds 6), Dat.rows (argL ds 7), Dat.rows (argL ds 8), Dat.rows (argL ds 9), Dat.rows (argL ds 10), Dat.rows (argL ds 11), Dat.bool true, .bool b3, .bool b3])) y = argL ds y := fun y hy => argL_old (by omega)
    have oI : ∀ y, y < 74 → argI (ds ++ (E1 ++ [Dat.rows (argL ds 0), Dat.rows (argL ds 1), Dat.rows (argL ds 2), Dat.rows (argL ds 3), Dat.rows (argL ds 4), Dat.rows (argL ds 5), Dat.rows (argL ds 6), Dat.rows (argL ds 7), Dat.rows (argL ds 8), Dat.rows (argL ds 9), Dat.rows (argL ds 10), Dat.rows (argL ds 11), Dat.bool true, .bool b3, .bool b3])) y = argI ds y := fun y hy => argI_old (by omega)
    refine ls_1 s_New s_nStates h ?_ (fun y hy => by rw [oL y (by omega)]; exact hA y hy) (fun y hy => ?_) (fun i hi => ?_) (fun y hy => ?_)
    · simp only [List.length_append, List.length_cons, List.length_nil]; omega
    · rw [oL y (by omega), show 77 + y = 74 + (3 + y) by omega, argL_end hl, argL_old (by omega), r1 y (by omega), hC.1 y hy, tL y (by omega)]
    · rw [oI (12 + i) (by omega), show 89 + i = 74 + (3 + (12 + i)) by omega, argI_end hl, argI_old (by omega), r2 (12 + i) (by omega), hC.2 i hi, tI (12 + i) (by omega)]
    · rw [oL y (by omega)]
      unfold argL
      rw [g]
      match y, hy with
      | 0, _ | 1, _ | 2, _ | 3, _ | 4, _ | 5, _ | 6, _ | 7, _ | 8, _ | 9, _ | 10, _ | 11, _ => rfl
  exact ⟨key, key⟩)
end Go.Proofs.YtilpkfjajnlaoaaDoor
end
