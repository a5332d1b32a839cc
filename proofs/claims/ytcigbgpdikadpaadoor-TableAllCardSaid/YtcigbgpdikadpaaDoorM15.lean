import Derived.Test.YtcigbgpdikadpaaDoorM12
import Derived.Test.YtcigbgpdikadpaaDoorM14
import Derived.RangeFuncNested
import Derived.RangeFuncCalls
import Derived.RangeFuncLeaves
import Derived.Shelf.Abstract
import Derived.WalkKit
import Derived.OwnWalkIn
import Derived.TacticsInMore
import Derived.LoopNIn
import Derived.LoopIn
import Derived.Sort.LoopGhostIn
import Derived.Sort.CutIn

set_option linter.unusedVariables false
set_option linter.unusedSimpArgs false

section
namespace Go.Proofs.YtcigbgpdikadpaaDoor
open Go.RowKit
set_option linter.unusedVariables false
set_option linter.unusedSimpArgs false

def k_reffect : Nat := 13
def sg_reffect : Sig := ⟨[(false, [.list 3])], [(true, List.replicate 4 (.int .i64) ++ [.list 37])], false, false, true, false, false, [], [], none⟩
def tr_reffect : Tree := (.ob (.cmp .lt (.int .i64 0) (.len (.var 0)))
(.ob (.cmp .lt (.int .i64 1) (.len (.var 0)))
(.ob (.cmp .lt (.int .i64 2) (.len (.var 0)))
(.ob (.cmp .lt (.int .i64 3) (.len (.var 0)))
(.both (.loop [(.int .i64 4), .emp] [(.int .i64), (.rows 37)]
 (.ite (.cmp .lt (.var 1) (.len (.var 0)))
  (.ob (.cmp .ge (.var 1) (.int .i64 0))
  (.ob (.cmp .ge (.ar .add .i64 (.var 1) (.int .i64 1)) (.int .i64 0))
  (.ob (.cmp .lt (.ar .add .i64 (.var 1) (.int .i64 1)) (.len (.var 0)))
  (.ob (.cmp .ge (.ar .add .i64 (.var 1) (.int .i64 2)) (.int .i64 0))
  (.ob (.cmp .lt (.ar .add .i64 (.var 1) (.int .i64 2)) (.len (.var 0)))
  (.ob (.cmp .ge (.ar .add .i64 (.var 1) (.int .i64 3)) (.int .i64 0))
  (.ob (.cmp .lt (.ar .add .i64 (.var 1) (.int .i64 3)) (.len (.var 0)))
  (.both (.ob (.cmp .le (.len (.push (.var 2) (.econs (.elem (.var 0) (.var 1) 0 (.int .i64)) (.econs (.elem (.var 0) (.ar .add .i64 (.var 1) (.int .i64 1)) 0 (.int .i64)) (.econs (.elem (.var 0) (.ar .add .i64 (.var 1) (.int .i64 2)) 0 (.int .i64)) (.econs (.elem (.var 0) (.ar .add .i64 (.var 1) (.int .i64 3)) 0 (.int .i64)) (.econs (.nil 37) .enil))))))) (.int .i64 2513169434916))
  (.again 0 [(.ar .add .i64 (.var 1) (.int .i64 4)), (.push (.var 2) (.econs (.elem (.var 0) (.var 1) 0 (.int .i64)) (.econs (.elem (.var 0) (.ar .add .i64 (.var 1) (.int .i64 1)) 0 (.int .i64)) (.econs (.elem (.var 0) (.ar .add .i64 (.var 1) (.int .i64 2)) 0 (.int .i64)) (.econs (.elem (.var 0) (.ar .add .i64 (.var 1) (.int .i64 3)) 0 (.int .i64)) (.econs (.nil 37) .enil))))))])) (.both (.ob (.cmp .le (.len (.push (.var 2) (.econs (.elem (.var 0) (.var 1) 0 (.int .i64)) (.econs (.elem (.var 0) (.ar .add .i64 (.var 1) (.int .i64 1)) 0 (.int .i64)) (.econs (.elem (.var 0) (.ar .add .i64 (.var 1) (.int .i64 2)) 0 (.int .i64)) (.econs (.elem (.var 0) (.ar .add .i64 (.var 1) (.int .i64 3)) 0 (.int .i64)) (.econs (.nil 37) .enil))))))) (.int .i64 2513169434916))
  (.again 0 [(.ar .add .i64 (.var 1) (.int .i64 4)), (.push (.var 2) (.econs (.elem (.var 0) (.var 1) 0 (.int .i64)) (.econs (.elem (.var 0) (.ar .add .i64 (.var 1) (.int .i64 1)) 0 (.int .i64)) (.econs (.elem (.var 0) (.ar .add .i64 (.var 1) (.int .i64 2)) 0 (.int .i64)) (.econs (.elem (.var 0) (.ar .add .i64 (.var 1) (.int .i64 3)) 0 (.int .i64)) (.econs (.nil 37) .enil))))))])) (.ob (.cmp .le (.len (.push (.var 2) (.econs (.elem (.var 0) (.var 1) 0 (.int .i64)) (.econs (.elem (.var 0) (.ar .add .i64 (.var 1) (.int .i64 1)) 0 (.int .i64)) (.econs (.elem (.var 0) (.ar .add .i64 (.var 1) (.int .i64 2)) 0 (.int .i64)) (.econs (.elem (.var 0) (.ar .add .i64 (.var 1) (.int .i64 3)) 0 (.int .i64)) (.econs (.nil 37) .enil))))))) (.int .i64 2513169434916))
  (.again 0 [(.ar .add .i64 (.var 1) (.int .i64 4)), (.push (.var 2) (.econs (.elem (.var 0) (.var 1) 0 (.int .i64)) (.econs (.elem (.var 0) (.ar .add .i64 (.var 1) (.int .i64 1)) 0 (.int .i64)) (.econs (.elem (.var 0) (.ar .add .i64 (.var 1) (.int .i64 2)) 0 (.int .i64)) (.econs (.elem (.var 0) (.ar .add .i64 (.var 1) (.int .i64 3)) 0 (.int .i64)) (.econs (.nil 37) .enil))))))])))))))))))
  (.share 37 (.var 2)
  (.ret [(.elem (.var 0) (.int .i64 0) 0 (.int .i64)), (.elem (.var 0) (.int .i64 1) 0 (.int .i64)), (.elem (.var 0) (.int .i64 2) 0 (.int .i64)), (.elem (.var 0) (.int .i64 3) 0 (.int .i64)), (.var 3)])))) (.loop [(.int .i64 4), .emp] [(.int .i64), (.rows 37)]
 (.ite (.cmp .lt (.var 1) (.len (.var 0)))
  (.ob (.cmp .ge (.var 1) (.int .i64 0))
  (.ob (.cmp .ge (.ar .add .i64 (.var 1) (.int .i64 1)) (.int .i64 0))
  (.ob (.cmp .lt (.ar .add .i64 (.var 1) (.int .i64 1)) (.len (.var 0)))
  (.ob (.cmp .ge (.ar .add .i64 (.var 1) (.int .i64 2)) (.int .i64 0))
  (.ob (.cmp .lt (.ar .add .i64 (.var 1) (.int .i64 2)) (.len (.var 0)))
  (.ob (.cmp .ge (.ar .add .i64 (.var 1) (.int .i64 3)) (.int .i64 0))
  (.ob (.cmp .lt (.ar .add .i64 (.var 1) (.int .i64 3)) (.len (.var 0)))
  (.both (.ob (.cmp .le (.len (.push (.var 2) (.econs (.elem (.var 0) (.var 1) 0 (.int .i64)) (.econs (.elem (.var 0) (.ar .add .i64 (.var 1) (.int .i64 1)) 0 (.int .i64)) (.econs (.elem (.var 0) (.ar .add .i64 (.var 1) (.int .i64 2)) 0 (.int .i64)) (.econs (.elem (.var 0) (.ar .add .i64 (.var 1) (.int .i64 3)) 0 (.int .i64)) (.econs (.nil 37) .enil))))))) (.int .i64 2513169434916))
  (.again 0 [(.ar .add .i64 (.var 1) (.int .i64 4)), (.push (.var 2) (.econs (.elem (.var 0) (.var 1) 0 (.int .i64)) (.econs (.elem (.var 0) (.ar .add .i64 (.var 1) (.int .i64 1)) 0 (.int .i64)) (.econs (.elem (.var 0) (.ar .add .i64 (.var 1) (.int .i64 2)) 0 (.int .i64)) (.econs (.elem (.var 0) (.ar .add .i64 (.var 1) (.int .i64 3)) 0 (.int .i64)) (.econs (.nil 37) .enil))))))])) (.both (.ob (.cmp .le (.len (.push (.var 2) (.econs (.elem (.var 0) (.var 1) 0 (.int .i64)) (.econs (.elem (.var 0) (.ar .add .i64 (.var 1) (.int .i64 1)) 0 (.int .i64)) (.econs (.elem (.var 0) (.ar .add .i64 (.var 1) (.int .i64 2)) 0 (.int .i64)) (.econs (.elem (.var 0) (.ar .add .i64 (.var 1) (.int .i64 3)) 0 (.int .i64)) (.econs (.nil 37) .enil))))))) (.int .i64 2513169434916))
  (.again 0 [(.ar .add .i64 (.var 1) (.int .i64 4)), (.push (.var 2) (.econs (.elem (.var 0) (.var 1) 0 (.int .i64)) (.econs (.elem (.var 0) (.ar .add .i64 (.var 1) (.int .i64 1)) 0 (.int .i64)) (.econs (.elem (.var 0) (.ar .add .i64 (.var 1) (.int .i64 2)) 0 (.int .i64)) (.econs (.elem (.var 0) (.ar .add .i64 (.var 1) (.int .i64 3)) 0 (.int .i64)) (.econs (.nil 37) .enil))))))])) (.ob (.cmp .le (.len (.push (.var 2) (.econs (.elem (.var 0) (.var 1) 0 (.int .i64)) (.econs (.elem (.var 0) (.ar .add .i64 (.var 1) (.int .i64 1)) 0 (.int .i64)) (.econs (.elem (.var 0) (.ar .add .i64 (.var 1) (.int .i64 2)) 0 (.int .i64)) (.econs (.elem (.var 0) (.ar .add .i64 (.var 1) (.int .i64 3)) 0 (.int .i64)) (.econs (.nil 37) .enil))))))) (.int .i64 2513169434916))
  (.again 0 [(.ar .add .i64 (.var 1) (.int .i64 4)), (.push (.var 2) (.econs (.elem (.var 0) (.var 1) 0 (.int .i64)) (.econs (.elem (.var 0) (.ar .add .i64 (.var 1) (.int .i64 1)) 0 (.int .i64)) (.econs (.elem (.var 0) (.ar .add .i64 (.var 1) (.int .i64 2)) 0 (.int .i64)) (.econs (.elem (.var 0) (.ar .add .i64 (.var 1) (.int .i64 3)) 0 (.int .i64)) (.econs (.nil 37) .enil))))))])))))))))))
  (.share 37 (.var 2)
  (.ret [(.elem (.var 0) (.int .i64 0) 0 (.int .i64)), (.elem (.var 0) (.int .i64 1) 0 (.int .i64)), (.elem (.var 0) (.int .i64 2) 0 (.int .i64)), (.elem (.var 0) (.int .i64 3) 0 (.int .i64)), (.var 3)])))))))))
theorem wk_reffect : walk E0.cx (sgsN []) 0 13 sg_reffect = tr_reffect := by kernel_rfl
theorem bo_reffect : ∃ x, bodyOf E0.P 13 = some x := bo_of (by kernel_rfl)
noncomputable def reffect_g : List PD → Option (List PD) := fun ps => evL E0.Δ (pfun []) 20 [] tr_reffect ps
def reffect_s : Spec := psp reffect_g
theorem reffect_h : Holds E0 k_reffect sg_reffect reffect_s := con_ev wf0 mix0 g0 [] rfl wk_reffect rfl (fits_nil) 20
noncomputable def con_reffect : Con E0 := ⟨k_reffect, sg_reffect, reffect_s, rfl, bo_reffect, reffect_h⟩
def k_rability : Nat := 14
def sg_rability : Sig := ⟨[(false, [.list 3])], [(true, List.replicate 7 (.int .i64) ++ [.bool] ++ List.replicate 5 (.int .i64) ++ [.list 37])], false, false, true, false, false, [], [], none⟩
def tr_rability : Tree := (.ob (.cmp .lt (.int .i64 0) (.len (.var 0)))
(.ob (.cmp .lt (.int .i64 2) (.len (.var 0)))
(.ob (.cmp .lt (.int .i64 3) (.len (.var 0)))
(.ob (.cmp .le (.int .i64 4) (.len (.var 0)))
(.both (.call k_reffect [(.cut (.var 0) (.int .i64 4) (.len (.var 0)))] [(.int .i64), (.int .i64), (.int .i64), (.int .i64), (.list 37)]
(.both (.ob (.cmp .lt (.int .i64 1) (.len (.var 0)))
(.ob (.or (.not (.cmp .ge (.elem (.var 0) (.int .i64 1) 0 (.int .i64)) (.int .i64 0))) (.cmp .lt (.int .i64 1) (.len (.var 0))))
(.ob (.or (.not (.cmp .ge (.elem (.var 0) (.int .i64 1) 0 (.int .i64)) (.int .i64 0))) (.cmp .ge (.elem (.var 0) (.int .i64 1) 0 (.int .i64)) (.int .i64 0)))
(.ob (.or (.not (.cmp .ge (.elem (.var 0) (.int .i64 1) 0 (.int .i64)) (.int .i64 0))) (.cmp .lt (.elem (.var 0) (.int .i64 1) 0 (.int .i64)) (.int .i64 6)))
(.ret [(.elem (.var 0) (.int .i64 0) 0 (.int .i64)), (.ite (.cmp .ge (.elem (.var 0) (.int .i64 1) 0 (.int .i64)) (.int .i64 0)) (.ite (.cmp .eq (.elem (.var 0) (.int .i64 1) 0 (.int .i64)) (.int .i64 0)) (.int .i64 1) (.int .i64 0)) (.int .i64 0)), (.ite (.cmp .ge (.elem (.var 0) (.int .i64 1) 0 (.int .i64)) (.int .i64 0)) (.ite (.cmp .eq (.elem (.var 0) (.int .i64 1) 0 (.int .i64)) (.int .i64 1)) (.int .i64 1) (.int .i64 0)) (.int .i64 0)), (.ite (.cmp .ge (.elem (.var 0) (.int .i64 1) 0 (.int .i64)) (.int .i64 0)) (.ite (.cmp .eq (.elem (.var 0) (.int .i64 1) 0 (.int .i64)) (.int .i64 2)) (.int .i64 1) (.int .i64 0)) (.int .i64 0)), (.ite (.cmp .ge (.elem (.var 0) (.int .i64 1) 0 (.int .i64)) (.int .i64 0)) (.ite (.cmp .eq (.elem (.var 0) (.int .i64 1) 0 (.int .i64)) (.int .i64 3)) (.int .i64 1) (.int .i64 0)) (.int .i64 0)), (.ite (.cmp .ge (.elem (.var 0) (.int .i64 1) 0 (.int .i64)) (.int .i64 0)) (.ite (.cmp .eq (.elem (.var 0) (.int .i64 1) 0 (.int .i64)) (.int .i64 4)) (.int .i64 1) (.int .i64 0)) (.int .i64 0)), (.ite (.cmp .ge (.elem (.var 0) (.int .i64 1) 0 (.int .i64)) (.int .i64 0)) (.ite (.cmp .eq (.elem (.var 0) (.int .i64 1) 0 (.int .i64)) (.int .i64 5)) (.int .i64 1) (.int .i64 0)) (.int .i64 0)), (.cmp .eq (.elem (.var 0) (.int .i64 2) 0 (.int .i64)) (.int .i64 1)), (.elem (.var 0) (.int .i64 3) 0 (.int .i64)), (.var 1), (.var 2), (.var 3), (.var 4), (.var 5)]))))) (.ob (.cmp .lt (.int .i64 1) (.len (.var 0)))
(.ob (.or (.not (.cmp .ge (.elem (.var 0) (.int .i64 1) 0 (.int .i64)) (.int .i64 0))) (.cmp .lt (.int .i64 1) (.len (.var 0))))
(.ob (.or (.not (.cmp .ge (.elem (.var 0) (.int .i64 1) 0 (.int .i64)) (.int .i64 0))) (.cmp .ge (.elem (.var 0) (.int .i64 1) 0 (.int .i64)) (.int .i64 0)))
(.ob (.or (.not (.cmp .ge (.elem (.var 0) (.int .i64 1) 0 (.int .i64)) (.int .i64 0))) (.cmp .lt (.elem (.var 0) (.int .i64 1) 0 (.int .i64)) (.int .i64 6)))
(.ret [(.elem (.var 0) (.int .i64 0) 0 (.int .i64)), (.ite (.cmp .ge (.elem (.var 0) (.int .i64 1) 0 (.int .i64)) (.int .i64 0)) (.ite (.cmp .eq (.elem (.var 0) (.int .i64 1) 0 (.int .i64)) (.int .i64 0)) (.int .i64 1) (.int .i64 0)) (.int .i64 0)), (.ite (.cmp .ge (.elem (.var 0) (.int .i64 1) 0 (.int .i64)) (.int .i64 0)) (.ite (.cmp .eq (.elem (.var 0) (.int .i64 1) 0 (.int .i64)) (.int .i64 1)) (.int .i64 1) (.int .i64 0)) (.int .i64 0)), (.ite (.cmp .ge (.elem (.var 0) (.int .i64 1) 0 (.int .i64)) (.int .i64 0)) (.ite (.cmp .eq (.elem (.var 0) (.int .i64 1) 0 (.int .i64)) (.int .i64 2)) (.int .i64 1) (.int .i64 0)) (.int .i64 0)), (.ite (.cmp .ge (.elem (.var 0) (.int .i64 1) 0 (.int .i64)) (.int .i64 0)) (.ite (.cmp .eq (.elem (.var 0) (.int .i64 1) 0 (.int .i64)) (.int .i64 3)) (.int .i64 1) (.int .i64 0)) (.int .i64 0)), (.ite (.cmp .ge (.elem (.var 0) (.int .i64 1) 0 (.int .i64)) (.int .i64 0)) (.ite (.cmp .eq (.elem (.var 0) (.int .i64 1) 0 (.int .i64)) (.int .i64 4)) (.int .i64 1) (.int .i64 0)) (.int .i64 0)), (.ite (.cmp .ge (.elem (.var 0) (.int .i64 1) 0 (.int .i64)) (.int .i64 0)) (.ite (.cmp .eq (.elem (.var 0) (.int .i64 1) 0 (.int .i64)) (.int .i64 5)) (.int .i64 1) (.int .i64 0)) (.int .i64 0)), (.cmp .eq (.elem (.var 0) (.int .i64 2) 0 (.int .i64)) (.int .i64 1)), (.elem (.var 0) (.int .i64 3) 0 (.int .i64)), (.var 1), (.var 2), (.var 3), (.var 4), (.var 5)]))))))) (.call k_reffect [(.cut (.var 0) (.int .i64 4) (.len (.var 0)))] [(.int .i64), (.int .i64), (.int .i64), (.int .i64), (.list 37)]
(.ob (.cmp .lt (.int .i64 1) (.len (.var 0)))
(.ob (.or (.not (.cmp .ge (.elem (.var 0) (.int .i64 1) 0 (.int .i64)) (.int .i64 0))) (.cmp .lt (.int .i64 1) (.len (.var 0))))
(.ob (.or (.not (.cmp .ge (.elem (.var 0) (.int .i64 1) 0 (.int .i64)) (.int .i64 0))) (.cmp .ge (.elem (.var 0) (.int .i64 1) 0 (.int .i64)) (.int .i64 0)))
(.ob (.or (.not (.cmp .ge (.elem (.var 0) (.int .i64 1) 0 (.int .i64)) (.int .i64 0))) (.cmp .lt (.elem (.var 0) (.int .i64 1) 0 (.int .i64)) (.int .i64 6)))
(.ret [(.elem (.var 0) (.int .i64 0) 0 (.int .i64)), (.ite (.cmp .ge (.elem (.var 0) (.int .i64 1) 0 (.int .i64)) (.int .i64 0)) (.ite (.cmp .eq (.elem (.var 0) (.int .i64 1) 0 (.int .i64)) (.int .i64 0)) (.int .i64 1) (.int .i64 0)) (.int .i64 0)), (.ite (.cmp .ge (.elem (.var 0) (.int .i64 1) 0 (.int .i64)) (.int .i64 0)) (.ite (.cmp .eq (.elem (.var 0) (.int .i64 1) 0 (.int .i64)) (.int .i64 1)) (.int .i64 1) (.int .i64 0)) (.int .i64 0)), (.ite (.cmp .ge (.elem (.var 0) (.int .i64 1) 0 (.int .i64)) (.int .i64 0)) (.ite (.cmp .eq (.elem (.var 0) (.int .i64 1) 0 (.int .i64)) (.int .i64 2)) (.int .i64 1) (.int .i64 0)) (.int .i64 0)), (.ite (.cmp .ge (.elem (.var 0) (.int .i64 1) 0 (.int .i64)) (.int .i64 0)) (.ite (.cmp .eq (.elem (.var 0) (.int .i64 1) 0 (.int .i64)) (.int .i64 3)) (.int .i64 1) (.int .i64 0)) (.int .i64 0)), (.ite (.cmp .ge (.elem (.var 0) (.int .i64 1) 0 (.int .i64)) (.int .i64 0)) (.ite (.cmp .eq (.elem (.var 0) (.int .i64 1) 0 (.int .i64)) (.int .i64 4)) (.int .i64 1) (.int .i64 0)) (.int .i64 0)), (.ite (.cmp .ge (.elem (.var 0) (.int .i64 1) 0 (.int .i64)) (.int .i64 0)) (.ite (.cmp .eq (.elem (.var 0) (.int .i64 1) 0 (.int .i64)) (.int .i64 5)) (.int .i64 1) (.int .i64 0)) (.int .i64 0)), (.cmp .eq (.elem (.var 0) (.int .i64 2) 0 (.int .i64)) (.int .i64 1)), (.elem (.var 0) (.int .i64 3) 0 (.int .i64)), (.var 1), (.var 2), (.var 3), (.var 4), (.var 5)])))))))))))
theorem wk_rability : walk E0.cx (sgsN [(13, sg_reffect)]) 0 14 sg_rability = tr_rability := by kernel_rfl
theorem bo_rability : ∃ x, bodyOf E0.P 14 = some x := bo_of (by kernel_rfl)
theorem sp_rability_reffect : specC [con_reffect] k_reffect = reffect_s := rfl
noncomputable def rability_g : List PD → Option (List PD) := fun ps => evL E0.Δ (pfun [(k_reffect, reffect_g)]) 0 [] tr_rability ps
def rability_s : Spec := psp rability_g
theorem rability_h : Holds E0 k_rability sg_rability rability_s := con_ev wf0 mix0 g0 [con_reffect] rfl wk_rability rfl (fits_cons (k := k_reffect) (g := reffect_g) sp_rability_reffect (fits_nil)) 0
noncomputable def con_rability : Con E0 := ⟨k_rability, sg_rability, rability_s, rfl, bo_rability, rability_h⟩
def k_rmagic : Nat := 12
def sg_rmagic : Sig := ⟨[], [(false, [.list 48])], false, false, false, false, false, [], [], none⟩
noncomputable def tr_rmagic : Tree := walk E0.cx (sgsN []) 0 12 sg_rmagic
theorem wk_rmagic : walk E0.cx (sgsN []) 0 12 sg_rmagic = tr_rmagic := rfl
theorem bo_rmagic : ∃ x, bodyOf E0.P 12 = some x := bo_of (by kernel_rfl)
noncomputable def rmagic_g : List PD → Option (List PD) := fun ps => evL E0.Δ (pfun []) 0 [] tr_rmagic ps
def rmagic_s : Spec := psp rmagic_g
theorem rmagic_h : Holds E0 k_rmagic sg_rmagic rmagic_s := con_ev wf0 mix0 g0 [] rfl wk_rmagic rfl (fits_nil) 0
noncomputable def con_rmagic : Con E0 := ⟨k_rmagic, sg_rmagic, rmagic_s, rfl, bo_rmagic, rmagic_h⟩
def k_rrelic : Nat := 15
def sg_rrelic : Sig := ⟨[], [(false, [.list 48])], false, false, false, false, false, [], [], none⟩
noncomputable def tr_rrelic : Tree := walk E0.cx (sgsN []) 0 15 sg_rrelic
theorem wk_rrelic : walk E0.cx (sgsN []) 0 15 sg_rrelic = tr_rrelic := rfl
theorem bo_rrelic : ∃ x, bodyOf E0.P 15 = some x := bo_of (by kernel_rfl)
noncomputable def rrelic_g : List PD → Option (List PD) := fun ps => evL E0.Δ (pfun []) 0 [] tr_rrelic ps
def rrelic_s : Spec := psp rrelic_g
theorem rrelic_h : Holds E0 k_rrelic sg_rrelic rrelic_s := con_ev wf0 mix0 g0 [] rfl wk_rrelic rfl (fits_nil) 0
noncomputable def con_rrelic : Con E0 := ⟨k_rrelic, sg_rrelic, rrelic_s, rfl, bo_rrelic, rrelic_h⟩
def k_rspecial : Nat := 16
def sg_rspecial : Sig := ⟨[], [(false, [.list 48])], false, false, false, false, false, [], [], none⟩
noncomputable def tr_rspecial : Tree := walk E0.cx (sgsN []) 0 16 sg_rspecial
theorem wk_rspecial : walk E0.cx (sgsN []) 0 16 sg_rspecial = tr_rspecial := rfl
theorem bo_rspecial : ∃ x, bodyOf E0.P 16 = some x := bo_of (by kernel_rfl)
noncomputable def rspecial_g : List PD → Option (List PD) := fun ps => evL E0.Δ (pfun []) 0 [] tr_rspecial ps
def rspecial_s : Spec := psp rspecial_g
theorem rspecial_h : Holds E0 k_rspecial sg_rspecial rspecial_s := con_ev wf0 mix0 g0 [] rfl wk_rspecial rfl (fits_nil) 0
noncomputable def con_rspecial : Con E0 := ⟨k_rspecial, sg_rspecial, rspecial_s, rfl, bo_rspecial, rspecial_h⟩
theorem rmagic_ok : rmagic_g [] = some [irows magicR] := by kernel_rfl
theorem rrelic_ok : rrelic_g [] = some [irows relicR] := by kernel_rfl
theorem rspecial_ok : rspecial_g [] = some [irows specialR] := by kernel_rfl
theorem rability_ok : rability_g [.list 1 (irow [5, -1, 0, 0, 20, 1, 0, 0, 10, 0, 2, 2])] = some (ab 5 [0, 0, 0, 0, 0, 0] false 0 (ef 20 1 0 0 [ef 10 0 2 2 []])) := by kernel_rfl
def k_rgive : Nat := 11
def sg_rgive : Sig := ⟨[(false, [.int .i64]), (false, [.int .i64])], [(true, List.replicate 7 (.int .i64) ++ [.bool] ++ List.replicate 5 (.int .i64) ++ [.list 37])], false, false, true, false, false, [], [], none⟩
def tr_rgive : Tree := (.ret [(.int .i64 6), (.int .i64 0), (.int .i64 0), (.int .i64 0), (.int .i64 0), (.int .i64 0), (.int .i64 0), (.bool true), (.int .i64 0), (.int .i64 15), (.var 0), (.var 1), (.int .i64 0), (.nil 37)])
theorem wk_rgive : walk E0.cx (sgsN []) 0 11 sg_rgive = tr_rgive := by kernel_rfl
theorem bo_rgive : ∃ x, bodyOf E0.P 11 = some x := bo_of (by kernel_rfl)
noncomputable def rgive_g : List PD → Option (List PD) := fun ps => evL E0.Δ (pfun []) 0 [] tr_rgive ps
def rgive_s : Spec := psp rgive_g
theorem rgive_h : Holds E0 k_rgive sg_rgive rgive_s := con_ev wf0 mix0 g0 [] rfl wk_rgive rfl (fits_nil) 0
noncomputable def con_rgive : Con E0 := ⟨k_rgive, sg_rgive, rgive_s, rfl, bo_rgive, rgive_h⟩
def k_rcard : Nat := 6
def sg_rcard : Sig := ⟨[(false, [.int .i64])], [(true, [.int .i64, .int .i64] ++ [.bool] ++ List.replicate 9 (.int .i64) ++ [.list 39]), (false, [.bool])], false, true, true, false, false, [], [], none⟩
def tr_rcard_1 : Tree := (.ret [(.int .i64 1), (.ar .rem .i64 (.var 0) (.int .i64 5)), (.bool false), (.ite (.cmp .gt (.ar .quo .i64 (.ar .sub .i64 (.var 0) (.int .i64 10)) (.int .i64 5)) (.int .i64 3)) (.ite (.cmp .eq (.ar .rem .i64 (.var 0) (.int .i64 5)) (.int .i64 0)) (.int .i64 2) (.ite (.cmp .eq (.ar .rem .i64 (.var 0) (.int .i64 5)) (.int .i64 0)) (.int .i64 1) (.int .i64 0))) (.ite (.cmp .eq (.ar .rem .i64 (.var 0) (.int .i64 5)) (.int .i64 0)) (.int .i64 1) (.int .i64 0))), (.ite (.cmp .gt (.ar .quo .i64 (.ar .sub .i64 (.var 0) (.int .i64 10)) (.int .i64 5)) (.int .i64 3)) (.ite (.cmp .eq (.ar .rem .i64 (.var 0) (.int .i64 5)) (.int .i64 1)) (.int .i64 2) (.ite (.cmp .eq (.ar .rem .i64 (.var 0) (.int .i64 5)) (.int .i64 1)) (.int .i64 1) (.int .i64 0))) (.ite (.cmp .eq (.ar .rem .i64 (.var 0) (.int .i64 5)) (.int .i64 1)) (.int .i64 1) (.int .i64 0))), (.ite (.cmp .gt (.ar .quo .i64 (.ar .sub .i64 (.var 0) (.int .i64 10)) (.int .i64 5)) (.int .i64 3)) (.ite (.cmp .eq (.ar .rem .i64 (.var 0) (.int .i64 5)) (.int .i64 2)) (.int .i64 2) (.ite (.cmp .eq (.ar .rem .i64 (.var 0) (.int .i64 5)) (.int .i64 2)) (.int .i64 1) (.int .i64 0))) (.ite (.cmp .eq (.ar .rem .i64 (.var 0) (.int .i64 5)) (.int .i64 2)) (.int .i64 1) (.int .i64 0))), (.ite (.cmp .gt (.ar .quo .i64 (.ar .sub .i64 (.var 0) (.int .i64 10)) (.int .i64 5)) (.int .i64 3)) (.ite (.cmp .eq (.ar .rem .i64 (.var 0) (.int .i64 5)) (.int .i64 3)) (.int .i64 2) (.ite (.cmp .eq (.ar .rem .i64 (.var 0) (.int .i64 5)) (.int .i64 3)) (.int .i64 1) (.int .i64 0))) (.ite (.cmp .eq (.ar .rem .i64 (.var 0) (.int .i64 5)) (.int .i64 3)) (.int .i64 1) (.int .i64 0))), (.ite (.cmp .gt (.ar .quo .i64 (.ar .sub .i64 (.var 0) (.int .i64 10)) (.int .i64 5)) (.int .i64 3)) (.ite (.cmp .eq (.ar .rem .i64 (.var 0) (.int .i64 5)) (.int .i64 4)) (.int .i64 2) (.ite (.cmp .eq (.ar .rem .i64 (.var 0) (.int .i64 5)) (.int .i64 4)) (.int .i64 1) (.int .i64 0))) (.ite (.cmp .eq (.ar .rem .i64 (.var 0) (.int .i64 5)) (.int .i64 4)) (.int .i64 1) (.int .i64 0))), (.ar .quo .i64 (.ar .sub .i64 (.var 0) (.int .i64 10)) (.int .i64 5)), (.elem (.push (.push (.push (.push (.push (.push (.push (.push .emp (.econs (.int .i64 1) .enil)) (.econs (.int .i64 1) .enil)) (.econs (.int .i64 2) .enil)) (.econs (.int .i64 2) .enil)) (.econs (.int .i64 3) .enil)) (.econs (.int .i64 3) .enil)) (.econs (.int .i64 4) .enil)) (.econs (.int .i64 4) .enil)) (.ar .quo .i64 (.ar .sub .i64 (.var 0) (.int .i64 10)) (.int .i64 5)) 0 (.int .i64)), (.elem (.push (.push (.push (.push (.push (.push (.push (.push .emp (.econs (.int .i64 1) .enil)) (.econs (.int .i64 2) .enil)) (.econs (.int .i64 2) .enil)) (.econs (.int .i64 3) .enil)) (.econs (.int .i64 3) .enil)) (.econs (.int .i64 4) .enil)) (.econs (.int .i64 4) .enil)) (.econs (.int .i64 5) .enil)) (.ar .quo .i64 (.ar .sub .i64 (.var 0) (.int .i64 10)) (.int .i64 5)) 0 (.int .i64)), (.elem (.push (.push (.push (.push (.push (.push (.push (.push .emp (.econs (.int .i64 1) .enil)) (.econs (.int .i64 2) .enil)) (.econs (.int .i64 4) .enil)) (.econs (.int .i64 8) .enil)) (.econs (.int .i64 16) .enil)) (.econs (.int .i64 32) .enil)) (.econs (.int .i64 64) .enil)) (.econs (.int .i64 128) .enil)) (.ar .quo .i64 (.ar .sub .i64 (.var 0) (.int .i64 10)) (.int .i64 5)) 0 (.int .i64)), (.var 1), (.bool true)])
def tr_rcard_2 : Tree := (.ob (.cmp .ge (.ar .quo .i64 (.ar .sub .i64 (.var 0) (.int .i64 10)) (.int .i64 5)) (.int .i64 0)) (.ob (.cmp .lt (.ar .quo .i64 (.ar .sub .i64 (.var 0) (.int .i64 10)) (.int .i64 5)) (.int .i64 8)) (.ite (.cmp .eq (.ar .rem .i64 (.var 0) (.int .i64 5)) (.int .i64 0)) (.share 39 (.push .emp (.econs (.int .i64 2) (.econs (.int .i64 0) (.econs (.int .i64 0) (.econs (.int .i64 0) (.econs (.int .i64 0) (.econs (.int .i64 0) (.econs (.int .i64 0) (.econs (.bool false) (.econs (.int .i64 0) (.econs (.int .i64 2) (.econs (.ar .add .i64 (.ar .quo .i64 (.ar .sub .i64 (.var 0) (.int .i64 10)) (.int .i64 5)) (.int .i64 1)) (.econs (.int .i64 0) (.econs (.int .i64 0) (.econs (.nil 37) .enil))))))))))))))) tr_rcard_1) (.ite (.cmp .eq (.ar .rem .i64 (.var 0) (.int .i64 5)) (.int .i64 1)) (.ite (.cmp .eq (.ar .rem .i64 (.ar .quo .i64 (.ar .sub .i64 (.var 0) (.int .i64 10)) (.int .i64 5)) (.int .i64 2)) (.int .i64 0)) (.ret [(.int .i64 1), (.ar .rem .i64 (.var 0) (.int .i64 5)), (.bool false), (.ite (.cmp .gt (.ar .quo .i64 (.ar .sub .i64 (.var 0) (.int .i64 10)) (.int .i64 5)) (.int .i64 3)) (.ite (.cmp .eq (.ar .rem .i64 (.var 0) (.int .i64 5)) (.int .i64 0)) (.int .i64 2) (.ite (.cmp .eq (.ar .rem .i64 (.var 0) (.int .i64 5)) (.int .i64 0)) (.int .i64 1) (.int .i64 0))) (.ite (.cmp .eq (.ar .rem .i64 (.var 0) (.int .i64 5)) (.int .i64 0)) (.int .i64 1) (.int .i64 0))), (.ite (.cmp .gt (.ar .quo .i64 (.ar .sub .i64 (.var 0) (.int .i64 10)) (.int .i64 5)) (.int .i64 3)) (.ite (.cmp .eq (.ar .rem .i64 (.var 0) (.int .i64 5)) (.int .i64 1)) (.int .i64 2) (.ite (.cmp .eq (.ar .rem .i64 (.var 0) (.int .i64 5)) (.int .i64 1)) (.int .i64 1) (.int .i64 0))) (.ite (.cmp .eq (.ar .rem .i64 (.var 0) (.int .i64 5)) (.int .i64 1)) (.int .i64 1) (.int .i64 0))), (.ite (.cmp .gt (.ar .quo .i64 (.ar .sub .i64 (.var 0) (.int .i64 10)) (.int .i64 5)) (.int .i64 3)) (.ite (.cmp .eq (.ar .rem .i64 (.var 0) (.int .i64 5)) (.int .i64 2)) (.int .i64 2) (.ite (.cmp .eq (.ar .rem .i64 (.var 0) (.int .i64 5)) (.int .i64 2)) (.int .i64 1) (.int .i64 0))) (.ite (.cmp .eq (.ar .rem .i64 (.var 0) (.int .i64 5)) (.int .i64 2)) (.int .i64 1) (.int .i64 0))), (.ite (.cmp .gt (.ar .quo .i64 (.ar .sub .i64 (.var 0) (.int .i64 10)) (.int .i64 5)) (.int .i64 3)) (.ite (.cmp .eq (.ar .rem .i64 (.var 0) (.int .i64 5)) (.int .i64 3)) (.int .i64 2) (.ite (.cmp .eq (.ar .rem .i64 (.var 0) (.int .i64 5)) (.int .i64 3)) (.int .i64 1) (.int .i64 0))) (.ite (.cmp .eq (.ar .rem .i64 (.var 0) (.int .i64 5)) (.int .i64 3)) (.int .i64 1) (.int .i64 0))), (.ite (.cmp .gt (.ar .quo .i64 (.ar .sub .i64 (.var 0) (.int .i64 10)) (.int .i64 5)) (.int .i64 3)) (.ite (.cmp .eq (.ar .rem .i64 (.var 0) (.int .i64 5)) (.int .i64 4)) (.int .i64 2) (.ite (.cmp .eq (.ar .rem .i64 (.var 0) (.int .i64 5)) (.int .i64 4)) (.int .i64 1) (.int .i64 0))) (.ite (.cmp .eq (.ar .rem .i64 (.var 0) (.int .i64 5)) (.int .i64 4)) (.int .i64 1) (.int .i64 0))), (.ar .quo .i64 (.ar .sub .i64 (.var 0) (.int .i64 10)) (.int .i64 5)), (.elem (.push (.push (.push (.push (.push (.push (.push (.push .emp (.econs (.int .i64 1) .enil)) (.econs (.int .i64 1) .enil)) (.econs (.int .i64 2) .enil)) (.econs (.int .i64 2) .enil)) (.econs (.int .i64 3) .enil)) (.econs (.int .i64 3) .enil)) (.econs (.int .i64 4) .enil)) (.econs (.int .i64 4) .enil)) (.ar .quo .i64 (.ar .sub .i64 (.var 0) (.int .i64 10)) (.int .i64 5)) 0 (.int .i64)), (.elem (.push (.push (.push (.push (.push (.push (.push (.push .emp (.econs (.int .i64 1) .enil)) (.econs (.int .i64 2) .enil)) (.econs (.int .i64 2) .enil)) (.econs (.int .i64 3) .enil)) (.econs (.int .i64 3) .enil)) (.econs (.int .i64 4) .enil)) (.econs (.int .i64 4) .enil)) (.econs (.int .i64 5) .enil)) (.ar .quo .i64 (.ar .sub .i64 (.var 0) (.int .i64 10)) (.int .i64 5)) 0 (.int .i64)), (.elem (.push (.push (.push (.push (.push (.push (.push (.push .emp (.econs (.int .i64 1) .enil)) (.econs (.int .i64 2) .enil)) (.econs (.int .i64 4) .enil)) (.econs (.int .i64 8) .enil)) (.econs (.int .i64 16) .enil)) (.econs (.int .i64 32) .enil)) (.econs (.int .i64 64) .enil)) (.econs (.int .i64 128) .enil)) (.ar .quo .i64 (.ar .sub .i64 (.var 0) (.int .i64 10)) (.int .i64 5)) 0 (.int .i64)), (.nil 39), (.bool true)]) (.share 39 (.push .emp (.econs (.int .i64 2) (.econs (.int .i64 0) (.econs (.int .i64 0) (.econs (.int .i64 0) (.econs (.int .i64 0) (.econs (.int .i64 0) (.econs (.int .i64 0) (.econs (.bool false) (.econs (.int .i64 0) (.econs (.int .i64 4) (.econs (.int .i64 1) (.econs (.int .i64 0) (.econs (.int .i64 0) (.econs (.nil 37) .enil))))))))))))))) tr_rcard_1)) (.ite (.cmp .eq (.ar .rem .i64 (.var 0) (.int .i64 5)) (.int .i64 2)) (.ob (.cmp .ge (.ar .quo .i64 (.ar .sub .i64 (.var 0) (.int .i64 10)) (.int .i64 5)) (.int .i64 0)) (.ob (.cmp .lt (.ar .quo .i64 (.ar .sub .i64 (.var 0) (.int .i64 10)) (.int .i64 5)) (.int .i64 8)) (.share 39 (.push .emp (.econs (.int .i64 3) (.econs (.int .i64 0) (.econs (.int .i64 0) (.econs (.int .i64 0) (.econs (.int .i64 0) (.econs (.int .i64 0) (.econs (.int .i64 0) (.econs (.bool false) (.econs (.int .i64 0) (.econs (.int .i64 3) (.econs (.elem (.push (.push (.push (.push (.push (.push (.push (.push .emp (.econs (.int .i64 1) .enil)) (.econs (.int .i64 1) .enil)) (.econs (.int .i64 2) .enil)) (.econs (.int .i64 2) .enil)) (.econs (.int .i64 3) .enil)) (.econs (.int .i64 3) .enil)) (.econs (.int .i64 4) .enil)) (.econs (.int .i64 4) .enil)) (.ar .quo .i64 (.ar .sub .i64 (.var 0) (.int .i64 10)) (.int .i64 5)) 0 (.int .i64)) (.econs (.int .i64 0) (.econs (.int .i64 1) (.econs (.nil 37) .enil))))))))))))))) tr_rcard_1))) (.share 39 (.push .emp (.econs (.int .i64 1) (.econs (.int .i64 0) (.econs (.int .i64 0) (.econs (.int .i64 0) (.econs (.ite (.cmp .eq (.ar .rem .i64 (.var 0) (.int .i64 5)) (.int .i64 3)) (.int .i64 1) (.int .i64 0)) (.econs (.ite (.cmp .eq (.ar .rem .i64 (.var 0) (.int .i64 5)) (.int .i64 3)) (.int .i64 0) (.int .i64 1)) (.econs (.int .i64 0) (.econs (.cmp .eq (.ar .rem .i64 (.var 0) (.int .i64 5)) (.int .i64 3)) (.econs (.ite (.cmp .eq (.ar .rem .i64 (.var 0) (.int .i64 5)) (.int .i64 3)) (.int .i64 3) (.int .i64 0)) (.econs (.ite (.cmp .eq (.ar .rem .i64 (.var 0) (.int .i64 5)) (.int .i64 3)) (.int .i64 1) (.int .i64 10)) (.econs (.int .i64 1) (.econs (.ite (.cmp .eq (.ar .rem .i64 (.var 0) (.int .i64 5)) (.int .i64 3)) (.int .i64 0) (.int .i64 1)) (.econs (.ite (.cmp .eq (.ar .rem .i64 (.var 0) (.int .i64 5)) (.int .i64 3)) (.int .i64 2) (.int .i64 3)) (.econs (.nil 37) .enil))))))))))))))) (.ret [(.int .i64 1), (.ar .rem .i64 (.var 0) (.int .i64 5)), (.bool false), (.ite (.cmp .gt (.ar .quo .i64 (.ar .sub .i64 (.var 0) (.int .i64 10)) (.int .i64 5)) (.int .i64 3)) (.ite (.cmp .eq (.ar .rem .i64 (.var 0) (.int .i64 5)) (.int .i64 0)) (.int .i64 2) (.ite (.cmp .eq (.ar .rem .i64 (.var 0) (.int .i64 5)) (.int .i64 0)) (.int .i64 1) (.int .i64 0))) (.ite (.cmp .eq (.ar .rem .i64 (.var 0) (.int .i64 5)) (.int .i64 0)) (.int .i64 1) (.int .i64 0))), (.ite (.cmp .gt (.ar .quo .i64 (.ar .sub .i64 (.var 0) (.int .i64 10)) (.int .i64 5)) (.int .i64 3)) (.ite (.cmp .eq (.ar .rem .i64 (.var 0) (.int .i64 5)) (.int .i64 1)) (.int .i64 2) (.ite (.cmp .eq (.ar .rem .i64 (.var 0) (.int .i64 5)) (.int .i64 1)) (.int .i64 1) (.int .i64 0))) (.ite (.cmp .eq (.ar .rem .i64 (.var 0) (.int .i64 5)) (.int .i64 1)) (.int .i64 1) (.int .i64 0))), (.ite (.cmp .gt (.ar .quo .i64 (.ar .sub .i64 (.var 0) (.int .i64 10)) (.int .i64 5)) (.int .i64 3)) (.ite (.cmp .eq (.ar .rem .i64 (.var 0) (.int .i64 5)) (.int .i64 2)) (.int .i64 2) (.ite (.cmp .eq (.ar .rem .i64 (.var 0) (.int .i64 5)) (.int .i64 2)) (.int .i64 1) (.int .i64 0))) (.ite (.cmp .eq (.ar .rem .i64 (.var 0) (.int .i64 5)) (.int .i64 2)) (.int .i64 1) (.int .i64 0))), (.ite (.cmp .gt (.ar .quo .i64 (.ar .sub .i64 (.var 0) (.int .i64 10)) (.int .i64 5)) (.int .i64 3)) (.ite (.cmp .eq (.ar .rem .i64 (.var 0) (.int .i64 5)) (.int .i64 3)) (.int .i64 2) (.ite (.cmp .eq (.ar .rem .i64 (.var 0) (.int .i64 5)) (.int .i64 3)) (.int .i64 1) (.int .i64 0))) (.ite (.cmp .eq (.ar .rem .i64 (.var 0) (.int .i64 5)) (.int .i64 3)) (.int .i64 1) (.int .i64 0))), (.ite (.cmp .gt (.ar .quo .i64 (.ar .sub .i64 (.var 0) (.int .i64 10)) (.int .i64 5)) (.int .i64 3)) (.ite (.cmp .eq (.ar .rem .i64 (.var 0) (.int .i64 5)) (.int .i64 4)) (.int .i64 2) (.ite (.cmp .eq (.ar .rem .i64 (.var 0) (.int .i64 5)) (.int .i64 4)) (.int .i64 1) (.int .i64 0))) (.ite (.cmp .eq (.ar .rem .i64 (.var 0) (.int .i64 5)) (.int .i64 4)) (.int .i64 1) (.int .i64 0))), (.ar .quo .i64 (.ar .sub .i64 (.var 0) (.int .i64 10)) (.int .i64 5)), (.ite (.cmp .eq (.ar .rem .i64 (.var 0) (.int .i64 5)) (.int .i64 3)) (.ar .add .i64 (.elem (.push (.push (.push (.push (.push (.push (.push (.push .emp (.econs (.int .i64 1) .enil)) (.econs (.int .i64 1) .enil)) (.econs (.int .i64 2) .enil)) (.econs (.int .i64 2) .enil)) (.econs (.int .i64 3) .enil)) (.econs (.int .i64 3) .enil)) (.econs (.int .i64 4) .enil)) (.econs (.int .i64 4) .enil)) (.ar .quo .i64 (.ar .sub .i64 (.var 0) (.int .i64 10)) (.int .i64 5)) 0 (.int .i64)) (.int .i64 1)) (.elem (.push (.push (.push (.push (.push (.push (.push (.push .emp (.econs (.int .i64 1) .enil)) (.econs (.int .i64 1) .enil)) (.econs (.int .i64 2) .enil)) (.econs (.int .i64 2) .enil)) (.econs (.int .i64 3) .enil)) (.econs (.int .i64 3) .enil)) (.econs (.int .i64 4) .enil)) (.econs (.int .i64 4) .enil)) (.ar .quo .i64 (.ar .sub .i64 (.var 0) (.int .i64 10)) (.int .i64 5)) 0 (.int .i64))), (.ite (.cmp .eq (.ar .rem .i64 (.var 0) (.int .i64 5)) (.int .i64 3)) (.elem (.push (.push (.push (.push (.push (.push (.push (.push .emp (.econs (.int .i64 1) .enil)) (.econs (.int .i64 2) .enil)) (.econs (.int .i64 2) .enil)) (.econs (.int .i64 3) .enil)) (.econs (.int .i64 3) .enil)) (.econs (.int .i64 4) .enil)) (.econs (.int .i64 4) .enil)) (.econs (.int .i64 5) .enil)) (.ar .quo .i64 (.ar .sub .i64 (.var 0) (.int .i64 10)) (.int .i64 5)) 0 (.int .i64)) (.ar .add .i64 (.elem (.push (.push (.push (.push (.push (.push (.push (.push .emp (.econs (.int .i64 1) .enil)) (.econs (.int .i64 2) .enil)) (.econs (.int .i64 2) .enil)) (.econs (.int .i64 3) .enil)) (.econs (.int .i64 3) .enil)) (.econs (.int .i64 4) .enil)) (.econs (.int .i64 4) .enil)) (.econs (.int .i64 5) .enil)) (.ar .quo .i64 (.ar .sub .i64 (.var 0) (.int .i64 10)) (.int .i64 5)) 0 (.int .i64)) (.int .i64 1))), (.elem (.push (.push (.push (.push (.push (.push (.push (.push .emp (.econs (.int .i64 1) .enil)) (.econs (.int .i64 2) .enil)) (.econs (.int .i64 4) .enil)) (.econs (.int .i64 8) .enil)) (.econs (.int .i64 16) .enil)) (.econs (.int .i64 32) .enil)) (.econs (.int .i64 64) .enil)) (.econs (.int .i64 128) .enil)) (.ar .quo .i64 (.ar .sub .i64 (.var 0) (.int .i64 10)) (.int .i64 5)) 0 (.int .i64)), (.var 1), (.bool true)])))))))
def tr_rcard_3 : Tree := (.ob (.cmp .ge (.ar .quo .i64 (.ar .sub .i64 (.var 0) (.int .i64 10)) (.int .i64 5)) (.int .i64 0)) (.ob (.cmp .lt (.ar .quo .i64 (.ar .sub .i64 (.var 0) (.int .i64 10)) (.int .i64 5)) (.int .i64 8)) tr_rcard_2))
def tr_rcard_4 : Tree := (.ob (.cmp .ge (.ar .quo .i64 (.ar .sub .i64 (.var 0) (.int .i64 10)) (.int .i64 5)) (.int .i64 0)) (.ob (.cmp .lt (.ar .quo .i64 (.ar .sub .i64 (.var 0) (.int .i64 10)) (.int .i64 5)) (.int .i64 8)) (.both (.both tr_rcard_2 tr_rcard_2) tr_rcard_2)))
def tr_rcard_5 : Tree := (.ob (.cmp .le (.len (.push (.push .emp (.econs (.var 2) (.econs (.var 3) (.econs (.var 4) (.econs (.var 5) (.econs (.var 6) (.econs (.var 7) (.econs (.var 8) (.econs (.var 9) (.econs (.var 10) (.econs (.var 11) (.econs (.var 12) (.econs (.var 13) (.econs (.var 14) (.econs (.var 15) .enil))))))))))))))) (.econs (.var 16) (.econs (.var 17) (.econs (.var 18) (.econs (.var 19) (.econs (.var 20) (.econs (.var 21) (.econs (.var 22) (.econs (.var 23) (.econs (.var 24) (.econs (.var 25) (.econs (.var 26) (.econs (.var 27) (.econs (.var 28) (.econs (.var 29) .enil)))))))))))))))) (.int .i64 1099511627776)) (.share 39 (.push (.push .emp (.econs (.var 2) (.econs (.var 3) (.econs (.var 4) (.econs (.var 5) (.econs (.var 6) (.econs (.var 7) (.econs (.var 8) (.econs (.var 9) (.econs (.var 10) (.econs (.var 11) (.econs (.var 12) (.econs (.var 13) (.econs (.var 14) (.econs (.var 15) .enil))))))))))))))) (.econs (.var 16) (.econs (.var 17) (.econs (.var 18) (.econs (.var 19) (.econs (.var 20) (.econs (.var 21) (.econs (.var 22) (.econs (.var 23) (.econs (.var 24) (.econs (.var 25) (.econs (.var 26) (.econs (.var 27) (.econs (.var 28) (.econs (.var 29) .enil))))))))))))))) (.ret [(.elem (.elem (.var 1) (.ar .sub .i64 (.var 0) (.int .i64 100)) 0 (.list 3)) (.int .i64 0) 0 (.int .i64)), (.int .i64 5), (.cmp .eq (.elem (.elem (.var 1) (.ar .sub .i64 (.var 0) (.int .i64 100)) 0 (.list 3)) (.int .i64 2) 0 (.int .i64)) (.int .i64 1)), (.int .i64 0), (.int .i64 0), (.int .i64 0), (.int .i64 0), (.int .i64 0), (.elem (.elem (.var 1) (.ar .sub .i64 (.var 0) (.int .i64 100)) 0 (.list 3)) (.int .i64 1) 0 (.int .i64)), (.elem (.elem (.var 1) (.ar .sub .i64 (.var 0) (.int .i64 100)) 0 (.list 3)) (.int .i64 3) 0 (.int .i64)), (.elem (.elem (.var 1) (.ar .sub .i64 (.var 0) (.int .i64 100)) 0 (.list 3)) (.int .i64 4) 0 (.int .i64)), (.elem (.elem (.var 1) (.ar .sub .i64 (.var 0) (.int .i64 100)) 0 (.list 3)) (.int .i64 5) 0 (.int .i64)), (.var 30), (.bool true)])))
def tr_rcard : Tree := (.ite (.or (.cmp .lt (.var 0) (.int .i64 0)) (.cmp .gt (.var 0) (.int .i64 119))) (.ret [(.int .i64 0), (.int .i64 0), (.bool false), (.int .i64 0), (.int .i64 0), (.int .i64 0), (.int .i64 0), (.int .i64 0), (.int .i64 0), (.int .i64 0), (.int .i64 0), (.int .i64 0), (.nil 39), (.bool false)]) (.ite (.cmp .lt (.var 0) (.int .i64 5)) (.call k_rgive [(.int .i64 1), (.var 0)] [(.int .i64), (.int .i64), (.int .i64), (.int .i64), (.int .i64), (.int .i64), (.int .i64), .bool, (.int .i64), (.int .i64), (.int .i64), (.int .i64), (.int .i64), (.list 37)] (.share 39 (.push .emp (.econs (.var 1) (.econs (.var 2) (.econs (.var 3) (.econs (.var 4) (.econs (.var 5) (.econs (.var 6) (.econs (.var 7) (.econs (.var 8) (.econs (.var 9) (.econs (.var 10) (.econs (.var 11) (.econs (.var 12) (.econs (.var 13) (.econs (.var 14) .enil))))))))))))))) (.ret [(.int .i64 0), (.var 0), (.bool false), (.int .i64 0), (.int .i64 0), (.int .i64 0), (.int .i64 0), (.int .i64 0), (.int .i64 0), (.int .i64 0), (.int .i64 0), (.int .i64 0), (.var 15), (.bool true)]))) (.ite (.cmp .lt (.var 0) (.int .i64 10)) (.ob (.cmp .ge (.ar .sub .i64 (.var 0) (.int .i64 5)) (.int .i64 0)) (.ob (.cmp .lt (.ar .sub .i64 (.var 0) (.int .i64 5)) (.int .i64 5)) (.call k_rgive [(.elem (.push (.push (.push (.push (.push .emp (.econs (.int .i64 1) .enil)) (.econs (.int .i64 1) .enil)) (.econs (.int .i64 2) .enil)) (.econs (.int .i64 2) .enil)) (.econs (.int .i64 3) .enil)) (.ar .sub .i64 (.var 0) (.int .i64 5)) 0 (.int .i64)), (.int .i64 5)] [(.int .i64), (.int .i64), (.int .i64), (.int .i64), (.int .i64), (.int .i64), (.int .i64), .bool, (.int .i64), (.int .i64), (.int .i64), (.int .i64), (.int .i64), (.list 37)] (.share 39 (.push (.push .emp (.econs (.int .i64 2) (.econs (.int .i64 0) (.econs (.int .i64 0) (.econs (.int .i64 0) (.econs (.int .i64 0) (.econs (.int .i64 0) (.econs (.int .i64 0) (.econs (.bool false) (.econs (.int .i64 0) (.econs (.int .i64 3) (.econs (.ar .sub .i64 (.var 0) (.int .i64 4)) (.econs (.int .i64 0) (.econs (.int .i64 0) (.econs (.nil 37) .enil))))))))))))))) (.econs (.var 1) (.econs (.var 2) (.econs (.var 3) (.econs (.var 4) (.econs (.var 5) (.econs (.var 6) (.econs (.var 7) (.econs (.var 8) (.econs (.var 9) (.econs (.var 10) (.econs (.var 11) (.econs (.var 12) (.econs (.var 13) (.econs (.var 14) .enil))))))))))))))) (.ret [(.int .i64 0), (.int .i64 5), (.bool false), (.int .i64 0), (.int .i64 0), (.int .i64 0), (.int .i64 0), (.int .i64 0), (.int .i64 0), (.int .i64 0), (.int .i64 0), (.int .i64 0), (.var 15), (.bool true)]))))) (.ite (.cmp .lt (.var 0) (.int .i64 50)) (.ob (.cmp .ge (.ar .rem .i64 (.var 0) (.int .i64 5)) (.int .i64 0)) (.ob (.cmp .lt (.ar .rem .i64 (.var 0) (.int .i64 5)) (.int .i64 6)) (.ob (.or (.not (.cmp .gt (.ar .quo .i64 (.ar .sub .i64 (.var 0) (.int .i64 10)) (.int .i64 5)) (.int .i64 3))) (.cmp .ge (.ar .rem .i64 (.var 0) (.int .i64 5)) (.int .i64 0))) (.ob (.or (.not (.cmp .gt (.ar .quo .i64 (.ar .sub .i64 (.var 0) (.int .i64 10)) (.int .i64 5)) (.int .i64 3))) (.cmp .lt (.ar .rem .i64 (.var 0) (.int .i64 5)) (.int .i64 6))) (.both (.ob (.cmp .ge (.ar .quo .i64 (.ar .sub .i64 (.var 0) (.int .i64 10)) (.int .i64 5)) (.int .i64 0)) (.ob (.cmp .lt (.ar .quo .i64 (.ar .sub .i64 (.var 0) (.int .i64 10)) (.int .i64 5)) (.int .i64 8)) (.both (.both (.ob (.cmp .ge (.ar .quo .i64 (.ar .sub .i64 (.var 0) (.int .i64 10)) (.int .i64 5)) (.int .i64 0)) (.ob (.cmp .lt (.ar .quo .i64 (.ar .sub .i64 (.var 0) (.int .i64 10)) (.int .i64 5)) (.int .i64 8)) (.both tr_rcard_2 tr_rcard_2))) tr_rcard_3) tr_rcard_4))) (.ob (.cmp .ge (.ar .quo .i64 (.ar .sub .i64 (.var 0) (.int .i64 10)) (.int .i64 5)) (.int .i64 0)) (.ob (.cmp .lt (.ar .quo .i64 (.ar .sub .i64 (.var 0) (.int .i64 10)) (.int .i64 5)) (.int .i64 8)) (.both tr_rcard_4 tr_rcard_3)))))))) (.ite (.cmp .lt (.var 0) (.int .i64 80)) (.call k_rmagic [] [(.list 48)] (.ob (.cmp .ge (.ar .sub .i64 (.var 0) (.int .i64 50)) (.int .i64 0)) (.ob (.cmp .lt (.ar .sub .i64 (.var 0) (.int .i64 50)) (.len (.var 1))) (.ob (.cmp .ge (.ar .rem .i64 (.var 0) (.int .i64 5)) (.int .i64 0)) (.ob (.cmp .lt (.ar .rem .i64 (.var 0) (.int .i64 5)) (.int .i64 6)) (.ob (.cmp .lt (.int .i64 0) (.len (.elem (.var 1) (.ar .sub .i64 (.var 0) (.int .i64 50)) 0 (.list 3)))) (.ob (.cmp .le (.int .i64 1) (.len (.elem (.var 1) (.ar .sub .i64 (.var 0) (.int .i64 50)) 0 (.list 3)))) (.call k_reffect [(.cut (.elem (.var 1) (.ar .sub .i64 (.var 0) (.int .i64 50)) 0 (.list 3)) (.int .i64 1) (.len (.elem (.var 1) (.ar .sub .i64 (.var 0) (.int .i64 50)) 0 (.list 3))))] [(.int .i64), (.int .i64), (.int .i64), (.int .i64), (.list 37)] (.share 39 (.push .emp (.econs (.int .i64 0) (.econs (.int .i64 0) (.econs (.int .i64 0) (.econs (.int .i64 0) (.econs (.int .i64 0) (.econs (.int .i64 0) (.econs (.int .i64 0) (.econs (.bool false) (.econs (.elem (.elem (.var 1) (.ar .sub .i64 (.var 0) (.int .i64 50)) 0 (.list 3)) (.int .i64 0) 0 (.int .i64)) (.econs (.var 2) (.econs (.var 3) (.econs (.var 4) (.econs (.var 5) (.econs (.var 6) .enil))))))))))))))) (.ret [(.int .i64 2), (.ar .rem .i64 (.var 0) (.int .i64 5)), (.cmp .eq (.ar .rem .i64 (.ar .quo .i64 (.ar .sub .i64 (.var 0) (.int .i64 50)) (.int .i64 5)) (.int .i64 2)) (.int .i64 0)), (.ite (.cmp .eq (.ar .rem .i64 (.var 0) (.int .i64 5)) (.int .i64 0)) (.int .i64 1) (.int .i64 0)), (.ite (.cmp .eq (.ar .rem .i64 (.var 0) (.int .i64 5)) (.int .i64 1)) (.int .i64 1) (.int .i64 0)), (.ite (.cmp .eq (.ar .rem .i64 (.var 0) (.int .i64 5)) (.int .i64 2)) (.int .i64 1) (.int .i64 0)), (.ite (.cmp .eq (.ar .rem .i64 (.var 0) (.int .i64 5)) (.int .i64 3)) (.int .i64 1) (.int .i64 0)), (.ite (.cmp .eq (.ar .rem .i64 (.var 0) (.int .i64 5)) (.int .i64 4)) (.int .i64 1) (.int .i64 0)), (.ar .quo .i64 (.ar .sub .i64 (.var 0) (.int .i64 50)) (.int .i64 5)), (.int .i64 0), (.int .i64 0), (.int .i64 0), (.var 7), (.bool true)])))))))))) (.ite (.cmp .lt (.var 0) (.int .i64 100)) (.ob (.cmp .ge (.ar .rem .i64 (.var 0) (.int .i64 5)) (.int .i64 0)) (.ob (.cmp .lt (.ar .rem .i64 (.var 0) (.int .i64 5)) (.int .i64 6)) (.call k_rrelic [] [(.list 48)] (.ob (.cmp .ge (.ar .sub .i64 (.var 0) (.int .i64 80)) (.int .i64 0)) (.ob (.cmp .lt (.ar .sub .i64 (.var 0) (.int .i64 80)) (.len (.var 1))) (.call k_rability [(.elem (.var 1) (.ar .sub .i64 (.var 0) (.int .i64 80)) 0 (.list 3))] [(.int .i64), (.int .i64), (.int .i64), (.int .i64), (.int .i64), (.int .i64), (.int .i64), .bool, (.int .i64), (.int .i64), (.int .i64), (.int .i64), (.int .i64), (.list 37)] (.share 39 (.push .emp (.econs (.var 2) (.econs (.var 3) (.econs (.var 4) (.econs (.var 5) (.econs (.var 6) (.econs (.var 7) (.econs (.var 8) (.econs (.var 9) (.econs (.var 10) (.econs (.var 11) (.econs (.var 12) (.econs (.var 13) (.econs (.var 14) (.econs (.var 15) .enil))))))))))))))) (.ret [(.int .i64 3), (.ar .rem .i64 (.var 0) (.int .i64 5)), (.bool false), (.ite (.cmp .eq (.ar .rem .i64 (.var 0) (.int .i64 5)) (.int .i64 0)) (.int .i64 1) (.int .i64 0)), (.ite (.cmp .eq (.ar .rem .i64 (.var 0) (.int .i64 5)) (.int .i64 1)) (.int .i64 1) (.int .i64 0)), (.ite (.cmp .eq (.ar .rem .i64 (.var 0) (.int .i64 5)) (.int .i64 2)) (.int .i64 1) (.int .i64 0)), (.ite (.cmp .eq (.ar .rem .i64 (.var 0) (.int .i64 5)) (.int .i64 3)) (.int .i64 1) (.int .i64 0)), (.ite (.cmp .eq (.ar .rem .i64 (.var 0) (.int .i64 5)) (.int .i64 4)) (.int .i64 1) (.int .i64 0)), (.ar .add .i64 (.ar .quo .i64 (.ar .sub .i64 (.var 0) (.int .i64 80)) (.int .i64 5)) (.int .i64 1)), (.int .i64 0), (.int .i64 0), (.int .i64 0), (.var 16), (.bool true)])))))))) (.ite (.cmp .lt (.var 0) (.int .i64 112)) (.call k_rspecial [] [(.list 48)] (.ob (.cmp .ge (.ar .sub .i64 (.var 0) (.int .i64 100)) (.int .i64 0)) (.ob (.cmp .lt (.ar .sub .i64 (.var 0) (.int .i64 100)) (.len (.var 1))) (.ob (.cmp .lt (.int .i64 0) (.len (.elem (.var 1) (.ar .sub .i64 (.var 0) (.int .i64 100)) 0 (.list 3)))) (.ob (.cmp .lt (.int .i64 2) (.len (.elem (.var 1) (.ar .sub .i64 (.var 0) (.int .i64 100)) 0 (.list 3)))) (.ob (.cmp .lt (.int .i64 3) (.len (.elem (.var 1) (.ar .sub .i64 (.var 0) (.int .i64 100)) 0 (.list 3)))) (.ob (.cmp .lt (.int .i64 4) (.len (.elem (.var 1) (.ar .sub .i64 (.var 0) (.int .i64 100)) 0 (.list 3)))) (.ob (.cmp .lt (.int .i64 5) (.len (.elem (.var 1) (.ar .sub .i64 (.var 0) (.int .i64 100)) 0 (.list 3)))) (.ob (.cmp .lt (.int .i64 1) (.len (.elem (.var 1) (.ar .sub .i64 (.var 0) (.int .i64 100)) 0 (.list 3)))) (.ob (.cmp .le (.int .i64 6) (.len (.elem (.var 1) (.ar .sub .i64 (.var 0) (.int .i64 100)) 0 (.list 3)))) (.call k_rability [(.cut (.elem (.var 1) (.ar .sub .i64 (.var 0) (.int .i64 100)) 0 (.list 3)) (.int .i64 6) (.len (.elem (.var 1) (.ar .sub .i64 (.var 0) (.int .i64 100)) 0 (.list 3))))] [(.int .i64), (.int .i64), (.int .i64), (.int .i64), (.int .i64), (.int .i64), (.int .i64), .bool, (.int .i64), (.int .i64), (.int .i64), (.int .i64), (.int .i64), (.list 37)] (.ite (.cmp .eq (.var 0) (.int .i64 108)) (.both (.call k_rgive [(.int .i64 2), (.int .i64 5)] [(.int .i64), (.int .i64), (.int .i64), (.int .i64), (.int .i64), (.int .i64), (.int .i64), .bool, (.int .i64), (.int .i64), (.int .i64), (.int .i64), (.int .i64), (.list 37)] tr_rcard_5) (.call k_rgive [(.int .i64 2), (.int .i64 5)] [(.int .i64), (.int .i64), (.int .i64), (.int .i64), (.int .i64), (.int .i64), (.int .i64), .bool, (.int .i64), (.int .i64), (.int .i64), (.int .i64), (.int .i64), (.list 37)] (.both tr_rcard_5 tr_rcard_5))) (.share 39 (.push .emp (.econs (.var 2) (.econs (.var 3) (.econs (.var 4) (.econs (.var 5) (.econs (.var 6) (.econs (.var 7) (.econs (.var 8) (.econs (.var 9) (.econs (.var 10) (.econs (.var 11) (.econs (.var 12) (.econs (.var 13) (.econs (.var 14) (.econs (.var 15) .enil))))))))))))))) (.ret [(.elem (.elem (.var 1) (.ar .sub .i64 (.var 0) (.int .i64 100)) 0 (.list 3)) (.int .i64 0) 0 (.int .i64)), (.int .i64 5), (.cmp .eq (.elem (.elem (.var 1) (.ar .sub .i64 (.var 0) (.int .i64 100)) 0 (.list 3)) (.int .i64 2) 0 (.int .i64)) (.int .i64 1)), (.int .i64 0), (.int .i64 0), (.int .i64 0), (.int .i64 0), (.int .i64 0), (.elem (.elem (.var 1) (.ar .sub .i64 (.var 0) (.int .i64 100)) 0 (.list 3)) (.int .i64 1) 0 (.int .i64)), (.elem (.elem (.var 1) (.ar .sub .i64 (.var 0) (.int .i64 100)) 0 (.list 3)) (.int .i64 3) 0 (.int .i64)), (.elem (.elem (.var 1) (.ar .sub .i64 (.var 0) (.int .i64 100)) 0 (.list 3)) (.int .i64 4) 0 (.int .i64)), (.elem (.elem (.var 1) (.ar .sub .i64 (.var 0) (.int .i64 100)) 0 (.list 3)) (.int .i64 5) 0 (.int .i64)), (.var 16), (.bool true)])))))))))))))) (.ob (.cmp .ge (.ar .sub .i64 (.var 0) (.int .i64 112)) (.int .i64 0)) (.ob (.cmp .lt (.ar .sub .i64 (.var 0) (.int .i64 112)) (.int .i64 8)) (.ret [(.int .i64 1), (.int .i64 5), (.bool false), (.int .i64 0), (.int .i64 0), (.int .i64 0), (.int .i64 0), (.int .i64 0), (.int .i64 0), (.elem (.push (.push (.push (.push (.push (.push (.push (.push .emp (.econs (.int .i64 1) .enil)) (.econs (.int .i64 1) .enil)) (.econs (.int .i64 2) .enil)) (.econs (.int .i64 2) .enil)) (.econs (.int .i64 3) .enil)) (.econs (.int .i64 3) .enil)) (.econs (.int .i64 4) .enil)) (.econs (.int .i64 4) .enil)) (.ar .sub .i64 (.var 0) (.int .i64 112)) 0 (.int .i64)), (.elem (.push (.push (.push (.push (.push (.push (.push (.push .emp (.econs (.int .i64 1) .enil)) (.econs (.int .i64 1) .enil)) (.econs (.int .i64 2) .enil)) (.econs (.int .i64 2) .enil)) (.econs (.int .i64 3) .enil)) (.econs (.int .i64 3) .enil)) (.econs (.int .i64 4) .enil)) (.econs (.int .i64 4) .enil)) (.ar .sub .i64 (.var 0) (.int .i64 112)) 0 (.int .i64)), (.ar .rem .i64 (.var 0) (.int .i64 2)), (.nil 39), (.bool true)]))))))))))
theorem wk_rcard : walk E0.cx (sgsN [(12, sg_rmagic), (15, sg_rrelic), (16, sg_rspecial), (13, sg_reffect), (14, sg_rability), (11, sg_rgive)]) 0 6 sg_rcard = tr_rcard := by kernel_rfl
theorem bo_rcard : ∃ x, bodyOf E0.P 6 = some x := bo_of (by kernel_rfl)
theorem sp_rcard_rmagic : specC [con_rmagic, con_rrelic, con_rspecial, con_reffect, con_rability, con_rgive] k_rmagic = rmagic_s := rfl
theorem sp_rcard_rrelic : specC [con_rmagic, con_rrelic, con_rspecial, con_reffect, con_rability, con_rgive] k_rrelic = rrelic_s := rfl
theorem sp_rcard_rspecial : specC [con_rmagic, con_rrelic, con_rspecial, con_reffect, con_rability, con_rgive] k_rspecial = rspecial_s := rfl
theorem sp_rcard_reffect : specC [con_rmagic, con_rrelic, con_rspecial, con_reffect, con_rability, con_rgive] k_reffect = reffect_s := rfl
theorem sp_rcard_rability : specC [con_rmagic, con_rrelic, con_rspecial, con_reffect, con_rability, con_rgive] k_rability = rability_s := rfl
theorem sp_rcard_rgive : specC [con_rmagic, con_rrelic, con_rspecial, con_reffect, con_rability, con_rgive] k_rgive = rgive_s := rfl
noncomputable def rcard_g : List PD → Option (List PD) := fun ps => evL E0.Δ (pfun [(k_rmagic, rmagic_g), (k_rrelic, rrelic_g), (k_rspecial, rspecial_g), (k_reffect, reffect_g), (k_rability, rability_g), (k_rgive, rgive_g)]) 0 [] tr_rcard ps
def rcard_s : Spec := psp rcard_g
theorem rcard_h : Holds E0 k_rcard sg_rcard rcard_s := con_ev wf0 mix0 g0 [con_rmagic, con_rrelic, con_rspecial, con_reffect, con_rability, con_rgive] rfl wk_rcard rfl (fits_cons (k := k_rmagic) (g := rmagic_g) sp_rcard_rmagic (fits_cons (k := k_rrelic) (g := rrelic_g) sp_rcard_rrelic (fits_cons (k := k_rspecial) (g := rspecial_g) sp_rcard_rspecial (fits_cons (k := k_reffect) (g := reffect_g) sp_rcard_reffect (fits_cons (k := k_rability) (g := rability_g) sp_rcard_rability (fits_cons (k := k_rgive) (g := rgive_g) sp_rcard_rgive (fits_nil))))))) 0
noncomputable def con_rcard : Con E0 := ⟨k_rcard, sg_rcard, rcard_s, rfl, bo_rcard, rcard_h⟩
noncomputable def rchk (n : Nat) : Bool := match rcard_g [.int n] with
  | some l => sameR l (cardP n ++ [.bool true])
  | none => false
theorem rchk_all : (List.range 120).all rchk = true := by kernel_rfl
theorem rcard_in {n : Int} (h0 : 0 ≤ n) (h1 : n < 120) : rcard_g [.int n] = some (cardP n ++ [.bool true]) := by
  obtain ⟨k, rfl⟩ := Int.eq_ofNat_of_zero_le h0
  have h := List.all_eq_true.1 rchk_all k (List.mem_range.2 (by omega))
  unfold rchk at h
  split at h
  · rename_i l hl
    rw [hl, sameR_ok h]
  · cases h
end Go.Proofs.YtcigbgpdikadpaaDoor
end

section
namespace Go.Proofs.YtcigbgpdikadpaaDoor
open Go.RowKit
set_option linter.unusedVariables false
set_option linter.unusedSimpArgs false

noncomputable def con_sItoa : Con E0 := ⟨k_sItoa, sg_sItoa, sItoa_s, rfl, bo_sItoa, sItoa_h⟩
def k_tName : Nat := 9
def sg_tName : Sig := ⟨[(false, [.int .i64])], [(false, [.str])], false, false, true, false, false, [], [], none⟩
def tr_tName : Tree := (.call k_tcard [(.var 0)] [(.int .i64), (.int .i64), .bool, (.int .i64), (.int .i64), (.int .i64), (.int .i64), (.int .i64), (.int .i64), (.int .i64), (.int .i64), (.int .i64), (.list 39), .err]
(.ite (.not (.isnil (.var 14)))
 (.ret [(.str [])])
 (.ob (.cmp .ge (.var 1) (.int .i64 0))
 (.ob (.cmp .lt (.var 1) (.int .i64 4))
 (.ob (.cmp .le (.slen (.sapp (.ite (.cmp .ge (.var 0) (.int .i64 112)) (.str [116, 111, 107, 101, 110]) (.sel (.econs (.str [115, 111, 117, 114, 99, 101]) (.econs (.str [98, 101, 97, 115, 116]) (.econs (.str [109, 97, 103, 105, 99]) (.econs (.str [114, 101, 108, 105, 99]) .enil)))) (.var 1) .str)) (.str [45]))) (.int .i64 9223372036854775807))
 (.call k_sItoa [(.var 0)] [.str]
 (.ob (.cmp .le (.slen (.sapp (.sapp (.ite (.cmp .ge (.var 0) (.int .i64 112)) (.str [116, 111, 107, 101, 110]) (.sel (.econs (.str [115, 111, 117, 114, 99, 101]) (.econs (.str [98, 101, 97, 115, 116]) (.econs (.str [109, 97, 103, 105, 99]) (.econs (.str [114, 101, 108, 105, 99]) .enil)))) (.var 1) .str)) (.str [45])) (.var 15))) (.int .i64 9223372036854775807))
 (.ret [(.sapp (.sapp (.ite (.cmp .ge (.var 0) (.int .i64 112)) (.str [116, 111, 107, 101, 110]) (.sel (.econs (.str [115, 111, 117, 114, 99, 101]) (.econs (.str [98, 101, 97, 115, 116]) (.econs (.str [109, 97, 103, 105, 99]) (.econs (.str [114, 101, 108, 105, 99]) .enil)))) (.var 1) .str)) (.str [45])) (.var 15))]))))))))
theorem wk_tName : walk E0.cx (sgsN [(8, sg_tcard), (24, sg_sItoa)]) 0 9 sg_tName = tr_tName := by kernel_rfl
theorem bo_tName : ∃ x, bodyOf E0.P 9 = some x := bo_of (by kernel_rfl)
theorem sp_tName_tcard : specC [con_tcard, con_sItoa] k_tcard = tcard_s := rfl
theorem sp_tName_sItoa : specC [con_tcard, con_sItoa] k_sItoa = sItoa_s := rfl
noncomputable def tName_g : List PD → Option (List PD) := fun ps => evL E0.Δ (pfun [(k_tcard, tcard_g), (k_sItoa, sItoa_g)]) 0 [] tr_tName ps
def tName_s : Spec := psp tName_g
theorem tName_h : Holds E0 k_tName sg_tName tName_s := con_ev wf0 mix0 g0 [con_tcard, con_sItoa] rfl wk_tName rfl (fits_cons (k := k_tcard) (g := tcard_g) sp_tName_tcard (fits_cons (k := k_sItoa) (g := sItoa_g) sp_tName_sItoa (fits_nil))) 0
noncomputable def con_tName : Con E0 := ⟨k_tName, sg_tName, tName_s, rfl, bo_tName, tName_h⟩
def k_numEffects : Nat := 17
def sg_numEffects : Sig := ⟨[(true, List.replicate 4 (.int .i64) ++ [.list 37]), (true, List.replicate 4 (.int .i64) ++ [.list 37])], [(false, [.bool])], false, false, true, false, false, [], [], none⟩
def tr_numEffects : Tree := (.ite (.or (.cmp .ne (.var 0) (.var 5)) (.or (.cmp .ne (.var 1) (.var 6)) (.or (.cmp .ne (.var 2) (.var 7)) (.or (.cmp .ne (.var 3) (.var 8)) (.cmp .ne (.len (.var 4)) (.len (.var 9)))))))
 (.ret [(.bool false)])
 (.loop [(.bool false), (.int .i64 0)] [.bool, (.int .i64)]
  (.ite (.cmp .lt (.var 11) (.len (.var 4)))
   (.ob (.cmp .ge (.var 11) (.int .i64 0))
   (.ob (.cmp .ge (.var 11) (.int .i64 0))
   (.ob (.cmp .lt (.var 11) (.len (.var 9)))
   (.call k_numEffects [(.elem (.var 4) (.var 11) 0 (.int .i64)), (.elem (.var 4) (.var 11) 1 (.int .i64)), (.elem (.var 4) (.var 11) 2 (.int .i64)), (.elem (.var 4) (.var 11) 3 (.int .i64)), (.elem (.var 4) (.var 11) 4 (.list 37)), (.elem (.var 9) (.var 11) 0 (.int .i64)), (.elem (.var 9) (.var 11) 1 (.int .i64)), (.elem (.var 9) (.var 11) 2 (.int .i64)), (.elem (.var 9) (.var 11) 3 (.int .i64)), (.elem (.var 9) (.var 11) 4 (.list 37))] [.bool]
   (.ite (.not (.var 12))
    (.ret [(.bool false)])
    (.again 0 [(.var 10), (.ar .add .i64 (.var 11) (.int .i64 1))]))))))
   (.ret [(.bool true)]))))
theorem wk_numEffects : walk E0.cx (sgsN [(17, sg_numEffects)]) 0 17 sg_numEffects = tr_numEffects := by kernel_rfl
theorem bo_numEffects : ∃ x, bodyOf E0.P 17 = some x := bo_of (by kernel_rfl)
noncomputable def numEffects_f : Nat → List PD → Option (List PD)
  | 0 => fun _ => none
  | n + 1 => fun ps => evL E0.Δ (pfun [(k_numEffects, numEffects_f n)]) 60 [] tr_numEffects ps
theorem numEffects_z : ∀ n, Holds E0 k_numEffects sg_numEffects (psp (numEffects_f n))
  | 0 => fun _ _ _ _ _ _ _ h => by obtain ⟨_, h, _⟩ := h; cases h
  | n + 1 => con_ev wf0 mix0 g0 [⟨k_numEffects, sg_numEffects, psp (numEffects_f n), rfl, bo_numEffects, numEffects_z n⟩] rfl wk_numEffects rfl (fits_cons (k := k_numEffects) (g := numEffects_f n) rfl (fits_nil)) 60
noncomputable def numEffects_g : List PD → Option (List PD) := numEffects_f 9
def numEffects_s : Spec := psp numEffects_g
theorem numEffects_h : Holds E0 k_numEffects sg_numEffects numEffects_s := numEffects_z 9
noncomputable def con_numEffects : Con E0 := ⟨k_numEffects, sg_numEffects, numEffects_s, rfl, bo_numEffects, numEffects_h⟩
def k_nCards : Nat := 7
def sg_nCards : Sig := ⟨[(true, [.int .i64, .int .i64] ++ [.bool] ++ List.replicate 9 (.int .i64) ++ [.list 39]), (true, [.int .i64, .int .i64] ++ [.bool] ++ List.replicate 9 (.int .i64) ++ [.list 39])], [(false, [.bool])], false, false, true, false, false, [], [], none⟩
def tr_nCards : Tree := (.ite (.or (.cmp .ne (.var 0) (.var 13)) (.or (.cmp .ne (.var 1) (.var 14)) (.or (.not (.beq (.var 2) (.var 15))) (.or (.not (.and (.cmp .eq (.var 3) (.var 16)) (.and (.cmp .eq (.var 4) (.var 17)) (.and (.cmp .eq (.var 5) (.var 18)) (.and (.cmp .eq (.var 6) (.var 19)) (.and (.cmp .eq (.var 7) (.var 20)) (.cmp .eq (.var 8) (.var 21)))))))) (.or (.cmp .ne (.var 9) (.var 22)) (.or (.cmp .ne (.var 10) (.var 23)) (.or (.cmp .ne (.var 11) (.var 24)) (.cmp .ne (.len (.var 12)) (.len (.var 25))))))))))
 (.ret [(.bool false)])
 (.loop [(.bool false), (.int .i64 0)] [.bool, (.int .i64)]
  (.ite (.cmp .lt (.var 27) (.len (.var 12)))
   (.ob (.cmp .ge (.var 27) (.int .i64 0))
   (.ob (.cmp .ge (.var 27) (.int .i64 0))
   (.ob (.cmp .lt (.var 27) (.len (.var 25)))
   (.ite (.cmp .ne (.elem (.var 12) (.var 27) 0 (.int .i64)) (.elem (.var 25) (.var 27) 0 (.int .i64)))
    (.ret [(.bool false)])
    (.ite (.not (.and (.cmp .eq (.elem (.var 12) (.var 27) 1 (.int .i64)) (.elem (.var 25) (.var 27) 1 (.int .i64))) (.and (.cmp .eq (.elem (.var 12) (.var 27) 2 (.int .i64)) (.elem (.var 25) (.var 27) 2 (.int .i64))) (.and (.cmp .eq (.elem (.var 12) (.var 27) 3 (.int .i64)) (.elem (.var 25) (.var 27) 3 (.int .i64))) (.and (.cmp .eq (.elem (.var 12) (.var 27) 4 (.int .i64)) (.elem (.var 25) (.var 27) 4 (.int .i64))) (.and (.cmp .eq (.elem (.var 12) (.var 27) 5 (.int .i64)) (.elem (.var 25) (.var 27) 5 (.int .i64))) (.cmp .eq (.elem (.var 12) (.var 27) 6 (.int .i64)) (.elem (.var 25) (.var 27) 6 (.int .i64)))))))))
     (.ret [(.bool false)])
     (.ite (.not (.beq (.elem (.var 12) (.var 27) 7 .bool) (.elem (.var 25) (.var 27) 7 .bool)))
      (.ret [(.bool false)])
      (.ite (.cmp .ne (.elem (.var 12) (.var 27) 8 (.int .i64)) (.elem (.var 25) (.var 27) 8 (.int .i64)))
       (.ret [(.bool false)])
       (.call k_numEffects [(.elem (.var 12) (.var 27) 9 (.int .i64)), (.elem (.var 12) (.var 27) 10 (.int .i64)), (.elem (.var 12) (.var 27) 11 (.int .i64)), (.elem (.var 12) (.var 27) 12 (.int .i64)), (.elem (.var 12) (.var 27) 13 (.list 37)), (.elem (.var 25) (.var 27) 9 (.int .i64)), (.elem (.var 25) (.var 27) 10 (.int .i64)), (.elem (.var 25) (.var 27) 11 (.int .i64)), (.elem (.var 25) (.var 27) 12 (.int .i64)), (.elem (.var 25) (.var 27) 13 (.list 37))] [.bool]
       (.ite (.not (.var 28))
        (.ret [(.bool false)])
        (.again 0 [(.var 26), (.ar .add .i64 (.var 27) (.int .i64 1))]))))))))))
   (.ret [(.bool true)]))))
theorem wk_nCards : walk E0.cx (sgsN [(17, sg_numEffects)]) 0 7 sg_nCards = tr_nCards := by kernel_rfl
theorem bo_nCards : ∃ x, bodyOf E0.P 7 = some x := bo_of (by kernel_rfl)
theorem sp_nCards_numEffects : specC [con_numEffects] k_numEffects = numEffects_s := rfl
noncomputable def nCards_g : List PD → Option (List PD) := fun ps => evL E0.Δ (pfun [(k_numEffects, numEffects_g)]) 60 [] tr_nCards ps
def nCards_s : Spec := psp nCards_g
theorem nCards_h : Holds E0 k_nCards sg_nCards nCards_s := con_ev wf0 mix0 g0 [con_numEffects] rfl wk_nCards rfl (fits_cons (k := k_numEffects) (g := numEffects_g) sp_nCards_numEffects (fits_nil)) 60
noncomputable def con_nCards : Con E0 := ⟨k_nCards, sg_nCards, nCards_s, rfl, bo_nCards, nCards_h⟩
def k_alive08 : Nat := 4
def sg_alive08 : Sig := ⟨[], [(false, [.bool])], false, false, true, false, false, [], [], none⟩
def tr_alive08 : Tree := (.call k_tcard [(.int .i64 65)] [(.int .i64), (.int .i64), .bool, (.int .i64), (.int .i64), (.int .i64), (.int .i64), (.int .i64), (.int .i64), (.int .i64), (.int .i64), (.int .i64), (.list 39), .err]
(.ite (.isnil (.var 13))
 (.ite (.cmp .eq (.var 0) (.int .i64 2))
  (.ite (.and (.cmp .eq (.var 3) (.int .i64 1)) (.and (.cmp .eq (.var 4) (.int .i64 0)) (.and (.cmp .eq (.var 5) (.int .i64 0)) (.and (.cmp .eq (.var 6) (.int .i64 0)) (.and (.cmp .eq (.var 7) (.int .i64 0)) (.cmp .eq (.var 8) (.int .i64 3)))))))
   (.ite (.cmp .eq (.len (.var 12)) (.int .i64 1))
    (.ob (.cmp .lt (.int .i64 0) (.len (.var 12)))
    (.ite (.cmp .eq (.elem (.var 12) (.int .i64 0) 8 (.int .i64)) (.int .i64 5))
     (.ob (.cmp .lt (.int .i64 0) (.len (.var 12)))
     (.ite (.cmp .eq (.elem (.var 12) (.int .i64 0) 9 (.int .i64)) (.int .i64 8))
      (.call k_tName [(.int .i64 65)] [.str]
      (.ret [(.seq (.var 14) (.str [109, 97, 103, 105, 99, 45, 54, 53]))]))
      (.ret [(.bool false)])))
     (.ret [(.bool false)])))
    (.ret [(.bool false)]))
   (.ret [(.bool false)]))
  (.ret [(.bool false)]))
 (.ret [(.bool false)])))
theorem wk_alive08 : walk E0.cx (sgsN [(8, sg_tcard), (9, sg_tName)]) 0 4 sg_alive08 = tr_alive08 := by kernel_rfl
theorem bo_alive08 : ∃ x, bodyOf E0.P 4 = some x := bo_of (by kernel_rfl)
theorem sp_alive08_tcard : specC [con_tcard, con_tName] k_tcard = tcard_s := rfl
theorem sp_alive08_tName : specC [con_tcard, con_tName] k_tName = tName_s := rfl
noncomputable def alive08_g : List PD → Option (List PD) := fun ps => evL E0.Δ (pfun [(k_tcard, tcard_g), (k_tName, tName_g)]) 0 [] tr_alive08 ps
def alive08_s : Spec := psp alive08_g
theorem alive08_h : Holds E0 k_alive08 sg_alive08 alive08_s := con_ev wf0 mix0 g0 [con_tcard, con_tName] rfl wk_alive08 rfl (fits_cons (k := k_tcard) (g := tcard_g) sp_alive08_tcard (fits_cons (k := k_tName) (g := tName_g) sp_alive08_tName (fits_nil))) 0
noncomputable def con_alive08 : Con E0 := ⟨k_alive08, sg_alive08, alive08_s, rfl, bo_alive08, alive08_h⟩
theorem alive08_ok : alive08_g [] = some [.bool true] := by kernel_rfl
end Go.Proofs.YtcigbgpdikadpaaDoor
end

section
namespace Go.Proofs.YtcigbgpdikadpaaDoor
open Go.RowKit
set_option linter.unusedVariables false

/-- a fence that lets everything in -/
def WideF (F : Fence) : Prop := F = Fence.wide ∨ ∃ l, F = Fence.wide.inRound l
theorem wide_wide : WideF Fence.wide := .inl rfl
theorem wide_round (l : Nat) : WideF (Fence.wide.inRound l) := .inr ⟨l, rfl⟩
section
variable {F : Fence} {n : Nat} {P : Program}
theorem WideF.fn (h : WideF F) (f : FuncId) : F.fn f := by
  rcases h with rfl | ⟨l, rfl⟩ <;> trivial
theorem WideF.depth (h : WideF F) : F.depth = none := by
  rcases h with rfl | ⟨l, rfl⟩ <;> rfl
theorem WideF.calls (h : WideF F) {f : FuncId} {args : Array Value} {w : World} {R : Ending → World → Prop} (hc : Calls P f args w R) : CallsIn F n P f args w R := by
  rcases h with rfl | ⟨l, rfl⟩
  · exact callsIn_wide.2 hc
  · exact CallsIn.inRound l (callsIn_wide.2 hc)
theorem WideF.rows (h : WideF F) {row : String} {args : Array Value} {w : World} {R : Value → World → Prop} (hc : Rows P row args w R) : RowsIn F n P row args w R := by
  rcases h with rfl | ⟨l, rfl⟩
  · exact fun c cs _ => let ⟨v, w', r, s⟩ := hc c cs; ⟨v, w', r, stepsIn_wide.2 s⟩
  · exact fun c cs _ => let ⟨v, w', r, s⟩ := hc c cs; ⟨v, w', r, (stepsIn_wide (P := P)).2 s⟩
theorem WideF.sem (h : WideF F) {o : Oper} (hd : ∀ c, o.op ≠ .defer c) (ρ : Operand → Value) : o.semAt F.round ρ = execOp ρ o := by
  rcases h with rfl | ⟨l, rfl⟩
  · exact Oper.semAt_none ρ o
  · exact Oper.semAt_some l ρ o hd
theorem upon_in (hF : WideF F) {o : Oper} {a : Act} {next next' : Act → World → Prop} {Q Q' : Exit → Act → World → Prop}
    (hn : ∀ a w, next a w → next' a w) (hQ : ∀ e a w, Q e a w → Q' e a w) {r : Result Next} (h : o.upon P a next Q r) : o.uponIn F n P a next' Q' r := by
  unfold Oper.upon at h
  unfold Oper.uponIn
  split at h
  · exact hn _ _ h
  · exact hn _ _ h
  · exact hn _ _ h
  · refine ⟨(fun hx => by rw [hF.depth] at hx; cases hx), hF.calls (h.mono ?_)⟩
    rintro e w' he
    cases e with
    | returned v => exact hn _ _ he
    | panicked c => exact hQ _ _ _ he
    | outgrown => obtain ⟨a', w'', he⟩ := he; exact ⟨a', w'', hQ _ _ _ he⟩
  · exact ⟨(fun hx => by rw [hF.depth] at hx; cases hx), hF.rows (h.mono fun v w' hv => hn _ _ hv)⟩
  · exact hQ _ _ _ h
  · exact h.elim
theorem op_in (hF : WideF F) {o : Oper} (hd : ∀ c, o.op ≠ .defer c) {a : Act} {w : World} {next next' : Act → World → Prop} {Q Q' : Exit → Act → World → Prop}
    (hn : ∀ a w, next a w → next' a w) (hQ : ∀ e a w, Q e a w → Q' e a w) (h : o.wp P a w next Q) : o.wpIn F n P a w next' Q' := by
  refine ⟨fun f _ => hF.fn f, ?_⟩
  rw [hF.sem hd]
  exact upon_in hF hn hQ h
theorem list_in (hF : WideF F) {ops : Array Oper} {Q Q' : Exit → Act → World → Prop} (hQ : ∀ e a w, Q e a w → Q' e a w) (ho : ∀ a w, ¬ Q .outgrown a w) :
    ∀ (L : List Oper), (∀ o ∈ L, ∀ c, o.op ≠ .defer c) → ∀ a w, wpList P ops Q L a w → wpListIn F n P ops Q' L a w
  | [], _, a, w, h => hQ _ _ _ h
  | o :: L, hd, a, w, h => by
    have ih := list_in (ops := ops) hF hQ ho L fun o ho => hd o (List.mem_cons_of_mem _ ho)
    unfold wpList at h
    unfold wpListIn
    by_cases hw : Region.wanted o (yielded ops a.tmps) = true
    · rw [if_pos hw] at h ⊢
      rcases h with h | ⟨_, a', w', h⟩
      · exact op_in hF (hd o List.mem_cons_self) ih hQ h
      · exact (ho _ _ h).elim
    · rw [if_neg hw] at h ⊢
      exact ⟨fun f _ => hF.fn f, ih _ _ h⟩
/-- a region in a round, walked as everywhere -/
theorem reg_in (hF : WideF F) {id : Nat} {L : List Oper} {K : Act → World → Prop} {Q : Exit → Act → World → Prop} {a : Act} {w : World} (hd : ∀ o ∈ L, ∀ c, o.op ≠ .defer c)
    (h : wpList P L.toArray (Exit.then K (fun _ _ _ => False)) L a w) : (Code.region id L.toArray false).wpIn F n P (Exit.then K Q) a w :=
  wpIn_region_lit (list_in hF (fun e a w h => by cases e <;> first | exact h | exact h.elim) (fun a w h => h) L hd a w h)
end
/-- cells, and what stands below B, lie as they lay -/
structure CK (B : Nat) (W W' : World) : Prop where
  os : W'.os = W.os
  tape : W'.tape = W.tape
  output : W'.output = W.output
  size : W.heap.size ≤ W'.heap.size
  cells : ∀ (j : Nat) (o : Obj), W.heap[j]? = some o → (o.isCells = true ∨ j < B) → W'.heap[j]? = some o
namespace CK
theorem refl (B : Nat) (W : World) : CK B W W := ⟨rfl, rfl, rfl, Nat.le_refl _, fun _ _ h _ => h⟩
theorem trans {B : Nat} {X Y Z : World} (h : CK B X Y) (k : CK B Y Z) : CK B X Z :=
  ⟨k.os.trans h.os, k.tape.trans h.tape, k.output.trans h.output, Nat.le_trans h.size k.size, fun j o hj hc => k.cells j o (h.cells j o hj hc) hc⟩
theorem below {B : Nat} {W W' : World} (h : Below W.heap.size W W') : CK B W W' :=
  ⟨h.os, h.tape, h.output, h.size, fun j o hj _ => (h.block j (Array.getElem?_eq_some_iff.1 hj).1).trans hj⟩
theorem putObj {B : Nat} {W : World} {l : Nat} {o : Obj} (o' : Obj) (hB : B ≤ l) (hl : W.heap[l]? = some o) (ho : o.isCells = false) : CK B W (W.putObj l o') :=
  ⟨rfl, rfl, rfl, by simp [World.putObj], fun j p hj hc => (World.putObj_heap_other (fun e => by
    subst e
    rw [hl] at hj
    cases hj
    rcases hc with hc | hc
    · rw [ho] at hc; cases hc
    · omega)).trans hj⟩
theorem alloc (B : Nat) (W : World) (o : Obj) : CK B W (W.alloc o) := below ((Below.refl _ _).alloc (Nat.le_refl _) _)
theorem bel {B n : Nat} {w0 W W' : World} (h : CK B W W') (hb : Below n w0 W) (hn : n ≤ B) (hw : n ≤ w0.heap.size) : Below n w0 W' :=
  ⟨h.os.trans hb.os, h.tape.trans hb.tape, h.output.trans hb.output, Nat.le_trans hb.size h.size, fun j hj => by
    have h1 := hb.block j hj
    have hlt : j < W.heap.size := Nat.lt_of_lt_of_le (Nat.lt_of_lt_of_le hj hw) hb.size
    rw [← h1]
    rw [Array.getElem?_eq_getElem hlt]
    exact h.cells j _ (Array.getElem?_eq_getElem hlt) (.inr (by omega))⟩
theorem row {B : Nat} {W W' : World} {b : Nat} {cs : Array Value} {T : TypeId} (h : CK B W W') (hr : Row W b cs T) : Row W' b cs T := h.cells b _ hr (.inl rfl)
end CK
/-- the iterator's contract: N rounds; of a round's values X tells; what goes on between two rounds tells G -/
def SeqX (n : Nat) (P : Program) (g : Nat) (X : Nat → Array Value → World → Prop) (G : World → Prop) (N : Nat) : Prop :=
  ∀ (l : Nat) (J Jx : Nat → World → Prop) (W : World), (∀ k A B, J k A → Below A.heap.size A B → J k B) → (∀ k A, J k A → G A) →
    (∀ k args W1, J k W1 → k < N → X k args W1 → YieldAt Fence.wide (n - 1) P l args W1 fun e W' => (e = .returned (.bool true) ∧ J (k + 1) W') ∨ (e = .returned (.bool false) ∧ Jx (k + 1) W')) →
    J 0 W → CallsIn Fence.wide n P g #[.func (.yield l) #[] #[]] W fun e W' => (∃ v, e = .returned v) ∧ (J N W' ∨ ∃ k, k ≤ N ∧ Jx k W')
/-- how a round's body may be left -/
def postX (I : Nat → World → Prop) (Ix : Code → Nat → World → Prop) (k : Nat) (W : World) : Exit → Act → World → Prop
  | .normal, _, W' => KeepsOthers W W' ∧ I k W'
  | .ret, _, W' => KeepsOthers W W' ∧ Ix .ret k W'
  | .exit id, _, W' => KeepsOthers W W' ∧ Ix (.exit id) k W'
  | _, _, _ => False
theorem KeepsOthers.ofBelow {W W' : World} (h : Below W.heap.size W W') : KeepsOthers W W' :=
  ⟨h.size, fun k o hk _ => (h.block k (Array.getElem?_eq_some_iff.1 hk).1).trans hk⟩
/-- the statement, where the iterator tells of memory -/
theorem rangeX {n : Nat} {P : Program} {g : Operand} {ps : Array Tmp} {assign body : Code} {Q : Exit → Act → World → Prop} {a : Act} {w : World} {gf N : Nat} {X : Nat → Array Value → World → Prop} {G : World → Prop}
    (hg : a.eval g = .func (.func gf) #[] #[]) (eg : ∀ args w, (callFunc gf args).run P w = .ok (.enter gf args) w) (hseq : SeqX (n - 1) P gf X G N) (hps : ∀ k args W, X k args W → args.size = ps.size)
    (I : Nat → World → Prop) (Ix : Code → Nat → World → Prop)
    (hI : ∀ k A B, CK w.heap.size A B → I k A → I k B) (hIx : ∀ c k A B, CK w.heap.size A B → Ix c k A → Ix c k B) (hG : ∀ k A, I k A → w.heap.size + 2 ≤ A.heap.size → G A) (h0 : I 0 w)
    (hround : ∀ (l k : Nat) (args : Array Value) (W : World) (K : Act → World → Prop), l = w.heap.size + 1 → I k W → X k args W → k < N →
      (∀ a' W', Below W.heap.size W W' → (∀ W2, CK w.heap.size W' W2 → W'.grownBy W2 (some l) → body.wpIn (Fence.wide.inRound l) (n - 1 - 1) P (postX I Ix (k + 1) W2) a' W2) → K a' W') →
      assign.wpIn (Fence.wide.inRound l) (n - 1 - 1) P (Exit.then K (fun _ _ _ => False)) { tmps := (ps.zip args).foldl (fun t (p, v) => t.setIfInBounds p v) a.tmps, defers := [] } W)
    (hdone : ∀ (D : Nat) (W : World), w.heap.size ≤ D → I N W → W.heap[D]? = some (.deferred (some [])) → Q .normal { a with defers := { target := .collected D, args := #[] } :: a.defers } W)
    (hstop : ∀ (D : Nat) (c : Code) (k : Nat) (W : World), w.heap.size ≤ D → k ≤ N → Ix c k W → W.heap[D]? = some (.deferred (some [])) → c.wpIn Fence.wide n P Q { a with defers := { target := .collected D, args := #[] } :: a.defers } W) :
    (Code.rangeFunc g ps assign body).wpIn Fence.wide n P Q a w := by
  refine wpIn_rangeFunc ?_
  intro fn _
  obtain ⟨D, hD⟩ : ∃ D, D = w.heap.size := ⟨_, rfl⟩
  obtain ⟨rec, hrec⟩ : ∃ rec : LoopState → Option Code → Loop, rec = fun st pe => { state := st, pending := pe, fn, tmps := a.tmps, params := ps, assign, body, defers := w.heap.size } := ⟨_, rfl⟩
  obtain ⟨W1, hW1⟩ : ∃ W1, (w.alloc (.deferred (some []))).alloc (.loop (rec .ready none)) = W1 := ⟨_, rfl⟩
  have hL1 : W1.heap[D + 1]? = some (.loop (rec .ready none)) := by
    rw [← hW1, hD]
    have := World.alloc_heap_new (w.alloc (.deferred (some []))) (.loop (rec .ready none))
    rwa [World.size_alloc] at this
  have hK1 : W1.heap[D]? = some (.deferred (some [])) := by
    rw [← hW1, hD]
    exact (Below.heap_alloc _ _ _ (by simp)).trans (World.alloc_heap_new w _)
  have hI1 : I 0 W1 := by
    rw [← hW1]
    exact hI _ _ _ ((CK.alloc _ _ _).trans (CK.alloc _ _ _)) h0
  refine ⟨D + 1, [{ target := .collected D, args := #[] }], W1, { target := .fn (.func gf) #[], args := #[.func (.yield (D + 1)) #[] #[]] }, W1, gf, #[.func (.yield (D + 1)) #[] #[]], W1, ?_, ?_, fun f' _ => trivial, ?_, fun hx => (by cases hx), ?_⟩
  · rw [← hW1, hrec, hD]; exact run_enterLoop_outer _ _ _ _ _
  · simp only [resolve, hg]
    simp [go_sem]
  · simp [invoke, go_sem, eg]
  refine (hseq (D + 1) (fun k W => I k W ∧ W.heap[D + 1]? = some (.loop (rec .ready none)) ∧ W.heap[D]? = some (.deferred (some [])))
    (fun k W => ∃ c, Ix c k W ∧ W.heap[D + 1]? = some (.loop (rec .done (some c))) ∧ W.heap[D]? = some (.deferred (some []))) W1
    (fun k A B h hb => ⟨hI _ _ _ (.below hb) h.1, (hb.block _ (Array.getElem?_eq_some_iff.1 h.2.1).1).trans h.2.1, (hb.block _ (Array.getElem?_eq_some_iff.1 h.2.2).1).trans h.2.2⟩) (fun k A h => hG k A h.1 (by have := (Array.getElem?_eq_some_iff.1 h.2.1).1; omega)) ?_ ⟨hI1, hL1, hK1⟩).mono ?_
  · rintro k args W ⟨hi, hl, hk⟩ hkN hX
    have hy := run_yield (P := P) (args := args) hl (by rw [hrec]; exact hps _ _ _ hX)
    rw [hrec] at hy
    refine ⟨fn, _, assign, body, hy, roundIn_of_wpIn trivial (hround _ k args W _ (by omega) hi hX hkN ?_)⟩
    clear hy
    intro a' Wa hb hbody
    replace hl := (hb.block _ (Array.getElem?_eq_some_iff.1 hl).1).trans hl
    replace hk := (hb.block _ (Array.getElem?_eq_some_iff.1 hk).1).trans hk
    refine ⟨_, run_beginRound hl (by rw [hrec]), ?_⟩
    have hlt : D + 1 < Wa.heap.size := (Array.getElem?_eq_some_iff.1 hl).1
    have hl2 : (Wa.putObj (D + 1) (.loop { rec .ready none with state := .busy })).heap[D + 1]? = some (.loop { rec .ready none with state := .busy }) := World.putObj_heap_same hlt
    have hk2 : (Wa.putObj (D + 1) (.loop { rec .ready none with state := .busy })).heap[D]? = some (.deferred (some [])) := (World.putObj_heap_other (by omega)).trans hk
    have hck := CK.putObj (B := w.heap.size) (.loop { rec .ready none with state := .busy }) (by omega) hl rfl
    refine wpIn_mono (hbody _ hck (grownBy_putObj' _ _ _)) ?_
    have fin : ∀ (jump : Option Code) (W3 : World), KeepsOthers (Wa.putObj (D + 1) (.loop { rec .ready none with state := .busy })) W3 →
        (Instr.endRound (D + 1) jump).run P W3 = .ok (.bool jump.isNone) (W3.putObj (D + 1) (.loop (rec (if jump.isNone then .ready else .done) jump))) ∧
        CK w.heap.size W3 (W3.putObj (D + 1) (.loop (rec (if jump.isNone then .ready else .done) jump))) ∧
        (W3.putObj (D + 1) (.loop (rec (if jump.isNone then .ready else .done) jump))).heap[D + 1]? = some (.loop (rec (if jump.isNone then .ready else .done) jump)) ∧
        (W3.putObj (D + 1) (.loop (rec (if jump.isNone then .ready else .done) jump))).heap[D]? = some (.deferred (some [])) := fun jump W3 hk3 => by
      have hl3 := hk3.same _ _ hl2 rfl
      have := run_endRound (P := P) jump hl3
      rw [hrec] at this ⊢
      exact ⟨this, CK.putObj _ (by omega) hl3 rfl, World.putObj_heap_same (Array.getElem?_eq_some_iff.1 hl3).1, (World.putObj_heap_other (by omega)).trans (hk3.same _ _ hk2 rfl)⟩
    rintro e a3 W3 hp
    cases e with
    | normal =>
      obtain ⟨hk3, hi3⟩ := hp
      obtain ⟨hr, hc, hl4, hk4⟩ := fin none W3 hk3
      exact ⟨_, _, hr, .inl ⟨rfl, hI _ _ _ hc hi3, hl4, hk4⟩⟩
    | ret =>
      obtain ⟨hk3, hi3⟩ := hp
      obtain ⟨hr, hc, hl4, hk4⟩ := fin (some .ret) W3 hk3
      exact ⟨_, _, hr, .inr ⟨rfl, .ret, hIx _ _ _ _ hc hi3, hl4, hk4⟩⟩
    | exit id =>
      obtain ⟨hk3, hi3⟩ := hp
      obtain ⟨hr, hc, hl4, hk4⟩ := fin (some (.exit id)) W3 hk3
      exact ⟨_, _, hr, .inr ⟨rfl, .exit id, hIx _ _ _ _ hc hi3, hl4, hk4⟩⟩
    | goto t => exact hp.elim
    | panic ch => exact hp.elim
    | outgrown => exact hp.elim
  · rintro e W2 ⟨⟨v, rfl⟩, (⟨hi, hl, hk⟩ | ⟨k, hkN, c, hi, hl, hk⟩)⟩
    · have hr := run_endLoop (P := P) hl (by rw [hrec]; simp)
      rw [hrec] at hr
      exact ⟨none, _, hr, hdone _ _ (by omega) (hI _ _ _ (CK.putObj _ (by omega) hl rfl) hi) ((World.putObj_heap_other (by omega)).trans hk)⟩
    · have hr := run_endLoop (P := P) hl (by rw [hrec]; simp)
      rw [hrec] at hr
      exact ⟨some c, _, hr, hstop _ c k _ (by omega) hkN (hIx _ _ _ _ (CK.putObj _ (by omega) hl rfl) hi) ((World.putObj_heap_other (by omega)).trans hk)⟩
end Go.Proofs.YtcigbgpdikadpaaDoor
end

section
namespace Go.Proofs.YtcigbgpdikadpaaDoor
open Go.RowKit
set_option linter.unusedVariables false

/-- the cards of a number, the program's and the chapter's, are the same, and lists are short -/
noncomputable def taChk (n : Nat) : Bool := match rcard_g [.int n] with
  | some r => r.length == 14 && (match nCards_g (cardP n ++ r.take 13) with
    | some [.bool true] => true
    | _ => false)
  | _ => false
theorem taChk_0 : (List.range' 0 40).all taChk = true := by kernel_rfl
theorem taChk_1 : (List.range' 40 40).all taChk = true := by kernel_rfl
theorem taChk_2 : (List.range' 80 40).all taChk = true := by kernel_rfl
theorem taChk_ok {k : Nat} (h : k < 120) : ∃ r b, r.length = 13 ∧ rcard_g [.int k] = some (r ++ [b]) ∧ nCards_g (cardP k ++ r) = some [.bool true] := by
  have h : taChk k = true := by
    by_cases h5 : k < 40
    · exact List.all_eq_true.1 taChk_0 k (by simp [List.mem_range']; omega)
    · by_cases h8 : k < 80
      · exact List.all_eq_true.1 taChk_1 k (by simp only [List.mem_range']; exact ⟨k - 40, by omega, by omega⟩)
      · exact List.all_eq_true.1 taChk_2 k (by simp only [List.mem_range']; exact ⟨k - 80, by omega, by omega⟩)
  unfold taChk at h
  split at h
  · rename_i r hr
    rw [Bool.and_eq_true, beq_iff_eq] at h
    obtain ⟨h1, h2⟩ := h
    refine ⟨r.take 13, r.getD 13 .nil, by rw [List.length_take]; omega, ?_, ?_⟩
    · rw [hr]
      congr 1
      match r, h1 with
      | [_, _, _, _, _, _, _, _, _, _, _, _, _, _], _ => rfl
    · split at h2
      · assumption
      · cases h2
  · cases h
end Go.Proofs.YtcigbgpdikadpaaDoor
end

section
namespace Go.Proofs.YtcigbgpdikadpaaDoor
open Go.RowKit
set_option linter.unusedVariables false

def cardS : List Srt := [.int .i64, .int .i64] ++ [.bool] ++ List.replicate 9 (.int .i64) ++ [.list 39]
/-- a card's cells, in memory from block B on -/
structure CardD (k : Nat) (w : World) (B : Nat) (ds : List Dat) : Prop where
  has : All2 (Has E0.Δ) cardS ds
  ok : OkL w ds
  here : ∀ j, AtL ds j → B ≤ j
  data : ds.map strip = cardP k
def cV (ds : List Dat) : Value := .agg (ds.map Dat.toV).toArray
theorem split13 {α : Type} {l : List α} (h : l.length = 14) : ∃ a d, l = a ++ [d] ∧ a.length = 13 :=
  match l, h with
  | [a, b, c, d, e, f, g, h, i, j, k, m, n, o], _ => ⟨[a, b, c, d, e, f, g, h, i, j, k, m, n], o, rfl, rfl⟩
theorem card_len (k : Nat) (hk : k < 120) : (cardP k).length = 13 := by
  have : (List.range' 0 120).all (fun k => (cardP k).length == 13) = true := by kernel_rfl
  have := List.all_eq_true.1 this k (by simp [List.mem_range']; omega)
  simpa using this
theorem all2_snoc {α β : Type} {R : α → β → Prop} {l : List α} {x : α} {m : List β} {y : β} (h : All2 R (l ++ [x]) (m ++ [y])) (hl : l.length = m.length) : All2 R l m ∧ R x y := by
  induction l generalizing m with
  | nil =>
    match m, hl with
    | [], _ => cases h with
      | cons h1 _ => exact ⟨.nil, h1⟩
  | cons a l ih =>
    match m, hl with
    | b :: m, hl =>
      cases h with
      | cons h1 h2 =>
        obtain ⟨i1, i2⟩ := ih h2 (Nat.succ.inj hl)
        exact ⟨.cons h1 i1, i2⟩
theorem groupV_card (ds : List Dat) (d : Dat) (s : Srt) (hl : ds.length = 13) : retV (groupV [(true, cardS), (false, [s])] (ds ++ [d])) = .tuple #[cV ds, d.toV] := by
  match ds, hl with
  | [a, b, c, d, e, f, g, h, i, j, k, m, n], _ => rfl
theorem card_w {k : Nat} (hk : k < 120) {w : World} (hG : E0.globs w) :
    Calls Tryd.prog 8 #[.int .i64 k] w fun e w' => ∃ ds, e = .returned (.tuple #[cV ds, .nilIface]) ∧ CardD k w' w.heap.size ds ∧ Below w.heap.size w w' := by
  refine (tcard_h w [.int .i64 k] (fun rs => rs.map strip = cardP k ++ [.nil]) (.cons (.int _ _) .nil) (fun d hd => by rw [List.mem_singleton.1 hd]; exact .int _ _) (fun d hd => absurd hd (by simp [E0])) hG
    ⟨_, by rw [List.map_cons, strip_int]; exact tcard_in (by omega) (by omega), fun rs h => h⟩).mono ?_
  rintro e w' ⟨rs, hrs, hH, hb, hok, hat, he⟩
  have hl : rs.length = 14 := by
    have := congrArg List.length hrs
    rw [List.length_map, List.length_append, card_len k hk] at this
    exact this
  obtain ⟨ds, d, rfl, hds⟩ := split13 hl
  obtain ⟨h1, h2⟩ := all2_snoc (l := cardS) (x := .err) hH hds.symm
  rw [List.map_append] at hrs
  obtain ⟨e1, e2⟩ := List.append_inj hrs (by rw [List.length_map, hds, card_len k hk])
  have he : e = .returned (retV (groupV [(true, cardS), (false, [.err])] (ds ++ [d]))) := he
  rw [groupV_card _ _ _ hds] at he
  have hd : d.toV = .nilIface := by
    have e2 : strip d = .nil := by injection e2
    cases h2 with
    | nili => rfl
    | ifc n => rw [strip_val] at e2; simp [stripV] at e2
  rw [hd] at he
  refine ⟨ds, he, ⟨h1, fun d' hd' => hok d' (List.mem_append_left _ hd'), fun j hj => ?_, e1⟩, hb⟩
  obtain ⟨d', hd', hj⟩ := hj
  rcases hat j ⟨d', List.mem_append_left _ hd', hj⟩ with h | h | h
  · exact h
  · obtain ⟨x, hx, hxj⟩ := h
    rw [List.mem_singleton.1 hx] at hxj; cases hxj
  · obtain ⟨x, hx, _⟩ := h
    exact absurd hx (by simp [E0])
theorem rcard_w {k : Nat} (hk : k < 120) {w : World} (hG : E0.globs w) :
    Calls Tryd.prog 6 #[.int .i64 k] w fun e w' => ∃ ds b, e = .returned (.tuple #[cV ds, .bool b]) ∧ CardD k w' w.heap.size ds ∧ Below w.heap.size w w' := by
  refine (rcard_h w [.int .i64 k] (fun rs => rs.map strip = cardP k ++ [.bool true]) (.cons (.int _ _) .nil) (fun d hd => by rw [List.mem_singleton.1 hd]; exact .int _ _) (fun d hd => absurd hd (by simp [E0])) hG
    ⟨_, by rw [List.map_cons, strip_int]; exact rcard_in (by omega) (by omega), fun rs h => h⟩).mono ?_
  rintro e w' ⟨rs, hrs, hH, hb, hok, hat, he⟩
  have hl : rs.length = 14 := by
    have := congrArg List.length hrs
    rw [List.length_map, List.length_append, card_len k hk] at this
    exact this
  obtain ⟨ds, d, rfl, hds⟩ := split13 hl
  obtain ⟨h1, h2⟩ := all2_snoc (l := cardS) (x := .bool) hH hds.symm
  rw [List.map_append] at hrs
  obtain ⟨e1, e2⟩ := List.append_inj hrs (by rw [List.length_map, hds, card_len k hk])
  have he : e = .returned (retV (groupV [(true, cardS), (false, [.bool])] (ds ++ [d]))) := he
  rw [groupV_card _ _ _ hds] at he
  obtain ⟨b, hd⟩ : ∃ b, d.toV = .bool b := by
    cases h2 with
    | bool b => exact ⟨b, rfl⟩
  rw [hd] at he
  refine ⟨ds, b, he, ⟨h1, fun d' hd' => hok d' (List.mem_append_left _ hd'), fun j hj => ?_, e1⟩, hb⟩
  obtain ⟨d', hd', hj⟩ := hj
  rcases hat j ⟨d', List.mem_append_left _ hd', hj⟩ with h | h | h
  · exact h
  · obtain ⟨x, hx, hxj⟩ := h
    rw [List.mem_singleton.1 hx] at hxj; cases hxj
  · obtain ⟨x, hx, _⟩ := h
    exact absurd hx (by simp [E0])
theorem cards_w {k B B' : Nat} (hk : k < 120) {w : World} {ds ds' : List Dat} (h : CardD k w B ds) (h' : CardD k w B' ds') (hG : E0.globs w) :
    Calls Tryd.prog 7 #[cV ds, cV ds'] w fun e w' => e = .returned (.bool true) ∧ Below w.heap.size w w' := by
  obtain ⟨r, b, r1, r2, r3⟩ := taChk_ok hk
  rw [rcard_in (by omega) (by omega), Option.some.injEq] at r2
  obtain ⟨e1, _⟩ := List.append_inj r2 (by rw [card_len k hk, r1])
  rw [← e1] at r3
  have hl : ds.length = 13 := by
    have := congrArg List.length h.data
    rwa [List.length_map, card_len k hk] at this
  have hl' : ds'.length = 13 := by
    have := congrArg List.length h'.data
    rwa [List.length_map, card_len k hk] at this
  have hgr : (groupV sg_nCards.params (ds ++ ds')).toArray = #[cV ds, cV ds'] := by
    match ds, hl, ds', hl' with
    | [a, b, c, d, e, f, g, h, i, j, k, m, n], _, [a', b', c', d', e', f', g', h', i', j', k', m', n'], _ => rfl
  have := nCards_h w (ds ++ ds') (fun rs => rs.map strip = [.bool true]) (h.has.append h'.has) (fun d hd => (List.mem_append.1 hd).elim (h.ok d) (h'.ok d)) (fun d hd => absurd hd (by simp [E0])) hG
    ⟨_, by rw [List.map_append, h.data, h'.data]; exact r3, fun rs h => h⟩
  rw [hgr] at this
  refine this.mono ?_
  rintro e w' ⟨rs, hrs, hH, hb, hok, hat, he⟩
  refine ⟨?_, hb⟩
  have he : e = .returned (retV (groupV [(false, [.bool])] rs)) := he
  match rs, hrs with
  | [d], hrs =>
    have hd : strip d = .bool true := by simpa using hrs
    rw [he, strip_isBool hd]; rfl
theorem alive_w {w : World} (hG : E0.globs w) : Calls Tryd.prog 4 #[] w fun e w' => e = .returned (.bool true) ∧ Below w.heap.size w w' := by
  refine (alive08_h w [] (fun rs => rs.map strip = [.bool true]) .nil (fun d hd => by cases hd) (fun d hd => absurd hd (by simp [E0])) hG ⟨_, alive08_ok, fun rs h => h⟩).mono ?_
  rintro e w' ⟨rs, hrs, hH, hb, hok, hat, he⟩
  refine ⟨?_, hb⟩
  have he : e = .returned (retV (groupV [(false, [.bool])] rs)) := he
  match rs, hrs with
  | [d], hrs =>
    have hd : strip d = .bool true := by simpa using hrs
    rw [he, strip_isBool hd]; rfl
end Go.Proofs.YtcigbgpdikadpaaDoor
end

section
namespace Go.Proofs.YtcigbgpdikadpaaDoor
open Go.RowKit
set_option linter.unusedVariables false
attribute [local go_sem] Oper.semAt_some

def rndX (B : Nat) (k : Nat) (args : Array Value) (W : World) : Prop := ∃ ds, args = #[.int .i64 k, cV ds] ∧ CardD k W B ds
def betw (B : Nat) (W : World) : Prop := E0.globs W ∧ B ≤ W.heap.size
theorem CardD.keep {k B : Nat} {w w' : World} {ds : List Dat} (h : CardD k w B ds) (hb : Below w.heap.size w w') : CardD k w' B ds :=
  ⟨h.has, fun d hd => (h.ok d hd).keeps (grownBy_below hb) (by simp), h.here, h.data⟩
theorem CardD.weak {k B B' : Nat} {w : World} {ds : List Dat} (h : CardD k w B ds) (hB : B' ≤ B) : CardD k w B' ds :=
  ⟨h.has, h.ok, fun j hj => Nat.le_trans hB (h.here j hj), h.data⟩
/-- one operation in a round -/
theorem in_of {F : Fence} {n : Nat} {P : Program} {ops : Array Oper} {Q : Exit → Act → World → Prop} {a : Act} {w : World} {rest : List Oper} {o : Oper} (hF : WideF F) (v : Value) (hd : ∀ c, o.op ≠ .defer c) (hw : Region.wanted o (yielded ops a.tmps) = true) (hr : (execOp a.eval o).run P w = .ok (.value v) w)
    (h : wpListIn F n P ops Q rest (a.put o.dst v) w) : wpListIn F n P ops Q (o :: rest) a w := by
  unfold wpListIn
  rw [if_pos hw]
  refine ⟨fun f _ => hF.fn f, ?_⟩
  rw [hF.sem hd, hr]
  exact h
theorem card13 {ds : List Dat} (h : ds.length = 13) : ∃ d0 d1 d2 d3 d4 d5 d6 d7 d8 d9 d10 d11 d12, ds = [d0, d1, d2, d3, d4, d5, d6, d7, d8, d9, d10, d11, d12] :=
  match ds, h with
  | [a, b, c, d, e, f, g, h, i, j, k, m, n], _ => ⟨_, _, _, _, _, _, _, _, _, _, _, _, _, rfl⟩
theorem CardD.len {k B : Nat} {w : World} {ds : List Dat} (h : CardD k w B ds) : ds.length = 13 := h.has.length.symm
theorem has_one {s : Srt} {d : Dat} (h : Has E0.Δ s d) (hs : s.one = true) : d.toV.oneCell' = true := by
  cases h with
  | val v h => exact h
  | rows => cases hs
  | _ => rfl
theorem CardD.one {k B : Nat} {w : World} {ds : List Dat} (h : CardD k w B ds) : ((ds.map Dat.toV).toArray).all (·.oneCell') = true := by
  have := h.has
  have hs : cardS.all Srt.one = true := by kernel_rfl
  rw [List.all_toArray]
  refine List.all_eq_true.2 fun v hv => ?_
  obtain ⟨d, hd, rfl⟩ := List.mem_map.1 hv
  obtain ⟨i, hi, rfl⟩ := List.getElem_of_mem hd
  obtain ⟨s, h1, h2⟩ := this.get2 (List.getElem?_eq_getElem hi)
  exact has_one h2 (List.all_eq_true.1 hs s (List.mem_of_getElem? h1))
def zero13 : Array Value := #[.int .i64 0, .int .i64 0, .bool false, .int .i64 0, .int .i64 0, .int .i64 0, .int .i64 0, .int .i64 0, .int .i64 0, .int .i64 0, .int .i64 0, .int .i64 0, .slice none 0 0]
theorem no_defer {L : List Oper} (h : L.all (fun o => match o.op with | .defer _ => false | _ => true) = true) : ∀ o ∈ L, ∀ c, o.op ≠ .defer c := fun o ho c e => by
  have := List.all_eq_true.1 h o ho
  rw [e] at this; cases this
set_option maxRecDepth 100000 in
set_option maxHeartbeats 4000000 in
theorem all_seq (B n : Nat) : SeqX n Tryd.prog 10 (rndX B) (betw B) 120 := by
  intro l J Jx W hJ hG hY h0
  refine callsIn_of_wp Tryd.func10 rfl trivial ?_
  simp only [Tryd.ntmps10, List.size_toArray, List.length_cons, List.length_nil, Nat.reduceAdd, Nat.reduceSub, Array.replicate_succ, Array.replicate_zero, List.push_toArray, List.append_toArray, List.nil_append, List.cons_append]
  gi_wp2
  gi_loopg [5] 120 (fun g p5 wr => ∃ k : Nat, 120 ≤ k + g ∧ k ≤ 120 ∧ p5 = .int .i64 k ∧ J k wr)
  case atStart => exact ⟨0, by omega, by omega, rfl, h0⟩
  case round =>
    obtain ⟨k, hg, hk, rfl, hj⟩ := hrel
    by_cases hlt : k < 120
    · have hlt' : (k : Int) < 120 := by omega
      gi_upto_region 3 with fail
      refine reg_in wide_wide (no_defer (by rfl)) ?_
      go_wp2_with (first
        | (go_at_call 8; refine (card_w hlt (hG _ _ hj).1).mono ?_; rintro e w1 ⟨ds, rfl, hc, hb⟩; obtain ⟨d0, d1, d2, d3, d4, d5, d6, d7, d8, d9, d10, d11, d12, rfl⟩ := card13 hc.len; have hone := hc.one; have hM1 := Mem.start (o := none) w1; simp only [cV, List.map_cons, List.map_nil] at *)
        | (refine M_allocV hM1 (by kernel_rfl) (.agg zero13) rfl (by kernel_rfl) ?_; intro b w2 hM2)
        | (refine M_setRow hM2 (by kernel_rfl) rfl rfl rfl rfl (.head _ _) (by kernel_rfl) rfl hone ?_; intro w3 hM3)
        | fail)
      have hj3 : J k w3 := hJ _ _ _ hj (hb.trans (hM3.below.mono hb.size))
      have hc3 := (hc.keep hM3.below).weak (hG _ _ hj).2
      obtain ⟨fn, tmps, assign, body, hy, hR⟩ := hY k _ w3 hj3 hlt ⟨_, rfl, hc3⟩
      simp only [cV, List.map_cons, List.map_nil] at hy
      clear hc hM1 hM2
      gi_wp2_with (first
        | (refine in_of wide_wide (.agg #[d0.toV, d1.toV, d2.toV, d3.toV, d4.toV, d5.toV, d6.toV, d7.toV, d8.toV, d9.toV, d10.toV, d11.toV, d12.toV]) (fun c e => by cases e) (by kernel_rfl) (R_row hM3 rfl rfl (.head _) Tryd.underlying31 rfl (by kernel_rfl)) ?_)
        | (refine ⟨(fun hx => by cases hx), hR.mono ?_⟩; rintro e W' (⟨rfl, hJ'⟩ | ⟨rfl, hJx⟩))
        | fail)
      · gi_roundg (gk - 1)
        case rel => exact ⟨k + 1, by omega, by omega, by simp, hJ'⟩
        case measure => omega
      · exact ⟨rfl, .tuple #[], by simp [results, Tryd.f10], ⟨_, rfl⟩, .inr ⟨k + 1, by omega, hJx⟩⟩
    · obtain rfl : k = 120 := by omega
      have hcond : ¬ ((120 : Nat) : Int) < 120 := by omega
      gi_wp2
      go_end0
      exact ⟨⟨_, rfl⟩, .inl hj⟩
end Go.Proofs.YtcigbgpdikadpaaDoor
end
