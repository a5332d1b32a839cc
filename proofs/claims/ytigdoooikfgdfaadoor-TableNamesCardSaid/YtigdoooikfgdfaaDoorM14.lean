import Derived.Test.YtigdoooikfgdfaaDoorM12
import Derived.Test.YtigdoooikfgdfaaDoorM13

set_option linter.unusedVariables false
set_option linter.unusedSimpArgs false

section
namespace Go.Proofs.YtigdoooikfgdfaaDoor
open Go.RowKit
set_option linter.unusedVariables false
set_option linter.unusedSimpArgs false

noncomputable def con_sItoa : Con E0 := ⟨k_sItoa, sg_sItoa, sItoa_s, rfl, bo_sItoa, sItoa_h⟩
def k_tName : Nat := 10
def sg_tName : Sig := ⟨[(false, [.int .i64])], [(false, [.str])], false, false, true, false, false⟩
def tr_tName : Tree := (.call k_tcard [(.var 0)] [(.int .i64), (.int .i64), .bool, (.int .i64), (.int .i64), (.int .i64), (.int .i64), (.int .i64), (.int .i64), (.int .i64), (.int .i64), (.int .i64), (.list 47), .err]
(.ite (.not (.isnil (.var 14)))
 (.ret [(.str [])])
 (.ob (.cmp .ge (.var 1) (.int .i64 0))
 (.ob (.cmp .lt (.var 1) (.int .i64 4))
 (.ob (.cmp .le (.slen (.sapp (.ite (.cmp .ge (.var 0) (.int .i64 112)) (.str [116, 111, 107, 101, 110]) (.sel (.econs (.str [115, 111, 117, 114, 99, 101]) (.econs (.str [98, 101, 97, 115, 116]) (.econs (.str [109, 97, 103, 105, 99]) (.econs (.str [114, 101, 108, 105, 99]) .enil)))) (.var 1) .str)) (.str [45]))) (.int .i64 9223372036854775807))
 (.call k_sItoa [(.var 0)] [.str]
 (.ob (.cmp .le (.slen (.sapp (.sapp (.ite (.cmp .ge (.var 0) (.int .i64 112)) (.str [116, 111, 107, 101, 110]) (.sel (.econs (.str [115, 111, 117, 114, 99, 101]) (.econs (.str [98, 101, 97, 115, 116]) (.econs (.str [109, 97, 103, 105, 99]) (.econs (.str [114, 101, 108, 105, 99]) .enil)))) (.var 1) .str)) (.str [45])) (.var 15))) (.int .i64 9223372036854775807))
 (.ret [(.sapp (.sapp (.ite (.cmp .ge (.var 0) (.int .i64 112)) (.str [116, 111, 107, 101, 110]) (.sel (.econs (.str [115, 111, 117, 114, 99, 101]) (.econs (.str [98, 101, 97, 115, 116]) (.econs (.str [109, 97, 103, 105, 99]) (.econs (.str [114, 101, 108, 105, 99]) .enil)))) (.var 1) .str)) (.str [45])) (.var 15))]))))))))
theorem wk_tName : walk E0.cx (sgsN [(6, sg_tcard), (28, sg_sItoa)]) 0 10 sg_tName = tr_tName := by kernel_rfl
theorem bo_tName : ∃ x, bodyOf E0.P 10 = some x := bo_of (by kernel_rfl)
theorem sp_tName_tcard : specC [con_tcard, con_sItoa] k_tcard = tcard_s := rfl
theorem sp_tName_sItoa : specC [con_tcard, con_sItoa] k_sItoa = sItoa_s := rfl
noncomputable def tName_g : List PD → Option (List PD) := fun ps => evL E0.Δ (pfun [(k_tcard, tcard_g), (k_sItoa, sItoa_g)]) 0 [] tr_tName ps
def tName_s : Spec := psp tName_g
theorem tName_h : Holds E0 k_tName sg_tName tName_s := con_ev wf0 mix0 g0 [con_tcard, con_sItoa] rfl wk_tName rfl (fits_cons (k := k_tcard) (g := tcard_g) sp_tName_tcard (fits_cons (k := k_sItoa) (g := sItoa_g) sp_tName_sItoa (fits_nil))) 0
noncomputable def con_tName : Con E0 := ⟨k_tName, sg_tName, tName_s, rfl, bo_tName, tName_h⟩
def k_rfigs : Nat := 29
def sg_rfigs : Sig := ⟨[(false, [.int .i64])], [(false, [.str])], false, false, true, false, false⟩
def tr_rfigs : Tree := (.ite (.cmp .lt (.var 0) (.int .i64 10))
 (.ret [(.sof (.push .emp (.econs (.conv .u8 (.ar .add .i64 (.int .i64 48) (.var 0))) .enil)))])
 (.both (.call k_rfigs [(.ar .quo .i64 (.var 0) (.int .i64 10))] [.str]
 (.ob (.cmp .le (.slen (.sapp (.var 1) (.sof (.push .emp (.econs (.conv .u8 (.ar .add .i64 (.int .i64 48) (.ar .rem .i64 (.var 0) (.int .i64 10)))) .enil))))) (.int .i64 9223372036854775807))
 (.ret [(.sapp (.var 1) (.sof (.push .emp (.econs (.conv .u8 (.ar .add .i64 (.int .i64 48) (.ar .rem .i64 (.var 0) (.int .i64 10)))) .enil))))]))) (.both (.call k_rfigs [(.ar .quo .i64 (.var 0) (.int .i64 10))] [.str]
 (.ob (.cmp .le (.slen (.sapp (.var 1) (.sof (.push .emp (.econs (.conv .u8 (.ar .add .i64 (.int .i64 48) (.ar .rem .i64 (.var 0) (.int .i64 10)))) .enil))))) (.int .i64 9223372036854775807))
 (.ret [(.sapp (.var 1) (.sof (.push .emp (.econs (.conv .u8 (.ar .add .i64 (.int .i64 48) (.ar .rem .i64 (.var 0) (.int .i64 10)))) .enil))))]))) (.call k_rfigs [(.ar .quo .i64 (.var 0) (.int .i64 10))] [.str]
 (.ob (.cmp .le (.slen (.sapp (.var 1) (.sof (.push .emp (.econs (.conv .u8 (.ar .add .i64 (.int .i64 48) (.ar .rem .i64 (.var 0) (.int .i64 10)))) .enil))))) (.int .i64 9223372036854775807))
 (.ret [(.sapp (.var 1) (.sof (.push .emp (.econs (.conv .u8 (.ar .add .i64 (.int .i64 48) (.ar .rem .i64 (.var 0) (.int .i64 10)))) .enil))))]))))))
theorem wk_rfigs : walk E0.cx (sgsN [(29, sg_rfigs)]) 0 29 sg_rfigs = tr_rfigs := by kernel_rfl
theorem bo_rfigs : ∃ x, bodyOf E0.P 29 = some x := bo_of (by kernel_rfl)
noncomputable def rfigs_f : Nat → List PD → Option (List PD)
  | 0 => fun _ => none
  | n + 1 => fun ps => evL E0.Δ (pfun [(k_rfigs, rfigs_f n)]) 0 [] tr_rfigs ps
theorem rfigs_z : ∀ n, Holds E0 k_rfigs sg_rfigs (psp (rfigs_f n))
  | 0 => fun _ _ _ _ _ _ _ h => by obtain ⟨_, h, _⟩ := h; cases h
  | n + 1 => con_ev wf0 mix0 g0 [⟨k_rfigs, sg_rfigs, psp (rfigs_f n), rfl, bo_rfigs, rfigs_z n⟩] rfl wk_rfigs rfl (fits_cons (k := k_rfigs) (g := rfigs_f n) rfl (fits_nil)) 0
noncomputable def rfigs_g : List PD → Option (List PD) := rfigs_f 4
def rfigs_s : Spec := psp rfigs_g
theorem rfigs_h : Holds E0 k_rfigs sg_rfigs rfigs_s := rfigs_z 4
noncomputable def con_rfigs : Con E0 := ⟨k_rfigs, sg_rfigs, rfigs_s, rfl, bo_rfigs, rfigs_h⟩
def k_rName8 : Nat := 11
def sg_rName8 : Sig := ⟨[(false, [.int .i64])], [(false, [.str])], false, false, true, false, false⟩
def tr_rName8 : Tree := (.call k_rcard [(.var 0)] [(.int .i64), (.int .i64), .bool, (.int .i64), (.int .i64), (.int .i64), (.int .i64), (.int .i64), (.int .i64), (.int .i64), (.int .i64), (.int .i64), (.list 47), .bool]
(.ite (.not (.var 14))
 (.ret [(.str [])])
 (.ite (.cmp .lt (.var 0) (.int .i64 112))
  (.ob (.cmp .ge (.var 1) (.int .i64 0))
  (.ob (.cmp .lt (.var 1) (.int .i64 4))
  (.ob (.cmp .le (.slen (.sapp (.elem (.push (.push (.push (.push .emp (.econs (.str [115, 111, 117, 114, 99, 101]) .enil)) (.econs (.str [98, 101, 97, 115, 116]) .enil)) (.econs (.str [109, 97, 103, 105, 99]) .enil)) (.econs (.str [114, 101, 108, 105, 99]) .enil)) (.var 1) 0 .str) (.str [45]))) (.int .i64 9223372036854775807))
  (.call k_rfigs [(.var 0)] [.str]
  (.ob (.cmp .le (.slen (.sapp (.sapp (.elem (.push (.push (.push (.push .emp (.econs (.str [115, 111, 117, 114, 99, 101]) .enil)) (.econs (.str [98, 101, 97, 115, 116]) .enil)) (.econs (.str [109, 97, 103, 105, 99]) .enil)) (.econs (.str [114, 101, 108, 105, 99]) .enil)) (.var 1) 0 .str) (.str [45])) (.var 15))) (.int .i64 9223372036854775807))
  (.ret [(.sapp (.sapp (.elem (.push (.push (.push (.push .emp (.econs (.str [115, 111, 117, 114, 99, 101]) .enil)) (.econs (.str [98, 101, 97, 115, 116]) .enil)) (.econs (.str [109, 97, 103, 105, 99]) .enil)) (.econs (.str [114, 101, 108, 105, 99]) .enil)) (.var 1) 0 .str) (.str [45])) (.var 15))]))))))
  (.ob (.cmp .le (.slen (.sapp (.str [116, 111, 107, 101, 110]) (.str [45]))) (.int .i64 9223372036854775807))
  (.call k_rfigs [(.var 0)] [.str]
  (.ob (.cmp .le (.slen (.sapp (.sapp (.str [116, 111, 107, 101, 110]) (.str [45])) (.var 15))) (.int .i64 9223372036854775807))
  (.ret [(.sapp (.sapp (.str [116, 111, 107, 101, 110]) (.str [45])) (.var 15))])))))))
theorem wk_rName8 : walk E0.cx (sgsN [(7, sg_rcard), (29, sg_rfigs)]) 0 11 sg_rName8 = tr_rName8 := by kernel_rfl
theorem bo_rName8 : ∃ x, bodyOf E0.P 11 = some x := bo_of (by kernel_rfl)
theorem sp_rName8_rcard : specC [con_rcard, con_rfigs] k_rcard = rcard_s := rfl
theorem sp_rName8_rfigs : specC [con_rcard, con_rfigs] k_rfigs = rfigs_s := rfl
noncomputable def rName8_g : List PD → Option (List PD) := fun ps => evL E0.Δ (pfun [(k_rcard, rcard_g), (k_rfigs, rfigs_g)]) 0 [] tr_rName8 ps
def rName8_s : Spec := psp rName8_g
theorem rName8_h : Holds E0 k_rName8 sg_rName8 rName8_s := con_ev wf0 mix0 g0 [con_rcard, con_rfigs] rfl wk_rName8 rfl (fits_cons (k := k_rcard) (g := rcard_g) sp_rName8_rcard (fits_cons (k := k_rfigs) (g := rfigs_g) sp_rName8_rfigs (fits_nil))) 0
noncomputable def con_rName8 : Con E0 := ⟨k_rName8, sg_rName8, rName8_s, rfl, bo_rName8, rName8_h⟩
def k_numEffects : Nat := 26
def sg_numEffects : Sig := ⟨[(true, List.replicate 4 (.int .i64) ++ [.list 45]), (true, List.replicate 4 (.int .i64) ++ [.list 45])], [(false, [.bool])], false, false, true, false, false⟩
def tr_numEffects : Tree := (.ite (.or (.cmp .ne (.var 0) (.var 5)) (.or (.cmp .ne (.var 1) (.var 6)) (.or (.cmp .ne (.var 2) (.var 7)) (.or (.cmp .ne (.var 3) (.var 8)) (.cmp .ne (.len (.var 4)) (.len (.var 9)))))))
 (.ret [(.bool false)])
 (.loop [(.bool false), (.int .i64 0)] [.bool, (.int .i64)]
  (.ite (.cmp .lt (.var 11) (.len (.var 4)))
   (.ob (.cmp .ge (.var 11) (.int .i64 0))
   (.ob (.cmp .ge (.var 11) (.int .i64 0))
   (.ob (.cmp .lt (.var 11) (.len (.var 9)))
   (.call k_numEffects [(.elem (.var 4) (.var 11) 0 (.int .i64)), (.elem (.var 4) (.var 11) 1 (.int .i64)), (.elem (.var 4) (.var 11) 2 (.int .i64)), (.elem (.var 4) (.var 11) 3 (.int .i64)), (.elem (.var 4) (.var 11) 4 (.list 45)), (.elem (.var 9) (.var 11) 0 (.int .i64)), (.elem (.var 9) (.var 11) 1 (.int .i64)), (.elem (.var 9) (.var 11) 2 (.int .i64)), (.elem (.var 9) (.var 11) 3 (.int .i64)), (.elem (.var 9) (.var 11) 4 (.list 45))] [.bool]
   (.ite (.not (.var 12))
    (.ret [(.bool false)])
    (.again 0 [(.var 10), (.ar .add .i64 (.var 11) (.int .i64 1))]))))))
   (.ret [(.bool true)]))))
theorem wk_numEffects : walk E0.cx (sgsN [(26, sg_numEffects)]) 0 26 sg_numEffects = tr_numEffects := by kernel_rfl
theorem bo_numEffects : ∃ x, bodyOf E0.P 26 = some x := bo_of (by kernel_rfl)
noncomputable def numEffects_f : Nat → List PD → Option (List PD)
  | 0 => fun _ => none
  | n + 1 => fun ps => evL E0.Δ (pfun [(k_numEffects, numEffects_f n)]) 60 [] tr_numEffects ps
theorem numEffects_z : ∀ n, Holds E0 k_numEffects sg_numEffects (psp (numEffects_f n))
  | 0 => fun _ _ _ _ _ _ _ h => by obtain ⟨_, h, _⟩ := h; cases h
  | n + 1 => con_ev wf0 mix0 g0 [⟨k_numEffects, sg_numEffects, psp (numEffects_f n), rfl, bo_numEffects, numEffects_z n⟩] rfl wk_numEffects rfl (fits_cons (k := k_numEffects) (g := numEffects_f n) rfl (fits_nil)) 60
noncomputable def numEffects_g : List PD → Option (List PD) := numEffects_f 9
def numEffects_s : Spec := psp numEffects_g
theorem numEffects_h : Holds E0 k_numEffects sg_numEffects numEffects_s := numEffects_z 9
noncomputable def con_numEffects : Con E0 := ⟨k_numEffects, sg_numEffects, numEffects_s, rfl, bo_numEffects, numEffects_h⟩
def k_nCards : Nat := 8
def sg_nCards : Sig := ⟨[(true, [.int .i64, .int .i64] ++ [.bool] ++ List.replicate 9 (.int .i64) ++ [.list 47]), (true, [.int .i64, .int .i64] ++ [.bool] ++ List.replicate 9 (.int .i64) ++ [.list 47])], [(false, [.bool])], false, false, true, false, false⟩
def tr_nCards : Tree := (.ite (.or (.cmp .ne (.var 0) (.var 13)) (.or (.cmp .ne (.var 1) (.var 14)) (.or (.not (.beq (.var 2) (.var 15))) (.or (.not (.and (.cmp .eq (.var 3) (.var 16)) (.and (.cmp .eq (.var 4) (.var 17)) (.and (.cmp .eq (.var 5) (.var 18)) (.and (.cmp .eq (.var 6) (.var 19)) (.and (.cmp .eq (.var 7) (.var 20)) (.cmp .eq (.var 8) (.var 21)))))))) (.or (.cmp .ne (.var 9) (.var 22)) (.or (.cmp .ne (.var 10) (.var 23)) (.or (.cmp .ne (.var 11) (.var 24)) (.cmp .ne (.len (.var 12)) (.len (.var 25))))))))))
 (.ret [(.bool false)])
 (.loop [(.bool false), (.int .i64 0)] [.bool, (.int .i64)]
  (.ite (.cmp .lt (.var 27) (.len (.var 12)))
   (.ob (.cmp .ge (.var 27) (.int .i64 0))
   (.ob (.cmp .ge (.var 27) (.int .i64 0))
   (.ob (.cmp .lt (.var 27) (.len (.var 25)))
   (.ite (.cmp .ne (.elem (.var 12) (.var 27) 0 (.int .i64)) (.elem (.var 25) (.var 27) 0 (.int .i64)))
    (.ret [(.bool false)])
    (.ite (.not (.and (.cmp .eq (.elem (.var 12) (.var 27) 1 (.int .i64)) (.elem (.var 25) (.var 27) 1 (.int .i64))) (.and (.cmp .eq (.elem (.var 12) (.var 27) 2 (.int .i64)) (.elem (.var 25) (.var 27) 2 (.int .i64))) (.and (.cmp .eq (.elem (.var 12) (.var 27) 3 (.int .i64)) (.elem (.var 25) (.var 27) 3 (.int .i64))) (.and (.cmp .eq (.elem (.var 12) (.var 27) 4 (.int .i64)) (.elem (.var 25) (.var 27) 4 (.int .i64))) (.and (.cmp .eq (.elem (.var 12) (.var 27) 5 (.int .i64)) (.elem (.var 25) (.var 27) 5 (.int .i64))) (.cmp .eq (.elem (.var 12) (.var 27) 6 (.int .i64)) (.elem (.var 25) (.var 27) 6 (.int .i64)))))))))
     (.ret [(.bool false)])
     (.ite (.not (.beq (.elem (.var 12) (.var 27) 7 .bool) (.elem (.var 25) (.var 27) 7 .bool)))
      (.ret [(.bool false)])
      (.ite (.cmp .ne (.elem (.var 12) (.var 27) 8 (.int .i64)) (.elem (.var 25) (.var 27) 8 (.int .i64)))
       (.ret [(.bool false)])
       (.call k_numEffects [(.elem (.var 12) (.var 27) 9 (.int .i64)), (.elem (.var 12) (.var 27) 10 (.int .i64)), (.elem (.var 12) (.var 27) 11 (.int .i64)), (.elem (.var 12) (.var 27) 12 (.int .i64)), (.elem (.var 12) (.var 27) 13 (.list 45)), (.elem (.var 25) (.var 27) 9 (.int .i64)), (.elem (.var 25) (.var 27) 10 (.int .i64)), (.elem (.var 25) (.var 27) 11 (.int .i64)), (.elem (.var 25) (.var 27) 12 (.int .i64)), (.elem (.var 25) (.var 27) 13 (.list 45))] [.bool]
       (.ite (.not (.var 28))
        (.ret [(.bool false)])
        (.again 0 [(.var 26), (.ar .add .i64 (.var 27) (.int .i64 1))]))))))))))
   (.ret [(.bool true)]))))
theorem wk_nCards : walk E0.cx (sgsN [(26, sg_numEffects)]) 0 8 sg_nCards = tr_nCards := by kernel_rfl
theorem bo_nCards : ∃ x, bodyOf E0.P 8 = some x := bo_of (by kernel_rfl)
theorem sp_nCards_numEffects : specC [con_numEffects] k_numEffects = numEffects_s := rfl
noncomputable def nCards_g : List PD → Option (List PD) := fun ps => evL E0.Δ (pfun [(k_numEffects, numEffects_g)]) 60 [] tr_nCards ps
def nCards_s : Spec := psp nCards_g
theorem nCards_h : Holds E0 k_nCards sg_nCards nCards_s := con_ev wf0 mix0 g0 [con_numEffects] rfl wk_nCards rfl (fits_cons (k := k_numEffects) (g := numEffects_g) sp_nCards_numEffects (fits_nil)) 60
noncomputable def con_nCards : Con E0 := ⟨k_nCards, sg_nCards, nCards_s, rfl, bo_nCards, nCards_h⟩
def k_paid : Nat := 30
def sg_paid : Sig := ⟨[(true, List.replicate 6 (.int .i64)), (false, [.bool])], [(false, [.bool])], false, true, true, false, false⟩
def tr_paid : Tree := (.ite (.var 6)
 (.ret [(.and (.cmp .eq (.var 0) (.int .i64 0)) (.and (.cmp .eq (.var 1) (.int .i64 0)) (.and (.cmp .eq (.var 2) (.int .i64 0)) (.and (.cmp .eq (.var 3) (.int .i64 0)) (.and (.cmp .eq (.var 4) (.int .i64 0)) (.cmp .eq (.var 5) (.int .i64 0)))))))])
 (.ite (.or (.cmp .lt (.var 0) (.int .i64 0)) (.cmp .gt (.var 0) (.int .i64 1000)))
  (.ret [(.bool false)])
  (.ite (.or (.cmp .lt (.var 1) (.int .i64 0)) (.cmp .gt (.var 1) (.int .i64 1000)))
   (.ret [(.bool false)])
   (.ite (.or (.cmp .lt (.var 2) (.int .i64 0)) (.cmp .gt (.var 2) (.int .i64 1000)))
    (.ret [(.bool false)])
    (.ite (.or (.cmp .lt (.var 3) (.int .i64 0)) (.cmp .gt (.var 3) (.int .i64 1000)))
     (.ret [(.bool false)])
     (.ite (.or (.cmp .lt (.var 4) (.int .i64 0)) (.cmp .gt (.var 4) (.int .i64 1000)))
      (.ret [(.bool false)])
      (.ite (.or (.cmp .lt (.var 5) (.int .i64 0)) (.cmp .gt (.var 5) (.int .i64 1000)))
       (.ret [(.bool false)])
       (.ret [(.cmp .le (.ar .add .i64 (.ar .add .i64 (.ar .add .i64 (.ar .add .i64 (.ar .add .i64 (.ar .add .i64 (.int .i64 0) (.var 0)) (.var 1)) (.var 2)) (.var 3)) (.var 4)) (.var 5)) (.int .i64 20))]))))))))
theorem wk_paid : walk E0.cx (sgsN []) 0 30 sg_paid = tr_paid := by kernel_rfl
theorem bo_paid : ∃ x, bodyOf E0.P 30 = some x := bo_of (by kernel_rfl)
noncomputable def paid_g : List PD → Option (List PD) := fun ps => evL E0.Δ (pfun []) 60 [] tr_paid ps
def paid_s : Spec := psp paid_g
theorem paid_h : Holds E0 k_paid sg_paid paid_s := con_ev wf0 mix0 g0 [] rfl wk_paid rfl (fits_nil) 60
noncomputable def con_paid : Con E0 := ⟨k_paid, sg_paid, paid_s, rfl, bo_paid, paid_h⟩
def k_eof : Nat := 80
def sg_eof : Sig := ⟨[(false, [.int .i64])], [(true, [.bool] ++ [.int .i64, .int .i64] ++ [.int .u64, .int .u64] ++ [.int .i64, .int .i64])], false, true, false, false, false⟩
def tr_eof : Tree := (.ite (.cmp .eq (.var 0) (.int .i64 0))
 (.ret [(.bool false), (.int .i64 99), (.int .i64 99), (.int .u64 1), (.int .u64 0), (.int .i64 0), (.int .i64 0)])
 (.ite (.cmp .eq (.var 0) (.int .i64 21))
  (.ret [(.bool false), (.int .i64 99), (.int .i64 99), (.int .u64 1), (.int .u64 0), (.int .i64 1), (.int .i64 8)])
  (.ite (.cmp .eq (.var 0) (.int .i64 22))
   (.ret [(.bool false), (.int .i64 2), (.int .i64 99), (.int .u64 1), (.int .u64 0), (.int .i64 1), (.int .i64 2)])
   (.ite (.cmp .eq (.var 0) (.int .i64 20))
    (.ret [(.bool false), (.int .i64 3), (.int .i64 99), (.int .u64 1), (.int .u64 0), (.int .i64 1), (.int .i64 1)])
    (.ite (.cmp .eq (.var 0) (.int .i64 1))
     (.ret [(.bool false), (.int .i64 99), (.int .i64 99), (.int .u64 19), (.int .u64 14), (.int .i64 0), (.int .i64 0)])
     (.ite (.cmp .eq (.var 0) (.int .i64 9))
      (.ret [(.bool false), (.int .i64 99), (.int .i64 99), (.int .u64 0), (.int .u64 16), (.int .i64 0), (.int .i64 0)])
      (.ite (.cmp .eq (.var 0) (.int .i64 6))
       (.ret [(.bool false), (.int .i64 99), (.int .i64 99), (.int .u64 8), (.int .u64 34), (.int .i64 0), (.int .i64 0)])
       (.ite (.cmp .eq (.var 0) (.int .i64 7))
        (.ret [(.bool false), (.int .i64 99), (.int .i64 99), (.int .u64 8), (.int .u64 34), (.int .i64 0), (.int .i64 0)])
        (.ite (.cmp .eq (.var 0) (.int .i64 8))
         (.ret [(.bool false), (.int .i64 99), (.int .i64 99), (.int .u64 8), (.int .u64 34), (.int .i64 0), (.int .i64 0)])
         (.ite (.cmp .eq (.var 0) (.int .i64 10))
          (.ret [(.bool true), (.int .i64 99), (.int .i64 99), (.int .u64 8), (.int .u64 34), (.int .i64 0), (.int .i64 0)])
          (.ite (.cmp .eq (.var 0) (.int .i64 11))
           (.ret [(.bool false), (.int .i64 99), (.int .i64 99), (.int .u64 8), (.int .u64 34), (.int .i64 0), (.int .i64 0)])
           (.ite (.cmp .eq (.var 0) (.int .i64 12))
            (.ret [(.bool false), (.int .i64 99), (.int .i64 99), (.int .u64 8), (.int .u64 34), (.int .i64 0), (.int .i64 0)])
            (.ite (.cmp .eq (.var 0) (.int .i64 13))
             (.ret [(.bool false), (.int .i64 99), (.int .i64 99), (.int .u64 8), (.int .u64 34), (.int .i64 0), (.int .i64 0)])
             (.ite (.cmp .eq (.var 0) (.int .i64 23))
              (.ret [(.bool false), (.int .i64 99), (.int .i64 99), (.int .u64 8), (.int .u64 34), (.int .i64 0), (.int .i64 0)])
              (.ite (.cmp .eq (.var 0) (.int .i64 24))
               (.ret [(.bool true), (.int .i64 99), (.int .i64 99), (.int .u64 8), (.int .u64 34), (.int .i64 0), (.int .i64 0)])
               (.ite (.cmp .eq (.var 0) (.int .i64 25))
                (.ret [(.bool false), (.int .i64 99), (.int .i64 99), (.int .u64 8), (.int .u64 34), (.int .i64 0), (.int .i64 0)])
                (.ite (.cmp .eq (.var 0) (.int .i64 15))
                 (.ret [(.bool false), (.int .i64 99), (.int .i64 5), (.int .u64 19), (.int .u64 4), (.int .i64 0), (.int .i64 0)])
                 (.ret [(.bool false), (.int .i64 99), (.int .i64 99), (.int .u64 19), (.int .u64 4), (.int .i64 0), (.int .i64 0)]))))))))))))))))))
theorem wk_eof : walk E0.cx (sgsN []) 0 80 sg_eof = tr_eof := by kernel_rfl
theorem bo_eof : ∃ x, bodyOf E0.P 80 = some x := bo_of (by kernel_rfl)
noncomputable def eof_g : List PD → Option (List PD) := fun ps => evL E0.Δ (pfun []) 60 [] tr_eof ps
def eof_s : Spec := psp eof_g
theorem eof_h : Holds E0 k_eof sg_eof eof_s := con_ev wf0 mix0 g0 [] rfl wk_eof rfl (fits_nil) 60
noncomputable def con_eof : Con E0 := ⟨k_eof, sg_eof, eof_s, rfl, bo_eof, eof_h⟩
def k_esingle : Nat := 83
def sg_esingle : Sig := ⟨[(false, [.int .i64])], [(false, [.bool])], false, true, false, false, false⟩
def tr_esingle : Tree := (.ite (.cmp .eq (.var 0) (.int .i64 1))
 (.ret [(.bool true)])
 (.ite (.cmp .eq (.var 0) (.int .i64 0))
  (.ret [(.bool false)])
  (.ite (.cmp .eq (.var 0) (.int .i64 21))
   (.ret [(.bool false)])
   (.ite (.cmp .eq (.var 0) (.int .i64 22))
    (.ret [(.bool false)])
    (.ite (.cmp .eq (.var 0) (.int .i64 20))
     (.ret [(.bool false)])
     (.ite (.cmp .eq (.var 0) (.int .i64 9))
      (.ret [(.bool false)])
      (.ite (.cmp .eq (.var 0) (.int .i64 6))
       (.ret [(.bool true)])
       (.ite (.cmp .eq (.var 0) (.int .i64 7))
        (.ret [(.bool true)])
        (.ite (.cmp .eq (.var 0) (.int .i64 8))
         (.ret [(.bool true)])
         (.ite (.cmp .eq (.var 0) (.int .i64 10))
          (.ret [(.bool true)])
          (.ite (.cmp .eq (.var 0) (.int .i64 11))
           (.ret [(.bool true)])
           (.ite (.cmp .eq (.var 0) (.int .i64 12))
            (.ret [(.bool true)])
            (.ite (.cmp .eq (.var 0) (.int .i64 13))
             (.ret [(.bool true)])
             (.ite (.cmp .eq (.var 0) (.int .i64 23))
              (.ret [(.bool true)])
              (.ite (.cmp .eq (.var 0) (.int .i64 24))
               (.ret [(.bool true)])
               (.ite (.cmp .eq (.var 0) (.int .i64 25))
                (.ret [(.bool true)])
                (.ite (.cmp .eq (.var 0) (.int .i64 15))
                 (.ret [(.bool false)])
                 (.ret [(.bool false)]))))))))))))))))))
theorem wk_esingle : walk E0.cx (sgsN []) 0 83 sg_esingle = tr_esingle := by kernel_rfl
theorem bo_esingle : ∃ x, bodyOf E0.P 83 = some x := bo_of (by kernel_rfl)
noncomputable def esingle_g : List PD → Option (List PD) := fun ps => evL E0.Δ (pfun []) 60 [] tr_esingle ps
def esingle_s : Spec := psp esingle_g
theorem esingle_h : Holds E0 k_esingle sg_esingle esingle_s := con_ev wf0 mix0 g0 [] rfl wk_esingle rfl (fits_nil) 60
noncomputable def con_esingle : Con E0 := ⟨k_esingle, sg_esingle, esingle_s, rfl, bo_esingle, esingle_h⟩
def k_enumbers : Nat := 82
def sg_enumbers : Sig := ⟨[(true, List.replicate 4 (.int .i64) ++ [.list 45]), (true, [.bool] ++ [.int .i64, .int .i64] ++ [.int .u64, .int .u64] ++ [.int .i64, .int .i64])], [(false, [.bool])], false, false, true, false, false⟩
def tr_enumbers : Tree := (.ite (.or (.not (.ite (.var 5) (.and (.cmp .ge (.var 1) (.ar .sub .i64 (.int .i64 0) (.var 6))) (.cmp .le (.var 1) (.var 6))) (.and (.cmp .ge (.var 1) (.int .i64 0)) (.cmp .le (.var 1) (.var 6))))) (.or (.not (.ite (.var 5) (.and (.cmp .ge (.var 2) (.ar .sub .i64 (.int .i64 0) (.var 7))) (.cmp .le (.var 2) (.var 7))) (.and (.cmp .ge (.var 2) (.int .i64 0)) (.cmp .le (.var 2) (.var 7))))) (.not (.and (.cmp .ge (.var 3) (.int .i64 0)) (.cmp .le (.var 3) (.int .i64 4))))))
 (.ret [(.bool false)])
 (.ite (.or (.cmp .eq (.var 0) (.int .i64 23)) (.cmp .eq (.var 0) (.int .i64 25)))
  (.ret [(.cmp .le (.var 1) (.int .i64 255))])
  (.ite (.cmp .eq (.var 0) (.int .i64 14))
   (.ret [(.and (.cmp .ge (.var 2) (.int .i64 112)) (.cmp .le (.var 2) (.int .i64 119)))])
   (.ret [(.bool true)]))))
theorem wk_enumbers : walk E0.cx (sgsN []) 0 82 sg_enumbers = tr_enumbers := by kernel_rfl
theorem bo_enumbers : ∃ x, bodyOf E0.P 82 = some x := bo_of (by kernel_rfl)
noncomputable def enumbers_g : List PD → Option (List PD) := fun ps => evL E0.Δ (pfun []) 60 [] tr_enumbers ps
def enumbers_s : Spec := psp enumbers_g
theorem enumbers_h : Holds E0 k_enumbers sg_enumbers enumbers_s := con_ev wf0 mix0 g0 [] rfl wk_enumbers rfl (fits_nil) 60
noncomputable def con_enumbers : Con E0 := ⟨k_enumbers, sg_enumbers, enumbers_s, rfl, bo_enumbers, enumbers_h⟩
def k_echeck : Nat := 68
def sg_echeck : Sig := ⟨[(true, List.replicate 4 (.int .i64) ++ [.list 45]), (false, [.int .i64]), (false, [.int .i64])], [(false, [.err])], false, false, true, false, false⟩
def tr_echeck : Tree := (.ite (.or (.cmp .lt (.var 0) (.int .i64 0)) (.cmp .ge (.var 0) (.int .i64 26)))
 (.ret [(.ifc (.int .i64 6))])
 (.ite (.cmp .gt (.var 6) (.int .i64 8))
  (.ret [(.ifc (.int .i64 3))])
  (.call k_eof [(.var 0)] [.bool, (.int .i64), (.int .i64), (.int .u64), (.int .u64), (.int .i64), (.int .i64)]
  (.ob (.or (.not (.cmp .eq (.var 3) (.int .i64 2))) (.or (.not (.and (.cmp .ge (.var 5) (.int .i64 0)) (.cmp .lt (.var 5) (.int .i64 64)))) (.cmp .ge (.conv .u64 (.var 5)) (.int .u64 0))))
  (.call k_enumbers [(.var 0), (.var 1), (.var 2), (.var 3), (.var 4), (.var 7), (.ite (.or (.cmp .eq (.var 0) (.int .i64 23)) (.cmp .eq (.var 0) (.int .i64 25))) (.int .i64 255) (.var 8)), (.ite (.cmp .eq (.var 0) (.int .i64 14)) (.int .i64 119) (.var 9)), (.var 10), (.var 11), (.var 12), (.var 13)] [.bool]
  (.ite (.not (.var 14))
   (.ret [(.ifc (.int .i64 1))])
   (.ob (.or (.not (.not (.and (.cmp .eq (.var 3) (.int .i64 2)) (.and (.and (.cmp .ge (.var 5) (.int .i64 0)) (.cmp .lt (.var 5) (.int .i64 64))) (.cmp .eq (.ar .and .u64 (.ar .shr .u64 (.var 11) (.conv .u64 (.var 5))) (.int .u64 1)) (.int .u64 1)))))) (.or (.not (.and (.cmp .ge (.var 3) (.int .i64 0)) (.cmp .lt (.var 3) (.int .i64 64)))) (.cmp .ge (.conv .u64 (.var 3)) (.int .u64 0))))
   (.ite (.and (.not (.and (.cmp .eq (.var 3) (.int .i64 2)) (.and (.and (.cmp .ge (.var 5) (.int .i64 0)) (.cmp .lt (.var 5) (.int .i64 64))) (.cmp .eq (.ar .and .u64 (.ar .shr .u64 (.var 11) (.conv .u64 (.var 5))) (.int .u64 1)) (.int .u64 1))))) (.not (.and (.and (.cmp .ge (.var 3) (.int .i64 0)) (.cmp .lt (.var 3) (.int .i64 64))) (.cmp .eq (.ar .and .u64 (.ar .shr .u64 (.var 10) (.conv .u64 (.var 3))) (.int .u64 1)) (.int .u64 1)))))
    (.ret [(.ifc (.int .i64 11))])
    (.ite (.or (.cmp .lt (.len (.var 4)) (.var 12)) (.cmp .gt (.len (.var 4)) (.var 13)))
     (.ret [(.ifc (.int .i64 2))])
     (.ite (.cmp .eq (.var 0) (.int .i64 20))
      (.ob (.cmp .lt (.int .i64 0) (.len (.var 4)))
      (.call k_esingle [(.elem (.var 4) (.int .i64 0) 0 (.int .i64))] [.bool]
      (.ite (.not (.var 15))
       (.ret [(.ifc (.int .i64 2))])
       (.loop [.nili, (.int .i64 0)] [.err, (.int .i64)]
        (.ite (.cmp .lt (.var 17) (.len (.var 4)))
         (.ob (.cmp .ge (.var 17) (.int .i64 0))
         (.call k_echeck [(.elem (.var 4) (.var 17) 0 (.int .i64)), (.elem (.var 4) (.var 17) 1 (.int .i64)), (.elem (.var 4) (.var 17) 2 (.int .i64)), (.elem (.var 4) (.var 17) 3 (.int .i64)), (.elem (.var 4) (.var 17) 4 (.list 45)), (.int .i64 1), (.ar .add .i64 (.var 6) (.int .i64 1))] [.err]
         (.ite (.not (.isnil (.var 18)))
          (.ret [(.var 18)])
          (.ite (.cmp .ne (.elem (.var 4) (.var 17) 3 (.int .i64)) (.int .i64 2))
           (.ret [(.ifc (.int .i64 11))])
           (.again 0 [(.var 16), (.ar .add .i64 (.var 17) (.int .i64 1))])))))
         (.ret [.nili]))))))
      (.loop [.nili, (.int .i64 0)] [.err, (.int .i64)]
       (.ite (.cmp .lt (.var 16) (.len (.var 4)))
        (.ob (.cmp .ge (.var 16) (.int .i64 0))
        (.call k_echeck [(.elem (.var 4) (.var 16) 0 (.int .i64)), (.elem (.var 4) (.var 16) 1 (.int .i64)), (.elem (.var 4) (.var 16) 2 (.int .i64)), (.elem (.var 4) (.var 16) 3 (.int .i64)), (.elem (.var 4) (.var 16) 4 (.list 45)), (.var 5), (.ar .add .i64 (.var 6) (.int .i64 1))] [.err]
        (.ite (.not (.isnil (.var 17)))
         (.ret [(.var 17)])
         (.again 0 [(.var 15), (.ar .add .i64 (.var 16) (.int .i64 1))]))))
        (.ret [.nili])))))))))))))
theorem wk_echeck : walk E0.cx (sgsN [(80, sg_eof), (83, sg_esingle), (82, sg_enumbers), (68, sg_echeck)]) 0 68 sg_echeck = tr_echeck := by kernel_rfl
theorem bo_echeck : ∃ x, bodyOf E0.P 68 = some x := bo_of (by kernel_rfl)
noncomputable def echeck_f : Nat → List PD → Option (List PD)
  | 0 => fun _ => none
  | n + 1 => fun ps => evL E0.Δ (pfun [(k_eof, eof_g), (k_esingle, esingle_g), (k_enumbers, enumbers_g), (k_echeck, echeck_f n)]) 60 [] tr_echeck ps
theorem echeck_z : ∀ n, Holds E0 k_echeck sg_echeck (psp (echeck_f n))
  | 0 => fun _ _ _ _ _ _ _ h => by obtain ⟨_, h, _⟩ := h; cases h
  | n + 1 => con_ev wf0 mix0 g0 [con_eof, con_esingle, con_enumbers, ⟨k_echeck, sg_echeck, psp (echeck_f n), rfl, bo_echeck, echeck_z n⟩] rfl wk_echeck rfl (fits_cons (k := k_eof) (g := eof_g) rfl (fits_cons (k := k_esingle) (g := esingle_g) rfl (fits_cons (k := k_enumbers) (g := enumbers_g) rfl (fits_cons (k := k_echeck) (g := echeck_f n) rfl (fits_nil))))) 60
noncomputable def echeck_g : List PD → Option (List PD) := echeck_f 9
def echeck_s : Spec := psp echeck_g
theorem echeck_h : Holds E0 k_echeck sg_echeck echeck_s := echeck_z 9
noncomputable def con_echeck : Con E0 := ⟨k_echeck, sg_echeck, echeck_s, rfl, bo_echeck, echeck_h⟩
def k_eCheck : Nat := 56
def sg_eCheck : Sig := ⟨[(true, List.replicate 4 (.int .i64) ++ [.list 45]), (false, [.int .i64])], [(false, [.err])], false, false, false, false, false⟩
def tr_eCheck : Tree := (.ite (.cmp .lt (.var 5) (.int .i64 0))
 (.ret [(.ifc (.int .i64 6))])
 (.ite (.cmp .ge (.var 5) (.int .i64 6))
  (.ret [(.ifc (.int .i64 6))])
  (.call k_echeck [(.var 0), (.var 1), (.var 2), (.var 3), (.var 4), (.var 5), (.int .i64 1)] [.err]
  (.ret [(.var 6)]))))
theorem wk_eCheck : walk E0.cx (sgsN [(68, sg_echeck)]) 0 56 sg_eCheck = tr_eCheck := by kernel_rfl
theorem bo_eCheck : ∃ x, bodyOf E0.P 56 = some x := bo_of (by kernel_rfl)
theorem sp_eCheck_echeck : specC [con_echeck] k_echeck = echeck_s := rfl
noncomputable def eCheck_g : List PD → Option (List PD) := fun ps => evL E0.Δ (pfun [(k_echeck, echeck_g)]) 60 [] tr_eCheck ps
def eCheck_s : Spec := psp eCheck_g
theorem eCheck_h : Holds E0 k_eCheck sg_eCheck eCheck_s := con_ev wf0 mix0 g0 [con_echeck] rfl wk_eCheck rfl (fits_cons (k := k_echeck) (g := echeck_g) sp_eCheck_echeck (fits_nil)) 60
noncomputable def con_eCheck : Con E0 := ⟨k_eCheck, sg_eCheck, eCheck_s, rfl, bo_eCheck, eCheck_h⟩
def k_cUses : Nat := 55
def sg_cUses : Sig := ⟨[(true, [.int .i64, .int .i64] ++ [.bool] ++ List.replicate 9 (.int .i64) ++ [.list 47]), (false, [.int .i64])], [(false, [.rows 3])], true, false, false, false, false⟩
def tr_cUses : Tree := (.loop [.emp, (.int .i64 0)] [(.rows 3), (.int .i64)]
 (.ite (.cmp .lt (.var 15) (.len (.var 12)))
  (.ob (.cmp .ge (.var 15) (.int .i64 0))
  (.ite (.cmp .eq (.elem (.var 12) (.var 15) 0 (.int .i64)) (.var 13))
   (.ob (.cmp .le (.len (.push (.var 14) (.econs (.var 15) .enil))) (.int .i64 17592186044416))
   (.again 0 [(.push (.var 14) (.econs (.var 15) .enil)), (.ar .add .i64 (.var 15) (.int .i64 1))]))
   (.again 0 [(.var 14), (.ar .add .i64 (.var 15) (.int .i64 1))])))
  (.ret [(.var 14)])))
theorem wk_cUses : walk E0.cx (sgsN []) 0 55 sg_cUses = tr_cUses := by kernel_rfl
theorem bo_cUses : ∃ x, bodyOf E0.P 55 = some x := bo_of (by kernel_rfl)
noncomputable def cUses_g : List PD → Option (List PD) := fun ps => evL E0.Δ (pfun []) 60 [] tr_cUses ps
def cUses_s : Spec := psp cUses_g
theorem cUses_h : Holds E0 k_cUses sg_cUses cUses_s := con_ev wf0 mix0 g0 [] rfl wk_cUses rfl (fits_nil) 60
noncomputable def con_cUses : Con E0 := ⟨k_cUses, sg_cUses, cUses_s, rfl, bo_cUses, cUses_h⟩
def k_cability : Nat := 33
def sg_cability : Sig := ⟨[(true, List.replicate 7 (.int .i64) ++ [.bool] ++ List.replicate 5 (.int .i64) ++ [.list 45])], [(false, [.err])], false, false, true, false, false⟩
def tr_cability : Tree := (.ite (.or (.cmp .lt (.var 0) (.int .i64 0)) (.cmp .ge (.var 0) (.int .i64 7)))
 (.ret [(.ifc (.int .i64 6))])
 (.call k_paid [(.var 1), (.var 2), (.var 3), (.var 4), (.var 5), (.var 6), (.not (.cmp .eq (.var 0) (.int .i64 1)))] [.bool]
 (.ite (.not (.var 14))
  (.ret [(.ifc (.int .i64 10))])
  (.ite (.and (.not (.cmp .eq (.var 0) (.int .i64 1))) (.not (.beq (.var 7) (.cmp .eq (.var 0) (.int .i64 6)))))
   (.ret [(.ifc (.int .i64 2))])
   (.ite (.or (.cmp .lt (.var 8) (.int .i64 0)) (.or (.cmp .ge (.var 8) (.int .i64 6)) (.and (.not (.cmp .eq (.var 0) (.int .i64 1))) (.and (.cmp .ne (.var 0) (.int .i64 0)) (.cmp .ne (.var 8) (.int .i64 0))))))
    (.ret [(.ifc (.int .i64 11))])
    (.call k_eCheck [(.var 9), (.var 10), (.var 11), (.var 12), (.var 13), (.var 8)] [.err]
    (.ite (.not (.isnil (.var 15)))
     (.ret [(.var 15)])
     (.ite (.and (.cmp .eq (.var 0) (.int .i64 6)) (.or (.cmp .ne (.var 9) (.int .i64 15)) (.cmp .ne (.var 12) (.int .i64 0))))
      (.ret [(.ifc (.int .i64 2))])
      (.ite (.cmp .eq (.var 0) (.int .i64 5))
       (.ite (.cmp .ne (.var 9) (.int .i64 20))
        (.ret [(.ifc (.int .i64 2))])
        (.ob (.cmp .lt (.int .i64 0) (.len (.var 13)))
        (.ite (.or (.cmp .eq (.elem (.var 13) (.int .i64 0) 0 (.int .i64)) (.int .i64 10)) (.or (.cmp .eq (.elem (.var 13) (.int .i64 0) 0 (.int .i64)) (.int .i64 23)) (.or (.cmp .eq (.elem (.var 13) (.int .i64 0) 0 (.int .i64)) (.int .i64 24)) (.cmp .eq (.elem (.var 13) (.int .i64 0) 0 (.int .i64)) (.int .i64 25)))))
         (.ret [.nili])
         (.ret [(.ifc (.int .i64 2))]))))
       (.ret [.nili]))))))))))
theorem wk_cability : walk E0.cx (sgsN [(30, sg_paid), (56, sg_eCheck)]) 0 33 sg_cability = tr_cability := by kernel_rfl
theorem bo_cability : ∃ x, bodyOf E0.P 33 = some x := bo_of (by kernel_rfl)
theorem sp_cability_paid : specC [con_paid, con_eCheck] k_paid = paid_s := rfl
theorem sp_cability_eCheck : specC [con_paid, con_eCheck] k_eCheck = eCheck_s := rfl
noncomputable def cability_g : List PD → Option (List PD) := fun ps => evL E0.Δ (pfun [(k_paid, paid_g), (k_eCheck, eCheck_g)]) 60 [] tr_cability ps
def cability_s : Spec := psp cability_g
theorem cability_h : Holds E0 k_cability sg_cability cability_s := con_ev wf0 mix0 g0 [con_paid, con_eCheck] rfl wk_cability rfl (fits_cons (k := k_paid) (g := paid_g) sp_cability_paid (fits_cons (k := k_eCheck) (g := eCheck_g) sp_cability_eCheck (fits_nil))) 60
noncomputable def con_cability : Con E0 := ⟨k_cability, sg_cability, cability_s, rfl, bo_cability, cability_h⟩
def k_strong : Nat := 31
def sg_strong : Sig := ⟨[(true, [.int .i64, .int .i64] ++ [.bool] ++ List.replicate 9 (.int .i64) ++ [.list 47])], [(false, [.bool])], false, false, true, false, false⟩
def tr_strong : Tree := (.ite (.cmp .ne (.var 0) (.int .i64 1))
 (.ret [(.and (.cmp .eq (.var 9) (.int .i64 0)) (.and (.cmp .eq (.var 10) (.int .i64 0)) (.cmp .eq (.var 11) (.int .i64 0))))])
 (.ret [(.and (.cmp .ge (.var 9) (.int .i64 0)) (.and (.cmp .le (.var 9) (.int .i64 99)) (.and (.cmp .ge (.var 10) (.int .i64 1)) (.and (.cmp .le (.var 10) (.int .i64 99)) (.and (.cmp .ge (.var 11) (.int .i64 0)) (.cmp .le (.var 11) (.int .i64 255)))))))]))
theorem wk_strong : walk E0.cx (sgsN []) 0 31 sg_strong = tr_strong := by kernel_rfl
theorem bo_strong : ∃ x, bodyOf E0.P 31 = some x := bo_of (by kernel_rfl)
noncomputable def strong_g : List PD → Option (List PD) := fun ps => evL E0.Δ (pfun []) 60 [] tr_strong ps
def strong_s : Spec := psp strong_g
theorem strong_h : Holds E0 k_strong sg_strong strong_s := con_ev wf0 mix0 g0 [] rfl wk_strong rfl (fits_nil) 60
noncomputable def con_strong : Con E0 := ⟨k_strong, sg_strong, strong_s, rfl, bo_strong, strong_h⟩
def k_cformed : Nat := 32
def sg_cformed : Sig := ⟨[(true, [.int .i64, .int .i64] ++ [.bool] ++ List.replicate 9 (.int .i64) ++ [.list 47])], [(false, [.bool])], false, false, false, false, false⟩
def tr_cformed : Tree := (.call k_cUses [(.var 0), (.var 1), (.var 2), (.var 3), (.var 4), (.var 5), (.var 6), (.var 7), (.var 8), (.var 9), (.var 10), (.var 11), (.var 12), (.int .i64 0)] [(.rows 3)]
(.ite (.cmp .eq (.var 0) (.int .i64 2))
 (.ite (.cmp .eq (.len (.var 12)) (.int .i64 1))
  (.ret [(.cmp .eq (.len (.app .emp (.var 13))) (.int .i64 1))])
  (.ret [(.bool false)]))
 (.ite (.cmp .le (.len (.var 12)) (.int .i64 4))
  (.ite (.cmp .eq (.len (.app .emp (.var 13))) (.int .i64 0))
   (.ite (.not (.var 2))
    (.ret [(.bool true)])
    (.ret [(.cmp .eq (.var 0) (.int .i64 1))]))
   (.ret [(.bool false)]))
  (.ret [(.bool false)]))))
theorem wk_cformed : walk E0.cx (sgsN [(55, sg_cUses)]) 0 32 sg_cformed = tr_cformed := by kernel_rfl
theorem bo_cformed : ∃ x, bodyOf E0.P 32 = some x := bo_of (by kernel_rfl)
theorem sp_cformed_cUses : specC [con_cUses] k_cUses = cUses_s := rfl
noncomputable def cformed_g : List PD → Option (List PD) := fun ps => evL E0.Δ (pfun [(k_cUses, cUses_g)]) 60 [] tr_cformed ps
def cformed_s : Spec := psp cformed_g
theorem cformed_h : Holds E0 k_cformed sg_cformed cformed_s := con_ev wf0 mix0 g0 [con_cUses] rfl wk_cformed rfl (fits_cons (k := k_cUses) (g := cUses_g) sp_cformed_cUses (fits_nil)) 60
noncomputable def con_cformed : Con E0 := ⟨k_cformed, sg_cformed, cformed_s, rfl, bo_cformed, cformed_h⟩
def k_cCheck : Nat := 12
def sg_cCheck : Sig := ⟨[(true, [.int .i64, .int .i64] ++ [.bool] ++ List.replicate 9 (.int .i64) ++ [.list 47])], [(false, [.err])], false, false, false, false, false⟩
def tr_cCheck : Tree := (.ite (.cmp .lt (.var 0) (.int .i64 0))
 (.ret [(.ifc (.int .i64 6))])
 (.ite (.cmp .ge (.var 0) (.int .i64 4))
  (.ret [(.ifc (.int .i64 6))])
  (.ite (.cmp .lt (.var 1) (.int .i64 0))
   (.ret [(.ifc (.int .i64 6))])
   (.ite (.cmp .gt (.var 1) (.int .i64 5))
    (.ret [(.ifc (.int .i64 6))])
    (.call k_paid [(.var 3), (.var 4), (.var 5), (.var 6), (.var 7), (.var 8), (.cmp .eq (.var 0) (.int .i64 0))] [.bool]
    (.ite (.not (.var 13))
     (.ret [(.ifc (.int .i64 10))])
     (.call k_strong [(.var 0), (.var 1), (.var 2), (.var 3), (.var 4), (.var 5), (.var 6), (.var 7), (.var 8), (.var 9), (.var 10), (.var 11), (.var 12)] [.bool]
     (.ite (.not (.var 14))
      (.ret [(.ifc (.int .i64 1))])
      (.call k_cformed [(.var 0), (.var 1), (.var 2), (.var 3), (.var 4), (.var 5), (.var 6), (.var 7), (.var 8), (.var 9), (.var 10), (.var 11), (.var 12)] [.bool]
      (.ite (.not (.var 15))
       (.ret [(.ifc (.int .i64 2))])
       (.loop [.nili, (.int .i64 0)] [.err, (.int .i64)]
        (.ite (.cmp .lt (.var 17) (.len (.var 12)))
         (.ob (.cmp .ge (.var 17) (.int .i64 0))
         (.call k_cability [(.elem (.var 12) (.var 17) 0 (.int .i64)), (.elem (.var 12) (.var 17) 1 (.int .i64)), (.elem (.var 12) (.var 17) 2 (.int .i64)), (.elem (.var 12) (.var 17) 3 (.int .i64)), (.elem (.var 12) (.var 17) 4 (.int .i64)), (.elem (.var 12) (.var 17) 5 (.int .i64)), (.elem (.var 12) (.var 17) 6 (.int .i64)), (.elem (.var 12) (.var 17) 7 .bool), (.elem (.var 12) (.var 17) 8 (.int .i64)), (.elem (.var 12) (.var 17) 9 (.int .i64)), (.elem (.var 12) (.var 17) 10 (.int .i64)), (.elem (.var 12) (.var 17) 11 (.int .i64)), (.elem (.var 12) (.var 17) 12 (.int .i64)), (.elem (.var 12) (.var 17) 13 (.list 45))] [.err]
         (.ite (.not (.isnil (.var 18)))
          (.ret [(.var 18)])
          (.again 0 [(.var 16), (.ar .add .i64 (.var 17) (.int .i64 1))]))))
         (.ret [.nili])))))))))))))
theorem wk_cCheck : walk E0.cx (sgsN [(30, sg_paid), (31, sg_strong), (32, sg_cformed), (33, sg_cability)]) 0 12 sg_cCheck = tr_cCheck := by kernel_rfl
theorem bo_cCheck : ∃ x, bodyOf E0.P 12 = some x := bo_of (by kernel_rfl)
theorem sp_cCheck_paid : specC [con_paid, con_strong, con_cformed, con_cability] k_paid = paid_s := rfl
theorem sp_cCheck_strong : specC [con_paid, con_strong, con_cformed, con_cability] k_strong = strong_s := rfl
theorem sp_cCheck_cformed : specC [con_paid, con_strong, con_cformed, con_cability] k_cformed = cformed_s := rfl
theorem sp_cCheck_cability : specC [con_paid, con_strong, con_cformed, con_cability] k_cability = cability_s := rfl
noncomputable def cCheck_g : List PD → Option (List PD) := fun ps => evL E0.Δ (pfun [(k_paid, paid_g), (k_strong, strong_g), (k_cformed, cformed_g), (k_cability, cability_g)]) 60 [] tr_cCheck ps
def cCheck_s : Spec := psp cCheck_g
theorem cCheck_h : Holds E0 k_cCheck sg_cCheck cCheck_s := con_ev wf0 mix0 g0 [con_paid, con_strong, con_cformed, con_cability] rfl wk_cCheck rfl (fits_cons (k := k_paid) (g := paid_g) sp_cCheck_paid (fits_cons (k := k_strong) (g := strong_g) sp_cCheck_strong (fits_cons (k := k_cformed) (g := cformed_g) sp_cCheck_cformed (fits_cons (k := k_cability) (g := cability_g) sp_cCheck_cability (fits_nil))))) 60
noncomputable def con_cCheck : Con E0 := ⟨k_cCheck, sg_cCheck, cCheck_s, rfl, bo_cCheck, cCheck_h⟩
noncomputable def zNum_g : List PD → Option (List PD) := fun ps => evL E0.Δ (pfun []) 0 [] tr_Num ps
def zNum_s : Spec := psp zNum_g
theorem zNum_h : Holds E0 k_Num sg_Num zNum_s := con_ev wf0 mix0 g0 [] rfl wk_Num rfl (fits_nil) 0
noncomputable def con_zNum : Con E0 := ⟨k_Num, sg_Num, zNum_s, rfl, bo_Num, zNum_h⟩
def k_Is8 : Nat := 9
def sg_Is8 : Sig := ⟨[(false, [.err]), (false, [.int .i64])], [(false, [.bool])], false, false, false, false, false⟩
def tr_Is8 : Tree := (.call k_Num [(.var 0)] [(.int .i64)]
(.ret [(.cmp .eq (.var 2) (.var 1))]))
theorem wk_Is8 : walk E0.cx (sgsN [(27, sg_Num)]) 0 9 sg_Is8 = tr_Is8 := by kernel_rfl
theorem bo_Is8 : ∃ x, bodyOf E0.P 9 = some x := bo_of (by kernel_rfl)
theorem sp_Is8_Num : specC [con_Num] k_Num = Num_s := rfl
noncomputable def zIs8_g : List PD → Option (List PD) := fun ps => evL E0.Δ (pfun [(k_Num, zNum_g)]) 0 [] tr_Is8 ps
def zIs8_s : Spec := psp zIs8_g
theorem sp_zIs8_zNum : specC [con_zNum] k_Num = zNum_s := rfl
theorem zIs8_h : Holds E0 k_Is8 sg_Is8 zIs8_s := con_ev wf0 mix0 g0 [con_zNum] rfl wk_Is8 rfl (fits_cons (k := k_Num) (g := zNum_g) sp_zIs8_zNum (fits_nil)) 0
noncomputable def con_zIs8 : Con E0 := ⟨k_Is8, sg_Is8, zIs8_s, rfl, bo_Is8, zIs8_h⟩
def k_alive08 : Nat := 5
def sg_alive08 : Sig := ⟨[], [(false, [.bool])], false, false, true, false, false⟩
def tr_alive08 : Tree := (.call k_tcard [(.int .i64 65)] [(.int .i64), (.int .i64), .bool, (.int .i64), (.int .i64), (.int .i64), (.int .i64), (.int .i64), (.int .i64), (.int .i64), (.int .i64), (.int .i64), (.list 47), .err]
(.ite (.isnil (.var 13))
 (.ite (.cmp .eq (.var 0) (.int .i64 2))
  (.ite (.and (.cmp .eq (.var 3) (.int .i64 1)) (.and (.cmp .eq (.var 4) (.int .i64 0)) (.and (.cmp .eq (.var 5) (.int .i64 0)) (.and (.cmp .eq (.var 6) (.int .i64 0)) (.and (.cmp .eq (.var 7) (.int .i64 0)) (.cmp .eq (.var 8) (.int .i64 3)))))))
   (.ite (.cmp .eq (.len (.var 12)) (.int .i64 1))
    (.ob (.cmp .lt (.int .i64 0) (.len (.var 12)))
    (.ite (.cmp .eq (.elem (.var 12) (.int .i64 0) 8 (.int .i64)) (.int .i64 5))
     (.ob (.cmp .lt (.int .i64 0) (.len (.var 12)))
     (.ite (.cmp .eq (.elem (.var 12) (.int .i64 0) 9 (.int .i64)) (.int .i64 8))
      (.call k_tName [(.int .i64 65)] [.str]
      (.ret [(.seq (.var 14) (.str [109, 97, 103, 105, 99, 45, 54, 53]))]))
      (.ret [(.bool false)])))
     (.ret [(.bool false)])))
    (.ret [(.bool false)]))
   (.ret [(.bool false)]))
  (.ret [(.bool false)]))
 (.ret [(.bool false)])))
theorem wk_alive08 : walk E0.cx (sgsN [(6, sg_tcard), (10, sg_tName)]) 0 5 sg_alive08 = tr_alive08 := by kernel_rfl
theorem bo_alive08 : ∃ x, bodyOf E0.P 5 = some x := bo_of (by kernel_rfl)
theorem sp_alive08_tcard : specC [con_tcard, con_tName] k_tcard = tcard_s := rfl
theorem sp_alive08_tName : specC [con_tcard, con_tName] k_tName = tName_s := rfl
noncomputable def alive08_g : List PD → Option (List PD) := fun ps => evL E0.Δ (pfun [(k_tcard, tcard_g), (k_tName, tName_g)]) 0 [] tr_alive08 ps
def alive08_s : Spec := psp alive08_g
theorem alive08_h : Holds E0 k_alive08 sg_alive08 alive08_s := con_ev wf0 mix0 g0 [con_tcard, con_tName] rfl wk_alive08 rfl (fits_cons (k := k_tcard) (g := tcard_g) sp_alive08_tcard (fits_cons (k := k_tName) (g := tName_g) sp_alive08_tName (fits_nil))) 0
noncomputable def con_alive08 : Con E0 := ⟨k_alive08, sg_alive08, alive08_s, rfl, bo_alive08, alive08_h⟩
theorem alive08_ok : alive08_g [] = some [.bool true] := by kernel_rfl
end Go.Proofs.YtigdoooikfgdfaaDoor
end

section
namespace Go.Proofs.YtigdoooikfgdfaaDoor
open Go.RowKit
set_option linter.unusedVariables false
set_option linter.unusedSimpArgs false

def Is8_s : Spec := zIs8_s
noncomputable def con_Is8 : Con E0 := con_zIs8
def k_ltcards : Nat := 3
def sg_ltcards : Sig := ⟨[(false, [.int .i64])], [(false, [.bool])], false, false, true, false, false⟩
def tr_ltcards : Tree := (.call k_alive08 [] [.bool]
(.ite (.not (.var 1))
 (.ret [(.bool false)])
 (.call k_tcard [(.var 0)] [(.int .i64), (.int .i64), .bool, (.int .i64), (.int .i64), (.int .i64), (.int .i64), (.int .i64), (.int .i64), (.int .i64), (.int .i64), (.int .i64), (.list 47), .err]
 (.call k_rcard [(.var 0)] [(.int .i64), (.int .i64), .bool, (.int .i64), (.int .i64), (.int .i64), (.int .i64), (.int .i64), (.int .i64), (.int .i64), (.int .i64), (.int .i64), (.list 47), .bool]
 (.call k_nCards [(.var 2), (.var 3), (.var 4), (.var 5), (.var 6), (.var 7), (.var 8), (.var 9), (.var 10), (.var 11), (.var 12), (.var 13), (.var 14), (.var 16), (.var 17), (.var 18), (.var 19), (.var 20), (.var 21), (.var 22), (.var 23), (.var 24), (.var 25), (.var 26), (.var 27), (.var 28)] [.bool]
 (.ite (.not (.var 30))
  (.ret [(.bool false)])
  (.ite (.not (.beq (.isnil (.var 15)) (.var 29)))
   (.ret [(.bool false)])
   (.ite (.not (.var 29))
    (.call k_Is8 [(.var 15), (.int .i64 4)] [.bool]
    (.ite (.not (.var 31))
     (.ret [(.bool false)])
     (.call k_tName [(.var 0)] [.str]
     (.call k_rName8 [(.var 0)] [.str]
     (.ite (.not (.seq (.var 32) (.var 33)))
      (.ret [(.bool false)])
      (.ret [(.bool true)]))))))
    (.call k_tName [(.var 0)] [.str]
    (.call k_rName8 [(.var 0)] [.str]
    (.ite (.not (.seq (.var 31) (.var 32)))
     (.ret [(.bool false)])
     (.call k_cCheck [(.var 2), (.var 3), (.var 4), (.var 5), (.var 6), (.var 7), (.var 8), (.var 9), (.var 10), (.var 11), (.var 12), (.var 13), (.var 14)] [.err]
     (.ret [(.isnil (.var 33))])))))))))))))
theorem wk_ltcards : walk E0.cx (sgsN [(5, sg_alive08), (6, sg_tcard), (7, sg_rcard), (8, sg_nCards), (9, sg_Is8), (10, sg_tName), (11, sg_rName8), (12, sg_cCheck)]) 0 3 sg_ltcards = tr_ltcards := by kernel_rfl
theorem bo_ltcards : ∃ x, bodyOf E0.P 3 = some x := bo_of (by kernel_rfl)
theorem sp_ltcards_alive08 : specC [con_alive08, con_tcard, con_rcard, con_nCards, con_Is8, con_tName, con_rName8, con_cCheck] k_alive08 = alive08_s := rfl
theorem sp_ltcards_tcard : specC [con_alive08, con_tcard, con_rcard, con_nCards, con_Is8, con_tName, con_rName8, con_cCheck] k_tcard = tcard_s := rfl
theorem sp_ltcards_rcard : specC [con_alive08, con_tcard, con_rcard, con_nCards, con_Is8, con_tName, con_rName8, con_cCheck] k_rcard = rcard_s := rfl
theorem sp_ltcards_nCards : specC [con_alive08, con_tcard, con_rcard, con_nCards, con_Is8, con_tName, con_rName8, con_cCheck] k_nCards = nCards_s := rfl
theorem sp_ltcards_Is8 : specC [con_alive08, con_tcard, con_rcard, con_nCards, con_Is8, con_tName, con_rName8, con_cCheck] k_Is8 = Is8_s := rfl
theorem sp_ltcards_tName : specC [con_alive08, con_tcard, con_rcard, con_nCards, con_Is8, con_tName, con_rName8, con_cCheck] k_tName = tName_s := rfl
theorem sp_ltcards_rName8 : specC [con_alive08, con_tcard, con_rcard, con_nCards, con_Is8, con_tName, con_rName8, con_cCheck] k_rName8 = rName8_s := rfl
theorem sp_ltcards_cCheck : specC [con_alive08, con_tcard, con_rcard, con_nCards, con_Is8, con_tName, con_rName8, con_cCheck] k_cCheck = cCheck_s := rfl
noncomputable def zltcards_g : List PD → Option (List PD) := fun ps => evL E0.Δ (pfun [(k_alive08, alive08_g), (k_tcard, tcard_g), (k_rcard, rcard_g), (k_nCards, nCards_g), (k_Is8, zIs8_g), (k_tName, tName_g), (k_rName8, rName8_g), (k_cCheck, cCheck_g)]) 0 [] tr_ltcards ps
def zltcards_s : Spec := psp zltcards_g
theorem sp_zltcards_alive08 : specC [con_alive08, con_tcard, con_rcard, con_nCards, con_zIs8, con_tName, con_rName8, con_cCheck] k_alive08 = alive08_s := rfl
theorem sp_zltcards_tcard : specC [con_alive08, con_tcard, con_rcard, con_nCards, con_zIs8, con_tName, con_rName8, con_cCheck] k_tcard = tcard_s := rfl
theorem sp_zltcards_rcard : specC [con_alive08, con_tcard, con_rcard, con_nCards, con_zIs8, con_tName, con_rName8, con_cCheck] k_rcard = rcard_s := rfl
theorem sp_zltcards_nCards : specC [con_alive08, con_tcard, con_rcard, con_nCards, con_zIs8, con_tName, con_rName8, con_cCheck] k_nCards = nCards_s := rfl
theorem sp_zltcards_zIs8 : specC [con_alive08, con_tcard, con_rcard, con_nCards, con_zIs8, con_tName, con_rName8, con_cCheck] k_Is8 = zIs8_s := rfl
theorem sp_zltcards_tName : specC [con_alive08, con_tcard, con_rcard, con_nCards, con_zIs8, con_tName, con_rName8, con_cCheck] k_tName = tName_s := rfl
theorem sp_zltcards_rName8 : specC [con_alive08, con_tcard, con_rcard, con_nCards, con_zIs8, con_tName, con_rName8, con_cCheck] k_rName8 = rName8_s := rfl
theorem sp_zltcards_cCheck : specC [con_alive08, con_tcard, con_rcard, con_nCards, con_zIs8, con_tName, con_rName8, con_cCheck] k_cCheck = cCheck_s := rfl
theorem zltcards_h : Holds E0 k_ltcards sg_ltcards zltcards_s := con_ev wf0 mix0 g0 [con_alive08, con_tcard, con_rcard, con_nCards, con_zIs8, con_tName, con_rName8, con_cCheck] rfl wk_ltcards rfl (fits_cons (k := k_alive08) (g := alive08_g) sp_zltcards_alive08 (fits_cons (k := k_tcard) (g := tcard_g) sp_zltcards_tcard (fits_cons (k := k_rcard) (g := rcard_g) sp_zltcards_rcard (fits_cons (k := k_nCards) (g := nCards_g) sp_zltcards_nCards (fits_cons (k := k_Is8) (g := zIs8_g) sp_zltcards_zIs8 (fits_cons (k := k_tName) (g := tName_g) sp_zltcards_tName (fits_cons (k := k_rName8) (g := rName8_g) sp_zltcards_rName8 (fits_cons (k := k_cCheck) (g := cCheck_g) sp_zltcards_cCheck (fits_nil))))))))) 0
noncomputable def con_zltcards : Con E0 := ⟨k_ltcards, sg_ltcards, zltcards_s, rfl, bo_ltcards, zltcards_h⟩
noncomputable def lchk (n : Nat) : Bool := match zltcards_g [.int n] with
  | some [.bool true] => true
  | _ => false
theorem lchk_0 : (List.range' 0 40).all lchk = true := by kernel_rfl
theorem lchk_1 : (List.range' 40 40).all lchk = true := by kernel_rfl
theorem lchk_2 : (List.range' 80 40).all lchk = true := by kernel_rfl
end Go.Proofs.YtigdoooikfgdfaaDoor
end

section
namespace Go.Proofs.YtigdoooikfgdfaaDoor
open Go.RowKit
set_option linter.unusedVariables false
set_option linter.unusedSimpArgs false

theorem ltcards_in {n : Int} (h0 : 0 ≤ n) (h1 : n < 120) : zltcards_g [.int n] = some [.bool true] := by
  obtain ⟨k, rfl⟩ := Int.eq_ofNat_of_zero_le h0
  have h : lchk k = true := by
    by_cases h5 : k < 40
    · exact List.all_eq_true.1 lchk_0 k (by simp [List.mem_range']; omega)
    · by_cases h8 : k < 80
      · exact List.all_eq_true.1 lchk_1 k (by simp only [List.mem_range']; exact ⟨k - 40, by omega, by omega⟩)
      · exact List.all_eq_true.1 lchk_2 k (by simp only [List.mem_range']; exact ⟨k - 80, by omega, by omega⟩)
  unfold lchk at h
  generalize zltcards_g [.int (k : Int)] = o at *
  split at h
  · rfl
  · cases h
section
variable {Δ : Tab} {cs : PFun} {ag : Stk → Nat → List PD → Option (List PD)} {stk : Stk} {env ps rs r : List PD} {a b k : Tree} {c : Tm}
theorem evB_call {f : Nat} {ts : List Tm} {ss : List Srt} (h1 : sevs Δ env ts = some ps) (h2 : cs f ps = some rs) (h3 : evB Δ cs ag k stk (env ++ rs) = some r) : evB Δ cs ag (.call f ts ss k) stk env = some r := by
  rw [evB, h1, Option.bind_some, h2, Option.bind_some, h3]
theorem evB_t (h : sev Δ env c = some (.bool true)) (h2 : evB Δ cs ag a stk env = some r) : evB Δ cs ag (.ite c a b) stk env = some r := by
  rw [evB, h]; exact h2
theorem evB_f (h : sev Δ env c = some (.bool false)) (h2 : evB Δ cs ag b stk env = some r) : evB Δ cs ag (.ite c a b) stk env = some r := by
  rw [evB, h]; exact h2
theorem evB_ret {ts : List Tm} (h : sevs Δ env ts = some r) : evB Δ cs ag (.ret ts) stk env = some r := by
  rw [evB]; exact h
end
theorem pf_hit {k : Nat} {g : List PD → Option (List PD)} {l : List (Nat × (List PD → Option (List PD)))} {x : List PD} {r : Option (List PD)} (h : g x = r) : pfun ((k, g) :: l) k x = r := by
  rw [pfun, if_pos rfl]; exact h
theorem pf_miss {k f : Nat} {g : List PD → Option (List PD)} {l : List (Nat × (List PD → Option (List PD)))} {x : List PD} {r : Option (List PD)} (hk : f ≠ k) (h : pfun l f x = r) : pfun ((k, g) :: l) f x = r := by
  rw [pfun, if_neg (fun e => hk e.symm)]; exact h
abbrev z13 : List PD := [.int 0, .int 0, .bool false, .int 0, .int 0, .int 0, .int 0, .int 0, .int 0, .int 0, .int 0, .int 0, .list 14 []]
theorem out_lt {n : Int} (h : n < 0 ∨ 120 ≤ n) : sev E0.Δ [PD.int n] (.or (.cmp .lt (.var 0) (.int .i64 0)) (.cmp .ge (.var 0) (.int .i64 120))) = some (.bool true) := by
  show some (PD.bool (decide (n < 0) || decide (n ≥ 120))) = _
  rw [Option.some.injEq, PD.bool.injEq, Bool.or_eq_true, decide_eq_true_eq, decide_eq_true_eq]; omega
theorem out_gt {n : Int} (h : n < 0 ∨ 120 ≤ n) : sev E0.Δ [PD.int n] (.or (.cmp .lt (.var 0) (.int .i64 0)) (.cmp .gt (.var 0) (.int .i64 119))) = some (.bool true) := by
  show some (PD.bool (decide (n < 0) || decide (n > 119))) = _
  rw [Option.some.injEq, PD.bool.injEq, Bool.or_eq_true, decide_eq_true_eq, decide_eq_true_eq]; omega
theorem tcard_out {n : Int} (h : n < 0 ∨ 120 ≤ n) : tcard_g [.int n] = some (z13 ++ [.err 4]) := by
  unfold tcard_g
  rw [evL_eq]
  unfold tr_tcard
  exact evB_t (out_lt h) (evB_ret (by rfl))
theorem rcard_out {n : Int} (h : n < 0 ∨ 120 ≤ n) : rcard_g [.int n] = some (z13 ++ [.bool false]) := by
  unfold rcard_g
  rw [evL_eq]
  unfold tr_rcard
  exact evB_t (out_gt h) (evB_ret (by rfl))
theorem tName_out {n : Int} (h : n < 0 ∨ 120 ≤ n) : tName_g [.int n] = some [.str []] := by
  unfold tName_g
  rw [evL_eq]
  unfold tr_tName
  exact evB_call (ps := [.int n]) (by rfl) (tcard_out h) (evB_t (by rfl) (evB_ret (by rfl)))
theorem rName8_out {n : Int} (h : n < 0 ∨ 120 ≤ n) : rName8_g [.int n] = some [.str []] := by
  unfold rName8_g
  rw [evL_eq]
  unfold tr_rName8
  exact evB_call (ps := [.int n]) (by rfl) (rcard_out h) (evB_t (by rfl) (evB_ret (by rfl)))
theorem nCards_zero : nCards_g (z13 ++ z13) = some [.bool true] := by kernel_rfl
theorem zIs8_none : zIs8_g [.err 4, .int 4] = some [.bool true] := by kernel_rfl
theorem ltcards_out {n : Int} (h : n < 0 ∨ 120 ≤ n) : zltcards_g [.int n] = some [.bool true] := by
  unfold zltcards_g
  rw [evL_eq]
  unfold tr_ltcards
  refine evB_call (ps := []) (rs := [.bool true]) (by rfl) (pf_hit alive08_ok) (evB_f (by rfl) ?_)
  refine evB_call (ps := [.int n]) (by rfl) (pf_miss (by decide) (pf_hit (tcard_out h))) ?_
  refine evB_call (ps := [.int n]) (by rfl) (pf_miss (by decide) (pf_miss (by decide) (pf_hit (rcard_out h)))) ?_
  refine evB_call (ps := z13 ++ z13) (by rfl) (pf_miss (by decide) (pf_miss (by decide) (pf_miss (by decide) (pf_hit nCards_zero)))) (evB_f (by rfl) (evB_f (by rfl) (evB_t (by rfl) ?_)))
  refine evB_call (ps := [.err 4, .int 4]) (by rfl) (pf_miss (by decide) (pf_miss (by decide) (pf_miss (by decide) (pf_miss (by decide) (pf_hit zIs8_none))))) (evB_f (by rfl) ?_)
  refine evB_call (ps := [.int n]) (by rfl) (pf_miss (by decide) (pf_miss (by decide) (pf_miss (by decide) (pf_miss (by decide) (pf_miss (by decide) (pf_hit (tName_out h))))))) ?_
  refine evB_call (ps := [.int n]) (by rfl) (pf_miss (by decide) (pf_miss (by decide) (pf_miss (by decide) (pf_miss (by decide) (pf_miss (by decide) (pf_miss (by decide) (pf_hit (rName8_out h)))))))) (evB_f (by rfl) (evB_ret (by rfl)))
theorem ltcards_h : Holds E0 k_ltcards sg_ltcards true_s := holds_mono zltcards_h fun ds Q hs h => by
  have hl : ds.length = 1 := hs.length.symm
  rcases hs with _ | ⟨h0, h1⟩
  rcases h1 with _ | _
  cases h0 with
  | int _ n =>
  have hg : zltcards_g [.int n] = some [.bool true] := by
    by_cases h : 0 ≤ n ∧ n < 120
    · exact ltcards_in h.1 h.2
    · exact ltcards_out (by omega)
  refine ⟨[.bool true], by rw [List.map_cons, strip_int]; exact hg, fun rs' hr => ?_⟩
  obtain ⟨d, rs, rfl, h1, h2⟩ := List.map_eq_cons_iff.1 hr
  rw [List.map_eq_nil_iff] at h2
  subst h2
  rw [strip_isBool h1]
  exact h
end Go.Proofs.YtigdoooikfgdfaaDoor
end
