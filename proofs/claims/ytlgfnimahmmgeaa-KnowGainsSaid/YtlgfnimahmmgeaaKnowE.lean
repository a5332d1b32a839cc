/-
  Contracts: the event by which an object's bits are others.
-/
import Derived.Test.YtlgfnimahmmgeaaKnowD
namespace Go.Proofs.Ytlgfnimahmmgeaa
open Go.RowKit
set_option linter.unusedVariables false

/-- what a function leaves that hands back rows of sz numbers, of the call's own or none -/
def RetRows (w : World) (sz : Nat) (l : List (Nat → Int)) (e : Ending) (w' : World) : Prop := ∃ v, e = .returned v ∧ Rd w' sz v l.length (rowsC sz l) ∧ Below w.heap.size w w'
theorem rd_none (w : World) (sz : Nat) : Rd w sz (.slice none 0 0) 0 (rowsC sz []) := ⟨none, 0, rfl, Nat.le_refl _, by simp [rowsC], fun h => absurd h (by omega)⟩
def evO (id was now : Int) : Nat → Int := fun i => if i = 0 then 2 else if i = 1 then id else if i = 2 then 17 else if i = 3 then was else if i = 4 then now else 0
theorem evO_eq (id was now : Int) : ints 6 (evO id was now) = #[.int .i64 2, .int .i64 id, .int .i64 17, .int .i64 was, .int .i64 now, .int .i64 0] := by rfl
def turnL (nx : Int → Int) (l : List (Nat → Int)) (id : Int) : List (Nat → Int) :=
  if 0 ≤ id ∧ id < l.length then (if nx ((l.getD id.toNat fun _ => 0) 17) = (l.getD id.toNat fun _ => 0) 17 then [] else [evO id ((l.getD id.toNat fun _ => 0) 17) (nx ((l.getD id.toNat fun _ => 0) 17))]) else []
theorem turnL_out {nx : Int → Int} {l : List (Nat → Int)} {id : Int} (h : ¬ (0 ≤ id ∧ id < l.length)) : turnL nx l id = [] := by unfold turnL; rw [if_neg h]
theorem turnL_in {nx : Int → Int} {l : List (Nat → Int)} {k : Nat} (h : k < l.length) {was : Int} (hw : l[k] 17 = was) : turnL nx l k = if nx was = was then [] else [evO k was (nx was)] := by
  unfold turnL
  rw [if_pos ⟨by omega, by omega⟩]
  have : l.getD ((k : Int)).toNat (fun _ => 0) = l[k] := by simp [List.getD_eq_getElem?_getD, h]
  rw [this, hw]
theorem rd_one (w : World) (T : TypeId) (f : Nat → Int) (cs : Array Value) (h : ints 6 f = cs) : Rd (w.alloc (.cells cs T)) 6 (.slice (some ⟨w.heap.size, 0, none⟩) 1 1) 1 (rowsC 6 [f]) := by
  subst h
  refine ⟨_, 1, rfl, Nat.le_refl _, by simp [rowsC, ints_size], fun _ => ⟨_, rfl, by simp, fun j u hu => ?_⟩⟩
  rw [Addr.add_lit, Nat.zero_add]
  refine (Row.new w (ints 6 f) T).cell ?_
  simpa [rowsC] using hu

set_option maxRecDepth 100000 in
set_option maxHeartbeats 1000000 in
theorem turnS_c (cs : Array Value) (A : Option Addr) (n c b : Nat) (l : List (Nat → Int)) (id players : Int) (w : World) (h0 : cs[0]? = some (.slice A n c)) (hsz : cs.size = 37) (ha : At w A n (rowsC 18 l)) (hl : l.length = n) (hn : (n : Int) ≤ 9223372036854775807)
    (i1 : -9223372036854775808 ≤ id) (i2 : id ≤ 9223372036854775807) (hb : b < w.heap.size) (hc : w.cell? ⟨b, 0, none⟩ = some (.int .i64 players)) :
    Calls Try.prog 28 #[.agg cs, .int .i64 id, .func (.func 29) #[] #[.pointer (some ⟨b, 0, none⟩)]] w (RetRows w 6 (turnL (fun was => orW was players) l id)) := by
  have HA := Lib.hid ha
  have HL := Lib.hid hl
  have HN := Lib.hid (fun was W hW => ShowF_c was players b W hW)
  have HQ := Lib.hid (rfl : (fun was => orW was players) = fun was => orW was players)
  have HS := Lib.hid hsz
  clear ha hl hsz
  have HB := Lib.hid ((Below.refl w.heap.size w).alloc (Nat.le_refl _) (.cells cs 36))
  by_cases hin : 0 ≤ id ∧ id < n
  · obtain ⟨k, rfl⟩ : ∃ k : Nat, id = (k : Int) := ⟨id.toNat, by omega⟩
    have hk : k < n := by omega
    obtain ⟨ad, hA, hlt, _⟩ := HA.out (by omega)
    subst hA
    have hcell := at_elem HA.out HL.out hk HB.out 17 _ (ints_get _ (show 17 < 18 by omega))
    have hkl : k < l.length := by have := HL.out; omega
    have HT := Lib.hid (fun was hw => turnL_in (nx := fun was => orW was players) hkl (was := was) hw)
    generalize hwas : l[k] 17 = was at *
    have HW := Lib.hid hwas
    have hcell2 : (w.alloc (.cells cs 36)).cell? ⟨(ad.add (k * 18)).block, (ad.add (k * 18)).off + 17, none⟩ = some (.int .i64 was) := hcell
    have d1 : decide (n ≤ k) = false := by simp; omega
    have d2 : decide ((k : Int) < 0) = false := by simp
    have hcb : (w.alloc (.cells cs 36)).cell? ⟨b, 0, none⟩ = some (.int .i64 players) := by rw [HB.out.cell (p := ⟨b, 0, none⟩) hb]; exact hc
    clear hwas hcell
    by_cases he : orW was players = was
    · have hL : turnL (fun was => orW was players) l k = [] := by rw [HT.out was rfl, if_pos he]
      have HLL := Lib.hid hL
      have e1 : (orW was players == was) = true := by simpa using he
      clear he hL
      go_enter Try.func28, Try.ntmps28
      go_wp2_with (first
        | (refine wpList_box_agg rfl _ _ rfl cs rfl ?_)
        | (go_at_call 29; refine (HN.out was _ hcb).mono ?_; rintro e w1 ⟨rfl, rfl⟩))
      go_ret
      exact ⟨_, rfl, by rw [HLL.out]; exact rd_none _ _, HB.out⟩
    · have hL : turnL (fun was => orW was players) l k = [evO k was (orW was players)] := by rw [HT.out was rfl, if_neg he]
      have HLL := Lib.hid hL
      have e1 : (orW was players == was) = false := by simpa using he
      clear he hL
      go_enter Try.func28, Try.ntmps28
      go_wp2_with (first
        | (refine wpList_box_agg rfl _ _ rfl cs rfl ?_)
        | (go_at_call 29; refine (HN.out was _ hcb).mono ?_; rintro e w1 ⟨rfl, rfl⟩))
      go_ret
      have hr1 := rd_one (w.alloc (.cells cs 36)) 25 (evO k was (orW was players)) _ (evO_eq _ _ _)
      rw [World.size_alloc] at hr1
      refine ⟨_, rfl, by rw [HLL.out]; exact hr1, HB.out.alloc HB.out.size _⟩
  · have HLL := Lib.hid (turnL_out (nx := fun was => orW was players) (l := l) (id := id) (by rw [HL.out]; exact hin))
    have hc2 : id < 0 ∨ (¬ id < 0 ∧ (n : Int) ≤ id) := by omega
    clear hin
    rcases hc2 with h | ⟨h, h2⟩
    all_goals (
      go_enter Try.func28, Try.ntmps28
      go_wp2_with (refine wpList_box_agg rfl _ _ rfl cs rfl ?_)
      go_ret
      exact ⟨_, rfl, by rw [HLL.out]; exact rd_none _ _, HB.out⟩)

set_option maxRecDepth 100000 in
set_option maxHeartbeats 1000000 in
theorem turnH_c (cs : Array Value) (A : Option Addr) (n c b : Nat) (l : List (Nat → Int)) (id players : Int) (w : World) (h0 : cs[0]? = some (.slice A n c)) (hsz : cs.size = 37) (ha : At w A n (rowsC 18 l)) (hl : l.length = n) (hn : (n : Int) ≤ 9223372036854775807)
    (i1 : -9223372036854775808 ≤ id) (i2 : id ≤ 9223372036854775807) (hb : b < w.heap.size) (hc : w.cell? ⟨b, 0, none⟩ = some (.int .i64 players)) :
    Calls Try.prog 28 #[.agg cs, .int .i64 id, .func (.func 30) #[] #[.pointer (some ⟨b, 0, none⟩)]] w (RetRows w 6 (turnL (fun was => clrW was players) l id)) := by
  have HA := Lib.hid ha
  have HL := Lib.hid hl
  have HN := Lib.hid (fun was W hW => HideF_c was players b W hW)
  have HQ := Lib.hid (rfl : (fun was => clrW was players) = fun was => clrW was players)
  have HS := Lib.hid hsz
  clear ha hl hsz
  have HB := Lib.hid ((Below.refl w.heap.size w).alloc (Nat.le_refl _) (.cells cs 36))
  by_cases hin : 0 ≤ id ∧ id < n
  · obtain ⟨k, rfl⟩ : ∃ k : Nat, id = (k : Int) := ⟨id.toNat, by omega⟩
    have hk : k < n := by omega
    obtain ⟨ad, hA, hlt, _⟩ := HA.out (by omega)
    subst hA
    have hcell := at_elem HA.out HL.out hk HB.out 17 _ (ints_get _ (show 17 < 18 by omega))
    have hkl : k < l.length := by have := HL.out; omega
    have HT := Lib.hid (fun was hw => turnL_in (nx := fun was => clrW was players) hkl (was := was) hw)
    generalize hwas : l[k] 17 = was at *
    have HW := Lib.hid hwas
    have hcell2 : (w.alloc (.cells cs 36)).cell? ⟨(ad.add (k * 18)).block, (ad.add (k * 18)).off + 17, none⟩ = some (.int .i64 was) := hcell
    have d1 : decide (n ≤ k) = false := by simp; omega
    have d2 : decide ((k : Int) < 0) = false := by simp
    have hcb : (w.alloc (.cells cs 36)).cell? ⟨b, 0, none⟩ = some (.int .i64 players) := by rw [HB.out.cell (p := ⟨b, 0, none⟩) hb]; exact hc
    clear hwas hcell
    by_cases he : clrW was players = was
    · have hL : turnL (fun was => clrW was players) l k = [] := by rw [HT.out was rfl, if_pos he]
      have HLL := Lib.hid hL
      have e1 : (clrW was players == was) = true := by simpa using he
      clear he hL
      go_enter Try.func28, Try.ntmps28
      go_wp2_with (first
        | (refine wpList_box_agg rfl _ _ rfl cs rfl ?_)
        | (go_at_call 30; refine (HN.out was _ hcb).mono ?_; rintro e w1 ⟨rfl, rfl⟩))
      go_ret
      exact ⟨_, rfl, by rw [HLL.out]; exact rd_none _ _, HB.out⟩
    · have hL : turnL (fun was => clrW was players) l k = [evO k was (clrW was players)] := by rw [HT.out was rfl, if_neg he]
      have HLL := Lib.hid hL
      have e1 : (clrW was players == was) = false := by simpa using he
      clear he hL
      go_enter Try.func28, Try.ntmps28
      go_wp2_with (first
        | (refine wpList_box_agg rfl _ _ rfl cs rfl ?_)
        | (go_at_call 30; refine (HN.out was _ hcb).mono ?_; rintro e w1 ⟨rfl, rfl⟩))
      go_ret
      have hr1 := rd_one (w.alloc (.cells cs 36)) 25 (evO k was (clrW was players)) _ (evO_eq _ _ _)
      rw [World.size_alloc] at hr1
      refine ⟨_, rfl, by rw [HLL.out]; exact hr1, HB.out.alloc HB.out.size _⟩
  · have HLL := Lib.hid (turnL_out (nx := fun was => clrW was players) (l := l) (id := id) (by rw [HL.out]; exact hin))
    have hc2 : id < 0 ∨ (¬ id < 0 ∧ (n : Int) ≤ id) := by omega
    clear hin
    rcases hc2 with h | ⟨h, h2⟩
    all_goals (
      go_enter Try.func28, Try.ntmps28
      go_wp2_with (refine wpList_box_agg rfl _ _ rfl cs rfl ?_)
      go_ret
      exact ⟨_, rfl, by rw [HLL.out]; exact rd_none _ _, HB.out⟩)

theorem st_isz {cs : Array Value} (h : cs.size = 37) : (Try.prog.info? 36).map (·.size) = some cs.size := by rw [h]; kernel_rfl
set_option maxHeartbeats 1000000 in
theorem Show_c (cs : Array Value) (A : Option Addr) (n c : Nat) (l : List (Nat → Int)) (id players : Int) (w : World) (h0 : cs[0]? = some (.slice A n c)) (hsz : cs.size = 37) (ha : At w A n (rowsC 18 l)) (hl : l.length = n) (hn : (n : Int) ≤ 9223372036854775807)
    (i1 : -9223372036854775808 ≤ id) (i2 : id ≤ 9223372036854775807) :
    Calls Try.prog 19 #[.agg cs, .int .i64 id, .int .i64 players] w (RetRows w 6 (turnL (fun was => orW was players) l id)) := by
  have HR := Lib.hid ((Row.new w cs 36).alloc (.cells #[.int .i64 players] 3))
  have HB := Lib.hid (((Below.refl w.heap.size w).alloc (Nat.le_refl _) (.cells cs 36)).alloc (by simp) (.cells #[.int .i64 players] 3))
  have HA := Lib.hid (ha.mono (w' := (w.alloc (.cells cs 36)).alloc (.cells #[.int .i64 players] 3)) HB.out.size (fun p hp => HB.out.cell hp))
  have HS := Lib.hid hsz
  have HC : Hid (((w.alloc (.cells cs 36)).alloc (.cells #[.int .i64 players] 3)).cell? ⟨w.heap.size + 1, 0, none⟩ = some (.int .i64 players)) := Lib.hid (by
    have h := (Row.new (w.alloc (.cells cs 36)) #[.int .i64 players] 3).cell (i := 0) (v := .int .i64 players) rfl
    simpa only [World.size_alloc] using h)
  clear ha hsz
  go_enter Try.func19, Try.ntmps19
  go_wp2_with (first
    | (refine wpList_box_agg rfl _ _ rfl cs rfl ?_)
    | (refine wpList_load_Row HR.out rfl _ _ rfl rfl _ Try.underlying36 rfl (st_isz HS.out) ?_)
    | (go_at_call 28; refine (turnS_c cs A n c (w.heap.size + 1) l id players _ h0 HS.out HA.out hl hn i1 i2 (by simp) HC.out).mono ?_; rintro e w1 ⟨v1, rfl, hv1, hb1⟩))
  go_ret
  exact ⟨v1, rfl, hv1, HB.out.trans (hb1.mono (by simp; omega))⟩
set_option maxHeartbeats 1000000 in
theorem Hide_c (cs : Array Value) (A : Option Addr) (n c : Nat) (l : List (Nat → Int)) (id players : Int) (w : World) (h0 : cs[0]? = some (.slice A n c)) (hsz : cs.size = 37) (ha : At w A n (rowsC 18 l)) (hl : l.length = n) (hn : (n : Int) ≤ 9223372036854775807)
    (i1 : -9223372036854775808 ≤ id) (i2 : id ≤ 9223372036854775807) :
    Calls Try.prog 21 #[.agg cs, .int .i64 id, .int .i64 players] w (RetRows w 6 (turnL (fun was => clrW was players) l id)) := by
  have HR := Lib.hid ((Row.new w cs 36).alloc (.cells #[.int .i64 players] 3))
  have HB := Lib.hid (((Below.refl w.heap.size w).alloc (Nat.le_refl _) (.cells cs 36)).alloc (by simp) (.cells #[.int .i64 players] 3))
  have HA := Lib.hid (ha.mono (w' := (w.alloc (.cells cs 36)).alloc (.cells #[.int .i64 players] 3)) HB.out.size (fun p hp => HB.out.cell hp))
  have HS := Lib.hid hsz
  have HC : Hid (((w.alloc (.cells cs 36)).alloc (.cells #[.int .i64 players] 3)).cell? ⟨w.heap.size + 1, 0, none⟩ = some (.int .i64 players)) := Lib.hid (by
    have h := (Row.new (w.alloc (.cells cs 36)) #[.int .i64 players] 3).cell (i := 0) (v := .int .i64 players) rfl
    simpa only [World.size_alloc] using h)
  clear ha hsz
  go_enter Try.func21, Try.ntmps21
  go_wp2_with (first
    | (refine wpList_box_agg rfl _ _ rfl cs rfl ?_)
    | (refine wpList_load_Row HR.out rfl _ _ rfl rfl _ Try.underlying36 rfl (st_isz HS.out) ?_)
    | (go_at_call 28; refine (turnH_c cs A n c (w.heap.size + 1) l id players _ h0 HS.out HA.out hl hn i1 i2 (by simp) HC.out).mono ?_; rintro e w1 ⟨v1, rfl, hv1, hb1⟩))
  go_ret
  exact ⟨v1, rfl, hv1, HB.out.trans (hb1.mono (by simp; omega))⟩
end Go.Proofs.Ytlgfnimahmmgeaa
