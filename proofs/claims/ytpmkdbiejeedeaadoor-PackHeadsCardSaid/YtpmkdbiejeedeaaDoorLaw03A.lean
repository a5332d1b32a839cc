/-
  The laws on packing: for any numbers, any object, any head and rest they answer true, in a world in which the two tables lie.
-/
import Derived.Test.YtpmkdbiejeedeaaDoorPackE
namespace Go.Proofs.YtpmkdbiejeedeaaDoor
open Go.RowKit
set_option linter.unusedVariables false

theorem two_ok : mth.okH (fun i => if i = 13 then 2 else 0) 9 := by decide
theorem two_hd : mth.hdN (fun i => if i = 13 then 2 else 0) 9 = 1024 := by decide
def two18 : Array Value := #[.int .i64 0, .int .i64 0, .int .i64 0, .int .i64 0, .int .i64 0, .int .i64 0, .int .i64 0, .int .i64 0, .int .i64 0, .int .i64 0, .int .i64 0, .int .i64 0, .int .i64 0, .int .i64 2, .int .i64 0, .int .i64 0, .int .i64 0, .int .i64 0]
theorem two_eq : zeros18.setIfInBounds 13 (.int .i64 2) = ints 18 (fun i => if i = 13 then 2 else 0) := by rfl
theorem two_bd : Ok18 (fun i => if i = 13 then 2 else 0) 18 := fun i _ => by dsimp only; split <;> omega
theorem two_head : headX (fun i => if i = 13 then 2 else 0) = 1024 ∧ headE (fun i => if i = 13 then 2 else 0) = 0 := by
  rw [(head_ok two_ok).1, (head_ok two_ok).2, two_hd]; exact ⟨rfl, rfl⟩

set_option maxRecDepth 100000 in
set_option maxHeartbeats 1000000 in
theorem alive_c (w : World) (ht : Tabs w) : Calls Tryd.prog 7 #[] w (Ret w (.bool true)) := by
  have HT := Lib.hid ht
  clear ht
  have HTH := Lib.hid two_head
  have HR := Lib.hid (Row.new w zeros18 31)
  have HR2 : Hid (Row (w.alloc (.cells (zeros18.setIfInBounds 13 (.int .i64 2)) 31)) w.heap.size (ints 18 (fun i => if i = 13 then 2 else 0)) 31) := Lib.hid (by rw [two_eq]; exact Row.new _ _ _)
  have hz13 : zeros18[13]? = some (.int .i64 0) := rfl
  go_enter Tryd.func7, Tryd.ntmps7
  go_wp2_with (first
    | (refine wpList_alloc_agg rfl _ rfl _ obj_zeroV ?_; rw [← zeros_eq])
    | (refine wpList_store_Row HR.out rfl rfl _ _ _ rfl rfl ?c1 zeros_isz rfl (by rw [zeros_eq]; exact ints_one _ _) ?_; (case c1 => rfl); rw [World.setRow_alloc_new])
    | (refine wpList_load_Row HR2.out rfl _ _ rfl rfl _ Tryd.underlying31 rfl (obj_isz _) ?_)
    | (go_at_call 11; refine (Head_c _ _ (HT.out.below ((Below.refl _ _).alloc (Nat.le_refl _) _)) two_bd).mono ?_; rintro e w1 ⟨rfl, hb1⟩; rw [HTH.out.1, HTH.out.2, errV_zero])
    | (go_at_call 9; refine (Pair_c _ _ _ (by omega) (by omega) (by omega) (by omega)).mono ?_; rintro e w2 ⟨rfl, rfl⟩))
  go_ret
  exact ⟨rfl, ((Below.refl _ _).alloc (Nat.le_refl _) _).trans (hb1.mono (by simp))⟩

theorem wrap16_bd (x : Int) : -32768 ≤ IntKind.i16.wrap x ∧ IntKind.i16.wrap x ≤ 32767 := by
  simp [IntKind.wrap, IntKind.bits, IntKind.signed]; omega
theorem wrap16 (x : Int) : IntKind.i16.wrap x = (x + 32768) % 65536 - 32768 := by simp [IntKind.wrap, IntKind.bits, IntKind.signed]; omega
theorem clamp_bd (n : Int) : -32768 ≤ clamp n ∧ clamp n ≤ 32767 := by unfold clamp; omega

theorem Short_k (n v : Int) (w : World) (h1 : -9223372036854775808 ≤ n) (h2 : n ≤ 9223372036854775807) (h : clamp n = v) : Calls Tryd.prog 8 #[.int .i64 n] w fun e w' => e = .returned (.int .i16 v) ∧ w = w' := by
  subst h; exact Short_c n w h1 h2
theorem clamp3 (n : Int) : ∃ v, clamp n = v ∧ -32768 ≤ v ∧ v ≤ 32767 ∧ ((n < -32768 ∧ n ≤ 32767 ∧ v = -32768) ∨ (-32768 ≤ n ∧ n ≤ 32767 ∧ v = n) ∨ (32767 < n ∧ v = 32767)) := by
  refine ⟨clamp n, rfl, ?_⟩
  unfold clamp; omega
theorem Halves_k (x u v : Int) (w : World) (h1 : 0 ≤ x) (h2 : x ≤ 4294967295) (hu : IntKind.i16.wrap (x / 65536) = u) (hv : IntKind.i16.wrap x = v) :
    Calls Tryd.prog 10 #[.int .u32 x] w fun e w' => e = .returned (.tuple #[.int .i16 u, .int .i16 v]) ∧ w = w' := by
  subst hu hv; exact Halves_c x w h1 h2
theorem Pair_k (a b p : Int) (w : World) (h1 : -32768 ≤ a) (h2 : a ≤ 32767) (h3 : -32768 ≤ b) (h4 : b ≤ 32767) (h : a % 65536 * 65536 + b % 65536 = p) :
    Calls Tryd.prog 9 #[.int .i16 a, .int .i16 b] w fun e w' => e = .returned (.int .u32 p) ∧ w = w' := by
  subst h; exact Pair_c a b w h1 h2 h3 h4

set_option maxRecDepth 100000 in
set_option maxHeartbeats 1000000 in
theorem PackShorts_c (a b x : Int) (w : World) (ht : Tabs w) (a1 : -9223372036854775808 ≤ a) (a2 : a ≤ 9223372036854775807) (b1 : -9223372036854775808 ≤ b) (b2 : b ≤ 9223372036854775807) (x1 : 0 ≤ x) (x2 : x ≤ 4294967295) :
    Calls Tryd.prog 3 #[.int .i64 a, .int .i64 b, .int .u32 x] w (Ret w (.bool true)) := by
  have HT := Lib.hid ht
  clear ht
  obtain ⟨s, hs, s1, s2, hs3⟩ := clamp3 a
  obtain ⟨t, ht, t1, t2, ht3⟩ := clamp3 b
  obtain ⟨p, hp, p1, p2⟩ : ∃ p, s % 65536 * 65536 + t % 65536 = p ∧ 0 ≤ p ∧ p ≤ 4294967295 := ⟨_, rfl, by omega, by omega⟩
  obtain ⟨u, hu⟩ : ∃ u, IntKind.i16.wrap (x / 65536) = u := ⟨_, rfl⟩
  obtain ⟨v, hv⟩ : ∃ v, IntKind.i16.wrap x = v := ⟨_, rfl⟩
  have hub := wrap16_bd (x / 65536)
  have hvb := wrap16_bd x
  have hps : IntKind.i16.wrap (p / 65536) = s := by rw [wrap16]; omega
  have hpt : IntKind.i16.wrap p = t := by rw [wrap16]; omega
  have hux : u % 65536 * 65536 + v % 65536 = x := by rw [← hu, ← hv, wrap16, wrap16]; omega
  have hpf : p = (s + 65536) % 65536 * 65536 + (t + 65536) % 65536 := by omega
  rw [hu] at hub
  rw [hv] at hvb
  obtain ⟨u1, u2⟩ := hub
  obtain ⟨v1, v2⟩ := hvb
  have HS := Lib.hid hs
  have HTT := Lib.hid ht
  have HPP := Lib.hid hp
  have HU := Lib.hid hu
  have HV := Lib.hid hv
  have HPS := Lib.hid hps
  have HPT := Lib.hid hpt
  have HUX := Lib.hid hux
  have HPF := Lib.hid hpf
  clear hs ht hp hu hv hps hpt hux hpf
  rcases hs3 with ⟨g1, g2, rfl⟩ | ⟨g1, g2, rfl⟩ | ⟨g1, rfl⟩ <;> rcases ht3 with ⟨k1, k2, rfl⟩ | ⟨k1, k2, rfl⟩ | ⟨k1, rfl⟩
  all_goals (
    go_enter Tryd.func3, Tryd.ntmps3
    go_wp2_with (first
      | (go_at_call 7; refine (alive_c _ HT.out).mono ?_; rintro e w1 ⟨rfl, hb1⟩; have HB1 := Lib.hid hb1; clear hb1)
      | (go_at_call 8; first | ((with_reducible refine (Short_k _ _ _ (by omega) (by omega) HS.out).mono ?_); rintro e w2 ⟨rfl, rfl⟩) | ((with_reducible refine (Short_k _ _ _ (by omega) (by omega) HTT.out).mono ?_); rintro e w2 ⟨rfl, rfl⟩) | ((with_reducible refine (Short_k _ _ _ (by omega) (by omega) HS.out).mono ?_); rintro e w2 ⟨rfl, rfl⟩))
      | (go_at_call 9; first | ((with_reducible refine (Pair_k u v x _ u1 u2 v1 v2 HUX.out).mono ?_); rintro e w2 ⟨rfl, rfl⟩) | ((with_reducible refine (Pair_k _ _ p _ (by omega) (by omega) (by omega) (by omega) HPP.out).mono ?_); rintro e w2 ⟨rfl, rfl⟩))
      | (go_at_call 10; first | ((with_reducible refine (Halves_k p _ _ _ p1 p2 HPS.out HPT.out).mono ?_); rintro e w2 ⟨rfl, rfl⟩) | ((with_reducible refine (Halves_k x u v _ x1 x2 HU.out HV.out).mono ?_); rintro e w2 ⟨rfl, rfl⟩)))
    all_goals (first
      | (exfalso; have := HPF.out; omega)
      | (go_ret; first | exact ⟨rfl, HB1.out⟩ | (refine ⟨ret_bool ?_, HB1.out⟩; have := HPF.out; simp; omega))))
end Go.Proofs.YtpmkdbiejeedeaaDoor
