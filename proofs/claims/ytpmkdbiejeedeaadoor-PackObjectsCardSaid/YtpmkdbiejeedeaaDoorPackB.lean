/-
  Contracts: an object's head and rest.
-/
import Derived.Test.YtpmkdbiejeedeaaDoorPackA
namespace Go.Proofs.YtpmkdbiejeedeaaDoor
open Go.RowKit
set_option linter.unusedVariables false

/-- the table of parts as it is laid -/
def partsV : Array Value := #[.int .i64 1, .int .i64 1, .int .i64 2, .int .i64 1, .int .i64 3, .int .i64 4, .int .i64 4, .int .i64 1, .int .i64 5, .int .i64 1, .int .i64 11, .int .i64 1, .int .i64 13, .int .i64 2, .int .i64 17, .int .i64 2, .int .i64 10, .int .i64 8]
def othersV : Array Value := #[.int .i64 0, .int .i64 6, .int .i64 7, .int .i64 8, .int .i64 9, .int .i64 12, .int .i64 14, .int .i64 15, .int .i64 16]
/-- both tables lie -/
structure Tabs (w : World) : Prop where
  parts : ∀ j v, partsV[j]? = some v → w.cell? ((⟨0, 0, none⟩ : Addr).add j) = some v
  lt : 0 < w.heap.size
structure Tabs2 (w : World) : Prop where
  others : ∀ j v, othersV[j]? = some v → w.cell? ((⟨1, 0, none⟩ : Addr).add j) = some v
  lt : 1 < w.heap.size
theorem Tabs.below {w w' : World} (h : Tabs w) (hb : Below w.heap.size w w') : Tabs w' :=
  ⟨fun j v hj => (hb.cell (by rw [block_add]; exact h.lt)).trans (h.parts j v hj), Nat.lt_of_lt_of_le h.lt hb.size⟩
theorem Tabs2.below {w w' : World} (h : Tabs2 w) (hb : Below w.heap.size w w') : Tabs2 w' :=
  ⟨fun j v hj => (hb.cell (by rw [block_add]; exact h.lt)).trans (h.others j v hj), Nat.lt_of_lt_of_le h.lt hb.size⟩

theorem parts_size : (Tryd.prog.info? 53).map (·.size) = some partsV.size := by kernel_rfl
theorem others_size : (Tryd.prog.info? 39).map (·.size) = some othersV.size := by kernel_rfl
theorem part_zero : (Tryd.prog.info? 52).map (fun i => i.zero) = some (some (.agg #[.int .i64 0, .int .i64 0])) := by kernel_rfl
theorem part_size : (Tryd.prog.info? 52).map (·.size) = some 2 := by kernel_rfl
theorem int_size1 : (Tryd.prog.info? 3).map (·.size) = some 1 := by kernel_rfl
theorem obj_size : (Tryd.prog.info? 31).map (·.size) = some 18 := by kernel_rfl
theorem nine_size : (Tryd.prog.info? 39).map (·.size) = some 9 := by kernel_rfl
theorem parts_at {k : Nat} (h : k < 9) (W : World) : (Instr.index 53 (.agg partsV) (.int .i64 (k : Int))).run Tryd.prog W = .ok (.agg #[.int .i64 (mth.fl k : Nat), .int .i64 (mth.wi k : Nat)]) W := by
  rcases mth.lt9 h with rfl | rfl | rfl | rfl | rfl | rfl | rfl | rfl | rfl <;> kernel_rfl
theorem others_at {k : Nat} (h : k < 9) (W : World) : (Instr.index 39 (.agg othersV) (.int .i64 (k : Int))).run Tryd.prog W = .ok (.int .i64 (mth.ot k : Nat)) W := by
  rcases mth.lt9 h with rfl | rfl | rfl | rfl | rfl | rfl | rfl | rfl | rfl <;> kernel_rfl

/-- an object, and nine numbers -/
def ints (n : Nat) (f : Nat → Int) : Array Value := rowOf n fun i => .int .i64 (f i)
theorem ints_one (n : Nat) (f : Nat → Int) : (ints n f).all (·.oneCell') = true := rowOf_oneCell fun _ _ => rfl
theorem ints_get {n : Nat} (f : Nat → Int) {i : Nat} (h : i < n) : (ints n f)[i]? = some (.int .i64 (f i)) := rowOf_get _ h
theorem ints_size (n : Nat) (f : Nat → Int) : (ints n f).size = n := size_rowOf _ _
theorem ints_set (n : Nat) (f : Nat → Int) (i : Nat) (x : Int) : (ints n f).setIfInBounds i (.int .i64 x) = ints n (fun j => if j = i then x else f j) := by
  unfold ints; rw [rowOf_set]; congr 1; funext j; by_cases h : j = i <;> simp [h]
theorem ints_congr {n : Nat} {f g : Nat → Int} (h : ∀ i, i < n → f i = g i) : ints n f = ints n g := rowOf_congr fun i hi => by rw [h i hi]

/-- what Head hands back -/
def headX (f : Nat → Int) : Int := if mth.okH f 9 then (mth.hdN f 9 : Nat) else 0
def headE (f : Nat → Int) : Int := if mth.okH f 9 then 0 else 1
theorem head_ok {f : Nat → Int} (h : mth.okH f 9) : headX f = (mth.hdN f 9 : Nat) ∧ headE f = 0 := by unfold headX headE; rw [if_pos h, if_pos h]; exact ⟨rfl, rfl⟩
theorem head_bad {f : Nat → Int} {k : Nat} (hk : k < 9) (h : ¬ (0 ≤ f (mth.fl k) ∧ f (mth.fl k) < ((2 ^ mth.wi k : Nat) : Int))) : headX f = 0 ∧ headE f = 1 := by
  have h' : ¬ mth.okH f 9 := fun h2 => h (h2 k hk)
  unfold headX headE; rw [if_neg h', if_neg h']; exact ⟨rfl, rfl⟩

theorem shr_zero {n : Int} {q : Nat} (h0 : 0 ≤ n) : (n / 2 ^ q != 0) = !decide (n < ((2 ^ q : Nat) : Int)) := by
  obtain ⟨N, rfl⟩ := Int.eq_ofNat_of_zero_le h0
  have e : (N : Int) / 2 ^ q = ((N / 2 ^ q : Nat) : Int) := by simp
  rw [e]
  by_cases h : N < 2 ^ q
  · rw [Nat.div_eq_of_lt h]
    have : ((N : Nat) : Int) < ((2 ^ q : Nat) : Int) := by omega
    simp only [this, decide_true]; rfl
  · have h1 : 0 < N / 2 ^ q := Nat.div_pos (by omega) (Nat.two_pow_pos _)
    have : ¬ ((N : Nat) : Int) < ((2 ^ q : Nat) : Int) := by omega
    simp only [this, decide_false, Bool.not_false, bne_iff_ne]; omega
theorem Put_ok (X m wd : Nat) (n : Int) (hx : X < 2 ^ m) (h0 : 0 ≤ n) (hp : n < ((2 ^ wd : Nat) : Int)) (hw : 1 ≤ wd) (hm : m + wd ≤ 21) (w : World) :
    Calls Tryd.prog 18 #[.int .u64 (X : Nat), .int .i64 m, .int .i64 wd, .int .u64 n] w fun e w' => e = .returned (.tuple #[.int .u64 ((X + n.toNat * 2 ^ m : Nat) : Int), .nilIface]) ∧ w = w' := by
  have hx64 : X < 2 ^ 64 := Nat.lt_of_lt_of_le hx (mth.pow_le _ _ (by omega))
  have hw64 : 2 ^ wd ≤ 2 ^ 21 := mth.pow_le _ _ (by omega)
  refine (Put_c X m wd n (by omega) (by omega) h0 (by omega) w).mono ?_
  rintro e w' ⟨rfl, rfl⟩
  refine ⟨?_, rfl⟩
  have hP : mth.isP m wd := ⟨by omega, by omega, by omega, by omega⟩
  have h3 : n.toNat < 2 ^ wd := by omega
  unfold putV putE
  simp only [Int.toNat_natCast]
  rw [if_pos ⟨hP, h3⟩, if_pos hP, if_pos h3, mth.put_small hx h3 (by omega)]
  rfl
def Ok18 (f : Nat → Int) (n : Nat) : Prop := ∀ i, i < n → -9223372036854775808 ≤ f i ∧ f i ≤ 9223372036854775807
theorem atK_zero : mth.atK 0 = 0 := rfl

set_option maxRecDepth 100000 in
set_option maxHeartbeats 2000000 in
theorem Head_c (f : Nat → Int) (w : World) (ht : Tabs w) (hf : Ok18 f 18) :
    Calls Tryd.prog 11 #[.agg (ints 18 f)] w (Ret w (.tuple #[.int .u32 (headX f), errV (headE f)])) := by
  have HT := Lib.hid ht
  have HF := Lib.hid hf
  clear ht hf
  go_enter Tryd.func11, Tryd.ntmps11
  go_wp2_with (first
    | (refine wpList_box_agg rfl _ _ rfl (ints 18 f) rfl ?_)
    | (refine wpList_load_cells rfl _ _ rfl ⟨0, 0, none⟩ rfl partsV _ Tryd.underlying53 rfl parts_size (HT.out.below ((Below.refl _ _).alloc (Nat.le_refl _) _)).parts ?_))
  go_loopw [12, 4, 5] (fun iv xv av wr => ∃ k : Nat, k ≤ 9 ∧ iv = .int .i64 k ∧ xv = .int .u64 (mth.hdN f k : Nat) ∧ av = .int .i64 (mth.atK k : Nat) ∧ mth.okH f k ∧ Row wr w.heap.size (ints 18 f) 31 ∧ Below w.heap.size w wr) (fun iv _ _ _ => 9 - (intOf iv).toNat)
  case atStart => exact ⟨0, by omega, rfl, rfl, rfl, mth.okH_zero f, Row.new _ _ _, (Below.refl _ _).alloc (Nat.le_refl _) _⟩
  case round =>
    obtain ⟨k, hk, rfl, rfl, rfl, hok, hrow, hbr⟩ := hrel
    have HOK := Lib.hid hok
    have HR := Lib.hid hrow
    have HB := Lib.hid hbr
    clear hok hrow hbr
    have hk' : (k : Int) ≤ 9 := by omega
    clear hk
    by_cases hlt : (k : Int) < 9
    · have hpa := parts_at (k := k) (by omega)
      obtain ⟨t1, t2, t3, t4, t5, t6, _⟩ := mth.tab (k := k) (by omega)
      have hbd := HF.out (mth.fl k) t1
      have HH := Lib.hid (fun h1 h2 => mth.okH_succ HOK.out h1 h2)
      have HBAD := Lib.hid (fun h => head_bad (f := f) (k := k) (by omega) h)
      generalize hp : mth.fl k = p at *
      have HP := Lib.hid hp
      clear hp
      generalize mth.wi k = q at *
      have hcell := HR.out.cell (ints_get f t1)
      generalize hn : f p = n at *
      have HNP := Lib.hid hn
      clear hn
      have hps := HR.out.lt
      have HNX : Hid (mth.hdN f k + n.toNat * 2 ^ mth.atK k = mth.hdN f (k + 1)) := Lib.hid (by rw [mth.hdN, HP.out, HNP.out])
      have hc : n < 0 ∨ (0 ≤ n ∧ ¬ n < ((2 ^ q : Nat) : Int)) ∨ (0 ≤ n ∧ n < ((2 ^ q : Nat) : Int)) := by omega
      rcases hc with h1 | ⟨h1, h2⟩ | ⟨h1, h2⟩
      · have HE := Lib.hid (HBAD.out (by omega))
        go_wp2_with (first
          | (refine wpList_alloc_agg rfl _ rfl _ part_zero ?_)
          | (refine wpList_store_Row (Row.new _ _ _) rfl rfl _ _ _ rfl rfl rfl part_size rfl rfl ?_; rw [World.setRow_alloc_new]))
        go_ret2
        exact ⟨by rw [HE.out.1, HE.out.2]; rfl, HB.out.alloc (by omega) _⟩
      · have HE := Lib.hid (HBAD.out (by omega))
        have e1 : (n / 2 ^ q != 0) = true := by rw [shr_zero h1, decide_eq_false h2]; rfl
        clear h2
        go_wp2_with (first
          | (refine wpList_alloc_agg rfl _ rfl _ part_zero ?_)
          | (refine wpList_store_Row (Row.new _ _ _) rfl rfl _ _ _ rfl rfl rfl part_size rfl rfl ?_; rw [World.setRow_alloc_new]))
        go_ret2
        exact ⟨by rw [HE.out.1, HE.out.2]; rfl, HB.out.alloc (by omega) _⟩
      · have e1 : (n / 2 ^ q != 0) = false := by rw [shr_zero h1, decide_eq_true h2]; rfl
        have H2 := Lib.hid h2
        have HLT := Lib.hid (mth.hdN_lt (f := f) (k := k) (by omega) HOK.out)
        clear h2
        go_wp2_with (first
          | (refine wpList_alloc_agg rfl _ rfl _ part_zero ?_)
          | (refine wpList_store_Row (Row.new _ _ _) rfl rfl _ _ _ rfl rfl rfl part_size rfl rfl ?_; rw [World.setRow_alloc_new])
          | (go_at_call 18; refine (Put_ok (mth.hdN f k) (mth.atK k) q n HLT.out h1 H2.out (by omega) (by omega) _).mono ?_; rintro e w' ⟨rfl, rfl⟩; rw [HNX.out]))
        refine wp_region_later (by kernel_rfl) (by kernel_rfl) ?_
        repeat (go_big_quiet_step (fail))
        refine wpQuiet_nil ?_
        intro w2 hb2
        go_wp2_with fail
        go_roundw
        case rel =>
          exact ⟨k + 1, by omega, by go_num, rfl, by rw [← t4]; go_num, HH.out h1 H2.out, (HR.out.alloc _).below hb2, (HB.out.alloc (by omega) _).trans (hb2.mono (by simp; omega))⟩
        case measure => simp [intOf]; omega
    · obtain rfl : k = 9 := by omega
      have HE := Lib.hid (head_ok HOK.out)
      have hlt := mth.hdN_lt (f := f) (k := 9) (by omega) HOK.out
      have hlt' : ((mth.hdN f 9 : Nat) : Int) < 2097152 := by have : mth.atK 9 = 21 := rfl; rw [this] at hlt; omega
      clear hlt
      go_wp2_with fail
      go_ret2
      exact ⟨by rw [HE.out.1, HE.out.2]; rfl, HB.out⟩
end Go.Proofs.YtpmkdbiejeedeaaDoor
