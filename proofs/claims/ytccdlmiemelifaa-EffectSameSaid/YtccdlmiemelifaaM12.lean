import Derived.Test.YtccdlmiemelifaaM11
import Derived.Test.YtccdlmiemelifaaM7
import Derived.Test.YtccdlmiemelifaaM10
import Derived.Deep.RegionWith

set_option linter.unusedVariables false
set_option linter.unusedSimpArgs false

section
namespace Go.Proofs.Ytccdlmiemelifaa
open Go.RowKit
set_option linter.unusedVariables false
set_option linter.unusedSimpArgs false

def nilE : Eff := .mk 0 0 0 0 []
def nx (b : List Nat) (k : Int → Nat → Eff × Nat × Int) : Eff × Nat × Int := if (mth.tk 0 0 b).2.2 = 0 then k (mth.tk 0 0 b).1 (mth.tk 0 0 b).2.1 else (nilE, 0, (mth.tk 0 0 b).2.2)
def tkEs (g : List Nat → Eff × Nat × Int) : Nat → List Nat → List Eff × Nat × Int
  | 0, _ => ([], 0, 0)
  | m + 1, b => if (g b).2.2 = 0 then (if (tkEs g m (b.drop (g b).2.1)).2.2 = 0 then ((g b).1 :: (tkEs g m (b.drop (g b).2.1)).1, (g b).2.1 + (tkEs g m (b.drop (g b).2.1)).2.1, 0) else ([], 0, (tkEs g m (b.drop (g b).2.1)).2.2)) else ([], 0, (g b).2.2)
/-- an effect, how many bytes it has, an error's number; f: how much deeper it may go -/
def tkE : Nat → List Nat → Eff × Nat × Int
  | 0, _ => (nilE, 0, 3)
  | f + 1, b => nx b fun o k1 => nx (b.drop k1) fun n k2 => nx (b.drop (k1 + k2)) fun m k3 => nx (b.drop (k1 + k2 + k3)) fun w k4 => nx (b.drop (k1 + k2 + k3 + k4)) fun c k5 =>
      if c < 0 then (nilE, 0, 1) else if 8 < c then (nilE, 0, 19) else
        (if (tkEs (tkE f) c.toNat (b.drop (k1 + k2 + k3 + k4 + k5))).2.2 = 0 then (.mk o n m w (tkEs (tkE f) c.toNat (b.drop (k1 + k2 + k3 + k4 + k5))).1, k1 + k2 + k3 + k4 + k5 + (tkEs (tkE f) c.toNat (b.drop (k1 + k2 + k3 + k4 + k5))).2.1, 0)
          else (nilE, 0, (tkEs (tkE f) c.toNat (b.drop (k1 + k2 + k3 + k4 + k5))).2.2))
/-- numbers of effects that are taken one behind the other, in the program's way: what is there already, and what is left -/
def goE (g : List Nat → Eff × Nat × Int) : Nat → List Eff → List Nat → Option (List Eff × List Nat) × Int
  | 0, acc, b => (some (acc, b), 0)
  | m + 1, acc, b => if (g b).2.2 = 0 then goE g m (acc ++ [(g b).1]) (b.drop (g b).2.1) else (none, (g b).2.2)
theorem goE_tk (g : List Nat → Eff × Nat × Int) : ∀ (m : Nat) (acc : List Eff) (b : List Nat), goE g m acc b = if (tkEs g m b).2.2 = 0 then (some (acc ++ (tkEs g m b).1, b.drop (tkEs g m b).2.1), 0) else (none, (tkEs g m b).2.2)
  | 0, acc, b => by simp [goE, tkEs]
  | m + 1, acc, b => by
    by_cases h : (g b).2.2 = 0
    · simp only [goE, tkEs, if_pos h]
      rw [goE_tk g m]
      by_cases h2 : (tkEs g m (b.drop (g b).2.1)).2.2 = 0
      · simp [h2, List.drop_drop, Nat.add_comm]
      · simp [h2]
    · simp only [goE, tkEs, if_neg h]
theorem effOf_nil {v : Value} {sz : Nat} : effOf [.int .i64 0, .int .i64 0, .int .i64 0, .int .i64 0, .list v sz []] = nilE := by rw [effOf_eq]; rfl
theorem drop_bytes {l : List Nat} (h : ∀ c ∈ l, c < 256) (k : Nat) : ∀ c ∈ l.drop k, c < 256 := fun c hc => h c (List.mem_of_mem_drop hc)
def mD (ds : List Dat) : Nat := (9 - argI ds 1).toNat
-- lacks mulligan/effect.take : etake
def etake_s : Spec := fun ds Q => ∃ (l : List Nat) (f : Nat), argL ds 0 = u8R l ∧ (∀ c ∈ l, c < 256) ∧ l.length ≤ 90000000 ∧ f ≤ 8 ∧ argI ds 1 = 9 - (f : Int) ∧ ∀ (r : List Dat) (rest : Dat), r.length = 5 → effOf r = (tkE f l).1 → rest.xs = (if (tkE f l).2.2 = 0 then u8R (l.drop (tkE f l).2.1) else []) → Q (r ++ [rest, errV (tkE f l).2.2])
def eTake_s : Spec := fun ds Q => ∃ l : List Nat, argL ds 0 = u8R l ∧ (∀ c ∈ l, c < 256) ∧ l.length ≤ 90000000 ∧ ∀ (r : List Dat) (rest : Dat), r.length = 5 → effOf r = (tkE 8 l).1 → rest.xs = (if (tkE 8 l).2.2 = 0 then u8R (l.drop (tkE 8 l).2.1) else []) → Q (r ++ [rest, errV (tkE 8 l).2.2])
def rTake6_s : Spec := fun ds Q => ∃ (l : List Nat) (f : Nat), argL ds 0 = u8R l ∧ (∀ c ∈ l, c < 256) ∧ l.length ≤ 90000000 ∧ f ≤ 8 ∧ argI ds 1 = 9 - (f : Int) ∧ ∀ (r : List Dat), r.length = 5 → effOf r = (tkE f l).1 → Q (r ++ [.int .i64 ((tkE f l).2.1 : Nat), .int .i64 (tkE f l).2.2])
theorem tk_le {l : List Nat} (hb : ∀ c ∈ l, c < 256) {v : Int} {k : Nat} {e : Int} (h : mth.tk 0 0 l = (v, k, e)) : k ≤ l.length := by
  by_cases he : e = 0
  · subst he; exact (mth.tk_canon l v k hb h).2.2.1
  · have := (mth.tk_bad l v k e 0 0 h he).2.1; omega
theorem xs_cutN {d : Dat} {l : List Nat} {k : Nat} {z : Int} (hd : Has E0.Δ (.list 5) d) (hx : d.xs = u8R l) (hk : k ≤ l.length) (hz : z = (k : Int)) : (cutD z.toNat d.xs.length d).xs = u8R (l.drop k) := by
  subst hz
  rw [Int.toNat_natCast, xs_cutD hd (by rw [hx, u8R_len]; exact hk) (Nat.le_refl _), List.take_of_length_le (Nat.le_refl _), hx]
  simp [u8R, List.map_drop]
theorem tkEs_le (g : List Nat → Eff × Nat × Int) (hg : ∀ b, (∀ c ∈ b, c < 256) → (g b).2.1 ≤ b.length) : ∀ (m : Nat) (b : List Nat), (∀ c ∈ b, c < 256) → (tkEs g m b).2.1 ≤ b.length
  | 0, b, _ => by simp [tkEs]
  | m + 1, b, hb => by
    have h1 := hg b hb
    have h2 := tkEs_le g hg m (b.drop (g b).2.1) (drop_bytes hb _)
    rw [List.length_drop] at h2
    simp only [tkEs]
    split
    · split
      · simp only; omega
      · simp
    · simp
theorem tkE_le : ∀ (f : Nat) (b : List Nat), (∀ c ∈ b, c < 256) → (tkE f b).2.1 ≤ b.length
  | 0, b, _ => by simp [tkE]
  | f + 1, b, hb => by
    have key : ∀ (k : Nat) (F : Int → Nat → Eff × Nat × Int), k ≤ b.length → (∀ v k', k + k' ≤ b.length → (F v k').2.1 ≤ b.length) → (nx (b.drop k) F).2.1 ≤ b.length := fun k F hk hF => by
      unfold nx
      split
      · refine hF _ _ ?_
        have := tk_le (drop_bytes hb k) (v := (mth.tk 0 0 (b.drop k)).1) (k := (mth.tk 0 0 (b.drop k)).2.1) (e := (mth.tk 0 0 (b.drop k)).2.2) rfl
        rw [List.length_drop] at this
        omega
      · simp
    rw [tkE]
    refine key 0 _ (Nat.zero_le _) fun o k1 h1 => ?_
    rw [Nat.zero_add] at h1
    refine key k1 _ h1 fun n k2 h2 => key (k1 + k2) _ h2 fun m k3 h3 => key (k1 + k2 + k3) _ h3 fun w k4 h4 => key (k1 + k2 + k3 + k4) _ h4 fun c k5 h5 => ?_
    split
    · simp
    · split
      · simp
      · split
        · have := tkEs_le (tkE f) (fun b hb => tkE_le f b hb) c.toNat (b.drop (k1 + k2 + k3 + k4 + k5)) (drop_bytes hb _)
          rw [List.length_drop] at this
          simp only; omega
        · simp
end Go.Proofs.Ytccdlmiemelifaa
end

section
namespace Go.Proofs.Ytccdlmiemelifaa
open Go.RowKit
set_option linter.unusedVariables false
set_option linter.unusedSimpArgs false

theorem byte_has {d : Dat} (h : Has E0.Δ (.list 5) d) (hi : InD d) : ∃ l : List Nat, d.xs = u8R l ∧ (∀ c ∈ l, c < 256) ∧ l.length ≤ maxLen := by
  cases h with
  | list _ A n c xs hl hh =>
    cases hi with
    | list v sz _ hm hr =>
      have key : ∀ xs : List (List Dat), (∀ r ∈ xs, r.length = (E0.Δ.row 5).length) → (∀ row ∈ xs, ∀ (c : Nat) (s : Srt) (d : Dat), (E0.Δ.row 5)[c]? = some s → row[c]? = some d → Has E0.Δ s d) → (∀ r ∈ xs, ∀ d ∈ r, InD d) → ∃ l : List Nat, xs = u8R l ∧ ∀ c ∈ l, c < 256 := by
        intro xs
        induction xs with
        | nil => intro _ _ _; exact ⟨[], rfl, by simp⟩
        | cons x xs ih =>
          intro h1 h2 h3
          obtain ⟨l, e1, e2⟩ := ih (fun r hr => h1 r (List.mem_cons_of_mem _ hr)) (fun r hr => h2 r (List.mem_cons_of_mem _ hr)) (fun r hr => h3 r (List.mem_cons_of_mem _ hr))
          have hx := h2 x List.mem_cons_self
          have hin := h3 x List.mem_cons_self
          have hlx : x.length = 1 := h1 x List.mem_cons_self
          match x, hlx with
          | [d], _ =>
            have hd : Has E0.Δ (.int .u8) d := hx 0 _ d rfl rfl
            have hid := hin d List.mem_cons_self
            cases hd with
            | int k n =>
              cases hid with
              | int _ _ hw =>
                simp only [Lit.wf, Bool.and_eq_true, decide_eq_true_eq] at hw
                have h0 : 0 ≤ n := hw.1
                have h255 : n ≤ 255 := hw.2
                obtain ⟨m, rfl⟩ := Int.eq_ofNat_of_zero_le h0
                refine ⟨m :: l, by rw [e1]; rfl, fun c hc => ?_⟩
                rcases List.mem_cons.1 hc with rfl | hc
                · omega
                · exact e2 c hc
      obtain ⟨l, e1, e2⟩ := key xs hl hh hr
      exact ⟨l, e1, e2, by simpa [e1, u8R_len] using hm⟩
theorem encI_byte {n : Int} (h1 : -9223372036854775808 ≤ n) (h2 : n ≤ 9223372036854775807) : ∀ c ∈ mth.encI n, c < 256 := by
  have h := mth.zig_lt n h1 h2
  exact mth.encF_byte 9 _ (Nat.lt_of_lt_of_le h (by decide))
/-- bytes are the same -/
theorem loop_toList (b : ByteArray) : ∀ (n i : Nat) (r : List UInt8), b.size - i = n → ByteArray.toList.loop b i r = r.reverse ++ b.data.toList.drop i
  | 0, i, r, h => by
    unfold ByteArray.toList.loop
    have hs : b.data.toList.length = b.size := Array.length_toList
    rw [if_neg (by omega), List.drop_of_length_le (by omega), List.append_nil]
  | n + 1, i, r, h => by
    unfold ByteArray.toList.loop
    have hs : b.data.toList.length = b.size := Array.length_toList
    have hi : i < b.data.toList.length := by omega
    rw [if_pos (by omega), loop_toList b n (i + 1) _ (by omega), List.drop_eq_getElem_cons hi]
    have : b.get! i = b.data.toList[i] := by
      have : i < b.data.size := by simpa using hi
      simp only [ByteArray.get!]
      rw [Array.getElem_toList, getElem!_pos b.data i this]
    rw [this]
    simp
theorem toList_data (b : ByteArray) : b.toList = b.data.toList := (loop_toList b _ 0 [] rfl).trans (by simp)
theorem bytesOf_u8R (l : List Nat) : bytesOf (u8R l) = ⟨(l.map UInt8.ofNat).toArray⟩ := by
  have e : ∀ a : Nat, (Dat.int .u8 (a : Int)).toInt.toNat = a := fun a => rfl
  simp [bytesOf, u8R, e]
theorem u8_inj : ∀ {l m : List Nat}, (∀ c ∈ l, c < 256) → (∀ c ∈ m, c < 256) → (l.map UInt8.ofNat = m.map UInt8.ofNat ↔ l = m)
  | [], [], _, _ => by simp
  | [], _ :: _, _, _ => by simp
  | _ :: _, [], _, _ => by simp
  | a :: l, b :: m, h1, h2 => by
    have ih := u8_inj (fun c hc => h1 c (List.mem_cons_of_mem _ hc)) (fun c hc => h2 c (List.mem_cons_of_mem _ hc))
    have ha := h1 a List.mem_cons_self
    have hb := h2 b List.mem_cons_self
    simp only [List.map_cons, List.cons.injEq, ih]
    refine and_congr_left fun _ => ⟨fun h => ?_, fun h => by rw [h]⟩
    have := congrArg UInt8.toNat h
    rw [UInt8.toNat_ofNat', UInt8.toNat_ofNat'] at this
    omega
theorem u8R_inj {l m : List Nat} (h : u8R l = u8R m) : l = m := by
  have h2 := congrArg (List.map fun r : List Dat => (r.headD (.int .u8 0)).toInt.toNat) h
  have e : ∀ l : List Nat, (u8R l).map (fun r : List Dat => (r.headD (.int .u8 0)).toInt.toNat) = l := fun l => by
    unfold u8R
    rw [List.map_map]
    exact (List.map_congr_left fun a _ => rfl).trans (List.map_id l)
  rw [e, e] at h2
  exact h2
theorem strD_toList {l : List Nat} : (strD (.val (.string (bytesOf (u8R l))))).toList = l.map UInt8.ofNat := by
  rw [bytesOf_u8R, strD, toList_data]
def k_sameB : Nat := 12
def sg_sameB : Sig := ⟨[(false, [.list 5]), (false, [.list 5])], [(false, [.bool])], false, false, false, false, false⟩
def tr_sameB : Tree := (.ret [(.seq (.sof (.var 0)) (.sof (.var 1)))])
theorem wk_sameB : walk E0.cx (sgsN []) 0 12 sg_sameB = tr_sameB := by kernel_rfl
theorem bo_sameB : ∃ x, bodyOf E0.P 12 = some x := bo_of (by kernel_rfl)
def sameB_s : Spec := fun ds Q => ∃ l m : List Nat, argL ds 0 = u8R l ∧ argL ds 1 = u8R m ∧ (∀ c ∈ l, c < 256) ∧ (∀ c ∈ m, c < 256) ∧ Q [.bool (decide (l = m))]
theorem sameB_h : Holds E0 k_sameB sg_sameB sameB_s := con_fn wf0 mix0 g0 [] rfl wk_sameB rfl (by
  intro Φ hΦ ds Q hs ⟨l, m, h1, h2, h3, h4, h⟩
  clear hΦ
  simp only [tr_sameB, wp, List.map_cons, List.map_nil, den, argL_fold, h1, h2, strD_toList]
  refine cast (congrArg Q ?_) h
  have e := u8_inj h3 h4
  congr 2
  rw [Bool.eq_iff_iff, decide_eq_true_eq, beq_iff_eq, e])
noncomputable def con_sameB : Con E0 := ⟨k_sameB, sg_sameB, sameB_s, rfl, bo_sameB, sameB_h⟩
end Go.Proofs.Ytccdlmiemelifaa
end

section
namespace Go.Proofs.Ytccdlmiemelifaa
open Go.RowKit
set_option linter.unusedVariables false
set_option linter.unusedSimpArgs false

mutual
theorem Eff.enc_ge : ∀ e : Eff, 5 * e.size ≤ e.enc.length
  | .mk o n m w l => by
    have h := Eff.encs_ge l
    have h1 := (mth.enc_len (mth.zig o)).1
    have h2 := (mth.enc_len (mth.zig n)).1
    have h3 := (mth.enc_len (mth.zig m)).1
    have h4 := (mth.enc_len (mth.zig w)).1
    have h5 := (mth.enc_len (mth.zig (l.length : Int))).1
    simp only [Eff.enc, Eff.size, List.length_append, mth.encI]
    omega
theorem Eff.encs_ge : ∀ l : List Eff, 5 * Eff.sizes l ≤ (Eff.encs l).length
  | [] => by simp [Eff.sizes]
  | e :: l => by
    have h := Eff.encs_ge l
    have h1 := Eff.enc_ge e
    simp only [Eff.encs, Eff.sizes, List.length_append]
    omega
end
/-- what an answer says of the bytes -/
def CanE (b : List Nat) (r : Eff × Nat × Int) : Prop := (r.2.2 = 0 → b = r.1.enc ++ b.drop r.2.1 ∧ r.2.1 = r.1.enc.length ∧ r.1.ok) ∧ (r.2.2 ≠ 0 → r = (nilE, 0, r.2.2))
def CanEs (b : List Nat) (m : Nat) (r : List Eff × Nat × Int) : Prop := r.2.2 = 0 → b = Eff.encs r.1 ++ b.drop r.2.1 ∧ r.2.1 = (Eff.encs r.1).length ∧ Eff.oks r.1 ∧ r.1.length = m
theorem tk_split {b : List Nat} (hb : ∀ c ∈ b, c < 256) {v : Int} {k : Nat} (h : mth.tk 0 0 b = (v, k, 0)) : b = mth.encI v ++ b.drop k ∧ k = (mth.encI v).length ∧ in64 v := by
  obtain ⟨h1, h2, h3, h4, h5⟩ := mth.tk_canon b v k hb h
  refine ⟨?_, ?_, h4, h5⟩
  · rw [← h1]; exact (List.take_append_drop k b).symm
  · rw [← h1, List.length_take]; omega
theorem tkEs_can (g : List Nat → Eff × Nat × Int) (hg : ∀ b, (∀ c ∈ b, c < 256) → CanE b (g b)) : ∀ (m : Nat) (b : List Nat), (∀ c ∈ b, c < 256) → CanEs b m (tkEs g m b)
  | 0, b, _ => fun _ => ⟨by simp [tkEs, Eff.encs], by simp [tkEs, Eff.encs], by simp [tkEs, Eff.oks], rfl⟩
  | m + 1, b, hb => by
    intro h
    by_cases h1 : (g b).2.2 = 0
    · by_cases h2 : (tkEs g m (b.drop (g b).2.1)).2.2 = 0
      · obtain ⟨a1, a2, a3⟩ := (hg b hb).1 h1
        obtain ⟨b1, b2, b3, b4⟩ := tkEs_can g hg m (b.drop (g b).2.1) (drop_bytes hb _) h2
        simp only [tkEs, if_pos h1, if_pos h2, Eff.encs, Eff.oks, List.length_cons, List.length_append]
        refine ⟨?_, by omega, ⟨a3, b3⟩, by omega⟩
        rw [List.append_assoc, ← List.drop_drop, ← b1]
        exact a1
      · rw [tkEs, if_pos h1, if_neg h2] at h; exact absurd h h2
    · rw [tkEs, if_neg h1] at h; exact absurd h h1
theorem canE_bad {b : List Nat} {e : Int} (h : e ≠ 0) : CanE b (nilE, 0, e) := ⟨fun he => absurd he h, fun _ => rfl⟩
theorem tkE_can : ∀ (f : Nat) (b : List Nat), (∀ c ∈ b, c < 256) → CanE b (tkE f b)
  | 0, b, _ => canE_bad (by decide)
  | f + 1, b, hb => by
    have key : ∀ (k : Nat) (F : Int → Nat → Eff × Nat × Int), (∀ v k', b.drop k = mth.encI v ++ b.drop (k + k') → k' = (mth.encI v).length → in64 v → CanE b (F v k')) → CanE b (nx (b.drop k) F) := fun k F hF => by
      unfold nx
      split
      · rename_i he
        obtain ⟨h1, h2, h3⟩ := tk_split (drop_bytes hb k) (v := (mth.tk 0 0 (b.drop k)).1) (k := (mth.tk 0 0 (b.drop k)).2.1) (by rw [← he])
        rw [List.drop_drop] at h1
        exact hF _ _ h1 h2 h3
      · rename_i he; exact canE_bad he
    rw [tkE]
    refine key 0 _ fun o k1 b1 l1 i1 => ?_
    rw [Nat.zero_add, List.drop_zero] at b1
    refine key k1 _ fun n k2 b2 l2 i2 => key (k1 + k2) _ fun m k3 b3 l3 i3 => key (k1 + k2 + k3) _ fun w k4 b4 l4 i4 => key (k1 + k2 + k3 + k4) _ fun c k5 b5 l5 i5 => ?_
    by_cases c0 : c < 0
    · rw [if_pos c0]; exact canE_bad (by decide)
    by_cases c8 : 8 < c
    · rw [if_neg c0, if_pos c8]; exact canE_bad (by decide)
    rw [if_neg c0, if_neg c8]
    by_cases he : (tkEs (tkE f) c.toNat (b.drop (k1 + k2 + k3 + k4 + k5))).2.2 = 0
    · rw [if_pos he]
      obtain ⟨s1, s2, s3, s4⟩ := tkEs_can (tkE f) (fun b hb => tkE_can f b hb) c.toNat _ (drop_bytes hb _) he
      refine ⟨fun _ => ⟨?_, ?_, i1, i2, i3, i4, s3⟩, fun hx => absurd rfl hx⟩
      · simp only [Eff.enc]
        have e5 : ((tkEs (tkE f) c.toNat (b.drop (k1 + k2 + k3 + k4 + k5))).1.length : Int) = c := by omega
        rw [List.drop_drop] at s1
        rw [e5, List.append_assoc, ← s1, List.append_assoc, ← b5, List.append_assoc, ← b4, List.append_assoc, ← b3, List.append_assoc, ← b2]
        exact b1
      · have e5 : ((tkEs (tkE f) c.toNat (b.drop (k1 + k2 + k3 + k4 + k5))).1.length : Int) = c := by omega
        simp only [Eff.enc, List.length_append]
        rw [e5]
        omega
    · rw [if_neg he]; exact canE_bad he
mutual
/-- what is right is not too deep, and its bytes tell it -/
theorem Eff.back : ∀ (e : Eff) (t d : Int) (f : Nat) (rest : List Nat), e.ok → (f : Int) + d = 9 → e.chk t d = 0 → tkE f (e.enc ++ rest) = (e, e.enc.length, 0) ∧ (e.depth : Int) + d ≤ 9 ∧ e.subs.length ≤ 8
  | .mk o n m w l, t, d, f, rest, hk, hf, hc => by
    obtain ⟨k1, k2, k3, k4, k5⟩ := hk
    rw [Eff.chk] at hc
    by_cases hh : headE o n m w t d l.length (headOp l) = 0
    case neg => rw [if_pos hh] at hc; exact absurd hc hh
    rw [if_neg (by simpa using hh)] at hc
    have hd : ¬ 8 < d ∧ formP o l.length (headOp l) ∧ ¬ (o < 0 ∨ 26 ≤ o) := by
      unfold headE at hh
      split at hh
      · cases hh
      split at hh
      · cases hh
      split at hh
      · cases hh
      split at hh
      · cases hh
      split at hh
      · cases hh
      rename_i a b _ _ c
      exact ⟨b, Decidable.of_not_not c, a⟩
    obtain ⟨d8, hform, ho⟩ := hd
    have hl : l.length ≤ 8 := by
      obtain ⟨p1, p2, p3, p4⟩ := hform
      by_cases a : o = 20
      · have := (p1 a).1; omega
      by_cases b : o = 21
      · exact (p2 b).2
      by_cases c : o = 22
      · have := (p3 c).2; omega
      · have := p4 (by omega); omega
    obtain ⟨f', rfl⟩ : ∃ f', f = f' + 1 := ⟨f - 1, by omega⟩
    have hsub : ∀ rest, tkEs (tkE f') l.length (Eff.encs l ++ rest) = (l, (Eff.encs l).length, 0) ∧ (Eff.depths l : Int) + (d + 1) ≤ 9 := by
      intro rest
      split at hc
      · exact Eff.backA l (d + 1) f' rest k5 (by omega) hc
      · exact Eff.backs l t (d + 1) f' rest k5 (by omega) hc
    refine ⟨?_, by have := (hsub []).2; simp only [Eff.depth]; omega, hl⟩
    have step : ∀ (v : Int) (k : Nat) (tl : List Nat) (F : Int → Nat → Eff × Nat × Int) (b : List Nat), in64 v → b.drop k = mth.encI v ++ tl → nx (b.drop k) F = F v (mth.encI v).length := fun v k tl F b hv hb => by
      rw [hb, nx, mth.tk_enc v tl hv.1 hv.2]; rfl
    have i5 : in64 (l.length : Int) := ⟨by omega, by omega⟩
    rw [tkE, Eff.enc]
    generalize hB : mth.encI o ++ mth.encI n ++ mth.encI m ++ mth.encI w ++ mth.encI (l.length : Int) ++ Eff.encs l ++ rest = B
    have b0 : B.drop 0 = mth.encI o ++ (mth.encI n ++ (mth.encI m ++ (mth.encI w ++ (mth.encI (l.length : Int) ++ (Eff.encs l ++ rest))))) := by rw [← hB]; simp
    have b1 : B.drop (mth.encI o).length = mth.encI n ++ (mth.encI m ++ (mth.encI w ++ (mth.encI (l.length : Int) ++ (Eff.encs l ++ rest)))) := by
      rw [List.drop_zero] at b0; rw [b0, List.drop_left]
    have b2 : B.drop ((mth.encI o).length + (mth.encI n).length) = mth.encI m ++ (mth.encI w ++ (mth.encI (l.length : Int) ++ (Eff.encs l ++ rest))) := by
      rw [← List.drop_drop, b1, List.drop_left]
    have b3 : B.drop ((mth.encI o).length + (mth.encI n).length + (mth.encI m).length) = mth.encI w ++ (mth.encI (l.length : Int) ++ (Eff.encs l ++ rest)) := by
      rw [← List.drop_drop, b2, List.drop_left]
    have b4 : B.drop ((mth.encI o).length + (mth.encI n).length + (mth.encI m).length + (mth.encI w).length) = mth.encI (l.length : Int) ++ (Eff.encs l ++ rest) := by
      rw [← List.drop_drop, b3, List.drop_left]
    have b5 : B.drop ((mth.encI o).length + (mth.encI n).length + (mth.encI m).length + (mth.encI w).length + (mth.encI (l.length : Int)).length) = Eff.encs l ++ rest := by
      rw [← List.drop_drop, b4, List.drop_left]
    have s0 := step o 0 _ (fun o k1 => nx (B.drop k1) fun n k2 => nx (B.drop (k1 + k2)) fun m k3 => nx (B.drop (k1 + k2 + k3)) fun w k4 => nx (B.drop (k1 + k2 + k3 + k4)) fun c k5 =>
      if c < 0 then (nilE, 0, 1) else if 8 < c then (nilE, 0, 19) else
        (if (tkEs (tkE f') c.toNat (B.drop (k1 + k2 + k3 + k4 + k5))).2.2 = 0 then (.mk o n m w (tkEs (tkE f') c.toNat (B.drop (k1 + k2 + k3 + k4 + k5))).1, k1 + k2 + k3 + k4 + k5 + (tkEs (tkE f') c.toNat (B.drop (k1 + k2 + k3 + k4 + k5))).2.1, 0)
          else (nilE, 0, (tkEs (tkE f') c.toNat (B.drop (k1 + k2 + k3 + k4 + k5))).2.2))) B k1 b0
    rw [List.drop_zero] at s0
    refine s0.trans ?_
    rw [step n _ _ _ B k2 b1]
    try dsimp only
    rw [step m _ _ _ B k3 b2]
    try dsimp only
    rw [step w _ _ _ B k4 b3]
    try dsimp only
    rw [step _ _ _ _ B i5 b4]
    try dsimp only
    rw [b5, Int.toNat_natCast, (hsub rest).1, if_neg (by omega), if_neg (by omega)]
    simp only [if_true, List.length_append]
theorem Eff.backs : ∀ (l : List Eff) (t d : Int) (f : Nat) (rest : List Nat), Eff.oks l → (f : Int) + d = 9 → Eff.chks t d l = 0 → tkEs (tkE f) l.length (Eff.encs l ++ rest) = (l, (Eff.encs l).length, 0) ∧ (Eff.depths l : Int) + d ≤ 9
  | [], t, d, f, rest, _, hf, _ => ⟨rfl, by simp only [Eff.depths]; omega⟩
  | e :: l, t, d, f, rest, hk, hf, hc => by
    rw [Eff.chks] at hc
    by_cases h0 : e.chk t d = 0
    case neg => rw [if_pos h0] at hc; exact absurd hc h0
    rw [if_neg (by simpa using h0)] at hc
    obtain ⟨a1, a2, _⟩ := Eff.back e t d f (Eff.encs l ++ rest) hk.1 hf h0
    obtain ⟨b1, b2⟩ := Eff.backs l t d f rest hk.2 hf hc
    refine ⟨?_, by simp only [Eff.depths]; omega⟩
    simp only [Eff.encs, List.append_assoc, List.length_cons, tkEs, a1, List.drop_left, b1, if_true, List.length_append]
theorem Eff.backA : ∀ (l : List Eff) (d : Int) (f : Nat) (rest : List Nat), Eff.oks l → (f : Int) + d = 9 → Eff.chkA d l = 0 → tkEs (tkE f) l.length (Eff.encs l ++ rest) = (l, (Eff.encs l).length, 0) ∧ (Eff.depths l : Int) + d ≤ 9
  | [], d, f, rest, _, hf, _ => ⟨rfl, by simp only [Eff.depths]; omega⟩
  | e :: l, d, f, rest, hk, hf, hc => by
    rw [Eff.chkA] at hc
    by_cases h0 : e.chk 1 d = 0
    case neg => rw [if_pos h0] at hc; exact absurd hc h0
    rw [if_neg (by simpa using h0)] at hc
    by_cases h2 : e.who = 2
    case neg => rw [if_pos h2] at hc; cases hc
    rw [if_neg (by simpa using h2)] at hc
    obtain ⟨a1, a2, _⟩ := Eff.back e 1 d f (Eff.encs l ++ rest) hk.1 hf h0
    obtain ⟨b1, b2⟩ := Eff.backA l d f rest hk.2 hf hc
    refine ⟨?_, by simp only [Eff.depths]; omega⟩
    simp only [Eff.encs, List.append_assoc, List.length_cons, tkEs, a1, List.drop_left, b1, if_true, List.length_append]
end
/-- what comes in as an effect has numbers of 64 bits -/
theorem effR_ok : ∀ (n : Nat) (r : List Dat), SizeOf.sizeOf r ≤ n → r.length = 5 → (∀ (c : Nat) (s : Srt) (d : Dat), (E0.Δ.row 24)[c]? = some s → r[c]? = some d → Has E0.Δ s d) → InL r → (effOf r).ok
  | 0, r, hn, hl, _, _ => by cases r <;> simp at hn hl
  | n + 1, [a, b, c, d, e], hn, _, hh, hi => by
    have ints : ∀ x, Has E0.Δ (.int .i64) x → InD x → in64 x.toInt := fun x hx hix => by
      cases hx with
      | int k n =>
        cases hix with
        | int _ _ hw =>
          simp only [Lit.wf, Bool.and_eq_true, decide_eq_true_eq] at hw
          exact hw
    have ha := ints a (hh 0 _ a rfl rfl) (hi a (by simp))
    have hb := ints b (hh 1 _ b rfl rfl) (hi b (by simp))
    have hc := ints c (hh 2 _ c rfl rfl) (hi c (by simp))
    have hd := ints d (hh 3 _ d rfl rfl) (hi d (by simp))
    have he : Has E0.Δ (.list 24) e := hh 4 _ e rfl rfl
    have hie := hi e (by simp)
    rw [Eff.ok_eq, effOf_op, effOf_n, effOf_m, effOf_who, effOf_subs]
    refine ⟨ha, hb, hc, hd, Eff.oks_of fun x hx => ?_⟩
    obtain ⟨row, hrow, rfl⟩ := List.mem_map.1 hx
    have hsz : SizeOf.sizeOf row < SizeOf.sizeOf [a, b, c, d, e] := subR_lt hrow
    have hrow' : row ∈ e.xs := hrow
    cases he with
    | list _ A k cc xs hl hhr =>
      cases hie with
      | list v sz _ hm hr => exact effR_ok n row (by omega) (hl row hrow') (hhr row hrow') (hr row hrow')
theorem argE_ok {ds : List Dat} {ss : List Srt} (h : All2 (Has E0.Δ) (E0.Δ.row 24 ++ ss) ds) (hi : InL ds) : (argE ds).ok := by
  have hlen := h.length
  have hr : (E0.Δ.row 24).length = 5 := rfl
  rw [List.length_append, hr] at hlen
  refine effR_ok _ _ (Nat.le_refl _) (by rw [List.length_take]; omega) (fun c s d hc hd => ?_) (fun d hd => hi d (List.mem_of_mem_take hd))
  have hc5 : c < 5 := by have := (List.getElem?_eq_some_iff.1 hc).1; omega
  obtain ⟨d', e1, e2⟩ := All2.getO h (i := c) (s := s) (by rw [List.getElem?_append_left (by omega)]; exact hc)
  rw [List.getElem?_take, if_pos hc5, e1] at hd
  cases hd
  exact e2
mutual
theorem Eff.enc_byte : ∀ {e : Eff}, e.ok → e.size ≤ 1000 → ∀ c ∈ e.enc, c < 256
  | .mk o n m w l, ⟨h1, h2, h3, h4, h5⟩, hz, c, hc => by
    rw [Eff.size] at hz
    have hll := Eff.length_le_sizes l
    simp only [Eff.enc, List.mem_append] at hc
    have hl : ∀ c ∈ mth.encI (l.length : Int), c < 256 := encI_byte (by omega) (by omega)
    rcases hc with ((((hc | hc) | hc) | hc) | hc) | hc
    · exact encI_byte h1.1 h1.2 c hc
    · exact encI_byte h2.1 h2.2 c hc
    · exact encI_byte h3.1 h3.2 c hc
    · exact encI_byte h4.1 h4.2 c hc
    · exact hl c hc
    · exact Eff.encs_byte h5 (by omega) c hc
theorem Eff.encs_byte : ∀ {l : List Eff}, Eff.oks l → Eff.sizes l ≤ 1000 → ∀ c ∈ Eff.encs l, c < 256
  | [], _, _, c, hc => by simp [Eff.encs] at hc
  | e :: l, ⟨h1, h2⟩, hz, c, hc => by
    rw [Eff.sizes] at hz
    simp only [Eff.encs, List.mem_append] at hc
    rcases hc with hc | hc
    · exact Eff.enc_byte h1 (by omega) c hc
    · exact Eff.encs_byte h2 (by omega) c hc
end
end Go.Proofs.Ytccdlmiemelifaa
end

section
namespace Go.Proofs.Ytccdlmiemelifaa
open Go.RowKit
set_option linter.unusedVariables false
set_option linter.unusedSimpArgs false

/-- a call that tells a bool -/
theorem call_b {k : FuncId} {sg : Sig} {Φ : Spec} (h : Holds E0 k sg Φ) (hr : sg.res = [(false, [.bool])]) (ho : sg.own = false) {ds : List Dat} {w : World} (h1 : All2 (Has E0.Δ) (Sig.sorts sg.params) ds) (h2 : OkL w ds) (p : Bool → Prop) (hΦ : Φ ds fun rs => ∃ b, rs = [.bool b] ∧ p b) {vs : Array Value} (hv : (groupV sg.params ds).toArray = vs) :
    Calls E0.P k vs w fun e w' => ∃ b, e = .returned (.bool b) ∧ p b ∧ Below w.heap.size w w' := by
  subst hv
  refine (h w ds _ h1 h2 (fun d hd => by cases hd) (globs_any w) hΦ).mono ?_
  rintro e w' ⟨rs, ⟨b, rfl, hp⟩, _, hb, _, _, he⟩
  rw [if_neg (by rw [ho]; exact Bool.false_ne_true), hr] at he
  exact ⟨b, he, hp, hb⟩
/-- an effect's five cells -/
def effD (a b c d : Int) (v : Value) (rows : List (List Dat)) : List Dat := [.int .i64 a, .int .i64 b, .int .i64 c, .int .i64 d, .list v 5 rows]
theorem effD_has (a b c d : Int) {v : Value} {rows : List (List Dat)} (h : Has E0.Δ (.list 24) (.list v 5 rows)) : All2 (Has E0.Δ) [.int .i64, .int .i64, .int .i64, .int .i64, .list 24] (effD a b c d v rows) := .cons (.int _ _) (.cons (.int _ _) (.cons (.int _ _) (.cons (.int _ _) (.cons h .nil))))
theorem effD_ok {w : World} (a b c d : Int) {v : Value} {rows : List (List Dat)} (h : OkD w (.list v 5 rows)) : OkL w (effD a b c d v rows) := fun x hx => by
  simp only [effD, List.mem_cons, List.not_mem_nil, or_false] at hx
  rcases hx with rfl | rfl | rfl | rfl | rfl
  · exact .int _ _
  · exact .int _ _
  · exact .int _ _
  · exact .int _ _
  · exact h
theorem effD_arg (a b c d : Int) (v : Value) (rows : List (List Dat)) : argE (effD a b c d v rows) = .mk a b c d (rows.map effOf) := by
  rw [argE_row0 rfl, effOf_eq]; rfl
theorem effD_args (a b c d : Int) (v : Value) (rows : List (List Dat)) (e : List Dat) : argE (effD a b c d v rows ++ e) = .mk a b c d (rows.map effOf) := by
  rw [argE_row rfl, effOf_eq]; rfl
theorem effD_args2 (a b c d : Int) (v : Value) (rows : List (List Dat)) {s : List Dat} (h : s.length = 5) : argE2 (effD a b c d v rows ++ s) = argE s := by
  rw [argE2_row rfl h, argE_row0 h]
/-- bytes of the call's own, kept -/
theorem Ow.spw {B E B0 sz n : Nat} {v : Value} {xs : List Value} {w w' : World} (h : Ow w B0 sz v n xs) (hE : E ≤ B0) (hs : SpW B E w w') : Ow w' B0 sz v n xs := by
  obtain ⟨A, c, rfl, hc, hl, ha, ho⟩ := h
  by_cases hc0 : 0 < c
  · obtain ⟨g, off, rfl, hB, hg, hj⟩ := ho hc0
    have hblk := hs.block g hg (.inr (by omega))
    have hcell : ∀ o, w'.cell? ⟨g, o, none⟩ = w.cell? ⟨g, o, none⟩ := fun o => by unfold World.cell?; simp only [hblk]
    have hfro : ∀ o, w'.frozen? ⟨g, o, none⟩ = w.frozen? ⟨g, o, none⟩ := fun o => by unfold World.frozen?; simp only [hblk]
    refine ⟨_, c, rfl, hc, hl, fun hn => ?_, fun _ => ⟨g, off, rfl, hB, Nat.lt_of_lt_of_le hg hs.size, fun j hjc => ?_⟩⟩
    · obtain ⟨ad, e, _, hcl⟩ := ha hn
      cases e
      refine ⟨_, rfl, Nat.lt_of_lt_of_le hg hs.size, fun j u hu => ?_⟩
      have := hcl j u hu
      rw [Addr.add_lit] at this ⊢
      rw [hcell]; exact this
    · rw [hcell, hfro]; exact hj j hjc
  · exact ⟨A, c, rfl, hc, hl, fun hn => absurd hn (by omega), fun hn => absurd hn hc0⟩
/-- a call that makes bytes -/
theorem bytes_w (op n m who : Int) (v : Value) (rows : List (List Dat)) (w : World) (hsz : (Eff.mk op n m who (rows.map effOf)).size ≤ 1000) (hk : (Eff.mk op n m who (rows.map effOf)).ok) (hok : OkD w (.list v 5 rows)) (hhas : Has E0.Δ (.list 24) (.list v 5 rows)) :
    Calls Try.prog 8 #[.agg #[.int .i64 op, .int .i64 n, .int .i64 m, .int .i64 who, v]] w fun e w' => ∃ A k c, e = .returned (.slice A k c) ∧ Below w.heap.size w w' ∧ Ow w' w.heap.size 1 (.slice A k c) k (flatV (u8R (Eff.enc (.mk op n m who (rows.map effOf))))) ∧ k = (u8R (Eff.enc (.mk op n m who (rows.map effOf)))).length := by
  refine (rBytes6_h w (effD op n m who v rows) (fun rs => rs = [.rows (u8R (Eff.enc (.mk op n m who (rows.map effOf))))]) (effD_has _ _ _ _ hhas) (effD_ok _ _ _ _ hok) (fun d hd => by cases hd) (globs_any w) ⟨by rw [effD_arg]; exact hsz, by rw [effD_arg]; exact hk, by rw [effD_arg]⟩).mono ?_
  rintro e w' ⟨rs, rfl, _, hb, _, _, h⟩
  rw [if_pos (show sg_rBytes6.own = true from rfl)] at h
  obtain ⟨A, n, c, r, xs, h1, h2, h3, h4, h5, _⟩ := h
  cases h2
  rw [show sg_rBytes6.res = [(false, [.rows 5])] from rfl] at h1
  have hr : 5 = r := by injection h1 with h1 _; injection h1 with _ h1; injection h1 with h1 _; injection h1
  subst hr
  have h1 : (E0.Δ.row 5).length = 1 := by kernel_rfl
  rw [h1] at h4
  exact ⟨A, n, c, h3, hb, h4, h5.symm⟩
theorem lEff_same (a b c d : Int) (va : Value) (ra : List (List Dat)) (a' b' c' d' : Int) (vb : Value) (rb : List (List Dat)) (w : World) (hA : Has E0.Δ (.list 24) (.list va 5 ra)) (hB : Has E0.Δ (.list 24) (.list vb 5 rb)) (oA : OkD w (.list va 5 ra)) (oB : OkD w (.list vb 5 rb)) (hsz : (Eff.mk a b c d (ra.map effOf)).size ≤ 1000) :
    Calls Try.prog 9 #[.agg #[.int .i64 a, .int .i64 b, .int .i64 c, .int .i64 d, va], .agg #[.int .i64 a', .int .i64 b', .int .i64 c', .int .i64 d', vb]] w fun e w' => ∃ x : Bool, e = .returned (.bool x) ∧ (x = true ↔ Eff.mk a b c d (ra.map effOf) = Eff.mk a' b' c' d' (rb.map effOf)) ∧ Below w.heap.size w w' :=
  call_b effSame_h rfl rfl (ds := effD a b c d va ra ++ effD a' b' c' d' vb rb) ((effD_has _ _ _ _ hA).append (effD_has _ _ _ _ hB)) (fun x hx => (List.mem_append.1 hx).elim (effD_ok _ _ _ _ oA x) (effD_ok _ _ _ _ oB x)) (fun x => (x = true ↔ _)) ⟨by rw [effD_args]; exact hsz, fun x hx => ⟨x, rfl, by rw [effD_args, effD_args2 _ _ _ _ _ _ rfl, effD_arg] at hx; exact hx⟩⟩ rfl
theorem lEff_num (a b c d : Int) (va : Value) (ra : List (List Dat)) (a' b' c' d' : Int) (vb : Value) (rb : List (List Dat)) (w : World) (hA : Has E0.Δ (.list 24) (.list va 5 ra)) (hB : Has E0.Δ (.list 24) (.list vb 5 rb)) (oA : OkD w (.list va 5 ra)) (oB : OkD w (.list vb 5 rb)) (hsz : (Eff.mk a b c d (ra.map effOf)).size ≤ 1000) :
    Calls Try.prog 10 #[.agg #[.int .i64 a, .int .i64 b, .int .i64 c, .int .i64 d, va], .agg #[.int .i64 a', .int .i64 b', .int .i64 c', .int .i64 d', vb]] w fun e w' => ∃ x : Bool, e = .returned (.bool x) ∧ (x = true ↔ Eff.mk a b c d (ra.map effOf) = Eff.mk a' b' c' d' (rb.map effOf)) ∧ Below w.heap.size w w' :=
  call_b numEffects_h rfl rfl (ds := effD a b c d va ra ++ effD a' b' c' d' vb rb) ((effD_has _ _ _ _ hA).append (effD_has _ _ _ _ hB)) (fun x hx => (List.mem_append.1 hx).elim (effD_ok _ _ _ _ oA x) (effD_ok _ _ _ _ oB x)) (fun x => (x = true ↔ _)) ⟨by rw [effD_args]; exact hsz, fun x hx => ⟨x, rfl, by rw [effD_args, effD_args2 _ _ _ _ _ _ rfl, effD_arg] at hx; exact hx⟩⟩ rfl
theorem lEff_large (a b c d : Int) (va : Value) (ra : List (List Dat)) (w : World) (hA : Has E0.Δ (.list 24) (.list va 5 ra)) (oA : OkD w (.list va 5 ra)) :
    Calls Try.prog 6 #[.agg #[.int .i64 a, .int .i64 b, .int .i64 c, .int .i64 d, va]] w fun e w' => ∃ x : Bool, e = .returned (.bool x) ∧ (x = false → (Eff.mk a b c d (ra.map effOf)).size ≤ 300) ∧ Below w.heap.size w w' :=
  call_b Large_h rfl rfl (ds := effD a b c d va ra) (effD_has _ _ _ _ hA) (effD_ok _ _ _ _ oA) (fun x => x = false → _) (fun x hx => ⟨x, rfl, by rw [effD_arg] at hx; exact hx⟩) rfl
theorem lEff_alive (w : World) : Calls Try.prog 5 #[] w fun e w' => ∃ x : Bool, e = .returned (.bool x) ∧ x = true ∧ Below w.heap.size w w' :=
  call_b alive_h rfl rfl (ds := []) .nil (fun _ h => by cases h) (fun x => x = true) ⟨true, rfl, rfl⟩ rfl
theorem u8_sl {w : World} {B : Nat} {A : Option Addr} {k c : Nat} {l : List Nat} (h : Ow w B 1 (.slice A k c) k (flatV (u8R l))) (hk : k = (u8R l).length) : Has E0.Δ (.list 5) (.list (.slice A k c) 1 (u8R l)) ∧ OkD w (.list (.slice A k c) 1 (u8R l)) := by
  have hrow : E0.Δ.row 5 = [.int .u8] := by kernel_rfl
  have hl1 : (E0.Δ.row 5).length = 1 := by rw [hrow]; rfl
  have hmem : ∀ r ∈ u8R l, ∃ x : Nat, r = [.int .u8 x] := fun r hr => by
    obtain ⟨x, _, rfl⟩ := List.mem_map.1 hr
    exact ⟨_, rfl⟩
  refine ⟨?_, .list _ _ _ (by rw [← hk]; exact h.rd) fun r hr d hd => ?_⟩
  · have := Has.list (Δ := E0.Δ) 5 A k c (u8R l) (fun r hr => by obtain ⟨x, rfl⟩ := hmem r hr; rw [hrow]; rfl) fun r hr cc s d hs hd => by
      obtain ⟨x, rfl⟩ := hmem r hr
      rw [hrow] at hs
      match cc with
      | 0 => cases hs; cases hd; exact .int _ _
      | cc + 1 => cases hs
    rw [hl1] at this
    exact this
  · obtain ⟨x, rfl⟩ := hmem r hr
    rw [List.mem_singleton.1 hd]; exact .int _ _
theorem lB_same (l : List Nat) (hl : ∀ c ∈ l, c < 256) (A A' : Option Addr) (k c k' c' : Nat) (w : World) {B B' : Nat} (h : Ow w B 1 (.slice A k c) k (flatV (u8R l))) (hk : k = (u8R l).length) (h' : Ow w B' 1 (.slice A' k' c') k' (flatV (u8R l))) (hk' : k' = (u8R l).length) :
    Calls Try.prog 12 #[.slice A k c, .slice A' k' c'] w fun e w' => ∃ x : Bool, e = .returned (.bool x) ∧ x = true ∧ Below w.heap.size w w' :=
  call_b sameB_h rfl rfl (ds := [.list (.slice A k c) 1 (u8R l), .list (.slice A' k' c') 1 (u8R l)]) (.cons (u8_sl h hk).1 (.cons (u8_sl h' hk').1 .nil)) (fun x hx => by
    simp only [List.mem_cons, List.not_mem_nil, or_false] at hx
    rcases hx with rfl | rfl
    · exact (u8_sl h hk).2
    · exact (u8_sl h' hk').2) (fun x => x = true) ⟨l, l, rfl, rfl, hl, hl, true, by simp, rfl⟩ rfl
end Go.Proofs.Ytccdlmiemelifaa
end

section
namespace Go.Proofs.Ytccdlmiemelifaa
open Go.RowKit
set_option linter.unusedVariables false
set_option linter.unusedSimpArgs false

theorem SpW.base {B E B0 : Nat} {w W W' : World} (h : SpW B E W W') (hb : Below B0 w W) (h0 : B0 ≤ B) (h1 : B0 ≤ W.heap.size) : Below B0 w W' :=
  hb.trans ⟨h.os, h.tape, h.output, h.size, fun k hk => h.block k (by omega) (.inl (by omega))⟩
theorem enc_lt {e : Eff} (h : e.ok) (hs : e.size ≤ 1000) : ∀ c ∈ e.enc, c < 256 := Eff.enc_byte h hs
theorem rows_le {e : Eff} (h : e.size ≤ 300) : Eff.sizes e.subs ≤ 1000 := by rw [Eff.size_eq] at h; omega
set_option maxRecDepth 1000000 in
set_option maxHeartbeats 400000 in
theorem law6_w (a b c d : Int) (va : Value) (ra : List (List Dat)) (a' b' c' d' : Int) (vb : Value) (rb : List (List Dat)) (w : World) (hA : Has E0.Δ (.list 24) (.list va 5 ra)) (hB : Has E0.Δ (.list 24) (.list vb 5 rb)) (oA : OkD w (.list va 5 ra)) (oB : OkD w (.list vb 5 rb)) (hok : (Eff.mk a b c d (ra.map effOf)).ok) :
    Calls Try.prog 3 #[.agg #[.int .i64 a, .int .i64 b, .int .i64 c, .int .i64 d, va], .agg #[.int .i64 a', .int .i64 b', .int .i64 c', .int .i64 d', vb]] w fun e w' => e = .returned (.bool true) ∧ Below w.heap.size w w' := by
  have HLA := fun W (h : Below w.heap.size w W) => lEff_large a b c d va ra W hA (oA.keeps (grown_of_below h) fun _ _ e => by cases e)
  have HLB := fun W (h : Below w.heap.size w W) => lEff_large a' b' c' d' vb rb W hB (oB.keeps (grown_of_below h) fun _ _ e => by cases e)
  have HB0 : Below w.heap.size w ((w.alloc (.cells #[.int .i64 a, .int .i64 b, .int .i64 c, .int .i64 d, va] 24)).alloc (.cells #[.int .i64 a', .int .i64 b', .int .i64 c', .int .i64 d', vb] 24)) := ((Below.refl w.heap.size w).alloc (Nat.le_refl _) _).alloc (by simp) _
  have HRA : Row ((w.alloc (.cells #[.int .i64 a, .int .i64 b, .int .i64 c, .int .i64 d, va] 24)).alloc (.cells #[.int .i64 a', .int .i64 b', .int .i64 c', .int .i64 d', vb] 24)) w.heap.size #[.int .i64 a, .int .i64 b, .int .i64 c, .int .i64 d, va] 24 := (Row.new w _ _).alloc _
  have HRB : Row ((w.alloc (.cells #[.int .i64 a, .int .i64 b, .int .i64 c, .int .i64 d, va] 24)).alloc (.cells #[.int .i64 a', .int .i64 b', .int .i64 c', .int .i64 d', vb] 24)) (w.heap.size + 1) #[.int .i64 a', .int .i64 b', .int .i64 c', .int .i64 d', vb] 24 := by
    have := Row.new (w.alloc (.cells #[.int .i64 a, .int .i64 b, .int .i64 c, .int .i64 d, va] 24)) #[.int .i64 a', .int .i64 b', .int .i64 c', .int .i64 d', vb] 24
    simpa using this
  go_enter Try.func3, Try.ntmps3
  go_wp2_with (first
    | (go_at_call 5; refine (lEff_alive _).mono ?_; rintro e W1 ⟨x, rfl, rfl, hb1⟩; replace HRA := HRA.below hb1; replace HRB := HRB.below hb1; replace HB0 := HB0.trans (hb1.mono HB0.size); clear hb1)
    | (refine wpList_load_Row HRA rfl _ _ rfl rfl _ Try.underlying24 rfl (eff_isz _ _ _ _ _) ?_)
    | (refine wpList_load_RowW HRB rfl _ _ rfl rfl _ Try.underlying24 rfl (eff_isz _ _ _ _ _) ?_)
    | (go_at_call_of 6 va; refine (HLA _ HB0).mono ?_; rintro e W2 ⟨la, rfl, hla, hb2⟩; replace HRA := HRA.below hb2; replace HRB := HRB.below hb2; replace HB0 := HB0.trans (hb2.mono HB0.size); clear hb2; cases la)
    | (go_at_call_of 6 vb; refine (HLB _ HB0).mono ?_; rintro e W3 ⟨lb, rfl, hlb, hb3⟩; replace HRA := HRA.below hb3; replace HRB := HRB.below hb3; replace HB0 := HB0.trans (hb3.mono HB0.size); clear hb3; cases lb))
  rotate_left
  · go_ret
    exact ⟨rfl, HB0⟩
  · go_ret
    exact ⟨rfl, HB0⟩
  have hsz : (Eff.mk a b c d (ra.map effOf)).size ≤ 300 := hla trivial
  have hsz1 : 1 + Eff.sizes (ra.map effOf) ≤ 300 := by have := hsz; rw [Eff.size_eq] at this; exact this
  clear hla hlb HLA HLB
  have okA : ∀ W, Below w.heap.size w W → OkD W (.list va 5 ra) := fun W h => oA.keeps (grown_of_below h) fun _ _ e => by cases e
  have okB : ∀ W, Below w.heap.size w W → OkD W (.list vb 5 rb) := fun W h => oB.keeps (grown_of_below h) fun _ _ e => by cases e
  refine (copy_w 1001 a b c d va ra W3 (by omega) (by omega) (okA _ HB0) hA).mono ?_
  rintro e W4 ⟨u, rfl, hb4, htr⟩
  have HT : TrS W4 W3.heap.size W4.heap.size 1001 u := htr.shape 1001 (Nat.le_refl _) (Nat.le_refl _) (by omega) (by omega)
  have hlt3 : w.heap.size + 1 < W3.heap.size := HRB.lt
  have hsz4 : W3.heap.size ≤ W4.heap.size := hb4.size
  replace HRA := HRA.below hb4
  replace HRB := HRB.below hb4
  replace HB0 := HB0.trans (hb4.mono HB0.size)
  have hu1 : u.oneCell' = true := by
    obtain ⟨A, n, c, rfl⟩ := HT.slice
    rfl
  have HRC := Row.new W4 #[.int .i64 0, .int .i64 0, .int .i64 0, .int .i64 0, .slice none 0 0] 24
  replace HRA := HRA.alloc (.cells #[.int .i64 0, .int .i64 0, .int .i64 0, .int .i64 0, .slice none 0 0] 24)
  replace HRB := HRB.alloc (.cells #[.int .i64 0, .int .i64 0, .int .i64 0, .int .i64 0, .slice none 0 0] 24)
  have HBA := HB0.alloc HB0.size (.cells #[.int .i64 0, .int .i64 0, .int .i64 0, .int .i64 0, .slice none 0 0] 24)
  have hg5 : (W4.alloc (.cells #[.int .i64 0, .int .i64 0, .int .i64 0, .int .i64 0, .slice none 0 0] 24)).grownBy ((W4.alloc (.cells #[.int .i64 0, .int .i64 0, .int .i64 0, .int .i64 0, .slice none 0 0] 24)).setRow W4.heap.size #[.int .i64 a, .int .i64 b, .int .i64 c, .int .i64 d, u]) (some W4.heap.size) := grownBy_setRow _ _ _
  have HT5 : TrS ((W4.alloc (.cells #[.int .i64 0, .int .i64 0, .int .i64 0, .int .i64 0, .slice none 0 0] 24)).setRow W4.heap.size #[.int .i64 a, .int .i64 b, .int .i64 c, .int .i64 d, u]) W3.heap.size W4.heap.size 1001 u :=
    (HT.grown (grown_of_below ((Below.refl W4.heap.size W4).alloc (Nat.le_refl _) _))).other hg5 (.inr (Nat.le_refl _))
  obtain ⟨rc, c1, c2, c3, _⟩ := htr.data
  have HC5 := (c1.keeps (grown_of_below ((Below.refl W4.heap.size W4).alloc (Nat.le_refl _) (.cells #[.int .i64 0, .int .i64 0, .int .i64 0, .int .i64 0, .slice none 0 0] 24))) fun _ _ e => by cases e).keeps hg5 fun k hk e => by
    cases e
    exact absurd (c1.lt hk) (Nat.lt_irrefl _)
  have HRA5 := HRA.otherRow (b' := W4.heap.size) (by omega) #[.int .i64 a, .int .i64 b, .int .i64 c, .int .i64 d, u]
  have HRB5 := HRB.otherRow (b' := W4.heap.size) (by omega) #[.int .i64 a, .int .i64 b, .int .i64 c, .int .i64 d, u]
  have HRC5 := HRC.setRow #[.int .i64 a, .int .i64 b, .int .i64 c, .int .i64 d, u]
  have HB5 := below_setRow HBA (show w.heap.size ≤ W4.heap.size by omega) #[.int .i64 a, .int .i64 b, .int .i64 c, .int .i64 d, u]
  clear hg5 HT htr hb4 c1 HBA HB0
  go_upto_region 6 with (first
    | (refine wpList_store_Row HRC rfl rfl _ _ _ rfl rfl rfl (eff_isz _ _ _ _ _) rfl (eff_one _ _ _ _ hu1) ?_))
  clear HRC HRA HRB
  have hE5 : W4.heap.size ≤ ((W4.alloc (.cells #[.int .i64 0, .int .i64 0, .int .i64 0, .int .i64 0, .slice none 0 0] 24)).setRow W4.heap.size #[.int .i64 a, .int .i64 b, .int .i64 c, .int .i64 d, u]).heap.size := by simp
  generalize hW5 : (W4.alloc (.cells #[.int .i64 0, .int .i64 0, .int .i64 0, .int .i64 0, .slice none 0 0] 24)).setRow W4.heap.size #[.int .i64 a, .int .i64 b, .int .i64 c, .int .i64 d, u] = W5 at *
  clear hW5
  have hsz10 : (Eff.mk a b c d (ra.map effOf)).size ≤ 1000 := by omega
  have HBy := fun W (h : Below w.heap.size w W) => bytes_w a b c d va ra W hsz10 hok (okA W h) hA
  go_upto_region 7 with (first
    | (refine wpList_load_Row HRA5 rfl _ _ rfl rfl _ Try.underlying24 rfl (eff_isz _ _ _ _ _) ?_)
    | (go_at_call 8; refine (HBy _ HB5).mono ?_; rintro e W6 ⟨Aw, kw, cw, rfl, hb6, HW, rfl⟩))
  have hE6 := Nat.le_trans hE5 hb6.size
  have HS6 : SpW W3.heap.size W4.heap.size W5 W6 := .below hb6
  replace HRA5 := (HRA5.below hb6).drew
  replace HRB5 := (HRB5.below hb6).drew
  replace HRC5 := (HRC5.below hb6).drew
  have HB6 := (HB5.trans (hb6.mono HB5.size)).drew
  have HC6 : OkD W6.drew (.list u 5 rc) := (HC5.keeps (grown_of_below hb6) fun _ _ e => by cases e).keeps (grown_of_below (Below.refl W6.heap.size W6).drew) fun _ _ e => by cases e
  have HT6 : TrS W6.drew W3.heap.size W4.heap.size 1001 u := (HS6.tree _ _ HT5).grown (grown_of_below (Below.refl W6.heap.size W6).drew)
  have HW6 := HW.below (Below.refl W6.heap.size W6).drew
  have hsW : W4.heap.size ≤ W6.drew.heap.size := hE6
  clear HS6 HT5 HC5 HW hb6 HB5 HBy
  have HSW := HRB5.lt
  refine wp_region_E [(true, 0), (true, 1), (false, 2), (true, 3), (true, 4), (true, 5), (true, 6), (true, 8), (true, 9), (false, 7), (false, 10), (true, 11), (true, 12)] (by kernel_rfl) (by kernel_rfl) (by kernel_rfl) (by kernel_rfl) ?_
  generalize hW7 : W6.drew = W7 at *
  clear hW7
  refine wpE_load HRA5 rfl rfl _ rfl rfl Try.underlying24 rfl (eff_isz _ _ _ _ _) ?_
  refine wpE_load HRC5 rfl rfl _ rfl rfl Try.underlying24 rfl (eff_isz _ _ _ _ _) ?_
  refine wpE_event rfl rfl (fun K hK => ?_)
  go_step
  refine (lEff_same a b c d va ra a b c d u rc W7 hA c2 (okA _ HB6) HC6 hsz10).mono ?_
  rintro e W8 ⟨x, rfl, hx, hb8⟩
  obtain rfl : x = true := hx.2 (by rw [c3])
  refine hK _ _ (Lat.of hb8) ?_
  clear hK K hx
  replace HRA5 := HRA5.below hb8
  replace HRB5 := HRB5.below hb8
  replace HRC5 := HRC5.below hb8
  replace HB6 := HB6.trans (hb8.mono HB6.size)
  replace HT6 := HT6.grown (grown_of_below hb8)
  replace HW6 := HW6.below hb8
  replace hsW := Nat.le_trans hsW hb8.size
  clear hb8 HC6
  iterate 2 (refine wpE_quiet rfl ?_; go_big_quiet_step (fail); refine wpQuiet_nil ?_)
  refine wpE_load HRA5 rfl rfl _ rfl rfl Try.underlying24 rfl (eff_isz _ _ _ _ _) ?_
  refine wpE_load HRB5 rfl rfl _ rfl rfl Try.underlying24 rfl (eff_isz _ _ _ _ _) ?_
  refine wpE_load HRA5 rfl rfl _ rfl rfl Try.underlying24 rfl (eff_isz _ _ _ _ _) ?_
  refine wpE_load HRB5 rfl rfl _ rfl rfl Try.underlying24 rfl (eff_isz _ _ _ _ _) ?_
  refine wpE_event rfl rfl (fun K hK => ?_)
  go_step
  refine (lEff_same a b c d va ra a' b' c' d' vb rb W8 hA hB (okA _ HB6) (okB _ HB6) hsz10).mono ?_
  rintro e W9 ⟨x, rfl, hx, hb9⟩
  refine hK _ _ (Lat.of hb9) ?_
  clear hK K
  replace HRA5 := HRA5.below hb9
  replace HRB5 := HRB5.below hb9
  replace HRC5 := HRC5.below hb9
  replace HB6 := HB6.trans (hb9.mono HB6.size)
  replace HT6 := HT6.grown (grown_of_below hb9)
  replace HW6 := HW6.below hb9
  replace hsW := Nat.le_trans hsW hb9.size
  clear hb9
  refine wpE_event rfl rfl (fun K hK => ?_)
  go_step
  refine (lEff_num a b c d va ra a' b' c' d' vb rb W9 hA hB (okA _ HB6) (okB _ HB6) hsz10).mono ?_
  rintro e W10 ⟨y, rfl, hy, hb10⟩
  refine hK _ _ (Lat.of hb10) ?_
  clear hK K
  replace HRA5 := HRA5.below hb10
  replace HRB5 := HRB5.below hb10
  replace HRC5 := HRC5.below hb10
  replace HB6 := HB6.trans (hb10.mono HB6.size)
  replace HT6 := HT6.grown (grown_of_below hb10)
  replace HW6 := HW6.below hb10
  replace hsW := Nat.le_trans hsW hb10.size
  clear hb10
  obtain rfl : x = y := by
    have := hx.trans hy.symm
    cases x <;> cases y <;> simp at this <;> rfl
  clear hx hy
  iterate 2 (refine wpE_quiet rfl ?_; go_big_quiet_step (fail); refine wpQuiet_nil ?_)
  refine wpE_nil ?_
  have HBy := fun W (h : Below w.heap.size w W) => bytes_w a b c d va ra W hsz10 hok (okA W h) hA
  have HEN := enc_lt hok hsz10
  have hl0 : w.heap.size < W3.heap.size := by omega
  have HX := fun W11 (h : SpW W3.heap.size W4.heap.size W10 W11) => And.intro (show Row W11 w.heap.size #[.int .i64 a, .int .i64 b, .int .i64 c, .int .i64 d, va] 24 from (h.block _ HRA5.lt (.inl hl0)).trans HRA5) (And.intro (h.base HB6 (Nat.le_of_lt hl0) HB6.size) (HW6.spw hE5 h))
  clear hlt3 hsz4 HSW hE6 hE5 c2 c3 okB oB hB HRB5 hsz hsz1
  go_wp2_with (first
    | (refine wpList_load_Row HRC5 rfl _ _ rfl rfl _ Try.underlying24 rfl (eff_isz _ _ _ _ _) ?_)
    | (go_at_call 11; refine (spoil_w W3.heap.size W4.heap.size 1001 a b c d u _ hsW HT6).mono ?_; rintro e W11 ⟨rfl, hsp⟩; clear HRA5 HRC5 HB6 HW6 HT6; obtain ⟨HRA5, HB6, HW6⟩ := HX W11 hsp)
    | (refine wpList_load_Row HRA5 rfl _ _ rfl rfl _ Try.underlying24 rfl (eff_isz _ _ _ _ _) ?_)
    | (go_at_call 8; refine (HBy _ HB6).mono ?_; rintro e W12 ⟨Ay, ky, cy, rfl, hb12, HY, rfl⟩; replace HW6 := HW6.below hb12; replace HB6 := HB6.trans (hb12.mono HB6.size); clear hb12)
    | (go_at_call 12; refine (lB_same _ HEN _ _ _ _ _ _ _ HY rfl HW6 rfl).mono ?_; rintro e W13 ⟨x, rfl, rfl, hb13⟩; replace HB6 := HB6.trans (hb13.mono HB6.size); clear hb13))
  go_ret
  exact ⟨rfl, HB6⟩
def k_leffsame : Nat := 3
def sg_leffsame : Sig := ⟨[(true, List.replicate 4 (.int .i64) ++ [.list 24]), (true, List.replicate 4 (.int .i64) ++ [.list 24])], [(false, [.bool])], false, false, false, false, false⟩
noncomputable def tr_leffsame : Tree := walk E0.cx (sgsN []) 0 3 sg_leffsame
theorem wk_leffsame : walk E0.cx (sgsN []) 0 3 sg_leffsame = tr_leffsame := rfl
theorem bo_leffsame : ∃ x, bodyOf E0.P 3 = some x := bo_of (by kernel_rfl)
theorem eff_split {l : List Dat} {ss : List Srt} (h : All2 (Has E0.Δ) ([.int .i64, .int .i64, .int .i64, .int .i64, .list 24] ++ ss) l) : ∃ a b c d v r rest, l = effD a b c d v r ++ rest ∧ Has E0.Δ (.list 24) (.list v 5 r) ∧ All2 (Has E0.Δ) ss rest := by
  match l, h with
  | _, .cons (.int _ a) (.cons (.int _ b) (.cons (.int _ c) (.cons (.int _ d) (.cons h4 ht)))) =>
    obtain ⟨v, sub, rfl⟩ := eff_list h4
    exact ⟨a, b, c, d, v, sub, _, rfl, h4, ht⟩
theorem leffsame_h : Holds E0 k_leffsame sg_leffsame (fun ds Q => InL ds ∧ Q [.bool true]) := fun w ds Q h1 h2 h3 h4 ⟨hi, hq⟩ => by
  have hok := argE_ok (ss := [.int .i64, .int .i64, .int .i64, .int .i64, .list 24]) h1 hi
  obtain ⟨a, b, c, d, va, ra, rest, rfl, hA, h1'⟩ := eff_split (ss := [.int .i64, .int .i64, .int .i64, .int .i64, .list 24]) h1
  obtain ⟨a', b', c', d', vb, rb, rest', rfl, hB, h1''⟩ := eff_split (ss := []) h1'
  cases h1''
  rw [effD_args] at hok
  refine (law6_w a b c d va ra a' b' c' d' vb rb w hA hB (h2 _ (by simp [effD])) (h2 _ (by simp [effD])) hok).mono ?_
  rintro e w' ⟨rfl, hb⟩
  refine ⟨_, hq, .cons (.bool _) .nil, hb, fun d hd => by rw [List.mem_singleton.1 hd]; exact .bool _, fun k ⟨d, hd, hk⟩ => ?_, ?_⟩
  · rw [List.mem_singleton.1 hd] at hk; cases hk
  · show (if false = true then _ else _)
    rw [if_neg Bool.false_ne_true]; rfl
end Go.Proofs.Ytccdlmiemelifaa
end
