/-
  Bytes as strings, and when two lists of bytes are the same.
-/
import Derived.Test.YtkilkcgnfhlfiaaWir
import Derived.Test.YtkilkcgnfhlfiaaSymO
namespace Go.Proofs.Ytkilkcgnfhlfiaa
open Go.RowKit
set_option linter.unusedVariables false
set_option linter.unusedSimpArgs false

theorem byte_has {d : Dat} (h : Has E0.Δ (.list 5) d) (hi : InD d) : ∃ l : List Nat, d.xs = u8R l ∧ (∀ c ∈ l, c < 256) ∧ l.length ≤ maxLen := by
  cases h with
  | list _ A n c xs hl hh =>
    cases hi with
    | list v sz _ hm hr =>
      have key : ∀ xs : List (List Dat), (∀ r ∈ xs, r.length = (E0.Δ.row 5).length) → (∀ row ∈ xs, ∀ (c : Nat) (s : Srt) (d : Dat), (E0.Δ.row 5)[c]? = some s → row[c]? = some d → Has E0.Δ s d) → (∀ r ∈ xs, ∀ d ∈ r, InD d) → ∃ l : List Nat, xs = u8R l ∧ ∀ c ∈ l, c < 256 := by
        intro xs
        induction xs with
        | nil => intro _ _ _; exact ⟨[], rfl, by simp⟩
        | cons x xs ih =>
          intro h1 h2 h3
          obtain ⟨l, e1, e2⟩ := ih (fun r hr => h1 r (List.mem_cons_of_mem _ hr)) (fun r hr => h2 r (List.mem_cons_of_mem _ hr)) (fun r hr => h3 r (List.mem_cons_of_mem _ hr))
          have hx := h2 x List.mem_cons_self
          have hin := h3 x List.mem_cons_self
          have hlx : x.length = 1 := h1 x List.mem_cons_self
          match x, hlx with
          | [d], _ =>
            have hd : Has E0.Δ (.int .u8) d := hx 0 _ d rfl rfl
            have hid := hin d List.mem_cons_self
            cases hd with
            | int k n =>
              cases hid with
              | int _ _ hw =>
                simp only [Lit.wf, Bool.and_eq_true, decide_eq_true_eq] at hw
                have h0 : 0 ≤ n := hw.1
                have h255 : n ≤ 255 := hw.2
                obtain ⟨m, rfl⟩ := Int.eq_ofNat_of_zero_le h0
                refine ⟨m :: l, by rw [e1]; rfl, fun c hc => ?_⟩
                rcases List.mem_cons.1 hc with rfl | hc
                · omega
                · exact e2 c hc
      obtain ⟨l, e1, e2⟩ := key xs hl hh hr
      exact ⟨l, e1, e2, by simpa [e1, u8R_len] using hm⟩
theorem encI_byte {n : Int} (h1 : -9223372036854775808 ≤ n) (h2 : n ≤ 9223372036854775807) : ∀ c ∈ mth.encI n, c < 256 := by
  have h := mth.zig_lt n h1 h2
  exact mth.encF_byte 9 _ (Nat.lt_of_lt_of_le h (by decide))
/-- bytes are the same -/
theorem loop_toList (b : ByteArray) : ∀ (n i : Nat) (r : List UInt8), b.size - i = n → ByteArray.toList.loop b i r = r.reverse ++ b.data.toList.drop i
  | 0, i, r, h => by
    unfold ByteArray.toList.loop
    have hs : b.data.toList.length = b.size := Array.length_toList
    rw [if_neg (by omega), List.drop_of_length_le (by omega), List.append_nil]
  | n + 1, i, r, h => by
    unfold ByteArray.toList.loop
    have hs : b.data.toList.length = b.size := Array.length_toList
    have hi : i < b.data.toList.length := by omega
    rw [if_pos (by omega), loop_toList b n (i + 1) _ (by omega), List.drop_eq_getElem_cons hi]
    have : b.get! i = b.data.toList[i] := by
      have : i < b.data.size := by simpa using hi
      simp only [ByteArray.get!]
      rw [Array.getElem_toList, getElem!_pos b.data i this]
    rw [this]
    simp
theorem toList_data (b : ByteArray) : b.toList = b.data.toList := (loop_toList b _ 0 [] rfl).trans (by simp)
theorem bytesOf_u8R (l : List Nat) : bytesOf (u8R l) = ⟨(l.map UInt8.ofNat).toArray⟩ := by
  have e : ∀ a : Nat, (Dat.int .u8 (a : Int)).toInt.toNat = a := fun a => rfl
  simp [bytesOf, u8R, e]
theorem u8_inj : ∀ {l m : List Nat}, (∀ c ∈ l, c < 256) → (∀ c ∈ m, c < 256) → (l.map UInt8.ofNat = m.map UInt8.ofNat ↔ l = m)
  | [], [], _, _ => by simp
  | [], _ :: _, _, _ => by simp
  | _ :: _, [], _, _ => by simp
  | a :: l, b :: m, h1, h2 => by
    have ih := u8_inj (fun c hc => h1 c (List.mem_cons_of_mem _ hc)) (fun c hc => h2 c (List.mem_cons_of_mem _ hc))
    have ha := h1 a List.mem_cons_self
    have hb := h2 b List.mem_cons_self
    simp only [List.map_cons, List.cons.injEq, ih]
    refine and_congr_left fun _ => ⟨fun h => ?_, fun h => by rw [h]⟩
    have := congrArg UInt8.toNat h
    rw [UInt8.toNat_ofNat', UInt8.toNat_ofNat'] at this
    omega
theorem u8R_inj {l m : List Nat} (h : u8R l = u8R m) : l = m := by
  have h2 := congrArg (List.map fun r : List Dat => (r.headD (.int .u8 0)).toInt.toNat) h
  have e : ∀ l : List Nat, (u8R l).map (fun r : List Dat => (r.headD (.int .u8 0)).toInt.toNat) = l := fun l => by
    unfold u8R
    rw [List.map_map]
    exact (List.map_congr_left fun a _ => rfl).trans (List.map_id l)
  rw [e, e] at h2
  exact h2
theorem strD_toList {l : List Nat} : (strD (.val (.string (bytesOf (u8R l))))).toList = l.map UInt8.ofNat := by
  rw [bytesOf_u8R, strD, toList_data]
def k_sameB : Nat := 22
def sg_sameB : Sig := ⟨[(false, [.list 5]), (false, [.list 5])], [(false, [.bool])], false, false, false⟩
def tr_sameB : Tree := (.ret [(.seq (.sof (.var 0)) (.sof (.var 1)))])
theorem wk_sameB : walk E0.cx (sgsN []) 0 22 sg_sameB = tr_sameB := by kernel_rfl
theorem bo_sameB : ∃ x, bodyOf E0.P 22 = some x := bo_of (by kernel_rfl)
def sameB_s : Spec := fun ds Q => ∃ l m : List Nat, argL ds 0 = u8R l ∧ argL ds 1 = u8R m ∧ (∀ c ∈ l, c < 256) ∧ (∀ c ∈ m, c < 256) ∧ Q [.bool (decide (l = m))]
theorem sameB_h : Holds E0 k_sameB sg_sameB sameB_s := con_fn wf0 mix0 g0 [] rfl wk_sameB rfl (by
  intro Φ hΦ ds Q hs ⟨l, m, h1, h2, h3, h4, h⟩
  clear hΦ
  simp only [tr_sameB, wp, List.map_cons, List.map_nil, den, argL_fold, h1, h2, strD_toList]
  refine cast (congrArg Q ?_) h
  have e := u8_inj h3 h4
  congr 2
  rw [Bool.eq_iff_iff, decide_eq_true_eq, beq_iff_eq, e])
noncomputable def con_sameB : Con E0 := ⟨k_sameB, sg_sameB, sameB_s, rfl, bo_sameB, sameB_h⟩
end Go.Proofs.Ytkilkcgnfhlfiaa
