import Derived.Test.YtfpgbdefopbfbaaDoorM10
import Derived.Deep.CutBlock
import Derived.BigCall

set_option linter.unusedVariables false
set_option linter.unusedSimpArgs false

section
namespace Go.Proofs.YtfpgbdefopbfbaaDoor
open Go.RowKit
set_option linter.unusedVariables false
set_option linter.unusedSimpArgs false
set_option maxRecDepth 1000000
set_option maxHeartbeats 4000000

theorem cost_sz (v0 v1 v2 v3 v4 v5 : Value) : (Tryd.prog.info? 23).map (·.size) = some (#[v0, v1, v2, v3, v4, v5] : Array Value).size := by kernel_rfl
theorem cost_one (x0 x1 x2 x3 x4 x5 : Int) : (#[Value.int .i64 x0, .int .i64 x1, .int .i64 x2, .int .i64 x3, .int .i64 x4, .int .i64 x5] : Array Value).all (·.oneCell') = true := by
  simp [Value.oneCell']
theorem row_ne {w : World} {b k : Nat} {cs : Array Value} {T : TypeId} {s : ByteArray} {p : Nat} (h : Row w b cs T) (hi : w.heap[k]? = some (.stringIter s p)) : b ≠ k := fun e => by
  subst e
  rw [Row, hi] at h; cases h
theorem row_iter {w : World} {b k : Nat} {cs : Array Value} {T : TypeId} {s : ByteArray} {p : Nat} (h : Row w b cs T) (hi : w.heap[k]? = some (.stringIter s p)) (p' : Nat) : Row (w.iterAt k s p') b cs T := (Lib.iterAt_other w k b s p' (row_ne h hi)).trans h
theorem below_it {w wr : World} {k : Nat} {s : ByteArray} {p : Nat} (h : Below w.heap.size w wr) (hi : wr.heap[k]? = some (.stringIter s p)) (h1 : w.heap.size + 1 ≠ k) (h0 : w.heap.size ≠ k) (p' : Nat) (hk : w.heap.size ≤ k) : Below w.heap.size w (wr.iterAt k s p') := Lib.below_iterAt h hk s p'
theorem it_set {w : World} {k b : Nat} {s : ByteArray} {p : Nat} (h : w.heap[k]? = some (.stringIter s p)) (hne : b ≠ k) (i : Nat) (v : Value) : (w.setCell ⟨b, i, none⟩ v).heap[k]? = some (.stringIter s p) := (heap_setCell_other w ⟨b, i, none⟩ k v (Ne.symm hne)).trans h
theorem below_st {w : World} {B : Nat} (b i : Nat) (v : Value) (hb : B ≤ b) : Below B w (w.setCell ⟨b, i, none⟩ v) := (Below.refl B w).setCell (p := ⟨b, i, none⟩) hb v
theorem below_sr {w : World} {B : Nat} (b : Nat) (cs : Array Value) (hb : B ≤ b) : Below B w (w.setRow b cs) := below_setRow (Below.refl B w) hb cs
theorem dec_at {l : List UInt8} {pos : Nat} (h : pos < l.length) : ∃ x r d, l[pos]? = some x ∧ Utf8.decode ⟨l.toArray⟩ pos = (r, d) ∧ 1 ≤ d ∧ r ≤ 2147483647 ∧ (x.toNat < 128 → r = x.toNat ∧ d = 1) ∧ (128 ≤ x.toNat → 128 ≤ r) := by
  have hs : pos < (ByteArray.mk l.toArray).size := by show pos < l.toArray.size; rw [List.size_toArray]; exact h
  have hx : l[pos]? = some ((ByteArray.mk l.toArray)[pos]'hs) := by
    rw [List.getElem?_eq_getElem h]; rfl
  refine ⟨_, (Utf8.decode ⟨l.toArray⟩ pos).1, (Utf8.decode ⟨l.toArray⟩ pos).2, hx, rfl, ?_, decode_le _ _, fun hlo => ?_, fun hhi => (decode_high _ pos hs hhi).1⟩
  · by_cases hlo : ((ByteArray.mk l.toArray)[pos]'hs).toNat < 128
    · rw [decode_ascii _ pos hs hlo]; exact Nat.le_refl _
    · exact (decode_high _ pos hs (by omega)).2
  · rw [decode_ascii _ pos hs hlo]; exact ⟨rfl, rfl⟩
theorem let_mem {x : UInt8} (h : x ∈ letL) : ∃ k, k < 5 ∧ x = letL.getD k 0 := by
  simp only [letL, List.mem_cons, List.not_mem_nil, or_false] at h
  rcases h with rfl | rfl | rfl | rfl | rfl
  · exact ⟨0, by decide, rfl⟩
  · exact ⟨1, by decide, rfl⟩
  · exact ⟨2, by decide, rfl⟩
  · exact ⟨3, by decide, rfl⟩
  · exact ⟨4, by decide, rfl⟩
theorem let_low {x : UInt8} (h : x ∈ letL) : x.toNat < 128 := by
  simp only [letL, List.mem_cons, List.not_mem_nil, or_false] at h
  rcases h with rfl | rfl | rfl | rfl | rfl <;> decide
theorem idx_k {x : UInt8} {k : Nat} (hk : k < 5) (hx : x = letL.getD k 0) : Lib.indexByte letL x.toNat.toUInt8 = k := by
  subst hx
  match k, hk with
  | 0, _ | 1, _ | 2, _ | 3, _ | 4, _ => decide
theorem idx_none {x : UInt8} {r d : Nat} (hm : x ∉ letL) (hlo : x.toNat < 128 → r = x.toNat ∧ d = 1) (hhi : 128 ≤ x.toNat → 128 ≤ r) : (if r < 128 then Lib.indexByte letL r.toUInt8 else -1) = -1 := by
  by_cases h : x.toNat < 128
  · rw [(hlo h).1, if_pos h]
    have : x.toNat.toUInt8 = x := by simp
    rw [this]; exact idx_let x hm
  · have := hhi (by omega)
    rw [if_neg (by omega)]
theorem Cnt.end_ {l : List UInt8} {pos : Nat} {cs : List Int} (h : Cnt l pos cs) (hp : l.length ≤ pos) : Cnt l l.length cs := by
  obtain ⟨h1, h2, h3⟩ := h
  rw [List.take_of_length_le hp] at h3
  refine ⟨h1, fun i hi => ⟨(h2 i hi).1, (h2 i hi).2.2, (h2 i hi).2.2⟩, fun hall => ⟨Nat.le_refl _, ?_⟩⟩
  rw [List.take_length] at hall ⊢
  exact (h3 hall).2
def Start (l : List UInt8) (w W2 wr : World) (v : Int) (g : Nat) : Prop := ∃ (pos : Nat) (c0 c1 c2 c3 c4 : Int), (rstL l).length ≤ pos + g ∧ Cnt (rstL l) pos [c0, c1, c2, c3, c4] ∧ wr.heap[W2.heap.size]? = some (.stringIter ⟨(rstL l).toArray⟩ pos) ∧ Row wr (w.heap.size + 1) #[.int .i64 c0, .int .i64 c1, .int .i64 c2, .int .i64 c3, .int .i64 c4, .int .i64 v] 23 ∧ Row wr w.heap.size #[.int .i64 0, .int .i64 0, .int .i64 0, .int .i64 0, .int .i64 0, .int .i64 0] 23 ∧ Below w.heap.size w wr
theorem start_b {l : List UInt8} {x : ByteArray} {w W2 : World} (hx : x = ⟨(rstL l).toArray⟩) (HB : Below w.heap.size w W2) (HR1 : Row W2 w.heap.size #[.int .i64 0, .int .i64 0, .int .i64 0, .int .i64 0, .int .i64 0, .int .i64 0] 23) (HR2 : Row W2 (w.heap.size + 1) #[.int .i64 0, .int .i64 0, .int .i64 0, .int .i64 0, .int .i64 0, .int .i64 0] 23) : Start l w W2 (W2.iter x 0) 0 (rstL l).length := by
  subst hx
  exact ⟨0, 0, 0, 0, 0, 0, by omega, Cnt.zero _, World.iter_heap _ _ _, HR2.alloc _, HR1.alloc _, HB.alloc HB.size _⟩
theorem start_a {l : List UInt8} {x : ByteArray} {w W2 : World} {v : Int} (hx : x = ⟨(rstL l).toArray⟩) (HB : Below w.heap.size w W2) (HR1 : Row W2 w.heap.size #[.int .i64 0, .int .i64 0, .int .i64 0, .int .i64 0, .int .i64 0, .int .i64 0] 23) (HR2 : Row W2 (w.heap.size + 1) #[.int .i64 0, .int .i64 0, .int .i64 0, .int .i64 0, .int .i64 0, .int .i64 0] 23) : Start l w W2 ((W2.setCell ⟨w.heap.size + 1, 5, none⟩ (.int .i64 v)).iter x 0) v (rstL l).length := by
  subst hx
  refine ⟨0, 0, 0, 0, 0, 0, by omega, Cnt.zero _, ?_, (HR2.set 5 _).alloc _, (HR1.other (by omega) _ _).alloc _, ?_⟩
  · have := World.iter_heap (W2.setCell ⟨w.heap.size + 1, 5, none⟩ (.int .i64 v)) ⟨(rstL l).toArray⟩ 0
    simpa using this
  · refine (HB.trans (below_st _ _ _ (by omega))).alloc ?_ _
    have := HB.size
    simpa using this
theorem read_w (l : List UInt8) (hl : l.length ≤ 300) (w : World) (hG : E0.globs w) :
    Calls Tryd.prog 27 #[.string ⟨l.toArray⟩] w fun e w' => (∃ c0 c1 c2 c3 c4 : Int, Cnt (rstL l) (rstL l).length [c0, c1, c2, c3, c4] ∧ e = .returned (costV c0 c1 c2 c3 c4 (numF (figL l)))) ∧ Below w.heap.size w w' := by
  have hfl := fig_len l
  have hsz : (ByteArray.mk l.toArray).size = l.length := List.size_toArray
  have hsz2 : (ByteArray.mk (rstL l).toArray).size = (rstL l).length := List.size_toArray
  have HT := fun W => sh_strings_TrimLeft ⟨l.toArray⟩ ⟨digL.toArray⟩ W (by decide) (ascii_of_all (by decide))
  have eT : Lib.trimLeftS (ByteArray.mk l.toArray).data.toList (ByteArray.mk digL.toArray).data.toList = rstL l := rfl
  rw [eT] at HT
  have HG : ∀ o, E0.globs (w.alloc o) := fun o => globs_below hG (Nat.le_refl _) ((Below.refl _ _).alloc (Nat.le_refl _) o)
  go_enter Tryd.func27, Tryd.ntmps27
  go_wp2_with (go_at_call 35; refine (HT _).mono ?_; rintro e W1 ⟨rfl, hb1⟩)
  have hxt : (ByteArray.mk l.toArray).extract 0 (l.length - (rstL l).length) = ⟨(figL l).toArray⟩ := by
    rw [show l.length - (rstL l).length = (figL l).length by omega, Lib.extract_upto]
    show ByteArray.mk (l.take (figL l).length).toArray = _
    rw [fig_take]
  rw [hxt]
  have HB1 : Below w.heap.size w W1 := by
    have := ((Below.refl w.heap.size w).alloc (Nat.le_refl _) (.cells #[.int .i64 0, .int .i64 0, .int .i64 0, .int .i64 0, .int .i64 0, .int .i64 0] 23)).alloc (by simp) (.cells #[.int .i64 0, .int .i64 0, .int .i64 0, .int .i64 0, .int .i64 0, .int .i64 0] 23)
    exact this.trans (hb1.mono (by simp; omega))
  have HG1 : E0.globs W1 := globs_below hG (Nat.le_refl _) HB1
  have HR1 : Row W1 w.heap.size #[.int .i64 0, .int .i64 0, .int .i64 0, .int .i64 0, .int .i64 0, .int .i64 0] 23 := ((Row.new w _ _).alloc _).below hb1
  have HR2 : Row W1 (w.heap.size + 1) #[.int .i64 0, .int .i64 0, .int .i64 0, .int .i64 0, .int .i64 0, .int .i64 0] 23 := by
    have := (Row.new (w.alloc (.cells #[.int .i64 0, .int .i64 0, .int .i64 0, .int .i64 0, .int .i64 0, .int .i64 0] 23)) #[.int .i64 0, .int .i64 0, .int .i64 0, .int .i64 0, .int .i64 0, .int .i64 0] 23).below hb1
    simpa using this
  clear hb1
  refine (atoi_w ⟨(figL l).toArray⟩ (by show (figL l).toArray.size ≤ _; rw [List.size_toArray]; omega) W1 HG1).mono ?_
  rintro e W2 ⟨⟨v, er, rfl, hv⟩, hb2⟩
  have HB2 : Below w.heap.size w W2 := HB1.trans (hb2.mono HB1.size)
  replace HR1 := HR1.below hb2
  replace HR2 := HR2.below hb2
  have en : numF (ByteArray.mk (figL l).toArray).data.toList = numF (figL l) := rfl
  rw [en] at hv
  have hxr : (ByteArray.mk l.toArray).extract (l.length - (rstL l).length) l.length = ⟨(rstL l).toArray⟩ := by
    rw [show l.length - (rstL l).length = (figL l).length by omega]
    have := Lib.extract_from ⟨l.toArray⟩ (figL l).length
    rw [hsz] at this
    rw [this]
    show ByteArray.mk (l.drop (figL l).length).toArray = _
    rw [fig_drop]
  clear hb2 HG1 HB1 hxt HT HG hG
  have hkk : w.heap.size ≤ W2.heap.size := HB2.size
  have HL := Lib.hid (show (rstL l).length ≤ 300 by omega)
  rcases hv with ⟨rfl, rfl⟩ | ⟨⟨t, p, rfl⟩, hz⟩
  · have hc := HR2.cell (i := 5) rfl
    have hf := HR2.free 5
    go_wp2
    clear hc hf hl hfl hxr
    go_loopg [8, 9] (rstL l).length (fun g _ _ wr => Start l w W2 wr (numF (figL l)) g)
    case atStart => exact start_a rfl HB2 HR1 HR2
    case round =>
      clear HR1 HR2 HB2
      obtain ⟨pos, c0, c1, c2, c3, c4, hg, hcnt, hit, HR2, HR1, HB⟩ := hrel
      have hk1 : w.heap.size + 1 ≠ W2.heap.size := row_ne HR2 hit
      have hk0 : w.heap.size ≠ W2.heap.size := row_ne HR1 hit
      by_cases hp : pos < (rstL l).length
      · obtain ⟨x, r, d, hx, hdec, hd1, hr3, hlo, hhi⟩ := dec_at hp
        have hnx := fun ty => Lib.run_next_any_at (P := Tryd.prog) wr W2.heap.size ⟨(rstL l).toArray⟩ pos ty hit (by rw [hsz2]; exact hp)
        simp only [hdec] at hnx
        replace HR1 := row_iter HR1 hit (pos + d)
        replace HR2 := row_iter HR2 hit (pos + d)
        have HI := Lib.iterAt_heap wr W2.heap.size ⟨(rstL l).toArray⟩ pos (pos + d) hit
        have hpos := iterPos_of hit
        replace HB := below_it HB hit hk1 hk0 (pos + d) hkk
        clear hit
        generalize hW4 : wr.iterAt W2.heap.size ⟨(rstL l).toArray⟩ (pos + d) = W4 at *
        by_cases hm : x ∈ letL
        · obtain ⟨k, hk, hxk⟩ := let_mem hm
          have hx128 := let_low hm
          obtain ⟨hrx, hdx⟩ := hlo hx128
          have hI := idx_k hk hxk
          have hi5 : ∀ W, Calls Tryd.prog 37 #[.string letB, .int .i32 r] W fun e w' => e = .returned (.int .i64 k) ∧ Below W.heap.size W w' := fun W => (idx_any r hr3 W).mono fun e w' ⟨i, he, hi, hb⟩ => ⟨by rw [he, hi, if_pos (by omega), hrx, hI], hb⟩
          have hc2 := hcnt.hit hk (by rw [hx, hxk])
          have hcb := hcnt.2.1
          have HM := Lib.hid (And.intro (And.intro hp hg) hdx)
          clear hr3 hlo hhi hx128 hp hg hm hx hdec hd1 hW4 hsz hsz2 hkk hk0 hpos eT
          match k, hk with
          | 0, _ =>
            have hb0 : 0 ≤ c0 ∧ c0 ≤ 300 := ⟨(hcb 0 (by decide)).1, by have := (hcb 0 (by decide)).2.2; change c0 ≤ _ at this; have := HL.out; omega⟩
            have HC := Lib.hid hcnt
            have HC2 := Lib.hid hc2
            have hi6 : ∀ W, Calls Tryd.prog 37 #[.string letB, .int .i32 r] W fun e w' => e = .returned (.int .i64 0) ∧ Below W.heap.size W w' := hi5
            have HX := Lib.hid hdx; clear hdx
            clear hcnt hc2 hcb hI hxk HL hi5 hrx
            go_wp2_with (go_at_call 37; refine (hi6 _).mono ?_; rintro e W5 ⟨rfl, hb5⟩; replace HR1 := HR1.below hb5; replace HR2 := HR2.below hb5; replace HI := (hb5.block _ (Array.getElem?_eq_some_iff.1 HI).1).trans HI; replace HB := HB.trans (hb5.mono HB.size); have hcc := HR2.cell (i := 0) rfl; have hff := HR2.free 0)
            go_roundg (gk - 1)
            case rel => exact ⟨pos + 1, c0 + 1, c1, c2, c3, c4, by have := HM.out; omega, HC2.out, by have h1 := it_set HI hk1 0 (.int .i64 (c0 + 1)); rw [HX.out] at h1; exact h1, HR2.set 0 _, HR1.other (by omega) _ _, HB.trans (below_st _ _ _ (Nat.le_succ _))⟩
            case measure => have := HM.out; omega
          | 1, _ =>
            have hb0 : 0 ≤ c1 ∧ c1 ≤ 300 := ⟨(hcb 1 (by decide)).1, by have := (hcb 1 (by decide)).2.2; change c1 ≤ _ at this; have := HL.out; omega⟩
            have HC := Lib.hid hcnt
            have HC2 := Lib.hid hc2
            have hi6 : ∀ W, Calls Tryd.prog 37 #[.string letB, .int .i32 r] W fun e w' => e = .returned (.int .i64 1) ∧ Below W.heap.size W w' := hi5
            have HX := Lib.hid hdx; clear hdx
            clear hcnt hc2 hcb hI hxk HL hi5 hrx
            go_wp2_with (go_at_call 37; refine (hi6 _).mono ?_; rintro e W5 ⟨rfl, hb5⟩; replace HR1 := HR1.below hb5; replace HR2 := HR2.below hb5; replace HI := (hb5.block _ (Array.getElem?_eq_some_iff.1 HI).1).trans HI; replace HB := HB.trans (hb5.mono HB.size); have hcc := HR2.cell (i := 1) rfl; have hff := HR2.free 1)
            go_roundg (gk - 1)
            case rel => exact ⟨pos + 1, c0, c1 + 1, c2, c3, c4, by have := HM.out; omega, HC2.out, by have h1 := it_set HI hk1 1 (.int .i64 (c1 + 1)); rw [HX.out] at h1; exact h1, HR2.set 1 _, HR1.other (by omega) _ _, HB.trans (below_st _ _ _ (Nat.le_succ _))⟩
            case measure => have := HM.out; omega
          | 2, _ =>
            have hb0 : 0 ≤ c2 ∧ c2 ≤ 300 := ⟨(hcb 2 (by decide)).1, by have := (hcb 2 (by decide)).2.2; change c2 ≤ _ at this; have := HL.out; omega⟩
            have HC := Lib.hid hcnt
            have HC2 := Lib.hid hc2
            have hi6 : ∀ W, Calls Tryd.prog 37 #[.string letB, .int .i32 r] W fun e w' => e = .returned (.int .i64 2) ∧ Below W.heap.size W w' := hi5
            have HX := Lib.hid hdx; clear hdx
            clear hcnt hc2 hcb hI hxk HL hi5 hrx
            go_wp2_with (go_at_call 37; refine (hi6 _).mono ?_; rintro e W5 ⟨rfl, hb5⟩; replace HR1 := HR1.below hb5; replace HR2 := HR2.below hb5; replace HI := (hb5.block _ (Array.getElem?_eq_some_iff.1 HI).1).trans HI; replace HB := HB.trans (hb5.mono HB.size); have hcc := HR2.cell (i := 2) rfl; have hff := HR2.free 2)
            go_roundg (gk - 1)
            case rel => exact ⟨pos + 1, c0, c1, c2 + 1, c3, c4, by have := HM.out; omega, HC2.out, by have h1 := it_set HI hk1 2 (.int .i64 (c2 + 1)); rw [HX.out] at h1; exact h1, HR2.set 2 _, HR1.other (by omega) _ _, HB.trans (below_st _ _ _ (Nat.le_succ _))⟩
            case measure => have := HM.out; omega
          | 3, _ =>
            have hb0 : 0 ≤ c3 ∧ c3 ≤ 300 := ⟨(hcb 3 (by decide)).1, by have := (hcb 3 (by decide)).2.2; change c3 ≤ _ at this; have := HL.out; omega⟩
            have HC := Lib.hid hcnt
            have HC2 := Lib.hid hc2
            have hi6 : ∀ W, Calls Tryd.prog 37 #[.string letB, .int .i32 r] W fun e w' => e = .returned (.int .i64 3) ∧ Below W.heap.size W w' := hi5
            have HX := Lib.hid hdx; clear hdx
            clear hcnt hc2 hcb hI hxk HL hi5 hrx
            go_wp2_with (go_at_call 37; refine (hi6 _).mono ?_; rintro e W5 ⟨rfl, hb5⟩; replace HR1 := HR1.below hb5; replace HR2 := HR2.below hb5; replace HI := (hb5.block _ (Array.getElem?_eq_some_iff.1 HI).1).trans HI; replace HB := HB.trans (hb5.mono HB.size); have hcc := HR2.cell (i := 3) rfl; have hff := HR2.free 3)
            go_roundg (gk - 1)
            case rel => exact ⟨pos + 1, c0, c1, c2, c3 + 1, c4, by have := HM.out; omega, HC2.out, by have h1 := it_set HI hk1 3 (.int .i64 (c3 + 1)); rw [HX.out] at h1; exact h1, HR2.set 3 _, HR1.other (by omega) _ _, HB.trans (below_st _ _ _ (Nat.le_succ _))⟩
            case measure => have := HM.out; omega
          | 4, _ =>
            have hb0 : 0 ≤ c4 ∧ c4 ≤ 300 := ⟨(hcb 4 (by decide)).1, by have := (hcb 4 (by decide)).2.2; change c4 ≤ _ at this; have := HL.out; omega⟩
            have HC := Lib.hid hcnt
            have HC2 := Lib.hid hc2
            have hi6 : ∀ W, Calls Tryd.prog 37 #[.string letB, .int .i32 r] W fun e w' => e = .returned (.int .i64 4) ∧ Below W.heap.size W w' := hi5
            have HX := Lib.hid hdx; clear hdx
            clear hcnt hc2 hcb hI hxk HL hi5 hrx
            go_wp2_with (go_at_call 37; refine (hi6 _).mono ?_; rintro e W5 ⟨rfl, hb5⟩; replace HR1 := HR1.below hb5; replace HR2 := HR2.below hb5; replace HI := (hb5.block _ (Array.getElem?_eq_some_iff.1 HI).1).trans HI; replace HB := HB.trans (hb5.mono HB.size); have hcc := HR2.cell (i := 4) rfl; have hff := HR2.free 4)
            go_roundg (gk - 1)
            case rel => exact ⟨pos + 1, c0, c1, c2, c3, c4 + 1, by have := HM.out; omega, HC2.out, by have h1 := it_set HI hk1 4 (.int .i64 (c4 + 1)); rw [HX.out] at h1; exact h1, HR2.set 4 _, HR1.other (by omega) _ _, HB.trans (below_st _ _ _ (Nat.le_succ _))⟩
            case measure => have := HM.out; omega
        · have hi5 : ∀ W, Calls Tryd.prog 37 #[.string letB, .int .i32 r] W fun e w' => e = .returned (.int .i64 (-1)) ∧ Below W.heap.size W w' := fun W => (idx_any r hr3 W).mono fun e w' ⟨i, he, hi, hb⟩ => ⟨by rw [he, hi, idx_none hm hlo hhi], hb⟩
          have HC := Lib.hid (hcnt.pass hx hm d hd1 (fun h => (hlo h).2))
          have HM := Lib.hid (And.intro (And.intro hp hg) hd1)
          clear hcnt hr3 hlo hhi hp hg hm hx hdec hd1 hW4 hsz hsz2 hkk hk0 hpos eT
          go_wp2_with (go_at_call 37; refine (hi5 _).mono ?_; rintro e W5 ⟨rfl, hb5⟩; replace HR1 := HR1.below hb5; replace HR2 := HR2.below hb5; replace HI := (hb5.block _ (Array.getElem?_eq_some_iff.1 HI).1).trans HI; replace HB := HB.trans (hb5.mono HB.size))
          go_roundg (gk - 1)
          case rel => exact ⟨pos + d, c0, c1, c2, c3, c4, by have := HM.out; omega, HC.out, HI, HR2, HR1, HB⟩
          case measure => have := HM.out; omega
      · have hnx := fun ty => Lib.run_next_end_at (P := Tryd.prog) wr W2.heap.size ⟨(rstL l).toArray⟩ pos ty hit (by rw [hsz2]; exact hp)
        have HC := Lib.hid (hcnt.end_ (by omega))
        clear hcnt hp hg hk0 hk1 hsz hsz2 hkk eT HL
        go_wp2_with (first | (refine wpList_load_Row HR2 rfl _ _ rfl rfl _ Tryd.underlying23 rfl (cost_sz ..) ?_; go_simp) | (refine wpList_store_Row HR1 rfl rfl _ _ _ rfl rfl rfl (cost_sz ..) rfl (cost_one ..) ?_))
        refine bodyPost_ret (results_Row (HR1.setRow _) rfl _ _ rfl Tryd.underlying23 rfl (cost_sz ..)) rfl ?_
        exact ⟨⟨c0, c1, c2, c3, c4, HC.out, rfl⟩, HB.trans (below_sr _ _ (Nat.le_refl _))⟩
  · have hxr2 := hxr
    go_wp2
    clear hl hfl hxr
    go_loopg [8, 9] (rstL l).length (fun g _ _ wr => Start l w W2 wr 0 g)
    case atStart => exact start_b rfl HB2 HR1 HR2
    case round =>
      clear HR1 HR2 HB2
      obtain ⟨pos, c0, c1, c2, c3, c4, hg, hcnt, hit, HR2, HR1, HB⟩ := hrel
      have hk1 : w.heap.size + 1 ≠ W2.heap.size := row_ne HR2 hit
      have hk0 : w.heap.size ≠ W2.heap.size := row_ne HR1 hit
      by_cases hp : pos < (rstL l).length
      · obtain ⟨x, r, d, hx, hdec, hd1, hr3, hlo, hhi⟩ := dec_at hp
        have hnx := fun ty => Lib.run_next_any_at (P := Tryd.prog) wr W2.heap.size ⟨(rstL l).toArray⟩ pos ty hit (by rw [hsz2]; exact hp)
        simp only [hdec] at hnx
        replace HR1 := row_iter HR1 hit (pos + d)
        replace HR2 := row_iter HR2 hit (pos + d)
        have HI := Lib.iterAt_heap wr W2.heap.size ⟨(rstL l).toArray⟩ pos (pos + d) hit
        have hpos := iterPos_of hit
        replace HB := below_it HB hit hk1 hk0 (pos + d) hkk
        clear hit
        generalize hW4 : wr.iterAt W2.heap.size ⟨(rstL l).toArray⟩ (pos + d) = W4 at *
        by_cases hm : x ∈ letL
        · obtain ⟨k, hk, hxk⟩ := let_mem hm
          have hx128 := let_low hm
          obtain ⟨hrx, hdx⟩ := hlo hx128
          have hI := idx_k hk hxk
          have hi5 : ∀ W, Calls Tryd.prog 37 #[.string letB, .int .i32 r] W fun e w' => e = .returned (.int .i64 k) ∧ Below W.heap.size W w' := fun W => (idx_any r hr3 W).mono fun e w' ⟨i, he, hi, hb⟩ => ⟨by rw [he, hi, if_pos (by omega), hrx, hI], hb⟩
          have hc2 := hcnt.hit hk (by rw [hx, hxk])
          have hcb := hcnt.2.1
          have HM := Lib.hid (And.intro (And.intro hp hg) hdx)
          clear hr3 hlo hhi hx128 hp hg hm hx hdec hd1 hW4 hsz hsz2 hkk hk0 hpos eT
          match k, hk with
          | 0, _ =>
            have hb0 : 0 ≤ c0 ∧ c0 ≤ 300 := ⟨(hcb 0 (by decide)).1, by have := (hcb 0 (by decide)).2.2; change c0 ≤ _ at this; have := HL.out; omega⟩
            have HC := Lib.hid hcnt
            have HC2 := Lib.hid hc2
            have hi6 : ∀ W, Calls Tryd.prog 37 #[.string letB, .int .i32 r] W fun e w' => e = .returned (.int .i64 0) ∧ Below W.heap.size W w' := hi5
            have HX := Lib.hid hdx; clear hdx
            clear hcnt hc2 hcb hI hxk HL hi5 hrx
            go_wp2_with (go_at_call 37; refine (hi6 _).mono ?_; rintro e W5 ⟨rfl, hb5⟩; replace HR1 := HR1.below hb5; replace HR2 := HR2.below hb5; replace HI := (hb5.block _ (Array.getElem?_eq_some_iff.1 HI).1).trans HI; replace HB := HB.trans (hb5.mono HB.size); have hcc := HR2.cell (i := 0) rfl; have hff := HR2.free 0)
            go_roundg (gk - 1)
            case rel => exact ⟨pos + 1, c0 + 1, c1, c2, c3, c4, by have := HM.out; omega, HC2.out, by have h1 := it_set HI hk1 0 (.int .i64 (c0 + 1)); rw [HX.out] at h1; exact h1, HR2.set 0 _, HR1.other (by omega) _ _, HB.trans (below_st _ _ _ (Nat.le_succ _))⟩
            case measure => have := HM.out; omega
          | 1, _ =>
            have hb0 : 0 ≤ c1 ∧ c1 ≤ 300 := ⟨(hcb 1 (by decide)).1, by have := (hcb 1 (by decide)).2.2; change c1 ≤ _ at this; have := HL.out; omega⟩
            have HC := Lib.hid hcnt
            have HC2 := Lib.hid hc2
            have hi6 : ∀ W, Calls Tryd.prog 37 #[.string letB, .int .i32 r] W fun e w' => e = .returned (.int .i64 1) ∧ Below W.heap.size W w' := hi5
            have HX := Lib.hid hdx; clear hdx
            clear hcnt hc2 hcb hI hxk HL hi5 hrx
            go_wp2_with (go_at_call 37; refine (hi6 _).mono ?_; rintro e W5 ⟨rfl, hb5⟩; replace HR1 := HR1.below hb5; replace HR2 := HR2.below hb5; replace HI := (hb5.block _ (Array.getElem?_eq_some_iff.1 HI).1).trans HI; replace HB := HB.trans (hb5.mono HB.size); have hcc := HR2.cell (i := 1) rfl; have hff := HR2.free 1)
            go_roundg (gk - 1)
            case rel => exact ⟨pos + 1, c0, c1 + 1, c2, c3, c4, by have := HM.out; omega, HC2.out, by have h1 := it_set HI hk1 1 (.int .i64 (c1 + 1)); rw [HX.out] at h1; exact h1, HR2.set 1 _, HR1.other (by omega) _ _, HB.trans (below_st _ _ _ (Nat.le_succ _))⟩
            case measure => have := HM.out; omega
          | 2, _ =>
            have hb0 : 0 ≤ c2 ∧ c2 ≤ 300 := ⟨(hcb 2 (by decide)).1, by have := (hcb 2 (by decide)).2.2; change c2 ≤ _ at this; have := HL.out; omega⟩
            have HC := Lib.hid hcnt
            have HC2 := Lib.hid hc2
            have hi6 : ∀ W, Calls Tryd.prog 37 #[.string letB, .int .i32 r] W fun e w' => e = .returned (.int .i64 2) ∧ Below W.heap.size W w' := hi5
            have HX := Lib.hid hdx; clear hdx
            clear hcnt hc2 hcb hI hxk HL hi5 hrx
            go_wp2_with (go_at_call 37; refine (hi6 _).mono ?_; rintro e W5 ⟨rfl, hb5⟩; replace HR1 := HR1.below hb5; replace HR2 := HR2.below hb5; replace HI := (hb5.block _ (Array.getElem?_eq_some_iff.1 HI).1).trans HI; replace HB := HB.trans (hb5.mono HB.size); have hcc := HR2.cell (i := 2) rfl; have hff := HR2.free 2)
            go_roundg (gk - 1)
            case rel => exact ⟨pos + 1, c0, c1, c2 + 1, c3, c4, by have := HM.out; omega, HC2.out, by have h1 := it_set HI hk1 2 (.int .i64 (c2 + 1)); rw [HX.out] at h1; exact h1, HR2.set 2 _, HR1.other (by omega) _ _, HB.trans (below_st _ _ _ (Nat.le_succ _))⟩
            case measure => have := HM.out; omega
          | 3, _ =>
            have hb0 : 0 ≤ c3 ∧ c3 ≤ 300 := ⟨(hcb 3 (by decide)).1, by have := (hcb 3 (by decide)).2.2; change c3 ≤ _ at this; have := HL.out; omega⟩
            have HC := Lib.hid hcnt
            have HC2 := Lib.hid hc2
            have hi6 : ∀ W, Calls Tryd.prog 37 #[.string letB, .int .i32 r] W fun e w' => e = .returned (.int .i64 3) ∧ Below W.heap.size W w' := hi5
            have HX := Lib.hid hdx; clear hdx
            clear hcnt hc2 hcb hI hxk HL hi5 hrx
            go_wp2_with (go_at_call 37; refine (hi6 _).mono ?_; rintro e W5 ⟨rfl, hb5⟩; replace HR1 := HR1.below hb5; replace HR2 := HR2.below hb5; replace HI := (hb5.block _ (Array.getElem?_eq_some_iff.1 HI).1).trans HI; replace HB := HB.trans (hb5.mono HB.size); have hcc := HR2.cell (i := 3) rfl; have hff := HR2.free 3)
            go_roundg (gk - 1)
            case rel => exact ⟨pos + 1, c0, c1, c2, c3 + 1, c4, by have := HM.out; omega, HC2.out, by have h1 := it_set HI hk1 3 (.int .i64 (c3 + 1)); rw [HX.out] at h1; exact h1, HR2.set 3 _, HR1.other (by omega) _ _, HB.trans (below_st _ _ _ (Nat.le_succ _))⟩
            case measure => have := HM.out; omega
          | 4, _ =>
            have hb0 : 0 ≤ c4 ∧ c4 ≤ 300 := ⟨(hcb 4 (by decide)).1, by have := (hcb 4 (by decide)).2.2; change c4 ≤ _ at this; have := HL.out; omega⟩
            have HC := Lib.hid hcnt
            have HC2 := Lib.hid hc2
            have hi6 : ∀ W, Calls Tryd.prog 37 #[.string letB, .int .i32 r] W fun e w' => e = .returned (.int .i64 4) ∧ Below W.heap.size W w' := hi5
            have HX := Lib.hid hdx; clear hdx
            clear hcnt hc2 hcb hI hxk HL hi5 hrx
            go_wp2_with (go_at_call 37; refine (hi6 _).mono ?_; rintro e W5 ⟨rfl, hb5⟩; replace HR1 := HR1.below hb5; replace HR2 := HR2.below hb5; replace HI := (hb5.block _ (Array.getElem?_eq_some_iff.1 HI).1).trans HI; replace HB := HB.trans (hb5.mono HB.size); have hcc := HR2.cell (i := 4) rfl; have hff := HR2.free 4)
            go_roundg (gk - 1)
            case rel => exact ⟨pos + 1, c0, c1, c2, c3, c4 + 1, by have := HM.out; omega, HC2.out, by have h1 := it_set HI hk1 4 (.int .i64 (c4 + 1)); rw [HX.out] at h1; exact h1, HR2.set 4 _, HR1.other (by omega) _ _, HB.trans (below_st _ _ _ (Nat.le_succ _))⟩
            case measure => have := HM.out; omega
        · have hi5 : ∀ W, Calls Tryd.prog 37 #[.string letB, .int .i32 r] W fun e w' => e = .returned (.int .i64 (-1)) ∧ Below W.heap.size W w' := fun W => (idx_any r hr3 W).mono fun e w' ⟨i, he, hi, hb⟩ => ⟨by rw [he, hi, idx_none hm hlo hhi], hb⟩
          have HC := Lib.hid (hcnt.pass hx hm d hd1 (fun h => (hlo h).2))
          have HM := Lib.hid (And.intro (And.intro hp hg) hd1)
          clear hcnt hr3 hlo hhi hp hg hm hx hdec hd1 hW4 hsz hsz2 hkk hk0 hpos eT
          go_wp2_with (go_at_call 37; refine (hi5 _).mono ?_; rintro e W5 ⟨rfl, hb5⟩; replace HR1 := HR1.below hb5; replace HR2 := HR2.below hb5; replace HI := (hb5.block _ (Array.getElem?_eq_some_iff.1 HI).1).trans HI; replace HB := HB.trans (hb5.mono HB.size))
          go_roundg (gk - 1)
          case rel => exact ⟨pos + d, c0, c1, c2, c3, c4, by have := HM.out; omega, HC.out, HI, HR2, HR1, HB⟩
          case measure => have := HM.out; omega
      · have hnx := fun ty => Lib.run_next_end_at (P := Tryd.prog) wr W2.heap.size ⟨(rstL l).toArray⟩ pos ty hit (by rw [hsz2]; exact hp)
        have HC := Lib.hid (hcnt.end_ (by omega))
        clear hcnt hp hg hk0 hk1 hsz hsz2 hkk eT HL
        go_wp2_with (first | (refine wpList_load_Row HR2 rfl _ _ rfl rfl _ Tryd.underlying23 rfl (cost_sz ..) ?_; go_simp) | (refine wpList_store_Row HR1 rfl rfl _ _ _ rfl rfl rfl (cost_sz ..) rfl (cost_one ..) ?_))
        refine bodyPost_ret (results_Row (HR1.setRow _) rfl _ _ rfl Tryd.underlying23 rfl (cost_sz ..)) rfl ?_
        exact ⟨⟨c0, c1, c2, c3, c4, HC.out, by rw [hz]; rfl⟩, HB.trans (below_sr _ _ (Nat.le_refl _))⟩
end Go.Proofs.YtfpgbdefopbfbaaDoor
end

section
namespace Go.Proofs.YtfpgbdefopbfbaaDoor
open Go.RowKit
set_option linter.unusedVariables false
set_option linter.unusedSimpArgs false

set_option maxHeartbeats 4000000 in
set_option maxRecDepth 1000000 in
theorem mText_bad (a0 a1 a2 a3 a4 a5 : Int) (w : World) (hG : E0.globs w) (hb : goodC (costD a0 a1 a2 a3 a4 a5) = false) :
    Calls Tryd.prog 8 #[costV a0 a1 a2 a3 a4 a5] w fun e w' => e = .returned (.tuple #[.string ⟨#[]⟩, .iface 44 (.int .i64 2)]) ∧ Below w.heap.size w w' := by
  have HG : ∀ o, E0.globs (w.alloc o) := fun o => globs_below hG (Nat.le_refl _) ((Below.refl _ _).alloc (Nat.le_refl _) o)
  have HB := fun o => (Below.refl w.heap.size w).alloc (Nat.le_refl _) o
  have hcv : costV a0 a1 a2 a3 a4 a5 = .agg #[.int .i64 a0, .int .i64 a1, .int .i64 a2, .int .i64 a3, .int .i64 a4, .int .i64 a5] := rfl
  have HW := fun o => good_w (HG o) a0 a1 a2 a3 a4 a5 hb
  rw [hcv] at HW ⊢
  go_enter Tryd.func8, Tryd.ntmps8
  go_wp2_with (go_at_call 13; refine (HW _).mono ?_)
  rintro e W1 ⟨rfl, hb1⟩
  go_wp2
  go_ret2
  exact ⟨rfl, (HB _).trans (hb1.mono (by simp))⟩
theorem isB_below {T e : TypeId} {B b : Nat} {bs : List Value} {W W' : World} (h : Lib.IsBuilderF T e B b bs W) (hb : Below W.heap.size W W') : Lib.IsBuilderF T e B b bs W' := by
  have key : ∀ {p : Value}, Lib.BuilderAtF T e B b p bs W → Lib.BuilderAtF T e B b p bs W' := fun h => by
    have hlt := h.lt
    obtain ⟨hB, v, hv, hown, hne⟩ := h
    exact ⟨hB, v, (hb.block b hlt).trans hv, hown.kept (row := none) ⟨hb.os, hb.tape, hb.output, hb.size, fun k hk _ => hb.block k hk⟩ (Classical.em _), hne⟩
  exact h.elim (fun x => .inl (key x)) (fun x => .inr (key x))
theorem below_grew (w : World) (k : Nat) (os : Array Obj) : Below w.heap.size w (Sort.grow (w.drewN k) os) :=
  ⟨rfl, rfl, rfl, by show w.heap.size ≤ (w.heap ++ os).size; rw [Array.size_append]; omega, fun j hj => by
    show (w.heap ++ os)[j]? = _
    exact Array.getElem?_append_left hj⟩
theorem dec_len (u : Nat) : (Lib.decDigits u).length ≤ u + 1 := by
  induction u using Nat.strongRecOn with
  | _ u ih =>
    rw [Lib.decDigits]
    split
    · simp
    · have := ih (u / 10) (by omega)
      rw [List.length_append, List.length_cons, List.length_nil]
      omega
theorem isB_app {T e : TypeId} {B b : Nat} {l : List UInt8} {m : List UInt8} {W : World} (h : Lib.BuilderAtF T e B b (.pointer (some ⟨b, 0, none⟩)) (Lib.byteCells l ++ Lib.strCells ⟨m.toArray⟩) W) : Lib.IsBuilderF T e B b (Lib.byteCells (l ++ m)) W := by
  rw [Lib.byteCells_append]; exact Or.inr h
def segL (n0 n1 n2 n3 n4 : Nat) : List (List UInt8) := [Lib.repeatL [87] n0, Lib.repeatL [85] n1, Lib.repeatL [66] n2, Lib.repeatL [82] n3, Lib.repeatL [71] n4]
def maxC (n0 n1 n2 n3 n4 : Nat) : Int := Lib.maxOf [(n0 : Int), n1, n2, n3, n4]
set_option maxHeartbeats 4000000 in
set_option maxRecDepth 1000000 in
theorem mText_long (n0 n1 n2 n3 n4 n5 : Nat) (w : World) (hG : E0.globs w) (hb : goodC (costD n0 n1 n2 n3 n4 n5) = true) (hm : 20 < maxC n0 n1 n2 n3 n4) :
    Calls Tryd.prog 8 #[costV n0 n1 n2 n3 n4 n5] w fun e w' => e = .returned (.tuple #[.string ⟨#[]⟩, .iface 44 (.int .i64 3)]) ∧ Below w.heap.size w w' := by
  have HG : ∀ o, E0.globs (w.alloc o) := fun o => globs_below hG (Nat.le_refl _) ((Below.refl _ _).alloc (Nat.le_refl _) o)
  have HB := fun o => (Below.refl w.heap.size w).alloc (Nat.le_refl _) o
  have hcv : costV n0 n1 n2 n3 n4 n5 = .agg #[.int .i64 n0, .int .i64 n1, .int .i64 n2, .int .i64 n3, .int .i64 n4, .int .i64 n5] := rfl
  have HW := fun o => good_w (HG o) n0 n1 n2 n3 n4 n5 hb
  rw [hcv] at HW ⊢
  go_enter Tryd.func8, Tryd.ntmps8
  go_wp2_with (go_at_call 13; refine (HW _).mono ?_)
  rintro e W1 ⟨rfl, hb1⟩
  have hrow : Row W1 w.heap.size #[.int .i64 n0, .int .i64 n1, .int .i64 n2, .int .i64 n3, .int .i64 n4, .int .i64 n5] 23 := (Row.new w _ _).below hb1
  have hcell : ∀ j, j < [(n0 : Int), n1, n2, n3, n4].length → W1.cell? ⟨w.heap.size, 0 + j, none⟩ = some (.int .i64 ([(n0 : Int), n1, n2, n3, n4].getD j 0)) := fun j hj => by
    match j, hj with
    | 0, _ | 1, _ | 2, _ | 3, _ | 4, _ => exact hrow.cell rfl
  have hmx := sh_slices_Max_int w.heap.size 0 5 6 [(n0 : Int), n1, n2, n3, n4] W1 (by omega) (Nat.le_refl _) (by omega) hcell
  have hmv : Lib.maxOf ([(n0 : Int), n1, n2, n3, n4].take 5) = maxC n0 n1 n2 n3 n4 := rfl
  rw [hmv] at hmx
  generalize maxC n0 n1 n2 n3 n4 = mx at *
  go_wp2_with (go_at_call 19; refine hmx.mono ?_)
  rintro e W2 ⟨rfl, rfl⟩
  go_wp2
  go_ret2
  exact ⟨rfl, (HB _).trans (hb1.mono (by simp))⟩
theorem rep_w {s : ByteArray} {c : UInt8} (hs : s = ⟨#[c]⟩) (n : Nat) (hn : n ≤ 1000) (W : World) :
    Calls Tryd.prog 22 #[.string s, .int .i64 n] W fun e w' => e = .returned (.string ⟨(Lib.repeatL [c] n).toArray⟩) ∧ Below W.heap.size W w' := by
  subst hs
  exact sh_strings_Repeat ⟨#[c]⟩ n W (by omega) (by show 1 * n ≤ _; omega)
theorem rep_len (c : UInt8) (n : Nat) : (Lib.repeatL [c] n).length = n := by rw [Lib.repeatL_length]; simp
theorem seg_len {n0 n1 n2 n3 n4 : Nat} (h0 : n0 ≤ 1000) (h1 : n1 ≤ 1000) (h2 : n2 ≤ 1000) (h3 : n3 ≤ 1000) (h4 : n4 ≤ 1000) {pre : List UInt8} (hp : pre.length ≤ 1001) {k : Nat} (hk : k ≤ 5) {c : UInt8} {n : Nat} (hn : n ≤ 1000) :
    (Lib.byteCells (pre ++ ((segL n0 n1 n2 n3 n4).take k).flatten)).length + (ByteArray.mk (Lib.repeatL [c] n).toArray).size ≤ 140737488355328 := by
  have e : (ByteArray.mk (Lib.repeatL [c] n).toArray).size = n := by
    show (Lib.repeatL [c] n).toArray.size = n
    rw [List.size_toArray, rep_len]
  have f : ((segL n0 n1 n2 n3 n4).take k).flatten.length ≤ 5000 := by
    have : k = 0 ∨ k = 1 ∨ k = 2 ∨ k = 3 ∨ k = 4 ∨ k = 5 := by omega
    rcases this with rfl | rfl | rfl | rfl | rfl | rfl <;> simp [segL, rep_len] <;> omega
  rw [e, Lib.byteCells_length, List.length_append]
  omega
def textB (n0 n1 n2 n3 n4 n5 : Nat) : List UInt8 := (if 0 < n5 ∨ n0 + n1 + n2 + n3 + n4 = 0 then Lib.decDigits n5 else []) ++ (segL n0 n1 n2 n3 n4).flatten
theorem cost_isz (v0 v1 v2 v3 v4 v5 : Value) : (Tryd.prog.info? 23).map (·.size) = some (#[v0, v1, v2, v3, v4, v5] : Array Value).size := by kernel_rfl
set_option maxHeartbeats 4000000 in
set_option maxRecDepth 1000000 in
theorem mText_ok (n0 n1 n2 n3 n4 n5 : Nat) (w : World) (hG : E0.globs w) (hb : goodC (costD n0 n1 n2 n3 n4 n5) = true) (hm : maxC n0 n1 n2 n3 n4 ≤ 20) :
    Calls Tryd.prog 8 #[costV n0 n1 n2 n3 n4 n5] w fun e w' => e = .returned (.tuple #[.string ⟨(textB n0 n1 n2 n3 n4 n5).toArray⟩, .nilIface]) ∧ Below w.heap.size w w' := by
  have HG : ∀ o, E0.globs (w.alloc o) := fun o => globs_below hG (Nat.le_refl _) ((Below.refl _ _).alloc (Nat.le_refl _) o)
  have HB := fun o => (Below.refl w.heap.size w).alloc (Nat.le_refl _) o
  have hcv : costV n0 n1 n2 n3 n4 n5 = .agg #[.int .i64 n0, .int .i64 n1, .int .i64 n2, .int .i64 n3, .int .i64 n4, .int .i64 n5] := rfl
  have HW := fun o => good_w (HG o) n0 n1 n2 n3 n4 n5 hb
  rw [hcv] at HW ⊢
  go_enter Tryd.func8, Tryd.ntmps8
  go_wp2_with (go_at_call 13; refine (HW _).mono ?_)
  rintro e W1 ⟨rfl, hb1⟩
  have hrow : Row W1 w.heap.size #[.int .i64 n0, .int .i64 n1, .int .i64 n2, .int .i64 n3, .int .i64 n4, .int .i64 n5] 23 := (Row.new w _ _).below hb1
  have hcell : ∀ j, j < [(n0 : Int), n1, n2, n3, n4].length → W1.cell? ⟨w.heap.size, 0 + j, none⟩ = some (.int .i64 ([(n0 : Int), n1, n2, n3, n4].getD j 0)) := fun j hj => by
    match j, hj with
    | 0, _ | 1, _ | 2, _ | 3, _ | 4, _ => exact hrow.cell rfl
  have hmx := sh_slices_Max_int w.heap.size 0 5 6 [(n0 : Int), n1, n2, n3, n4] W1 (by omega) (Nat.le_refl _) (by omega) hcell
  have hmv : Lib.maxOf ([(n0 : Int), n1, n2, n3, n4].take 5) = maxC n0 n1 n2 n3 n4 := rfl
  rw [hmv] at hmx
  generalize maxC n0 n1 n2 n3 n4 = mx at *
  have HG1 : E0.globs W1 := globs_below (HG _) (Nat.le_refl _) hb1
  have HB1 : Below w.heap.size w W1 := (HB _).trans (hb1.mono (by simp))
  have hlt1 := hrow.lt
  clear hcell hmv HG HB HW hb1 hG
  go_upto_region 6 with (go_at_call 19; refine hmx.mono ?_; rintro e W2 ⟨rfl, rfl⟩)
  have HI : Lib.IsBuilderF 50 5 W2.heap.size W2.heap.size (Lib.byteCells []) (W2.alloc (.cells #[.pointer none, .slice none 0 0] 50)) := Lib.IsBuilderF.of (Lib.fresh_isBuilder 50 5 W2)
  have HB : Below W2.heap.size W2 (W2.alloc (.cells #[.pointer none, .slice none 0 0] 50)) := (Below.refl _ _).alloc (Nat.le_refl _) _
  generalize W2.alloc (.cells #[.pointer none, .slice none 0 0] 50) = W3 at *
  have HR : Row W3 w.heap.size #[.int .i64 n0, .int .i64 n1, .int .i64 n2, .int .i64 n3, .int .i64 n4, .int .i64 n5] 23 := hrow.below HB
  have hc5 : W3.cell? ⟨w.heap.size, 5, none⟩ = some (.int .i64 n5) := HR.cell rfl
  have HG3 : E0.globs W3 := globs_below HG1 (Nat.le_refl _) HB
  have hn5 : n5 ≤ 1000 := by
    have := (goodC_t.1 hb 5 (by omega)).2
    change (n5 : Int) ≤ 1000 at this
    omega
  have hwl : (Lib.byteCells []).length + (ByteArray.mk (Lib.decDigits n5).toArray).size ≤ 140737488355328 := by
    have := dec_len n5
    show 0 + (Lib.decDigits n5).toArray.size ≤ _
    rw [List.size_toArray]; omega
  have c0 : n0 ≤ 1000 := by have := (goodC_t.1 hb 0 (by omega)).2; change (n0 : Int) ≤ 1000 at this; omega
  have c1 : n1 ≤ 1000 := by have := (goodC_t.1 hb 1 (by omega)).2; change (n1 : Int) ≤ 1000 at this; omega
  have c2 : n2 ≤ 1000 := by have := (goodC_t.1 hb 2 (by omega)).2; change (n2 : Int) ≤ 1000 at this; omega
  have c3 : n3 ≤ 1000 := by have := (goodC_t.1 hb 3 (by omega)).2; change (n3 : Int) ≤ 1000 at this; omega
  have c4 : n4 ≤ 1000 := by have := (goodC_t.1 hb 4 (by omega)).2; change (n4 : Int) ≤ 1000 at this; omega
  by_cases h5 : (0 : Int) < (n5 : Int)
  · have HIT : Calls Tryd.prog 21 #[.int .i64 n5] W3 fun e w' => e = .returned (.string ⟨(Lib.decDigits n5).toArray⟩) ∧ Below W3.heap.size W3 w' :=
      (sh_strconv_Itoa (n5 : Int) (by omega) (by omega) W3 (pow_tab HG3)).mono fun e w' ⟨he, k, os, hw⟩ => ⟨by rw [he, Lib.itoa_nonneg], by rw [hw]; exact below_grew _ _ _⟩
    go_upto_region 8 with (first
      | (go_at_call 21; refine HIT.mono ?_; rintro e W4 ⟨rfl, hb4⟩; replace HI := isB_below HI hb4; replace HB := HB.trans (hb4.mono HB.size); clear hb4)
      | (go_at_call 20; refine (sh_Builder_WriteString_k W2.heap.size W2.heap.size _ _ _ HI hwl HB.size).mono ?_; rintro e W5 ⟨rfl, hI1, hb5, ho5⟩; replace HI := isB_app hI1; replace HB := HB.trans hb5; clear hI1 hb5 ho5))
    generalize hpre : [] ++ Lib.decDigits n5 = pre at HI
    have HP := Lib.hid hpre
    clear hpre
    clear HIT HR hc5 HG3
    have hpl : pre.length ≤ 1001 := by rw [← HP.out]; first | (simp; done) | (rw [List.nil_append]; have := dec_len n5; omega)
    go_wp2
    go_loopw [29] (fun iv wr => ∃ (k : Nat), k ≤ 5 ∧ iv = .int .i64 k ∧ Lib.IsBuilderF 50 5 W2.heap.size W2.heap.size (Lib.byteCells (pre ++ ((segL n0 n1 n2 n3 n4).take k).flatten)) wr ∧ Below W2.heap.size W2 wr) (fun iv _ => 5 - (intOf iv).toNat)
    case atStart => exact ⟨0, by omega, rfl, by rw [List.take_zero, List.flatten_nil, List.append_nil]; exact HI, HB⟩
    case round =>
      clear HI HB
      obtain ⟨k, hk, rfl, HI, HB⟩ := hrel
      have HR : Row wr w.heap.size #[.int .i64 n0, .int .i64 n1, .int .i64 n2, .int .i64 n3, .int .i64 n4, .int .i64 n5] 23 := hrow.below HB
      by_cases hk5 : k < 5
      · obtain rfl | rfl | rfl | rfl | rfl : k = 0 ∨ k = 1 ∨ k = 2 ∨ k = 3 ∨ k = 4 := by omega
        · have hck : wr.cell? ⟨w.heap.size, 0, none⟩ = some (.int .i64 n0) := HR.cell rfl
          have HREP := fun W => rep_w (s := (ByteArray.mk #[87, 85, 66, 82, 71]).extract 0 1) (c := 87) rfl n0 c0 W
          have hwk := seg_len c0 c1 c2 c3 c4 hpl (k := 0) (by omega) (c := 87) c0
          go_wp2_with (first
            | (go_at_call 22; refine (HREP _).mono ?_; rintro e W4 ⟨rfl, hb4⟩; replace HI := isB_below HI hb4; replace HB := HB.trans (hb4.mono HB.size); clear hb4)
            | (go_at_call 20; refine (sh_Builder_WriteString_k W2.heap.size W2.heap.size _ _ _ HI hwk HB.size).mono ?_; rintro e W5 ⟨rfl, hI1, hb5, ho5⟩; replace HI := isB_app hI1; replace HB := HB.trans hb5; clear hI1 hb5 ho5))
          go_roundw
          case rel =>
            have e : pre ++ ((segL n0 n1 n2 n3 n4).take 1).flatten = (pre ++ ((segL n0 n1 n2 n3 n4).take 0).flatten) ++ Lib.repeatL [87] n0 := by simp [segL]
            exact ⟨1, by omega, (by first | rfl | go_num), (by rw [e]; exact HI), HB⟩
          case measure => simp [intOf]
        · have hck : wr.cell? ⟨w.heap.size, 1, none⟩ = some (.int .i64 n1) := HR.cell rfl
          have HREP := fun W => rep_w (s := (ByteArray.mk #[87, 85, 66, 82, 71]).extract 1 2) (c := 85) rfl n1 c1 W
          have hwk := seg_len c0 c1 c2 c3 c4 hpl (k := 1) (by omega) (c := 85) c1
          go_wp2_with (first
            | (go_at_call 22; refine (HREP _).mono ?_; rintro e W4 ⟨rfl, hb4⟩; replace HI := isB_below HI hb4; replace HB := HB.trans (hb4.mono HB.size); clear hb4)
            | (go_at_call 20; refine (sh_Builder_WriteString_k W2.heap.size W2.heap.size _ _ _ HI hwk HB.size).mono ?_; rintro e W5 ⟨rfl, hI1, hb5, ho5⟩; replace HI := isB_app hI1; replace HB := HB.trans hb5; clear hI1 hb5 ho5))
          go_roundw
          case rel =>
            have e : pre ++ ((segL n0 n1 n2 n3 n4).take 2).flatten = (pre ++ ((segL n0 n1 n2 n3 n4).take 1).flatten) ++ Lib.repeatL [85] n1 := by simp [segL]
            exact ⟨2, by omega, (by first | rfl | go_num), (by rw [e]; exact HI), HB⟩
          case measure => simp [intOf]
        · have hck : wr.cell? ⟨w.heap.size, 2, none⟩ = some (.int .i64 n2) := HR.cell rfl
          have HREP := fun W => rep_w (s := (ByteArray.mk #[87, 85, 66, 82, 71]).extract 2 3) (c := 66) rfl n2 c2 W
          have hwk := seg_len c0 c1 c2 c3 c4 hpl (k := 2) (by omega) (c := 66) c2
          go_wp2_with (first
            | (go_at_call 22; refine (HREP _).mono ?_; rintro e W4 ⟨rfl, hb4⟩; replace HI := isB_below HI hb4; replace HB := HB.trans (hb4.mono HB.size); clear hb4)
            | (go_at_call 20; refine (sh_Builder_WriteString_k W2.heap.size W2.heap.size _ _ _ HI hwk HB.size).mono ?_; rintro e W5 ⟨rfl, hI1, hb5, ho5⟩; replace HI := isB_app hI1; replace HB := HB.trans hb5; clear hI1 hb5 ho5))
          go_roundw
          case rel =>
            have e : pre ++ ((segL n0 n1 n2 n3 n4).take 3).flatten = (pre ++ ((segL n0 n1 n2 n3 n4).take 2).flatten) ++ Lib.repeatL [66] n2 := by simp [segL]
            exact ⟨3, by omega, (by first | rfl | go_num), (by rw [e]; exact HI), HB⟩
          case measure => simp [intOf]
        · have hck : wr.cell? ⟨w.heap.size, 3, none⟩ = some (.int .i64 n3) := HR.cell rfl
          have HREP := fun W => rep_w (s := (ByteArray.mk #[87, 85, 66, 82, 71]).extract 3 4) (c := 82) rfl n3 c3 W
          have hwk := seg_len c0 c1 c2 c3 c4 hpl (k := 3) (by omega) (c := 82) c3
          go_wp2_with (first
            | (go_at_call 22; refine (HREP _).mono ?_; rintro e W4 ⟨rfl, hb4⟩; replace HI := isB_below HI hb4; replace HB := HB.trans (hb4.mono HB.size); clear hb4)
            | (go_at_call 20; refine (sh_Builder_WriteString_k W2.heap.size W2.heap.size _ _ _ HI hwk HB.size).mono ?_; rintro e W5 ⟨rfl, hI1, hb5, ho5⟩; replace HI := isB_app hI1; replace HB := HB.trans hb5; clear hI1 hb5 ho5))
          go_roundw
          case rel =>
            have e : pre ++ ((segL n0 n1 n2 n3 n4).take 4).flatten = (pre ++ ((segL n0 n1 n2 n3 n4).take 3).flatten) ++ Lib.repeatL [82] n3 := by simp [segL]
            exact ⟨4, by omega, (by first | rfl | go_num), (by rw [e]; exact HI), HB⟩
          case measure => simp [intOf]
        · have hck : wr.cell? ⟨w.heap.size, 4, none⟩ = some (.int .i64 n4) := HR.cell rfl
          have HREP := fun W => rep_w (s := (ByteArray.mk #[87, 85, 66, 82, 71]).extract 4 5) (c := 71) rfl n4 c4 W
          have hwk := seg_len c0 c1 c2 c3 c4 hpl (k := 4) (by omega) (c := 71) c4
          go_wp2_with (first
            | (go_at_call 22; refine (HREP _).mono ?_; rintro e W4 ⟨rfl, hb4⟩; replace HI := isB_below HI hb4; replace HB := HB.trans (hb4.mono HB.size); clear hb4)
            | (go_at_call 20; refine (sh_Builder_WriteString_k W2.heap.size W2.heap.size _ _ _ HI hwk HB.size).mono ?_; rintro e W5 ⟨rfl, hI1, hb5, ho5⟩; replace HI := isB_app hI1; replace HB := HB.trans hb5; clear hI1 hb5 ho5))
          go_roundw
          case rel =>
            have e : pre ++ ((segL n0 n1 n2 n3 n4).take 5).flatten = (pre ++ ((segL n0 n1 n2 n3 n4).take 4).flatten) ++ Lib.repeatL [71] n4 := by simp [segL]
            exact ⟨5, by omega, (by first | rfl | go_num), (by rw [e]; exact HI), HB⟩
          case measure => simp [intOf]
      · obtain rfl : k = 5 := by omega
        have e5 : ((segL n0 n1 n2 n3 n4).take 5).flatten = (segL n0 n1 n2 n3 n4).flatten := rfl
        rw [e5] at HI
        go_wp2_with (go_at_call 23; refine (sh_Builder_String_any_k W2.heap.size W2.heap.size _ _ HI HB.size).mono ?_; rintro e W6 ⟨rfl, _, hb6, _⟩)
        go_ret2
        have hT : textB n0 n1 n2 n3 n4 n5 = pre ++ (segL n0 n1 n2 n3 n4).flatten := by rw [← HP.out]; unfold textB; rw [if_pos (Or.inl (by omega)), List.nil_append]
        rw [hT]
        exact ⟨rfl, HB1.trans ((HB.trans hb6).mono (Nat.le_of_lt hlt1))⟩
  have z5 : n5 = 0 := by omega
  subst z5
  have htot := totC_good hb
  change totC (costD n0 n1 n2 n3 n4 0) = (n0 : Int) + n1 + n2 + n3 + n4 + 0 at htot
  have HMT := total_w HG3 n0 n1 n2 n3 n4 0 htot
  have hcv0 : costV n0 n1 n2 n3 n4 0 = .agg #[.int .i64 n0, .int .i64 n1, .int .i64 n2, .int .i64 n3, .int .i64 n4, .int .i64 0] := rfl
  rw [hcv0] at HMT
  have HR : Row W3 w.heap.size #[.int .i64 n0, .int .i64 n1, .int .i64 n2, .int .i64 n3, .int .i64 n4, .int .i64 0] 23 := HR
  have hc5 : W3.cell? ⟨w.heap.size, 5, none⟩ = some (.int .i64 0) := hc5
  clear h5 hcv hcv0 hn5
  by_cases hs0 : n0 + n1 + n2 + n3 + n4 = 0
  · rw [show (n0 : Int) + n1 + n2 + n3 + n4 + 0 = 0 by omega] at HMT
    go_upto_region 8 with (first
      | (refine wpList_load_RowW HR rfl _ _ rfl rfl _ Tryd.underlying23 rfl (cost_isz ..) ?_)
      | (go_at_call 15; refine HMT.mono ?_; rintro e W7 ⟨rfl, hb7⟩; replace HI := isB_below HI hb7; replace HR := HR.below hb7; replace HB := HB.trans (hb7.mono HB.size); have hc5 := HR.cell (i := 5) rfl; have HG4 := globs_below HG1 (Nat.le_refl _) HB)
      | (go_at_call 21; refine ((sh_strconv_Itoa 0 (by omega) (by omega) _ (pow_tab HG4)).mono fun e w' ⟨he, k, os, hw⟩ => (⟨he.trans (congrArg (fun l : List UInt8 => Ending.returned (Value.string ⟨l.toArray⟩)) (Lib.itoa_nonneg 0)), by rw [hw]; exact below_grew _ _ _⟩ : e = Ending.returned (.string ⟨(Lib.decDigits 0).toArray⟩) ∧ Below W7.heap.size W7 w')).mono ?_; rintro e W4 ⟨rfl, hb4⟩; replace HI := isB_below HI hb4; replace HB := HB.trans (hb4.mono HB.size); clear hb4)
      | (go_at_call 20; refine (sh_Builder_WriteString_k W2.heap.size W2.heap.size _ _ _ HI hwl HB.size).mono ?_; rintro e W5 ⟨rfl, hI1, hb5, ho5⟩; replace HI := isB_app hI1; replace HB := HB.trans hb5; clear hI1 hb5 ho5))
    generalize hpre : [] ++ Lib.decDigits 0 = pre at HI
    have HP := Lib.hid hpre
    clear hpre
    clear HMT HR hc5 HG3
    have hpl : pre.length ≤ 1001 := by rw [← HP.out]; first | (simp; done) | (rw [List.nil_append]; have := dec_len 0; omega)
    go_wp2
    go_loopw [29] (fun iv wr => ∃ (k : Nat), k ≤ 5 ∧ iv = .int .i64 k ∧ Lib.IsBuilderF 50 5 W2.heap.size W2.heap.size (Lib.byteCells (pre ++ ((segL n0 n1 n2 n3 n4).take k).flatten)) wr ∧ Below W2.heap.size W2 wr) (fun iv _ => 5 - (intOf iv).toNat)
    case atStart => exact ⟨0, by omega, rfl, by rw [List.take_zero, List.flatten_nil, List.append_nil]; exact HI, HB⟩
    case round =>
      clear HI HB
      obtain ⟨k, hk, rfl, HI, HB⟩ := hrel
      have HR : Row wr w.heap.size #[.int .i64 n0, .int .i64 n1, .int .i64 n2, .int .i64 n3, .int .i64 n4, .int .i64 0] 23 := hrow.below HB
      by_cases hk5 : k < 5
      · obtain rfl | rfl | rfl | rfl | rfl : k = 0 ∨ k = 1 ∨ k = 2 ∨ k = 3 ∨ k = 4 := by omega
        · have hck : wr.cell? ⟨w.heap.size, 0, none⟩ = some (.int .i64 n0) := HR.cell rfl
          have HREP := fun W => rep_w (s := (ByteArray.mk #[87, 85, 66, 82, 71]).extract 0 1) (c := 87) rfl n0 c0 W
          have hwk := seg_len c0 c1 c2 c3 c4 hpl (k := 0) (by omega) (c := 87) c0
          go_wp2_with (first
            | (go_at_call 22; refine (HREP _).mono ?_; rintro e W4 ⟨rfl, hb4⟩; replace HI := isB_below HI hb4; replace HB := HB.trans (hb4.mono HB.size); clear hb4)
            | (go_at_call 20; refine (sh_Builder_WriteString_k W2.heap.size W2.heap.size _ _ _ HI hwk HB.size).mono ?_; rintro e W5 ⟨rfl, hI1, hb5, ho5⟩; replace HI := isB_app hI1; replace HB := HB.trans hb5; clear hI1 hb5 ho5))
          go_roundw
          case rel =>
            have e : pre ++ ((segL n0 n1 n2 n3 n4).take 1).flatten = (pre ++ ((segL n0 n1 n2 n3 n4).take 0).flatten) ++ Lib.repeatL [87] n0 := by simp [segL]
            exact ⟨1, by omega, (by first | rfl | go_num), (by rw [e]; exact HI), HB⟩
          case measure => simp [intOf]
        · have hck : wr.cell? ⟨w.heap.size, 1, none⟩ = some (.int .i64 n1) := HR.cell rfl
          have HREP := fun W => rep_w (s := (ByteArray.mk #[87, 85, 66, 82, 71]).extract 1 2) (c := 85) rfl n1 c1 W
          have hwk := seg_len c0 c1 c2 c3 c4 hpl (k := 1) (by omega) (c := 85) c1
          go_wp2_with (first
            | (go_at_call 22; refine (HREP _).mono ?_; rintro e W4 ⟨rfl, hb4⟩; replace HI := isB_below HI hb4; replace HB := HB.trans (hb4.mono HB.size); clear hb4)
            | (go_at_call 20; refine (sh_Builder_WriteString_k W2.heap.size W2.heap.size _ _ _ HI hwk HB.size).mono ?_; rintro e W5 ⟨rfl, hI1, hb5, ho5⟩; replace HI := isB_app hI1; replace HB := HB.trans hb5; clear hI1 hb5 ho5))
          go_roundw
          case rel =>
            have e : pre ++ ((segL n0 n1 n2 n3 n4).take 2).flatten = (pre ++ ((segL n0 n1 n2 n3 n4).take 1).flatten) ++ Lib.repeatL [85] n1 := by simp [segL]
            exact ⟨2, by omega, (by first | rfl | go_num), (by rw [e]; exact HI), HB⟩
          case measure => simp [intOf]
        · have hck : wr.cell? ⟨w.heap.size, 2, none⟩ = some (.int .i64 n2) := HR.cell rfl
          have HREP := fun W => rep_w (s := (ByteArray.mk #[87, 85, 66, 82, 71]).extract 2 3) (c := 66) rfl n2 c2 W
          have hwk := seg_len c0 c1 c2 c3 c4 hpl (k := 2) (by omega) (c := 66) c2
          go_wp2_with (first
            | (go_at_call 22; refine (HREP _).mono ?_; rintro e W4 ⟨rfl, hb4⟩; replace HI := isB_below HI hb4; replace HB := HB.trans (hb4.mono HB.size); clear hb4)
            | (go_at_call 20; refine (sh_Builder_WriteString_k W2.heap.size W2.heap.size _ _ _ HI hwk HB.size).mono ?_; rintro e W5 ⟨rfl, hI1, hb5, ho5⟩; replace HI := isB_app hI1; replace HB := HB.trans hb5; clear hI1 hb5 ho5))
          go_roundw
          case rel =>
            have e : pre ++ ((segL n0 n1 n2 n3 n4).take 3).flatten = (pre ++ ((segL n0 n1 n2 n3 n4).take 2).flatten) ++ Lib.repeatL [66] n2 := by simp [segL]
            exact ⟨3, by omega, (by first | rfl | go_num), (by rw [e]; exact HI), HB⟩
          case measure => simp [intOf]
        · have hck : wr.cell? ⟨w.heap.size, 3, none⟩ = some (.int .i64 n3) := HR.cell rfl
          have HREP := fun W => rep_w (s := (ByteArray.mk #[87, 85, 66, 82, 71]).extract 3 4) (c := 82) rfl n3 c3 W
          have hwk := seg_len c0 c1 c2 c3 c4 hpl (k := 3) (by omega) (c := 82) c3
          go_wp2_with (first
            | (go_at_call 22; refine (HREP _).mono ?_; rintro e W4 ⟨rfl, hb4⟩; replace HI := isB_below HI hb4; replace HB := HB.trans (hb4.mono HB.size); clear hb4)
            | (go_at_call 20; refine (sh_Builder_WriteString_k W2.heap.size W2.heap.size _ _ _ HI hwk HB.size).mono ?_; rintro e W5 ⟨rfl, hI1, hb5, ho5⟩; replace HI := isB_app hI1; replace HB := HB.trans hb5; clear hI1 hb5 ho5))
          go_roundw
          case rel =>
            have e : pre ++ ((segL n0 n1 n2 n3 n4).take 4).flatten = (pre ++ ((segL n0 n1 n2 n3 n4).take 3).flatten) ++ Lib.repeatL [82] n3 := by simp [segL]
            exact ⟨4, by omega, (by first | rfl | go_num), (by rw [e]; exact HI), HB⟩
          case measure => simp [intOf]
        · have hck : wr.cell? ⟨w.heap.size, 4, none⟩ = some (.int .i64 n4) := HR.cell rfl
          have HREP := fun W => rep_w (s := (ByteArray.mk #[87, 85, 66, 82, 71]).extract 4 5) (c := 71) rfl n4 c4 W
          have hwk := seg_len c0 c1 c2 c3 c4 hpl (k := 4) (by omega) (c := 71) c4
          go_wp2_with (first
            | (go_at_call 22; refine (HREP _).mono ?_; rintro e W4 ⟨rfl, hb4⟩; replace HI := isB_below HI hb4; replace HB := HB.trans (hb4.mono HB.size); clear hb4)
            | (go_at_call 20; refine (sh_Builder_WriteString_k W2.heap.size W2.heap.size _ _ _ HI hwk HB.size).mono ?_; rintro e W5 ⟨rfl, hI1, hb5, ho5⟩; replace HI := isB_app hI1; replace HB := HB.trans hb5; clear hI1 hb5 ho5))
          go_roundw
          case rel =>
            have e : pre ++ ((segL n0 n1 n2 n3 n4).take 5).flatten = (pre ++ ((segL n0 n1 n2 n3 n4).take 4).flatten) ++ Lib.repeatL [71] n4 := by simp [segL]
            exact ⟨5, by omega, (by first | rfl | go_num), (by rw [e]; exact HI), HB⟩
          case measure => simp [intOf]
      · obtain rfl : k = 5 := by omega
        have e5 : ((segL n0 n1 n2 n3 n4).take 5).flatten = (segL n0 n1 n2 n3 n4).flatten := rfl
        rw [e5] at HI
        go_wp2_with (go_at_call 23; refine (sh_Builder_String_any_k W2.heap.size W2.heap.size _ _ HI HB.size).mono ?_; rintro e W6 ⟨rfl, _, hb6, _⟩)
        go_ret2
        have hT : textB n0 n1 n2 n3 n4 0 = pre ++ (segL n0 n1 n2 n3 n4).flatten := by rw [← HP.out]; unfold textB; rw [if_pos (Or.inr (by omega)), List.nil_append]
        rw [hT]
        exact ⟨rfl, HB1.trans ((HB.trans hb6).mono (Nat.le_of_lt hlt1))⟩
  · have htz : ((n0 : Int) + n1 + n2 + n3 + n4 + 0 == 0) = false := by rw [beq_eq_false_iff_ne]; omega
    generalize (n0 : Int) + n1 + n2 + n3 + n4 + 0 = tt at HMT htz
    go_upto_region 8 with (first
      | (refine wpList_load_RowW HR rfl _ _ rfl rfl _ Tryd.underlying23 rfl (cost_isz ..) ?_)
      | (go_at_call 15; refine HMT.mono ?_; rintro e W7 ⟨rfl, hb7⟩; replace HI := isB_below HI hb7; replace HR := HR.below hb7; replace HB := HB.trans (hb7.mono HB.size); have hc5 := HR.cell (i := 5) rfl; have HG4 := globs_below HG1 (Nat.le_refl _) HB))
    obtain ⟨pre, hpre⟩ : ∃ pre : List UInt8, [] = pre := ⟨_, rfl⟩
    rw [hpre] at HI
    have HP := Lib.hid hpre
    clear hpre
    clear HMT HR hc5 HG3
    have hpl : pre.length ≤ 1001 := by rw [← HP.out]; first | (simp; done) | (rw [List.nil_append]; have := dec_len 0; omega)
    go_wp2
    go_loopw [29] (fun iv wr => ∃ (k : Nat), k ≤ 5 ∧ iv = .int .i64 k ∧ Lib.IsBuilderF 50 5 W2.heap.size W2.heap.size (Lib.byteCells (pre ++ ((segL n0 n1 n2 n3 n4).take k).flatten)) wr ∧ Below W2.heap.size W2 wr) (fun iv _ => 5 - (intOf iv).toNat)
    case atStart => exact ⟨0, by omega, rfl, by rw [List.take_zero, List.flatten_nil, List.append_nil]; exact HI, HB⟩
    case round =>
      clear HI HB
      obtain ⟨k, hk, rfl, HI, HB⟩ := hrel
      have HR : Row wr w.heap.size #[.int .i64 n0, .int .i64 n1, .int .i64 n2, .int .i64 n3, .int .i64 n4, .int .i64 0] 23 := hrow.below HB
      by_cases hk5 : k < 5
      · obtain rfl | rfl | rfl | rfl | rfl : k = 0 ∨ k = 1 ∨ k = 2 ∨ k = 3 ∨ k = 4 := by omega
        · have hck : wr.cell? ⟨w.heap.size, 0, none⟩ = some (.int .i64 n0) := HR.cell rfl
          have HREP := fun W => rep_w (s := (ByteArray.mk #[87, 85, 66, 82, 71]).extract 0 1) (c := 87) rfl n0 c0 W
          have hwk := seg_len c0 c1 c2 c3 c4 hpl (k := 0) (by omega) (c := 87) c0
          go_wp2_with (first
            | (go_at_call 22; refine (HREP _).mono ?_; rintro e W4 ⟨rfl, hb4⟩; replace HI := isB_below HI hb4; replace HB := HB.trans (hb4.mono HB.size); clear hb4)
            | (go_at_call 20; refine (sh_Builder_WriteString_k W2.heap.size W2.heap.size _ _ _ HI hwk HB.size).mono ?_; rintro e W5 ⟨rfl, hI1, hb5, ho5⟩; replace HI := isB_app hI1; replace HB := HB.trans hb5; clear hI1 hb5 ho5))
          go_roundw
          case rel =>
            have e : pre ++ ((segL n0 n1 n2 n3 n4).take 1).flatten = (pre ++ ((segL n0 n1 n2 n3 n4).take 0).flatten) ++ Lib.repeatL [87] n0 := by simp [segL]
            exact ⟨1, by omega, (by first | rfl | go_num), (by rw [e]; exact HI), HB⟩
          case measure => simp [intOf]
        · have hck : wr.cell? ⟨w.heap.size, 1, none⟩ = some (.int .i64 n1) := HR.cell rfl
          have HREP := fun W => rep_w (s := (ByteArray.mk #[87, 85, 66, 82, 71]).extract 1 2) (c := 85) rfl n1 c1 W
          have hwk := seg_len c0 c1 c2 c3 c4 hpl (k := 1) (by omega) (c := 85) c1
          go_wp2_with (first
            | (go_at_call 22; refine (HREP _).mono ?_; rintro e W4 ⟨rfl, hb4⟩; replace HI := isB_below HI hb4; replace HB := HB.trans (hb4.mono HB.size); clear hb4)
            | (go_at_call 20; refine (sh_Builder_WriteString_k W2.heap.size W2.heap.size _ _ _ HI hwk HB.size).mono ?_; rintro e W5 ⟨rfl, hI1, hb5, ho5⟩; replace HI := isB_app hI1; replace HB := HB.trans hb5; clear hI1 hb5 ho5))
          go_roundw
          case rel =>
            have e : pre ++ ((segL n0 n1 n2 n3 n4).take 2).flatten = (pre ++ ((segL n0 n1 n2 n3 n4).take 1).flatten) ++ Lib.repeatL [85] n1 := by simp [segL]
            exact ⟨2, by omega, (by first | rfl | go_num), (by rw [e]; exact HI), HB⟩
          case measure => simp [intOf]
        · have hck : wr.cell? ⟨w.heap.size, 2, none⟩ = some (.int .i64 n2) := HR.cell rfl
          have HREP := fun W => rep_w (s := (ByteArray.mk #[87, 85, 66, 82, 71]).extract 2 3) (c := 66) rfl n2 c2 W
          have hwk := seg_len c0 c1 c2 c3 c4 hpl (k := 2) (by omega) (c := 66) c2
          go_wp2_with (first
            | (go_at_call 22; refine (HREP _).mono ?_; rintro e W4 ⟨rfl, hb4⟩; replace HI := isB_below HI hb4; replace HB := HB.trans (hb4.mono HB.size); clear hb4)
            | (go_at_call 20; refine (sh_Builder_WriteString_k W2.heap.size W2.heap.size _ _ _ HI hwk HB.size).mono ?_; rintro e W5 ⟨rfl, hI1, hb5, ho5⟩; replace HI := isB_app hI1; replace HB := HB.trans hb5; clear hI1 hb5 ho5))
          go_roundw
          case rel =>
            have e : pre ++ ((segL n0 n1 n2 n3 n4).take 3).flatten = (pre ++ ((segL n0 n1 n2 n3 n4).take 2).flatten) ++ Lib.repeatL [66] n2 := by simp [segL]
            exact ⟨3, by omega, (by first | rfl | go_num), (by rw [e]; exact HI), HB⟩
          case measure => simp [intOf]
        · have hck : wr.cell? ⟨w.heap.size, 3, none⟩ = some (.int .i64 n3) := HR.cell rfl
          have HREP := fun W => rep_w (s := (ByteArray.mk #[87, 85, 66, 82, 71]).extract 3 4) (c := 82) rfl n3 c3 W
          have hwk := seg_len c0 c1 c2 c3 c4 hpl (k := 3) (by omega) (c := 82) c3
          go_wp2_with (first
            | (go_at_call 22; refine (HREP _).mono ?_; rintro e W4 ⟨rfl, hb4⟩; replace HI := isB_below HI hb4; replace HB := HB.trans (hb4.mono HB.size); clear hb4)
            | (go_at_call 20; refine (sh_Builder_WriteString_k W2.heap.size W2.heap.size _ _ _ HI hwk HB.size).mono ?_; rintro e W5 ⟨rfl, hI1, hb5, ho5⟩; replace HI := isB_app hI1; replace HB := HB.trans hb5; clear hI1 hb5 ho5))
          go_roundw
          case rel =>
            have e : pre ++ ((segL n0 n1 n2 n3 n4).take 4).flatten = (pre ++ ((segL n0 n1 n2 n3 n4).take 3).flatten) ++ Lib.repeatL [82] n3 := by simp [segL]
            exact ⟨4, by omega, (by first | rfl | go_num), (by rw [e]; exact HI), HB⟩
          case measure => simp [intOf]
        · have hck : wr.cell? ⟨w.heap.size, 4, none⟩ = some (.int .i64 n4) := HR.cell rfl
          have HREP := fun W => rep_w (s := (ByteArray.mk #[87, 85, 66, 82, 71]).extract 4 5) (c := 71) rfl n4 c4 W
          have hwk := seg_len c0 c1 c2 c3 c4 hpl (k := 4) (by omega) (c := 71) c4
          go_wp2_with (first
            | (go_at_call 22; refine (HREP _).mono ?_; rintro e W4 ⟨rfl, hb4⟩; replace HI := isB_below HI hb4; replace HB := HB.trans (hb4.mono HB.size); clear hb4)
            | (go_at_call 20; refine (sh_Builder_WriteString_k W2.heap.size W2.heap.size _ _ _ HI hwk HB.size).mono ?_; rintro e W5 ⟨rfl, hI1, hb5, ho5⟩; replace HI := isB_app hI1; replace HB := HB.trans hb5; clear hI1 hb5 ho5))
          go_roundw
          case rel =>
            have e : pre ++ ((segL n0 n1 n2 n3 n4).take 5).flatten = (pre ++ ((segL n0 n1 n2 n3 n4).take 4).flatten) ++ Lib.repeatL [71] n4 := by simp [segL]
            exact ⟨5, by omega, (by first | rfl | go_num), (by rw [e]; exact HI), HB⟩
          case measure => simp [intOf]
      · obtain rfl : k = 5 := by omega
        have e5 : ((segL n0 n1 n2 n3 n4).take 5).flatten = (segL n0 n1 n2 n3 n4).flatten := rfl
        rw [e5] at HI
        go_wp2_with (go_at_call 23; refine (sh_Builder_String_any_k W2.heap.size W2.heap.size _ _ HI HB.size).mono ?_; rintro e W6 ⟨rfl, _, hb6, _⟩)
        go_ret2
        have hT : textB n0 n1 n2 n3 n4 0 = pre ++ (segL n0 n1 n2 n3 n4).flatten := by rw [← HP.out]; unfold textB; rw [if_neg (by omega)]
        rw [hT]
        exact ⟨rfl, HB1.trans ((HB.trans hb6).mono (Nat.le_of_lt hlt1))⟩
end Go.Proofs.YtfpgbdefopbfbaaDoor
end

section
namespace Go.Proofs.YtfpgbdefopbfbaaDoor
open Go.RowKit
set_option linter.unusedVariables false
set_option linter.unusedSimpArgs false

def strV (l : List UInt8) : Dat := .val (.string ⟨l.toArray⟩)
def longC (ds : List Dat) : Bool := (List.range 5).any fun i => decide (20 < argI ds i)
def textN (ds : List Dat) : Int := if goodC ds = false then 2 else if longC ds = true then 3 else 0
def textA (ds : List Dat) : List UInt8 := textB (argI ds 0).toNat (argI ds 1).toNat (argI ds 2).toNat (argI ds 3).toNat (argI ds 4).toNat (argI ds 5).toNat
def textL (ds : List Dat) : List UInt8 := if textN ds = 0 then textA ds else []
theorem max_gt (a b c d e : Int) : 20 < Lib.maxOf [a, b, c, d, e] ↔ 20 < a ∨ 20 < b ∨ 20 < c ∨ 20 < d ∨ 20 < e := by
  simp [Lib.maxOf]
  omega
theorem longC_t {ds : List Dat} : longC ds = true ↔ 20 < argI ds 0 ∨ 20 < argI ds 1 ∨ 20 < argI ds 2 ∨ 20 < argI ds 3 ∨ 20 < argI ds 4 := by
  unfold longC
  simp [List.range, List.range.loop]
def k_mText : Nat := 8
def sg_mText : Sig := ⟨[(true, List.replicate 6 (.int .i64))], [(false, [.str]), (false, [.err])], false, false, false, false, false⟩
noncomputable def tr_mText : Tree := walk E0.cx (sgsN []) 0 8 sg_mText
theorem wk_mText : walk E0.cx (sgsN []) 0 8 sg_mText = tr_mText := rfl
theorem bo_mText : ∃ x, bodyOf E0.P 8 = some x := bo_of (by kernel_rfl)
def mText_s : Spec := fun ds Q => Q [strV (textL ds), errV (textN ds)]
theorem errV_has4 (n : Int) : Has E0.Δ .err (errV n) := by
  unfold errV
  split
  · exact .nili
  · exact .ifc n
theorem mText_h : Holds E0 k_mText sg_mText mText_s := fun w ds Q h1 h2 h3 h4 h => by
  have h : Q [strV (textL ds), errV (textN ds)] := h
  have hl : ds.length = 6 := h1.length.symm
  match ds, hl with
  | [d0, d1, d2, d3, d4, d5], _ =>
  have hI : ∀ {i : Nat} {d : Dat}, i < 6 → [d0, d1, d2, d3, d4, d5][i]? = some d → ∃ n : Int, d = .int .i64 n := fun {i d} hi hd => by
    obtain ⟨s, hs, hh⟩ := h1.get2 hd
    have e : s = .int .i64 := by
      match i, hi with
      | 0, _ | 1, _ | 2, _ | 3, _ | 4, _ | 5, _ => exact (Option.some.inj hs).symm
    subst e
    cases hh with
    | int k n => exact ⟨n, rfl⟩
  obtain ⟨a0, rfl⟩ := hI (i := 0) (by omega) rfl
  obtain ⟨a1, rfl⟩ := hI (i := 1) (by omega) rfl
  obtain ⟨a2, rfl⟩ := hI (i := 2) (by omega) rfl
  obtain ⟨a3, rfl⟩ := hI (i := 3) (by omega) rfl
  obtain ⟨a4, rfl⟩ := hI (i := 4) (by omega) rfl
  obtain ⟨a5, rfl⟩ := hI (i := 5) (by omega) rfl
  have fin : ∀ e w', e = Ending.returned (.tuple #[.string ⟨(textL (costD a0 a1 a2 a3 a4 a5)).toArray⟩, (errV (textN (costD a0 a1 a2 a3 a4 a5))).toV]) → Below w.heap.size w w' → Ends E0 sg_mText w w' (fun k => AtL (costD a0 a1 a2 a3 a4 a5) k ∨ AtL E0.γ k) Q e := fun e w' he hb => by
    refine ⟨_, h, .cons (.str _) (.cons (errV_has4 _) .nil), hb, fun d hd => ?_, fun k ⟨d, hd, hk⟩ => ?_, ?_⟩
    · rcases List.mem_cons.1 hd with rfl | hd
      · exact .val _
      · rw [List.mem_singleton.1 hd]; unfold errV; split <;> exact .val _
    · rcases List.mem_cons.1 hd with rfl | hd
      · cases hk
      · rw [List.mem_singleton.1 hd] at hk
        unfold errV at hk
        split at hk <;> cases hk
    · show (if false = true then _ else _)
      rw [if_neg Bool.false_ne_true, he]; rfl
  cases hg : goodC (costD a0 a1 a2 a3 a4 a5) with
  | false =>
    have hn : textN (costD a0 a1 a2 a3 a4 a5) = 2 := by unfold textN; rw [if_pos hg]
    have ht : textL (costD a0 a1 a2 a3 a4 a5) = [] := by unfold textL; rw [hn, if_neg (by decide)]
    refine (mText_bad a0 a1 a2 a3 a4 a5 w h4 hg).mono fun e w' ⟨he, hb⟩ => fin e w' ?_ hb
    rw [he, hn, ht]; rfl
  | true =>
    have gd := goodC_t.1 hg
    obtain ⟨n0, rfl⟩ := Int.eq_ofNat_of_zero_le (show 0 ≤ a0 from (gd 0 (by omega)).1)
    obtain ⟨n1, rfl⟩ := Int.eq_ofNat_of_zero_le (show 0 ≤ a1 from (gd 1 (by omega)).1)
    obtain ⟨n2, rfl⟩ := Int.eq_ofNat_of_zero_le (show 0 ≤ a2 from (gd 2 (by omega)).1)
    obtain ⟨n3, rfl⟩ := Int.eq_ofNat_of_zero_le (show 0 ≤ a3 from (gd 3 (by omega)).1)
    obtain ⟨n4, rfl⟩ := Int.eq_ofNat_of_zero_le (show 0 ≤ a4 from (gd 4 (by omega)).1)
    obtain ⟨n5, rfl⟩ := Int.eq_ofNat_of_zero_le (show 0 ≤ a5 from (gd 5 (by omega)).1)
    have hmx : 20 < maxC n0 n1 n2 n3 n4 ↔ longC (costD n0 n1 n2 n3 n4 n5) = true := (max_gt _ _ _ _ _).trans (longC_t (ds := costD n0 n1 n2 n3 n4 n5)).symm
    by_cases hm : 20 < maxC n0 n1 n2 n3 n4
    · have hn : textN (costD n0 n1 n2 n3 n4 n5) = 3 := by unfold textN; rw [if_neg (by rw [hg]; decide), if_pos (hmx.1 hm)]
      have ht : textL (costD n0 n1 n2 n3 n4 n5) = [] := by unfold textL; rw [hn, if_neg (by decide)]
      refine (mText_long n0 n1 n2 n3 n4 n5 w h4 hg hm).mono fun e w' ⟨he, hb⟩ => fin e w' ?_ hb
      rw [he, hn, ht]; rfl
    · have hn : textN (costD n0 n1 n2 n3 n4 n5) = 0 := by unfold textN; rw [if_neg (by rw [hg]; decide), if_neg (fun hx => hm (hmx.2 hx))]
      have ht : textL (costD n0 n1 n2 n3 n4 n5) = textB n0 n1 n2 n3 n4 n5 := by unfold textL; rw [hn, if_pos rfl]; rfl
      refine (mText_ok n0 n1 n2 n3 n4 n5 w h4 hg (by omega)).mono fun e w' ⟨he, hb⟩ => fin e w' ?_ hb
      rw [he, hn, ht]; rfl
noncomputable def con_mText : Con E0 := ⟨k_mText, sg_mText, mText_s, rfl, bo_mText, mText_h⟩
end Go.Proofs.YtfpgbdefopbfbaaDoor
end

section
namespace Go.Proofs.YtfpgbdefopbfbaaDoor
open Go.RowKit
set_option linter.unusedVariables false
set_option linter.unusedSimpArgs false

theorem strD_V (l : List UInt8) : strD (strV l) = ⟨l.toArray⟩ := rfl
theorem strV_B (l : List Nat) : Dat.val (strB l) = strV (l.map UInt8.ofNat) := rfl
theorem ba_app (a b : List UInt8) : (ByteArray.mk a.toArray ++ ByteArray.mk b.toArray) = ByteArray.mk (a ++ b).toArray := by
  apply ByteArray.ext
  rw [ByteArray.data_append]
  simp
theorem den_sapp (Δ : Tab) (ρ : List Dat) (a b : Tm) : den Δ ρ (.sapp a b) = .val (.string (strD (den Δ ρ a) ++ strD (den Δ ρ b))) := rfl
theorem den_strl (Δ : Tab) (ρ : List Dat) (l : List Nat) : den Δ ρ (.str l) = strV (l.map UInt8.ofNat) := rfl
theorem den_sofV (Δ : Tab) (ρ : List Dat) (a : Tm) : den Δ ρ (.sof a) = strV ((den Δ ρ a).xs.map fun r => UInt8.ofNat (r.headD (.int .u8 0)).toInt.toNat) := rfl
theorem den_slenV (Δ : Tab) (ρ : List Dat) (a : Tm) : den Δ ρ (.slen a) = .int .i64 (strD (den Δ ρ a)).size := rfl
theorem den_seqV (Δ : Tab) (ρ : List Dat) (a b : Tm) : den Δ ρ (.seq a b) = .bool ((strD (den Δ ρ a)).toList == (strD (den Δ ρ b)).toList) := rfl
theorem sapp_V (a b : List UInt8) : Dat.val (.string (strD (strV a) ++ strD (strV b))) = strV (a ++ b) := by
  rw [strD_V, strD_V, ba_app]; rfl
theorem size_V (l : List UInt8) : (strD (strV l)).size = l.length := by
  show l.toArray.size = _
  rw [List.size_toArray]
theorem digitV (d : Nat) (hd : d < 10) : UInt8.ofNat ([Dat.int .u8 (IntKind.u8.wrap (IntKind.i64.wrap (48 + (d : Int))))].headD (Dat.int .u8 0)).toInt.toNat = UInt8.ofNat (48 + d) := by
  have e : IntKind.u8.wrap (IntKind.i64.wrap (48 + (d : Int))) = ((48 + d : Nat) : Int) := by
    rw [wrap64 (by omega) (by omega), IntKind.wrap_u8]; omega
  show UInt8.ofNat (IntKind.u8.wrap (IntKind.i64.wrap (48 + (d : Int)))).toNat = _
  rw [e, Int.toNat_natCast]
theorem quo10 (k : Nat) (h : k ≤ 1000000) : Ar.quo.of .i64 (k : Int) 10 = ((k / 10 : Nat) : Int) := by
  show IntKind.i64.wrap ((k : Int).tdiv 10) = _
  have e : (k : Int).tdiv 10 = ((k / 10 : Nat) : Int) := by
    rw [Int.tdiv_eq_ediv_of_nonneg (by omega)]; omega
  rw [e, wrap64 (by omega) (by omega)]
theorem mod10 (k : Nat) : (k : Int).tmod 10 = ((k % 10 : Nat) : Int) := by
  rw [Int.tmod_eq_emod_of_nonneg (by omega)]; omega
def mF (ds : List Dat) : Nat := (argI ds 0).toNat
def k_figs : Nat := 24
def sg_figs : Sig := ⟨[(false, [.int .i64])], [(false, [.str])], false, false, true, false, false⟩
def tr_figs : Tree := (.ite (.cmp .lt (.var 0) (.int .i64 10))
 (.ret [(.sof (.push .emp (.econs (.conv .u8 (.ar .add .i64 (.int .i64 48) (.var 0))) .enil)))])
 (.both (.call k_figs [(.ar .quo .i64 (.var 0) (.int .i64 10))] [.str]
 (.ob (.cmp .le (.slen (.sapp (.var 1) (.sof (.push .emp (.econs (.conv .u8 (.ar .add .i64 (.int .i64 48) (.ar .rem .i64 (.var 0) (.int .i64 10)))) .enil))))) (.int .i64 9223372036854775807))
 (.ret [(.sapp (.var 1) (.sof (.push .emp (.econs (.conv .u8 (.ar .add .i64 (.int .i64 48) (.ar .rem .i64 (.var 0) (.int .i64 10)))) .enil))))]))) (.both (.call k_figs [(.ar .quo .i64 (.var 0) (.int .i64 10))] [.str]
 (.ob (.cmp .le (.slen (.sapp (.var 1) (.sof (.push .emp (.econs (.conv .u8 (.ar .add .i64 (.int .i64 48) (.ar .rem .i64 (.var 0) (.int .i64 10)))) .enil))))) (.int .i64 9223372036854775807))
 (.ret [(.sapp (.var 1) (.sof (.push .emp (.econs (.conv .u8 (.ar .add .i64 (.int .i64 48) (.ar .rem .i64 (.var 0) (.int .i64 10)))) .enil))))]))) (.call k_figs [(.ar .quo .i64 (.var 0) (.int .i64 10))] [.str]
 (.ob (.cmp .le (.slen (.sapp (.var 1) (.sof (.push .emp (.econs (.conv .u8 (.ar .add .i64 (.int .i64 48) (.ar .rem .i64 (.var 0) (.int .i64 10)))) .enil))))) (.int .i64 9223372036854775807))
 (.ret [(.sapp (.var 1) (.sof (.push .emp (.econs (.conv .u8 (.ar .add .i64 (.int .i64 48) (.ar .rem .i64 (.var 0) (.int .i64 10)))) .enil))))]))))))
theorem wk_figs : walk E0.cx (sgsN [(24, sg_figs)]) 0 24 sg_figs = tr_figs := by kernel_rfl
theorem bo_figs : ∃ x, bodyOf E0.P 24 = some x := bo_of (by kernel_rfl)
def figs_s : Spec := fun ds Q => ∃ n : Nat, argI ds 0 = n ∧ n ≤ 1000000 ∧ Q [strV (Lib.decDigits n)]
theorem figs_h : Holds E0 k_figs sg_figs figs_s := holds_rec mF fun n ih => con_fn wf0 mix0 g0 [⟨_, _, _, rfl, bo_figs, ih⟩] rfl wk_figs rfl (by
  intro Φ hΦ ds Q hs ⟨hm, k, hk, hk6, h⟩
  have hl : ds.length = 1 := hs.length.symm
  have sp : Φ k_figs = (fun ds Q => mF ds < n ∧ figs_s ds Q) := by rw [hΦ]; rfl
  clear hΦ
  simp only [tr_figs, wp, den_int, den_bool, den_nili, den_ar, den_cmp, den_not, den_len, den_elem, den_isnil, den_errI, den_ifc, den_rep, den_push, den_app, den_emp, den_upd, row0_econs, row0_enil, den_and, den_beq, den_nil, toInt_int, toBool_bool, xs_rows, xs_list, dflt_int, dflt_bool, of_eq, of_ne, of_lt, of_le, of_gt, of_ge, of_add, of_sub, of_rem, List.map_cons, List.map_nil, Dat.bool.injEq, decide_eq_true_eq, decide_eq_false_iff_not, Bool.not_eq_true', Bool.not_eq_false', beq_iff_eq, bne_iff_ne, beq_eq_false_iff_ne, bne_eq_false_iff_eq, ne_eq, List.append_assoc, List.cons_append, List.nil_append, allS, sp, figs_s, @den_var0 E0.Δ ds, den_varA, den_varB, hl, Nat.reduceLT, Nat.reduceLeDiff, Nat.reduceSub, List.getD_cons_zero, List.getD_cons_succ, argL_fold ds, argI_fold ds, List.append_assoc, List.cons_append, List.nil_append, toInt_int, toBool_bool, xs_rows, xs_list, Int.toNat_natCast, Dat.bool.injEq, den_or, den_sapp, den_sofV, den_slenV, den_conv, hk, sapp_V, size_V, quo10 k hk6, mod10, digitV (k % 10) (by omega)]
  rw [Lib.decDigits] at h
  have hm : k < n + 1 := by
    have : mF ds = k := by unfold mF; rw [hk, Int.toNat_natCast]
    omega
  refine ⟨fun hlt => ?_, fun hge => ?_⟩
  · rw [dif_pos (by omega)] at h
    rw [digitV k (by omega)]
    exact h
  · rw [dif_neg (by omega)] at h
    have hl2 := dec_len (k / 10)
    have key : mF [Dat.int .i64 ((k / 10 : Nat) : Int)] < n ∧ ∃ n : Nat, argI [Dat.int .i64 ((k / 10 : Nat) : Int)] 0 = n ∧ n ≤ 1000000 ∧ (((Lib.decDigits n ++ [UInt8.ofNat (48 + k % 10)]).length : Nat) : Int) ≤ 9223372036854775807 ∧ Q [strV (Lib.decDigits n ++ [UInt8.ofNat (48 + k % 10)])] := by
      refine ⟨?_, k / 10, rfl, by omega, ?_, h⟩
      · show ((k / 10 : Nat) : Int).toNat < n
        rw [Int.toNat_natCast]; omega
      · rw [List.length_append, List.length_cons, List.length_nil]; omega
    exact ⟨key, key, key⟩)
noncomputable def con_figs : Con E0 := ⟨k_figs, sg_figs, figs_s, rfl, bo_figs, figs_h⟩
end Go.Proofs.YtfpgbdefopbfbaaDoor
end

section
namespace Go.Proofs.YtfpgbdefopbfbaaDoor
open Go.RowKit
set_option linter.unusedVariables false
set_option linter.unusedSimpArgs false

theorem rep_snoc (c : UInt8) : ∀ n, Lib.repeatL [c] (n + 1) = Lib.repeatL [c] n ++ [c]
  | 0 => rfl
  | n + 1 => by
    show [c] ++ Lib.repeatL [c] (n + 1) = ([c] ++ Lib.repeatL [c] n) ++ [c]
    rw [rep_snoc c n, List.append_assoc]
theorem loop_toList (b : ByteArray) : ∀ (n i : Nat) (r : List UInt8), b.size - i = n → ByteArray.toList.loop b i r = r.reverse ++ b.data.toList.drop i
  | 0, i, r, h => by
    unfold ByteArray.toList.loop
    have hs : b.data.toList.length = b.size := Array.length_toList
    rw [if_neg (by omega), List.drop_of_length_le (by omega), List.append_nil]
  | n + 1, i, r, h => by
    unfold ByteArray.toList.loop
    have hs : b.data.toList.length = b.size := Array.length_toList
    have hi : i < b.data.toList.length := by omega
    rw [if_pos (by omega), loop_toList b n (i + 1) _ (by omega), List.drop_eq_getElem_cons hi]
    have : b.get! i = b.data.toList[i] := by
      have : i < b.data.size := by simpa using hi
      simp only [ByteArray.get!]
      rw [Array.getElem_toList, getElem!_pos b.data i this]
    rw [this]
    simp
theorem toList_data (b : ByteArray) : b.toList = b.data.toList := (loop_toList b _ 0 [] rfl).trans (by simp)
theorem toList_V (l : List UInt8) : (strD (strV l)).toList = l := by
  rw [strD_V, toList_data]
theorem textN_bad {ds : List Dat} (h : goodC ds = false) : textN ds = 2 ∧ textL ds = [] := by
  have e : textN ds = 2 := by unfold textN; rw [if_pos h]
  exact ⟨e, by unfold textL; rw [e, if_neg (by decide)]⟩
theorem textN_long {ds : List Dat} (h : goodC ds = true) (hl : longC ds = true) : textN ds = 3 ∧ textL ds = [] := by
  have e : textN ds = 3 := by unfold textN; rw [if_neg (by rw [h]; decide), if_pos hl]
  exact ⟨e, by unfold textL; rw [e, if_neg (by decide)]⟩
theorem textN_ok {ds : List Dat} (h : goodC ds = true) (hl : ¬ longC ds = true) : textN ds = 0 ∧ textL ds = textA ds := by
  have e : textN ds = 0 := by unfold textN; rw [if_neg (by rw [h]; decide), if_neg hl]
  exact ⟨e, by unfold textL; rw [e, if_pos rfl]⟩
def LoopS (T : Nat) (pre : List UInt8) (c : UInt8) : List Dat → Nat → Prop := fun xs m => ∃ (k : Nat) (rest : List Dat), k ≤ T ∧ m = T - k ∧ xs = strV (pre ++ Lib.repeatL [c] k) :: .int .i64 k :: rest
theorem LoopS_start (T : Nat) (pre : List UInt8) (c : UInt8) (rest : List Dat) : ∃ m, LoopS T pre c (strV pre :: .int .i64 0 :: rest) m :=
  ⟨T, 0, rest, by omega, rfl, by show _ = strV (pre ++ []) :: _; rw [List.append_nil]; rfl⟩
theorem LoopS_step {T : Nat} {pre : List UInt8} {c : UInt8} {k m : Nat} {rest : List Dat} (hk : k < T) (hT : T ≤ 1000) (hp : pre.length ≤ 10000) (hm : m = T - k) :
    ((strD (Dat.val (Value.string (strD (strV (pre ++ Lib.repeatL [c] k)) ++ strD (strV [c]))))).size : Int) ≤ 9223372036854775807 ∧
    ∃ m', m' < m ∧ LoopS T pre c (Dat.val (Value.string (strD (strV (pre ++ Lib.repeatL [c] k)) ++ strD (strV [c]))) :: .int .i64 (IntKind.i64.wrap ((k : Int) + 1)) :: rest) m' := by
  rw [sapp_V, size_V]
  refine ⟨?_, T - (k + 1), by omega, k + 1, rest, by omega, rfl, ?_⟩
  · rw [List.length_append, List.length_append, rep_len, List.length_cons, List.length_nil]; omega
  · rw [wrap64 (by omega) (by omega), rep_snoc, List.append_assoc]; rfl
def k_rText04 : Nat := 9
def sg_rText04 : Sig := ⟨[(true, List.replicate 6 (.int .i64))], [(false, [.str]), (false, [.int .i64])], false, true, true, false, false⟩
def tr_rText04_1 : Tree := (.ite (.cmp .lt (.var 28) (.var 4)) (.ob (.cmp .le (.slen (.sapp (.var 27) (.str [71]))) (.int .i64 9223372036854775807)) (.again 4 [(.sapp (.var 27) (.str [71])), (.ar .add .i64 (.var 28) (.int .i64 1)), (.var 28), (.int .i64 4), (.var 4), (.cmp .lt (.var 28) (.var 4))])) (.ite (.or (.cmp .gt (.var 5) (.int .i64 0)) (.seq (.var 27) (.str []))) (.call k_figs [(.var 5)] [.str] (.ob (.cmp .le (.slen (.sapp (.var 33) (.var 27))) (.int .i64 9223372036854775807)) (.ret [(.sapp (.var 33) (.var 27)), (.int .i64 0)]))) (.ret [(.var 27), (.int .i64 0)])))
def tr_rText04_2 : Tree := (.ite (.cmp .lt (.var 22) (.var 3)) (.ob (.cmp .le (.slen (.sapp (.var 21) (.str [82]))) (.int .i64 9223372036854775807)) (.again 3 [(.sapp (.var 21) (.str [82])), (.ar .add .i64 (.var 22) (.int .i64 1)), (.var 22), (.int .i64 3), (.var 3), (.cmp .lt (.var 22) (.var 3))])) (.ite (.cmp .gt (.var 4) (.int .i64 20)) (.ret [(.str []), (.int .i64 3)]) (.loop [(.var 21), (.int .i64 0), (.var 22), (.int .i64 3), (.var 3), (.cmp .lt (.var 22) (.var 3))] [.str, (.int .i64), (.int .i64), (.int .i64), (.int .i64), .bool] tr_rText04_1)))
def tr_rText04_3 : Tree := (.ite (.cmp .lt (.var 16) (.var 2)) (.ob (.cmp .le (.slen (.sapp (.var 15) (.str [66]))) (.int .i64 9223372036854775807)) (.again 2 [(.sapp (.var 15) (.str [66])), (.ar .add .i64 (.var 16) (.int .i64 1)), (.var 16), (.int .i64 2), (.var 2), (.cmp .lt (.var 16) (.var 2))])) (.ite (.cmp .gt (.var 3) (.int .i64 20)) (.ret [(.str []), (.int .i64 3)]) (.loop [(.var 15), (.int .i64 0), (.var 16), (.int .i64 2), (.var 2), (.cmp .lt (.var 16) (.var 2))] [.str, (.int .i64), (.int .i64), (.int .i64), (.int .i64), .bool] tr_rText04_2)))
def tr_rText04_4 : Tree := (.ite (.cmp .lt (.var 10) (.var 1)) (.ob (.cmp .le (.slen (.sapp (.var 9) (.str [85]))) (.int .i64 9223372036854775807)) (.again 1 [(.sapp (.var 9) (.str [85])), (.ar .add .i64 (.var 10) (.int .i64 1)), (.var 10), (.int .i64 1), (.var 1), (.cmp .lt (.var 10) (.var 1))])) (.ite (.cmp .gt (.var 2) (.int .i64 20)) (.ret [(.str []), (.int .i64 3)]) (.loop [(.var 9), (.int .i64 0), (.var 10), (.int .i64 1), (.var 1), (.cmp .lt (.var 10) (.var 1))] [.str, (.int .i64), (.int .i64), (.int .i64), (.int .i64), .bool] tr_rText04_3)))
def tr_rText04_5 : Tree := (.ite (.cmp .lt (.var 8) (.var 0)) (.ob (.cmp .le (.slen (.sapp (.var 7) (.str [87]))) (.int .i64 9223372036854775807)) (.again 0 [(.sapp (.var 7) (.str [87])), (.ar .add .i64 (.var 8) (.int .i64 1))])) (.ite (.cmp .gt (.var 1) (.int .i64 20)) (.ret [(.str []), (.int .i64 3)]) (.loop [(.var 7), (.int .i64 0), (.var 8), (.int .i64 0), (.var 0), (.cmp .lt (.var 8) (.var 0))] [.str, (.int .i64), (.int .i64), (.int .i64), (.int .i64), .bool] tr_rText04_4)))
def tr_rText04 : Tree := (.call k_rGood04 [(.var 0), (.var 1), (.var 2), (.var 3), (.var 4), (.var 5)] [.bool] (.ite (.not (.var 6)) (.ret [(.str []), (.int .i64 2)]) (.ite (.cmp .gt (.var 0) (.int .i64 20)) (.ret [(.str []), (.int .i64 3)]) (.loop [(.str []), (.int .i64 0)] [.str, (.int .i64)] tr_rText04_5))))
theorem wk_rText04 : walk E0.cx (sgsN [(14, sg_rGood04), (24, sg_figs)]) 0 9 sg_rText04 = tr_rText04 := by kernel_rfl
theorem bo_rText04 : ∃ x, bodyOf E0.P 9 = some x := bo_of (by kernel_rfl)
theorem sp_rText04_rGood04 : specC [con_rGood04, con_figs] k_rGood04 = rGood04_s := rfl
theorem sp_rText04_figs : specC [con_rGood04, con_figs] k_figs = figs_s := rfl
def rText04_s : Spec := fun ds Q => Q [strV (textL ds), .int .i64 (textN ds)]
theorem rText04_h : Holds E0 k_rText04 sg_rText04 rText04_s := con_fn wf0 mix0 g0 [con_rGood04, con_figs] rfl wk_rText04 rfl (by
  intro Φ hΦ ds Q hs h
  have hl : ds.length = 6 := hs.length.symm
  have h : Q [strV (textL ds), .int .i64 (textN ds)] := h
  have s1 : Φ k_rGood04 = rGood04_s := by rw [hΦ]; rfl
  have s2 : Φ k_figs = figs_s := by rw [hΦ]; rfl
  clear hΦ
  simp only [tr_rText04, tr_rText04_1, tr_rText04_2, tr_rText04_3, tr_rText04_4, tr_rText04_5, wp, den_int, den_bool, den_nili, den_ar, den_cmp, den_not, den_len, den_elem, den_isnil, den_errI, den_ifc, den_rep, den_push, den_app, den_emp, den_upd, row0_econs, row0_enil, den_and, den_beq, den_nil, toInt_int, toBool_bool, xs_rows, xs_list, dflt_int, dflt_bool, of_eq, of_ne, of_lt, of_le, of_gt, of_ge, of_add, of_sub, of_rem, List.map_cons, List.map_nil, Dat.bool.injEq, decide_eq_true_eq, decide_eq_false_iff_not, Bool.not_eq_true', Bool.not_eq_false', beq_iff_eq, bne_iff_ne, beq_eq_false_iff_ne, bne_eq_false_iff_eq, ne_eq, List.append_assoc, List.cons_append, List.nil_append, allS, s1, s2, rGood04_s, figs_s, @den_var0 E0.Δ ds, den_varA, den_varB, hl, Nat.reduceLT, Nat.reduceLeDiff, Nat.reduceSub, List.getD_cons_zero, List.getD_cons_succ, argL_fold ds, argI_fold ds, List.append_assoc, List.cons_append, List.nil_append, toInt_int, toBool_bool, xs_rows, xs_list, Int.toNat_natCast, Dat.bool.injEq, den_or, den_sapp, den_strl, den_slenV, den_seqV, sapp_V, size_V, List.map_cons, List.map_nil]
  have eg : goodC [ds.getD 0 (Dat.bool false), ds.getD 1 (Dat.bool false), ds.getD 2 (Dat.bool false), ds.getD 3 (Dat.bool false), ds.getD 4 (Dat.bool false), ds.getD 5 (Dat.bool false)] = goodC ds := by
    match ds, hl with
    | [_, _, _, _, _, _], _ => rfl
  rw [eg]
  refine ⟨fun hg => ?_, fun hg => ?_⟩
  · rw [(textN_bad hg).1, (textN_bad hg).2] at h; exact h
  have gd := goodC_t.1 hg
  have g0 := gd 0 (by omega)
  have g1 := gd 1 (by omega)
  have g2 := gd 2 (by omega)
  have g3 := gd 3 (by omega)
  have g4 := gd 4 (by omega)
  have g5 := gd 5 (by omega)
  have hlong : longC ds = true → Q [strV [], .int .i64 3] := fun hx => by rw [(textN_long hg hx).1, (textN_long hg hx).2] at h; exact h
  have hok : ¬ longC ds = true → Q [strV (textA ds), .int .i64 0] := fun hx => by rw [(textN_ok hg hx).1, (textN_ok hg hx).2] at h; exact h
  clear h gd
  refine ⟨fun hx => hlong (longC_t.2 (Or.inl hx)), fun x0 => ?_⟩
  refine ⟨LoopS (argI ds 0).toNat (([] : List UInt8)) 87, LoopS_start _ _ _ _, ?_⟩
  rintro d0 hd0 n0 m0 ⟨k0, _, hk0, hm0, e0⟩
  cases e0
  refine ⟨fun hlt => LoopS_step (by omega) (by omega) (by simp only [List.length_append, List.length_nil, rep_len]; omega) hm0, fun hge0 => ?_⟩
  obtain rfl : k0 = (argI ds 0).toNat := by omega
  refine ⟨fun hx => hlong (longC_t.2 (Or.inr (Or.inl hx))), fun x1 => ?_⟩
  refine ⟨LoopS (argI ds 1).toNat (([] : List UInt8) ++ Lib.repeatL [87] (argI ds 0).toNat) 85, LoopS_start _ _ _ _, ?_⟩
  rintro d1 hd1 n1 _ _ _ _ m1 ⟨k1, _, hk1, hm1, e1⟩
  cases e1
  refine ⟨fun hlt => LoopS_step (by omega) (by omega) (by simp only [List.length_append, List.length_nil, rep_len]; omega) hm1, fun hge1 => ?_⟩
  obtain rfl : k1 = (argI ds 1).toNat := by omega
  refine ⟨fun hx => hlong (longC_t.2 (Or.inr (Or.inr (Or.inl hx)))), fun x2 => ?_⟩
  refine ⟨LoopS (argI ds 2).toNat (([] : List UInt8) ++ Lib.repeatL [87] (argI ds 0).toNat ++ Lib.repeatL [85] (argI ds 1).toNat) 66, LoopS_start _ _ _ _, ?_⟩
  rintro d2 hd2 n2 _ _ _ _ m2 ⟨k2, _, hk2, hm2, e2⟩
  cases e2
  refine ⟨fun hlt => LoopS_step (by omega) (by omega) (by simp only [List.length_append, List.length_nil, rep_len]; omega) hm2, fun hge2 => ?_⟩
  obtain rfl : k2 = (argI ds 2).toNat := by omega
  refine ⟨fun hx => hlong (longC_t.2 (Or.inr (Or.inr (Or.inr (Or.inl hx))))), fun x3 => ?_⟩
  refine ⟨LoopS (argI ds 3).toNat (([] : List UInt8) ++ Lib.repeatL [87] (argI ds 0).toNat ++ Lib.repeatL [85] (argI ds 1).toNat ++ Lib.repeatL [66] (argI ds 2).toNat) 82, LoopS_start _ _ _ _, ?_⟩
  rintro d3 hd3 n3 _ _ _ _ m3 ⟨k3, _, hk3, hm3, e3⟩
  cases e3
  refine ⟨fun hlt => LoopS_step (by omega) (by omega) (by simp only [List.length_append, List.length_nil, rep_len]; omega) hm3, fun hge3 => ?_⟩
  obtain rfl : k3 = (argI ds 3).toNat := by omega
  refine ⟨fun hx => hlong (longC_t.2 (Or.inr (Or.inr (Or.inr (Or.inr hx))))), fun x4 => ?_⟩
  refine ⟨LoopS (argI ds 4).toNat (([] : List UInt8) ++ Lib.repeatL [87] (argI ds 0).toNat ++ Lib.repeatL [85] (argI ds 1).toNat ++ Lib.repeatL [66] (argI ds 2).toNat ++ Lib.repeatL [82] (argI ds 3).toNat) 71, LoopS_start _ _ _ _, ?_⟩
  rintro d4 hd4 n4 _ _ _ _ m4 ⟨k4, _, hk4, hm4, e4⟩
  cases e4
  refine ⟨fun hlt => LoopS_step (by omega) (by omega) (by simp only [List.length_append, List.length_nil, rep_len]; omega) hm4, fun hge4 => ?_⟩
  obtain rfl : k4 = (argI ds 4).toNat := by omega
  have hnl : ¬ longC ds = true := fun hx => by
    rcases longC_t.1 hx with hx | hx | hx | hx | hx
    · exact x0 hx
    · exact x1 hx
    · exact x2 hx
    · exact x3 hx
    · exact x4 hx
  have hQ := hok hnl
  clear hok hlong hnl hs
  have a5 : argI [ds.getD 5 (Dat.bool false)] 0 = argI ds 5 := by
    match ds, hl with
    | [_, _, _, _, _, _], _ => rfl
  have hP : [] ++ Lib.repeatL [87] (argI ds 0).toNat ++ Lib.repeatL [85] (argI ds 1).toNat ++ Lib.repeatL [66] (argI ds 2).toNat ++ Lib.repeatL [82] (argI ds 3).toNat ++ Lib.repeatL [71] (argI ds 4).toNat = (segL (argI ds 0).toNat (argI ds 1).toNat (argI ds 2).toNat (argI ds 3).toNat (argI ds 4).toNat).flatten := by simp [segL]
  have hlP : (segL (argI ds 0).toNat (argI ds 1).toNat (argI ds 2).toNat (argI ds 3).toNat (argI ds 4).toNat).flatten.length = (argI ds 0).toNat + (argI ds 1).toNat + (argI ds 2).toNat + (argI ds 3).toNat + (argI ds 4).toNat := by simp [segL, rep_len]; omega
  unfold textA textB at hQ
  simp only [hP, toList_V, a5, sapp_V, size_V]
  generalize (segL (argI ds 0).toNat (argI ds 1).toNat (argI ds 2).toNat (argI ds 3).toNat (argI ds 4).toNat).flatten = P at *
  refine ⟨fun hx => ?_, fun hx => ?_⟩
  · have hor : 0 < (argI ds 5).toNat ∨ (argI ds 0).toNat + (argI ds 1).toNat + (argI ds 2).toNat + (argI ds 3).toNat + (argI ds 4).toNat = 0 := by
      rcases Bool.or_eq_true_iff.1 hx with hx | hx
      · exact Or.inl (by have := of_decide_eq_true hx; omega)
      · have : P = [] := by simpa using hx
        exact Or.inr (by rw [← hlP, this]; rfl)
    rw [if_pos hor] at hQ
    have hd := dec_len (argI ds 5).toNat
    exact ⟨(argI ds 5).toNat, by omega, by omega, by rw [List.length_append]; omega, hQ⟩
  · obtain ⟨h1, h2⟩ := Bool.or_eq_false_iff.1 hx
    have h1 := of_decide_eq_false h1
    have h2 : P ≠ [] := by simpa using h2
    have h3 : P.length ≠ 0 := fun hx => h2 (List.length_eq_zero_iff.1 hx)
    rw [if_neg (by omega), List.nil_append] at hQ
    exact hQ)
noncomputable def con_rText04 : Con E0 := ⟨k_rText04, sg_rText04, rText04_s, rfl, bo_rText04, rText04_h⟩
end Go.Proofs.YtfpgbdefopbfbaaDoor
end
