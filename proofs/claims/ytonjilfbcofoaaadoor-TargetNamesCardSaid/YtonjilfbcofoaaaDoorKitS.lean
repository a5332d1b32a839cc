/-
  Words and laws for slices: a slice that reads as a list; a slice of which what lies behind its length is the call's own; append onto such a one.
-/
import Derived.Test.YtonjilfbcofoaaaDoorKitA
import Derived.ArgAppend
import Derived.Deep.Draws
namespace Go.Proofs.YtonjilfbcofoaaaDoor
open Go.RowKit

theorem block_add (a : Addr) (n : Nat) : (a.add n).block = a.block := by unfold Addr.add; split <;> rfl
theorem add_add' (a : Addr) (i j : Nat) : (a.add i).add j = a.add (i + j) := by
  unfold Addr.add
  by_cases hi : i = 0 <;> by_cases hj : j = 0 <;> simp [hi, hj, Nat.add_assoc]

/-- the cells from an address on -/
def At (w : World) (A : Option Addr) (m : Nat) (xs : List Value) : Prop := 0 < m → ∃ ad, A = some ad ∧ ad.block < w.heap.size ∧ ∀ j u, xs[j]? = some u → w.cell? (ad.add j) = some u

/-- a slice value of m elements (of sz cells each) that holds the cells xs -/
def Rd (w : World) (sz : Nat) (v : Value) (m : Nat) (xs : List Value) : Prop := ∃ A c, v = .slice A m c ∧ m ≤ c ∧ xs.length = m * sz ∧ At w A m xs

/-- besides, what lies behind its length is the call's own, from block B on -/
def Sl (w : World) (B sz : Nat) (v : Value) (n : Nat) (xs : List Value) : Prop :=
  ∃ A c, v = .slice A n c ∧ n ≤ c ∧ xs.length = n * sz ∧ At w A n xs ∧
    (n < c → ∃ g off, A = some ⟨g, off, none⟩ ∧ B ≤ g ∧ g < w.heap.size ∧ ∀ j, j < c * sz → (w.cell? ⟨g, off + j, none⟩).isSome = true ∧ w.frozen? ⟨g, off + j, none⟩ = false)

/-- the block that an append may write -/
def ownOf : Value → Option Nat
  | .slice (some a) n c => if n < c then some a.block else none
  | _ => none

section
variable {w w' : World} {A : Option Addr} {B B' sz n m : Nat} {v x : Value} {xs news : List Value}

theorem At.mono (h : At w A m xs) (hs : w.heap.size ≤ w'.heap.size) (hk : ∀ p : Addr, p.block < w.heap.size → w'.cell? p = w.cell? p) : At w' A m xs := fun hm => by
  obtain ⟨ad, e, hb, hc⟩ := h hm
  exact ⟨ad, e, by omega, fun j u hu => (hk _ (by rw [block_add]; exact hb)).trans (hc j u hu)⟩
theorem Rd.below (h : Rd w sz v m xs) (hb : Below w.heap.size w w') : Rd w' sz v m xs := by
  obtain ⟨A, c, e, hc, hl, ha⟩ := h
  exact ⟨A, c, e, hc, hl, ha.mono hb.size fun p hp => hb.cell hp⟩
theorem Rd.len (h : Rd w sz v m xs) : xs.length = m * sz := by obtain ⟨A, c, e, hc, hl, ha⟩ := h; exact hl
theorem Sl.rd (h : Sl w B sz v n xs) : Rd w sz v n xs := by
  obtain ⟨A, c, e, hc, hl, ha, _⟩ := h
  exact ⟨A, c, e, hc, hl, ha⟩
theorem Sl.len (h : Sl w B sz v n xs) : xs.length = n * sz := h.rd.len
theorem Sl.below (h : Sl w B sz v n xs) (hb : Below w.heap.size w w') : Sl w' B sz v n xs := by
  obtain ⟨A, c, e, hc, hl, ha, ho⟩ := h
  refine ⟨A, c, e, hc, hl, ha.mono hb.size fun p hp => hb.cell hp, fun hn => ?_⟩
  obtain ⟨g, off, hA, hB, hg, hj⟩ := ho hn
  exact ⟨g, off, hA, hB, Nat.lt_of_lt_of_le hg hb.size, fun j hjc => by rw [hb.cell (p := ⟨g, off + j, none⟩) hg, hb.frozen (p := ⟨g, off + j, none⟩) hg]; exact hj j hjc⟩
theorem Sl.weak (h : Sl w B sz v n xs) (hB : B' ≤ B) : Sl w B' sz v n xs := by
  obtain ⟨A, c, e, hc, hl, ha, ho⟩ := h
  exact ⟨A, c, e, hc, hl, ha, fun hn => by obtain ⟨g, off, hA, hB', r⟩ := ho hn; exact ⟨g, off, hA, by omega, r⟩⟩
theorem Sl.nil (w : World) (B sz : Nat) : Sl w B sz (.slice none 0 0) 0 [] := ⟨none, 0, rfl, Nat.le_refl _, by simp, fun h => absurd h (by omega), fun h => absurd h (by omega)⟩

theorem World_isSome_setCells (b : Nat) : ∀ (vs : List Value) (o : Nat) (w : World) (x : Addr), (w.cell? x).isSome = true → ((w.setCells b o vs).cell? x).isSome = true
  | [], _, _, _, h => h
  | v :: vs, o, w, x, h => World_isSome_setCells b vs (o + 1) _ x (by
      by_cases e : (⟨b, o, none⟩ : Addr) = x
      · subst e
        obtain ⟨u, hu⟩ := Option.isSome_iff_exists.1 h
        rw [World.cell?_setCell_same (u := u) (h := hu)]; rfl
      · rw [World.cell?_setCell_other (h := e)]; exact h)

theorem setCells_heap (b : Nat) : ∀ (vs : List Value) (o : Nat) (w : World) (k : Nat), k ≠ b → (w.setCells b o vs).heap[k]? = w.heap[k]?
  | [], _, _, _, _ => rfl
  | v :: vs, o, w, k, hk => (setCells_heap b vs (o + 1) _ k hk).trans (Below.heap_setCell w ⟨b, o, none⟩ v k hk)
theorem setCells_size (b : Nat) : ∀ (vs : List Value) (o : Nat) (w : World), (w.setCells b o vs).heap.size = w.heap.size
  | [], _, _ => rfl
  | v :: vs, o, w => (setCells_size b vs (o + 1) _).trans (by simp)
theorem setCells_rest (b : Nat) : ∀ (vs : List Value) (o : Nat) (w : World), (w.setCells b o vs).os = w.os ∧ (w.setCells b o vs).tape = w.tape ∧ (w.setCells b o vs).output = w.output
  | [], _, _ => ⟨rfl, rfl, rfl⟩
  | _ :: vs, o, _ => setCells_rest b vs (o + 1) _
theorem grownBy_setCells (w : World) (b o : Nat) (vs : List Value) : w.grownBy (w.setCells b o vs) (some b) :=
  ⟨(setCells_rest b vs o w).1, (setCells_rest b vs o w).2.1, (setCells_rest b vs o w).2.2, by rw [setCells_size]; exact Nat.le_refl _, fun k _ hk => setCells_heap b vs o w k (fun e => hk (by rw [e]))⟩
theorem Sl.ownOf_ge (h : Sl w B sz v n xs) : ∀ k, ownOf v = some k → B ≤ k := by
  obtain ⟨A, c, rfl, hc, hl, ha, ho⟩ := h
  intro k hk
  cases A with
  | none => simp [ownOf] at hk
  | some a =>
    simp only [ownOf] at hk
    split at hk
    · rename_i hn
      obtain ⟨g, off, hA, hB, _⟩ := ho hn
      cases hA
      cases hk
      exact hB
    · cases hk

variable {P : Program}

theorem append_none (t ty e : TypeId) (i : TypeInfo) (ht : P.underlying t = some (.slice e)) (hi : P.info? e = some i) (A A' : Option Addr) (n c c' : Nat) (hc : n ≤ c) (w : World) :
    (Builtin.append_ #[t, t] ty #[.slice A n c, .slice A' 0 c']).run P w = .ok (.slice A n c) w := by
  cases A <;> cases A' <;> simp [Builtin.append_, run_underlying ht, sizeOf, typeInfo, hi, Builtin.lenOf, Builtin.firstCells, loadCells, loadCellsFrom, storeCells, hc]

theorem append_grow_any (t ty e : TypeId) (i : TypeInfo) (z : Value) (ht : P.underlying t = some (.slice e)) (hi : P.info? e = some i) (hz : i.zero = some z)
    (w : World) (A : Option Addr) (n c : Nat) (xs : List Value) (hl : xs.length = n * i.size) (ha : At w A n xs)
    (a : Addr) (m c' : Nat) (news : List Value) (hl' : news.length = m * i.size) (hnews : ∀ j v, news[j]? = some v → w.cell? (a.add j) = some v)
    (hA : A = none → c = 0) (hg : c < n + m) (h63 : ((n + m : Nat) : Int) ≤ 9223372036854775807) (hfit : Builtin.nextslicecap (n + m) c * i.bytes ≤ 281474976710656) :
    (Builtin.append_ #[t, t] ty #[.slice A n c, .slice (some a) m c']).run P w =
      .ok (.slice (some ⟨w.heap.size, 0, none⟩) (n + m) (grownCap w (n + m) c e)) (w.drew.alloc (.cells (xs.toArray ++ news.toArray ++ Builtin.zeroCells z.cells (grownCap w (n + m) c e - (n + m))) e)) := by
  cases A with
  | some b =>
    refine run_append_grow (P := P) w t ty e i z ht hi hz b n c xs hl (fun j u hu => ?_) a m c' news hl' hnews hg h63 hfit
    by_cases hn : 0 < n
    · obtain ⟨ad, e1, _, hc⟩ := ha hn
      cases e1
      exact hc j u hu
    · have h0 : n = 0 := by omega
      subst h0
      have : xs = [] := List.eq_nil_of_length_eq_zero (by simpa using hl)
      subst this
      simp at hu
  | none =>
    have hn : n = 0 := by
      apply Classical.byContradiction
      intro hn
      obtain ⟨ad, e1, _⟩ := ha (by omega)
      cases e1
    subst hn
    have : xs = [] := List.eq_nil_of_length_eq_zero (by simpa using hl)
    subst this
    obtain rfl := hA rfl
    simp only [Nat.zero_add] at *
    have := run_append_nil (P := P) w t ty e i z ht hi hz a m c' news hl' hnews (by omega) h63 (by
      have h2 := nextslicecap_zero (need := m) (by omega)
      rwa [h2] at hfit)
    rw [this]
    simp

theorem run_append_sl (t ty e : TypeId) (i : TypeInfo) (z : Value) (bytes : Nat) (ht : P.underlying t = some (.slice e)) (hi : P.info? e = some i) (hz : i.zero = some z)
    (hsize : i.size = sz) (hby : i.bytes = bytes) (hzs : z.cells.size = sz) (hs : Sl w B sz v n xs) (hr : Rd w sz x m news) (h1 : ∀ u ∈ news, u.oneCell' = true)
    (h63 : n + m ≤ maxLen) (hbytes : (n + m) * bytes ≤ 140737488355328) (hB : B ≤ w.heap.size) :
    ∃ v' w', (Builtin.append_ #[t, t] ty #[v, x]).run P w = .ok v' w' ∧ Sl w' B sz v' (n + m) (xs ++ news) ∧ w.grownBy w' (ownOf v) := by
  subst hsize hby
  obtain ⟨A, c, rfl, hc, hl, ha, ho⟩ := hs
  obtain ⟨A', c', rfl, hc', hl', ha'⟩ := hr
  have hlen : (xs ++ news).length = (n + m) * i.size := by rw [List.length_append, hl, hl', Nat.add_mul]
  by_cases hm : m = 0
  · subst hm
    have : news = [] := List.eq_nil_of_length_eq_zero (by simpa using hl')
    subst this
    refine ⟨_, w, append_none t ty e i ht hi A A' n c c' hc w, ?_, World.grownBy.refl w _⟩
    simp only [Nat.add_zero, List.append_nil]
    exact ⟨A, c, rfl, hc, hl, ha, ho⟩
  · obtain ⟨a, rfl, hab, hnews⟩ := ha' (by omega)
    by_cases hroom : n + m ≤ c
    · obtain ⟨g, off, rfl, hBg, hg, hj⟩ := ho (by omega)
      have hle : (n + m) * i.size ≤ c * i.size := Nat.mul_le_mul_right _ hroom
      rw [Nat.add_mul] at hle
      have hrun := run_append_room_cells (P := P) w t ty e i ht hi g off n c a m c' news hl' hnews h1 hroom
        (fun j hjl => by have := (hj (n * i.size + j) (by omega)).1; rwa [← Nat.add_assoc] at this)
        (fun j hjl => by have := (hj (n * i.size + j) (by omega)).2; rwa [← Nat.add_assoc] at this)
      refine ⟨_, _, hrun, ⟨some ⟨g, off, none⟩, c, rfl, hroom, hlen, fun _ => ⟨⟨g, off, none⟩, rfl, by rw [setCells_size]; exact hg, ?_⟩, fun _ => ⟨g, off, rfl, hBg, by rw [setCells_size]; exact hg, ?_⟩⟩, ?_⟩
      · intro j u hu
        rw [Addr.add_lit]
        rcases Nat.lt_or_ge j xs.length with hjx | hjx
        · rw [List.getElem?_append_left hjx] at hu
          obtain ⟨ad, e1, _, hcell⟩ := ha (by
            rcases Nat.eq_zero_or_pos n with h0 | h0
            · subst h0; rw [hl] at hjx; omega
            · exact h0)
          cases e1
          rw [World.cell?_setCells_out g news _ w ⟨g, off + j, none⟩ (fun _ _ => .inl (show off + j < off + n * i.size by omega))]
          have := hcell j u hu
          rwa [Addr.add_lit] at this
        · rw [List.getElem?_append_right hjx] at hu
          have hk : j - xs.length < news.length := (List.getElem?_eq_some_iff.1 hu).1
          have := World.cell?_setCells_in g news (off + n * i.size) w (fun q hq => by
            have := (hj (n * i.size + q) (by omega)).1
            rwa [← Nat.add_assoc] at this) (j - xs.length) hk
          rw [show off + n * i.size + (j - xs.length) = off + j by omega] at this
          rw [this]
          rw [List.getElem?_eq_getElem hk] at hu
          exact hu
      · intro j hjc
        refine ⟨World_isSome_setCells g news _ w _ (hj j hjc).1, ?_⟩
        rw [World.frozen?_setCells]
        exact (hj j hjc).2
      · have : ownOf (.slice (some ⟨g, off, none⟩) n c) = some g := by simp only [ownOf]; rw [if_pos (by omega)]
        rw [this]
        exact grownBy_setCells w g _ news
    · have h63' : ((n + m : Nat) : Int) ≤ 9223372036854775807 := by simp only [maxLen] at h63; omega
      have hrun := append_grow_any t ty e i z ht hi hz w A n c xs hl ha a m c' news hl' hnews (fun hn => by
        subst hn
        have hn0 : n = 0 := by
          apply Classical.byContradiction
          intro h
          obtain ⟨ad, e1, _⟩ := ha (by omega)
          cases e1
        apply Classical.byContradiction
        intro h
        obtain ⟨g, off, e1, _⟩ := ho (by omega)
        cases e1) (by omega) h63' (growslice_fits (by omega) hbytes)
      have hge := grownCap_ge w (n + m) c e
      have hsz : ∀ q : Nat, (xs.toArray ++ news.toArray ++ Builtin.zeroCells z.cells (q - (n + m))).size = (n + m) * i.size + (q - (n + m)) * i.size := fun q => by
        simp only [Array.size_append, List.size_toArray, size_zeroCells, hzs, hl, hl', Nat.add_mul]
      generalize grownCap w (n + m) c e = q at *
      refine ⟨_, _, hrun, ⟨some ⟨w.heap.size, 0, none⟩, q, rfl, hge, hlen, fun _ => ⟨⟨w.heap.size, 0, none⟩, rfl, by simp, ?_⟩, fun _ => ⟨w.heap.size, 0, rfl, hB, by simp, ?_⟩⟩, ⟨rfl, rfl, rfl, by simp, fun k hk _ => (Below.heap_alloc w.drew _ k hk)⟩⟩
      · intro j u hu
        rw [Addr.add_lit, Nat.zero_add]
        have h := World.cell?_alloc_new (w := w.drew) (xs.toArray ++ news.toArray ++ Builtin.zeroCells z.cells (q - (n + m))) e j
        rw [World.size_drew] at h
        rw [h, Array.getElem?_append_left (by
          have := (List.getElem?_eq_some_iff.1 hu).1
          simpa using this)]
        simpa using hu
      · intro j hj
        rw [Nat.zero_add]
        have h := World.cell?_alloc_new (w := w.drew) (xs.toArray ++ news.toArray ++ Builtin.zeroCells z.cells (q - (n + m))) e j
        have h' := World.frozen?_alloc_new (w := w.drew) (xs.toArray ++ news.toArray ++ Builtin.zeroCells z.cells (q - (n + m))) e j
        rw [World.size_drew] at h h'
        refine ⟨?_, h'⟩
        rw [h]
        have : j < (xs.toArray ++ news.toArray ++ Builtin.zeroCells z.cells (q - (n + m))).size := by
          rw [hsz, ← Nat.add_mul, show n + m + (q - (n + m)) = q by omega]; exact hj
        rw [Array.getElem?_eq_getElem this]
        rfl
end

section
variable {P : Program} {ops : Array Oper} {rest : List Oper} {o : Oper} {a : Act} {w : World} {Q : Exit → Act → World → Prop} {B sz n m : Nat} {v x : Value} {xs news : List Value}

theorem wpList_append_sl (hgd : o.guard = none) (s y : Operand) (t : TypeId) (ho : o.op = .call { callee := .builtin .append, args := #[s, y], argTypes := #[t, t] })
    (e : TypeId) (i : TypeInfo) (z : Value) (bytes : Nat) (ht : P.underlying t = some (.slice e)) (hi : P.info? e = some i) (hz : i.zero = some z) (hsize : i.size = sz) (hby : i.bytes = bytes) (hzs : z.cells.size = sz)
    (hs : Sl w B sz (a.eval s) n xs) (hr : Rd w sz (a.eval y) m news) (h1 : ∀ u ∈ news, u.oneCell' = true)
    (h63 : n + m ≤ maxLen) (hbytes : (n + m) * bytes ≤ 140737488355328) (hB : B ≤ w.heap.size)
    (h : ∀ v' w', Sl w' B sz v' (n + m) (xs ++ news) → Below B w w' → w.grownBy w' (ownOf (a.eval s)) → wpList P ops Q rest (a.put o.dst v') w') : wpList P ops Q (o :: rest) a w := by
  refine wpList_plain hgd fun K hK => ?_
  obtain ⟨v', w', hrun, h2, h3⟩ := run_append_sl (P := P) t o.type e i z bytes ht hi hz hsize hby hzs hs hr h1 h63 hbytes hB
  unfold Oper.wp execOp
  simp only [ho, resolve, invoke, builtin, Sem.run_bind, Sem.run_pure, Result.andThen_ok, List.map_toArray, List.map_cons, List.map_nil, hrun]
  exact hK _ _ (h v' w' h2 ((Below.refl _ _).grown h3 hB hs.ownOf_ge) h3)
end
def u8s (l : List Nat) : List Value := l.map fun n : Nat => Value.int .u8 (n : Int)
def i64s (l : List Int) : List Value := l.map fun n : Int => Value.int .i64 n
theorem u8s_one (l : List Nat) : ∀ u ∈ u8s l, u.oneCell' = true := by
  intro u hu; simp only [u8s, List.mem_map] at hu; obtain ⟨n, _, rfl⟩ := hu; rfl
theorem i64s_one (l : List Int) : ∀ u ∈ i64s l, u.oneCell' = true := by
  intro u hu; simp only [i64s, List.mem_map] at hu; obtain ⟨n, _, rfl⟩ := hu; rfl
theorem u8s_append (a b : List Nat) : u8s (a ++ b) = u8s a ++ u8s b := by simp [u8s]
theorem i64s_append (a b : List Int) : i64s (a ++ b) = i64s a ++ i64s b := by simp [i64s]
theorem u8s_len (a : List Nat) : (u8s a).length = a.length := by simp [u8s]
theorem i64s_len (a : List Int) : (i64s a).length = a.length := by simp [i64s]

/-- what a function leaves that hands back a slice of its own -/
def RetSl (w : World) (sz n : Nat) (xs : List Value) (e : Ending) (w' : World) : Prop := ∃ v, e = .returned v ∧ Sl w' w.heap.size sz v n xs ∧ Below w.heap.size w w'

def Ok64 (l : List Int) : Prop := ∀ n ∈ l, -9223372036854775808 ≤ n ∧ n ≤ 9223372036854775807

theorem take_snoc (l : List Int) (k : Nat) (h : k < l.length) : l.take (k + 1) = l.take k ++ [l[k]] := by
  rw [List.take_succ_eq_append_getElem h]
/-- an element of a slice of ints, asked for in a later world -/
theorem At.int {w wr : World} {A : Option Addr} {n k : Nat} {l : List Int} (h : At w A n (i64s l)) (hl : l.length = n) (hk : k < n) (hb : Below w.heap.size w wr) :
    ∃ ad, A = some ad ∧ wr.cell? (ad.add k) = some (.int .i64 (l[k]'(by omega))) := by
  obtain ⟨ad, e, hlt, hc⟩ := h (by omega)
  refine ⟨ad, e, ?_⟩
  rw [hb.cell (p := ad.add k) (by rw [block_add]; exact hlt)]
  refine hc k _ ?_
  simp only [i64s, List.getElem?_map]
  rw [List.getElem?_eq_getElem (by omega)]
  rfl

theorem news_one {w : World} {v : Value} {T : TypeId} : Rd (w.alloc (.cells #[v] T)) 1 (.slice (some ⟨w.heap.size, 0, none⟩) 1 1) 1 [v] := by
  refine ⟨_, 1, rfl, by omega, rfl, fun _ => ⟨_, rfl, by simp, fun j u hu => ?_⟩⟩
  match j, hu with
  | 0, hu => simp at hu; subst hu; simp [Addr.add]
theorem sl_empty (w : World) (T : TypeId) (B sz : Nat) : Sl (w.alloc (.cells #[] T)) B sz (.slice (some ⟨w.heap.size, 0, none⟩) 0 0) 0 [] :=
  ⟨_, 0, rfl, by omega, by simp, fun h => absurd h (by omega), fun h => absurd h (by omega)⟩


/-- the string of bytes -/
def strOf (l : List Nat) : ByteArray := ⟨(l.map UInt8.ofNat).toArray⟩
theorem strOf_append (a b : List Nat) : strOf a ++ strOf b = strOf (a ++ b) := by
  unfold strOf
  rw [ByteArray.mk_append_mk, List.map_append]
theorem strOf_size (a : List Nat) : (strOf a).size = a.length := by simp [strOf, ByteArray.size]
theorem strOf_fold (l : List Nat) : ∀ s : List UInt8, ((l.map fun n : Nat => (n : Int)).foldl (fun r n => r.push (UInt8.ofNat n.toNat)) (⟨s.toArray⟩ : ByteArray)) = ⟨(s ++ l.map UInt8.ofNat).toArray⟩ := by
  induction l with
  | nil => intro s; simp
  | cons n l ih =>
    intro s
    simp only [List.map_cons, List.foldl_cons, Int.toNat_natCast]
    have : (⟨s.toArray⟩ : ByteArray).push (UInt8.ofNat n) = ⟨(s ++ [UInt8.ofNat n]).toArray⟩ := by simp [ByteArray.push]
    rw [this, ih]
    simp

theorem run_str {P : Program} {w : World} {src dst e : TypeId} {v : Value} {n : Nat} {l : List Nat} (hs : P.underlying src = some (.slice e)) (he : P.underlying e = some (.int .u8)) (hd : P.underlying dst = some .string)
    (h : Rd w 1 v n (u8s l)) : (convert src dst v).run P w = .ok (.string (strOf l)) w := by
  obtain ⟨A, c, rfl, hc, hl, ha⟩ := h
  rw [run_convert_bytes_string w src dst e A n c hs he hd]
  rw [u8s_len] at hl
  cases A with
  | none =>
    have hn : n = 0 := by
      apply Classical.byContradiction
      intro hn
      obtain ⟨ad, e1, _⟩ := ha (by omega)
      cases e1
    subst hn
    have : l = [] := List.eq_nil_of_length_eq_zero (by omega)
    subst this
    simp [Conv.bytesToString, strOf]
    rfl
  | some ad =>
    have hload : (loadCells ad n).run P w = .ok (((l.map fun n : Nat => (n : Int)).map (Value.int .u8)).toArray) w := by
      have e1 : (l.map fun n : Nat => (n : Int)).map (Value.int .u8) = u8s l := by simp [u8s]
      rw [e1]
      have := run_loadCells_list (P := P) w ad (u8s l) (fun j u hu => by
        have hj : j < n := by
          have := (List.getElem?_eq_some_iff.1 hu).1
          rw [u8s_len] at this; omega
        obtain ⟨ad', e2, _, hcell⟩ := ha (by omega)
        cases e2
        exact hcell j u hu)
      rwa [u8s_len, show l.length = n by omega] at this
    have := run_bytesToString w ad n c (l.map fun n : Nat => (n : Int)) hload
    rw [this]
    congr 2
    have h0 := strOf_fold l []
    have e : ByteArray.empty = (⟨([] : List UInt8).toArray⟩ : ByteArray) := rfl
    rw [e, h0]
    rfl

/-- two strings behind one another -/
theorem run_add {P : Program} (w : World) (a b : List Nat) (h : a.length + b.length ≤ 9223372036854775807) : (Op.stringOp .add (strOf a) (strOf b)).run P w = .ok (.string (strOf (a ++ b))) w := by
  rw [run_string_add_sum (P := P) (w := w) (a := strOf a) (b := strOf b) (by rw [strOf_size, strOf_size]; exact h), strOf_append]

end Go.Proofs.YtonjilfbcofoaaaDoor
