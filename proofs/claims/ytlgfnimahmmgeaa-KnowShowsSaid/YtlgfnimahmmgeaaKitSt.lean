/-
  States as arguments: their cells, and what their slices hold.
-/
import Derived.Test.YtlgfnimahmmgeaaTyp
import Derived.Test.YtlgfnimahmmgeaaKitV
import Derived.Test.YtlgfnimahmmgeaaKitM
namespace Go.Proofs.Ytlgfnimahmmgeaa
open Go.RowKit
set_option linter.unusedVariables false

/-- many rows of sz numbers behind one another -/
def rowsC (sz : Nat) (l : List (Nat → Int)) : List Value := l.flatMap fun f => (ints sz f).toList
theorem rowsC_len (sz : Nat) : ∀ l : List (Nat → Int), (rowsC sz l).length = l.length * sz
  | [] => by simp [rowsC]
  | f :: l => by
    have := rowsC_len sz l
    unfold rowsC at *
    rw [List.flatMap_cons, List.length_append, this, List.length_cons, Nat.add_mul]
    simp [ints_size]; omega
theorem rowsC_get (sz : Nat) : ∀ (l : List (Nat → Int)) (k j : Nat) (hk : k < l.length), j < sz → (rowsC sz l)[k * sz + j]? = some (.int .i64 (l[k] j))
  | f :: l, 0, j, _, hj => by
    unfold rowsC
    rw [List.flatMap_cons, List.getElem?_append_left (by simp [ints_size]; omega)]
    simpa using ints_get f hj
  | f :: l, k + 1, j, hk, hj => by
    have ih := rowsC_get sz l k j (by simpa using hk) hj
    unfold rowsC at *
    rw [List.flatMap_cons, List.getElem?_append_right (by simp [ints_size, Nat.add_mul]; omega)]
    rw [show (k + 1) * sz + j - (ints sz f).toList.length = k * sz + j by simp [ints_size, Nat.add_mul]; omega, ih]
    rfl
theorem rowsC_row {sz : Nat} {l : List (Nat → Int)} {k : Nat} (hk : k < l.length) : ∀ j v, (ints sz l[k])[j]? = some v → (rowsC sz l)[k * sz + j]? = some v := fun j v hv => by
  have hj : j < sz := by have := (Array.getElem?_eq_some_iff.1 hv).1; rwa [ints_size] at this
  rw [ints_get _ hj] at hv
  cases hv
  exact rowsC_get sz l k j hk hj
theorem rowsC_append (sz : Nat) (a b : List (Nat → Int)) : rowsC sz (a ++ b) = rowsC sz a ++ rowsC sz b := by simp [rowsC]
theorem rowsC_one (sz : Nat) (f : Nat → Int) : rowsC sz [f] = (ints sz f).toList := by simp [rowsC]

/-- a state's slices and numbers -/
structure StV where
  A : Nat → Option Addr
  n : Nat → Nat
  c : Nat → Nat
  pl : Nat → Int
  gm : Nat → Int
def StV.g (s : StV) (i : Nat) : Value := if i < 12 then .slice (s.A i) (s.n i) (s.c i) else if i < 30 then .int .i64 (s.pl (i - 12)) else .int .i64 (s.gm (i - 30))
def stC (s : StV) : Array Value := rowOf 37 s.g
theorem stC_size (s : StV) : (stC s).size = 37 := size_rowOf _ _
theorem stC_one (s : StV) : (stC s).all (·.oneCell') = true := rowOf_oneCell fun i _ => by unfold StV.g; split; rfl; split <;> rfl
theorem stC_sl (s : StV) {i : Nat} (h : i < 12) : (stC s)[i]? = some (.slice (s.A i) (s.n i) (s.c i)) := by rw [stC, rowOf_get _ (by omega)]; simp [StV.g, h]
theorem stC_pl (s : StV) {i : Nat} (h : 12 ≤ i) (h2 : i < 30) : (stC s)[i]? = some (.int .i64 (s.pl (i - 12))) := by
  rw [stC, rowOf_get _ (by omega)]; unfold StV.g; rw [if_neg (by omega), if_pos h2]
theorem stC_gm (s : StV) {i : Nat} (h : 30 ≤ i) (h2 : i < 37) : (stC s)[i]? = some (.int .i64 (s.gm (i - 30))) := by
  rw [stC, rowOf_get _ (by omega)]; unfold StV.g; rw [if_neg (by omega), if_neg (by omega)]
theorem st_isz (s : StV) : (Try.prog.info? 36).map (·.size) = some (stC s).size := by rw [stC_size]; kernel_rfl
/-- the lists, by value -/
def StV.ls (s : StV) : Array Value := rowOf 11 fun z => .slice (s.A (z + 1)) (s.n (z + 1)) (s.c (z + 1))
theorem stC_ls (s : StV) : ∀ j v, s.ls[j]? = some v → (stC s)[1 + j]? = some v := fun j v hv => by
  have hj : j < 11 := by have := (Array.getElem?_eq_some_iff.1 hv).1; rwa [StV.ls, size_rowOf] at this
  rw [StV.ls, rowOf_get _ hj] at hv
  cases hv
  rw [stC_sl _ (by omega), Nat.add_comm]
theorem ls_get (s : StV) {z : Nat} (h : z < 11) : s.ls[z]? = some (.slice (s.A (z + 1)) (s.n (z + 1)) (s.c (z + 1))) := rowOf_get _ h
theorem ls_size (s : StV) : s.ls.size = 11 := size_rowOf _ _
theorem stC_pls (s : StV) : ∀ j v, (ints 18 s.pl)[j]? = some v → (stC s)[12 + j]? = some v := fun j v hv => by
  have hj : j < 18 := by have := (Array.getElem?_eq_some_iff.1 hv).1; rwa [ints_size] at this
  rw [ints_get _ hj] at hv
  cases hv
  rw [stC_pl _ (by omega) (by omega)]
  congr 3; omega
theorem stC_gms (s : StV) : ∀ j v, (ints 7 s.gm)[j]? = some v → (stC s)[30 + j]? = some v := fun j v hv => by
  have hj : j < 7 := by have := (Array.getElem?_eq_some_iff.1 hv).1; rwa [ints_size] at this
  rw [ints_get _ hj] at hv
  cases hv
  rw [stC_gm _ (by omega) (by omega)]
  congr 3; omega

/-- its lists read so -/
def lsRd (s : StV) (L : Nat → List Int) (w : World) : Prop := ∀ z, z < 11 → Rd w 1 (.slice (s.A (z + 1)) (s.n (z + 1)) (s.c (z + 1))) (s.n (z + 1)) (i64s (L z))
def lsAt (s : StV) (k : Nat) : Prop := ∃ z, z < 11 ∧ rdAt (.slice (s.A (z + 1)) (s.n (z + 1)) (s.c (z + 1))) k
theorem ls_firm (s : StV) (L : Nat → List Int) : Firm (lsRd s L) (lsAt s) :=
  ⟨fun w1 w2 o h hg hne z hz => Fact.keeps (B := 0) (f := .rd 1 _ _ _) (h z hz) hg fun k hk => hne k ⟨z, hz, hk⟩,
   fun w1 h k ⟨z, hz, hk⟩ => Fact.lt (B := 0) (f := .rd 1 _ _ _) (h z hz) hk⟩
abbrev Fact.ls (s : StV) (L : Nat → List Int) : Fact := .gen (lsRd s L) (lsAt s)
/-- what a state that came in holds -/
structure St where
  objs : List (Nat → Int)
  ls : Nat → List Int
  pl : Nat → Int
  gm : Nat → Int
structure StIn (w : World) (v : StV) (s : St) : Prop where
  objs : Rd w 18 (.slice (v.A 0) (v.n 0) (v.c 0)) (v.n 0) (rowsC 18 s.objs)
  ls : lsRd v s.ls w
  pl : v.pl = s.pl
  gm : v.gm = s.gm
  hn : ∀ z, z < 12 → (v.n z : Int) ≤ 9223372036854775807
theorem StIn.len {w : World} {v : StV} {s : St} (h : StIn w v s) : s.objs.length = v.n 0 := by
  have := h.objs.len; rw [rowsC_len] at this; omega
theorem StIn.llen {w : World} {v : StV} {s : St} (h : StIn w v s) {z : Nat} (hz : z < 11) : (s.ls z).length = v.n (z + 1) := by
  have := (h.ls z hz).len; rw [i64s_len] at this; omega
theorem StIn.below {w w' : World} {v : StV} {s : St} (h : StIn w v s) (hb : Below w.heap.size w w') : StIn w' v s :=
  ⟨h.objs.below hb, fun z hz => (h.ls z hz).below hb, h.pl, h.gm, h.hn⟩
namespace Mem
variable {o : Option Nat} {w0 w : World} {L : List Fact}
theorem addSt {v : StV} {s : St} (h : Mem none w0 w L) (hs : StIn w0 v s) : Mem none w0 w (.rd 18 (.slice (v.A 0) (v.n 0) (v.c 0)) (v.n 0) (rowsC 18 s.objs) :: .ls v s.ls :: L) := by
  refine addArg0 (addOld h ?_ rfl fun k hk => ⟨(ls_firm v s.ls).lt w0 hs.ls k hk, by simp⟩) hs.objs
  exact ⟨(ls_firm v s.ls).keeps _ _ _ hs.ls h.grown (by simp), ls_firm v s.ls⟩
theorem list {v : StV} {LL : Nat → List Int} (h : Mem o w0 w L) (hf : Fact.ls v LL ∈ L) {z : Nat} (hz : z < 11) : Rd w 1 (.slice (v.A (z + 1)) (v.n (z + 1)) (v.c (z + 1))) (v.n (z + 1)) (i64s (LL z)) := (h.holds _ hf).1 z hz
end Mem
end Go.Proofs.Ytlgfnimahmmgeaa
