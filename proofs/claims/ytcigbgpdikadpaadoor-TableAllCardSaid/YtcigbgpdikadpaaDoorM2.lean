import Derived.Test.YtcigbgpdikadpaaDoorM1
import Derived.ChangeKeysEq
import Derived.Laws.StructEq

set_option linter.unusedVariables false
set_option linter.unusedSimpArgs false

section
namespace Go.Proofs.YtcigbgpdikadpaaDoor
open Go.RowKit
set_option linter.unusedVariables false

/-- what a cell holds, with what hangs on it -/
inductive Dat where
  | int (k : IntKind) (n : Int)
  | bool (b : Bool)
  | val (v : Value)
  | list (v : Value) (sz : Nat) (xs : List (List Dat))
  | rows (xs : List (List Dat))
namespace Dat
def toV : Dat → Value
  | .int k n => .int k n
  | .bool b => .bool b
  | .val v => v
  | .list v _ _ => v
  | .rows _ => undef
def toInt : Dat → Int
  | .int _ n => n
  | _ => 0
def toBool : Dat → Bool
  | .bool b => b
  | _ => false
def xs : Dat → List (List Dat)
  | .list _ _ l => l
  | .rows l => l
  | _ => []
def row0 : Dat → List Dat
  | .rows (l :: _) => l
  | _ => []
end Dat
def flatV (xs : List (List Dat)) : List Value := xs.flatten.map Dat.toV

/-- what kind of cell; list r, rows r: a slice whose elements are rows of sort r -/
inductive Srt where
  | int (k : IntKind)
  | bool
  | str
  | err
  | val
  | list (r : Nat)
  | rows (r : Nat)
  deriving DecidableEq
abbrev Tab := List (Nat × List Srt)
def Tab.row : Tab → Nat → List Srt
  | [], _ => []
  | (k, l) :: T, r => if k = r then l else Tab.row T r
def dflt (Δ : Tab) : Srt → Dat
  | .int k => .int k 0
  | .bool => .bool false
  | .str => .val (.string ⟨#[]⟩)
  | .err => .val .nilIface
  | .val => .val .nilIface
  | .list r => .list (.slice none 0 0) (Δ.row r).length []
  | .rows _ => .rows []

inductive Has (Δ : Tab) : Srt → Dat → Prop where
  | int (k : IntKind) (n : Int) : Has Δ (.int k) (.int k n)
  | bool (b : Bool) : Has Δ .bool (.bool b)
  | str (s : ByteArray) : Has Δ .str (.val (.string s))
  | nili : Has Δ .err (.val .nilIface)
  | ifc (n : Int) : Has Δ .err (.val (.iface 54 (.int .i64 n)))
  | val (v : Value) (h : v.oneCell' = true) : Has Δ .val (.val v)
  | list (r : Nat) (A : Option Addr) (n c : Nat) (xs : List (List Dat)) (hl : ∀ row ∈ xs, row.length = (Δ.row r).length) (h : ∀ row ∈ xs, ∀ (c : Nat) (s : Srt) (d : Dat), (Δ.row r)[c]? = some s → row[c]? = some d → Has Δ s d) : Has Δ (.list r) (.list (.slice A n c) (Δ.row r).length xs)
  | rows (r : Nat) (xs : List (List Dat)) (hl : ∀ row ∈ xs, row.length = (Δ.row r).length) (h : ∀ row ∈ xs, ∀ (c : Nat) (s : Srt) (d : Dat), (Δ.row r)[c]? = some s → row[c]? = some d → Has Δ s d) : Has Δ (.rows r) (.rows xs)

/-- the cells of a slice may be written -/
def Uf (w : World) (sz : Nat) (v : Value) (n : Nat) : Prop := ∀ ad c, v = .slice (some ad) n c → 0 < n → ∃ g off, ad = ⟨g, off, none⟩ ∧ ∀ j, j < n * sz → w.frozen? ⟨g, off + j, none⟩ = false
theorem Uf.loc {w w' : World} {sz n : Nat} {v : Value} (h : Uf w sz v n) (hb : ∀ k, rdAt v k → w'.heap[k]? = w.heap[k]?) : Uf w' sz v n := fun ad c e hn => by
  obtain ⟨g, off, rfl, hj⟩ := h ad c e hn
  refine ⟨g, off, rfl, fun j hj' => ?_⟩
  rw [← hj j hj']
  unfold World.frozen?
  rw [hb g (by rw [e]; exact ⟨hn, rfl⟩)]
theorem Uf.nilS {w : World} {sz n m c : Nat} : Uf w sz (.slice none m c) n := fun ad c' e => by cases e
theorem Uf.row {w : World} {sz n b off c : Nat} {cs : Array Value} {T : TypeId} (h : Row w b cs T) : Uf w sz (.slice (some ⟨b, off, none⟩) n c) n := fun ad c' e hn => by
  cases e
  exact ⟨b, off, rfl, fun j _ => frozen_of_row w b _ cs T h⟩
theorem Uf.ow {w : World} {B sz n : Nat} {v : Value} {xs : List Value} (h : Ow w B sz v n xs) : Uf w sz v n := fun ad c e hn => by
  obtain ⟨A, c', e', hc, hl, ha, ho⟩ := h
  rw [e] at e'
  cases e'
  obtain ⟨g, off, hA, _, _, hj⟩ := ho (by omega)
  cases hA
  exact ⟨g, off, rfl, fun j hj' => (hj j (Nat.lt_of_lt_of_le hj' (Nat.mul_le_mul_right _ hc))).2⟩
/-- in memory w it can be read -/
inductive OkD (w : World) : Dat → Prop where
  | int (k : IntKind) (n : Int) : OkD w (.int k n)
  | bool (b : Bool) : OkD w (.bool b)
  | val (v : Value) : OkD w (.val v)
  | list (v : Value) (sz : Nat) (xs : List (List Dat)) (hr : Rd w sz v xs.length (flatV xs)) (h : ∀ row ∈ xs, ∀ d ∈ row, OkD w d) (hz : Uf w sz v xs.length) : OkD w (.list v sz xs)
  | rows (xs : List (List Dat)) (h : ∀ row ∈ xs, ∀ d ∈ row, OkD w d) : OkD w (.rows xs)
/-- the blocks that it is read from -/
inductive AtD : Dat → Nat → Prop where
  | here {v : Value} {sz : Nat} {xs : List (List Dat)} {k : Nat} (h : rdAt v k) : AtD (.list v sz xs) k
  | list {v : Value} {sz : Nat} {xs : List (List Dat)} {k : Nat} {row : List Dat} {d : Dat} (hr : row ∈ xs) (hd : d ∈ row) (h : AtD d k) : AtD (.list v sz xs) k
  | rows {xs : List (List Dat)} {k : Nat} {row : List Dat} {d : Dat} (hr : row ∈ xs) (hd : d ∈ row) (h : AtD d k) : AtD (.rows xs) k
theorem OkD.keeps {w w' : World} {o : Option Nat} {d : Dat} (h : OkD w d) (hg : w.grownBy w' o) (hne : ∀ k, AtD d k → some k ≠ o) : OkD w' d := by
  induction h with
  | int k n => exact .int k n
  | bool b => exact .bool b
  | val v => exact .val v
  | list v sz xs hr _ hz ih =>
    exact .list v sz xs (Fact.keeps (B := 0) (f := .rd sz v xs.length (flatV xs)) hr hg (fun k hk => hne k (.here hk))) (fun row hrow d hd => ih row hrow d hd fun k hk => hne k (.list hrow hd hk))
      (hz.loc fun k hk => hg.block k (Fact.lt (B := 0) (f := .rd sz v xs.length (flatV xs)) hr hk) (hne k (.here hk)))
  | rows xs _ ih => exact .rows xs fun row hrow d hd => ih row hrow d hd fun k hk => hne k (.rows hrow hd hk)
theorem OkD.lt {w : World} {d : Dat} (h : OkD w d) {k : Nat} (hk : AtD d k) : k < w.heap.size := by
  induction h with
  | int _ _ => cases hk
  | bool _ => cases hk
  | val _ => cases hk
  | list v sz xs hr _ _ ih =>
    cases hk with
    | here h => exact Fact.lt (B := 0) (f := .rd sz v xs.length (flatV xs)) hr h
    | list h1 h2 h3 => exact ih _ h1 _ h2 h3
  | rows xs _ ih =>
    cases hk with
    | rows h1 h2 h3 => exact ih _ h1 _ h2 h3
def OkL (w : World) (l : List Dat) : Prop := ∀ d ∈ l, OkD w d
def AtL (l : List Dat) (k : Nat) : Prop := ∃ d ∈ l, AtD d k
theorem firmL (l : List Dat) : Firm (fun w => OkL w l) (AtL l) :=
  ⟨fun w1 w2 o h hg hne d hd => (h d hd).keeps hg fun k hk => hne k ⟨d, hd, hk⟩, fun w1 h k ⟨d, hd, hk⟩ => (h d hd).lt hk⟩

inductive Cmp where
  | eq | ne | lt | le | gt | ge
  deriving DecidableEq
def Cmp.of (c : Cmp) (a b : Int) : Bool := match c with
  | .eq => a == b
  | .ne => a != b
  | .lt => decide (a < b)
  | .le => decide (a ≤ b)
  | .gt => decide (a > b)
  | .ge => decide (a ≥ b)
inductive Ar where
  | add | sub | mul | quo | rem | and | or | xor | andNot | shl | shr
  deriving DecidableEq
def bitsOf (k : IntKind) (f : BitVec k.bits → BitVec k.bits → BitVec k.bits) (a b : Int) : Int := k.wrap (f (BitVec.ofInt k.bits a) (BitVec.ofInt k.bits b)).toNat
def Ar.of (o : Ar) (k : IntKind) (a b : Int) : Int := match o with
  | .add => k.wrap (a + b)
  | .sub => k.wrap (a - b)
  | .mul => k.wrap (a * b)
  | .quo => k.wrap (a.tdiv b)
  | .rem => a.tmod b
  | .and => bitsOf k (fun x y => x &&& y) a b
  | .or => bitsOf k (fun x y => x ||| y) a b
  | .xor => bitsOf k (fun x y => x ^^^ y) a b
  | .andNot => bitsOf k (fun x y => x &&& ~~~y) a b
  | .shl => k.wrap (a * 2 ^ (min b.toNat k.bits))
  | .shr => a.fdiv (2 ^ (min b.toNat k.bits))
/-- is it the nil of an interface? -/
def isNilI : Dat → Bool
  | .val .nilIface => true
  | .list (.slice none _ _) _ _ => true
  | _ => false
/-- an error's number -/
def errN : Dat → Int
  | .val (.iface _ (.int _ n)) => n
  | _ => 0
/-- a part of a slice -/
def cutV (l h sz : Nat) : Value → Value
  | .slice a _ c => .slice (if c = l then a else a.map (·.add (l * sz))) (h - l) (c - l)
  | v => v
def cutD (l h : Nat) : Dat → Dat
  | .list v sz xs => if l ≤ h ∧ h ≤ xs.length ∧ xs.all (fun r => r.length == sz) = true then .list (cutV l h sz v) sz ((xs.take h).drop l) else .list v sz xs
  | d => d
/-- how far a slice's memory reaches -/
def capD : Dat → Int
  | .list (.slice _ _ c) _ _ => c
  | _ => 0
/-- what a string holds; the string of bytes -/
def strD : Dat → ByteArray
  | .val (.string s) => s
  | _ => ⟨#[]⟩
def bytesOf (xs : List (List Dat)) : ByteArray := ⟨(xs.map fun r => UInt8.ofNat (r.headD (.int .u8 0)).toInt.toNat).toArray⟩
def strB (l : List Nat) : Value := .string ⟨(l.map UInt8.ofNat).toArray⟩

/-- terms over the values that are not known -/
inductive Tm where
  | var (i : Nat)
  | int (k : IntKind) (n : Int)
  | bool (b : Bool)
  | nili
  | ifc (a : Tm)
  | str (l : List Nat)
  | nil (r : Nat)
  | ar (o : Ar) (k : IntKind) (a b : Tm)
  | cmp (c : Cmp) (a b : Tm)
  | not (a : Tm)
  | beq (a b : Tm)
  | and (a b : Tm)
  | or (a b : Tm)
  | conv (k : IntKind) (a : Tm)
  | len (a : Tm)
  | elem (s i : Tm) (c : Nat) (t : Srt)
  | sel (cs i : Tm) (t : Srt)
  | ite (c a b : Tm)
  | isnil (a : Tm)
  | errI (a : Tm)
  | cut (a l h : Tm)
  | rep (n row : Tm)
  | enil
  | econs (a b : Tm)
  | emp
  | push (a row : Tm)
  | app (a b : Tm)
  | upd (a i : Tm) (c : Nat) (v : Tm)
  | sof (a : Tm)
  | seq (a b : Tm)
  | slen (a : Tm)
  | sidx (a i : Tm)
  | scut (a l h : Tm)
  | sapp (a b : Tm)
  | sbytes (a : Tm)
  | cap (a : Tm)
  deriving DecidableEq
def den (Δ : Tab) (ρ : List Dat) : Tm → Dat
  | .var i => ρ.getD i (.bool false)
  | .int k n => .int k n
  | .bool b => .bool b
  | .nili => .val .nilIface
  | .ifc a => .val (.iface 54 (.int .i64 (den Δ ρ a).toInt))
  | .str l => .val (strB l)
  | .nil r => .list (.slice none 0 0) (Δ.row r).length []
  | .ar o k a b => .int k (o.of k (den Δ ρ a).toInt (den Δ ρ b).toInt)
  | .cmp c a b => .bool (c.of (den Δ ρ a).toInt (den Δ ρ b).toInt)
  | .not a => .bool (!(den Δ ρ a).toBool)
  | .beq a b => .bool ((den Δ ρ a).toBool == (den Δ ρ b).toBool)
  | .and a b => .bool ((den Δ ρ a).toBool && (den Δ ρ b).toBool)
  | .or a b => .bool ((den Δ ρ a).toBool || (den Δ ρ b).toBool)
  | .conv k a => .int k (k.wrap (den Δ ρ a).toInt)
  | .len a => .int .i64 (den Δ ρ a).xs.length
  | .elem s i c t => ((den Δ ρ s).xs.getD (den Δ ρ i).toInt.toNat []).getD c (dflt Δ t)
  | .sel cs i t => (den Δ ρ cs).row0.getD (den Δ ρ i).toInt.toNat (dflt Δ t)
  | .ite c a b => if (den Δ ρ c).toBool then den Δ ρ a else den Δ ρ b
  | .isnil a => .bool (isNilI (den Δ ρ a))
  | .errI a => .int .i64 (errN (den Δ ρ a))
  | .cut a l h => cutD (den Δ ρ l).toInt.toNat (den Δ ρ h).toInt.toNat (den Δ ρ a)
  | .rep n row => .rows (List.replicate (den Δ ρ n).toInt.toNat (den Δ ρ row).row0)
  | .enil => .rows [[]]
  | .econs a b => .rows [den Δ ρ a :: (den Δ ρ b).row0]
  | .emp => .rows []
  | .push a row => .rows ((den Δ ρ a).xs ++ [(den Δ ρ row).row0])
  | .app a b => .rows ((den Δ ρ a).xs ++ (den Δ ρ b).xs)
  | .upd a i c v => .rows ((den Δ ρ a).xs.set (den Δ ρ i).toInt.toNat (((den Δ ρ a).xs.getD (den Δ ρ i).toInt.toNat []).set c (den Δ ρ v)))
  | .sof a => .val (.string (bytesOf (den Δ ρ a).xs))
  | .seq a b => .bool ((strD (den Δ ρ a)).toList == (strD (den Δ ρ b)).toList)
  | .slen a => .int .i64 (strD (den Δ ρ a)).size
  | .sidx a i => .int .u8 ((strD (den Δ ρ a)).data.getD (den Δ ρ i).toInt.toNat 0).toNat
  | .scut a l h => .val (.string ((strD (den Δ ρ a)).extract (den Δ ρ l).toInt.toNat (den Δ ρ h).toInt.toNat))
  | .sapp a b => .val (.string (strD (den Δ ρ a) ++ strD (den Δ ρ b)))
  | .sbytes a => .rows ((strD (den Δ ρ a)).data.toList.map fun b => [.int .u8 b.toNat])
  | .cap a => .int .i64 (capD (den Δ ρ a))
def econsL : List Tm → Tm
  | [] => .enil
  | t :: l => .econs t (econsL l)
theorem den_econsL (Δ : Tab) (ρ : List Dat) : ∀ l : List Tm, (den Δ ρ (econsL l)).row0 = l.map (den Δ ρ)
  | [] => rfl
  | t :: l => by rw [econsL, den]; show _ :: _ = _; rw [den_econsL Δ ρ l]; rfl

theorem dflt_has (Δ : Tab) : ∀ s, Has Δ s (dflt Δ s)
  | .int k => .int k 0
  | .bool => .bool false
  | .str => .str _
  | .err => .nili
  | .val => .val _ rfl
  | .list r => .list r none 0 0 [] (by simp) (by simp)
  | .rows r => .rows r [] (by simp) (by simp)
theorem dflt_ok (Δ : Tab) (w : World) : ∀ s, OkD w (dflt Δ s)
  | .int k => .int k 0
  | .bool => .bool false
  | .str => .val _
  | .err => .val _
  | .val => .val _
  | .list r => .list _ _ _ ⟨none, 0, rfl, Nat.le_refl _, by simp [flatV], fun h => absurd h (by simp)⟩ (by simp) Uf.nilS
  | .rows r => .rows _ (by simp)
theorem dflt_at (Δ : Tab) (k : Nat) : ∀ s, ¬ AtD (dflt Δ s) k
  | .int _ => fun h => by cases h
  | .bool => fun h => by cases h
  | .str => fun h => by cases h
  | .err => fun h => by cases h
  | .val => fun h => by cases h
  | .list r => fun h => by
    cases h with
    | here h => exact h
    | list h1 _ _ => cases h1
  | .rows r => fun h => by
    cases h with
    | rows h1 _ _ => cases h1

/-- the terms' data are read where their variables' data are -/
def Good (w : World) (p : Nat → Prop) (d : Dat) : Prop := OkD w d ∧ ∀ k, AtD d k → p k
theorem Good.getD {w : World} {p : Nat → Prop} {l : List Dat} (h : ∀ d ∈ l, Good w p d) (i : Nat) {e : Dat} (he : Good w p e) : Good w p (l.getD i e) := by
  rw [List.getD_eq_getElem?_getD]
  cases hq : l[i]? with
  | none => exact he
  | some d => exact h d (List.mem_of_getElem? hq)
theorem Good.rowsIn {w : World} {p : Nat → Prop} {d : Dat} (h : Good w p d) {row : List Dat} (hr : row ∈ d.xs) {e : Dat} (he : e ∈ row) : Good w p e := by
  obtain ⟨h1, h2⟩ := h
  cases h1 with
  | int _ _ => cases hr
  | bool _ => cases hr
  | val _ => cases hr
  | list v sz xs hrd ho _ => exact ⟨ho row hr e he, fun k hk => h2 k (.list hr he hk)⟩
  | rows xs ho => exact ⟨ho row hr e he, fun k hk => h2 k (.rows hr he hk)⟩
theorem Good.mkRows {w : World} {p : Nat → Prop} {xs : List (List Dat)} (h : ∀ row ∈ xs, ∀ d ∈ row, Good w p d) : Good w p (.rows xs) :=
  ⟨.rows xs fun row hr d hd => (h row hr d hd).1, fun k hk => by
    cases hk with
    | rows h1 h2 h3 => exact (h _ h1 _ h2).2 k h3⟩
theorem Good.row0 {w : World} {p : Nat → Prop} {d : Dat} (h : Good w p d) : ∀ e ∈ d.row0, Good w p e := fun e he => by
  cases d with
  | rows xs =>
    cases xs with
    | nil => cases he
    | cons l xs => exact h.rowsIn (row := l) (by simp [Dat.xs]) he
  | _ => cases he
theorem Good.dflt (Δ : Tab) (w : World) (p : Nat → Prop) (s : Srt) : Good w p (dflt Δ s) := ⟨dflt_ok Δ w s, fun k hk => (dflt_at Δ k s hk).elim⟩
theorem Good.ofInt {w : World} {p : Nat → Prop} (k : IntKind) (n : Int) : Good w p (.int k n) := ⟨.int k n, fun _ h => by cases h⟩
theorem Good.ofBool {w : World} {p : Nat → Prop} (b : Bool) : Good w p (.bool b) := ⟨.bool b, fun _ h => by cases h⟩
theorem Good.ofVal {w : World} {p : Nat → Prop} (v : Value) : Good w p (.val v) := ⟨.val v, fun _ h => by cases h⟩
theorem getD_mem_or {α : Type} (l : List α) (i : Nat) (e : α) : l.getD i e ∈ l ∨ l.getD i e = e := by
  rw [List.getD_eq_getElem?_getD]
  cases hq : l[i]? with
  | none => exact .inr rfl
  | some d => exact .inl (List.mem_of_getElem? hq)
theorem flatV_drop {sz : Nat} : ∀ (xs : List (List Dat)) (l : Nat), (∀ row ∈ xs, row.length = sz) → flatV (xs.drop l) = (flatV xs).drop (l * sz)
  | xs, 0, _ => by simp
  | [], l + 1, _ => by simp [flatV]
  | r :: xs, l + 1, h => by
    have ih := flatV_drop xs l (fun row hr => h row (by simp [hr]))
    have hr := h r (by simp)
    have e1 : ∀ ys : List (List Dat), flatV (r :: ys) = r.map Dat.toV ++ flatV ys := fun ys => by simp [flatV]
    have e3 : ((r.map Dat.toV)).drop ((l + 1) * sz) = [] := List.drop_of_length_le (by rw [List.length_map, hr, Nat.add_mul]; omega)
    rw [List.drop_succ_cons, e1, ih, List.drop_append, e3, List.nil_append]
    congr 1
    rw [List.length_map, hr, Nat.add_mul]; omega
theorem flatV_take {sz : Nat} : ∀ (xs : List (List Dat)) (l : Nat), (∀ row ∈ xs, row.length = sz) → flatV (xs.take l) = (flatV xs).take (l * sz)
  | xs, 0, _ => by simp [flatV]
  | [], l + 1, _ => by simp [flatV]
  | r :: xs, l + 1, h => by
    have ih := flatV_take xs l (fun row hr => h row (by simp [hr]))
    have hr := h r (by simp)
    have e1 : ∀ ys : List (List Dat), flatV (r :: ys) = r.map Dat.toV ++ flatV ys := fun ys => by simp [flatV]
    have e3 : ((r.map Dat.toV)).take ((l + 1) * sz) = r.map Dat.toV := List.take_of_length_le (by rw [List.length_map, hr, Nat.add_mul]; omega)
    rw [List.take_succ_cons, e1, e1, ih, List.take_append, e3]
    congr 2
    rw [List.length_map, hr, Nat.add_mul]; omega
theorem Uf.cut {w : World} {sz n c l h : Nat} {A : Option Addr} (hz : Uf w sz (.slice A n c) n) (hlh : l ≤ h) (hh : h ≤ n) (hc : n ≤ c) : Uf w sz (cutV l h sz (.slice A n c)) (h - l) := fun ad c' e hpos => by
  have e' : cutV l h sz (.slice A n c) = .slice (if c = l then A else A.map (·.add (l * sz))) (h - l) (c - l) := by simp [cutV, Nat.min_eq_left hh]
  rw [e'] at e
  injection e with e1 e2 e3
  rw [if_neg (by omega)] at e1
  cases A with
  | none => cases e1
  | some a0 =>
    obtain ⟨g, off, rfl, hj⟩ := hz a0 c rfl (by omega)
    injection e1 with e1
    refine ⟨g, off + l * sz, by rw [← e1]; show Addr.add _ _ = _; rw [Addr.add_lit], fun j hj' => ?_⟩
    have h1 := Nat.mul_le_mul_right sz hh
    have h2 := Nat.mul_le_mul_right sz hlh
    rw [Nat.sub_mul] at hj'
    rw [Nat.add_assoc]
    exact hj _ (by omega)
theorem cutL_good {w : World} {p : Nat → Prop} {v : Value} {sz : Nat} {xs : List (List Dat)} {l h : Nat} (hg : Good w p (.list v sz xs)) (hrow : ∀ row ∈ xs, row.length = sz) (hlh : l ≤ h) (hh : h ≤ xs.length) : Good w p (.list (cutV l h sz v) sz ((xs.take h).drop l)) := by
  obtain ⟨h1, h2⟩ := hg
  cases h1 with
  | list _ _ _ hr ho hz =>
  obtain ⟨A, c, rfl, hc, hl, ha⟩ := hr
  refine ⟨.list _ _ _ ⟨if c = l then A else A.map (·.add (l * sz)), c - l, ?_, ?_, ?_, ?_⟩ (fun row hr d hd => ho row (List.mem_of_mem_take (List.mem_of_mem_drop hr)) d hd) (by
    have := hz.cut hlh hh hc
    rwa [show ((xs.take h).drop l).length = h - l by simp only [List.length_drop, List.length_take]; omega]), fun k hk => ?_⟩
  · simp [cutV, Nat.min_eq_left hh]
  · simp only [List.length_drop, List.length_take]; omega
  · rw [flatV_drop (sz := sz) _ _ (fun row hr => hrow row (List.mem_of_mem_take hr)), flatV_take xs h hrow]
    simp only [List.length_drop, List.length_take, hl, Nat.sub_mul]
    rw [Nat.min_eq_left (Nat.mul_le_mul_right _ hh), Nat.min_eq_left hh]
  · intro hpos
    simp only [List.length_drop, List.length_take] at hpos
    obtain ⟨ad, rfl, hb, hcell⟩ := ha (by omega)
    refine ⟨ad.add (l * sz), ?_, by rw [block_add]; exact hb, fun j u hu => ?_⟩
    · rw [if_neg (by omega)]; rfl
    · rw [add_add']
      refine hcell _ u ?_
      rw [flatV_drop (sz := sz) _ _ (fun row hr => hrow row (List.mem_of_mem_take hr)), flatV_take xs h hrow, List.getElem?_drop] at hu
      rw [List.getElem?_take] at hu
      split at hu
      · exact hu
      · cases hu
  · cases hk with
    | here hr =>
      refine h2 k (.here ?_)
      cases A with
      | none => simp only [cutV] at hr; split at hr <;> exact hr.elim
      | some ad =>
        simp only [cutV] at hr
        split at hr
        · exact ⟨by obtain ⟨a1, a2⟩ := hr; omega, hr.2⟩
        · obtain ⟨a1, a2⟩ := hr
          exact ⟨by omega, by rw [a2, block_add]⟩
    | list hr hd hk => exact h2 k (.list (List.mem_of_mem_take (List.mem_of_mem_drop hr)) hd hk)
theorem Good.cut {w : World} {p : Nat → Prop} {d : Dat} (hg : Good w p d) (l h : Nat) : Good w p (cutD l h d) := by
  cases d with
  | list v sz xs =>
    simp only [cutD]
    split
    · rename_i hc
      obtain ⟨h1, h2, h3⟩ := hc
      exact cutL_good hg (fun row hr => by simpa using List.all_eq_true.1 h3 row hr) h1 h2
    · exact hg
  | _ => exact hg
theorem den_good {Δ : Tab} {w : World} {p : Nat → Prop} {ρ : List Dat} (h : ∀ d ∈ ρ, Good w p d) : ∀ t, Good w p (den Δ ρ t)
  | .var i => Good.getD h i (Good.ofBool _)
  | .int k n => Good.ofInt k n
  | .bool b => Good.ofBool b
  | .nili => Good.ofVal _
  | .ifc _ => Good.ofVal _
  | .str _ => Good.ofVal _
  | .nil r => Good.dflt Δ w p (.list r)
  | .ar _ _ _ _ => Good.ofInt _ _
  | .cmp _ _ _ => Good.ofBool _
  | .not _ => Good.ofBool _
  | .beq _ _ => Good.ofBool _
  | .and _ _ => Good.ofBool _
  | .or _ _ => Good.ofBool _
  | .conv _ _ => Good.ofInt _ _
  | .len _ => Good.ofInt _ _
  | .elem s i c t => by
    refine Good.getD (fun d hd => ?_) c (Good.dflt Δ w p t)
    rcases getD_mem_or (den Δ ρ s).xs (den Δ ρ i).toInt.toNat [] with e | e
    · exact (den_good h s).rowsIn e hd
    · rw [e] at hd; cases hd
  | .sel cs i t => Good.getD (den_good h cs).row0 _ (Good.dflt Δ w p t)
  | .ite c a b => by
    simp only [den]
    split
    · exact den_good h a
    · exact den_good h b
  | .isnil _ => Good.ofBool _
  | .errI _ => Good.ofInt _ _
  | .cut a _ _ => (den_good h a).cut _ _
  | .rep n row => Good.mkRows fun r hr d hd => by
    rw [(List.mem_replicate.1 hr).2] at hd
    exact (den_good h row).row0 d hd
  | .enil => Good.mkRows (by simp)
  | .econs a b => Good.mkRows fun row hr d hd => by
    simp only [List.mem_singleton] at hr
    subst hr
    rcases List.mem_cons.1 hd with rfl | hd
    · exact den_good h a
    · exact (den_good h b).row0 d hd
  | .emp => Good.mkRows (by simp)
  | .push a row => Good.mkRows fun r hr d hd => by
    rcases List.mem_append.1 hr with hr | hr
    · exact (den_good h a).rowsIn hr hd
    · simp only [List.mem_singleton] at hr
      subst hr
      exact (den_good h row).row0 d hd
  | .app a b => Good.mkRows fun r hr d hd => by
    rcases List.mem_append.1 hr with hr | hr
    · exact (den_good h a).rowsIn hr hd
    · exact (den_good h b).rowsIn hr hd
  | .upd a i c v => Good.mkRows fun r hr d hd => by
    rcases List.mem_or_eq_of_mem_set hr with hr | hr
    · exact (den_good h a).rowsIn hr hd
    · subst hr
      rcases List.mem_or_eq_of_mem_set hd with hd | hd
      · rcases getD_mem_or (den Δ ρ a).xs (den Δ ρ i).toInt.toNat [] with e | e
        · exact (den_good h a).rowsIn e hd
        · rw [e] at hd; cases hd
      · subst hd; exact den_good h v
  | .sof _ => Good.ofVal _
  | .seq _ _ => Good.ofBool _
  | .slen _ => Good.ofInt _ _
  | .sidx _ _ => Good.ofInt _ _
  | .scut _ _ _ => Good.ofVal _
  | .sapp _ _ => Good.ofVal _
  | .cap _ => Good.ofInt _ _
  | .sbytes a => Good.mkRows fun r hr d hd => by
    obtain ⟨b, _, rfl⟩ := List.mem_map.1 hr
    simp only [List.mem_singleton] at hd
    subst hd
    exact Good.ofInt _ _

/-- a term's variables are below n -/
def Tm.bnd (n : Nat) : Tm → Bool
  | .var i => decide (i < n)
  | .int _ _ | .bool _ | .nili | .str _ | .nil _ | .enil | .emp => true
  | .ar _ _ a b | .cmp _ a b | .beq a b | .and a b | .or a b | .elem a b _ _ | .sel a b _ | .econs a b | .push a b | .app a b | .rep a b | .seq a b | .sidx a b | .sapp a b => a.bnd n && b.bnd n
  | .not a | .conv _ a | .len a | .isnil a | .errI a | .ifc a | .sof a | .slen a | .sbytes a | .cap a => a.bnd n
  | .ite a b c | .cut a b c | .scut a b c => a.bnd n && b.bnd n && c.bnd n
  | .upd a b _ c => a.bnd n && b.bnd n && c.bnd n
theorem den_below {Δ : Tab} {ρ : List Dat} : ∀ (t : Tm), t.bnd ρ.length = true → ∀ e, den Δ (ρ ++ e) t = den Δ ρ t
  | .var i, h, e => by
    have hi : i < ρ.length := by simpa [Tm.bnd] using h
    simp [den, List.getD_eq_getElem?_getD, List.getElem?_append_left hi]
  | .int _ _, _, _ => rfl
  | .bool _, _, _ => rfl
  | .nili, _, _ => rfl
  | .str _, _, _ => rfl
  | .nil _, _, _ => rfl
  | .enil, _, _ => rfl
  | .emp, _, _ => rfl
  | .ar _ _ a b, h, e => by simp only [Tm.bnd, Bool.and_eq_true] at h; simp only [den, den_below a h.1 e, den_below b h.2 e]
  | .cmp _ a b, h, e => by simp only [Tm.bnd, Bool.and_eq_true] at h; simp only [den, den_below a h.1 e, den_below b h.2 e]
  | .beq a b, h, e => by simp only [Tm.bnd, Bool.and_eq_true] at h; simp only [den, den_below a h.1 e, den_below b h.2 e]
  | .and a b, h, e => by simp only [Tm.bnd, Bool.and_eq_true] at h; simp only [den, den_below a h.1 e, den_below b h.2 e]
  | .or a b, h, e => by simp only [Tm.bnd, Bool.and_eq_true] at h; simp only [den, den_below a h.1 e, den_below b h.2 e]
  | .elem a b _ _, h, e => by simp only [Tm.bnd, Bool.and_eq_true] at h; simp only [den, den_below a h.1 e, den_below b h.2 e]
  | .sel a b _, h, e => by simp only [Tm.bnd, Bool.and_eq_true] at h; simp only [den, den_below a h.1 e, den_below b h.2 e]
  | .econs a b, h, e => by simp only [Tm.bnd, Bool.and_eq_true] at h; simp only [den, den_below a h.1 e, den_below b h.2 e]
  | .push a b, h, e => by simp only [Tm.bnd, Bool.and_eq_true] at h; simp only [den, den_below a h.1 e, den_below b h.2 e]
  | .app a b, h, e => by simp only [Tm.bnd, Bool.and_eq_true] at h; simp only [den, den_below a h.1 e, den_below b h.2 e]
  | .not a, h, e => by simp only [Tm.bnd] at h; simp only [den, den_below a h e]
  | .conv _ a, h, e => by simp only [Tm.bnd] at h; simp only [den, den_below a h e]
  | .len a, h, e => by simp only [Tm.bnd] at h; simp only [den, den_below a h e]
  | .isnil a, h, e => by simp only [Tm.bnd] at h; simp only [den, den_below a h e]
  | .errI a, h, e => by simp only [Tm.bnd] at h; simp only [den, den_below a h e]
  | .ifc a, h, e => by simp only [Tm.bnd] at h; simp only [den, den_below a h e]
  | .rep a b, h, e => by simp only [Tm.bnd, Bool.and_eq_true] at h; simp only [den, den_below a h.1 e, den_below b h.2 e]
  | .cut a b c, h, e => by simp only [Tm.bnd, Bool.and_eq_true] at h; simp only [den, den_below a h.1.1 e, den_below b h.1.2 e, den_below c h.2 e]
  | .ite a b c, h, e => by simp only [Tm.bnd, Bool.and_eq_true] at h; simp only [den, den_below a h.1.1 e, den_below b h.1.2 e, den_below c h.2 e]
  | .upd a b _ c, h, e => by simp only [Tm.bnd, Bool.and_eq_true] at h; simp only [den, den_below a h.1.1 e, den_below b h.1.2 e, den_below c h.2 e]
  | .seq a b, h, e => by simp only [Tm.bnd, Bool.and_eq_true] at h; simp only [den, den_below a h.1 e, den_below b h.2 e]
  | .sidx a b, h, e => by simp only [Tm.bnd, Bool.and_eq_true] at h; simp only [den, den_below a h.1 e, den_below b h.2 e]
  | .sapp a b, h, e => by simp only [Tm.bnd, Bool.and_eq_true] at h; simp only [den, den_below a h.1 e, den_below b h.2 e]
  | .sof a, h, e => by simp only [Tm.bnd] at h; simp only [den, den_below a h e]
  | .slen a, h, e => by simp only [Tm.bnd] at h; simp only [den, den_below a h e]
  | .sbytes a, h, e => by simp only [Tm.bnd] at h; simp only [den, den_below a h e]
  | .cap a, h, e => by simp only [Tm.bnd] at h; simp only [den, den_below a h e]
  | .scut a b c, h, e => by simp only [Tm.bnd, Bool.and_eq_true] at h; simp only [den, den_below a h.1.1 e, den_below b h.1.2 e, den_below c h.2 e]

/-- the term stands for d, whatever comes behind -/
def Den (Δ : Tab) (ρ : List Dat) (t : Tm) (d : Dat) : Prop := ∀ e, den Δ (ρ ++ e) t = d
theorem Den.now {Δ : Tab} {ρ : List Dat} {t : Tm} {d : Dat} (h : Den Δ ρ t d) : den Δ ρ t = d := by simpa using h []
theorem Den.more {Δ : Tab} {ρ : List Dat} {t : Tm} {d : Dat} (h : Den Δ ρ t d) (x : List Dat) : Den Δ (ρ ++ x) t d := fun e => by rw [List.append_assoc]; exact h _
theorem Den.of {Δ : Tab} {ρ : List Dat} {t : Tm} (h : t.bnd ρ.length = true) : Den Δ ρ t (den Δ ρ t) := fun e => den_below t h e
theorem Den.less {Δ : Tab} {ρ x : List Dat} {t : Tm} {d : Dat} (h : Den Δ (ρ ++ x) t d) (hb : t.bnd ρ.length = true) : Den Δ ρ t d := by
  have := h.now
  rw [den_below t hb x] at this
  intro e
  rw [den_below t hb e, this]
theorem Den.var {Δ : Tab} {ρ : List Dat} {i : Nat} {d : Dat} (h : ρ[i]? = some d) : Den Δ ρ (.var i) d := fun e => by
  have hi := (List.getElem?_eq_some_iff.1 h).1
  simp [den, List.getD_eq_getElem?_getD, List.getElem?_append_left hi, h]
end Go.Proofs.YtcigbgpdikadpaaDoor
end

section
namespace Go.Proofs.YtcigbgpdikadpaaDoor
open Go.RowKit
set_option linter.unusedVariables false

inductive All2 {α β : Type} (R : α → β → Prop) : List α → List β → Prop where
  | nil : All2 R [] []
  | cons {a : α} {b : β} {l : List α} {m : List β} (h : R a b) (t : All2 R l m) : All2 R (a :: l) (b :: m)
namespace All2
variable {α β : Type} {R R' : α → β → Prop} {l l' : List α} {m m' : List β}
theorem length (h : All2 R l m) : l.length = m.length := by
  induction h with
  | nil => rfl
  | cons _ _ ih => simp [ih]
theorem get (h : All2 R l m) : ∀ {i : Nat} {a : α}, l[i]? = some a → ∃ b, m[i]? = some b ∧ R a b := by
  induction h with
  | nil => intro i a e; cases e
  | cons h _ ih =>
    intro i a e
    cases i with
    | zero => cases e; exact ⟨_, rfl, h⟩
    | succ i => exact ih (i := i) (by simpa using e)
theorem get2 (h : All2 R l m) : ∀ {i : Nat} {b : β}, m[i]? = some b → ∃ a, l[i]? = some a ∧ R a b := by
  induction h with
  | nil => intro i a e; cases e
  | cons h _ ih =>
    intro i a e
    cases i with
    | zero => cases e; exact ⟨_, rfl, h⟩
    | succ i => exact ih (i := i) (by simpa using e)
theorem mono (h : All2 R l m) (f : ∀ a b, R a b → R' a b) : All2 R' l m := by
  induction h with
  | nil => exact .nil
  | cons h _ ih => exact .cons (f _ _ h) ih
theorem set (h : All2 R l m) {a : α} {b : β} (hr : R a b) : ∀ i, All2 R (l.set i a) (m.set i b) := by
  induction h with
  | nil => intro i; exact .nil
  | cons h t ih =>
    intro i
    cases i with
    | zero => exact .cons hr t
    | succ i => exact .cons h (ih i)
theorem append (h : All2 R l m) (k : All2 R l' m') : All2 R (l ++ l') (m ++ m') := by
  induction h with
  | nil => exact k
  | cons h _ ih => exact .cons h ih
theorem one {a : α} {b : β} (h : R a b) : All2 R [a] [b] := .cons h .nil
theorem of (hl : l.length = m.length) (h : ∀ (i : Nat) a b, l[i]? = some a → m[i]? = some b → R a b) : All2 R l m := by
  induction l generalizing m with
  | nil => cases m with
    | nil => exact .nil
    | cons b m => cases hl
  | cons a l ih => cases m with
    | nil => cases hl
    | cons b m => exact .cons (h 0 a b rfl rfl) (ih (by simpa using hl) fun i a b ha hb => h (i + 1) a b (by simpa using ha) (by simpa using hb))
theorem replicate {a : α} {b : β} (h : R a b) : ∀ n, All2 R (List.replicate n a) (List.replicate n b)
  | 0 => .nil
  | n + 1 => .cons h (replicate h n)
end All2

/-- where a pointer points to: an own variable, a package's variable, an element of a slice that is read, one of a slice of the call's own -/
inductive Bs where
  | ob (j : Nat)
  | gl (g : Nat)
  | el (s : Tm) (r : Nat) (i : Tm)
  | oe (j r : Nat) (i : Tm)
  deriving DecidableEq
inductive CP where
  | tm (t : Tm) (s : Srt)
  | ref (b : Bs) (off : Nat) (dyn : List (Tm × Nat × Nat))
  | own (j : Nat)
  | nils
  | sb (b : Bs) (off : Nat) (dyn : List (Tm × Nat × Nat)) (n : Nat)
  deriving DecidableEq
inductive C where
  | unk
  | undef
  | p (x : CP)
  | fn (f : Nat) (caps : List CP)
  deriving DecidableEq
inductive A1 where
  | c (x : C)
  | agg (l : List C)
  deriving DecidableEq
inductive AV where
  | v (x : A1)
  | tup (l : List A1)
  deriving DecidableEq
inductive Ob where
  | blk (cs : List C) (ty : Nat)
  | own (r : Nat) (t : Tm)
  | dead
  | fr
  deriving DecidableEq
/-- what else stands as it is -/
structure Frm where
  p : World → Prop
  q : Nat → Prop
  loc : ∀ w w', p w → (∀ k, q k → w'.heap[k]? = w.heap[k]?) → p w'
  lt : ∀ w, p w → ∀ k, q k → k < w.heap.size
def Frm.none : Frm := ⟨fun _ => True, fun _ => False, fun _ _ _ _ => trivial, fun _ _ _ h => h.elim⟩
/-- the package's variables -/
structure Env where
  P : Program
  Δ : Tab
  gt : List (Nat × List (Tm × Srt) × Nat)
  γ : List Dat
  old : Nat → Prop
  gx : List Nat := []
  fr : Frm := Frm.none
  op : World → Prop := fun _ => True
  oq : Nat → Prop := fun _ => False
  s0 : List Value := []
def Srt.one : Srt → Bool
  | .rows _ => false
  | _ => true
/-- gt: variables whose cells are known; gx: variables that hold some error of the library's; fr: what the caller has besides -/
def Env.globs (E : Env) (w : World) : Prop := (∀ x ∈ E.gt, ∃ T, Row w x.1 (x.2.1.map fun t => (den E.Δ E.γ t.1).toV).toArray T) ∧ (∀ g ∈ E.gx, ∃ T t p, Row w g #[.iface t p] T) ∧ E.fr.p w
theorem Env.globs.tab {E : Env} {w : World} (h : E.globs w) : ∀ x ∈ E.gt, ∃ T, Row w x.1 (x.2.1.map fun t => (den E.Δ E.γ t.1).toV).toArray T := h.1
theorem Env.globs.err {E : Env} {w : World} (h : E.globs w) : ∀ g ∈ E.gx, ∃ T t p, Row w g #[.iface t p] T := h.2.1
theorem Env.globs.frm {E : Env} {w : World} (h : E.globs w) : E.fr.p w := h.2.2
def Env.gat (E : Env) (k : Nat) : Prop := (∃ x ∈ E.gt, k = x.1) ∨ k ∈ E.gx ∨ E.fr.q k
theorem Env.globs.lt {E : Env} {w : World} (h : E.globs w) {k : Nat} (hk : E.gat k) : k < w.heap.size := by
  rcases hk with ⟨x, hx, rfl⟩ | hk | hk
  · exact Row.lt (h.tab x hx).choose_spec
  · obtain ⟨T, t, p, hr⟩ := h.err k hk
    exact Row.lt hr
  · exact E.fr.lt w h.frm k hk
theorem Env.globs.block {E : Env} {w w' : World} (h : E.globs w) (hb : ∀ k, k < w.heap.size → E.gat k → w'.heap[k]? = w.heap[k]?) : E.globs w' :=
  ⟨fun x hx => (h.tab x hx).imp fun T hT => (hb _ (Row.lt hT) (.inl ⟨x, hx, rfl⟩)).trans hT,
   fun g hg => by
    obtain ⟨T, t, p, hr⟩ := h.err g hg
    exact ⟨T, t, p, (hb _ (Row.lt hr) (.inr (.inl hg))).trans hr⟩,
   E.fr.loc w w' h.frm fun k hk => hb k (E.fr.lt w h.frm k hk) (.inr (.inr hk))⟩
structure Env.Wf (E : Env) : Prop where
  srt : ∀ x ∈ E.gt, ∀ t ∈ x.2.1, Has E.Δ t.2 (den E.Δ E.γ t.1) ∧ t.1.bnd E.γ.length = true ∧ t.2.one = true

section
variable (E : Env) (ρ : List Dat) (σ : List Value)
def BsR : Bs → Option Addr → Nat → Prop
  | .ob j, A, p => ∃ b, σ[j]? = some (.pointer (some ⟨b, 0, none⟩)) ∧ A = some ⟨b, 0, none⟩ ∧ p = 0
  | .gl g, A, p => A = some ⟨g, 0, none⟩ ∧ p = 0
  | .el s r i, A, p => ∃ n c xs k, Den E.Δ ρ s (.list (.slice A n c) (E.Δ.row r).length xs) ∧ Has E.Δ (.list r) (.list (.slice A n c) (E.Δ.row r).length xs) ∧ Den E.Δ ρ i (.int .i64 k) ∧ 0 ≤ k ∧ k < xs.length ∧ p = k.toNat * (E.Δ.row r).length
  | .oe j r i, A, p => ∃ n c k, σ[j]? = some (.slice A n c) ∧ Den E.Δ ρ i (.int .i64 k) ∧ 0 ≤ k ∧ k < (n : Int) ∧ p = k.toNat * (E.Δ.row r).length
def DynR : List (Tm × Nat × Nat) → Nat → Prop
  | [], p => p = 0
  | (i, st, m) :: l, p => ∃ k q, Den E.Δ ρ i (.int .i64 k) ∧ 0 ≤ k ∧ k < (m : Int) ∧ DynR l q ∧ p = k.toNat * st + q
def CPR : CP → Value → Prop
  | .tm t s, v => ∃ d, Den E.Δ ρ t d ∧ Has E.Δ s d ∧ v = d.toV ∧ s.one = true
  | .ref b off dyn, v => ∃ A p q, BsR E ρ σ b A p ∧ DynR E ρ dyn q ∧ v = pt A (p + off + q)
  | .own j, v => σ[j]? = some v ∧ ∃ A n c, v = .slice A n c
  | .nils, v => v = .slice none 0 0
  | .sb b off dyn n, v => ∃ A p q m, BsR E ρ σ b A p ∧ DynR E ρ dyn q ∧ n ≤ m ∧ v = .slice (some ((A.getD ⟨0, 0, none⟩).add (p + off + q))) n m
def CR : C → Value → Prop
  | .unk, _ => True
  | .undef, v => v = undef
  | .p x, v => CPR E ρ σ x v
  | .fn f caps, v => ∃ vs, All2 (CPR E ρ σ) caps vs ∧ v = .func (.func f) #[] vs.toArray
def AR : A1 → Value → Prop
  | .c x, v => CR E ρ σ x v
  | .agg l, v => ∃ vs, All2 (CR E ρ σ) l vs ∧ v = .agg vs.toArray
def VR : AV → Value → Prop
  | .v x, v => AR E ρ σ x v
  | .tup l, v => ∃ vs, All2 (AR E ρ σ) l vs ∧ v = .tuple vs.toArray
def ObR : Ob → Value → Fact → Prop
  | .blk cs ty, v, f => ∃ b vs, v = .pointer (some ⟨b, 0, none⟩) ∧ All2 (CR E ρ σ) cs vs ∧ f = .row b vs.toArray ty
  | .own r t, v, f => ∃ A n c xs, v = .slice A n c ∧ Den E.Δ ρ t (.rows xs) ∧ Has E.Δ (.rows r) (.rows xs) ∧ xs.length = n ∧ f = .ow (E.Δ.row r).length v n (flatV xs)
  | .dead, v, f => f = .gen (fun _ => True) (fun _ => False)
  | .fr, v, f => v = undef ∧ f = .ogen E.op E.oq
structure ObsR (os : List Ob) (L : List Fact) : Prop where
  l1 : os.length = σ.length
  l2 : L.length = σ.length
  get : ∀ (j : Nat) o, os[j]? = some o → ∃ v f, σ[j]? = some v ∧ L[j]? = some f ∧ ObR E ρ σ o v f
end

section
variable {E : Env} {ρ : List Dat} {σ : List Value}
theorem lt_get {α : Type} {l m : List α} {j : Nat} {v : α} (h : l[j]? = some v) : (l ++ m)[j]? = some v := by
  rw [List.getElem?_append_left (List.getElem?_eq_some_iff.1 h).1]; exact h
theorem BsR.more (e : List Dat) (f : List Value) : ∀ {b : Bs} {A : Option Addr} {p : Nat}, BsR E ρ σ b A p → BsR E (ρ ++ e) (σ ++ f) b A p
  | .ob j, _, _, ⟨b, h, r⟩ => ⟨b, lt_get h, r⟩
  | .gl g, _, _, h => h
  | .el s r i, _, _, ⟨n, c, xs, k, h1, h2, h3, r'⟩ => ⟨n, c, xs, k, h1.more e, h2, h3.more e, r'⟩
  | .oe j r i, _, _, ⟨n, c, k, h1, h2, r'⟩ => ⟨n, c, k, lt_get h1, h2.more e, r'⟩
theorem DynR.more (e : List Dat) : ∀ {l : List (Tm × Nat × Nat)} {p : Nat}, DynR E ρ l p → DynR E (ρ ++ e) l p
  | [], _, h => h
  | _ :: l, _, ⟨k, q, h1, h2, h3, h4, h5⟩ => ⟨k, q, h1.more e, h2, h3, DynR.more e h4, h5⟩
theorem CPR.more (e : List Dat) (f : List Value) : ∀ {x : CP} {v : Value}, CPR E ρ σ x v → CPR E (ρ ++ e) (σ ++ f) x v
  | .tm t s, _, ⟨d, h1, r⟩ => ⟨d, h1.more e, r⟩
  | .ref b off dyn, _, ⟨A, p, q, h1, h2, h3⟩ => ⟨A, p, q, h1.more e f, h2.more e, h3⟩
  | .own j, _, ⟨h, r⟩ => ⟨lt_get h, r⟩
  | .nils, _, h => h
  | .sb b off dyn n, _, ⟨A, p, q, m, h1, h2, h3⟩ => ⟨A, p, q, m, h1.more e f, h2.more e, h3⟩
theorem CR.more (e : List Dat) (f : List Value) : ∀ {x : C} {v : Value}, CR E ρ σ x v → CR E (ρ ++ e) (σ ++ f) x v
  | .unk, _, _ => trivial
  | .undef, _, h => h
  | .p x, _, h => CPR.more e f (x := x) h
  | .fn g caps, _, ⟨vs, h, r⟩ => ⟨vs, h.mono fun _ _ h => h.more e f, r⟩
theorem AR.more (e : List Dat) (f : List Value) : ∀ {x : A1} {v : Value}, AR E ρ σ x v → AR E (ρ ++ e) (σ ++ f) x v
  | .c x, _, h => CR.more e f (x := x) h
  | .agg l, _, ⟨vs, h, r⟩ => ⟨vs, h.mono fun _ _ h => h.more e f, r⟩
theorem VR.more (e : List Dat) (f : List Value) : ∀ {x : AV} {v : Value}, VR E ρ σ x v → VR E (ρ ++ e) (σ ++ f) x v
  | .v x, _, h => AR.more e f (x := x) h
  | .tup l, _, ⟨vs, h, r⟩ => ⟨vs, h.mono fun _ _ h => h.more e f, r⟩
theorem ObR.more (e : List Dat) (g : List Value) : ∀ {x : Ob} {v : Value} {f : Fact}, ObR E ρ σ x v f → ObR E (ρ ++ e) (σ ++ g) x v f
  | .blk cs ty, _, _, ⟨b, vs, h1, h2, h3⟩ => ⟨b, vs, h1, h2.mono fun _ _ h => h.more e g, h3⟩
  | .own r t, _, _, ⟨A, n, c, xs, h1, h2, h3⟩ => ⟨A, n, c, xs, h1, h2.more e, h3⟩
  | .dead, _, _, h => h
  | .fr, _, _, h => h
theorem ObsR.more (e : List Dat) {os : List Ob} {L : List Fact} (h : ObsR E ρ σ os L) : ObsR E (ρ ++ e) σ os L :=
  ⟨h.l1, h.l2, fun j o ho => by obtain ⟨v, f, h1, h2, h3⟩ := h.get j o ho; exact ⟨v, f, h1, h2, by simpa using h3.more e []⟩⟩
theorem ObsR.push {os : List Ob} {L : List Fact} (h : ObsR E ρ σ os L) {o : Ob} {v : Value} {f : Fact} (ho : ObR E ρ (σ ++ [v]) o v f) : ObsR E ρ (σ ++ [v]) (os ++ [o]) (L ++ [f]) :=
  ⟨by simp [h.l1], by simp [h.l2], fun j o' ho' => by
    by_cases hj : j < os.length
    · rw [List.getElem?_append_left hj] at ho'
      obtain ⟨v', f', h1, h2, h3⟩ := h.get j o' ho'
      exact ⟨v', f', lt_get h1, lt_get h2, by simpa using h3.more [] [v]⟩
    · have hje : j = os.length := by
        have := (List.getElem?_eq_some_iff.1 ho').1
        simp at this; omega
      subst hje
      simp at ho'
      subst ho'
      refine ⟨v, f, ?_, ?_, ho⟩
      · rw [h.l1]; simp
      · rw [h.l1, ← h.l2]; simp⟩
theorem ObsR.set {os : List Ob} {L : List Fact} (h : ObsR E ρ σ os L) {j : Nat} {o : Ob} {v : Value} {f : Fact} (hv : σ[j]? = some v) (ho : ObR E ρ σ o v f) : ObsR E ρ σ (os.set j o) (L.set j f) :=
  ⟨by simp [h.l1], by simp [h.l2], fun i o' ho' => by
    rw [List.getElem?_set] at ho'
    have hj := (List.getElem?_eq_some_iff.1 hv).1
    by_cases e : j = i
    · subst e
      rw [if_pos rfl, if_pos (by rw [h.l1]; exact hj)] at ho'
      cases ho'
      exact ⟨v, f, hv, by rw [List.getElem?_set, if_pos rfl, if_pos (by rw [h.l2]; exact hj)], ho⟩
    · rw [if_neg e] at ho'
      obtain ⟨v', f', h1, h2, h3⟩ := h.get i o' ho'
      exact ⟨v', f', h1, by rw [List.getElem?_set, if_neg e]; exact h2, h3⟩⟩
end

structure St where
  slots : List AV
  objs : List Ob
  n : Nat
  known : List (Tm × Bool)

/-- what is known of the data, and of the package's variables -/
def baseF (E : Env) (ρ : List Dat) : Fact := .gen (fun w => OkL w ρ ∧ E.globs w) (fun k => AtL ρ k ∨ E.gat k)
theorem baseFirm (E : Env) (ρ : List Dat) : Firm (fun w => OkL w ρ ∧ E.globs w) (fun k => AtL ρ k ∨ E.gat k) :=
  ⟨fun w1 w2 o ⟨h1, h2⟩ hg hne => ⟨(firmL ρ).keeps w1 w2 o h1 hg (fun k hk => hne k (.inl hk)), fun x hx =>
      (h2.tab x hx).imp fun T hT => Fact.keeps (B := 0) (f := .row x.1 _ T) hT hg (fun k hk => hne k (.inr (.inl ⟨x, hx, hk⟩))), fun g hx => by
      obtain ⟨T, t, p, hT⟩ := h2.err g hx
      exact ⟨T, t, p, Fact.keeps (B := 0) (f := .row g _ T) hT hg (fun k hk => hne k (.inr (.inr (.inl (by cases hk; exact hx)))))⟩,
      E.fr.loc w1 w2 h2.frm fun k hk => hg.block k (E.fr.lt w1 h2.frm k hk) (hne k (.inr (.inr (.inr hk))))⟩,
   fun w1 ⟨h1, h2⟩ k hk => by
    rcases hk with hk | hk
    · exact (firmL ρ).lt w1 h1 k hk
    · exact h2.lt hk⟩

structure Rel (E : Env) (w0 : World) (ρ : List Dat) (σ : List Value) (S : St) (a : Act) (w : World) : Prop where
  slots : All2 (VR E ρ σ) S.slots a.tmps.toList
  defers : a.defers = []
  n : S.n = ρ.length
  known : ∀ x ∈ S.known, Den E.Δ ρ x.1 (.bool x.2)
  mem : ∃ L, ObsR E ρ σ S.objs L ∧ Mem none w0 w (baseF E ρ :: L)
  pre : E.γ <+: ρ
  reach : ∀ k, AtL ρ k → w0.heap.size ≤ k ∨ E.old k

section
variable {E : Env} {w0 w w' : World} {ρ : List Dat} {σ : List Value} {S : St} {a : Act}
theorem Rel.ok (h : Rel E w0 ρ σ S a w) : OkL w ρ := by
  obtain ⟨L, _, hm⟩ := h.mem
  exact (hm.holds _ List.mem_cons_self).1.1
theorem Rel.globs (h : Rel E w0 ρ σ S a w) : E.globs w := by
  obtain ⟨L, _, hm⟩ := h.mem
  exact (hm.holds _ List.mem_cons_self).1.2
theorem Rel.keep (h : Rel E w0 ρ σ S a w) (hb : Below w.heap.size w w') : Rel E w0 ρ σ S a w' := by
  obtain ⟨L, h1, hm⟩ := h.mem
  exact ⟨h.slots, h.defers, h.n, h.known, ⟨L, h1, hm.keep hb⟩, h.pre, h.reach⟩
theorem Rel.put (h : Rel E w0 ρ σ S a w) {x : AV} {v : Value} (hv : VR E ρ σ x v) (d : Nat) : Rel E w0 ρ σ { S with slots := S.slots.set d x } (a.put (some d) v) w := by
  refine ⟨?_, h.defers, h.n, h.known, h.mem, h.pre, h.reach⟩
  simp only [Act.put, Array.toList_setIfInBounds]
  exact h.slots.set hv d
theorem Rel.ok_den (h : Rel E w0 ρ σ S a w) (t : Tm) : OkD w (den E.Δ ρ t) := (den_good (p := fun k => AtL ρ k) (w := w) (fun d hd => ⟨h.ok d hd, fun k hk => ⟨d, hd, hk⟩⟩) t).1
theorem Rel.known_add (h : Rel E w0 ρ σ S a w) {t : Tm} {b : Bool} (ht : t.bnd S.n = true) (hd : den E.Δ ρ t = .bool b) : Rel E w0 ρ σ { S with known := (t, b) :: S.known } a w :=
  ⟨h.slots, h.defers, h.n, fun x hx => by
    rcases List.mem_cons.1 hx with rfl | hx
    · have := Den.of (Δ := E.Δ) (ρ := ρ) (t := t) (by rw [← h.n]; exact ht)
      rw [hd] at this
      exact this
    · exact h.known x hx, h.mem, h.pre, h.reach⟩
end
end Go.Proofs.YtcigbgpdikadpaaDoor
end

section
namespace Go.Proofs.YtcigbgpdikadpaaDoor
open Go.RowKit
set_option linter.unusedVariables false

theorem strB_eq (s : ByteArray) : strB (s.data.toList.map UInt8.toNat) = .string s := by
  unfold strB
  congr 1
  rw [List.map_map]
  have : (UInt8.ofNat ∘ UInt8.toNat) = id := by funext x; simp
  rw [this, List.map_id]
def constC : Value → C
  | .int k n => .p (.tm (.int k n) (.int k))
  | .bool b => .p (.tm (.bool b) .bool)
  | .nilIface => .p (.tm .nili .err)
  | .iface t (.int .i64 n) => if t = 54 then .p (.tm (.ifc (.int .i64 n)) .err) else .unk
  | .string s => .p (.tm (.str (s.data.toList.map UInt8.toNat)) .str)
  | .slice none 0 0 => .p .nils
  | _ => .unk
def constA : Value → AV
  | .agg cs => .v (.agg (cs.toList.map constC))
  | v => .v (.c (constC v))
def opd (l : List AV) : Operand → AV
  | .tmp i => l.getD i (.v (.c .unk))
  | .const v => constA v
  | .global g => .v (.c (.p (.ref (.gl g) 0 [])))
  | .func f => .v (.c (.fn f []))
section
variable {E : Env} {ρ : List Dat} {σ : List Value} {l : List AV} {a : Act}
theorem constC_ok (E : Env) (ρ : List Dat) (σ : List Value) (v : Value) : CR E ρ σ (constC v) v := by
  unfold constC
  split
  · exact ⟨.int _ _, fun _ => rfl, .int _ _, rfl, rfl⟩
  · exact ⟨.bool _, fun _ => rfl, .bool _, rfl, rfl⟩
  · exact ⟨.val _, fun _ => rfl, .nili, rfl, rfl⟩
  · split
    · rename_i h; subst h; exact ⟨.val _, fun _ => rfl, .ifc _, rfl, rfl⟩
    · trivial
  · exact ⟨.val _, fun _ => rfl, .str _, (strB_eq _).symm, rfl⟩
  · rfl
  · trivial
theorem constA_ok (E : Env) (ρ : List Dat) (σ : List Value) (v : Value) : VR E ρ σ (constA v) v := by
  unfold constA
  split
  · rename_i cs
    refine ⟨cs.toList, All2.of (by simp) fun i x y hx hy => ?_, rfl⟩
    rw [List.getElem?_map, hy] at hx
    cases hx
    exact constC_ok E ρ σ y
  · exact constC_ok E ρ σ v
theorem opd_ok (h : All2 (VR E ρ σ) l a.tmps.toList) : ∀ x, VR E ρ σ (opd l x) (a.eval x)
  | .tmp i => by
    simp only [opd, Act.eval, List.getD_eq_getElem?_getD, Array.getD_eq_getD_getElem?]
    cases hq : l[i]? with
    | none => trivial
    | some x =>
      obtain ⟨v, h1, h2⟩ := h.get hq
      rw [Array.getElem?_toList] at h1
      rw [h1]
      exact h2
  | .const v => constA_ok E ρ σ v
  | .global g => ⟨some ⟨g, 0, none⟩, 0, 0, ⟨rfl, rfl⟩, rfl, rfl⟩
  | .func f => ⟨[], .nil, rfl⟩
end

def opdTm : AV → Option (Tm × Srt)
  | .v (.c (.p (.tm t s))) => some (t, s)
  | _ => none
def opdI : AV → Option (Tm × IntKind)
  | .v (.c (.p (.tm t (.int k)))) => some (t, k)
  | _ => none
def opdB : AV → Option Tm
  | .v (.c (.p (.tm t .bool))) => some t
  | _ => none
def opdR : AV → Option (Bs × Nat × List (Tm × Nat × Nat))
  | .v (.c (.p (.ref b off dyn))) => some (b, off, dyn)
  | _ => none
section
variable {E : Env} {ρ : List Dat} {σ : List Value} {x : AV} {v : Value}
theorem opdTm_ok {t : Tm} {s : Srt} (h : VR E ρ σ x v) (e : opdTm x = some (t, s)) : ∃ d, Den E.Δ ρ t d ∧ Has E.Δ s d ∧ v = d.toV ∧ s.one = true := by
  unfold opdTm at e
  split at e
  · cases e; exact h
  · cases e
theorem opdI_ok {t : Tm} {k : IntKind} (h : VR E ρ σ x v) (e : opdI x = some (t, k)) : ∃ n, Den E.Δ ρ t (.int k n) ∧ v = .int k n := by
  unfold opdI at e
  split at e
  · cases e
    obtain ⟨d, h1, h2, h3, _⟩ := h
    cases h2 with
    | int k n => exact ⟨n, h1, h3⟩
  · cases e
theorem opdB_ok {t : Tm} (h : VR E ρ σ x v) (e : opdB x = some t) : ∃ b, Den E.Δ ρ t (.bool b) ∧ v = .bool b := by
  unfold opdB at e
  split at e
  · cases e
    obtain ⟨d, h1, h2, h3, _⟩ := h
    cases h2 with
    | bool b => exact ⟨b, h1, h3⟩
  · cases e
theorem opdR_ok {b : Bs} {off : Nat} {dyn : List (Tm × Nat × Nat)} (h : VR E ρ σ x v) (e : opdR x = some (b, off, dyn)) : ∃ A p q, BsR E ρ σ b A p ∧ DynR E ρ dyn q ∧ v = pt A (p + off + q) := by
  unfold opdR at e
  split at e
  · cases e; exact h
  · cases e
theorem VR.ofTm {t : Tm} {s : Srt} {d : Dat} (h1 : Den E.Δ ρ t d) (h2 : Has E.Δ s d) (h3 : s.one = true) : VR E ρ σ (.v (.c (.p (.tm t s)))) d.toV := ⟨d, h1, h2, rfl, h3⟩
end
def tmV (t : Tm) (s : Srt) : AV := .v (.c (.p (.tm t s)))

/-- bounds that a known test gives of a term -/
def bnd1 (u : Tm) : Tm × Bool → Option Int × Option Int
  | (.cmp c v (.int _ n), b) => if v = u then (match c, b with
      | .eq, true => (some n, some n)
      | .ne, false => (some n, some n)
      | .lt, true => (none, some (n - 1))
      | .lt, false => (some n, none)
      | .le, true => (none, some n)
      | .le, false => (some (n + 1), none)
      | .gt, true => (some (n + 1), none)
      | .gt, false => (none, some n)
      | .ge, true => (some n, none)
      | .ge, false => (none, some (n - 1))
      | _, _ => (none, none)) else (none, none)
  | _ => (none, none)
def maxO : Option Int → Option Int → Option Int
  | none, b => b
  | a, none => a
  | some a, some b => some (if a ≤ b then b else a)
def minO : Option Int → Option Int → Option Int
  | none, b => b
  | a, none => a
  | some a, some b => some (if a ≤ b then a else b)
def bnds (u : Tm) : List (Tm × Bool) → Option Int × Option Int
  | [] => (none, none)
  | x :: K => match bnd1 u x with
    | (none, none) => bnds u K
    | p => let q := bnds u K; (maxO p.1 q.1, minO p.2 q.2)
def ltO (h : Option Int) (b : Int) : Bool := match h with
  | some x => decide (x < b)
  | none => false
def leO (h : Option Int) (b : Int) : Bool := match h with
  | some x => decide (x ≤ b)
  | none => false
def gtO (l : Option Int) (b : Int) : Bool := match l with
  | some x => decide (b < x)
  | none => false
def geO (l : Option Int) (b : Int) : Bool := match l with
  | some x => decide (b ≤ x)
  | none => false
def decC (c : Cmp) (l h : Option Int) (b : Int) : Option Bool := match c with
  | .lt => if ltO h b then some true else if geO l b then some false else none
  | .ge => if ltO h b then some false else if geO l b then some true else none
  | .le => if leO h b then some true else if gtO l b then some false else none
  | .gt => if leO h b then some false else if gtO l b then some true else none
  | .eq => if ltO h b || gtO l b then some false else if geO l b && leO h b then some true else none
  | .ne => if ltO h b || gtO l b then some true else if geO l b && leO h b then some false else none
/-- the test turned -/
def flipC : Tm → Option Tm
  | .cmp .eq a b => some (.cmp .ne a b)
  | .cmp .ne a b => some (.cmp .eq a b)
  | .cmp .lt a b => some (.cmp .ge a b)
  | .cmp .ge a b => some (.cmp .lt a b)
  | .cmp .le a b => some (.cmp .gt a b)
  | .cmp .gt a b => some (.cmp .le a b)
  | _ => none
def look (K : List (Tm × Bool)) (t : Tm) : Option Bool := (K.find? fun x => x.1 == t).map (·.2)
def look2 (K : List (Tm × Bool)) (t : Tm) : Option Bool := match look K t with
  | some b => some b
  | none => match flipC t with
    | some t' => (look K t').map (!·)
    | none => none
/-- what is known of a test -/
def knows (K : List (Tm × Bool)) : Tm → Option Bool
  | .bool b => some b
  | .cmp c u (.int k n) => match look2 K (.cmp c u (.int k n)) with
    | some b => some b
    | none => let q := bnds u K; decC c q.1 q.2 n
  | .not t => match look2 K (.not t) with
    | some b => some b
    | none => (knows K t).map (!·)
  | .and a b => match look2 K (.and a b) with
    | some v => some v
    | none => match knows K a, knows K b with
      | some false, _ => some false
      | _, some false => some false
      | some true, some true => some true
      | _, _ => none
  | .or a b => match look2 K (.or a b) with
    | some v => some v
    | none => match knows K a, knows K b with
      | some true, _ => some true
      | _, some true => some true
      | some false, some false => some false
      | _, _ => none
  | t => look2 K t
theorem look_ok {Δ : Tab} {ρ : List Dat} {K : List (Tm × Bool)} (hK : ∀ x ∈ K, Den Δ ρ x.1 (.bool x.2)) {t : Tm} {b : Bool} (h : look K t = some b) : den Δ ρ t = .bool b := by
  unfold look at h
  rw [Option.map_eq_some_iff] at h
  obtain ⟨x, hx, rfl⟩ := h
  have h1 := List.find?_some hx
  have h2 := hK x (List.mem_of_find?_eq_some hx)
  simp only [beq_iff_eq] at h1
  rw [← h1]; exact h2.now
theorem flipC_ok {Δ : Tab} {ρ : List Dat} {t t' : Tm} (h : flipC t = some t') {b : Bool} (hd : den Δ ρ t' = .bool b) : den Δ ρ t = .bool (!b) := by
  have key : ∀ (x y : Prop) [Decidable x] [Decidable y], (x ↔ ¬ y) → decide x = !decide y := fun x y _ _ h => by
    by_cases hy : y <;> simp [h, hy]
  unfold flipC at h
  split at h <;> cases h <;> simp only [den, Cmp.of, Dat.bool.injEq] at hd ⊢ <;> rw [← hd]
  · simp [bne]
  · simp [bne]
  · exact key _ _ (by omega)
  · exact key _ _ (by omega)
  · exact key _ _ (by omega)
  · exact key _ _ (by omega)
theorem look2_ok {Δ : Tab} {ρ : List Dat} {K : List (Tm × Bool)} (hK : ∀ x ∈ K, Den Δ ρ x.1 (.bool x.2)) {t : Tm} {b : Bool} (h : look2 K t = some b) : den Δ ρ t = .bool b := by
  unfold look2 at h
  split at h
  · rename_i b' hb
    cases h
    exact look_ok hK hb
  · split at h
    · rename_i t' ht
      rw [Option.map_eq_some_iff] at h
      obtain ⟨c, hc, rfl⟩ := h
      exact flipC_ok ht (look_ok hK hc)
    · cases h
def inO (l h : Option Int) (n : Int) : Prop := (∀ x, l = some x → x ≤ n) ∧ ∀ x, h = some x → n ≤ x
theorem bnd1_ok {Δ : Tab} {ρ : List Dat} {u : Tm} {x : Tm × Bool} (hx : den Δ ρ x.1 = .bool x.2) : inO (bnd1 u x).1 (bnd1 u x).2 (den Δ ρ u).toInt := by
  unfold bnd1
  split
  · rename_i c v k n b
    split
    · rename_i hv
      subst hv
      have hx' : c.of (den Δ ρ v).toInt n = b := by simpa only [den, Dat.toInt, Dat.bool.injEq] using hx
      clear hx
      generalize (den Δ ρ v).toInt = m at *
      cases c <;> cases b <;> simp only [Cmp.of, beq_iff_eq, bne_iff_ne, beq_eq_false_iff_ne, bne_eq_false_iff_eq, ne_eq, decide_eq_true_eq, decide_eq_false_iff_not] at hx' <;> refine ⟨fun x e => ?_, fun x e => ?_⟩ <;> cases e <;> omega
    · exact ⟨fun x e => (by cases e), fun x e => (by cases e)⟩
  · exact ⟨fun x e => (by cases e), fun x e => (by cases e)⟩
theorem maxO_ok {a b : Option Int} {n : Int} (ha : ∀ x, a = some x → x ≤ n) (hb : ∀ x, b = some x → x ≤ n) : ∀ x, maxO a b = some x → x ≤ n := fun x e => by
  unfold maxO at e
  split at e
  · exact hb x e
  · exact ha x e
  · rename_i p q
    cases e
    have h1 := ha p rfl
    have h2 := hb q rfl
    split <;> omega
theorem minO_ok {a b : Option Int} {n : Int} (ha : ∀ x, a = some x → n ≤ x) (hb : ∀ x, b = some x → n ≤ x) : ∀ x, minO a b = some x → n ≤ x := fun x e => by
  unfold minO at e
  split at e
  · exact hb x e
  · exact ha x e
  · rename_i p q
    cases e
    have h1 := ha p rfl
    have h2 := hb q rfl
    split <;> omega
theorem bnds_ok {Δ : Tab} {ρ : List Dat} {u : Tm} : ∀ {K : List (Tm × Bool)}, (∀ x ∈ K, Den Δ ρ x.1 (.bool x.2)) → inO (bnds u K).1 (bnds u K).2 (den Δ ρ u).toInt
  | [], _ => ⟨fun x e => (by cases e), fun x e => (by cases e)⟩
  | x :: K, hK => by
    have h1 := bnd1_ok (u := u) (hK x (by simp)).now
    have h2 := bnds_ok (u := u) (K := K) (fun y hy => hK y (by simp [hy]))
    unfold bnds
    split
    · exact h2
    · exact ⟨maxO_ok h1.1 h2.1, minO_ok h1.2 h2.2⟩
theorem decC_ok {c : Cmp} {l h : Option Int} {n b : Int} (hn : inO l h n) {r : Bool} (e : decC c l h b = some r) : c.of n b = r := by
  obtain ⟨h1, h2⟩ := hn
  have a1 : ltO h b = true → n < b := fun e => by
    unfold ltO at e; split at e
    · have := h2 _ rfl; simp only [decide_eq_true_eq] at e; omega
    · cases e
  have a2 : leO h b = true → n ≤ b := fun e => by
    unfold leO at e; split at e
    · have := h2 _ rfl; simp only [decide_eq_true_eq] at e; omega
    · cases e
  have a3 : gtO l b = true → b < n := fun e => by
    unfold gtO at e; split at e
    · have := h1 _ rfl; simp only [decide_eq_true_eq] at e; omega
    · cases e
  have a4 : geO l b = true → b ≤ n := fun e => by
    unfold geO at e; split at e
    · have := h1 _ rfl; simp only [decide_eq_true_eq] at e; omega
    · cases e
  unfold decC at e
  cases c <;> simp only at e <;> (repeat' split at e) <;> first | (cases e; done) | cases e
  all_goals try simp only [Bool.or_eq_true, Bool.and_eq_true] at *
  all_goals simp only [Cmp.of, beq_iff_eq, bne_iff_ne, beq_eq_false_iff_ne, bne_eq_false_iff_eq, ne_eq, decide_eq_true_eq, decide_eq_false_iff_not]
  all_goals first
    | (have := a1 (by assumption); omega)
    | (have := a2 (by assumption); omega)
    | (have := a3 (by assumption); omega)
    | (have := a4 (by assumption); omega)
    | (rename_i hh; have := a4 hh.1; have := a2 hh.2; omega)
    | (rename_i hh; rcases hh with hh | hh; (have := a1 hh; omega); (have := a3 hh; omega))
theorem knows_ok {Δ : Tab} {ρ : List Dat} {K : List (Tm × Bool)} (hK : ∀ x ∈ K, Den Δ ρ x.1 (.bool x.2)) : ∀ {t : Tm} {b : Bool}, knows K t = some b → den Δ ρ t = .bool b := by
  intro t
  induction t with
  | bool b => intro b' h; simp only [knows] at h; cases h; rfl
  | cmp c u v _ _ =>
    intro b h
    cases v with
    | int k n =>
      simp only [knows] at h
      split at h
      · rename_i b' hb
        cases h
        exact look2_ok hK hb
      · have := decC_ok (bnds_ok hK) h
        show Dat.bool (c.of (den Δ ρ u).toInt n) = _
        rw [this]
    | _ => exact look2_ok hK (by simpa only [knows] using h)
  | not t ih =>
    intro b h
    simp only [knows] at h
    split at h
    · rename_i b' hb
      cases h
      exact look2_ok hK hb
    · rw [Option.map_eq_some_iff] at h
      obtain ⟨c, hc, rfl⟩ := h
      simp only [den, ih hc, Dat.toBool]
  | and x y ihx ihy =>
    intro b h
    simp only [knows] at h
    split at h
    · rename_i b' hb
      cases h
      exact look2_ok hK hb
    · split at h
      · rename_i hx; cases h; simp only [den, ihx hx, Dat.toBool, Bool.false_and]
      · rename_i hy _; cases h; simp only [den, ihy hy, Dat.toBool, Bool.and_false]
      · rename_i hx hy; cases h; simp only [den, ihx hx, ihy hy, Dat.toBool, Bool.and_true]
      · cases h
  | or x y ihx ihy =>
    intro b h
    simp only [knows] at h
    split at h
    · rename_i b' hb
      cases h
      exact look2_ok hK hb
    · split at h
      · rename_i hx; cases h; simp only [den, ihx hx, Dat.toBool, Bool.true_or]
      · rename_i hy _; cases h; simp only [den, ihy hy, Dat.toBool, Bool.or_true]
      · rename_i hx hy; cases h; simp only [den, ihx hx, ihy hy, Dat.toBool, Bool.or_false]
      · cases h
  | _ => intro b h; exact look2_ok hK (by simpa only [knows] using h)

/-- one term of the sort for each of several cells -/
def tmsOf (s : Srt) : List C → Option (List Tm)
  | [] => some []
  | .p (.tm t s') :: l => if s' = s then (tmsOf s l).map (t :: ·) else none
  | _ :: _ => none
theorem tmsOf_get {s : Srt} : ∀ {l : List C} {ts : List Tm}, tmsOf s l = some ts → ∀ {i : Nat} {c : C}, l[i]? = some c → ∃ t, ts[i]? = some t ∧ c = .p (.tm t s)
  | [], _, _, i, c, h => by cases h
  | .p (.tm t s') :: l, ts, e, i, c, h => by
    simp only [tmsOf] at e
    split at e
    · rename_i hs
      subst hs
      rw [Option.map_eq_some_iff] at e
      obtain ⟨ts', e1, rfl⟩ := e
      cases i with
      | zero => cases h; exact ⟨t, rfl, rfl⟩
      | succ i => exact tmsOf_get e1 (i := i) (by simpa using h)
    · cases e
  | .unk :: _, _, e, _, _, _ => by cases e
  | .undef :: _, _, e, _, _, _ => by cases e
  | .fn _ _ :: _, _, e, _, _, _ => by cases e
  | .p (.ref _ _ _) :: _, _, e, _, _, _ => by cases e
  | .p (.own _) :: _, _, e, _, _, _ => by cases e
  | .p .nils :: _, _, e, _, _, _ => by cases e
  | .p (.sb _ _ _ _) :: _, _, e, _, _, _ => by cases e
def allSome {α : Type} : List (Option α) → Option (List α)
  | [] => some []
  | some x :: l => (allSome l).map (x :: ·)
  | none :: _ => none
theorem allSome_get {α : Type} : ∀ {l : List (Option α)} {m : List α}, allSome l = some m → ∀ {i : Nat} {x : Option α}, l[i]? = some x → ∃ y, x = some y ∧ m[i]? = some y
  | [], _, _, i, x, h => by cases h
  | some y :: l, m, e, i, x, h => by
    simp only [allSome, Option.map_eq_some_iff] at e
    obtain ⟨m', e1, rfl⟩ := e
    cases i with
    | zero => cases h; exact ⟨y, rfl, rfl⟩
    | succ i => exact allSome_get e1 (i := i) (by simpa using h)
  | none :: _, _, e, _, _, _ => by cases e
theorem allSome_len {α : Type} : ∀ {l : List (Option α)} {m : List α}, allSome l = some m → m.length = l.length
  | [], m, e => by cases e; rfl
  | some y :: l, m, e => by
    simp only [allSome, Option.map_eq_some_iff] at e
    obtain ⟨m', e1, rfl⟩ := e
    simp [allSome_len e1]
  | none :: _, _, e => by cases e
def selC (cs : List C) (i : Tm) : Option C := match cs with
  | .p (.tm _ s) :: _ => (tmsOf s cs).map fun ts => .p (.tm (.sel (econsL ts) i s) s)
  | _ => none
/-- the cell at a place -/
def loadC (cs : List C) : Nat → List (Tm × Nat × Nat) → Option C
  | off, [] => cs[off]?
  | off, (i, st, m) :: l => (allSome ((List.range m).map fun k => loadC cs (off + k * st) l)).bind fun cands => selC cands i
section
variable {E : Env} {ρ : List Dat} {σ : List Value}
theorem selC_ok {cands : List C} {i : Tm} {c : C} {k : Int} (h : selC cands i = some c) (hi : Den E.Δ ρ i (.int .i64 k)) {c' : C} (hc : cands[k.toNat]? = some c') {v : Value} (hv : CR E ρ σ c' v) : CR E ρ σ c v := by
  unfold selC at h
  split at h
  · rename_i t0 s l
    rw [Option.map_eq_some_iff] at h
    obtain ⟨ts, h1, rfl⟩ := h
    obtain ⟨t, h2, rfl⟩ := tmsOf_get h1 hc
    obtain ⟨d, hd, hh, hv', ho⟩ := hv
    refine ⟨d, fun e => ?_, hh, hv', ho⟩
    simp only [den, den_econsL, hi e, Dat.toInt, List.getD_eq_getElem?_getD, List.getElem?_map, h2, Option.map_some, Option.getD_some, hd e]
  · cases h
theorem loadC_ok {cs : List C} {vs : List Value} (h : All2 (CR E ρ σ) cs vs) : ∀ {dyn : List (Tm × Nat × Nat)} {off q : Nat} {c : C}, loadC cs off dyn = some c → DynR E ρ dyn q → ∃ v, vs[off + q]? = some v ∧ CR E ρ σ c v
  | [], off, q, c, hl, hq => by
    cases hq
    obtain ⟨v, h1, h2⟩ := h.get hl
    exact ⟨v, h1, h2⟩
  | (i, st, m) :: l, off, q, c, hl, hq => by
    obtain ⟨k, q', h1, h2, h3, h4, rfl⟩ := hq
    simp only [loadC, Option.bind_eq_some_iff] at hl
    obtain ⟨cands, e1, e2⟩ := hl
    have hk : k.toNat < m := by omega
    have e3 : ((List.range m).map fun k => loadC cs (off + k * st) l)[k.toNat]? = some (loadC cs (off + k.toNat * st) l) := by
      simp [List.getElem?_map, List.getElem?_range hk]
    obtain ⟨c', e4, e5⟩ := allSome_get e1 e3
    obtain ⟨v, e6, e7⟩ := loadC_ok h e4 h4
    exact ⟨v, by rw [← Nat.add_assoc]; exact e6, selC_ok e2 h1 e5 e7⟩
/-- n cells side by side -/
def loadN (cs : List C) (off n : Nat) (dyn : List (Tm × Nat × Nat)) : Option (List C) := allSome ((List.range n).map fun k => loadC cs (off + k) dyn)
theorem loadN_ok {cs : List C} {vs : List Value} (h : All2 (CR E ρ σ) cs vs) {dyn : List (Tm × Nat × Nat)} {off q n : Nat} {l : List C} (hl : loadN cs off n dyn = some l) (hq : DynR E ρ dyn q) :
    ∃ us, All2 (CR E ρ σ) l us ∧ us.length = n ∧ ∀ j v, us[j]? = some v → vs[off + q + j]? = some v := by
  have hlen := allSome_len hl
  simp only [List.length_map, List.length_range] at hlen
  have key : ∀ k, k < n → ∃ c v, l[k]? = some c ∧ vs[off + q + k]? = some v ∧ CR E ρ σ c v := fun k hk => by
    have e3 : ((List.range n).map fun k => loadC cs (off + k) dyn)[k]? = some (loadC cs (off + k) dyn) := by
      simp [List.getElem?_map, List.getElem?_range hk]
    obtain ⟨c, e4, e5⟩ := allSome_get hl e3
    obtain ⟨v, e6, e7⟩ := loadC_ok h e4 hq
    exact ⟨c, v, e5, by rw [show off + q + k = off + k + q by omega]; exact e6, e7⟩
  refine ⟨(List.range n).map fun k => (vs[off + q + k]?).getD undef, All2.of (by simp [hlen]) fun i c v hc hv => ?_, by simp, fun j v hv => ?_⟩
  · have hi : i < n := by have := (List.getElem?_eq_some_iff.1 hc).1; omega
    obtain ⟨c', v', h1, h2, h3⟩ := key i hi
    rw [h1] at hc; cases hc
    rw [List.getElem?_map, List.getElem?_range hi] at hv
    simp only [Option.map_some, h2, Option.getD_some, Option.some.injEq] at hv
    subst hv; exact h3
  · have hj : j < n := by have := (List.getElem?_eq_some_iff.1 hv).1; simpa using this
    obtain ⟨c', v', h1, h2, h3⟩ := key j hj
    rw [List.getElem?_map, List.getElem?_range hj] at hv
    simp only [Option.map_some, h2, Option.getD_some, Option.some.injEq] at hv
    subst hv; exact h2
end

/-- the cells from a place's base on -/
def glC : List (Nat × List (Tm × Srt) × Nat) → Nat → Option (List C)
  | [], _ => none
  | x :: l, g => if x.1 = g then some (x.2.1.map fun t => .p (.tm t.1 t.2)) else glC l g
/-- a list that is written out: its rows -/
def litRows : Tm → Option (List Tm)
  | .emp => some []
  | .push a row => (litRows a).map (· ++ [row])
  | _ => none
def litRow : Tm → Option (List Tm)
  | .enil => some []
  | .econs a b => (litRow b).map (a :: ·)
  | _ => none
def litCell (s : Tm) (n c : Nat) : Option Tm := (litRows s).bind fun l => (l[n]?).bind fun r => (litRow r).bind fun cs => cs[c]?
def mkElem (s i : Tm) (c : Nat) (t : Srt) : Tm := match i with
  | .int _ n => match litCell s n.toNat c with
    | some x => x
    | none => .elem s i c t
  | _ => .elem s i c t
def elC (s i : Tm) : Nat → List Srt → List C
  | _, [] => []
  | c, t :: l => .p (.tm (mkElem s i c t) t) :: elC s i (c + 1) l
def cellsOf (Δ : Tab) (gt : List (Nat × List (Tm × Srt) × Nat)) (os : List Ob) : Bs → Option (List C)
  | .ob j => match os[j]? with
    | some (.blk cs _) => some cs
    | _ => none
  | .gl g => glC gt g
  | .el s r i => if (Δ.row r).all (·.one) then some (elC s i 0 (Δ.row r)) else none
  | .oe j r i => match os[j]? with
    | some (.own r' t) => if r = r' ∧ (Δ.row r).all (·.one) = true then some (elC t i 0 (Δ.row r)) else none
    | _ => none
section
variable {E : Env} {w0 : World} {ρ : List Dat} {σ : List Value} {os : List Ob} {L : List Fact}
theorem litRows_ok {Δ : Tab} {ρ : List Dat} : ∀ {s : Tm} {l : List Tm}, litRows s = some l → den Δ ρ s = .rows (l.map fun r => (den Δ ρ r).row0)
  | .emp, l, h => by cases h; rfl
  | .push a row, l, h => by
    simp only [litRows, Option.map_eq_some_iff] at h
    obtain ⟨l', h1, rfl⟩ := h
    simp only [den, litRows_ok h1, Dat.xs, List.map_append, List.map_cons, List.map_nil]
theorem litRow_ok {Δ : Tab} {ρ : List Dat} : ∀ {s : Tm} {l : List Tm}, litRow s = some l → (den Δ ρ s).row0 = l.map (den Δ ρ)
  | .enil, l, h => by cases h; rfl
  | .econs a b, l, h => by
    simp only [litRow, Option.map_eq_some_iff] at h
    obtain ⟨l', h1, rfl⟩ := h
    show den Δ ρ a :: (den Δ ρ b).row0 = _
    rw [litRow_ok h1]; rfl
theorem mkElem_den (Δ : Tab) (ρ : List Dat) (s i : Tm) (c : Nat) (t : Srt) : den Δ ρ (mkElem s i c t) = den Δ ρ (.elem s i c t) := by
  unfold mkElem
  split
  · rename_i k n
    split
    · rename_i x hx
      simp only [litCell, Option.bind_eq_some_iff] at hx
      obtain ⟨l, h1, r, h2, cs, h3, h4⟩ := hx
      simp only [den, litRows_ok h1, Dat.xs, Dat.toInt, List.getD_eq_getElem?_getD, List.getElem?_map, h2, Option.map_some, Option.getD_some, litRow_ok h3, h4]
    · rfl
  · rfl
theorem elC_get (s i : Tm) : ∀ (l : List Srt) (c k : Nat) {x : C}, (elC s i c l)[k]? = some x → ∃ t, l[k]? = some t ∧ x = .p (.tm (mkElem s i (c + k) t) t)
  | [], _, _, _, h => by cases h
  | t :: l, c, 0, x, h => by cases h; exact ⟨t, rfl, rfl⟩
  | t :: l, c, k + 1, x, h => by
    obtain ⟨t', h1, h2⟩ := elC_get s i l (c + 1) k (x := x) (by simpa [elC] using h)
    exact ⟨t', h1, by rw [h2, show c + 1 + k = c + (k + 1) by omega]⟩
theorem elC_len (s i : Tm) : ∀ (l : List Srt) (c : Nat), (elC s i c l).length = l.length
  | [], _ => rfl
  | t :: l, c => by simp [elC, elC_len s i l]
theorem flat_get {xs : List (List Dat)} {sz : Nat} (h : ∀ row ∈ xs, row.length = sz) : ∀ {k j : Nat} {row : List Dat} {d : Dat}, xs[k]? = some row → row[j]? = some d → (flatV xs)[k * sz + j]? = some d.toV := by
  induction xs with
  | nil => intro k j row d e; cases e
  | cons r xs ih =>
    intro k j row d hk hj
    have hr := h r (by simp)
    cases k with
    | zero =>
      cases hk
      have hlt := (List.getElem?_eq_some_iff.1 hj).1
      simp only [flatV, List.flatten_cons, List.map_append, Nat.zero_mul, Nat.zero_add]
      rw [List.getElem?_append_left (by simpa using hlt)]
      simp [hj]
    | succ k =>
      have := ih (fun row hrow => h row (by simp [hrow])) (k := k) (j := j) (by simpa using hk) hj
      simp only [flatV, List.flatten_cons, List.map_append]
      rw [List.getElem?_append_right (by simp [hr, Nat.add_mul]; omega)]
      simp only [List.length_map, hr]
      rw [show (k + 1) * sz + j - sz = k * sz + j by rw [Nat.add_mul]; omega]
      exact this
theorem row_get {xs : List (List Dat)} {k : Nat} (h : k < xs.length) : ∃ row, xs[k]? = some row ∧ row ∈ xs := ⟨xs[k], List.getElem?_eq_getElem h, List.getElem_mem h⟩
theorem base_cells (hW : E.Wf) (hO : ObsR E ρ σ os L) {b : Bs} {A : Option Addr} {p : Nat} (hb : BsR E ρ σ b A p) {cs : List C} (hc : cellsOf E.Δ E.gt os b = some cs) (hpre : E.γ <+: ρ) :
    ∃ vs, All2 (CR E ρ σ) cs vs ∧ ∀ w, Mem none w0 w (baseF E ρ :: L) → ∀ m v, vs[m]? = some v → w.cell? ((A.getD ⟨0, 0, none⟩).add (p + m)) = some v := by
  cases b with
  | ob j =>
    obtain ⟨b, hs, rfl, rfl⟩ := hb
    simp only [cellsOf] at hc
    split at hc
    · rename_i cs' ty hj
      cases hc
      obtain ⟨v, f, h1, h2, b', vs, rfl, h4, rfl⟩ := hO.get j _ hj
      rw [hs] at h1
      cases h1
      refine ⟨vs, h4, fun w hM m v hv => ?_⟩
      have hR := hM.row (b := b) (cs := vs.toArray) (T := ty) (List.mem_cons_of_mem _ (List.mem_of_getElem? h2))
      simp only [Option.getD_some, Nat.zero_add, Addr.add_lit]
      exact hR.cell (by simpa using hv)
    · cases hc
  | gl g =>
    obtain ⟨rfl, rfl⟩ := hb
    have key : ∀ gt : List (Nat × List (Tm × Srt) × Nat), (∀ x ∈ gt, x ∈ E.gt) → glC gt g = some cs → ∃ x ∈ E.gt, x.1 = g ∧ cs = x.2.1.map fun t => .p (.tm t.1 t.2) := by
      intro gt
      induction gt with
      | nil => intro _ e; cases e
      | cons x gt ih =>
        intro hs e
        simp only [glC] at e
        split at e
        · cases e; exact ⟨x, hs x (by simp), by assumption, rfl⟩
        · exact ih (fun y hy => hs y (by simp [hy])) e
    obtain ⟨x, hx, rfl, rfl⟩ := key _ (fun _ h => h) hc
    refine ⟨x.2.1.map fun t => (den E.Δ E.γ t.1).toV, All2.of (by simp) fun i c v hc hv => ?_, fun w hM m v hv => ?_⟩
    · rw [List.getElem?_map] at hc hv
      cases hq : x.2.1[i]? with
      | none => rw [hq] at hc; cases hc
      | some t =>
        rw [hq] at hc hv
        simp only [Option.map_some, Option.some.injEq] at hc hv
        subst hc hv
        obtain ⟨h1, h2, h3⟩ := hW.srt x hx t (List.mem_of_getElem? hq)
        obtain ⟨z, rfl⟩ := hpre
        exact ⟨_, fun e => by rw [List.append_assoc, den_below _ h2], h1, rfl, h3⟩
    · obtain ⟨T, hG⟩ := (hM.holds _ List.mem_cons_self).1.2.tab x hx
      simp only [Option.getD_some, Nat.zero_add, Addr.add_lit]
      exact Row.cell hG (by simpa using hv)
  | el s r i =>
    obtain ⟨n, c, xs, k, h1, h2, h3, h4, h5, rfl⟩ := hb
    simp only [cellsOf] at hc
    split at hc
    case isFalse => cases hc
    rename_i hone
    cases hc
    obtain ⟨row, hrow, hmem⟩ := row_get (xs := xs) (k := k.toNat) (by omega)
    have hcase := h2
    cases hcase with
    | list _ _ _ _ _ hl hh =>
    have hlen := hl row hmem
    refine ⟨row.map Dat.toV, All2.of (by simp [elC_len, hlen]) fun j x v hx hv => ?_, fun w hM m v hv => ?_⟩
    · obtain ⟨t, e1, rfl⟩ := elC_get s i _ 0 j hx
      rw [List.getElem?_map, Option.map_eq_some_iff] at hv
      obtain ⟨d, e2, rfl⟩ := hv
      refine ⟨d, fun e => ?_, hh row hmem j t d e1 e2, rfl, List.all_eq_true.1 hone t (List.mem_of_getElem? e1)⟩
      rw [mkElem_den]; simp only [den, h1 e, h3 e, Dat.xs, Dat.toInt, List.getD_eq_getElem?_getD, hrow, Option.getD_some, Nat.zero_add, e2]
    · rw [List.getElem?_map, Option.map_eq_some_iff] at hv
      obtain ⟨d, e2, rfl⟩ := hv
      have hok : OkD w (den E.Δ ρ s) := (den_good (p := fun k => AtL ρ k) (w := w) (fun d hd => ⟨(hM.holds _ List.mem_cons_self).1.1 d hd, fun k hk => ⟨d, hd, hk⟩⟩) s).1
      rw [h1.now] at hok
      cases hok with
      | list _ _ _ hr _ _ =>
      obtain ⟨ad, rfl, hcell⟩ := rd_cell (by
        obtain ⟨A', c', e, r1⟩ := hr
        cases e
        exact ⟨_, _, rfl, r1⟩) (flat_get hl hrow e2)
      exact hcell
  | oe j r i =>
    obtain ⟨n, c, k, h1, h3, h4, h5, rfl⟩ := hb
    simp only [cellsOf] at hc
    split at hc
    · rename_i r' t hj
      split at hc
      case isFalse => cases hc
      rename_i hone
      obtain ⟨rfl, hone⟩ := hone
      cases hc
      obtain ⟨v, f, g1, g2, A', n', c', xs, rfl, g3, g4, g5, rfl⟩ := hO.get j _ hj
      rw [h1] at g1
      cases g1
      subst g5
      obtain ⟨row, hrow, hmem⟩ := row_get (xs := xs) (k := k.toNat) (by omega)
      have hcase := g4
      cases hcase with
      | rows _ _ hl hh =>
      have hlen := hl row hmem
      refine ⟨row.map Dat.toV, All2.of (by simp [elC_len, hlen]) fun j x v hx hv => ?_, fun w hM m v hv => ?_⟩
      · obtain ⟨t', e1, rfl⟩ := elC_get t i _ 0 j hx
        rw [List.getElem?_map, Option.map_eq_some_iff] at hv
        obtain ⟨d, e2, rfl⟩ := hv
        refine ⟨d, fun e => ?_, hh row hmem j t' d e1 e2, rfl, List.all_eq_true.1 hone t' (List.mem_of_getElem? e1)⟩
        rw [mkElem_den]; simp only [den, g3 e, h3 e, Dat.xs, Dat.toInt, List.getD_eq_getElem?_getD, hrow, Option.getD_some, Nat.zero_add, e2]
      · rw [List.getElem?_map, Option.map_eq_some_iff] at hv
        obtain ⟨d, e2, rfl⟩ := hv
        have hr := (hM.ow (List.mem_cons_of_mem _ (List.mem_of_getElem? g2))).rd
        obtain ⟨ad, rfl, hcell⟩ := rd_cell hr (flat_get hl hrow e2)
        exact hcell
    · cases hc
end
end Go.Proofs.YtcigbgpdikadpaaDoor
end

section
namespace Go.Proofs.YtcigbgpdikadpaaDoor
open Go.RowKit
set_option linter.unusedVariables false

/-- all its cells are numbers: n of them -/
def intsT (P : Program) : Nat → TypeId → Nat → Bool
  | 0, _, _ => false
  | d + 1, t, n => match P.underlying t with
    | some (.int .i64) => n == 1 && P.cellsOf t == 1
    | some (.array m e) => P.cellsOf e * m == n && P.cellsOf t == n && intsT P d e (P.cellsOf e)
    | some (.struct fs) => !P.stoodInHeld t && P.cellsOf t == n && (fs.toList.foldl (fun acc f => match acc with
        | some off => if f.offset == off && f.name != "_" && intsT P d f.type (P.cellsOf f.type) then some (off + P.cellsOf f.type) else none
        | none => none) (some 0)) == some n
    | _ => false

theorem sameTo_add (f g : Nat → Int) : ∀ (m s m' : Nat), sameTo f g s (m + m') = (sameTo f g s m && sameTo f g (s + m) m') := by
  intro m s m'
  unfold sameTo
  rw [← List.all_append]
  congr 1
  have h := List.range'_append (s := s) (m := m) (n := m') (step := 1)
  rw [Nat.one_mul] at h
  rw [← h]
theorem sameTo_shift (f g : Nat → Int) (off n : Nat) : sameTo (fun i => f (off + i)) (fun i => g (off + i)) 0 n = sameTo f g off n := by
  unfold sameTo
  rw [List.range'_eq_map_range, List.range'_eq_map_range, List.all_map, List.all_map]
  simp [Function.comp_def]
theorem sameTo_one (f g : Nat → Int) (s : Nat) : sameTo f g s 1 = (f s == g s) := by simp [sameTo]
theorem ints_extract (N : Nat) (F : Nat → Int) (off n : Nat) (h : off + n ≤ N) : (ints N F).extract off (off + n) = ints n (fun i => F (off + i)) := by
  apply Array.ext_getElem?
  intro i
  rw [Array.getElem?_extract]
  by_cases hi : i < n
  · rw [ints_get _ hi, if_pos (by rw [ints_size]; omega), ints_get _ (by omega)]
  · have e1 : (ints n fun i => F (off + i))[i]? = none := Array.getElem?_eq_none (by rw [ints_size]; omega)
    rw [e1]
    split
    · omega
    · rfl

section
variable {P : Program}
def aggT (P : Program) (t : TypeId) : Prop := (∃ m e, P.underlying t = some (.array m e)) ∨ ∃ fs, P.underlying t = some (.struct fs)
def EqI (P : Program) (d : Nat) (t : TypeId) (n : Nat) : Prop :=
  (P.underlying t = some (.int .i64) ∧ n = 1 ∧ 0 < d) ∨ (aggT P t ∧ P.cellsOf t = n ∧ ∀ k w F G, (Op.equalIn (k + d) t (.agg (ints n F)) (.agg (ints n G))).run P w = .ok (sameTo F G 0 n) w)
theorem eqI_step {d : Nat} {t : TypeId} {n : Nat} (h : EqI P d t n) {N off : Nat} (hN : off + n ≤ N) (F G : Nat → Int) (k : Nat) (w : World) :
    ∃ a b, (part t (ints N F) off).run P w = .ok a w ∧ (part t (ints N G) off).run P w = .ok b w ∧ (Op.equalIn (k + d) t a b).run P w = .ok (sameTo F G off n) w := by
  rcases h with ⟨hu, rfl, hd⟩ | ⟨ha, hc, he⟩
  · obtain ⟨d', rfl⟩ : ∃ d', d = d' + 1 := ⟨d - 1, by omega⟩
    refine ⟨.int .i64 (F off), .int .i64 (G off), ?_, ?_, ?_⟩
    · simp [part, isAgg, Sem.run_bind, run_underlying hu, ints_get (n := N) F (show off < N by omega)]
    · simp [part, isAgg, Sem.run_bind, run_underlying hu, ints_get (n := N) G (show off < N by omega)]
    · rw [show k + (d' + 1) = (k + d') + 1 from rfl, run_equalIn_int _ _ _ _ _ _ _ hu, sameTo_one]
  · have hi : ∃ i, P.info? t = some i := by
      rcases ha with ⟨m, e, hu⟩ | ⟨fs, hu⟩ <;> exact info_of_underlying hu
    obtain ⟨i, hi⟩ := hi
    refine ⟨.agg (ints n fun j => F (off + j)), .agg (ints n fun j => G (off + j)), ?_, ?_, ?_⟩
    · rcases ha with ⟨m, e, hu⟩ | ⟨fs, hu⟩ <;> simp [part, isAgg, Sem.run_bind, run_underlying hu, run_sizeOf w hi, hc, ints_extract N F off n hN]
    · rcases ha with ⟨m, e, hu⟩ | ⟨fs, hu⟩ <;> simp [part, isAgg, Sem.run_bind, run_underlying hu, run_sizeOf w hi, hc, ints_extract N G off n hN]
    · rw [he, sameTo_shift]
theorem eqI_items {d : Nat} {e : TypeId} {c : Nat} (h : EqI P d e c) (F G : Nat → Int) (N k : Nat) (w : World) : ∀ (m s : Nat), (s + m) * c ≤ N →
    (Op.eqItems (k + d) e c (ints N F) (ints N G) (List.range' s m)).run P w = .ok (sameTo F G (s * c) (m * c)) w
  | 0, s, _ => by simp [Op.eqItems, sameTo]
  | m + 1, s, hs => by
    have hsc : s * c + c ≤ N := by
      have : (s + 1) * c ≤ (s + (m + 1)) * c := Nat.mul_le_mul_right _ (by omega)
      rw [Nat.add_mul, Nat.one_mul] at this; omega
    obtain ⟨a, b, p1, p2, p3⟩ := eqI_step h hsc F G k w
    rw [List.range'_succ]
    have ih := eqI_items h F G N k w m (s + 1) (by rw [show s + 1 + m = s + (m + 1) by omega]; exact hs)
    simp only [Op.eqItems, Sem.run_bind, p1, p2, p3, Result.andThen_ok]
    have e1 : (m + 1) * c = c + m * c := by rw [Nat.add_mul, Nat.one_mul, Nat.add_comm]
    rw [e1, sameTo_add]
    cases hb : sameTo F G (s * c) c
    · simp
    · simp only [Bool.not_true, Bool.false_eq_true, if_false, Bool.true_and, ih]
      rw [show (s + 1) * c = s * c + c by rw [Nat.add_mul, Nat.one_mul]]
theorem eqI_fields {d : Nat} (F G : Nat → Int) (N k : Nat) (w : World) (hd : ∀ t n, intsT P d t n = true → EqI P d t n) : ∀ (fs : List Field) (off n : Nat),
    (fs.foldl (fun acc f => match acc with
        | some off => if f.offset == off && f.name != "_" && intsT P d f.type (P.cellsOf f.type) then some (off + P.cellsOf f.type) else none
        | none => none) (some off)) = some n → n ≤ N → off ≤ n ∧ (Op.eqFields (k + d) (ints N F) (ints N G) fs).run P w = .ok (sameTo F G off (n - off)) w
  | [], off, n, h, hN => by
    simp at h; subst h
    exact ⟨Nat.le_refl _, by simp [Op.eqFields, sameTo]⟩
  | f :: fs, off, n, h, hN => by
    simp only [List.foldl_cons] at h
    by_cases hc : (f.offset == off && f.name != "_" && intsT P d f.type (P.cellsOf f.type)) = true
    · rw [if_pos hc] at h
      simp only [Bool.and_eq_true, beq_iff_eq, bne_iff_ne] at hc
      obtain ⟨⟨h1, h2⟩, h3⟩ := hc
      obtain ⟨hle, ih⟩ := eqI_fields F G N k w hd fs _ n h hN
      subst h1
      obtain ⟨a, b, p1, p2, p3⟩ := eqI_step (hd _ _ h3) (N := N) (off := f.offset) (by omega) F G k w
      refine ⟨by omega, ?_⟩
      simp only [Op.eqFields, ne_eq, h2, not_false_eq_true, if_true, Sem.run_bind, p1, p2, p3, Result.andThen_ok]
      rw [show n - f.offset = P.cellsOf f.type + (n - (f.offset + P.cellsOf f.type)) by omega, sameTo_add]
      cases hb : sameTo F G f.offset (P.cellsOf f.type)
      · simp
      · simp only [Bool.not_true, Bool.false_eq_true, if_false, Bool.true_and, ih]
    · rw [if_neg hc] at h
      exfalso
      have : ∀ (l : List Field), (l.foldl (fun acc f => match acc with
        | some off => if f.offset == off && f.name != "_" && intsT P d f.type (P.cellsOf f.type) then some (off + P.cellsOf f.type) else none
        | none => none) (none : Option Nat)) = none := by
        intro l; induction l with
        | nil => rfl
        | cons f l ih => simp only [List.foldl_cons]; exact ih
      rw [this] at h; cases h
theorem eqI_of : ∀ (d : Nat) (t : TypeId) (n : Nat), intsT P d t n = true → EqI P d t n
  | 0, _, _, h => by simp [intsT] at h
  | d + 1, t, n, h => by
    unfold intsT at h
    cases hu : P.underlying t with
    | none => simp [hu] at h
    | some kd =>
      cases kd with
      | int q =>
        cases q <;> simp [hu] at h
        exact .inl ⟨hu, h.1, by omega⟩
      | array m e =>
        simp only [hu, Bool.and_eq_true, beq_iff_eq] at h
        obtain ⟨⟨h1, h2⟩, h3⟩ := h
        refine .inr ⟨.inl ⟨m, e, hu⟩, h2, fun k w F G => ?_⟩
        have hi : ∃ i, P.info? e = some i := by
          rcases eqI_of d e _ h3 with ⟨hue, _⟩ | ⟨ha, _⟩
          · exact info_of_underlying hue
          · rcases ha with ⟨m, e, hu⟩ | ⟨fs, hu⟩ <;> exact info_of_underlying hu
        obtain ⟨i, hi⟩ := hi
        rw [show k + (d + 1) = (k + d) + 1 from rfl, run_equalIn_array w (k + d) _ _ hu hi, List.range_eq_range']
        have := eqI_items (eqI_of d e _ h3) F G n k w m 0 (by rw [Nat.zero_add, Nat.mul_comm, h1]; exact Nat.le_refl _)
        rw [this, Nat.zero_mul, Nat.mul_comm, h1]
      | struct fs =>
        rw [hu] at h
        obtain ⟨h12, h3⟩ := Bool.and_eq_true_iff.1 h
        obtain ⟨h1, h2⟩ := Bool.and_eq_true_iff.1 h12
        rw [beq_iff_eq] at h2 h3
        rw [Bool.not_eq_true'] at h1
        refine .inr ⟨.inr ⟨fs, hu⟩, h2, fun k w F G => ?_⟩
        have hf : P.fieldsOf t = fs := by simp [Program.fieldsOf, hu]
        rw [show k + (d + 1) = (k + d) + 1 from rfl, run_equalIn_struct w (k + d) t _ _ (by rw [hf]; exact hu) h1, hf]
        have := (eqI_fields F G n k w (fun t n h => eqI_of d t n h) fs.toList 0 n h3 (Nat.le_refl _)).2
        rw [this, Nat.sub_zero]
      | _ => simp [hu] at h
theorem run_eql_ints {t : TypeId} {n d : Nat} (h : intsT P d t n = true) (hd : d ≤ 10000) (ha : aggT P t) (F G : Nat → Int) (w : World) : (binOp .eql t (.agg (ints n F)) (.agg (ints n G))).run P w = .ok (.bool (sameTo F G 0 n)) w := by
  rcases eqI_of d t n h with ⟨hu, _⟩ | ⟨_, _, he⟩
  · rcases ha with ⟨m, e, hu'⟩ | ⟨fs, hu'⟩ <;> rw [hu] at hu' <;> cases hu'
  · rw [run_eql_struct, show 10000 = (10000 - d) + d by omega, he]; rfl
theorem run_neq_ints {t : TypeId} {n d : Nat} (h : intsT P d t n = true) (hd : d ≤ 10000) (ha : aggT P t) (F G : Nat → Int) (w : World) : (binOp .neq t (.agg (ints n F)) (.agg (ints n G))).run P w = .ok (.bool (!sameTo F G 0 n)) w := by
  rcases eqI_of d t n h with ⟨hu, _⟩ | ⟨_, _, he⟩
  · rcases ha with ⟨m, e, hu'⟩ | ⟨fs, hu'⟩ <;> rw [hu] at hu' <;> cases hu'
  · rw [run_neq_struct, show 10000 = (10000 - d) + d by omega, he]; rfl
end
theorem run_eqops (P : Program) (o : Oper) (ρ : Operand → Value) (w : World) {op : BinOp} {t : TypeId} {x y : Operand} {xs ys : Array Value} {r : Bool} {b : TypeId} (ho : o.op = .binOp op t x y b) (hx : ρ x = .agg xs) (hy : ρ y = .agg ys)
    (hm : P.eqGuardType P.depth t = false) (h : ∀ w, (binOp op t (.agg xs) (.agg ys)).run P w = .ok (.bool r) w) : (execOp ρ o).run P w = .ok (.value (.bool r)) w := by
  unfold execOp
  simp [ho, hx, hy, Sem.run_bind, run_eqGuard_agg (P := P) w op t x y xs ys hm, h]
end Go.Proofs.YtcigbgpdikadpaaDoor
end
