/-
  Data, terms over data, sorts: what a function's values are said to be while its code is walked once for all inputs by a program inside the proof.
-/
import Derived.Test.YtonjilfbcofoaaaDoorKitM
namespace Go.Proofs.YtonjilfbcofoaaaDoor
open Go.RowKit
set_option linter.unusedVariables false

/-- what a cell holds, with what hangs on it -/
inductive Dat where
  | int (k : IntKind) (n : Int)
  | bool (b : Bool)
  | val (v : Value)
  | list (v : Value) (sz : Nat) (xs : List (List Dat))
  | rows (xs : List (List Dat))
namespace Dat
def toV : Dat → Value
  | .int k n => .int k n
  | .bool b => .bool b
  | .val v => v
  | .list v _ _ => v
  | .rows _ => undef
def toInt : Dat → Int
  | .int _ n => n
  | _ => 0
def toBool : Dat → Bool
  | .bool b => b
  | _ => false
def xs : Dat → List (List Dat)
  | .list _ _ l => l
  | .rows l => l
  | _ => []
def row0 : Dat → List Dat
  | .rows (l :: _) => l
  | _ => []
end Dat
def flatV (xs : List (List Dat)) : List Value := xs.flatten.map Dat.toV

/-- what kind of cell; list r, rows r: a slice whose elements are rows of sort r -/
inductive Srt where
  | int (k : IntKind)
  | bool
  | str
  | err
  | val
  | list (r : Nat)
  | rows (r : Nat)
  deriving DecidableEq
abbrev Tab := List (Nat × List Srt)
def Tab.row : Tab → Nat → List Srt
  | [], _ => []
  | (k, l) :: T, r => if k = r then l else Tab.row T r
def dflt (Δ : Tab) : Srt → Dat
  | .int k => .int k 0
  | .bool => .bool false
  | .str => .val (.string ⟨#[]⟩)
  | .err => .val .nilIface
  | .val => .val .nilIface
  | .list r => .list (.slice none 0 0) (Δ.row r).length []
  | .rows _ => .rows []

inductive Has (Δ : Tab) : Srt → Dat → Prop where
  | int (k : IntKind) (n : Int) : Has Δ (.int k) (.int k n)
  | bool (b : Bool) : Has Δ .bool (.bool b)
  | str (s : ByteArray) : Has Δ .str (.val (.string s))
  | nili : Has Δ .err (.val .nilIface)
  | ifc (n : Int) : Has Δ .err (.val (.iface 53 (.int .i64 n)))
  | val (v : Value) (h : v.oneCell' = true) : Has Δ .val (.val v)
  | list (r : Nat) (A : Option Addr) (n c : Nat) (xs : List (List Dat)) (hl : ∀ row ∈ xs, row.length = (Δ.row r).length) (h : ∀ row ∈ xs, ∀ (c : Nat) (s : Srt) (d : Dat), (Δ.row r)[c]? = some s → row[c]? = some d → Has Δ s d) : Has Δ (.list r) (.list (.slice A n c) (Δ.row r).length xs)
  | rows (r : Nat) (xs : List (List Dat)) (hl : ∀ row ∈ xs, row.length = (Δ.row r).length) (h : ∀ row ∈ xs, ∀ (c : Nat) (s : Srt) (d : Dat), (Δ.row r)[c]? = some s → row[c]? = some d → Has Δ s d) : Has Δ (.rows r) (.rows xs)

/-- in memory w it can be read -/
inductive OkD (w : World) : Dat → Prop where
  | int (k : IntKind) (n : Int) : OkD w (.int k n)
  | bool (b : Bool) : OkD w (.bool b)
  | val (v : Value) : OkD w (.val v)
  | list (v : Value) (sz : Nat) (xs : List (List Dat)) (hr : Rd w sz v xs.length (flatV xs)) (h : ∀ row ∈ xs, ∀ d ∈ row, OkD w d) : OkD w (.list v sz xs)
  | rows (xs : List (List Dat)) (h : ∀ row ∈ xs, ∀ d ∈ row, OkD w d) : OkD w (.rows xs)
/-- the blocks that it is read from -/
inductive AtD : Dat → Nat → Prop where
  | here {v : Value} {sz : Nat} {xs : List (List Dat)} {k : Nat} (h : rdAt v k) : AtD (.list v sz xs) k
  | list {v : Value} {sz : Nat} {xs : List (List Dat)} {k : Nat} {row : List Dat} {d : Dat} (hr : row ∈ xs) (hd : d ∈ row) (h : AtD d k) : AtD (.list v sz xs) k
  | rows {xs : List (List Dat)} {k : Nat} {row : List Dat} {d : Dat} (hr : row ∈ xs) (hd : d ∈ row) (h : AtD d k) : AtD (.rows xs) k
theorem OkD.keeps {w w' : World} {o : Option Nat} {d : Dat} (h : OkD w d) (hg : w.grownBy w' o) (hne : ∀ k, AtD d k → some k ≠ o) : OkD w' d := by
  induction h with
  | int k n => exact .int k n
  | bool b => exact .bool b
  | val v => exact .val v
  | list v sz xs hr _ ih =>
    exact .list v sz xs (Fact.keeps (B := 0) (f := .rd sz v xs.length (flatV xs)) hr hg (fun k hk => hne k (.here hk))) fun row hrow d hd => ih row hrow d hd fun k hk => hne k (.list hrow hd hk)
  | rows xs _ ih => exact .rows xs fun row hrow d hd => ih row hrow d hd fun k hk => hne k (.rows hrow hd hk)
theorem OkD.lt {w : World} {d : Dat} (h : OkD w d) {k : Nat} (hk : AtD d k) : k < w.heap.size := by
  induction h with
  | int _ _ => cases hk
  | bool _ => cases hk
  | val _ => cases hk
  | list v sz xs hr _ ih =>
    cases hk with
    | here h => exact Fact.lt (B := 0) (f := .rd sz v xs.length (flatV xs)) hr h
    | list h1 h2 h3 => exact ih _ h1 _ h2 h3
  | rows xs _ ih =>
    cases hk with
    | rows h1 h2 h3 => exact ih _ h1 _ h2 h3
def OkL (w : World) (l : List Dat) : Prop := ∀ d ∈ l, OkD w d
def AtL (l : List Dat) (k : Nat) : Prop := ∃ d ∈ l, AtD d k
theorem firmL (l : List Dat) : Firm (fun w => OkL w l) (AtL l) :=
  ⟨fun w1 w2 o h hg hne d hd => (h d hd).keeps hg fun k hk => hne k ⟨d, hd, hk⟩, fun w1 h k ⟨d, hd, hk⟩ => (h d hd).lt hk⟩

inductive Cmp where
  | eq | ne | lt | le | gt | ge
  deriving DecidableEq
def Cmp.of (c : Cmp) (a b : Int) : Bool := match c with
  | .eq => a == b
  | .ne => a != b
  | .lt => decide (a < b)
  | .le => decide (a ≤ b)
  | .gt => decide (a > b)
  | .ge => decide (a ≥ b)
inductive Ar where
  | add | sub | mul | quo | rem | and | or | xor | andNot | shl | shr
  deriving DecidableEq
def bitsOf (k : IntKind) (f : BitVec k.bits → BitVec k.bits → BitVec k.bits) (a b : Int) : Int := k.wrap (f (BitVec.ofInt k.bits a) (BitVec.ofInt k.bits b)).toNat
def Ar.of (o : Ar) (k : IntKind) (a b : Int) : Int := match o with
  | .add => k.wrap (a + b)
  | .sub => k.wrap (a - b)
  | .mul => k.wrap (a * b)
  | .quo => k.wrap (a.tdiv b)
  | .rem => a.tmod b
  | .and => bitsOf k (fun x y => x &&& y) a b
  | .or => bitsOf k (fun x y => x ||| y) a b
  | .xor => bitsOf k (fun x y => x ^^^ y) a b
  | .andNot => bitsOf k (fun x y => x &&& ~~~y) a b
  | .shl => k.wrap (a * 2 ^ (min b.toNat k.bits))
  | .shr => a.fdiv (2 ^ (min b.toNat k.bits))
/-- is it the nil of an interface? -/
def isNilI : Dat → Bool
  | .val .nilIface => true
  | .list (.slice none _ _) _ _ => true
  | _ => false
/-- an error's number -/
def errN : Dat → Int
  | .val (.iface _ (.int _ n)) => n
  | _ => 0
/-- a part of a slice -/
def cutV (l h sz : Nat) : Value → Value
  | .slice a _ c => .slice (if c = l then a else a.map (·.add (l * sz))) (h - l) (c - l)
  | v => v
def cutD (l h : Nat) : Dat → Dat
  | .list v sz xs => if l ≤ h ∧ h ≤ xs.length ∧ xs.all (fun r => r.length == sz) = true then .list (cutV l h sz v) sz ((xs.take h).drop l) else .list v sz xs
  | d => d
/-- what a string holds; the string of bytes -/
def strD : Dat → ByteArray
  | .val (.string s) => s
  | _ => ⟨#[]⟩
def bytesOf (xs : List (List Dat)) : ByteArray := ⟨(xs.map fun r => UInt8.ofNat (r.headD (.int .u8 0)).toInt.toNat).toArray⟩
def strB (l : List Nat) : Value := .string ⟨(l.map UInt8.ofNat).toArray⟩

/-- terms over the values that are not known -/
inductive Tm where
  | var (i : Nat)
  | int (k : IntKind) (n : Int)
  | bool (b : Bool)
  | nili
  | ifc (a : Tm)
  | str (l : List Nat)
  | nil (r : Nat)
  | ar (o : Ar) (k : IntKind) (a b : Tm)
  | cmp (c : Cmp) (a b : Tm)
  | not (a : Tm)
  | beq (a b : Tm)
  | and (a b : Tm)
  | or (a b : Tm)
  | conv (k : IntKind) (a : Tm)
  | len (a : Tm)
  | elem (s i : Tm) (c : Nat) (t : Srt)
  | sel (cs i : Tm) (t : Srt)
  | ite (c a b : Tm)
  | isnil (a : Tm)
  | errI (a : Tm)
  | cut (a l h : Tm)
  | rep (n row : Tm)
  | enil
  | econs (a b : Tm)
  | emp
  | push (a row : Tm)
  | app (a b : Tm)
  | upd (a i : Tm) (c : Nat) (v : Tm)
  | sof (a : Tm)
  | seq (a b : Tm)
  | slen (a : Tm)
  | sidx (a i : Tm)
  | scut (a l h : Tm)
  | sapp (a b : Tm)
  | sbytes (a : Tm)
  deriving DecidableEq
def den (Δ : Tab) (ρ : List Dat) : Tm → Dat
  | .var i => ρ.getD i (.bool false)
  | .int k n => .int k n
  | .bool b => .bool b
  | .nili => .val .nilIface
  | .ifc a => .val (.iface 53 (.int .i64 (den Δ ρ a).toInt))
  | .str l => .val (strB l)
  | .nil r => .list (.slice none 0 0) (Δ.row r).length []
  | .ar o k a b => .int k (o.of k (den Δ ρ a).toInt (den Δ ρ b).toInt)
  | .cmp c a b => .bool (c.of (den Δ ρ a).toInt (den Δ ρ b).toInt)
  | .not a => .bool (!(den Δ ρ a).toBool)
  | .beq a b => .bool ((den Δ ρ a).toBool == (den Δ ρ b).toBool)
  | .and a b => .bool ((den Δ ρ a).toBool && (den Δ ρ b).toBool)
  | .or a b => .bool ((den Δ ρ a).toBool || (den Δ ρ b).toBool)
  | .conv k a => .int k (k.wrap (den Δ ρ a).toInt)
  | .len a => .int .i64 (den Δ ρ a).xs.length
  | .elem s i c t => ((den Δ ρ s).xs.getD (den Δ ρ i).toInt.toNat []).getD c (dflt Δ t)
  | .sel cs i t => (den Δ ρ cs).row0.getD (den Δ ρ i).toInt.toNat (dflt Δ t)
  | .ite c a b => if (den Δ ρ c).toBool then den Δ ρ a else den Δ ρ b
  | .isnil a => .bool (isNilI (den Δ ρ a))
  | .errI a => .int .i64 (errN (den Δ ρ a))
  | .cut a l h => cutD (den Δ ρ l).toInt.toNat (den Δ ρ h).toInt.toNat (den Δ ρ a)
  | .rep n row => .rows (List.replicate (den Δ ρ n).toInt.toNat (den Δ ρ row).row0)
  | .enil => .rows [[]]
  | .econs a b => .rows [den Δ ρ a :: (den Δ ρ b).row0]
  | .emp => .rows []
  | .push a row => .rows ((den Δ ρ a).xs ++ [(den Δ ρ row).row0])
  | .app a b => .rows ((den Δ ρ a).xs ++ (den Δ ρ b).xs)
  | .upd a i c v => .rows ((den Δ ρ a).xs.set (den Δ ρ i).toInt.toNat (((den Δ ρ a).xs.getD (den Δ ρ i).toInt.toNat []).set c (den Δ ρ v)))
  | .sof a => .val (.string (bytesOf (den Δ ρ a).xs))
  | .seq a b => .bool ((strD (den Δ ρ a)).toList == (strD (den Δ ρ b)).toList)
  | .slen a => .int .i64 (strD (den Δ ρ a)).size
  | .sidx a i => .int .u8 ((strD (den Δ ρ a)).data.getD (den Δ ρ i).toInt.toNat 0).toNat
  | .scut a l h => .val (.string ((strD (den Δ ρ a)).extract (den Δ ρ l).toInt.toNat (den Δ ρ h).toInt.toNat))
  | .sapp a b => .val (.string (strD (den Δ ρ a) ++ strD (den Δ ρ b)))
  | .sbytes a => .rows ((strD (den Δ ρ a)).data.toList.map fun b => [.int .u8 b.toNat])
def econsL : List Tm → Tm
  | [] => .enil
  | t :: l => .econs t (econsL l)
theorem den_econsL (Δ : Tab) (ρ : List Dat) : ∀ l : List Tm, (den Δ ρ (econsL l)).row0 = l.map (den Δ ρ)
  | [] => rfl
  | t :: l => by rw [econsL, den]; show _ :: _ = _; rw [den_econsL Δ ρ l]; rfl

theorem dflt_has (Δ : Tab) : ∀ s, Has Δ s (dflt Δ s)
  | .int k => .int k 0
  | .bool => .bool false
  | .str => .str _
  | .err => .nili
  | .val => .val _ rfl
  | .list r => .list r none 0 0 [] (by simp) (by simp)
  | .rows r => .rows r [] (by simp) (by simp)
theorem dflt_ok (Δ : Tab) (w : World) : ∀ s, OkD w (dflt Δ s)
  | .int k => .int k 0
  | .bool => .bool false
  | .str => .val _
  | .err => .val _
  | .val => .val _
  | .list r => .list _ _ _ ⟨none, 0, rfl, Nat.le_refl _, by simp [flatV], fun h => absurd h (by simp)⟩ (by simp)
  | .rows r => .rows _ (by simp)
theorem dflt_at (Δ : Tab) (k : Nat) : ∀ s, ¬ AtD (dflt Δ s) k
  | .int _ => fun h => by cases h
  | .bool => fun h => by cases h
  | .str => fun h => by cases h
  | .err => fun h => by cases h
  | .val => fun h => by cases h
  | .list r => fun h => by
    cases h with
    | here h => exact h
    | list h1 _ _ => cases h1
  | .rows r => fun h => by
    cases h with
    | rows h1 _ _ => cases h1

/-- the terms' data are read where their variables' data are -/
def Good (w : World) (p : Nat → Prop) (d : Dat) : Prop := OkD w d ∧ ∀ k, AtD d k → p k
theorem Good.getD {w : World} {p : Nat → Prop} {l : List Dat} (h : ∀ d ∈ l, Good w p d) (i : Nat) {e : Dat} (he : Good w p e) : Good w p (l.getD i e) := by
  rw [List.getD_eq_getElem?_getD]
  cases hq : l[i]? with
  | none => exact he
  | some d => exact h d (List.mem_of_getElem? hq)
theorem Good.rowsIn {w : World} {p : Nat → Prop} {d : Dat} (h : Good w p d) {row : List Dat} (hr : row ∈ d.xs) {e : Dat} (he : e ∈ row) : Good w p e := by
  obtain ⟨h1, h2⟩ := h
  cases h1 with
  | int _ _ => cases hr
  | bool _ => cases hr
  | val _ => cases hr
  | list v sz xs hrd ho => exact ⟨ho row hr e he, fun k hk => h2 k (.list hr he hk)⟩
  | rows xs ho => exact ⟨ho row hr e he, fun k hk => h2 k (.rows hr he hk)⟩
theorem Good.mkRows {w : World} {p : Nat → Prop} {xs : List (List Dat)} (h : ∀ row ∈ xs, ∀ d ∈ row, Good w p d) : Good w p (.rows xs) :=
  ⟨.rows xs fun row hr d hd => (h row hr d hd).1, fun k hk => by
    cases hk with
    | rows h1 h2 h3 => exact (h _ h1 _ h2).2 k h3⟩
theorem Good.row0 {w : World} {p : Nat → Prop} {d : Dat} (h : Good w p d) : ∀ e ∈ d.row0, Good w p e := fun e he => by
  cases d with
  | rows xs =>
    cases xs with
    | nil => cases he
    | cons l xs => exact h.rowsIn (row := l) (by simp [Dat.xs]) he
  | _ => cases he
theorem Good.dflt (Δ : Tab) (w : World) (p : Nat → Prop) (s : Srt) : Good w p (dflt Δ s) := ⟨dflt_ok Δ w s, fun k hk => (dflt_at Δ k s hk).elim⟩
theorem Good.ofInt {w : World} {p : Nat → Prop} (k : IntKind) (n : Int) : Good w p (.int k n) := ⟨.int k n, fun _ h => by cases h⟩
theorem Good.ofBool {w : World} {p : Nat → Prop} (b : Bool) : Good w p (.bool b) := ⟨.bool b, fun _ h => by cases h⟩
theorem Good.ofVal {w : World} {p : Nat → Prop} (v : Value) : Good w p (.val v) := ⟨.val v, fun _ h => by cases h⟩
theorem getD_mem_or {α : Type} (l : List α) (i : Nat) (e : α) : l.getD i e ∈ l ∨ l.getD i e = e := by
  rw [List.getD_eq_getElem?_getD]
  cases hq : l[i]? with
  | none => exact .inr rfl
  | some d => exact .inl (List.mem_of_getElem? hq)
theorem flatV_drop {sz : Nat} : ∀ (xs : List (List Dat)) (l : Nat), (∀ row ∈ xs, row.length = sz) → flatV (xs.drop l) = (flatV xs).drop (l * sz)
  | xs, 0, _ => by simp
  | [], l + 1, _ => by simp [flatV]
  | r :: xs, l + 1, h => by
    have ih := flatV_drop xs l (fun row hr => h row (by simp [hr]))
    have hr := h r (by simp)
    have e1 : ∀ ys : List (List Dat), flatV (r :: ys) = r.map Dat.toV ++ flatV ys := fun ys => by simp [flatV]
    have e3 : ((r.map Dat.toV)).drop ((l + 1) * sz) = [] := List.drop_of_length_le (by rw [List.length_map, hr, Nat.add_mul]; omega)
    rw [List.drop_succ_cons, e1, ih, List.drop_append, e3, List.nil_append]
    congr 1
    rw [List.length_map, hr, Nat.add_mul]; omega
theorem flatV_take {sz : Nat} : ∀ (xs : List (List Dat)) (l : Nat), (∀ row ∈ xs, row.length = sz) → flatV (xs.take l) = (flatV xs).take (l * sz)
  | xs, 0, _ => by simp [flatV]
  | [], l + 1, _ => by simp [flatV]
  | r :: xs, l + 1, h => by
    have ih := flatV_take xs l (fun row hr => h row (by simp [hr]))
    have hr := h r (by simp)
    have e1 : ∀ ys : List (List Dat), flatV (r :: ys) = r.map Dat.toV ++ flatV ys := fun ys => by simp [flatV]
    have e3 : ((r.map Dat.toV)).take ((l + 1) * sz) = r.map Dat.toV := List.take_of_length_le (by rw [List.length_map, hr, Nat.add_mul]; omega)
    rw [List.take_succ_cons, e1, e1, ih, List.take_append, e3]
    congr 2
    rw [List.length_map, hr, Nat.add_mul]; omega
theorem cutL_good {w : World} {p : Nat → Prop} {v : Value} {sz : Nat} {xs : List (List Dat)} {l h : Nat} (hg : Good w p (.list v sz xs)) (hrow : ∀ row ∈ xs, row.length = sz) (hlh : l ≤ h) (hh : h ≤ xs.length) : Good w p (.list (cutV l h sz v) sz ((xs.take h).drop l)) := by
  obtain ⟨h1, h2⟩ := hg
  cases h1 with
  | list _ _ _ hr ho =>
  obtain ⟨A, c, rfl, hc, hl, ha⟩ := hr
  refine ⟨.list _ _ _ ⟨if c = l then A else A.map (·.add (l * sz)), c - l, ?_, ?_, ?_, ?_⟩ fun row hr d hd => ho row (List.mem_of_mem_take (List.mem_of_mem_drop hr)) d hd, fun k hk => ?_⟩
  · simp [cutV, Nat.min_eq_left hh]
  · simp only [List.length_drop, List.length_take]; omega
  · rw [flatV_drop (sz := sz) _ _ (fun row hr => hrow row (List.mem_of_mem_take hr)), flatV_take xs h hrow]
    simp only [List.length_drop, List.length_take, hl, Nat.sub_mul]
    rw [Nat.min_eq_left (Nat.mul_le_mul_right _ hh), Nat.min_eq_left hh]
  · intro hpos
    simp only [List.length_drop, List.length_take] at hpos
    obtain ⟨ad, rfl, hb, hcell⟩ := ha (by omega)
    refine ⟨ad.add (l * sz), ?_, by rw [block_add]; exact hb, fun j u hu => ?_⟩
    · rw [if_neg (by omega)]; rfl
    · rw [add_add']
      refine hcell _ u ?_
      rw [flatV_drop (sz := sz) _ _ (fun row hr => hrow row (List.mem_of_mem_take hr)), flatV_take xs h hrow, List.getElem?_drop] at hu
      rw [List.getElem?_take] at hu
      split at hu
      · exact hu
      · cases hu
  · cases hk with
    | here hr =>
      refine h2 k (.here ?_)
      cases A with
      | none => simp only [cutV] at hr; split at hr <;> exact hr.elim
      | some ad =>
        simp only [cutV] at hr
        split at hr
        · exact ⟨by obtain ⟨a1, a2⟩ := hr; omega, hr.2⟩
        · obtain ⟨a1, a2⟩ := hr
          exact ⟨by omega, by rw [a2, block_add]⟩
    | list hr hd hk => exact h2 k (.list (List.mem_of_mem_take (List.mem_of_mem_drop hr)) hd hk)
theorem Good.cut {w : World} {p : Nat → Prop} {d : Dat} (hg : Good w p d) (l h : Nat) : Good w p (cutD l h d) := by
  cases d with
  | list v sz xs =>
    simp only [cutD]
    split
    · rename_i hc
      obtain ⟨h1, h2, h3⟩ := hc
      exact cutL_good hg (fun row hr => by simpa using List.all_eq_true.1 h3 row hr) h1 h2
    · exact hg
  | _ => exact hg
theorem den_good {Δ : Tab} {w : World} {p : Nat → Prop} {ρ : List Dat} (h : ∀ d ∈ ρ, Good w p d) : ∀ t, Good w p (den Δ ρ t)
  | .var i => Good.getD h i (Good.ofBool _)
  | .int k n => Good.ofInt k n
  | .bool b => Good.ofBool b
  | .nili => Good.ofVal _
  | .ifc _ => Good.ofVal _
  | .str _ => Good.ofVal _
  | .nil r => Good.dflt Δ w p (.list r)
  | .ar _ _ _ _ => Good.ofInt _ _
  | .cmp _ _ _ => Good.ofBool _
  | .not _ => Good.ofBool _
  | .beq _ _ => Good.ofBool _
  | .and _ _ => Good.ofBool _
  | .or _ _ => Good.ofBool _
  | .conv _ _ => Good.ofInt _ _
  | .len _ => Good.ofInt _ _
  | .elem s i c t => by
    refine Good.getD (fun d hd => ?_) c (Good.dflt Δ w p t)
    rcases getD_mem_or (den Δ ρ s).xs (den Δ ρ i).toInt.toNat [] with e | e
    · exact (den_good h s).rowsIn e hd
    · rw [e] at hd; cases hd
  | .sel cs i t => Good.getD (den_good h cs).row0 _ (Good.dflt Δ w p t)
  | .ite c a b => by
    simp only [den]
    split
    · exact den_good h a
    · exact den_good h b
  | .isnil _ => Good.ofBool _
  | .errI _ => Good.ofInt _ _
  | .cut a _ _ => (den_good h a).cut _ _
  | .rep n row => Good.mkRows fun r hr d hd => by
    rw [(List.mem_replicate.1 hr).2] at hd
    exact (den_good h row).row0 d hd
  | .enil => Good.mkRows (by simp)
  | .econs a b => Good.mkRows fun row hr d hd => by
    simp only [List.mem_singleton] at hr
    subst hr
    rcases List.mem_cons.1 hd with rfl | hd
    · exact den_good h a
    · exact (den_good h b).row0 d hd
  | .emp => Good.mkRows (by simp)
  | .push a row => Good.mkRows fun r hr d hd => by
    rcases List.mem_append.1 hr with hr | hr
    · exact (den_good h a).rowsIn hr hd
    · simp only [List.mem_singleton] at hr
      subst hr
      exact (den_good h row).row0 d hd
  | .app a b => Good.mkRows fun r hr d hd => by
    rcases List.mem_append.1 hr with hr | hr
    · exact (den_good h a).rowsIn hr hd
    · exact (den_good h b).rowsIn hr hd
  | .upd a i c v => Good.mkRows fun r hr d hd => by
    rcases List.mem_or_eq_of_mem_set hr with hr | hr
    · exact (den_good h a).rowsIn hr hd
    · subst hr
      rcases List.mem_or_eq_of_mem_set hd with hd | hd
      · rcases getD_mem_or (den Δ ρ a).xs (den Δ ρ i).toInt.toNat [] with e | e
        · exact (den_good h a).rowsIn e hd
        · rw [e] at hd; cases hd
      · subst hd; exact den_good h v
  | .sof _ => Good.ofVal _
  | .seq _ _ => Good.ofBool _
  | .slen _ => Good.ofInt _ _
  | .sidx _ _ => Good.ofInt _ _
  | .scut _ _ _ => Good.ofVal _
  | .sapp _ _ => Good.ofVal _
  | .sbytes a => Good.mkRows fun r hr d hd => by
    obtain ⟨b, _, rfl⟩ := List.mem_map.1 hr
    simp only [List.mem_singleton] at hd
    subst hd
    exact Good.ofInt _ _

/-- a term's variables are below n -/
def Tm.bnd (n : Nat) : Tm → Bool
  | .var i => decide (i < n)
  | .int _ _ | .bool _ | .nili | .str _ | .nil _ | .enil | .emp => true
  | .ar _ _ a b | .cmp _ a b | .beq a b | .and a b | .or a b | .elem a b _ _ | .sel a b _ | .econs a b | .push a b | .app a b | .rep a b | .seq a b | .sidx a b | .sapp a b => a.bnd n && b.bnd n
  | .not a | .conv _ a | .len a | .isnil a | .errI a | .ifc a | .sof a | .slen a | .sbytes a => a.bnd n
  | .ite a b c | .cut a b c | .scut a b c => a.bnd n && b.bnd n && c.bnd n
  | .upd a b _ c => a.bnd n && b.bnd n && c.bnd n
theorem den_below {Δ : Tab} {ρ : List Dat} : ∀ (t : Tm), t.bnd ρ.length = true → ∀ e, den Δ (ρ ++ e) t = den Δ ρ t
  | .var i, h, e => by
    have hi : i < ρ.length := by simpa [Tm.bnd] using h
    simp [den, List.getD_eq_getElem?_getD, List.getElem?_append_left hi]
  | .int _ _, _, _ => rfl
  | .bool _, _, _ => rfl
  | .nili, _, _ => rfl
  | .str _, _, _ => rfl
  | .nil _, _, _ => rfl
  | .enil, _, _ => rfl
  | .emp, _, _ => rfl
  | .ar _ _ a b, h, e => by simp only [Tm.bnd, Bool.and_eq_true] at h; simp only [den, den_below a h.1 e, den_below b h.2 e]
  | .cmp _ a b, h, e => by simp only [Tm.bnd, Bool.and_eq_true] at h; simp only [den, den_below a h.1 e, den_below b h.2 e]
  | .beq a b, h, e => by simp only [Tm.bnd, Bool.and_eq_true] at h; simp only [den, den_below a h.1 e, den_below b h.2 e]
  | .and a b, h, e => by simp only [Tm.bnd, Bool.and_eq_true] at h; simp only [den, den_below a h.1 e, den_below b h.2 e]
  | .or a b, h, e => by simp only [Tm.bnd, Bool.and_eq_true] at h; simp only [den, den_below a h.1 e, den_below b h.2 e]
  | .elem a b _ _, h, e => by simp only [Tm.bnd, Bool.and_eq_true] at h; simp only [den, den_below a h.1 e, den_below b h.2 e]
  | .sel a b _, h, e => by simp only [Tm.bnd, Bool.and_eq_true] at h; simp only [den, den_below a h.1 e, den_below b h.2 e]
  | .econs a b, h, e => by simp only [Tm.bnd, Bool.and_eq_true] at h; simp only [den, den_below a h.1 e, den_below b h.2 e]
  | .push a b, h, e => by simp only [Tm.bnd, Bool.and_eq_true] at h; simp only [den, den_below a h.1 e, den_below b h.2 e]
  | .app a b, h, e => by simp only [Tm.bnd, Bool.and_eq_true] at h; simp only [den, den_below a h.1 e, den_below b h.2 e]
  | .not a, h, e => by simp only [Tm.bnd] at h; simp only [den, den_below a h e]
  | .conv _ a, h, e => by simp only [Tm.bnd] at h; simp only [den, den_below a h e]
  | .len a, h, e => by simp only [Tm.bnd] at h; simp only [den, den_below a h e]
  | .isnil a, h, e => by simp only [Tm.bnd] at h; simp only [den, den_below a h e]
  | .errI a, h, e => by simp only [Tm.bnd] at h; simp only [den, den_below a h e]
  | .ifc a, h, e => by simp only [Tm.bnd] at h; simp only [den, den_below a h e]
  | .rep a b, h, e => by simp only [Tm.bnd, Bool.and_eq_true] at h; simp only [den, den_below a h.1 e, den_below b h.2 e]
  | .cut a b c, h, e => by simp only [Tm.bnd, Bool.and_eq_true] at h; simp only [den, den_below a h.1.1 e, den_below b h.1.2 e, den_below c h.2 e]
  | .ite a b c, h, e => by simp only [Tm.bnd, Bool.and_eq_true] at h; simp only [den, den_below a h.1.1 e, den_below b h.1.2 e, den_below c h.2 e]
  | .upd a b _ c, h, e => by simp only [Tm.bnd, Bool.and_eq_true] at h; simp only [den, den_below a h.1.1 e, den_below b h.1.2 e, den_below c h.2 e]
  | .seq a b, h, e => by simp only [Tm.bnd, Bool.and_eq_true] at h; simp only [den, den_below a h.1 e, den_below b h.2 e]
  | .sidx a b, h, e => by simp only [Tm.bnd, Bool.and_eq_true] at h; simp only [den, den_below a h.1 e, den_below b h.2 e]
  | .sapp a b, h, e => by simp only [Tm.bnd, Bool.and_eq_true] at h; simp only [den, den_below a h.1 e, den_below b h.2 e]
  | .sof a, h, e => by simp only [Tm.bnd] at h; simp only [den, den_below a h e]
  | .slen a, h, e => by simp only [Tm.bnd] at h; simp only [den, den_below a h e]
  | .sbytes a, h, e => by simp only [Tm.bnd] at h; simp only [den, den_below a h e]
  | .scut a b c, h, e => by simp only [Tm.bnd, Bool.and_eq_true] at h; simp only [den, den_below a h.1.1 e, den_below b h.1.2 e, den_below c h.2 e]

/-- the term stands for d, whatever comes behind -/
def Den (Δ : Tab) (ρ : List Dat) (t : Tm) (d : Dat) : Prop := ∀ e, den Δ (ρ ++ e) t = d
theorem Den.now {Δ : Tab} {ρ : List Dat} {t : Tm} {d : Dat} (h : Den Δ ρ t d) : den Δ ρ t = d := by simpa using h []
theorem Den.more {Δ : Tab} {ρ : List Dat} {t : Tm} {d : Dat} (h : Den Δ ρ t d) (x : List Dat) : Den Δ (ρ ++ x) t d := fun e => by rw [List.append_assoc]; exact h _
theorem Den.of {Δ : Tab} {ρ : List Dat} {t : Tm} (h : t.bnd ρ.length = true) : Den Δ ρ t (den Δ ρ t) := fun e => den_below t h e
theorem Den.less {Δ : Tab} {ρ x : List Dat} {t : Tm} {d : Dat} (h : Den Δ (ρ ++ x) t d) (hb : t.bnd ρ.length = true) : Den Δ ρ t d := by
  have := h.now
  rw [den_below t hb x] at this
  intro e
  rw [den_below t hb e, this]
theorem Den.var {Δ : Tab} {ρ : List Dat} {i : Nat} {d : Dat} (h : ρ[i]? = some d) : Den Δ ρ (.var i) d := fun e => by
  have hi := (List.getElem?_eq_some_iff.1 h).1
  simp [den, List.getD_eq_getElem?_getD, List.getElem?_append_left hi, h]
end Go.Proofs.YtonjilfbcofoaaaDoor
