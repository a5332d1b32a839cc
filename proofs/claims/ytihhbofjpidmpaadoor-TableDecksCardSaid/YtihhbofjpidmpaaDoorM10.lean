import Derived.Test.YtihhbofjpidmpaaDoorM9
import Derived.Test.YtihhbofjpidmpaaDoorM0
import Derived.WalkKit
import Derived.Maps.OwnOps
import Derived.Maps.OwnSet
import Derived.Maps.RangeWalk
import Derived.Test.YtihhbofjpidmpaaDoorM7

set_option linter.unusedVariables false
set_option linter.unusedSimpArgs false

section
namespace Go.Proofs.YtihhbofjpidmpaaDoor
open Go.RowKit
set_option linter.unusedVariables false

/-- data without the places where they stand -/
inductive PD where
  | int (n : Int)
  | bool (b : Bool)
  | nil
  | err (n : Int)
  | str (l : List Nat)
  | list (sz : Nat) (xs : List (List PD))
  | rows (xs : List (List PD))
  | odd
mutual
def PD.same : PD → PD → Bool
  | .int a, .int b => decide (a = b)
  | .bool a, .bool b => decide (a = b)
  | .nil, .nil => true
  | .err a, .err b => decide (a = b)
  | .str a, .str b => decide (a = b)
  | .list s a, .list t b => decide (s = t) && sameRs a b
  | .rows a, .rows b => sameRs a b
  | .odd, .odd => true
  | _, _ => false
def sameRs : List (List PD) → List (List PD) → Bool
  | [], [] => true
  | a :: l, b :: m => sameR a b && sameRs l m
  | _, _ => false
def sameR : List PD → List PD → Bool
  | [], [] => true
  | a :: l, b :: m => PD.same a b && sameR l m
  | _, _ => false
end
mutual
theorem PD.same_ok : ∀ {a b : PD}, PD.same a b = true → a = b
  | .int a, b, h => by
    cases b <;> first | (simp [PD.same] at h; done) | (simp [PD.same] at h; rw [h])
  | .bool a, b, h => by
    cases b <;> first | (simp [PD.same] at h; done) | (simp [PD.same] at h; rw [h])
  | .nil, b, h => by
    cases b <;> first | (simp [PD.same] at h; done) | rfl
  | .err a, b, h => by
    cases b <;> first | (simp [PD.same] at h; done) | (simp [PD.same] at h; rw [h])
  | .str a, b, h => by
    cases b <;> first | (simp [PD.same] at h; done) | (simp [PD.same] at h; rw [h])
  | .odd, b, h => by
    cases b <;> first | (simp [PD.same] at h; done) | rfl
  | .list s a, .list t b, h => by
    simp only [PD.same, Bool.and_eq_true, decide_eq_true_eq] at h
    rw [h.1, sameRs_ok h.2]
  | .rows a, .rows b, h => by
    simp only [PD.same] at h
    rw [sameRs_ok h]
  | .list s a, .int _, h | .list s a, .bool _, h | .list s a, .nil, h | .list s a, .err _, h | .list s a, .str _, h | .list s a, .rows _, h | .list s a, .odd, h => by simp [PD.same] at h
  | .rows a, .int _, h | .rows a, .bool _, h | .rows a, .nil, h | .rows a, .err _, h | .rows a, .str _, h | .rows a, .list _ _, h | .rows a, .odd, h => by simp [PD.same] at h
theorem sameRs_ok : ∀ {a b : List (List PD)}, sameRs a b = true → a = b
  | [], [], _ => rfl
  | a :: l, b :: m, h => by
    simp only [sameRs, Bool.and_eq_true] at h
    rw [sameR_ok h.1, sameRs_ok h.2]
  | [], _ :: _, h => by simp [sameRs] at h
  | _ :: _, [], h => by simp [sameRs] at h
theorem sameR_ok : ∀ {a b : List PD}, sameR a b = true → a = b
  | [], [], _ => rfl
  | a :: l, b :: m, h => by
    simp only [sameR, Bool.and_eq_true] at h
    rw [PD.same_ok h.1, sameR_ok h.2]
  | [], _ :: _, h => by simp [sameR] at h
  | _ :: _, [], h => by simp [sameR] at h
end
def stripV : Value → PD
  | .nilIface => .nil
  | .iface _ (.int _ n) => .err n
  | .string s => .str (s.data.toList.map UInt8.toNat)
  | _ => .odd
mutual
def strip : Dat → PD
  | .int _ n => .int n
  | .bool b => .bool b
  | .val v => stripV v
  | .list _ sz xs => .list sz (stripRs xs)
  | .rows xs => .rows (stripRs xs)
def stripRs : List (List Dat) → List (List PD)
  | [] => []
  | r :: l => stripR r :: stripRs l
def stripR : List Dat → List PD
  | [] => []
  | d :: l => strip d :: stripR l
end
theorem stripR_map : ∀ l : List Dat, stripR l = l.map strip
  | [] => by rw [stripR]; rfl
  | d :: l => by rw [stripR, stripR_map l]; rfl
theorem stripRs_map : ∀ l : List (List Dat), stripRs l = l.map fun r => r.map strip
  | [] => by rw [stripRs]; rfl
  | d :: l => by rw [stripRs, stripRs_map l, stripR_map]; rfl
theorem strip_int (k : IntKind) (n : Int) : strip (.int k n) = .int n := by rw [strip]
theorem strip_bool (b : Bool) : strip (.bool b) = .bool b := by rw [strip]
theorem strip_val (v : Value) : strip (.val v) = stripV v := by rw [strip]
theorem strip_list (v : Value) (sz : Nat) (xs : List (List Dat)) : strip (.list v sz xs) = .list sz (xs.map fun r => r.map strip) := by rw [strip, stripRs_map]
theorem strip_rows (xs : List (List Dat)) : strip (.rows xs) = .rows (xs.map fun r => r.map strip) := by rw [strip, stripRs_map]
theorem stripV_ne (v : Value) : (∀ n, stripV v ≠ .int n) ∧ (∀ b, stripV v ≠ .bool b) ∧ (∀ s l, stripV v ≠ .list s l) ∧ (∀ l, stripV v ≠ .rows l) := by
  unfold stripV
  split <;> exact ⟨by simp, by simp, by simp, by simp⟩
theorem strip_isInt {d : Dat} {n : Int} (h : strip d = .int n) : d.toInt = n := by
  cases d with
  | int k m => rw [strip_int] at h; cases h; rfl
  | bool b => rw [strip_bool] at h; cases h
  | val v => rw [strip_val] at h; exact absurd h ((stripV_ne v).1 n)
  | list v sz xs => rw [strip_list] at h; cases h
  | rows xs => rw [strip_rows] at h; cases h
theorem strip_isBool {d : Dat} {b : Bool} (h : strip d = .bool b) : d = .bool b := by
  cases d with
  | int k m => rw [strip_int] at h; cases h
  | bool b => rw [strip_bool] at h; cases h; rfl
  | val v => rw [strip_val] at h; exact absurd h ((stripV_ne v).2.1 b)
  | list v sz xs => rw [strip_list] at h; cases h
  | rows xs => rw [strip_rows] at h; cases h
theorem strip_isList {d : Dat} {s : Nat} {l : List (List PD)} (h : strip d = .list s l) : ∃ v xs, d = .list v s xs ∧ l = xs.map fun r => r.map strip := by
  cases d with
  | int k m => rw [strip_int] at h; cases h
  | bool b => rw [strip_bool] at h; cases h
  | val v => rw [strip_val] at h; exact absurd h ((stripV_ne v).2.2.1 s l)
  | list v sz xs => rw [strip_list] at h; cases h; exact ⟨v, xs, rfl, rfl⟩
  | rows xs => rw [strip_rows] at h; cases h
theorem strip_isRows {d : Dat} {l : List (List PD)} (h : strip d = .rows l) : ∃ xs, d = .rows xs ∧ l = xs.map fun r => r.map strip := by
  cases d with
  | int k m => rw [strip_int] at h; cases h
  | bool b => rw [strip_bool] at h; cases h
  | val v => rw [strip_val] at h; exact absurd h ((stripV_ne v).2.2.2 l)
  | list v sz xs => rw [strip_list] at h; cases h
  | rows xs => rw [strip_rows] at h; cases h; exact ⟨xs, rfl, rfl⟩

/-! What a term stands for, without places. -/
def PD.xs? : PD → Option (List (List PD))
  | .list _ l => some l
  | .rows l => some l
  | _ => none
def PD.int? : PD → Option Int
  | .int n => some n
  | _ => none
def PD.bool? : PD → Option Bool
  | .bool b => some b
  | _ => none
def PD.row? : PD → Option (List PD)
  | .rows (r :: _) => some r
  | _ => none
def sev (Δ : Tab) (env : List PD) : Tm → Option PD
  | .var i => env[i]?
  | .int _ n => some (.int n)
  | .bool b => some (.bool b)
  | .nili => some .nil
  | .ifc a => ((sev Δ env a).bind PD.int?).map .err
  | .str l => some (.str (l.map (· % 256)))
  | .nil r => some (.list (Δ.row r).length [])
  | .ar o k a b => ((sev Δ env a).bind PD.int?).bind fun x => ((sev Δ env b).bind PD.int?).map fun y => .int (o.of k x y)
  | .cmp c a b => ((sev Δ env a).bind PD.int?).bind fun x => ((sev Δ env b).bind PD.int?).map fun y => .bool (c.of x y)
  | .not a => ((sev Δ env a).bind PD.bool?).map fun x => .bool (!x)
  | .beq a b => ((sev Δ env a).bind PD.bool?).bind fun x => ((sev Δ env b).bind PD.bool?).map fun y => .bool (x == y)
  | .and a b => ((sev Δ env a).bind PD.bool?).bind fun x => ((sev Δ env b).bind PD.bool?).map fun y => .bool (x && y)
  | .or a b => ((sev Δ env a).bind PD.bool?).bind fun x => ((sev Δ env b).bind PD.bool?).map fun y => .bool (x || y)
  | .conv k a => ((sev Δ env a).bind PD.int?).map fun x => .int (k.wrap x)
  | .len a => ((sev Δ env a).bind PD.xs?).map fun x => .int x.length
  | .elem s i c _ => ((sev Δ env s).bind PD.xs?).bind fun x => ((sev Δ env i).bind PD.int?).bind fun n => (x[n.toNat]?).bind fun r => r[c]?
  | .sel cs i _ => ((sev Δ env cs).bind PD.row?).bind fun r => ((sev Δ env i).bind PD.int?).bind fun n => r[n.toNat]?
  | .ite c a b => match (sev Δ env c).bind PD.bool? with
    | some true => sev Δ env a
    | some false => sev Δ env b
    | none => none
  | .isnil a => match sev Δ env a with
    | some .nil => some (.bool true)
    | some (.err _) => some (.bool false)
    | _ => none
  | .errI a => match sev Δ env a with
    | some (.err n) => some (.int n)
    | _ => none
  | .cut a l h => match sev Δ env a, (sev Δ env l).bind PD.int?, (sev Δ env h).bind PD.int? with
    | some (.list sz xs), some l, some h => if l.toNat ≤ h.toNat ∧ h.toNat ≤ xs.length ∧ xs.all (fun r => r.length == sz) = true then some (.list sz ((xs.take h.toNat).drop l.toNat)) else none
    | _, _, _ => none
  | .rep n row => ((sev Δ env n).bind PD.int?).bind fun k => ((sev Δ env row).bind PD.row?).map fun r => .rows (List.replicate k.toNat r)
  | .enil => some (.rows [[]])
  | .econs a b => (sev Δ env a).bind fun x => ((sev Δ env b).bind PD.row?).map fun r => .rows [x :: r]
  | .emp => some (.rows [])
  | .push a row => ((sev Δ env a).bind PD.xs?).bind fun x => ((sev Δ env row).bind PD.row?).map fun r => .rows (x ++ [r])
  | .app a b => ((sev Δ env a).bind PD.xs?).bind fun x => ((sev Δ env b).bind PD.xs?).map fun y => .rows (x ++ y)
  | .upd a i c v => ((sev Δ env a).bind PD.xs?).bind fun x => ((sev Δ env i).bind PD.int?).bind fun n => (sev Δ env v).map fun v => .rows (x.set n.toNat ((x.getD n.toNat []).set c v))
  | _ => none
section
variable {Δ : Tab} {ρ : List Dat} {env : List PD}
theorem xs_strip {d : Dat} {p : PD} {l : List (List PD)} (h : strip d = p) (hl : p.xs? = some l) : d.xs.map (fun r => r.map strip) = l := by
  cases p <;> first | (cases hl; done) | skip
  · cases hl
    obtain ⟨v, xs, rfl, e⟩ := strip_isList h
    exact e.symm
  · cases hl
    obtain ⟨xs, rfl, e⟩ := strip_isRows h
    exact e.symm
theorem row_strip {d : Dat} {p : PD} {l : List PD} (h : strip d = p) (hl : p.row? = some l) : d.row0.map strip = l := by
  cases p <;> first | (cases hl; done) | skip
  rename_i ys
  obtain ⟨xs, rfl, e⟩ := strip_isRows h
  cases xs with
  | nil => subst e; cases hl
  | cons r xs =>
    subst e
    cases hl
    rfl
theorem int_strip {d : Dat} {p : PD} {n : Int} (h : strip d = p) (hl : p.int? = some n) : d.toInt = n := by
  cases p <;> first | (cases hl; done) | skip
  cases hl
  exact strip_isInt h
theorem bool_strip {d : Dat} {p : PD} {n : Bool} (h : strip d = p) (hl : p.bool? = some n) : d = .bool n := by
  cases p <;> first | (cases hl; done) | skip
  cases hl
  exact strip_isBool h
theorem getD_strip {α β : Type} {f : α → β} {l : List α} {m : List β} (h : l.map f = m) {i : Nat} {y : β} (hy : m[i]? = some y) (e : α) : f (l.getD i e) = y := by
  subst h
  rw [List.getElem?_map, Option.map_eq_some_iff] at hy
  obtain ⟨x, hx, rfl⟩ := hy
  rw [List.getD_eq_getElem?_getD, hx]; rfl
theorem strB_strip (l : List Nat) : strip (.val (strB l)) = .str (l.map (· % 256)) := by
  rw [strip_val]
  unfold strB stripV
  simp only [List.map_map]
  congr 1
theorem sev_ok (he : ρ.map strip = env) : ∀ {t : Tm} {p : PD}, sev Δ env t = some p → strip (den Δ ρ t) = p
  | .var i, p, h => by
    simp only [sev] at h
    exact getD_strip he h _
  | .int k n, p, h => by simp only [sev, Option.some.injEq] at h; subst h; exact strip_int _ _
  | .bool b, p, h => by simp only [sev, Option.some.injEq] at h; subst h; exact strip_bool _
  | .nili, p, h => by simp only [sev, Option.some.injEq] at h; subst h; rw [den, strip_val]; rfl
  | .ifc a, p, h => by
    simp only [sev, Option.map_eq_some_iff, Option.bind_eq_some_iff] at h
    obtain ⟨n, ⟨q, h1, h2⟩, rfl⟩ := h
    rw [den, int_strip (sev_ok he h1) h2, strip_val]; rfl
  | .str l, p, h => by simp only [sev, Option.some.injEq] at h; subst h; exact strB_strip l
  | .nil r, p, h => by simp only [sev, Option.some.injEq] at h; subst h; rw [den, strip_list]; rfl
  | .ar o k a b, p, h => by
    simp only [sev, Option.map_eq_some_iff, Option.bind_eq_some_iff] at h
    obtain ⟨n, ⟨q, h1, h2⟩, m, ⟨q', h3, h4⟩, rfl⟩ := h
    rw [den, int_strip (sev_ok he h1) h2, int_strip (sev_ok he h3) h4, strip_int]
  | .cmp c a b, p, h => by
    simp only [sev, Option.map_eq_some_iff, Option.bind_eq_some_iff] at h
    obtain ⟨n, ⟨q, h1, h2⟩, m, ⟨q', h3, h4⟩, rfl⟩ := h
    rw [den, int_strip (sev_ok he h1) h2, int_strip (sev_ok he h3) h4, strip_bool]
  | .not a, p, h => by
    simp only [sev, Option.map_eq_some_iff, Option.bind_eq_some_iff] at h
    obtain ⟨n, ⟨q, h1, h2⟩, rfl⟩ := h
    rw [den, bool_strip (sev_ok he h1) h2, strip_bool]; rfl
  | .beq a b, p, h => by
    simp only [sev, Option.map_eq_some_iff, Option.bind_eq_some_iff] at h
    obtain ⟨n, ⟨q, h1, h2⟩, m, ⟨q', h3, h4⟩, rfl⟩ := h
    rw [den, bool_strip (sev_ok he h1) h2, bool_strip (sev_ok he h3) h4, strip_bool]; rfl
  | .and a b, p, h => by
    simp only [sev, Option.map_eq_some_iff, Option.bind_eq_some_iff] at h
    obtain ⟨n, ⟨q, h1, h2⟩, m, ⟨q', h3, h4⟩, rfl⟩ := h
    rw [den, bool_strip (sev_ok he h1) h2, bool_strip (sev_ok he h3) h4, strip_bool]; rfl
  | .or a b, p, h => by
    simp only [sev, Option.map_eq_some_iff, Option.bind_eq_some_iff] at h
    obtain ⟨n, ⟨q, h1, h2⟩, m, ⟨q', h3, h4⟩, rfl⟩ := h
    rw [den, bool_strip (sev_ok he h1) h2, bool_strip (sev_ok he h3) h4, strip_bool]; rfl
  | .conv k a, p, h => by
    simp only [sev, Option.map_eq_some_iff, Option.bind_eq_some_iff] at h
    obtain ⟨n, ⟨q, h1, h2⟩, rfl⟩ := h
    rw [den, int_strip (sev_ok he h1) h2, strip_int]
  | .len a, p, h => by
    simp only [sev, Option.map_eq_some_iff, Option.bind_eq_some_iff] at h
    obtain ⟨n, ⟨q, h1, h2⟩, rfl⟩ := h
    have := xs_strip (sev_ok he h1) h2
    rw [den, strip_int, ← this, List.length_map]
  | .elem s i c t, p, h => by
    simp only [sev, Option.bind_eq_some_iff] at h
    obtain ⟨x, ⟨q, h1, h2⟩, n, ⟨q', h3, h4⟩, r, h5, h6⟩ := h
    rw [den, int_strip (sev_ok he h3) h4]
    have e := getD_strip (f := fun r : List Dat => r.map strip) (xs_strip (sev_ok he h1) h2) h5 []
    exact getD_strip e h6 _
  | .sel cs i t, p, h => by
    simp only [sev, Option.bind_eq_some_iff] at h
    obtain ⟨x, ⟨q, h1, h2⟩, n, ⟨q', h3, h4⟩, h5⟩ := h
    rw [den, int_strip (sev_ok he h3) h4]
    exact getD_strip (row_strip (sev_ok he h1) h2) h5 _
  | .ite c a b, p, h => by
    simp only [sev] at h
    split at h
    · rename_i hc
      rw [Option.bind_eq_some_iff] at hc
      obtain ⟨q, h1, h2⟩ := hc
      rw [den, bool_strip (sev_ok he h1) h2]
      exact sev_ok he h
    · rename_i hc
      rw [Option.bind_eq_some_iff] at hc
      obtain ⟨q, h1, h2⟩ := hc
      rw [den, bool_strip (sev_ok he h1) h2]
      exact sev_ok he h
    · cases h
  | .isnil a, p, h => by
    simp only [sev] at h
    split at h
    · rename_i h1
      cases h
      have := sev_ok he h1
      rw [den, strip_bool]
      generalize den Δ ρ a = d at this
      cases d with
      | int k m => rw [strip_int] at this; cases this
      | bool b => rw [strip_bool] at this; cases this
      | list v sz xs => rw [strip_list] at this; cases this
      | rows xs => rw [strip_rows] at this; cases this
      | val v =>
        rw [strip_val] at this
        unfold stripV at this
        split at this <;> first | (cases this; done) | rfl
    · rename_i n h1
      cases h
      have := sev_ok he h1
      rw [den, strip_bool]
      generalize den Δ ρ a = d at this
      cases d with
      | int k m => rw [strip_int] at this; cases this
      | bool b => rw [strip_bool] at this; cases this
      | list v sz xs => rw [strip_list] at this; cases this
      | rows xs => rw [strip_rows] at this; cases this
      | val v =>
        rw [strip_val] at this
        unfold stripV at this
        split at this <;> first | (cases this; done) | rfl
    · cases h
  | .errI a, p, h => by
    simp only [sev] at h
    split at h
    · rename_i n h1
      cases h
      have := sev_ok he h1
      rw [den, strip_int]
      generalize den Δ ρ a = d at this
      cases d with
      | int k m => rw [strip_int] at this; cases this
      | bool b => rw [strip_bool] at this; cases this
      | list v sz xs => rw [strip_list] at this; cases this
      | rows xs => rw [strip_rows] at this; cases this
      | val v =>
        rw [strip_val] at this
        unfold stripV at this
        split at this <;> first | (cases this; done) | (cases this; rfl)
    · cases h
  | .cut a l u, p, h => by
    simp only [sev] at h
    split at h
    · rename_i sz xs lo hi h1 h2 h3
      rw [Option.bind_eq_some_iff] at h2 h3
      obtain ⟨q2, h2, h4⟩ := h2
      obtain ⟨q3, h3, h5⟩ := h3
      split at h
      case isFalse => cases h
      rename_i hc
      cases h
      obtain ⟨v, ys, hd, rfl⟩ := strip_isList (sev_ok he h1)
      rw [den, int_strip (sev_ok he h2) h4, int_strip (sev_ok he h3) h5, hd]
      simp only [cutD]
      rw [if_pos, strip_list]
      · simp only [List.map_drop, List.map_take]
      · refine ⟨hc.1, by simpa using hc.2.1, ?_⟩
        have := hc.2.2
        rw [List.all_map] at this
        simpa [Function.comp] using this
    · cases h
  | .rep n row, p, h => by
    simp only [sev, Option.map_eq_some_iff, Option.bind_eq_some_iff] at h
    obtain ⟨k, ⟨q, h1, h2⟩, r, ⟨q', h3, h4⟩, rfl⟩ := h
    rw [den, int_strip (sev_ok he h1) h2, strip_rows, List.map_replicate, row_strip (sev_ok he h3) h4]
  | .enil, p, h => by simp only [sev, Option.some.injEq] at h; subst h; rw [den, strip_rows]; rfl
  | .econs a b, p, h => by
    simp only [sev, Option.map_eq_some_iff, Option.bind_eq_some_iff] at h
    obtain ⟨x, h1, r, ⟨q', h3, h4⟩, rfl⟩ := h
    rw [den, strip_rows, List.map_cons, List.map_nil, List.map_cons, sev_ok he h1, row_strip (sev_ok he h3) h4]
  | .emp, p, h => by simp only [sev, Option.some.injEq] at h; subst h; rw [den, strip_rows]; rfl
  | .push a row, p, h => by
    simp only [sev, Option.map_eq_some_iff, Option.bind_eq_some_iff] at h
    obtain ⟨x, ⟨q, h1, h2⟩, r, ⟨q', h3, h4⟩, rfl⟩ := h
    rw [den, strip_rows, List.map_append, xs_strip (sev_ok he h1) h2, List.map_cons, List.map_nil, row_strip (sev_ok he h3) h4]
  | .app a b, p, h => by
    simp only [sev, Option.map_eq_some_iff, Option.bind_eq_some_iff] at h
    obtain ⟨x, ⟨q, h1, h2⟩, r, ⟨q', h3, h4⟩, rfl⟩ := h
    rw [den, strip_rows, List.map_append, xs_strip (sev_ok he h1) h2, xs_strip (sev_ok he h3) h4]
  | .upd a i c v, p, h => by
    simp only [sev, Option.map_eq_some_iff, Option.bind_eq_some_iff] at h
    obtain ⟨x, ⟨q, h1, h2⟩, n, ⟨q', h3, h4⟩, r, h5, rfl⟩ := h
    rw [den, strip_rows, int_strip (sev_ok he h3) h4, List.map_set, xs_strip (sev_ok he h1) h2, List.map_set, sev_ok he h5]
    congr 2
    rw [← xs_strip (sev_ok he h1) h2, List.getD_eq_getElem?_getD, List.getD_eq_getElem?_getD, List.getElem?_map]
    cases (den Δ ρ a).xs[n.toNat]? <;> rfl
  | .seq _ _, p, h | .slen _, p, h | .sidx _ _, p, h | .scut _ _ _, p, h | .sapp _ _, p, h | .sof _, p, h | .sbytes _, p, h | .cap _, p, h => by simp [sev] at h
def sevs (Δ : Tab) (env : List PD) : List Tm → Option (List PD)
  | [] => some []
  | t :: l => (sev Δ env t).bind fun x => (sevs Δ env l).map (x :: ·)
theorem sevs_ok (he : ρ.map strip = env) : ∀ {ts : List Tm} {ps : List PD}, sevs Δ env ts = some ps → (ts.map (den Δ ρ)).map strip = ps
  | [], ps, h => by cases h; rfl
  | t :: l, ps, h => by
    simp only [sevs, Option.map_eq_some_iff, Option.bind_eq_some_iff] at h
    obtain ⟨x, h1, r, h2, rfl⟩ := h
    rw [List.map_cons, List.map_cons, sev_ok he h1, sevs_ok he h2]
/-- callees whose results, places aside, are told by their arguments, places aside -/
abbrev PFun := Nat → List PD → Option (List PD)
def PFun.fits (cs : PFun) (Φ : Nat → Spec) : Prop := ∀ f args rs, cs f args = some rs → ∀ ds W, ds.map strip = args → (∀ rs', rs'.map strip = rs → W rs') → Φ f ds W
/-- the slices that are lent, places aside -/
def lentE (Δ : Tab) (env : List PD) : List (Nat × Tm) → Option (List PD)
  | [] => some []
  | x :: l => ((sev Δ env x.2).bind PD.xs?).bind fun xs => (lentE Δ env l).map (.list (Δ.row x.1).length xs :: ·)
abbrev Stk := List (List PD × Tree)
/-- a tree, reckoned through: what it ends with -/
def evB (Δ : Tab) (cs : PFun) (ag : Stk → Nat → List PD → Option (List PD)) : Tree → Stk → List PD → Option (List PD)
  | .ret ts, _, env => sevs Δ env ts
  | .ite c a b, stk, env => match sev Δ env c with
    | some (.bool true) => evB Δ cs ag a stk env
    | some (.bool false) => evB Δ cs ag b stk env
    | _ => none
  | .ob c k, stk, env => match sev Δ env c with
    | some (.bool true) => evB Δ cs ag k stk env
    | _ => none
  | .loop ts _ b, stk, env => (sevs Δ env ts).bind fun vs => evB Δ cs ag b (stk ++ [(env, b)]) (env ++ vs)
  | .again l ts, stk, env => (sevs Δ env ts).bind fun vs => ag stk l vs
  | .call f ts _ k, stk, env => (sevs Δ env ts).bind fun ps => (cs f ps).bind fun rs => evB Δ cs ag k stk (env ++ rs)
  | .lend f l ts _ k, stk, env => (lentE Δ env l).bind fun e => (sevs Δ (env ++ e) ts).bind fun ps => (cs f ps).bind fun rs => evB Δ cs ag k stk (env ++ rs)
  | .share r t k, stk, env => ((sev Δ env t).bind PD.xs?).bind fun l => evB Δ cs ag k stk (env ++ [.list (Δ.row r).length l])
  | .lit r t k, stk, env => ((sev Δ env t).bind PD.xs?).bind fun l => evB Δ cs ag k stk (env ++ [.list (Δ.row r).length l])
  | .both a b, stk, env => (evB Δ cs ag a stk env).bind fun x => (evB Δ cs ag b stk env).bind fun y => if sameR x y then some x else none
  | .fail _, _, _ => none
def evL (Δ : Tab) (cs : PFun) : Nat → Stk → Tree → List PD → Option (List PD)
  | 0 => fun stk tr env => evB Δ cs (fun _ _ _ => none) tr stk env
  | n + 1 => fun stk tr env => evB Δ cs (fun stk l vs => match stk[l]? with
    | some x => evL Δ cs n (stk.take (l + 1)) x.2 (x.1 ++ vs)
    | none => none) tr stk env
def agL (Δ : Tab) (cs : PFun) : Nat → Stk → Nat → List PD → Option (List PD)
  | 0 => fun _ _ _ => none
  | n + 1 => fun stk l vs => match stk[l]? with
    | some x => evL Δ cs n (stk.take (l + 1)) x.2 (x.1 ++ vs)
    | none => none
theorem evL_eq (cs : PFun) : ∀ (n : Nat) (stk : Stk) (tr : Tree) (env : List PD), evL Δ cs n stk tr env = evB Δ cs (agL Δ cs n) tr stk env
  | 0, _, _, _ => rfl
  | n + 1, _, _, _ => rfl
theorem allS_of {Δ : Tab} : ∀ {ss : List Srt} {p : List Dat → Prop}, (∀ l, p l) → allS Δ ss p
  | [], p, h => h []
  | s :: ss, p, h => by
    cases s <;> first | exact fun n => allS_of fun l => h _ | exact fun d _ => allS_of fun l => h _
theorem lentE_ok (he : ρ.map strip = env) : ∀ {l : List (Nat × Tm)} {e : List PD} {p : List Dat → Prop}, lentE Δ env l = some e → (∀ e', e'.map strip = e → p e') → lendW Δ ρ l p
  | [], e, p, h, hp => by cases h; exact hp [] rfl
  | x :: l, e, p, h, hp => by
    simp only [lentE, Option.map_eq_some_iff, Option.bind_eq_some_iff] at h
    obtain ⟨xs, ⟨q, h1, h2⟩, r, h3, rfl⟩ := h
    intro A c
    refine lentE_ok he (p := fun e => p (_ :: e)) h3 fun e' h' => hp _ ?_
    rw [List.map_cons, h', strip_list, xs_strip (sev_ok he h1) h2]
/-- the loops around stand where the reckoning has them -/
def Fits (Δ : Tab) (cs : PFun) (rs : List PD) (n : Nat) (stk : Stk) (X : List (Inv × Nat)) : Prop :=
  stk.length = X.length ∧ ∀ (l : Nat) (x : List PD × Tree), stk[l]? = some x → ∃ I : Inv × Nat, X[l]? = some I ∧ n ≤ I.2 ∧ ∀ vs n', n' < n → evL Δ cs n' (stk.take (l + 1)) x.2 (x.1 ++ vs.map strip) = some rs → I.1 vs n'
theorem evB_ok {cs : PFun} {Φ : Nat → Spec} (hcs : cs.fits Φ) {rs : List PD} {Post : List Dat → Prop} (hP : ∀ rs', rs'.map strip = rs → Post rs') : ∀ {tr : Tree} {n : Nat} {stk : Stk} {ρ : List Dat} {env : List PD} {X : List (Inv × Nat)}, ρ.map strip = env → Fits Δ cs rs n stk X → evB Δ cs (agL Δ cs n) tr stk env = some rs → wp Δ Φ Post tr ρ X
  | .ret ts, n, stk, ρ, env, X, he, hf, h => by
    simp only [evB] at h
    exact hP _ (sevs_ok he h)
  | .ite c a b, n, stk, ρ, env, X, he, hf, h => by
    simp only [evB] at h
    split at h
    · rename_i hc
      have := strip_isBool (sev_ok he hc)
      exact ⟨fun _ => evB_ok hcs hP he hf h, fun e => (by rw [this] at e; cases e)⟩
    · rename_i hc
      have := strip_isBool (sev_ok he hc)
      exact ⟨fun e => (by rw [this] at e; cases e), fun _ => evB_ok hcs hP he hf h⟩
    · cases h
  | .ob c k, n, stk, ρ, env, X, he, hf, h => by
    simp only [evB] at h
    split at h
    · rename_i hc
      exact ⟨strip_isBool (sev_ok he hc), evB_ok hcs hP he hf h⟩
    · cases h
  | .loop ts ss b, n, stk, ρ, env, X, he, hf, h => by
    simp only [evB, Option.bind_eq_some_iff] at h
    obtain ⟨vs, h1, h2⟩ := h
    refine ⟨fun xs m => m ≤ n ∧ evL Δ cs m (stk ++ [(env, b)]) b (env ++ xs.map strip) = some rs, ⟨n, Nat.le_refl _, ?_⟩, allS_of fun xs m ⟨hm, hI⟩ => ?_⟩
    · rw [evL_eq, sevs_ok he h1]; exact h2
    · rw [evL_eq] at hI
      refine evB_ok hcs hP (by rw [List.map_append, he]) ⟨by simp [hf.1], fun l x hx => ?_⟩ hI
      rcases Nat.lt_or_ge l stk.length with hl | hl
      · rw [List.getElem?_append_left hl] at hx
        obtain ⟨I, i1, i2, i3⟩ := hf.2 l x hx
        refine ⟨I, by rw [List.getElem?_append_left (by rw [← hf.1]; exact hl)]; exact i1, Nat.le_trans hm i2, fun vs n' hn' hv => i3 vs n' (Nat.lt_of_lt_of_le hn' hm) ?_⟩
        rw [List.take_append_of_le_length (by omega)] at hv
        exact hv
      · rw [List.getElem?_append_right hl] at hx
        have hl0 : l - stk.length = 0 := by
          have := (List.getElem?_eq_some_iff.1 hx).1
          simp at this; omega
        have hle : l = stk.length := by omega
        subst hle
        simp only [Nat.sub_self, List.getElem?_cons_zero, Option.some.injEq] at hx
        subst hx
        refine ⟨((fun xs m => m ≤ n ∧ evL Δ cs m (stk ++ [(env, b)]) b (env ++ xs.map strip) = some rs), m), by rw [List.getElem?_append_right (by rw [hf.1]; exact Nat.le_refl _), hf.1, Nat.sub_self]; rfl, Nat.le_refl _, fun vs n' hn' hv => ⟨by omega, ?_⟩⟩
        rw [List.take_of_length_le (by simp)] at hv
        exact hv
  | .again l ts, n, stk, ρ, env, X, he, hf, h => by
    simp only [evB, Option.bind_eq_some_iff] at h
    obtain ⟨vs, h1, h2⟩ := h
    cases n with
    | zero => cases h2
    | succ n =>
    simp only [agL] at h2
    split at h2
    · rename_i x hx
      obtain ⟨I, i1, i2, i3⟩ := hf.2 l x hx
      simp only [wp, i1]
      refine ⟨n, by omega, i3 _ n (Nat.lt_succ_self _) ?_⟩
      rw [sevs_ok he h1]; exact h2
    · cases h2
  | .call f ts ss k, n, stk, ρ, env, X, he, hf, h => by
    simp only [evB, Option.bind_eq_some_iff] at h
    obtain ⟨ps, h1, qs, h2, h3⟩ := h
    exact hcs f ps qs h2 _ _ (sevs_ok he h1) fun rs' hrs => evB_ok hcs hP (by rw [List.map_append, he, hrs]) hf h3
  | .lend f l ts ss k, n, stk, ρ, env, X, he, hf, h => by
    simp only [evB, Option.bind_eq_some_iff] at h
    obtain ⟨e, h0, ps, h1, qs, h2, h3⟩ := h
    refine lentE_ok he h0 fun e' h' => ?_
    exact hcs f ps qs h2 _ _ (sevs_ok (by rw [List.map_append, he, h']) h1) fun rs' hrs => evB_ok hcs hP (by rw [List.map_append, he, hrs]) hf h3
  | .share r t k, n, stk, ρ, env, X, he, hf, h => by
    simp only [evB, Option.bind_eq_some_iff] at h
    obtain ⟨l, ⟨p, h1, h2⟩, h3⟩ := h
    intro A c
    refine evB_ok hcs hP ?_ hf h3
    rw [List.map_append, he, List.map_cons, List.map_nil, strip_list, xs_strip (sev_ok he h1) h2]
  | .lit r t k, n, stk, ρ, env, X, he, hf, h => by
    simp only [evB, Option.bind_eq_some_iff] at h
    obtain ⟨l, ⟨p, h1, h2⟩, h3⟩ := h
    intro A
    refine evB_ok hcs hP ?_ hf h3
    rw [List.map_append, he, List.map_cons, List.map_nil, strip_list, xs_strip (sev_ok he h1) h2]
  | .both a b, n, stk, ρ, env, X, he, hf, h => by
    simp only [evB, Option.bind_eq_some_iff] at h
    obtain ⟨x, h1, y, h2, h3⟩ := h
    split at h3
    · rename_i hs
      cases h3
      have := sameR_ok hs
      subst this
      exact ⟨evB_ok hcs hP he hf h1, evB_ok hcs hP he hf h2⟩
    · cases h3
  | .fail _, n, stk, ρ, env, X, he, hf, h => by cases h
end
/-- what a function answers, places aside, hangs on its arguments, places aside -/
def psp (g : List PD → Option (List PD)) : Spec := fun ds Q => ∃ rs, g (ds.map strip) = some rs ∧ ∀ rs', rs'.map strip = rs → Q rs'
def pfun : List (Nat × (List PD → Option (List PD))) → PFun
  | [], _, _ => none
  | x :: l, f, ps => if x.1 = f then x.2 ps else pfun l f ps
theorem pfun_fits {Φ : Nat → Spec} : ∀ {l : List (Nat × (List PD → Option (List PD)))}, (∀ x ∈ l, Φ x.1 = psp x.2) → (pfun l).fits Φ
  | [], _ => fun f args rs h => by cases h
  | x :: l, hl => fun f args rs h ds W hd hW => by
    simp only [pfun] at h
    split at h
    · rename_i e
      subst e
      rw [hl x (by simp)]
      exact ⟨rs, by rw [hd]; exact h, hW⟩
    · exact pfun_fits (fun y hy => hl y (by simp [hy])) f args rs h ds W hd hW
/-- a function that is reckoned through -/
theorem con_ev {E : Env} (hW : E.Wf) (hmix : E.P.follows .mixedOrders = true) (hγ : E.γ = []) (T : List (Con E)) {ns : List (Nat × Sig)} (hn : names T = ns) {f : Nat} {sg : Sig} {tr : Tree} (hT : walk E.cx (sgsN ns) 0 f sg = tr) (hsg : sg.ok = true) {cs : PFun} (hcs : cs.fits (specC T)) (fuel : Nat) :
    Holds E f sg (psp fun ps => evL E.Δ cs fuel [] tr ps) := by
  subst hn
  have hT' : walk E.cx (sgsN (names T)) E.γ.length f sg = tr := by rw [hγ]; exact hT
  refine walk_ok hW hmix (sgsN_con T) hT' hsg fun ds Q hs ⟨rs, h1, h2⟩ => ?_
  rw [hγ]
  replace h1 : evL E.Δ cs fuel [] tr (ds.map strip) = some rs := h1
  rw [evL_eq] at h1
  exact evB_ok hcs h2 rfl ⟨rfl, fun l x h => by cases h⟩ h1
theorem fits_cons {Φ : Nat → Spec} {k : Nat} {g : List PD → Option (List PD)} {l : List (Nat × (List PD → Option (List PD)))} (h : Φ k = psp g) (t : (pfun l).fits Φ) : (pfun ((k, g) :: l)).fits Φ := fun f args rs h' ds W hd hW => by
  simp only [pfun] at h'
  split at h'
  · rename_i e
    subst e
    rw [h]
    exact ⟨rs, by rw [hd]; exact h', hW⟩
  · exact t f args rs h' ds W hd hW
theorem fits_nil {Φ : Nat → Spec} : (pfun []).fits Φ := fun f args rs h => by cases h
theorem holds_or {E : Env} {f : FuncId} {sg : Sig} {Φ Ψ : Spec} (h1 : Holds E f sg Φ) (h2 : Holds E f sg Ψ) : Holds E f sg (fun ds Q => Φ ds Q ∨ Ψ ds Q) := fun w ds Q a b c d h => h.elim (h1 w ds Q a b c d) (h2 w ds Q a b c d)
theorem holds_mono {E : Env} {f : FuncId} {sg : Sig} {Φ Ψ : Spec} (h1 : Holds E f sg Φ) (h2 : ∀ ds Q, All2 (Has E.Δ) (Sig.sorts sg.params) ds → Ψ ds Q → Φ ds Q) : Holds E f sg Ψ := fun w ds Q a b c d h => h1 w ds Q a b c d (h2 ds Q a h)
/-- arguments that are known -/
theorem con_at {E : Env} (hW : E.Wf) (hmix : E.P.follows .mixedOrders = true) (hγ : E.γ = []) (T : List (Con E)) {ns : List (Nat × Sig)} (hn : names T = ns) {f : Nat} {sg : Sig} (hsg : sg.ok = true) {Ψ : Spec}
    (h : ∀ Φ : Nat → Spec, Φ = specC T → ∀ ds Q, All2 (Has E.Δ) (Sig.sorts sg.params) ds → Ψ ds Q → ∃ ps : List (Tm × Srt), sg.params = (ps.map fun p => (false, [p.2])) ∧ (∀ p ∈ ps, Has E.Δ p.2 (den E.Δ [] p.1) ∧ p.1.bnd 0 = true ∧ p.2.one = true) ∧ ds = (ps.map fun p => den E.Δ [] p.1) ∧ wp E.Δ Φ Q (walkAt E.cx (sgsN ns) 0 f sg ps) ds []) : Holds E f sg Ψ := by
  subst hn
  intro w ds Q hs hok hγ' hG hΨ
  obtain ⟨ps, h1, h2, h3, h4⟩ := h _ rfl ds Q hs hΨ
  refine walkAt_ok hW hmix (sgsN_con T) hsg h1 h2 h3 ?_ hok hγ' hG
  rw [hγ]; exact h4
end Go.Proofs.YtihhbofjpidmpaaDoor
end

section
namespace Go.Proofs.YtihhbofjpidmpaaDoor
open Go.RowKit Go.Maps
set_option linter.unusedVariables false
set_option linter.unusedSimpArgs false

namespace dk
abbrev TM : TypeId := 45
abbrev TI : TypeId := 3
theorem keyI : Keyed Tryd.prog TI := int_keyed Tryd.underlying3
theorem zeroI (w : World) : (zeroValue TI).run Tryd.prog w = .ok (.int .i64 0) w := by kernel_rfl
theorem at_cell9 {w wr : World} {A : Option Addr} {n k : Nat} {xs : List Value} {u : Value} (h : At w A n xs) (hk : k < n) (hu : xs[k]? = some u) (hb : Below w.heap.size w wr) :
    ∃ ad, A = some ad ∧ wr.cell? (ad.add k) = some u ∧ ∀ x : Later wr, (later wr x).cell? (ad.add k) = some u := by
  obtain ⟨ad, e, hlt, hc⟩ := h (by omega)
  have h1 : wr.cell? (ad.add k) = some u := by
    rw [hb.cell (p := ad.add k) (by rw [block_add]; exact hlt)]
    exact hc k _ hu
  refine ⟨ad, e, h1, fun x => ?_⟩
  rw [later_cell' (p := ad.add k) (by rw [block_add]; exact Nat.lt_of_lt_of_le hlt hb.size)]
  exact h1
theorem at_int9 {w wr : World} {A : Option Addr} {n k : Nat} {l : List Int} (h : At w A n (i64s l)) (hl : l.length = n) (hk : k < n) (hb : Below w.heap.size w wr) :
    ∃ ad, A = some ad ∧ wr.cell? (ad.add k) = some (.int .i64 (l[k]'(by omega))) ∧ ∀ x : Later wr, (later wr x).cell? (ad.add k) = some (.int .i64 (l[k]'(by omega))) :=
  at_cell9 h hk (by simp only [i64s, List.getElem?_map]; rw [List.getElem?_eq_getElem (by omega)]; rfl) hb
abbrev num64 (n : Int) : DataW Unit := .lit (.int .i64 n)
/-- the map reads as the counts of a list -/
structure Cnt (l : List Int) (D : DataW Unit) : Prop where
  atk : ∀ x : Int, D.atKey (.int .i64 x) (num64 0) = num64 (l.count x)
  hask : ∀ x : Int, Maps.has D (.int .i64 x) = decide (x ∈ l)
theorem Cnt.nil : Cnt [] (.map []) := ⟨fun x => rfl, fun x => rfl⟩
theorem Cnt.step {l : List Int} {D : DataW Unit} (h : Cnt l D) (hm : IsMap D) (x : Int) {c : Int} (hc : c = l.count x + 1) : Cnt (l ++ [x]) (D.put (.int .i64 x) (num64 c)) := by
  refine ⟨fun y => ?_, fun y => ?_⟩
  · by_cases e : y = x
    · subst e
      rw [atKey_put_same (k := .int .i64 y) hm trivial, hc, List.count_append, List.count_cons_self, List.count_nil]
      congr 2
    · rw [atKey_put_other (by intro hx; cases hx; exact e rfl), h.atk y, List.count_append, List.count_cons_of_ne (Ne.symm e), List.count_nil]
      rfl
  · by_cases e : y = x
    · subst e
      rw [has_put_same (k := .int .i64 y) hm trivial]
      simp
    · rw [has_put_other (by intro hx; cases hx; exact e rfl), h.hask y]
      simp [e]
def errA (n : Int) : Value := if n = 0 then .nilIface else .iface 43 (.int .i64 n)
def deckN (l : List Int) : Int := if 100 < l.length then 19 else if ∃ x ∈ l, x < 0 ∨ 112 ≤ x then 4 else if ∃ x ∈ l, 5 ≤ x ∧ 4 < l.count x then 8 else 0
theorem deck_long (A : Option Addr) (n c : Nat) (w : World) (h : 100 < n) : Calls Tryd.prog 6 #[.slice A n c] w fun e w' => e = .returned (.iface 43 (.int .i64 19)) ∧ w = w' := by
  go_enter Tryd.func6, Tryd.ntmps6
  go_wp2
  go_ret
  exact ⟨rfl, rfl⟩
set_option maxRecDepth 100000 in
theorem deck_any (A : Option Addr) (n c : Nat) (l : List Int) (w : World) (ha : At w A n (i64s l)) (hla : l.length = n) (hc : n ≤ c) (hn : n ≤ 100) (hwf : ∀ x ∈ l, (Lit.int .i64 x).wf = true) :
    Calls Tryd.prog 6 #[.slice A n c] w fun e w' => e = .returned (errA (deckN l)) ∧ Below w.heap.size w w' := by
  have hmm := @run_makeMap Tryd.prog
  have HA := Lib.hid ha
  have HLA := Lib.hid hla
  have HWF := Lib.hid hwf
  clear ha hla hwf
  go_enter Tryd.func6, Tryd.ntmps6
  go_wp2
  go_loopw [15] (fun iv wr => ∃ (k : Nat) (D : DataW Unit), k ≤ n ∧ iv = .int .i64 k ∧ (∀ x ∈ l.take k, 0 ≤ x ∧ x < 112) ∧ Cnt (l.take k) D ∧ wr.ownsMap Tryd.prog TI (plainElem Tryd.prog TI) w.heap.size k D ∧ Below w.heap.size w wr) (fun iv _ => n - (intOf iv).toNat)
  case atStart => exact ⟨0, .map [], by omega, rfl, fun x hx => by simp at hx, by rw [List.take_zero]; exact Cnt.nil, World.ownsMap_made _ _ _ _, (Below.refl _ _).alloc (Nat.le_refl _) _⟩
  case round =>
    obtain ⟨k, D, hk, rfl, hall, hcnt, hown, hbr⟩ := hrel
    have HALL := Lib.hid hall
    have HCNT := Lib.hid hcnt
    have HOWN := Lib.hid hown
    have HBR := Lib.hid hbr
    clear hall hcnt hown hbr
    by_cases hlt : k < n
    · obtain ⟨ad, rfl, hcell, _⟩ := at_int9 HA.out HLA.out hlt HBR.out
      have hk1 : k < l.length := by have := HLA.out; omega
      have HWX := Lib.hid (HWF.out _ (List.getElem_mem hk1))
      have HX := Lib.hid (rfl : l[k] = l[k])
      have HTK : Hid (l.take (k + 1) = l.take k ++ [l[k]]) := Lib.hid (List.take_succ_eq_append_getElem hk1)
      have HM : Hid (l[k] ∈ l) := Lib.hid (List.getElem_mem hk1)
      generalize l[k] = x at *
      by_cases hx : x < 0 ∨ 112 ≤ x
      · have hd : deckN l = 4 := by
          unfold deckN
          rw [if_neg (by have := HLA.out; omega), if_pos ⟨x, HM.out, hx⟩]
        have HD := Lib.hid hd
        clear hd
        rcases hx with hx | hx
        · go_wp2
          go_ret
          refine ⟨?_, HBR.out⟩
          rw [HD.out]; rfl
        · have hx0 : ¬ x < 0 := by omega
          go_wp2
          go_ret
          refine ⟨?_, HBR.out⟩
          rw [HD.out]; rfl
      · have hx0 : ¬ x < 0 := by omega
        have hx1 : ¬ 112 ≤ x := by omega
        have HK := Lib.hid (keyOf_int_mk (P := Tryd.prog) Tryd.underlying3 HWX.out)
        go_wp2_with (first
          | (at_lookup; refine wpList_lookup_own_int _ rfl _ _ TM rfl TI TI .i64 keyI Tryd.underlying45 Tryd.underlying3 (zeroI _) w.heap.size k D rfl HOWN.out _ _ rfl HK.out ?_; intro c0 hat hwc)
          | (at_mapUpdate; refine wpList_mapUpdate_own _ rfl _ _ _ TM rfl TI TI keyI Tryd.underlying45 _ w.heap.size k _ rfl HOWN.out (by unfold maxLen; omega) _ _ _ rfl rfl HK.out _ [] (plainElem_int Tryd.underlying3 (wrap64_wf _)) ?_; intro w1 hown1 hgrow1)
          | fail)
        have hcx : num64 ((l.take k).count x) = num64 c0 := (HCNT.out.atk x).symm.trans hat
        have hcx : (((l.take k).count x : Nat) : Int) = c0 := by
          have := DataW.lit.inj hcx
          cases this; rfl
        have hle : (l.take k).count x ≤ k := Nat.le_trans List.count_le_length (by rw [List.length_take]; omega)
        have hwr : Go.RowKit.wrap64 (c0 + 1) = (l.take k).count x + 1 := by
          rw [show Go.RowKit.wrap64 (c0 + 1) = IntKind.i64.wrap (c0 + 1) by rw [IntKind.wrap_i64, Go.RowKit.wrap64], IntWalk.i64_in _ (by omega)]
          omega
        rw [hwr] at hown1
        refine ⟨⟨k + 1, _, by omega, by go_num, fun y hy => ?_, ?_, hown1, HBR.out.grown hgrow1 HBR.out.size (fun j hj => by cases hj; exact Nat.le_refl _)⟩, by simp [intOf]; omega⟩
        · rw [HTK.out] at hy
          rcases List.mem_append.1 hy with hy | hy
          · exact HALL.out y hy
          · rw [List.mem_singleton.1 hy]; omega
        · rw [HTK.out]
          exact HCNT.out.step HOWN.out.isMap x rfl
    · have hkn : k = n := by omega
      have hfull : l.take k = l := List.take_of_length_le (by have := HLA.out; omega)
      have HFULL := Lib.hid hfull
      clear hfull
      have HALL2 : Hid (∀ y ∈ l, 0 ≤ y ∧ y < 112) := Lib.hid (by have := HALL.out; rw [HFULL.out] at this; exact this)
      have HCNT2 : Hid (Cnt l D) := Lib.hid (by have := HCNT.out; rw [HFULL.out] at this; exact this)
      go_wp2_with (first
        | (at_range; refine wpList_range_own _ rfl _ TM rfl TI TI keyI Tryd.underlying45 _ w.heap.size k D rfl HOWN.out ?_; intro w0 hrg0 hg0 hs0)
        | fail)
      go_frame
      go_loopw [33] (fun _ wr2 => ∃ (left : Lit → Bool) (cnt : Nat), wr2.ranges Tryd.prog TI (plainElem Tryd.prog TI) w.heap.size wr.heap.size k D left cnt ∧ (∀ y ∈ l, left (.int .i64 y) = false → ¬ (5 ≤ y ∧ 4 < l.count y)) ∧ Below w.heap.size w wr2) (fun _ wr2 => wr2.rangeLeft w.heap.size wr.heap.size)
      case atStart =>
        refine ⟨_, _, hrg0, fun y hy hf => ?_, HBR.out.grown hg0 HBR.out.size (fun j hj => by cases hj)⟩
        rw [HCNT2.out.hask y, decide_eq_true hy] at hf
        cases hf
      case round =>
        obtain ⟨left, cnt, hrg, hleft, hb2⟩ := hrel
        have HLEFT := Lib.hid hleft
        have HB2 := Lib.hid hb2
        clear hleft hb2
        go_wp2_with (first
          | (at_next; refine wpList_next_ranges_ii _ rfl _ rfl TI TI .i64 .i64 keyI Tryd.underlying3 Tryd.underlying3 w.heap.size _ k _ _ _ rfl hrg ?_ ?_)
          | fail)
        · intro _ hl0
          have hd : deckN l = 0 := by
            unfold deckN
            rw [if_neg (by have := HLA.out; omega), if_neg (fun ⟨y, hy, h⟩ => by have := HALL2.out y hy; omega), if_neg (fun ⟨y, hy, h⟩ => HLEFT.out y hy (hl0 _) h)]
          have HD := Lib.hid hd
          clear hd
          go_wp2
          go_ret
          refine ⟨?_, HB2.out⟩
          rw [HD.out]; rfl
        · intro y cy w1 cnt1 hwx hwc hlx hat hrg1 hlt1 hg1 hs1 hen
          have hcy : cy = l.count y := by
            have h1 := HCNT2.out.atk y
            rw [hat] at h1
            have := DataW.lit.inj h1
            cases this; rfl
          have HCY := Lib.hid hcy
          have HAT := Lib.hid hat
          have HRG1 := Lib.hid hrg1
          have HRG := Lib.hid hrg
          have HB3 := Lib.hid (HB2.out.grown hg1 HB2.out.size (fun j hj => by cases hj; exact HBR.out.size))
          clear hcy hat hrg1 hrg
          by_cases h5 : 5 ≤ y
          · by_cases h4 : 4 < cy
            · have hd : deckN l = 8 := by
                unfold deckN
                have hp : 4 < l.count y := by have := HCY.out; omega
                rw [if_neg (by have := HLA.out; omega), if_neg (fun ⟨z, hz, h⟩ => by have := HALL2.out z hz; omega), if_pos ⟨y, List.count_pos_iff.1 (by omega), h5, hp⟩]
              have HD := Lib.hid hd
              clear hd
              go_wp2
              go_ret
              refine ⟨?_, HB3.out⟩
              rw [HD.out]; rfl
            · go_wp2
              refine ⟨⟨_, ⟨_, HRG1.out⟩, fun z hz hf hz5 => ?_, HB3.out⟩, by rw [HRG1.out.left_eq, HRG.out.left_eq]; exact hlt1⟩
              by_cases e : z = y
              · subst e
                have := HCY.out
                omega
              · have hs : (Lit.int IntKind.i64 z).sameKey (.int .i64 y) = false := by simp [Lit.sameKey, e]
                rw [hs, Bool.not_false, Bool.and_true] at hf
                have := HLEFT.out z hz hf
                omega
          · go_wp2
            refine ⟨⟨_, ⟨_, HRG1.out⟩, fun z hz hf hz5 => ?_, HB3.out⟩, by rw [HRG1.out.left_eq, HRG.out.left_eq]; exact hlt1⟩
            by_cases e : z = y
            · subst e
              have := HCY.out
              omega
            · have hs : (Lit.int IntKind.i64 z).sameKey (.int .i64 y) = false := by simp [Lit.sameKey, e]
              rw [hs, Bool.not_false, Bool.and_true] at hf
              have := HLEFT.out z hz hf
              omega
end dk
end Go.Proofs.YtihhbofjpidmpaaDoor
end

section
namespace Go.Proofs.YtihhbofjpidmpaaDoor
open Go.RowKit
set_option linter.unusedVariables false
set_option linter.unusedSimpArgs false

/-- the numbers of rows of one cell -/
def nums (l : List (List Dat)) : List Int := l.map fun r => rowI r 0
theorem nums_len (l : List (List Dat)) : (nums l).length = l.length := List.length_map _
theorem nums_get {l : List (List Dat)} {i : Nat} (h : i < l.length) : (nums l)[i]? = some (rowI (l.getD i []) 0) := by
  rw [nums, List.getElem?_map, List.getD_eq_getElem?_getD, List.getElem?_eq_getElem h]; rfl
theorem int_rows {A : Option Addr} {n c sz : Nat} {xs : List (List Dat)} (h : Has E0.Δ (.list 3) (.list (.slice A n c) sz xs)) : xs = (nums xs).map fun n => [Dat.int .i64 n] := by
  cases h with
  | list r A n c xs hl hh =>
    clear n c A
    induction xs with
    | nil => rfl
    | cons x xs ih =>
      have e := ih (fun r hr => hl r (List.mem_cons_of_mem _ hr)) (fun r hr => hh r (List.mem_cons_of_mem _ hr))
      have hx := hh x List.mem_cons_self
      have hlx : x.length = 1 := hl x List.mem_cons_self
      match x, hlx with
      | [d], _ =>
        have hd : Has E0.Δ (.int .i64) d := hx 0 _ d rfl rfl
        cases hd with
        | int k n =>
          show _ :: xs = _ :: (nums xs).map _
          rw [← e]; rfl
theorem flat_ints (l : List Int) : flatV (l.map fun n => [Dat.int .i64 n]) = i64s l := by
  induction l with
  | nil => rfl
  | cons a l ih =>
    unfold flatV i64s at ih ⊢
    rw [List.map_cons, List.flatten_cons, List.map_append, ih]; rfl
def in64s (l : List Int) : Prop := ∀ x ∈ l, (Lit.int .i64 x).wf = true
theorem errV_toV (n : Int) : (errV n).toV = dk.errA n := by
  unfold errV dk.errA
  split <;> rfl
theorem errV_has (n : Int) : Has E0.Δ .err (errV n) := by
  unfold errV
  split
  · exact .nili
  · exact .ifc n
def k_tDeck : Nat := 6
def sg_tDeck : Sig := ⟨[(false, [.list 3])], [(false, [.err])], false, false, false, false, false⟩
noncomputable def tr_tDeck : Tree := walk E0.cx (sgsN []) 0 6 sg_tDeck
theorem wk_tDeck : walk E0.cx (sgsN []) 0 6 sg_tDeck = tr_tDeck := rfl
theorem bo_tDeck : ∃ x, bodyOf E0.P 6 = some x := bo_of (by kernel_rfl)
def tDeck_s : Spec := fun ds Q => in64s (nums (argL ds 0)) ∧ Q [errV (dk.deckN (nums (argL ds 0)))]
theorem tDeck_h : Holds E0 k_tDeck sg_tDeck tDeck_s := fun w ds Q h1 h2 h3 h4 ⟨hin, h⟩ => by
  cases h1 with
  | cons hd hs =>
  cases hs
  have hok := h2 _ (List.mem_cons_self ..)
  cases hd with
  | list r A n c xs hl hh =>
  have hx := int_rows (Has.list (Δ := E0.Δ) 3 A n c xs hl hh)
  cases hok with
  | list v sz xs hr hrows =>
  obtain ⟨A', c', e, hc, hlen, hat⟩ := hr
  cases e
  have hnx : (nums xs).length = xs.length := nums_len xs
  have e1 : argL [Dat.list (.slice A xs.length c) (E0.Δ.row 3).length xs] 0 = xs := rfl
  rw [e1] at hin h
  have hat2 : At w A xs.length (i64s (nums xs)) := by
    rw [← flat_ints, ← hx]; exact hat
  have fin : ∀ e w', e = Ending.returned (dk.errA (dk.deckN (nums xs))) → Below w.heap.size w w' → Ends E0 sg_tDeck w w' (fun k => AtL [Dat.list (.slice A xs.length c) (E0.Δ.row 3).length xs] k ∨ AtL E0.γ k) Q e := fun e w' he hb => by
    refine ⟨_, h, .cons (errV_has _) .nil, hb, fun d hd => by rw [List.mem_singleton.1 hd]; unfold errV; split <;> exact .val _, fun k ⟨d, hd, hk⟩ => ?_, ?_⟩
    · rw [List.mem_singleton.1 hd] at hk
      unfold errV at hk
      split at hk <;> cases hk
    · show (if false = true then _ else _)
      rw [if_neg Bool.false_ne_true, he, ← errV_toV]; rfl
  by_cases h100 : 100 < xs.length
  · refine (dk.deck_long A xs.length c w h100).mono fun e w' ⟨he, hw⟩ => ?_
    subst hw
    refine fin e w ?_ (Below.refl _ _)
    rw [he]
    unfold dk.deckN
    rw [if_pos (by omega)]; rfl
  · exact (dk.deck_any A xs.length c (nums xs) w hat2 hnx hc (by omega) hin).mono fun e w' ⟨he, hb⟩ => fin e w' he hb
noncomputable def con_tDeck : Con E0 := ⟨k_tDeck, sg_tDeck, tDeck_s, rfl, bo_tDeck, tDeck_h⟩
theorem num_at {l : List (List Dat)} {i : Nat} (h : i < l.length) : rowI (l.getD i []) 0 = (nums l).getD i 0 := by
  rw [List.getD_eq_getElem?_getD (l := nums l), nums_get h]; rfl
def k_rDeck : Nat := 7
def sg_rDeck : Sig := ⟨[(false, [.list 3])], [(false, [.int .i64])], false, false, true, false, false⟩
def tr_rDeck : Tree := (.ite (.cmp .gt (.len (.var 0)) (.int .i64 100))
 (.ret [(.int .i64 19)])
 (.loop [(.int .i64 0), (.int .i64 0)] [(.int .i64), (.int .i64)]
  (.ite (.cmp .lt (.var 2) (.len (.var 0)))
   (.ob (.cmp .ge (.var 2) (.int .i64 0))
   (.ite (.or (.cmp .lt (.elem (.var 0) (.var 2) 0 (.int .i64)) (.int .i64 0)) (.cmp .gt (.elem (.var 0) (.var 2) 0 (.int .i64)) (.int .i64 111)))
    (.ret [(.int .i64 4)])
    (.again 0 [(.var 1), (.ar .add .i64 (.var 2) (.int .i64 1))])))
   (.loop [(.var 1), (.int .i64 0)] [(.int .i64), (.int .i64)]
    (.ite (.cmp .lt (.var 4) (.len (.var 0)))
     (.ob (.cmp .ge (.var 4) (.int .i64 0))
     (.loop [(.int .i64 0), (.int .i64 0)] [(.int .i64), (.int .i64)]
      (.ite (.cmp .lt (.var 6) (.len (.var 0)))
       (.ob (.cmp .ge (.var 6) (.int .i64 0))
       (.again 2 [(.ite (.cmp .eq (.elem (.var 0) (.var 6) 0 (.int .i64)) (.elem (.var 0) (.var 4) 0 (.int .i64))) (.ar .add .i64 (.var 5) (.int .i64 1)) (.var 5)), (.ar .add .i64 (.var 6) (.int .i64 1))]))
       (.ite (.and (.cmp .ge (.elem (.var 0) (.var 4) 0 (.int .i64)) (.int .i64 5)) (.cmp .gt (.var 5) (.int .i64 4)))
        (.ret [(.int .i64 8)])
        (.again 1 [(.var 3), (.ar .add .i64 (.var 4) (.int .i64 1))])))))
     (.ret [(.int .i64 0)]))))))
theorem wk_rDeck : walk E0.cx (sgsN []) 0 7 sg_rDeck = tr_rDeck := by kernel_rfl
theorem bo_rDeck : ∃ x, bodyOf E0.P 7 = some x := bo_of (by kernel_rfl)
def rDeck_s : Spec := fun ds Q => (argL ds 0).length ≤ 1000000 ∧ Q [.int .i64 (dk.deckN (nums (argL ds 0)))]
theorem rDeck_h : Holds E0 k_rDeck sg_rDeck rDeck_s := con_fn wf0 mix0 g0 [] rfl wk_rDeck rfl (by
  intro Φ hΦ ds Q hs ⟨hlen, h⟩
  have hl : ds.length = 1 := hs.length.symm
  clear hΦ
  have hnl : (nums (argL ds 0)).length = (argL ds 0).length := nums_len _
  have hat : ∀ i, i < (argL ds 0).length → rowI ((argL ds 0).getD i []) 0 = (nums (argL ds 0)).getD i 0 := fun i hi => num_at hi
  simp only [tr_rDeck, wp, den_int, den_bool, den_nili, den_ar, den_cmp, den_not, den_len, den_elem, den_isnil, den_errI, den_ifc, den_rep, den_push, den_app, den_emp, den_upd, row0_econs, row0_enil, den_and, den_beq, den_nil, toInt_int, toBool_bool, xs_rows, xs_list, dflt_int, dflt_bool, of_eq, of_ne, of_lt, of_le, of_gt, of_ge, of_add, of_sub, of_rem, List.map_cons, List.map_nil, Dat.bool.injEq, decide_eq_true_eq, decide_eq_false_iff_not, Bool.not_eq_true', Bool.not_eq_false', beq_iff_eq, bne_iff_ne, beq_eq_false_iff_ne, bne_eq_false_iff_eq, ne_eq, List.append_assoc, List.cons_append, List.nil_append, allS, @den_var0 E0.Δ ds, den_varA, den_varB, hl, Nat.reduceLT, Nat.reduceLeDiff, Nat.reduceSub, List.getD_cons_zero, List.getD_cons_succ, argL_fold ds, argI_fold ds, List.append_assoc, List.cons_append, List.nil_append, toInt_int, toBool_bool, xs_rows, xs_list, Int.toNat_natCast, Dat.bool.injEq, dflt_int, toInt_getD, den_or, den_ite, List.getElem?_cons_zero, List.getElem?_cons_succ]
  generalize hL : nums (argL ds 0) = L at *
  refine ⟨fun h100 => ?_, fun h100 => ?_⟩
  · unfold dk.deckN at h
    rw [if_pos (by omega)] at h
    exact h
  refine ⟨fun xs m => ∃ (z : Int) (k : Nat), k ≤ (argL ds 0).length ∧ m = (argL ds 0).length - k ∧ xs = [.int .i64 z, .int .i64 k] ∧ ∀ y ∈ L.take k, 0 ≤ y ∧ y < 112, ⟨_, 0, 0, by omega, rfl, rfl, by simp⟩, ?_⟩
  intro z1 n1 m ⟨z, k, hk, hm, e, hall⟩
  obtain ⟨rfl, rfl⟩ : z1 = z ∧ n1 = (k : Int) := by simpa using e
  subst hm
  refine ⟨fun hlt => ⟨by omega, ?_⟩, fun hge => ?_⟩
  · have hk2 : k < (argL ds 0).length := by omega
    rw [Int.toNat_natCast, hat k hk2]
    refine ⟨fun hb => ?_, fun hb => ⟨_, (by omega : (argL ds 0).length - (k + 1) < _), z1, k + 1, by omega, rfl, by rw [wrap64 (by omega) (by omega)]; rfl, ?_⟩⟩
    · rw [Bool.or_eq_true, decide_eq_true_eq, decide_eq_true_eq] at hb
      unfold dk.deckN at h
      rw [if_neg (by omega), if_pos ⟨L.getD k 0, getD_memL (by omega), by omega⟩] at h
      exact h
    · rw [Bool.or_eq_false_iff, decide_eq_false_iff_not, decide_eq_false_iff_not] at hb
      intro y hy
      rw [take_succ_getD (d := 0) (by omega), List.mem_append, List.mem_singleton] at hy
      rcases hy with hy | hy
      · exact hall y hy
      · rw [hy]; omega
  have hk3 : k = (argL ds 0).length := by omega
  rw [hk3, ← hnl, List.take_length] at hall
  refine ⟨fun xs m => ∃ (z : Int) (k : Nat), k ≤ (argL ds 0).length ∧ m = (argL ds 0).length - k ∧ xs = [.int .i64 z, .int .i64 k] ∧ ∀ y ∈ L.take k, ¬ (5 ≤ y ∧ 4 < L.count y), ⟨_, z1, 0, by omega, rfl, rfl, by simp⟩, ?_⟩
  intro z2 n2 m2 ⟨z', k', hk', hm2, e2, hall2⟩
  obtain ⟨rfl, rfl⟩ : z2 = z' ∧ n2 = (k' : Int) := by simpa using e2
  subst hm2
  refine ⟨fun hlt => ⟨by omega, ?_⟩, fun hge => ?_⟩
  · have hk2 : k' < (argL ds 0).length := by omega
    rw [Int.toNat_natCast, hat k' hk2]
    refine ⟨fun xs m => ∃ j : Nat, j ≤ (argL ds 0).length ∧ m = (argL ds 0).length - j ∧ xs = [.int .i64 ((L.take j).count (L.getD k' 0) : Nat), .int .i64 j], ⟨_, 0, by omega, rfl, by simp⟩, ?_⟩
    intro z3 n3 m3 ⟨j, hj, hm3, e3⟩
    obtain ⟨rfl, rfl⟩ : z3 = ((L.take j).count (L.getD k' 0) : Nat) ∧ n3 = (j : Int) := by simpa using e3
    subst hm3
    have hcl : (L.take j).count (L.getD k' 0) ≤ j := Nat.le_trans List.count_le_length (by rw [List.length_take]; omega)
    refine ⟨fun hlt3 => ⟨by omega, _, (by omega : (argL ds 0).length - (j + 1) < _), j + 1, by omega, rfl, ?_⟩, fun hge3 => ?_⟩
    · have hj2 : j < (argL ds 0).length := by omega
      rw [Int.toNat_natCast, hat j hj2, wrap64 (x := (j : Int) + 1) (by omega) (by omega)]
      rw [take_succ_getD (d := 0) (by omega), List.count_append, List.count_singleton]
      by_cases hx : L.getD j 0 = L.getD k' 0
      · rw [if_pos (by simpa using hx), if_pos (by simpa using hx), wrap64 (by omega) (by omega)]; rfl
      · rw [if_neg (by simpa using hx), if_neg (by simpa using hx)]; rfl
    · have hj3 : j = (argL ds 0).length := by omega
      have htj : L.take j = L := List.take_of_length_le (by omega)
      rw [htj]
      refine ⟨fun hb => ?_, fun hb => ⟨_, (by omega : (argL ds 0).length - (k' + 1) < _), z2, k' + 1, by omega, rfl, by rw [wrap64 (by omega) (by omega)]; rfl, ?_⟩⟩
      · rw [Bool.and_eq_true, decide_eq_true_eq, decide_eq_true_eq] at hb
        unfold dk.deckN at h
        rw [if_neg (by omega), if_neg (fun ⟨y, hy, hx⟩ => by have := hall y hy; omega), if_pos ⟨L.getD k' 0, getD_memL (by omega), by omega⟩] at h
        exact h
      · rw [Bool.and_eq_false_iff, decide_eq_false_iff_not, decide_eq_false_iff_not] at hb
        intro y hy
        rw [take_succ_getD (d := 0) (by omega), List.mem_append, List.mem_singleton] at hy
        rcases hy with hy | hy
        · exact hall2 y hy
        · rw [hy]; omega
  · have hk4 : k' = (argL ds 0).length := by omega
    rw [hk4, ← hnl, List.take_length] at hall2
    unfold dk.deckN at h
    rw [if_neg (by omega), if_neg (fun ⟨y, hy, hx⟩ => by have := hall y hy; omega), if_neg (fun ⟨y, hy, hx⟩ => hall2 y hy hx)] at h
    exact h)
noncomputable def con_rDeck : Con E0 := ⟨k_rDeck, sg_rDeck, rDeck_s, rfl, bo_rDeck, rDeck_h⟩
end Go.Proofs.YtihhbofjpidmpaaDoor
end

section
namespace Go.Proofs.YtihhbofjpidmpaaDoor
open Go.RowKit
def ef (op n m who : Int) (subs : List (List PD)) : List PD := [.int op, .int n, .int m, .int who, .list 5 subs]
def ab (w : Int) (cost : List Int) (tap : Bool) (target : Int) (e : List PD) : List PD := .int w :: (cost.map .int ++ (.bool tap :: .int target :: e))
def cd (kind col : Int) (fast : Bool) (cost : List Int) (p t s : Int) (abs : List (List PD)) : List PD := .int kind :: .int col :: .bool fast :: (cost.map .int ++ [.int p, .int t, .int s, .list 14 abs])
def irow (l : List Int) : List (List PD) := l.map fun n => [.int n]
def irows (l : List (List Int)) : PD := .list 1 (l.map fun r => [.list 1 (irow r)])

def magicR : List (List Int) := [[0, 2, 4, 0, 0],
  [4, 9, 0, 0, 2],
  [1, 10, -2, -2, 2],
  [3, 1, 2, 0, 2],
  [1, 10, 3, 3, 2],
  [1, 6, 0, 0, 2],
  [0, 4, 2, 0, 0],
  [2, 19, 1, 0, 2],
  [1, 1, 4, 0, 2],
  [1, 11, 2, 0, 2],
  [0, 20, 1, 0, 0, 10, 1, 1, 2],
  [5, 7, 0, 0, 2],
  [2, 3, 3, 0, 2],
  [1, 10, 3, 0, 2],
  [1, 23, 64, 0, 2],
  [5, 8, 0, 0, 2],
  [0, 17, 3, 0, 0],
  [0, 21, 0, 0, 0, 3, 2, 0, 1, 2, 2, 0, 0],
  [0, 20, 0, 0, 0, 1, 2, 0, 2],
  [0, 14, 2, 116, 0],
  [0, 21, 0, 0, 0, 2, 2, 0, 0, 4, 1, 0, 0],
  [1, 12, 0, 0, 2],
  [1, 6, 0, 0, 2],
  [0, 1, 3, 0, 4],
  [0, 15, 3, 4, 0],
  [0, 22, 0, 10, 0, 2, 8, 0, 0, 4, 1, 0, 0],
  [0, 21, 0, 0, 0, 4, 3, 0, 0, 19, 1, 0, 0],
  [0, 5, 4, 0, 4],
  [3, 21, 0, 0, 0, 1, 2, 0, 2, 4, 1, 0, 0],
  [0, 20, 1, 0, 0, 11, 1, 0, 2]]
def relicR : List (List Int) := [[5, -1, 0, 0, 20, 1, 0, 0, 10, 0, 2, 2],
  [5, -1, 0, 0, 20, 1, 0, 0, 23, 1, 0, 2],
  [5, -1, 0, 0, 20, 2, 0, 0, 10, -1, 0, 2],
  [5, -1, 0, 0, 20, 1, 0, 0, 10, 1, 0, 2],
  [5, -1, 0, 0, 20, 1, 0, 0, 10, 1, 1, 2],
  [4, -1, 0, 0, 2, 1, 0, 0],
  [4, -1, 0, 0, 17, 1, 0, 0],
  [4, -1, 0, 0, 3, 1, 0, 4],
  [4, -1, 0, 0, 1, 1, 0, 1],
  [4, -1, 0, 0, 15, 1, 4, 0],
  [1, 5, 1, 1, 10, 0, 1, 2],
  [1, 5, 1, 1, 12, 0, 0, 2],
  [1, 5, 1, 0, 3, 1, 0, 1],
  [1, 5, 1, 3, 1, 1, 0, 2],
  [1, 5, 1, 1, 13, 0, 0, 2],
  [5, -1, 0, 0, 20, 0, 0, 0, 25, 1, 0, 2],
  [1, 1, 0, 0, 13, 0, 0, 3],
  [5, -1, 0, 0, 20, 2, 0, 0, 24, 1, 1, 2],
  [3, -1, 0, 0, 1, 3, 0, 4],
  [2, -1, 0, 0, 14, 1, 119, 0]]
def specialR : List (List Int) := [[2, 1, 0, 0, 0, 0, 0, -1, 0, 0, 18, 0, 0, 0],
  [2, 2, 0, 0, 0, 0, 0, -1, 0, 0, 19, 2, 0, 1],
  [2, 1, 0, 0, 0, 0, 0, -1, 0, 0, 16, 3, 0, 1],
  [2, 1, 1, 0, 0, 0, 0, -1, 0, 0, 17, 2, 0, 1],
  [2, 2, 0, 0, 0, 0, 0, -1, 0, 0, 5, 3, 0, 4],
  [2, 3, 1, 0, 0, 0, 0, -1, 0, 4, 9, 0, 0, 2],
  [2, 2, 0, 0, 0, 0, 0, -1, 0, 0, 20, 0, 0, 0, 7, 0, 0, 2],
  [3, 2, 0, 0, 0, 0, 1, -1, 0, 0, 15, 1, 5, 0],
  [1, 2, 0, 1, 1, 0, 1, 5, 0, 0, 13, 0, 0, 3],
  [2, 3, 0, 0, 0, 0, 0, -1, 0, 0, 14, 2, 112, 0],
  [2, 4, 0, 0, 0, 0, 0, -1, 0, 0, 20, 0, 0, 0, 6, 0, 0, 2],
  [1, 3, 1, 2, 3, 5, 3, -1, 0, 0, 4, 1, 0, 0]]
def cards0 : List (List PD) := [cd 0 0 false [0, 0, 0, 0, 0, 0] 0 0 0 [ab 6 [0, 0, 0, 0, 0, 0] true 0 (ef 15 1 0 0 [])],
  cd 0 1 false [0, 0, 0, 0, 0, 0] 0 0 0 [ab 6 [0, 0, 0, 0, 0, 0] true 0 (ef 15 1 1 0 [])],
  cd 0 2 false [0, 0, 0, 0, 0, 0] 0 0 0 [ab 6 [0, 0, 0, 0, 0, 0] true 0 (ef 15 1 2 0 [])],
  cd 0 3 false [0, 0, 0, 0, 0, 0] 0 0 0 [ab 6 [0, 0, 0, 0, 0, 0] true 0 (ef 15 1 3 0 [])],
  cd 0 4 false [0, 0, 0, 0, 0, 0] 0 0 0 [ab 6 [0, 0, 0, 0, 0, 0] true 0 (ef 15 1 4 0 [])],
  cd 0 5 false [0, 0, 0, 0, 0, 0] 0 0 0 [ab 2 [0, 0, 0, 0, 0, 0] false 0 (ef 3 1 0 0 []), ab 6 [0, 0, 0, 0, 0, 0] true 0 (ef 15 1 5 0 [])],
  cd 0 5 false [0, 0, 0, 0, 0, 0] 0 0 0 [ab 2 [0, 0, 0, 0, 0, 0] false 0 (ef 3 2 0 0 []), ab 6 [0, 0, 0, 0, 0, 0] true 0 (ef 15 1 5 0 [])],
  cd 0 5 false [0, 0, 0, 0, 0, 0] 0 0 0 [ab 2 [0, 0, 0, 0, 0, 0] false 0 (ef 3 3 0 0 []), ab 6 [0, 0, 0, 0, 0, 0] true 0 (ef 15 2 5 0 [])],
  cd 0 5 false [0, 0, 0, 0, 0, 0] 0 0 0 [ab 2 [0, 0, 0, 0, 0, 0] false 0 (ef 3 4 0 0 []), ab 6 [0, 0, 0, 0, 0, 0] true 0 (ef 15 2 5 0 [])],
  cd 0 5 false [0, 0, 0, 0, 0, 0] 0 0 0 [ab 2 [0, 0, 0, 0, 0, 0] false 0 (ef 3 5 0 0 []), ab 6 [0, 0, 0, 0, 0, 0] true 0 (ef 15 3 5 0 [])]]
def cards10 : List (List PD) := [cd 1 0 false [1, 0, 0, 0, 0, 0] 1 1 1 [ab 2 [0, 0, 0, 0, 0, 0] false 0 (ef 2 1 0 0 [])],
  cd 1 1 false [0, 1, 0, 0, 0, 0] 1 1 1 [],
  cd 1 2 false [0, 0, 1, 0, 0, 0] 1 1 1 [ab 3 [0, 0, 0, 0, 0, 0] false 0 (ef 3 1 0 1 [])],
  cd 1 3 false [0, 0, 0, 1, 0, 0] 2 1 1 [ab 1 [0, 0, 0, 1, 0, 0] true 3 (ef 1 1 0 2 [])],
  cd 1 4 false [0, 0, 0, 0, 1, 0] 1 2 1 [ab 1 [0, 0, 0, 0, 1, 0] false 0 (ef 10 1 1 3 [])],
  cd 1 0 false [1, 0, 0, 0, 0, 1] 1 2 2 [ab 2 [0, 0, 0, 0, 0, 0] false 0 (ef 2 2 0 0 [])],
  cd 1 1 false [0, 1, 0, 0, 0, 1] 1 2 2 [ab 2 [0, 0, 0, 0, 0, 0] false 0 (ef 4 1 0 0 [])],
  cd 1 2 false [0, 0, 1, 0, 0, 1] 1 2 2 [ab 3 [0, 0, 0, 0, 0, 0] false 0 (ef 3 1 0 1 [])],
  cd 1 3 false [0, 0, 0, 1, 0, 1] 2 2 2 [ab 1 [0, 0, 0, 1, 0, 0] true 3 (ef 1 1 0 2 [])],
  cd 1 4 false [0, 0, 0, 0, 1, 1] 1 3 2 [ab 1 [0, 0, 0, 0, 1, 0] false 0 (ef 10 1 1 3 [])]]
def cards20 : List (List PD) := [cd 1 0 false [1, 0, 0, 0, 0, 2] 2 2 4 [ab 2 [0, 0, 0, 0, 0, 0] false 0 (ef 2 3 0 0 [])],
  cd 1 1 false [0, 1, 0, 0, 0, 2] 2 2 4 [],
  cd 1 2 false [0, 0, 1, 0, 0, 2] 2 2 4 [ab 3 [0, 0, 0, 0, 0, 0] false 0 (ef 3 2 0 1 [])],
  cd 1 3 false [0, 0, 0, 1, 0, 2] 3 2 4 [ab 1 [0, 0, 0, 1, 0, 0] true 3 (ef 1 1 0 2 [])],
  cd 1 4 false [0, 0, 0, 0, 1, 2] 2 3 4 [ab 1 [0, 0, 0, 0, 1, 0] false 0 (ef 10 1 1 3 [])],
  cd 1 0 false [1, 0, 0, 0, 0, 3] 2 3 8 [ab 2 [0, 0, 0, 0, 0, 0] false 0 (ef 2 4 0 0 [])],
  cd 1 1 false [0, 1, 0, 0, 0, 3] 2 3 8 [ab 2 [0, 0, 0, 0, 0, 0] false 0 (ef 4 1 0 0 [])],
  cd 1 2 false [0, 0, 1, 0, 0, 3] 2 3 8 [ab 3 [0, 0, 0, 0, 0, 0] false 0 (ef 3 2 0 1 [])],
  cd 1 3 false [0, 0, 0, 1, 0, 3] 3 3 8 [ab 1 [0, 0, 0, 1, 0, 0] true 3 (ef 1 1 0 2 [])],
  cd 1 4 false [0, 0, 0, 0, 1, 3] 2 4 8 [ab 1 [0, 0, 0, 0, 1, 0] false 0 (ef 10 1 1 3 [])]]
def cards30 : List (List PD) := [cd 1 0 false [2, 0, 0, 0, 0, 4] 3 3 16 [ab 2 [0, 0, 0, 0, 0, 0] false 0 (ef 2 5 0 0 [])],
  cd 1 1 false [0, 2, 0, 0, 0, 4] 3 3 16 [],
  cd 1 2 false [0, 0, 2, 0, 0, 4] 3 3 16 [ab 3 [0, 0, 0, 0, 0, 0] false 0 (ef 3 3 0 1 [])],
  cd 1 3 false [0, 0, 0, 2, 0, 4] 4 3 16 [ab 1 [0, 0, 0, 1, 0, 0] true 3 (ef 1 1 0 2 [])],
  cd 1 4 false [0, 0, 0, 0, 2, 4] 3 4 16 [ab 1 [0, 0, 0, 0, 1, 0] false 0 (ef 10 1 1 3 [])],
  cd 1 0 false [2, 0, 0, 0, 0, 5] 3 4 32 [ab 2 [0, 0, 0, 0, 0, 0] false 0 (ef 2 6 0 0 [])],
  cd 1 1 false [0, 2, 0, 0, 0, 5] 3 4 32 [ab 2 [0, 0, 0, 0, 0, 0] false 0 (ef 4 1 0 0 [])],
  cd 1 2 false [0, 0, 2, 0, 0, 5] 3 4 32 [ab 3 [0, 0, 0, 0, 0, 0] false 0 (ef 3 3 0 1 [])],
  cd 1 3 false [0, 0, 0, 2, 0, 5] 4 4 32 [ab 1 [0, 0, 0, 1, 0, 0] true 3 (ef 1 1 0 2 [])],
  cd 1 4 false [0, 0, 0, 0, 2, 5] 3 5 32 [ab 1 [0, 0, 0, 0, 1, 0] false 0 (ef 10 1 1 3 [])]]
def cards40 : List (List PD) := [cd 1 0 false [2, 0, 0, 0, 0, 6] 4 4 64 [ab 2 [0, 0, 0, 0, 0, 0] false 0 (ef 2 7 0 0 [])],
  cd 1 1 false [0, 2, 0, 0, 0, 6] 4 4 64 [],
  cd 1 2 false [0, 0, 2, 0, 0, 6] 4 4 64 [ab 3 [0, 0, 0, 0, 0, 0] false 0 (ef 3 4 0 1 [])],
  cd 1 3 false [0, 0, 0, 2, 0, 6] 5 4 64 [ab 1 [0, 0, 0, 1, 0, 0] true 3 (ef 1 1 0 2 [])],
  cd 1 4 false [0, 0, 0, 0, 2, 6] 4 5 64 [ab 1 [0, 0, 0, 0, 1, 0] false 0 (ef 10 1 1 3 [])],
  cd 1 0 false [2, 0, 0, 0, 0, 7] 4 5 128 [ab 2 [0, 0, 0, 0, 0, 0] false 0 (ef 2 8 0 0 [])],
  cd 1 1 false [0, 2, 0, 0, 0, 7] 4 5 128 [ab 2 [0, 0, 0, 0, 0, 0] false 0 (ef 4 1 0 0 [])],
  cd 1 2 false [0, 0, 2, 0, 0, 7] 4 5 128 [ab 3 [0, 0, 0, 0, 0, 0] false 0 (ef 3 4 0 1 [])],
  cd 1 3 false [0, 0, 0, 2, 0, 7] 5 5 128 [ab 1 [0, 0, 0, 1, 0, 0] true 3 (ef 1 1 0 2 [])],
  cd 1 4 false [0, 0, 0, 0, 2, 7] 4 6 128 [ab 1 [0, 0, 0, 0, 1, 0] false 0 (ef 10 1 1 3 [])]]
def cards50 : List (List PD) := [cd 2 0 true [1, 0, 0, 0, 0, 0] 0 0 0 [ab 0 [0, 0, 0, 0, 0, 0] false 0 (ef 2 4 0 0 [])],
  cd 2 1 true [0, 1, 0, 0, 0, 0] 0 0 0 [ab 0 [0, 0, 0, 0, 0, 0] false 4 (ef 9 0 0 2 [])],
  cd 2 2 true [0, 0, 1, 0, 0, 0] 0 0 0 [ab 0 [0, 0, 0, 0, 0, 0] false 1 (ef 10 (-2) (-2) 2 [])],
  cd 2 3 true [0, 0, 0, 1, 0, 0] 0 0 0 [ab 0 [0, 0, 0, 0, 0, 0] false 3 (ef 1 2 0 2 [])],
  cd 2 4 true [0, 0, 0, 0, 1, 0] 0 0 0 [ab 0 [0, 0, 0, 0, 0, 0] false 1 (ef 10 3 3 2 [])],
  cd 2 0 false [1, 0, 0, 0, 0, 1] 0 0 0 [ab 0 [0, 0, 0, 0, 0, 0] false 1 (ef 6 0 0 2 [])],
  cd 2 1 false [0, 1, 0, 0, 0, 1] 0 0 0 [ab 0 [0, 0, 0, 0, 0, 0] false 0 (ef 4 2 0 0 [])],
  cd 2 2 false [0, 0, 1, 0, 0, 1] 0 0 0 [ab 0 [0, 0, 0, 0, 0, 0] false 2 (ef 19 1 0 2 [])],
  cd 2 3 false [0, 0, 0, 1, 0, 1] 0 0 0 [ab 0 [0, 0, 0, 0, 0, 0] false 1 (ef 1 4 0 2 [])],
  cd 2 4 false [0, 0, 0, 0, 1, 1] 0 0 0 [ab 0 [0, 0, 0, 0, 0, 0] false 1 (ef 11 2 0 2 [])]]
def cards60 : List (List PD) := [cd 2 0 true [1, 0, 0, 0, 0, 2] 0 0 0 [ab 0 [0, 0, 0, 0, 0, 0] false 0 (ef 20 1 0 0 [ef 10 1 1 2 []])],
  cd 2 1 true [0, 1, 0, 0, 0, 2] 0 0 0 [ab 0 [0, 0, 0, 0, 0, 0] false 5 (ef 7 0 0 2 [])],
  cd 2 2 true [0, 0, 1, 0, 0, 2] 0 0 0 [ab 0 [0, 0, 0, 0, 0, 0] false 2 (ef 3 3 0 2 [])],
  cd 2 3 true [0, 0, 0, 1, 0, 2] 0 0 0 [ab 0 [0, 0, 0, 0, 0, 0] false 1 (ef 10 3 0 2 [])],
  cd 2 4 true [0, 0, 0, 0, 1, 2] 0 0 0 [ab 0 [0, 0, 0, 0, 0, 0] false 1 (ef 23 64 0 2 [])],
  cd 2 0 false [1, 0, 0, 0, 0, 3] 0 0 0 [ab 0 [0, 0, 0, 0, 0, 0] false 5 (ef 8 0 0 2 [])],
  cd 2 1 false [0, 1, 0, 0, 0, 3] 0 0 0 [ab 0 [0, 0, 0, 0, 0, 0] false 0 (ef 17 3 0 0 [])],
  cd 2 2 false [0, 0, 1, 0, 0, 3] 0 0 0 [ab 0 [0, 0, 0, 0, 0, 0] false 0 (ef 21 0 0 0 [ef 3 2 0 1 [], ef 2 2 0 0 []])],
  cd 2 3 false [0, 0, 0, 1, 0, 3] 0 0 0 [ab 0 [0, 0, 0, 0, 0, 0] false 0 (ef 20 0 0 0 [ef 1 2 0 2 []])],
  cd 2 4 false [0, 0, 0, 0, 1, 3] 0 0 0 [ab 0 [0, 0, 0, 0, 0, 0] false 0 (ef 14 2 116 0 [])]]
def cards70 : List (List PD) := [cd 2 0 true [1, 0, 0, 0, 0, 4] 0 0 0 [ab 0 [0, 0, 0, 0, 0, 0] false 0 (ef 21 0 0 0 [ef 2 2 0 0 [], ef 4 1 0 0 []])],
  cd 2 1 true [0, 1, 0, 0, 0, 4] 0 0 0 [ab 0 [0, 0, 0, 0, 0, 0] false 1 (ef 12 0 0 2 [])],
  cd 2 2 true [0, 0, 1, 0, 0, 4] 0 0 0 [ab 0 [0, 0, 0, 0, 0, 0] false 1 (ef 6 0 0 2 [])],
  cd 2 3 true [0, 0, 0, 1, 0, 4] 0 0 0 [ab 0 [0, 0, 0, 0, 0, 0] false 0 (ef 1 3 0 4 [])],
  cd 2 4 true [0, 0, 0, 0, 1, 4] 0 0 0 [ab 0 [0, 0, 0, 0, 0, 0] false 0 (ef 15 3 4 0 [])],
  cd 2 0 false [1, 0, 0, 0, 0, 5] 0 0 0 [ab 0 [0, 0, 0, 0, 0, 0] false 0 (ef 22 0 10 0 [ef 2 8 0 0 [], ef 4 1 0 0 []])],
  cd 2 1 false [0, 1, 0, 0, 0, 5] 0 0 0 [ab 0 [0, 0, 0, 0, 0, 0] false 0 (ef 21 0 0 0 [ef 4 3 0 0 [], ef 19 1 0 0 []])],
  cd 2 2 false [0, 0, 1, 0, 0, 5] 0 0 0 [ab 0 [0, 0, 0, 0, 0, 0] false 0 (ef 5 4 0 4 [])],
  cd 2 3 false [0, 0, 0, 1, 0, 5] 0 0 0 [ab 0 [0, 0, 0, 0, 0, 0] false 3 (ef 21 0 0 0 [ef 1 2 0 2 [], ef 4 1 0 0 []])],
  cd 2 4 false [0, 0, 0, 0, 1, 5] 0 0 0 [ab 0 [0, 0, 0, 0, 0, 0] false 0 (ef 20 1 0 0 [ef 11 1 0 2 []])]]
def cards80 : List (List PD) := [cd 3 0 false [1, 0, 0, 0, 0, 1] 0 0 0 [ab 5 [0, 0, 0, 0, 0, 0] false 0 (ef 20 1 0 0 [ef 10 0 2 2 []])],
  cd 3 1 false [0, 1, 0, 0, 0, 1] 0 0 0 [ab 5 [0, 0, 0, 0, 0, 0] false 0 (ef 20 1 0 0 [ef 23 1 0 2 []])],
  cd 3 2 false [0, 0, 1, 0, 0, 1] 0 0 0 [ab 5 [0, 0, 0, 0, 0, 0] false 0 (ef 20 2 0 0 [ef 10 (-1) 0 2 []])],
  cd 3 3 false [0, 0, 0, 1, 0, 1] 0 0 0 [ab 5 [0, 0, 0, 0, 0, 0] false 0 (ef 20 1 0 0 [ef 10 1 0 2 []])],
  cd 3 4 false [0, 0, 0, 0, 1, 1] 0 0 0 [ab 5 [0, 0, 0, 0, 0, 0] false 0 (ef 20 1 0 0 [ef 10 1 1 2 []])],
  cd 3 0 false [1, 0, 0, 0, 0, 2] 0 0 0 [ab 4 [0, 0, 0, 0, 0, 0] false 0 (ef 2 1 0 0 [])],
  cd 3 1 false [0, 1, 0, 0, 0, 2] 0 0 0 [ab 4 [0, 0, 0, 0, 0, 0] false 0 (ef 17 1 0 0 [])],
  cd 3 2 false [0, 0, 1, 0, 0, 2] 0 0 0 [ab 4 [0, 0, 0, 0, 0, 0] false 0 (ef 3 1 0 4 [])],
  cd 3 3 false [0, 0, 0, 1, 0, 2] 0 0 0 [ab 4 [0, 0, 0, 0, 0, 0] false 0 (ef 1 1 0 1 [])],
  cd 3 4 false [0, 0, 0, 0, 1, 2] 0 0 0 [ab 4 [0, 0, 0, 0, 0, 0] false 0 (ef 15 1 4 0 [])]]
def cards90 : List (List PD) := [cd 3 0 false [1, 0, 0, 0, 0, 3] 0 0 0 [ab 1 [0, 0, 0, 0, 0, 1] true 1 (ef 10 0 1 2 [])],
  cd 3 1 false [0, 1, 0, 0, 0, 3] 0 0 0 [ab 1 [0, 0, 0, 0, 0, 1] true 1 (ef 12 0 0 2 [])],
  cd 3 2 false [0, 0, 1, 0, 0, 3] 0 0 0 [ab 1 [0, 0, 0, 0, 0, 1] true 0 (ef 3 1 0 1 [])],
  cd 3 3 false [0, 0, 0, 1, 0, 3] 0 0 0 [ab 1 [0, 0, 0, 0, 0, 1] true 3 (ef 1 1 0 2 [])],
  cd 3 4 false [0, 0, 0, 0, 1, 3] 0 0 0 [ab 1 [0, 0, 0, 0, 0, 1] true 1 (ef 13 0 0 2 [])],
  cd 3 0 false [1, 0, 0, 0, 0, 4] 0 0 0 [ab 5 [0, 0, 0, 0, 0, 0] false 0 (ef 20 0 0 0 [ef 25 1 0 2 []])],
  cd 3 1 false [0, 1, 0, 0, 0, 4] 0 0 0 [ab 1 [0, 1, 0, 0, 0, 0] false 0 (ef 13 0 0 3 [])],
  cd 3 2 false [0, 0, 1, 0, 0, 4] 0 0 0 [ab 5 [0, 0, 0, 0, 0, 0] false 0 (ef 20 2 0 0 [ef 24 1 1 2 []])],
  cd 3 3 false [0, 0, 0, 1, 0, 4] 0 0 0 [ab 3 [0, 0, 0, 0, 0, 0] false 0 (ef 1 3 0 4 [])],
  cd 3 4 false [0, 0, 0, 0, 1, 4] 0 0 0 [ab 2 [0, 0, 0, 0, 0, 0] false 0 (ef 14 1 119 0 [])]]
def cards100 : List (List PD) := [cd 2 5 false [0, 0, 0, 0, 0, 1] 0 0 0 [ab 0 [0, 0, 0, 0, 0, 0] false 0 (ef 18 0 0 0 [])],
  cd 2 5 false [0, 0, 0, 0, 0, 2] 0 0 0 [ab 0 [0, 0, 0, 0, 0, 0] false 0 (ef 19 2 0 1 [])],
  cd 2 5 false [0, 0, 0, 0, 0, 1] 0 0 0 [ab 0 [0, 0, 0, 0, 0, 0] false 0 (ef 16 3 0 1 [])],
  cd 2 5 true [0, 0, 0, 0, 0, 1] 0 0 0 [ab 0 [0, 0, 0, 0, 0, 0] false 0 (ef 17 2 0 1 [])],
  cd 2 5 false [0, 0, 0, 0, 0, 2] 0 0 0 [ab 0 [0, 0, 0, 0, 0, 0] false 0 (ef 5 3 0 4 [])],
  cd 2 5 true [0, 0, 0, 0, 0, 3] 0 0 0 [ab 0 [0, 0, 0, 0, 0, 0] false 4 (ef 9 0 0 2 [])],
  cd 2 5 false [0, 0, 0, 0, 0, 2] 0 0 0 [ab 0 [0, 0, 0, 0, 0, 0] false 0 (ef 20 0 0 0 [ef 7 0 0 2 []])],
  cd 3 5 false [0, 0, 0, 0, 0, 2] 0 0 0 [ab 1 [0, 0, 0, 0, 0, 0] false 0 (ef 15 1 5 0 [])],
  cd 1 5 false [0, 0, 0, 0, 0, 2] 1 1 0 [ab 1 [0, 0, 0, 0, 0, 1] false 0 (ef 13 0 0 3 []), ab 6 [0, 0, 0, 0, 0, 0] true 0 (ef 15 2 5 0 [])],
  cd 2 5 false [0, 0, 0, 0, 0, 3] 0 0 0 [ab 0 [0, 0, 0, 0, 0, 0] false 0 (ef 14 2 112 0 [])]]
def cards110 : List (List PD) := [cd 2 5 false [0, 0, 0, 0, 0, 4] 0 0 0 [ab 0 [0, 0, 0, 0, 0, 0] false 0 (ef 20 0 0 0 [ef 6 0 0 2 []])],
  cd 1 5 true [0, 0, 0, 0, 0, 3] 2 3 5 [ab 3 [0, 0, 0, 0, 0, 0] false 0 (ef 4 1 0 0 [])],
  cd 1 5 false [0, 0, 0, 0, 0, 0] 1 1 0 [],
  cd 1 5 false [0, 0, 0, 0, 0, 0] 1 1 1 [],
  cd 1 5 false [0, 0, 0, 0, 0, 0] 2 2 0 [],
  cd 1 5 false [0, 0, 0, 0, 0, 0] 2 2 1 [],
  cd 1 5 false [0, 0, 0, 0, 0, 0] 3 3 0 [],
  cd 1 5 false [0, 0, 0, 0, 0, 0] 3 3 1 [],
  cd 1 5 false [0, 0, 0, 0, 0, 0] 4 4 0 [],
  cd 1 5 false [0, 0, 0, 0, 0, 0] 4 4 1 []]
def cardT : List (List PD) := cards0 ++ cards10 ++ cards20 ++ cards30 ++ cards40 ++ cards50 ++ cards60 ++ cards70 ++ cards80 ++ cards90 ++ cards100 ++ cards110
def cardP (n : Int) : List PD := cardT.getD n.toNat []
def whiteS : List PD := ((ab 0 [0, 0, 0, 0, 0, 0] false 0 (ef 2 4 0 0 []) : List PD) ++ (ab 0 [0, 0, 0, 0, 0, 0] false 1 (ef 6 0 0 2 []) : List PD) ++ (ab 0 [0, 0, 0, 0, 0, 0] false 0 (ef 20 1 0 0 [ef 10 1 1 2 []]) : List PD) ++ (ab 0 [0, 0, 0, 0, 0, 0] false 5 (ef 8 0 0 2 []) : List PD) ++ (ab 0 [0, 0, 0, 0, 0, 0] false 0 (ef 21 0 0 0 [ef 2 2 0 0 [], ef 4 1 0 0 []]) : List PD) ++ (ab 0 [0, 0, 0, 0, 0, 0] false 0 (ef 22 0 10 0 [ef 2 8 0 0 [], ef 4 1 0 0 []]) : List PD))
def whiteR : List PD := ((ab 5 [0, 0, 0, 0, 0, 0] false 0 (ef 20 1 0 0 [ef 10 0 2 2 []]) : List PD) ++ (ab 4 [0, 0, 0, 0, 0, 0] false 0 (ef 2 1 0 0 []) : List PD) ++ (ab 1 [0, 0, 0, 0, 0, 1] true 1 (ef 10 0 1 2 []) : List PD) ++ (ab 5 [0, 0, 0, 0, 0, 0] false 0 (ef 20 0 0 0 [ef 25 1 0 2 []]) : List PD))
def blueS : List PD := ((ab 0 [0, 0, 0, 0, 0, 0] false 4 (ef 9 0 0 2 []) : List PD) ++ (ab 0 [0, 0, 0, 0, 0, 0] false 0 (ef 4 2 0 0 []) : List PD) ++ (ab 0 [0, 0, 0, 0, 0, 0] false 5 (ef 7 0 0 2 []) : List PD) ++ (ab 0 [0, 0, 0, 0, 0, 0] false 0 (ef 17 3 0 0 []) : List PD) ++ (ab 0 [0, 0, 0, 0, 0, 0] false 1 (ef 12 0 0 2 []) : List PD) ++ (ab 0 [0, 0, 0, 0, 0, 0] false 0 (ef 21 0 0 0 [ef 4 3 0 0 [], ef 19 1 0 0 []]) : List PD))
def blueR : List PD := ((ab 5 [0, 0, 0, 0, 0, 0] false 0 (ef 20 1 0 0 [ef 23 1 0 2 []]) : List PD) ++ (ab 4 [0, 0, 0, 0, 0, 0] false 0 (ef 17 1 0 0 []) : List PD) ++ (ab 1 [0, 0, 0, 0, 0, 1] true 1 (ef 12 0 0 2 []) : List PD) ++ (ab 1 [0, 1, 0, 0, 0, 0] false 0 (ef 13 0 0 3 []) : List PD))
def blackS : List PD := ((ab 0 [0, 0, 0, 0, 0, 0] false 1 (ef 10 (-2) (-2) 2 []) : List PD) ++ (ab 0 [0, 0, 0, 0, 0, 0] false 2 (ef 19 1 0 2 []) : List PD) ++ (ab 0 [0, 0, 0, 0, 0, 0] false 2 (ef 3 3 0 2 []) : List PD) ++ (ab 0 [0, 0, 0, 0, 0, 0] false 0 (ef 21 0 0 0 [ef 3 2 0 1 [], ef 2 2 0 0 []]) : List PD) ++ (ab 0 [0, 0, 0, 0, 0, 0] false 1 (ef 6 0 0 2 []) : List PD) ++ (ab 0 [0, 0, 0, 0, 0, 0] false 0 (ef 5 4 0 4 []) : List PD))
def blackR : List PD := ((ab 5 [0, 0, 0, 0, 0, 0] false 0 (ef 20 2 0 0 [ef 10 (-1) 0 2 []]) : List PD) ++ (ab 4 [0, 0, 0, 0, 0, 0] false 0 (ef 3 1 0 4 []) : List PD) ++ (ab 1 [0, 0, 0, 0, 0, 1] true 0 (ef 3 1 0 1 []) : List PD) ++ (ab 5 [0, 0, 0, 0, 0, 0] false 0 (ef 20 2 0 0 [ef 24 1 1 2 []]) : List PD))
def redS : List PD := ((ab 0 [0, 0, 0, 0, 0, 0] false 3 (ef 1 2 0 2 []) : List PD) ++ (ab 0 [0, 0, 0, 0, 0, 0] false 1 (ef 1 4 0 2 []) : List PD) ++ (ab 0 [0, 0, 0, 0, 0, 0] false 1 (ef 10 3 0 2 []) : List PD) ++ (ab 0 [0, 0, 0, 0, 0, 0] false 0 (ef 20 0 0 0 [ef 1 2 0 2 []]) : List PD) ++ (ab 0 [0, 0, 0, 0, 0, 0] false 0 (ef 1 3 0 4 []) : List PD) ++ (ab 0 [0, 0, 0, 0, 0, 0] false 3 (ef 21 0 0 0 [ef 1 2 0 2 [], ef 4 1 0 0 []]) : List PD))
def redR : List PD := ((ab 5 [0, 0, 0, 0, 0, 0] false 0 (ef 20 1 0 0 [ef 10 1 0 2 []]) : List PD) ++ (ab 4 [0, 0, 0, 0, 0, 0] false 0 (ef 1 1 0 1 []) : List PD) ++ (ab 1 [0, 0, 0, 0, 0, 1] true 3 (ef 1 1 0 2 []) : List PD) ++ (ab 3 [0, 0, 0, 0, 0, 0] false 0 (ef 1 3 0 4 []) : List PD))
def greenS : List PD := ((ab 0 [0, 0, 0, 0, 0, 0] false 1 (ef 10 3 3 2 []) : List PD) ++ (ab 0 [0, 0, 0, 0, 0, 0] false 1 (ef 11 2 0 2 []) : List PD) ++ (ab 0 [0, 0, 0, 0, 0, 0] false 1 (ef 23 64 0 2 []) : List PD) ++ (ab 0 [0, 0, 0, 0, 0, 0] false 0 (ef 14 2 116 0 []) : List PD) ++ (ab 0 [0, 0, 0, 0, 0, 0] false 0 (ef 15 3 4 0 []) : List PD) ++ (ab 0 [0, 0, 0, 0, 0, 0] false 0 (ef 20 1 0 0 [ef 11 1 0 2 []]) : List PD))
def greenR : List PD := ((ab 5 [0, 0, 0, 0, 0, 0] false 0 (ef 20 1 0 0 [ef 10 1 1 2 []]) : List PD) ++ (ab 4 [0, 0, 0, 0, 0, 0] false 0 (ef 15 1 4 0 []) : List PD) ++ (ab 1 [0, 0, 0, 0, 0, 1] true 1 (ef 13 0 0 2 []) : List PD) ++ (ab 2 [0, 0, 0, 0, 0, 0] false 0 (ef 14 1 119 0 []) : List PD))
def earlyP : List (List PD) := [cd 2 5 false [0, 0, 0, 0, 0, 1] 0 0 0 [ab 0 [0, 0, 0, 0, 0, 0] false 0 (ef 18 0 0 0 [])],
  cd 2 5 false [0, 0, 0, 0, 0, 2] 0 0 0 [ab 0 [0, 0, 0, 0, 0, 0] false 0 (ef 19 2 0 1 [])],
  cd 2 5 false [0, 0, 0, 0, 0, 1] 0 0 0 [ab 0 [0, 0, 0, 0, 0, 0] false 0 (ef 16 3 0 1 [])],
  cd 2 5 true [0, 0, 0, 0, 0, 1] 0 0 0 [ab 0 [0, 0, 0, 0, 0, 0] false 0 (ef 17 2 0 1 [])],
  cd 2 5 false [0, 0, 0, 0, 0, 2] 0 0 0 [ab 0 [0, 0, 0, 0, 0, 0] false 0 (ef 5 3 0 4 [])],
  cd 2 5 true [0, 0, 0, 0, 0, 3] 0 0 0 [ab 0 [0, 0, 0, 0, 0, 0] false 4 (ef 9 0 0 2 [])]]
def lateP : List (List PD) := [cd 2 5 false [0, 0, 0, 0, 0, 2] 0 0 0 [ab 0 [0, 0, 0, 0, 0, 0] false 0 (ef 20 0 0 0 [ef 7 0 0 2 []])],
  cd 3 5 false [0, 0, 0, 0, 0, 2] 0 0 0 [ab 1 [0, 0, 0, 0, 0, 0] false 0 (ef 15 1 5 0 [])],
  cd 1 5 false [0, 0, 0, 0, 0, 2] 0 0 0 [ab 1 [0, 0, 0, 0, 0, 1] false 0 (ef 13 0 0 3 [])],
  cd 2 5 false [0, 0, 0, 0, 0, 3] 0 0 0 [ab 0 [0, 0, 0, 0, 0, 0] false 0 (ef 14 2 112 0 [])],
  cd 2 5 false [0, 0, 0, 0, 0, 4] 0 0 0 [ab 0 [0, 0, 0, 0, 0, 0] false 0 (ef 20 0 0 0 [ef 6 0 0 2 []])],
  cd 1 5 true [0, 0, 0, 0, 0, 3] 0 0 0 [ab 3 [0, 0, 0, 0, 0, 0] false 0 (ef 4 1 0 0 [])]]
end Go.Proofs.YtihhbofjpidmpaaDoor
end

section
namespace Go.Proofs.YtihhbofjpidmpaaDoor
open Go.RowKit
set_option linter.unusedVariables false
set_option linter.unusedSimpArgs false

def k_tcost : Nat := 12
def sg_tcost : Sig := ⟨[(false, [.int .i64]), (false, [.int .i64]), (false, [.int .i64])], [(true, List.replicate 6 (.int .i64))], false, true, true, false, false⟩
def tr_tcost : Tree := (.ob (.cmp .ge (.var 0) (.int .i64 0))
(.ob (.cmp .lt (.var 0) (.int .i64 6))
(.ret [(.ite (.cmp .eq (.var 0) (.int .i64 0)) (.var 1) (.int .i64 0)), (.ite (.cmp .eq (.var 0) (.int .i64 1)) (.var 1) (.int .i64 0)), (.ite (.cmp .eq (.var 0) (.int .i64 2)) (.var 1) (.int .i64 0)), (.ite (.cmp .eq (.var 0) (.int .i64 3)) (.var 1) (.int .i64 0)), (.ite (.cmp .eq (.var 0) (.int .i64 4)) (.var 1) (.int .i64 0)), (.ar .add .i64 (.ite (.cmp .eq (.var 0) (.int .i64 5)) (.var 1) (.int .i64 0)) (.var 2))])))
theorem wk_tcost : walk E0.cx (sgsN []) 0 12 sg_tcost = tr_tcost := by kernel_rfl
theorem bo_tcost : ∃ x, bodyOf E0.P 12 = some x := bo_of (by kernel_rfl)
noncomputable def tcost_g : List PD → Option (List PD) := fun ps => evL E0.Δ (pfun []) 0 [] tr_tcost ps
def tcost_s : Spec := psp tcost_g
theorem tcost_h : Holds E0 k_tcost sg_tcost tcost_s := con_ev wf0 mix0 g0 [] rfl wk_tcost rfl (fits_nil) 0
noncomputable def con_tcost : Con E0 := ⟨k_tcost, sg_tcost, tcost_s, rfl, bo_tcost, tcost_h⟩
def k_tmana : Nat := 17
def sg_tmana : Sig := ⟨[(false, [.int .i64]), (false, [.int .i64])], [(true, List.replicate 7 (.int .i64) ++ [.bool] ++ List.replicate 5 (.int .i64) ++ [.list 39])], false, false, true, false, false⟩
def tr_tmana : Tree := (.ret [(.int .i64 6), (.int .i64 0), (.int .i64 0), (.int .i64 0), (.int .i64 0), (.int .i64 0), (.int .i64 0), (.bool true), (.int .i64 0), (.int .i64 15), (.var 0), (.var 1), (.int .i64 0), (.nil 39)])
theorem wk_tmana : walk E0.cx (sgsN []) 0 17 sg_tmana = tr_tmana := by kernel_rfl
theorem bo_tmana : ∃ x, bodyOf E0.P 17 = some x := bo_of (by kernel_rfl)
noncomputable def tmana_g : List PD → Option (List PD) := fun ps => evL E0.Δ (pfun []) 0 [] tr_tmana ps
def tmana_s : Spec := psp tmana_g
theorem tmana_h : Holds E0 k_tmana sg_tmana tmana_s := con_ev wf0 mix0 g0 [] rfl wk_tmana rfl (fits_nil) 0
noncomputable def con_tmana : Con E0 := ⟨k_tmana, sg_tmana, tmana_s, rfl, bo_tmana, tmana_h⟩
def k_tevery : Nat := 35
def sg_tevery : Sig := ⟨[(false, [.int .i64]), (false, [.int .i64]), (false, [.int .i64]), (false, [.int .i64])], [(true, List.replicate 4 (.int .i64) ++ [.list 39])], false, false, true, false, false⟩
def tr_tevery : Tree := (.share 39 (.push .emp (.econs (.var 1) (.econs (.var 2) (.econs (.var 3) (.econs (.int .i64 2) (.econs (.nil 39) .enil))))))
(.ret [(.int .i64 20), (.var 0), (.int .i64 0), (.int .i64 0), (.var 4)]))
theorem wk_tevery : walk E0.cx (sgsN []) 0 35 sg_tevery = tr_tevery := by kernel_rfl
theorem bo_tevery : ∃ x, bodyOf E0.P 35 = some x := bo_of (by kernel_rfl)
noncomputable def tevery_g : List PD → Option (List PD) := fun ps => evL E0.Δ (pfun []) 0 [] tr_tevery ps
def tevery_s : Spec := psp tevery_g
theorem tevery_h : Holds E0 k_tevery sg_tevery tevery_s := con_ev wf0 mix0 g0 [] rfl wk_tevery rfl (fits_nil) 0
noncomputable def con_tevery : Con E0 := ⟨k_tevery, sg_tevery, tevery_s, rfl, bo_tevery, tevery_h⟩
def k_tdo : Nat := 19
def sg_tdo : Sig := ⟨[(false, [.int .i64]), (false, [.int .i64]), (false, [.int .i64]), (false, [.int .i64])], [(true, List.replicate 4 (.int .i64) ++ [.list 39])], false, false, true, false, false⟩
def tr_tdo : Tree := (.ret [(.var 0), (.var 1), (.var 2), (.var 3), (.nil 39)])
theorem wk_tdo : walk E0.cx (sgsN []) 0 19 sg_tdo = tr_tdo := by kernel_rfl
theorem bo_tdo : ∃ x, bodyOf E0.P 19 = some x := bo_of (by kernel_rfl)
noncomputable def tdo_g : List PD → Option (List PD) := fun ps => evL E0.Δ (pfun []) 0 [] tr_tdo ps
def tdo_s : Spec := psp tdo_g
theorem tdo_h : Holds E0 k_tdo sg_tdo tdo_s := con_ev wf0 mix0 g0 [] rfl wk_tdo rfl (fits_nil) 0
noncomputable def con_tdo : Con E0 := ⟨k_tdo, sg_tdo, tdo_s, rfl, bo_tdo, tdo_h⟩
def k_twhen : Nat := 18
def sg_twhen : Sig := ⟨[(false, [.int .i64]), (true, List.replicate 4 (.int .i64) ++ [.list 39])], [(true, List.replicate 7 (.int .i64) ++ [.bool] ++ List.replicate 5 (.int .i64) ++ [.list 39])], false, false, true, false, false⟩
def tr_twhen : Tree := (.ret [(.var 0), (.int .i64 0), (.int .i64 0), (.int .i64 0), (.int .i64 0), (.int .i64 0), (.int .i64 0), (.bool false), (.int .i64 0), (.var 1), (.var 2), (.var 3), (.var 4), (.var 5)])
theorem wk_twhen : walk E0.cx (sgsN []) 0 18 sg_twhen = tr_twhen := by kernel_rfl
theorem bo_twhen : ∃ x, bodyOf E0.P 18 = some x := bo_of (by kernel_rfl)
noncomputable def twhen_g : List PD → Option (List PD) := fun ps => evL E0.Δ (pfun []) 0 [] tr_twhen ps
def twhen_s : Spec := psp twhen_g
theorem twhen_h : Holds E0 k_twhen sg_twhen twhen_s := con_ev wf0 mix0 g0 [] rfl wk_twhen rfl (fits_nil) 0
noncomputable def con_twhen : Con E0 := ⟨k_twhen, sg_twhen, twhen_s, rfl, bo_twhen, twhen_h⟩
def k_tactive : Nat := 20
def sg_tactive : Sig := ⟨[(true, List.replicate 6 (.int .i64)), (false, [.bool]), (false, [.int .i64]), (true, List.replicate 4 (.int .i64) ++ [.list 39])], [(true, List.replicate 7 (.int .i64) ++ [.bool] ++ List.replicate 5 (.int .i64) ++ [.list 39])], false, false, true, false, false⟩
def tr_tactive : Tree := (.ret [(.int .i64 1), (.var 0), (.var 1), (.var 2), (.var 3), (.var 4), (.var 5), (.var 6), (.var 7), (.var 8), (.var 9), (.var 10), (.var 11), (.var 12)])
theorem wk_tactive : walk E0.cx (sgsN []) 0 20 sg_tactive = tr_tactive := by kernel_rfl
theorem bo_tactive : ∃ x, bodyOf E0.P 20 = some x := bo_of (by kernel_rfl)
noncomputable def tactive_g : List PD → Option (List PD) := fun ps => evL E0.Δ (pfun []) 0 [] tr_tactive ps
def tactive_s : Spec := psp tactive_g
theorem tactive_h : Holds E0 k_tactive sg_tactive tactive_s := con_ev wf0 mix0 g0 [] rfl wk_tactive rfl (fits_nil) 0
noncomputable def con_tactive : Con E0 := ⟨k_tactive, sg_tactive, tactive_s, rfl, bo_tactive, tactive_h⟩
end Go.Proofs.YtihhbofjpidmpaaDoor
end
