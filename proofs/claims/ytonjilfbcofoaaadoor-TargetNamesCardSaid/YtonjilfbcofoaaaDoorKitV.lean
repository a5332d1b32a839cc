/-
  Arrays and structs of numbers, to whatever depth, side by side.
-/
import Derived.Test.YtonjilfbcofoaaaDoorKitI
import Derived.ChangeKeysEq
import Derived.Laws.StructEq
namespace Go.Proofs.YtonjilfbcofoaaaDoor
open Go.RowKit
set_option linter.unusedVariables false

/-- all its cells are numbers: n of them -/
def intsT (P : Program) : Nat → TypeId → Nat → Bool
  | 0, _, _ => false
  | d + 1, t, n => match P.underlying t with
    | some (.int .i64) => n == 1 && P.cellsOf t == 1
    | some (.array m e) => P.cellsOf e * m == n && P.cellsOf t == n && intsT P d e (P.cellsOf e)
    | some (.struct fs) => !P.stoodInHeld t && P.cellsOf t == n && (fs.toList.foldl (fun acc f => match acc with
        | some off => if f.offset == off && f.name != "_" && intsT P d f.type (P.cellsOf f.type) then some (off + P.cellsOf f.type) else none
        | none => none) (some 0)) == some n
    | _ => false

theorem sameTo_add (f g : Nat → Int) : ∀ (m s m' : Nat), sameTo f g s (m + m') = (sameTo f g s m && sameTo f g (s + m) m') := by
  intro m s m'
  unfold sameTo
  rw [← List.all_append]
  congr 1
  have h := List.range'_append (s := s) (m := m) (n := m') (step := 1)
  rw [Nat.one_mul] at h
  rw [← h]
theorem sameTo_shift (f g : Nat → Int) (off n : Nat) : sameTo (fun i => f (off + i)) (fun i => g (off + i)) 0 n = sameTo f g off n := by
  unfold sameTo
  rw [List.range'_eq_map_range, List.range'_eq_map_range, List.all_map, List.all_map]
  simp [Function.comp_def]
theorem sameTo_one (f g : Nat → Int) (s : Nat) : sameTo f g s 1 = (f s == g s) := by simp [sameTo]
theorem ints_extract (N : Nat) (F : Nat → Int) (off n : Nat) (h : off + n ≤ N) : (ints N F).extract off (off + n) = ints n (fun i => F (off + i)) := by
  apply Array.ext_getElem?
  intro i
  rw [Array.getElem?_extract]
  by_cases hi : i < n
  · rw [ints_get _ hi, if_pos (by rw [ints_size]; omega), ints_get _ (by omega)]
  · have e1 : (ints n fun i => F (off + i))[i]? = none := Array.getElem?_eq_none (by rw [ints_size]; omega)
    rw [e1]
    split
    · omega
    · rfl

section
variable {P : Program}
def aggT (P : Program) (t : TypeId) : Prop := (∃ m e, P.underlying t = some (.array m e)) ∨ ∃ fs, P.underlying t = some (.struct fs)
def EqI (P : Program) (d : Nat) (t : TypeId) (n : Nat) : Prop :=
  (P.underlying t = some (.int .i64) ∧ n = 1 ∧ 0 < d) ∨ (aggT P t ∧ P.cellsOf t = n ∧ ∀ k w F G, (Op.equalIn (k + d) t (.agg (ints n F)) (.agg (ints n G))).run P w = .ok (sameTo F G 0 n) w)
theorem eqI_step {d : Nat} {t : TypeId} {n : Nat} (h : EqI P d t n) {N off : Nat} (hN : off + n ≤ N) (F G : Nat → Int) (k : Nat) (w : World) :
    ∃ a b, (part t (ints N F) off).run P w = .ok a w ∧ (part t (ints N G) off).run P w = .ok b w ∧ (Op.equalIn (k + d) t a b).run P w = .ok (sameTo F G off n) w := by
  rcases h with ⟨hu, rfl, hd⟩ | ⟨ha, hc, he⟩
  · obtain ⟨d', rfl⟩ : ∃ d', d = d' + 1 := ⟨d - 1, by omega⟩
    refine ⟨.int .i64 (F off), .int .i64 (G off), ?_, ?_, ?_⟩
    · simp [part, isAgg, Sem.run_bind, run_underlying hu, ints_get (n := N) F (show off < N by omega)]
    · simp [part, isAgg, Sem.run_bind, run_underlying hu, ints_get (n := N) G (show off < N by omega)]
    · rw [show k + (d' + 1) = (k + d') + 1 from rfl, run_equalIn_int _ _ _ _ _ _ _ hu, sameTo_one]
  · have hi : ∃ i, P.info? t = some i := by
      rcases ha with ⟨m, e, hu⟩ | ⟨fs, hu⟩ <;> exact info_of_underlying hu
    obtain ⟨i, hi⟩ := hi
    refine ⟨.agg (ints n fun j => F (off + j)), .agg (ints n fun j => G (off + j)), ?_, ?_, ?_⟩
    · rcases ha with ⟨m, e, hu⟩ | ⟨fs, hu⟩ <;> simp [part, isAgg, Sem.run_bind, run_underlying hu, run_sizeOf w hi, hc, ints_extract N F off n hN]
    · rcases ha with ⟨m, e, hu⟩ | ⟨fs, hu⟩ <;> simp [part, isAgg, Sem.run_bind, run_underlying hu, run_sizeOf w hi, hc, ints_extract N G off n hN]
    · rw [he, sameTo_shift]
theorem eqI_items {d : Nat} {e : TypeId} {c : Nat} (h : EqI P d e c) (F G : Nat → Int) (N k : Nat) (w : World) : ∀ (m s : Nat), (s + m) * c ≤ N →
    (Op.eqItems (k + d) e c (ints N F) (ints N G) (List.range' s m)).run P w = .ok (sameTo F G (s * c) (m * c)) w
  | 0, s, _ => by simp [Op.eqItems, sameTo]
  | m + 1, s, hs => by
    have hsc : s * c + c ≤ N := by
      have : (s + 1) * c ≤ (s + (m + 1)) * c := Nat.mul_le_mul_right _ (by omega)
      rw [Nat.add_mul, Nat.one_mul] at this; omega
    obtain ⟨a, b, p1, p2, p3⟩ := eqI_step h hsc F G k w
    rw [List.range'_succ]
    have ih := eqI_items h F G N k w m (s + 1) (by rw [show s + 1 + m = s + (m + 1) by omega]; exact hs)
    simp only [Op.eqItems, Sem.run_bind, p1, p2, p3, Result.andThen_ok]
    have e1 : (m + 1) * c = c + m * c := by rw [Nat.add_mul, Nat.one_mul, Nat.add_comm]
    rw [e1, sameTo_add]
    cases hb : sameTo F G (s * c) c
    · simp
    · simp only [Bool.not_true, Bool.false_eq_true, if_false, Bool.true_and, ih]
      rw [show (s + 1) * c = s * c + c by rw [Nat.add_mul, Nat.one_mul]]
theorem eqI_fields {d : Nat} (F G : Nat → Int) (N k : Nat) (w : World) (hd : ∀ t n, intsT P d t n = true → EqI P d t n) : ∀ (fs : List Field) (off n : Nat),
    (fs.foldl (fun acc f => match acc with
        | some off => if f.offset == off && f.name != "_" && intsT P d f.type (P.cellsOf f.type) then some (off + P.cellsOf f.type) else none
        | none => none) (some off)) = some n → n ≤ N → off ≤ n ∧ (Op.eqFields (k + d) (ints N F) (ints N G) fs).run P w = .ok (sameTo F G off (n - off)) w
  | [], off, n, h, hN => by
    simp at h; subst h
    exact ⟨Nat.le_refl _, by simp [Op.eqFields, sameTo]⟩
  | f :: fs, off, n, h, hN => by
    simp only [List.foldl_cons] at h
    by_cases hc : (f.offset == off && f.name != "_" && intsT P d f.type (P.cellsOf f.type)) = true
    · rw [if_pos hc] at h
      simp only [Bool.and_eq_true, beq_iff_eq, bne_iff_ne] at hc
      obtain ⟨⟨h1, h2⟩, h3⟩ := hc
      obtain ⟨hle, ih⟩ := eqI_fields F G N k w hd fs _ n h hN
      subst h1
      obtain ⟨a, b, p1, p2, p3⟩ := eqI_step (hd _ _ h3) (N := N) (off := f.offset) (by omega) F G k w
      refine ⟨by omega, ?_⟩
      simp only [Op.eqFields, ne_eq, h2, not_false_eq_true, if_true, Sem.run_bind, p1, p2, p3, Result.andThen_ok]
      rw [show n - f.offset = P.cellsOf f.type + (n - (f.offset + P.cellsOf f.type)) by omega, sameTo_add]
      cases hb : sameTo F G f.offset (P.cellsOf f.type)
      · simp
      · simp only [Bool.not_true, Bool.false_eq_true, if_false, Bool.true_and, ih]
    · rw [if_neg hc] at h
      exfalso
      have : ∀ (l : List Field), (l.foldl (fun acc f => match acc with
        | some off => if f.offset == off && f.name != "_" && intsT P d f.type (P.cellsOf f.type) then some (off + P.cellsOf f.type) else none
        | none => none) (none : Option Nat)) = none := by
        intro l; induction l with
        | nil => rfl
        | cons f l ih => simp only [List.foldl_cons]; exact ih
      rw [this] at h; cases h
theorem eqI_of : ∀ (d : Nat) (t : TypeId) (n : Nat), intsT P d t n = true → EqI P d t n
  | 0, _, _, h => by simp [intsT] at h
  | d + 1, t, n, h => by
    unfold intsT at h
    cases hu : P.underlying t with
    | none => simp [hu] at h
    | some kd =>
      cases kd with
      | int q =>
        cases q <;> simp [hu] at h
        exact .inl ⟨hu, h.1, by omega⟩
      | array m e =>
        simp only [hu, Bool.and_eq_true, beq_iff_eq] at h
        obtain ⟨⟨h1, h2⟩, h3⟩ := h
        refine .inr ⟨.inl ⟨m, e, hu⟩, h2, fun k w F G => ?_⟩
        have hi : ∃ i, P.info? e = some i := by
          rcases eqI_of d e _ h3 with ⟨hue, _⟩ | ⟨ha, _⟩
          · exact info_of_underlying hue
          · rcases ha with ⟨m, e, hu⟩ | ⟨fs, hu⟩ <;> exact info_of_underlying hu
        obtain ⟨i, hi⟩ := hi
        rw [show k + (d + 1) = (k + d) + 1 from rfl, run_equalIn_array w (k + d) _ _ hu hi, List.range_eq_range']
        have := eqI_items (eqI_of d e _ h3) F G n k w m 0 (by rw [Nat.zero_add, Nat.mul_comm, h1]; exact Nat.le_refl _)
        rw [this, Nat.zero_mul, Nat.mul_comm, h1]
      | struct fs =>
        rw [hu] at h
        obtain ⟨h12, h3⟩ := Bool.and_eq_true_iff.1 h
        obtain ⟨h1, h2⟩ := Bool.and_eq_true_iff.1 h12
        rw [beq_iff_eq] at h2 h3
        rw [Bool.not_eq_true'] at h1
        refine .inr ⟨.inr ⟨fs, hu⟩, h2, fun k w F G => ?_⟩
        have hf : P.fieldsOf t = fs := by simp [Program.fieldsOf, hu]
        rw [show k + (d + 1) = (k + d) + 1 from rfl, run_equalIn_struct w (k + d) t _ _ (by rw [hf]; exact hu) h1, hf]
        have := (eqI_fields F G n k w (fun t n h => eqI_of d t n h) fs.toList 0 n h3 (Nat.le_refl _)).2
        rw [this, Nat.sub_zero]
      | _ => simp [hu] at h
theorem run_eql_ints {t : TypeId} {n d : Nat} (h : intsT P d t n = true) (hd : d ≤ 10000) (ha : aggT P t) (F G : Nat → Int) (w : World) : (binOp .eql t (.agg (ints n F)) (.agg (ints n G))).run P w = .ok (.bool (sameTo F G 0 n)) w := by
  rcases eqI_of d t n h with ⟨hu, _⟩ | ⟨_, _, he⟩
  · rcases ha with ⟨m, e, hu'⟩ | ⟨fs, hu'⟩ <;> rw [hu] at hu' <;> cases hu'
  · rw [run_eql_struct, show 10000 = (10000 - d) + d by omega, he]; rfl
theorem run_neq_ints {t : TypeId} {n d : Nat} (h : intsT P d t n = true) (hd : d ≤ 10000) (ha : aggT P t) (F G : Nat → Int) (w : World) : (binOp .neq t (.agg (ints n F)) (.agg (ints n G))).run P w = .ok (.bool (!sameTo F G 0 n)) w := by
  rcases eqI_of d t n h with ⟨hu, _⟩ | ⟨_, _, he⟩
  · rcases ha with ⟨m, e, hu'⟩ | ⟨fs, hu'⟩ <;> rw [hu] at hu' <;> cases hu'
  · rw [run_neq_struct, show 10000 = (10000 - d) + d by omega, he]; rfl
end
theorem run_eqops (P : Program) (o : Oper) (ρ : Operand → Value) (w : World) {op : BinOp} {t : TypeId} {x y : Operand} {xs ys : Array Value} {r : Bool} {b : TypeId} (ho : o.op = .binOp op t x y b) (hx : ρ x = .agg xs) (hy : ρ y = .agg ys)
    (hm : P.eqGuardType P.depth t = false) (h : ∀ w, (binOp op t (.agg xs) (.agg ys)).run P w = .ok (.bool r) w) : (execOp ρ o).run P w = .ok (.value (.bool r)) w := by
  unfold execOp
  simp [ho, hx, hy, Sem.run_bind, run_eqGuard_agg (P := P) w op t x y xs ys hm, h]
end Go.Proofs.YtonjilfbcofoaaaDoor
