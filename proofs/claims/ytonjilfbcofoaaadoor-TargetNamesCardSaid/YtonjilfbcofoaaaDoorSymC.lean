/-
  Operations that only read: what they yield, as terms.
-/
import Derived.Test.YtonjilfbcofoaaaDoorSymB
namespace Go.Proofs.YtonjilfbcofoaaaDoor
open Go.RowKit
set_option linter.unusedVariables false

theorem strB_eq (s : ByteArray) : strB (s.data.toList.map UInt8.toNat) = .string s := by
  unfold strB
  congr 1
  rw [List.map_map]
  have : (UInt8.ofNat ∘ UInt8.toNat) = id := by funext x; simp
  rw [this, List.map_id]
def constC : Value → C
  | .int k n => .p (.tm (.int k n) (.int k))
  | .bool b => .p (.tm (.bool b) .bool)
  | .nilIface => .p (.tm .nili .err)
  | .iface t (.int .i64 n) => if t = 53 then .p (.tm (.ifc (.int .i64 n)) .err) else .unk
  | .string s => .p (.tm (.str (s.data.toList.map UInt8.toNat)) .str)
  | .slice none 0 0 => .p .nils
  | _ => .unk
def constA : Value → AV
  | .agg cs => .v (.agg (cs.toList.map constC))
  | v => .v (.c (constC v))
def opd (l : List AV) : Operand → AV
  | .tmp i => l.getD i (.v (.c .unk))
  | .const v => constA v
  | .global g => .v (.c (.p (.ref (.gl g) 0 [])))
  | .func f => .v (.c (.fn f []))
section
variable {E : Env} {ρ : List Dat} {σ : List Value} {l : List AV} {a : Act}
theorem constC_ok (E : Env) (ρ : List Dat) (σ : List Value) (v : Value) : CR E ρ σ (constC v) v := by
  unfold constC
  split
  · exact ⟨.int _ _, fun _ => rfl, .int _ _, rfl, rfl⟩
  · exact ⟨.bool _, fun _ => rfl, .bool _, rfl, rfl⟩
  · exact ⟨.val _, fun _ => rfl, .nili, rfl, rfl⟩
  · split
    · rename_i h; subst h; exact ⟨.val _, fun _ => rfl, .ifc _, rfl, rfl⟩
    · trivial
  · exact ⟨.val _, fun _ => rfl, .str _, (strB_eq _).symm, rfl⟩
  · rfl
  · trivial
theorem constA_ok (E : Env) (ρ : List Dat) (σ : List Value) (v : Value) : VR E ρ σ (constA v) v := by
  unfold constA
  split
  · rename_i cs
    refine ⟨cs.toList, All2.of (by simp) fun i x y hx hy => ?_, rfl⟩
    rw [List.getElem?_map, hy] at hx
    cases hx
    exact constC_ok E ρ σ y
  · exact constC_ok E ρ σ v
theorem opd_ok (h : All2 (VR E ρ σ) l a.tmps.toList) : ∀ x, VR E ρ σ (opd l x) (a.eval x)
  | .tmp i => by
    simp only [opd, Act.eval, List.getD_eq_getElem?_getD, Array.getD_eq_getD_getElem?]
    cases hq : l[i]? with
    | none => trivial
    | some x =>
      obtain ⟨v, h1, h2⟩ := h.get hq
      rw [Array.getElem?_toList] at h1
      rw [h1]
      exact h2
  | .const v => constA_ok E ρ σ v
  | .global g => ⟨some ⟨g, 0, none⟩, 0, 0, ⟨rfl, rfl⟩, rfl, rfl⟩
  | .func f => ⟨[], .nil, rfl⟩
end

def opdTm : AV → Option (Tm × Srt)
  | .v (.c (.p (.tm t s))) => some (t, s)
  | _ => none
def opdI : AV → Option (Tm × IntKind)
  | .v (.c (.p (.tm t (.int k)))) => some (t, k)
  | _ => none
def opdB : AV → Option Tm
  | .v (.c (.p (.tm t .bool))) => some t
  | _ => none
def opdR : AV → Option (Bs × Nat × List (Tm × Nat × Nat))
  | .v (.c (.p (.ref b off dyn))) => some (b, off, dyn)
  | _ => none
section
variable {E : Env} {ρ : List Dat} {σ : List Value} {x : AV} {v : Value}
theorem opdTm_ok {t : Tm} {s : Srt} (h : VR E ρ σ x v) (e : opdTm x = some (t, s)) : ∃ d, Den E.Δ ρ t d ∧ Has E.Δ s d ∧ v = d.toV ∧ s.one = true := by
  unfold opdTm at e
  split at e
  · cases e; exact h
  · cases e
theorem opdI_ok {t : Tm} {k : IntKind} (h : VR E ρ σ x v) (e : opdI x = some (t, k)) : ∃ n, Den E.Δ ρ t (.int k n) ∧ v = .int k n := by
  unfold opdI at e
  split at e
  · cases e
    obtain ⟨d, h1, h2, h3, _⟩ := h
    cases h2 with
    | int k n => exact ⟨n, h1, h3⟩
  · cases e
theorem opdB_ok {t : Tm} (h : VR E ρ σ x v) (e : opdB x = some t) : ∃ b, Den E.Δ ρ t (.bool b) ∧ v = .bool b := by
  unfold opdB at e
  split at e
  · cases e
    obtain ⟨d, h1, h2, h3, _⟩ := h
    cases h2 with
    | bool b => exact ⟨b, h1, h3⟩
  · cases e
theorem opdR_ok {b : Bs} {off : Nat} {dyn : List (Tm × Nat × Nat)} (h : VR E ρ σ x v) (e : opdR x = some (b, off, dyn)) : ∃ A p q, BsR E ρ σ b A p ∧ DynR E ρ dyn q ∧ v = pt A (p + off + q) := by
  unfold opdR at e
  split at e
  · cases e; exact h
  · cases e
theorem VR.ofTm {t : Tm} {s : Srt} {d : Dat} (h1 : Den E.Δ ρ t d) (h2 : Has E.Δ s d) (h3 : s.one = true) : VR E ρ σ (.v (.c (.p (.tm t s)))) d.toV := ⟨d, h1, h2, rfl, h3⟩
end
def tmV (t : Tm) (s : Srt) : AV := .v (.c (.p (.tm t s)))

/-- bounds that a known test gives of a term -/
def bnd1 (u : Tm) : Tm × Bool → Option Int × Option Int
  | (.cmp c v (.int _ n), b) => if v = u then (match c, b with
      | .eq, true => (some n, some n)
      | .ne, false => (some n, some n)
      | .lt, true => (none, some (n - 1))
      | .lt, false => (some n, none)
      | .le, true => (none, some n)
      | .le, false => (some (n + 1), none)
      | .gt, true => (some (n + 1), none)
      | .gt, false => (none, some n)
      | .ge, true => (some n, none)
      | .ge, false => (none, some (n - 1))
      | _, _ => (none, none)) else (none, none)
  | _ => (none, none)
def maxO : Option Int → Option Int → Option Int
  | none, b => b
  | a, none => a
  | some a, some b => some (if a ≤ b then b else a)
def minO : Option Int → Option Int → Option Int
  | none, b => b
  | a, none => a
  | some a, some b => some (if a ≤ b then a else b)
def bnds (u : Tm) : List (Tm × Bool) → Option Int × Option Int
  | [] => (none, none)
  | x :: K => match bnd1 u x with
    | (none, none) => bnds u K
    | p => let q := bnds u K; (maxO p.1 q.1, minO p.2 q.2)
def ltO (h : Option Int) (b : Int) : Bool := match h with
  | some x => decide (x < b)
  | none => false
def leO (h : Option Int) (b : Int) : Bool := match h with
  | some x => decide (x ≤ b)
  | none => false
def gtO (l : Option Int) (b : Int) : Bool := match l with
  | some x => decide (b < x)
  | none => false
def geO (l : Option Int) (b : Int) : Bool := match l with
  | some x => decide (b ≤ x)
  | none => false
def decC (c : Cmp) (l h : Option Int) (b : Int) : Option Bool := match c with
  | .lt => if ltO h b then some true else if geO l b then some false else none
  | .ge => if ltO h b then some false else if geO l b then some true else none
  | .le => if leO h b then some true else if gtO l b then some false else none
  | .gt => if leO h b then some false else if gtO l b then some true else none
  | .eq => if ltO h b || gtO l b then some false else if geO l b && leO h b then some true else none
  | .ne => if ltO h b || gtO l b then some true else if geO l b && leO h b then some false else none
/-- the test turned -/
def flipC : Tm → Option Tm
  | .cmp .eq a b => some (.cmp .ne a b)
  | .cmp .ne a b => some (.cmp .eq a b)
  | .cmp .lt a b => some (.cmp .ge a b)
  | .cmp .ge a b => some (.cmp .lt a b)
  | .cmp .le a b => some (.cmp .gt a b)
  | .cmp .gt a b => some (.cmp .le a b)
  | _ => none
def look (K : List (Tm × Bool)) (t : Tm) : Option Bool := (K.find? fun x => x.1 == t).map (·.2)
def look2 (K : List (Tm × Bool)) (t : Tm) : Option Bool := match look K t with
  | some b => some b
  | none => match flipC t with
    | some t' => (look K t').map (!·)
    | none => none
/-- what is known of a test -/
def knows (K : List (Tm × Bool)) : Tm → Option Bool
  | .bool b => some b
  | .cmp c u (.int k n) => match look2 K (.cmp c u (.int k n)) with
    | some b => some b
    | none => let q := bnds u K; decC c q.1 q.2 n
  | .not t => match look2 K (.not t) with
    | some b => some b
    | none => (knows K t).map (!·)
  | .and a b => match look2 K (.and a b) with
    | some v => some v
    | none => match knows K a, knows K b with
      | some false, _ => some false
      | _, some false => some false
      | some true, some true => some true
      | _, _ => none
  | .or a b => match look2 K (.or a b) with
    | some v => some v
    | none => match knows K a, knows K b with
      | some true, _ => some true
      | _, some true => some true
      | some false, some false => some false
      | _, _ => none
  | t => look2 K t
theorem look_ok {Δ : Tab} {ρ : List Dat} {K : List (Tm × Bool)} (hK : ∀ x ∈ K, Den Δ ρ x.1 (.bool x.2)) {t : Tm} {b : Bool} (h : look K t = some b) : den Δ ρ t = .bool b := by
  unfold look at h
  rw [Option.map_eq_some_iff] at h
  obtain ⟨x, hx, rfl⟩ := h
  have h1 := List.find?_some hx
  have h2 := hK x (List.mem_of_find?_eq_some hx)
  simp only [beq_iff_eq] at h1
  rw [← h1]; exact h2.now
theorem flipC_ok {Δ : Tab} {ρ : List Dat} {t t' : Tm} (h : flipC t = some t') {b : Bool} (hd : den Δ ρ t' = .bool b) : den Δ ρ t = .bool (!b) := by
  have key : ∀ (x y : Prop) [Decidable x] [Decidable y], (x ↔ ¬ y) → decide x = !decide y := fun x y _ _ h => by
    by_cases hy : y <;> simp [h, hy]
  unfold flipC at h
  split at h <;> cases h <;> simp only [den, Cmp.of, Dat.bool.injEq] at hd ⊢ <;> rw [← hd]
  · simp [bne]
  · simp [bne]
  · exact key _ _ (by omega)
  · exact key _ _ (by omega)
  · exact key _ _ (by omega)
  · exact key _ _ (by omega)
theorem look2_ok {Δ : Tab} {ρ : List Dat} {K : List (Tm × Bool)} (hK : ∀ x ∈ K, Den Δ ρ x.1 (.bool x.2)) {t : Tm} {b : Bool} (h : look2 K t = some b) : den Δ ρ t = .bool b := by
  unfold look2 at h
  split at h
  · rename_i b' hb
    cases h
    exact look_ok hK hb
  · split at h
    · rename_i t' ht
      rw [Option.map_eq_some_iff] at h
      obtain ⟨c, hc, rfl⟩ := h
      exact flipC_ok ht (look_ok hK hc)
    · cases h
def inO (l h : Option Int) (n : Int) : Prop := (∀ x, l = some x → x ≤ n) ∧ ∀ x, h = some x → n ≤ x
theorem bnd1_ok {Δ : Tab} {ρ : List Dat} {u : Tm} {x : Tm × Bool} (hx : den Δ ρ x.1 = .bool x.2) : inO (bnd1 u x).1 (bnd1 u x).2 (den Δ ρ u).toInt := by
  unfold bnd1
  split
  · rename_i c v k n b
    split
    · rename_i hv
      subst hv
      have hx' : c.of (den Δ ρ v).toInt n = b := by simpa only [den, Dat.toInt, Dat.bool.injEq] using hx
      clear hx
      generalize (den Δ ρ v).toInt = m at *
      cases c <;> cases b <;> simp only [Cmp.of, beq_iff_eq, bne_iff_ne, beq_eq_false_iff_ne, bne_eq_false_iff_eq, ne_eq, decide_eq_true_eq, decide_eq_false_iff_not] at hx' <;> refine ⟨fun x e => ?_, fun x e => ?_⟩ <;> cases e <;> omega
    · exact ⟨fun x e => (by cases e), fun x e => (by cases e)⟩
  · exact ⟨fun x e => (by cases e), fun x e => (by cases e)⟩
theorem maxO_ok {a b : Option Int} {n : Int} (ha : ∀ x, a = some x → x ≤ n) (hb : ∀ x, b = some x → x ≤ n) : ∀ x, maxO a b = some x → x ≤ n := fun x e => by
  unfold maxO at e
  split at e
  · exact hb x e
  · exact ha x e
  · rename_i p q
    cases e
    have h1 := ha p rfl
    have h2 := hb q rfl
    split <;> omega
theorem minO_ok {a b : Option Int} {n : Int} (ha : ∀ x, a = some x → n ≤ x) (hb : ∀ x, b = some x → n ≤ x) : ∀ x, minO a b = some x → n ≤ x := fun x e => by
  unfold minO at e
  split at e
  · exact hb x e
  · exact ha x e
  · rename_i p q
    cases e
    have h1 := ha p rfl
    have h2 := hb q rfl
    split <;> omega
theorem bnds_ok {Δ : Tab} {ρ : List Dat} {u : Tm} : ∀ {K : List (Tm × Bool)}, (∀ x ∈ K, Den Δ ρ x.1 (.bool x.2)) → inO (bnds u K).1 (bnds u K).2 (den Δ ρ u).toInt
  | [], _ => ⟨fun x e => (by cases e), fun x e => (by cases e)⟩
  | x :: K, hK => by
    have h1 := bnd1_ok (u := u) (hK x (by simp)).now
    have h2 := bnds_ok (u := u) (K := K) (fun y hy => hK y (by simp [hy]))
    unfold bnds
    split
    · exact h2
    · exact ⟨maxO_ok h1.1 h2.1, minO_ok h1.2 h2.2⟩
theorem decC_ok {c : Cmp} {l h : Option Int} {n b : Int} (hn : inO l h n) {r : Bool} (e : decC c l h b = some r) : c.of n b = r := by
  obtain ⟨h1, h2⟩ := hn
  have a1 : ltO h b = true → n < b := fun e => by
    unfold ltO at e; split at e
    · have := h2 _ rfl; simp only [decide_eq_true_eq] at e; omega
    · cases e
  have a2 : leO h b = true → n ≤ b := fun e => by
    unfold leO at e; split at e
    · have := h2 _ rfl; simp only [decide_eq_true_eq] at e; omega
    · cases e
  have a3 : gtO l b = true → b < n := fun e => by
    unfold gtO at e; split at e
    · have := h1 _ rfl; simp only [decide_eq_true_eq] at e; omega
    · cases e
  have a4 : geO l b = true → b ≤ n := fun e => by
    unfold geO at e; split at e
    · have := h1 _ rfl; simp only [decide_eq_true_eq] at e; omega
    · cases e
  unfold decC at e
  cases c <;> simp only at e <;> (repeat' split at e) <;> first | (cases e; done) | cases e
  all_goals try simp only [Bool.or_eq_true, Bool.and_eq_true] at *
  all_goals simp only [Cmp.of, beq_iff_eq, bne_iff_ne, beq_eq_false_iff_ne, bne_eq_false_iff_eq, ne_eq, decide_eq_true_eq, decide_eq_false_iff_not]
  all_goals first
    | (have := a1 (by assumption); omega)
    | (have := a2 (by assumption); omega)
    | (have := a3 (by assumption); omega)
    | (have := a4 (by assumption); omega)
    | (rename_i hh; have := a4 hh.1; have := a2 hh.2; omega)
    | (rename_i hh; rcases hh with hh | hh; (have := a1 hh; omega); (have := a3 hh; omega))
theorem knows_ok {Δ : Tab} {ρ : List Dat} {K : List (Tm × Bool)} (hK : ∀ x ∈ K, Den Δ ρ x.1 (.bool x.2)) : ∀ {t : Tm} {b : Bool}, knows K t = some b → den Δ ρ t = .bool b := by
  intro t
  induction t with
  | bool b => intro b' h; simp only [knows] at h; cases h; rfl
  | cmp c u v _ _ =>
    intro b h
    cases v with
    | int k n =>
      simp only [knows] at h
      split at h
      · rename_i b' hb
        cases h
        exact look2_ok hK hb
      · have := decC_ok (bnds_ok hK) h
        show Dat.bool (c.of (den Δ ρ u).toInt n) = _
        rw [this]
    | _ => exact look2_ok hK (by simpa only [knows] using h)
  | not t ih =>
    intro b h
    simp only [knows] at h
    split at h
    · rename_i b' hb
      cases h
      exact look2_ok hK hb
    · rw [Option.map_eq_some_iff] at h
      obtain ⟨c, hc, rfl⟩ := h
      simp only [den, ih hc, Dat.toBool]
  | and x y ihx ihy =>
    intro b h
    simp only [knows] at h
    split at h
    · rename_i b' hb
      cases h
      exact look2_ok hK hb
    · split at h
      · rename_i hx; cases h; simp only [den, ihx hx, Dat.toBool, Bool.false_and]
      · rename_i hy _; cases h; simp only [den, ihy hy, Dat.toBool, Bool.and_false]
      · rename_i hx hy; cases h; simp only [den, ihx hx, ihy hy, Dat.toBool, Bool.and_true]
      · cases h
  | or x y ihx ihy =>
    intro b h
    simp only [knows] at h
    split at h
    · rename_i b' hb
      cases h
      exact look2_ok hK hb
    · split at h
      · rename_i hx; cases h; simp only [den, ihx hx, Dat.toBool, Bool.true_or]
      · rename_i hy _; cases h; simp only [den, ihy hy, Dat.toBool, Bool.or_true]
      · rename_i hx hy; cases h; simp only [den, ihx hx, ihy hy, Dat.toBool, Bool.or_false]
      · cases h
  | _ => intro b h; exact look2_ok hK (by simpa only [knows] using h)

/-- one term of the sort for each of several cells -/
def tmsOf (s : Srt) : List C → Option (List Tm)
  | [] => some []
  | .p (.tm t s') :: l => if s' = s then (tmsOf s l).map (t :: ·) else none
  | _ :: _ => none
theorem tmsOf_get {s : Srt} : ∀ {l : List C} {ts : List Tm}, tmsOf s l = some ts → ∀ {i : Nat} {c : C}, l[i]? = some c → ∃ t, ts[i]? = some t ∧ c = .p (.tm t s)
  | [], _, _, i, c, h => by cases h
  | .p (.tm t s') :: l, ts, e, i, c, h => by
    simp only [tmsOf] at e
    split at e
    · rename_i hs
      subst hs
      rw [Option.map_eq_some_iff] at e
      obtain ⟨ts', e1, rfl⟩ := e
      cases i with
      | zero => cases h; exact ⟨t, rfl, rfl⟩
      | succ i => exact tmsOf_get e1 (i := i) (by simpa using h)
    · cases e
  | .unk :: _, _, e, _, _, _ => by cases e
  | .undef :: _, _, e, _, _, _ => by cases e
  | .fn _ _ :: _, _, e, _, _, _ => by cases e
  | .p (.ref _ _ _) :: _, _, e, _, _, _ => by cases e
  | .p (.own _) :: _, _, e, _, _, _ => by cases e
  | .p .nils :: _, _, e, _, _, _ => by cases e
  | .p (.sb _ _ _ _) :: _, _, e, _, _, _ => by cases e
def allSome {α : Type} : List (Option α) → Option (List α)
  | [] => some []
  | some x :: l => (allSome l).map (x :: ·)
  | none :: _ => none
theorem allSome_get {α : Type} : ∀ {l : List (Option α)} {m : List α}, allSome l = some m → ∀ {i : Nat} {x : Option α}, l[i]? = some x → ∃ y, x = some y ∧ m[i]? = some y
  | [], _, _, i, x, h => by cases h
  | some y :: l, m, e, i, x, h => by
    simp only [allSome, Option.map_eq_some_iff] at e
    obtain ⟨m', e1, rfl⟩ := e
    cases i with
    | zero => cases h; exact ⟨y, rfl, rfl⟩
    | succ i => exact allSome_get e1 (i := i) (by simpa using h)
  | none :: _, _, e, _, _, _ => by cases e
theorem allSome_len {α : Type} : ∀ {l : List (Option α)} {m : List α}, allSome l = some m → m.length = l.length
  | [], m, e => by cases e; rfl
  | some y :: l, m, e => by
    simp only [allSome, Option.map_eq_some_iff] at e
    obtain ⟨m', e1, rfl⟩ := e
    simp [allSome_len e1]
  | none :: _, _, e => by cases e
def selC (cs : List C) (i : Tm) : Option C := match cs with
  | .p (.tm _ s) :: _ => (tmsOf s cs).map fun ts => .p (.tm (.sel (econsL ts) i s) s)
  | _ => none
/-- the cell at a place -/
def loadC (cs : List C) : Nat → List (Tm × Nat × Nat) → Option C
  | off, [] => cs[off]?
  | off, (i, st, m) :: l => (allSome ((List.range m).map fun k => loadC cs (off + k * st) l)).bind fun cands => selC cands i
section
variable {E : Env} {ρ : List Dat} {σ : List Value}
theorem selC_ok {cands : List C} {i : Tm} {c : C} {k : Int} (h : selC cands i = some c) (hi : Den E.Δ ρ i (.int .i64 k)) {c' : C} (hc : cands[k.toNat]? = some c') {v : Value} (hv : CR E ρ σ c' v) : CR E ρ σ c v := by
  unfold selC at h
  split at h
  · rename_i t0 s l
    rw [Option.map_eq_some_iff] at h
    obtain ⟨ts, h1, rfl⟩ := h
    obtain ⟨t, h2, rfl⟩ := tmsOf_get h1 hc
    obtain ⟨d, hd, hh, hv', ho⟩ := hv
    refine ⟨d, fun e => ?_, hh, hv', ho⟩
    simp only [den, den_econsL, hi e, Dat.toInt, List.getD_eq_getElem?_getD, List.getElem?_map, h2, Option.map_some, Option.getD_some, hd e]
  · cases h
theorem loadC_ok {cs : List C} {vs : List Value} (h : All2 (CR E ρ σ) cs vs) : ∀ {dyn : List (Tm × Nat × Nat)} {off q : Nat} {c : C}, loadC cs off dyn = some c → DynR E ρ dyn q → ∃ v, vs[off + q]? = some v ∧ CR E ρ σ c v
  | [], off, q, c, hl, hq => by
    cases hq
    obtain ⟨v, h1, h2⟩ := h.get hl
    exact ⟨v, h1, h2⟩
  | (i, st, m) :: l, off, q, c, hl, hq => by
    obtain ⟨k, q', h1, h2, h3, h4, rfl⟩ := hq
    simp only [loadC, Option.bind_eq_some_iff] at hl
    obtain ⟨cands, e1, e2⟩ := hl
    have hk : k.toNat < m := by omega
    have e3 : ((List.range m).map fun k => loadC cs (off + k * st) l)[k.toNat]? = some (loadC cs (off + k.toNat * st) l) := by
      simp [List.getElem?_map, List.getElem?_range hk]
    obtain ⟨c', e4, e5⟩ := allSome_get e1 e3
    obtain ⟨v, e6, e7⟩ := loadC_ok h e4 h4
    exact ⟨v, by rw [← Nat.add_assoc]; exact e6, selC_ok e2 h1 e5 e7⟩
/-- n cells side by side -/
def loadN (cs : List C) (off n : Nat) (dyn : List (Tm × Nat × Nat)) : Option (List C) := allSome ((List.range n).map fun k => loadC cs (off + k) dyn)
theorem loadN_ok {cs : List C} {vs : List Value} (h : All2 (CR E ρ σ) cs vs) {dyn : List (Tm × Nat × Nat)} {off q n : Nat} {l : List C} (hl : loadN cs off n dyn = some l) (hq : DynR E ρ dyn q) :
    ∃ us, All2 (CR E ρ σ) l us ∧ us.length = n ∧ ∀ j v, us[j]? = some v → vs[off + q + j]? = some v := by
  have hlen := allSome_len hl
  simp only [List.length_map, List.length_range] at hlen
  have key : ∀ k, k < n → ∃ c v, l[k]? = some c ∧ vs[off + q + k]? = some v ∧ CR E ρ σ c v := fun k hk => by
    have e3 : ((List.range n).map fun k => loadC cs (off + k) dyn)[k]? = some (loadC cs (off + k) dyn) := by
      simp [List.getElem?_map, List.getElem?_range hk]
    obtain ⟨c, e4, e5⟩ := allSome_get hl e3
    obtain ⟨v, e6, e7⟩ := loadC_ok h e4 hq
    exact ⟨c, v, e5, by rw [show off + q + k = off + k + q by omega]; exact e6, e7⟩
  refine ⟨(List.range n).map fun k => (vs[off + q + k]?).getD undef, All2.of (by simp [hlen]) fun i c v hc hv => ?_, by simp, fun j v hv => ?_⟩
  · have hi : i < n := by have := (List.getElem?_eq_some_iff.1 hc).1; omega
    obtain ⟨c', v', h1, h2, h3⟩ := key i hi
    rw [h1] at hc; cases hc
    rw [List.getElem?_map, List.getElem?_range hi] at hv
    simp only [Option.map_some, h2, Option.getD_some, Option.some.injEq] at hv
    subst hv; exact h3
  · have hj : j < n := by have := (List.getElem?_eq_some_iff.1 hv).1; simpa using this
    obtain ⟨c', v', h1, h2, h3⟩ := key j hj
    rw [List.getElem?_map, List.getElem?_range hj] at hv
    simp only [Option.map_some, h2, Option.getD_some, Option.some.injEq] at hv
    subst hv; exact h2
end

/-- the cells from a place's base on -/
def glC : List (Nat × List (Tm × Srt) × Nat) → Nat → Option (List C)
  | [], _ => none
  | x :: l, g => if x.1 = g then some (x.2.1.map fun t => .p (.tm t.1 t.2)) else glC l g
/-- a list that is written out: its rows -/
def litRows : Tm → Option (List Tm)
  | .emp => some []
  | .push a row => (litRows a).map (· ++ [row])
  | _ => none
def litRow : Tm → Option (List Tm)
  | .enil => some []
  | .econs a b => (litRow b).map (a :: ·)
  | _ => none
def litCell (s : Tm) (n c : Nat) : Option Tm := (litRows s).bind fun l => (l[n]?).bind fun r => (litRow r).bind fun cs => cs[c]?
def mkElem (s i : Tm) (c : Nat) (t : Srt) : Tm := match i with
  | .int _ n => match litCell s n.toNat c with
    | some x => x
    | none => .elem s i c t
  | _ => .elem s i c t
def elC (s i : Tm) : Nat → List Srt → List C
  | _, [] => []
  | c, t :: l => .p (.tm (mkElem s i c t) t) :: elC s i (c + 1) l
def cellsOf (Δ : Tab) (gt : List (Nat × List (Tm × Srt) × Nat)) (os : List Ob) : Bs → Option (List C)
  | .ob j => match os[j]? with
    | some (.blk cs _) => some cs
    | _ => none
  | .gl g => glC gt g
  | .el s r i => if (Δ.row r).all (·.one) then some (elC s i 0 (Δ.row r)) else none
  | .oe j r i => match os[j]? with
    | some (.own r' t) => if r = r' ∧ (Δ.row r).all (·.one) = true then some (elC t i 0 (Δ.row r)) else none
    | _ => none
section
variable {E : Env} {w0 : World} {ρ : List Dat} {σ : List Value} {os : List Ob} {L : List Fact}
theorem litRows_ok {Δ : Tab} {ρ : List Dat} : ∀ {s : Tm} {l : List Tm}, litRows s = some l → den Δ ρ s = .rows (l.map fun r => (den Δ ρ r).row0)
  | .emp, l, h => by cases h; rfl
  | .push a row, l, h => by
    simp only [litRows, Option.map_eq_some_iff] at h
    obtain ⟨l', h1, rfl⟩ := h
    simp only [den, litRows_ok h1, Dat.xs, List.map_append, List.map_cons, List.map_nil]
theorem litRow_ok {Δ : Tab} {ρ : List Dat} : ∀ {s : Tm} {l : List Tm}, litRow s = some l → (den Δ ρ s).row0 = l.map (den Δ ρ)
  | .enil, l, h => by cases h; rfl
  | .econs a b, l, h => by
    simp only [litRow, Option.map_eq_some_iff] at h
    obtain ⟨l', h1, rfl⟩ := h
    show den Δ ρ a :: (den Δ ρ b).row0 = _
    rw [litRow_ok h1]; rfl
theorem mkElem_den (Δ : Tab) (ρ : List Dat) (s i : Tm) (c : Nat) (t : Srt) : den Δ ρ (mkElem s i c t) = den Δ ρ (.elem s i c t) := by
  unfold mkElem
  split
  · rename_i k n
    split
    · rename_i x hx
      simp only [litCell, Option.bind_eq_some_iff] at hx
      obtain ⟨l, h1, r, h2, cs, h3, h4⟩ := hx
      simp only [den, litRows_ok h1, Dat.xs, Dat.toInt, List.getD_eq_getElem?_getD, List.getElem?_map, h2, Option.map_some, Option.getD_some, litRow_ok h3, h4]
    · rfl
  · rfl
theorem elC_get (s i : Tm) : ∀ (l : List Srt) (c k : Nat) {x : C}, (elC s i c l)[k]? = some x → ∃ t, l[k]? = some t ∧ x = .p (.tm (mkElem s i (c + k) t) t)
  | [], _, _, _, h => by cases h
  | t :: l, c, 0, x, h => by cases h; exact ⟨t, rfl, rfl⟩
  | t :: l, c, k + 1, x, h => by
    obtain ⟨t', h1, h2⟩ := elC_get s i l (c + 1) k (x := x) (by simpa [elC] using h)
    exact ⟨t', h1, by rw [h2, show c + 1 + k = c + (k + 1) by omega]⟩
theorem elC_len (s i : Tm) : ∀ (l : List Srt) (c : Nat), (elC s i c l).length = l.length
  | [], _ => rfl
  | t :: l, c => by simp [elC, elC_len s i l]
theorem flat_get {xs : List (List Dat)} {sz : Nat} (h : ∀ row ∈ xs, row.length = sz) : ∀ {k j : Nat} {row : List Dat} {d : Dat}, xs[k]? = some row → row[j]? = some d → (flatV xs)[k * sz + j]? = some d.toV := by
  induction xs with
  | nil => intro k j row d e; cases e
  | cons r xs ih =>
    intro k j row d hk hj
    have hr := h r (by simp)
    cases k with
    | zero =>
      cases hk
      have hlt := (List.getElem?_eq_some_iff.1 hj).1
      simp only [flatV, List.flatten_cons, List.map_append, Nat.zero_mul, Nat.zero_add]
      rw [List.getElem?_append_left (by simpa using hlt)]
      simp [hj]
    | succ k =>
      have := ih (fun row hrow => h row (by simp [hrow])) (k := k) (j := j) (by simpa using hk) hj
      simp only [flatV, List.flatten_cons, List.map_append]
      rw [List.getElem?_append_right (by simp [hr, Nat.add_mul]; omega)]
      simp only [List.length_map, hr]
      rw [show (k + 1) * sz + j - sz = k * sz + j by rw [Nat.add_mul]; omega]
      exact this
theorem row_get {xs : List (List Dat)} {k : Nat} (h : k < xs.length) : ∃ row, xs[k]? = some row ∧ row ∈ xs := ⟨xs[k], List.getElem?_eq_getElem h, List.getElem_mem h⟩
theorem base_cells (hW : E.Wf) (hO : ObsR E ρ σ os L) {b : Bs} {A : Option Addr} {p : Nat} (hb : BsR E ρ σ b A p) {cs : List C} (hc : cellsOf E.Δ E.gt os b = some cs) (hpre : E.γ <+: ρ) :
    ∃ vs, All2 (CR E ρ σ) cs vs ∧ ∀ w, Mem none w0 w (baseF E ρ :: L) → ∀ m v, vs[m]? = some v → w.cell? ((A.getD ⟨0, 0, none⟩).add (p + m)) = some v := by
  cases b with
  | ob j =>
    obtain ⟨b, hs, rfl, rfl⟩ := hb
    simp only [cellsOf] at hc
    split at hc
    · rename_i cs' ty hj
      cases hc
      obtain ⟨v, f, h1, h2, b', vs, rfl, h4, rfl⟩ := hO.get j _ hj
      rw [hs] at h1
      cases h1
      refine ⟨vs, h4, fun w hM m v hv => ?_⟩
      have hR := hM.row (b := b) (cs := vs.toArray) (T := ty) (List.mem_cons_of_mem _ (List.mem_of_getElem? h2))
      simp only [Option.getD_some, Nat.zero_add, Addr.add_lit]
      exact hR.cell (by simpa using hv)
    · cases hc
  | gl g =>
    obtain ⟨rfl, rfl⟩ := hb
    have key : ∀ gt : List (Nat × List (Tm × Srt) × Nat), (∀ x ∈ gt, x ∈ E.gt) → glC gt g = some cs → ∃ x ∈ E.gt, x.1 = g ∧ cs = x.2.1.map fun t => .p (.tm t.1 t.2) := by
      intro gt
      induction gt with
      | nil => intro _ e; cases e
      | cons x gt ih =>
        intro hs e
        simp only [glC] at e
        split at e
        · cases e; exact ⟨x, hs x (by simp), by assumption, rfl⟩
        · exact ih (fun y hy => hs y (by simp [hy])) e
    obtain ⟨x, hx, rfl, rfl⟩ := key _ (fun _ h => h) hc
    refine ⟨x.2.1.map fun t => (den E.Δ E.γ t.1).toV, All2.of (by simp) fun i c v hc hv => ?_, fun w hM m v hv => ?_⟩
    · rw [List.getElem?_map] at hc hv
      cases hq : x.2.1[i]? with
      | none => rw [hq] at hc; cases hc
      | some t =>
        rw [hq] at hc hv
        simp only [Option.map_some, Option.some.injEq] at hc hv
        subst hc hv
        obtain ⟨h1, h2, h3⟩ := hW.srt x hx t (List.mem_of_getElem? hq)
        obtain ⟨z, rfl⟩ := hpre
        exact ⟨_, fun e => by rw [List.append_assoc, den_below _ h2], h1, rfl, h3⟩
    · obtain ⟨T, hG⟩ := (hM.holds _ List.mem_cons_self).1.2 x hx
      simp only [Option.getD_some, Nat.zero_add, Addr.add_lit]
      exact Row.cell hG (by simpa using hv)
  | el s r i =>
    obtain ⟨n, c, xs, k, h1, h2, h3, h4, h5, rfl⟩ := hb
    simp only [cellsOf] at hc
    split at hc
    case isFalse => cases hc
    rename_i hone
    cases hc
    obtain ⟨row, hrow, hmem⟩ := row_get (xs := xs) (k := k.toNat) (by omega)
    have hcase := h2
    cases hcase with
    | list _ _ _ _ _ hl hh =>
    have hlen := hl row hmem
    refine ⟨row.map Dat.toV, All2.of (by simp [elC_len, hlen]) fun j x v hx hv => ?_, fun w hM m v hv => ?_⟩
    · obtain ⟨t, e1, rfl⟩ := elC_get s i _ 0 j hx
      rw [List.getElem?_map, Option.map_eq_some_iff] at hv
      obtain ⟨d, e2, rfl⟩ := hv
      refine ⟨d, fun e => ?_, hh row hmem j t d e1 e2, rfl, List.all_eq_true.1 hone t (List.mem_of_getElem? e1)⟩
      rw [mkElem_den]; simp only [den, h1 e, h3 e, Dat.xs, Dat.toInt, List.getD_eq_getElem?_getD, hrow, Option.getD_some, Nat.zero_add, e2]
    · rw [List.getElem?_map, Option.map_eq_some_iff] at hv
      obtain ⟨d, e2, rfl⟩ := hv
      have hok : OkD w (den E.Δ ρ s) := (den_good (p := fun k => AtL ρ k) (w := w) (fun d hd => ⟨(hM.holds _ List.mem_cons_self).1.1 d hd, fun k hk => ⟨d, hd, hk⟩⟩) s).1
      rw [h1.now] at hok
      cases hok with
      | list _ _ _ hr _ =>
      obtain ⟨ad, rfl, hcell⟩ := rd_cell (by
        obtain ⟨A', c', e, r1⟩ := hr
        cases e
        exact ⟨_, _, rfl, r1⟩) (flat_get hl hrow e2)
      exact hcell
  | oe j r i =>
    obtain ⟨n, c, k, h1, h3, h4, h5, rfl⟩ := hb
    simp only [cellsOf] at hc
    split at hc
    · rename_i r' t hj
      split at hc
      case isFalse => cases hc
      rename_i hone
      obtain ⟨rfl, hone⟩ := hone
      cases hc
      obtain ⟨v, f, g1, g2, A', n', c', xs, rfl, g3, g4, g5, rfl⟩ := hO.get j _ hj
      rw [h1] at g1
      cases g1
      subst g5
      obtain ⟨row, hrow, hmem⟩ := row_get (xs := xs) (k := k.toNat) (by omega)
      have hcase := g4
      cases hcase with
      | rows _ _ hl hh =>
      have hlen := hl row hmem
      refine ⟨row.map Dat.toV, All2.of (by simp [elC_len, hlen]) fun j x v hx hv => ?_, fun w hM m v hv => ?_⟩
      · obtain ⟨t', e1, rfl⟩ := elC_get t i _ 0 j hx
        rw [List.getElem?_map, Option.map_eq_some_iff] at hv
        obtain ⟨d, e2, rfl⟩ := hv
        refine ⟨d, fun e => ?_, hh row hmem j t' d e1 e2, rfl, List.all_eq_true.1 hone t' (List.mem_of_getElem? e1)⟩
        rw [mkElem_den]; simp only [den, g3 e, h3 e, Dat.xs, Dat.toInt, List.getD_eq_getElem?_getD, hrow, Option.getD_some, Nat.zero_add, e2]
      · rw [List.getElem?_map, Option.map_eq_some_iff] at hv
        obtain ⟨d, e2, rfl⟩ := hv
        have hr := (hM.ow (List.mem_cons_of_mem _ (List.mem_of_getElem? g2))).rd
        obtain ⟨ad, rfl, hcell⟩ := rd_cell hr (flat_get hl hrow e2)
        exact hcell
    · cases hc
end
end Go.Proofs.YtonjilfbcofoaaaDoor
