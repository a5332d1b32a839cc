/-
  Operations that only read, one kind after the other.
-/
import Derived.Test.YtonjilfbcofoaaaDoorSymC
import Derived.Test.YtonjilfbcofoaaaDoorKitV
namespace Go.Proofs.YtonjilfbcofoaaaDoor
open Go.RowKit
set_option linter.unusedVariables false

def arOf : BinOp → Option Ar
  | .add => some .add
  | .sub => some .sub
  | .mul => some .mul
  | .quo => some .quo
  | .rem => some .rem
  | .and => some .and
  | .or => some .or
  | .xor => some .xor
  | .andNot => some .andNot
  | _ => none
def cmpOf : BinOp → Option Cmp
  | .eql => some .eq
  | .neq => some .ne
  | .lss => some .lt
  | .leq => some .le
  | .gtr => some .gt
  | .geq => some .ge
  | _ => none
def shOf : BinOp → Option Ar
  | .shl => some .shl
  | .shr => some .shr
  | _ => none
def mkAr (o : Ar) (k : IntKind) : Tm → Tm → Tm
  | .int _ a, .int _ b => .int k (o.of k a b)
  | a, b => .ar o k a b
def mkCmp (c : Cmp) : Tm → Tm → Tm
  | .int _ a, .int _ b => .bool (c.of a b)
  | a, b => .cmp c a b
def mkNot : Tm → Tm
  | .bool b => .bool !b
  | a => .not a
def mkIte (c a b : Tm) : Tm := match c with
  | .bool true => a
  | .bool false => b
  | _ => if a = b then a else match a, b with
    | .bool true, .bool false => c
    | _, _ => .ite c a b
theorem mkAr_den (Δ : Tab) (ρ : List Dat) (o : Ar) (k : IntKind) (a b : Tm) : den Δ ρ (mkAr o k a b) = den Δ ρ (.ar o k a b) := by
  unfold mkAr; split <;> rfl
theorem mkCmp_den (Δ : Tab) (ρ : List Dat) (c : Cmp) (a b : Tm) : den Δ ρ (mkCmp c a b) = den Δ ρ (.cmp c a b) := by
  unfold mkCmp; split <;> rfl
theorem mkNot_den (Δ : Tab) (ρ : List Dat) (a : Tm) : den Δ ρ (mkNot a) = den Δ ρ (.not a) := by
  unfold mkNot; split <;> rfl
def unsig : IntKind → Bool
  | .u8 | .u16 | .u32 | .u64 => true
  | _ => false
def nonneg (k : IntKind) (u : Tm) : List Tm := [mkCmp .ge u (.int k 0)]
/-- cells that are all numbers -/
def intsOf : List C → Option (List Tm)
  | [] => some []
  | .p (.tm t s) :: l => if s = .int .i64 then (intsOf l).map (t :: ·) else none
  | _ :: _ => none
def eqAll : List Tm → List Tm → Tm
  | t :: l, u :: m => match l, m with
    | [], [] => mkCmp .eq t u
    | _, _ => .and (mkCmp .eq t u) (eqAll l m)
  | _, _ => .bool true
def boolT (P : Program) (t : TypeId) : Bool := match P.underlying t with
  | some .bool => true
  | _ => false
def ifaceT (P : Program) (t : TypeId) : Bool := match P.underlying t with
  | some (.interface _) => true
  | _ => false
def isAggT (P : Program) (t : TypeId) : Bool := match P.underlying t with
  | some (.struct _) => true
  | some (.array _ _) => true
  | _ => false
def nilO : Operand → Bool
  | .const .nilIface => true
  | _ => false
def nilS : Operand → Bool
  | .const (.slice none 0 0) => true
  | _ => false
def sliceT (P : Program) (t : TypeId) : Bool := match P.underlying t with
  | some (.slice _) => true
  | _ => false
def eqNe (op : BinOp) (t : Tm) : Option (AV × List Tm) := match op with
  | .eql => some (tmV t .bool, [])
  | .neq => some (tmV (mkNot t) .bool, [])
  | _ => none
def eqB (op : BinOp) (b : Bool) : Bool := match op with
  | .eql => b
  | _ => !b
def opdAgg : AV → Option (List C)
  | .v (.agg l) => some l
  | _ => none
/-- two strings -/
def strBin (op : BinOp) (t u : Tm) : Option (AV × List Tm) := match op with
  | .eql => some (tmV (.seq t u) .bool, [])
  | .neq => some (tmV (.not (.seq t u)) .bool, [])
  | .add => some (tmV (.sapp t u) .str, [.cmp .le (.slen (.sapp t u)) (.int .i64 9223372036854775807)])
  | _ => none
def evalBin (P : Program) (op : BinOp) (xT : TypeId) (x y : AV) (yo : Operand) : Option (AV × List Tm) := match opdI x, opdI y with
  | some (t, k), some (u, j) => match shOf op with
    | some r => some (tmV (mkAr r k t u) (.int k), nonneg j u)
    | none => if k = j then match cmpOf op with
        | some c => some (tmV (mkCmp c t u) .bool, [])
        | none => match arOf op with
          | some r => some (tmV (mkAr r k t u) (.int k), if r = .quo ∨ r = .rem then [mkCmp .ne u (.int k 0)] else [])
          | none => none
      else none
  | _, _ => match opdB x, opdB y with
    | some t, some u => if boolT P xT then eqNe op (.beq t u) else none
    | _, _ => match opdTm x with
      | some (t, .err) => if nilO yo && ifaceT P xT then eqNe op (.isnil t) else none
      | some (t, .list _) => if nilS yo && sliceT P xT then eqNe op (.isnil t) else none
      | some (t, .str) => match opdTm y with
        | some (u, .str) => strBin op t u
        | _ => none
      | _ => match opdAgg x, opdAgg y with
        | some xs, some ys => match intsOf xs, intsOf ys with
          | some ts, some us => if intsT P 5 xT ts.length && (us.length == ts.length) && isAggT P xT && !P.eqGuardType P.depth xT then eqNe op (eqAll ts us) else none
          | _, _ => none
        | _, _ => none
section
variable {E : Env} {w0 w : World} {ρ : List Dat} {σ : List Value} {l : List AV} {a : Act}
def obsOk (Δ : Tab) (ρ : List Dat) (obs : List Tm) : Prop := ∀ t ∈ obs, den Δ ρ t = .bool true
theorem run_intbin {P : Program} (xT : TypeId) (x y : Operand) (op : BinOp) (k : IntKind) (n m : Int) (w : World) (v : Value)
    (h : (binOp op xT (.int k n) (.int k m)).run P w = .ok v w) : Sem.run P (do eqGuard op xT x y (.int k n) (.int k m); binOp op xT (.int k n) (.int k m)) w = .ok v w := by
  have : (eqGuard op xT x y (.int k n) (.int k m)).run P w = .ok () w := by
    unfold eqGuard
    split <;> simp
  rw [Sem.run_bind, this]; exact h
theorem intsOf_ok {E : Env} {ρ : List Dat} {σ : List Value} : ∀ {l : List C} {vs : List Value} {ts : List Tm}, All2 (CR E ρ σ) l vs → intsOf l = some ts → ∃ ns : List Int, vs = ns.map (.int .i64) ∧ All2 (fun t n => Den E.Δ ρ t (.int .i64 n)) ts ns
  | [], _, ts, h, e => by cases h; cases e; exact ⟨[], rfl, .nil⟩
  | .p (.tm t s) :: l, _, ts, h, e => by
    cases h with
    | cons h1 h2 =>
    simp only [intsOf] at e
    split at e
    case isFalse => cases e
    rename_i hs
    subst hs
    simp only [Option.map_eq_some_iff] at e
    obtain ⟨ts', e1, rfl⟩ := e
    obtain ⟨ns, rfl, h3⟩ := intsOf_ok h2 e1
    obtain ⟨d, d1, d2, rfl, _⟩ := h1
    cases d2 with
    | int k n => exact ⟨n :: ns, rfl, .cons d1 h3⟩
  | .unk :: _, _, _, _, e => by simp [intsOf] at e
  | .undef :: _, _, _, _, e => by simp [intsOf] at e
  | .fn _ _ :: _, _, _, _, e => by simp [intsOf] at e
  | .p (.ref _ _ _) :: _, _, _, _, e => by simp [intsOf] at e
  | .p (.own _) :: _, _, _, _, e => by simp [intsOf] at e
  | .p .nils :: _, _, _, _, e => by simp [intsOf] at e
  | .p (.sb _ _ _ _) :: _, _, _, _, e => by simp [intsOf] at e
theorem eqAll_ok {Δ : Tab} {ρ : List Dat} {ts us : List Tm} {ns ms : List Int} (h : All2 (fun t n => Den Δ ρ t (.int .i64 n)) ts ns) (h' : All2 (fun t n => Den Δ ρ t (.int .i64 n)) us ms) (hl : us.length = ts.length) :
    Den Δ ρ (eqAll ts us) (.bool (decide (ns = ms))) := by
  induction h generalizing us ms with
  | nil =>
    have : us = [] := List.eq_nil_of_length_eq_zero (by simpa using hl)
    subst this
    cases h'
    intro e; simp [eqAll, den]
  | cons h1 h2 ih =>
    cases h' with
    | nil => cases hl
    | cons k1 k2 =>
      have hlen := by simpa using hl
      have ih' := ih k2 hlen
      rename_i t n ts ns u m us ms
      have hc : Den Δ ρ (mkCmp .eq t u) (.bool (n == m)) := fun e => by rw [mkCmp_den]; simp [den, h1 e, k1 e, Dat.toInt, Cmp.of]
      have hand : Den Δ ρ (.and (mkCmp .eq t u) (eqAll ts us)) (.bool (decide (n :: ns = m :: ms))) := fun e => by
        simp only [den, hc e, ih' e, Dat.toBool, List.cons.injEq, Bool.decide_and]
        congr 1
      cases ts with
      | nil =>
        cases us with
        | nil =>
          cases h2; cases k2
          intro e
          rw [eqAll, hc e]; simp; by_cases h : n = m <;> simp [h]
        | cons u' us => simp at hlen
      | cons t' ts =>
        cases us with
        | nil => simp at hlen
        | cons u' us => exact hand
theorem ints_of_list (ns : List Int) : (ns.map (Value.int .i64)).toArray = ints ns.length fun i => ns.getD i 0 := by
  apply Array.ext_getElem?
  intro i
  by_cases h : i < ns.length
  · rw [ints_get _ h]; simp [h]
  · rw [Array.getElem?_eq_none (by simp; omega), Array.getElem?_eq_none (by rw [ints_size]; omega)]
theorem sameTo_list (ns ms : List Int) (h : ms.length = ns.length) : sameTo (fun i => ns.getD i 0) (fun i => ms.getD i 0) 0 ns.length = decide (ns = ms) := by
  rw [sameTo_iff]
  refine decide_eq_decide.2 ⟨fun hi => ?_, fun e => by subst e; intros; rfl⟩
  apply List.ext_getElem? 
  intro i
  by_cases hlt : i < ns.length
  · have := hi i hlt
    simp only [List.getD_eq_getElem?_getD, List.getElem?_eq_getElem hlt, List.getElem?_eq_getElem (show i < ms.length by omega), Option.getD_some] at this
    rw [List.getElem?_eq_getElem hlt, List.getElem?_eq_getElem (show i < ms.length by omega), this]
  · rw [List.getElem?_eq_none (by omega), List.getElem?_eq_none (by omega)]
theorem opdAgg_ok {E : Env} {ρ : List Dat} {σ : List Value} {x : AV} {v : Value} {l : List C} (h : VR E ρ σ x v) (e : opdAgg x = some l) : ∃ vs, All2 (CR E ρ σ) l vs ∧ v = .agg vs.toArray := by
  unfold opdAgg at e
  split at e
  · cases e; exact h
  · cases e
theorem run_equal_bool {P : Program} {xT : TypeId} (h : boolT P xT = true) (a b : Bool) (w : World) : (Op.equal xT (.bool a) (.bool b)).run P w = .ok (a == b) w := by
  unfold boolT at h
  split at h
  · rename_i hu
    unfold Op.equal
    rw [show Op.maxDepth = 9999 + 1 from rfl]
    unfold Op.equalIn
    rw [Sem.run_bind, run_underlying hu w]
    rfl
  · cases h
theorem run_equal_nil {Δ : Tab} {P : Program} {xT : TypeId} (h : ifaceT P xT = true) {d : Dat} (hd : Has Δ .err d) (w : World) : (Op.equal xT d.toV .nilIface).run P w = .ok (isNilI d) w := by
  unfold ifaceT at h
  split at h
  · rename_i hu
    unfold Op.equal
    rw [show Op.maxDepth = 9999 + 1 from rfl]
    unfold Op.equalIn
    rw [Sem.run_bind, run_underlying hu w]
    cases hd <;> rfl
  · cases h
theorem run_equal_nils {P : Program} {xT : TypeId} (h : sliceT P xT = true) (A : Option Addr) (n c : Nat) (w : World) : (Op.equal xT (.slice A n c) (.slice none 0 0)).run P w = .ok A.isNone w := by
  unfold sliceT at h
  split at h
  · rename_i hu
    unfold Op.equal
    rw [show Op.maxDepth = 9999 + 1 from rfl]
    unfold Op.equalIn
    rw [Sem.run_bind, run_underlying hu w]
    cases A <;> rfl
  · cases h
theorem evalBin_ok {o : Oper} {op : BinOp} {xT yT : TypeId} {x y : Operand} {X Y : AV} (ho : o.op = .binOp op xT x y yT) (hx : VR E ρ σ X (a.eval x)) (hy : VR E ρ σ Y (a.eval y)) {r : AV} {obs : List Tm} (h : evalBin E.P op xT X Y y = some (r, obs))
    (hob : obsOk E.Δ ρ obs) : ∃ v, VR E ρ σ r v ∧ ∀ w, (execOp a.eval o).run E.P w = .ok (.value v) w := by
  have fin : ∀ {v : Value}, VR E ρ σ r v → (∀ w, Sem.run E.P (do eqGuard op xT x y (a.eval x) (a.eval y); binOp op xT (a.eval x) (a.eval y)) w = .ok v w) → ∃ v, VR E ρ σ r v ∧ ∀ w, (execOp a.eval o).run E.P w = .ok (.value v) w := fun {v} h1 h2 =>
    ⟨v, h1, fun w => by unfold execOp; simp only [ho]; rw [Sem.run_bind, h2 w]; rfl⟩
  have eqn : ∀ {t : Tm} {b : Bool}, eqNe op t = some (r, obs) → Den E.Δ ρ t (.bool b) → (∀ w, Sem.run E.P (eqGuard op xT x y (a.eval x) (a.eval y)) w = .ok () w) → (∀ w, (binOp op xT (a.eval x) (a.eval y)).run E.P w = .ok (.bool (eqB op b)) w) →
      ∃ v, VR E ρ σ r v ∧ ∀ w, (execOp a.eval o).run E.P w = .ok (.value v) w := fun {t b} h1 h2 h3 h4 => by
    unfold eqNe at h1
    split at h1
    · cases h1
      exact fin (VR.ofTm h2 (.bool b) rfl) fun w => by rw [Sem.run_bind, h3 w]; exact h4 w
    · cases h1
      have hD : Den E.Δ ρ (mkNot t) (.bool !b) := fun e => by rw [mkNot_den]; simp [den, h2 e, Dat.toBool]
      exact fin (VR.ofTm hD (.bool _) rfl) fun w => by rw [Sem.run_bind, h3 w]; exact h4 w
    · cases h1
  unfold evalBin at h
  split at h
  · rename_i t k u j ex ey
    obtain ⟨n, d1, e1⟩ := opdI_ok hx ex
    obtain ⟨m, d2, e2⟩ := opdI_ok hy ey
    split at h
    · rename_i r' hr
      cases h
      have hm : 0 ≤ m := by
        have := hob _ (by simp [nonneg]; rfl)
        rw [mkCmp_den] at this
        simpa [den, d2.now, Dat.toInt, Cmp.of] using this
      have hD : Den E.Δ ρ (mkAr r' k t u) (.int k (r'.of k n m)) := fun e => by rw [mkAr_den]; simp [den, d1 e, d2 e, Dat.toInt]
      refine fin (VR.ofTm hD (.int _ _) rfl) fun w => ?_
      rw [e1, e2]
      unfold shOf at hr
      split at hr <;> cases hr <;> simp [eqGuard, binOp, Op.shift, Dat.toV, Ar.of, show ¬ m < 0 by omega]
    · split at h
      case isFalse => cases h
      rename_i hkj
      subst hkj
      split at h
      · rename_i c hc
        cases h
        have hD : Den E.Δ ρ (mkCmp c t u) (.bool (c.of n m)) := fun e => by rw [mkCmp_den]; simp [den, d1 e, d2 e, Dat.toInt]
        refine fin (VR.ofTm hD (.bool _) rfl) fun w => ?_
        rw [e1, e2]
        refine run_intbin xT x y op k n m w _ ?_
        unfold cmpOf at hc
        split at hc <;> cases hc <;> simp [binOp, Op.intCmp, Dat.toV, Cmp.of]
      · split at h
        · rename_i r' hr
          cases h
          have hD : Den E.Δ ρ (mkAr r' k t u) (.int k (r'.of k n m)) := fun e => by rw [mkAr_den]; simp [den, d1 e, d2 e, Dat.toInt]
          refine fin (VR.ofTm hD (.int _ _) rfl) fun w => ?_
          rw [e1, e2]
          refine run_intbin xT x y op k n m w _ ?_
          have hz : (r' = .quo ∨ r' = .rem) → m ≠ 0 := fun hq => by
            have := hob (mkCmp .ne u (.int k 0)) (by rw [if_pos hq]; simp)
            rw [mkCmp_den] at this
            simpa [den, d2.now, Dat.toInt, Cmp.of] using this
          unfold arOf at hr
          split at hr <;> cases hr <;> simp [binOp, Op.intArith, Op.intDiv, Op.intBits, Dat.toV, Ar.of, bitsOf, hz]
        · cases h
  · split at h
    · rename_i t u ex ey
      obtain ⟨n, d1, e1⟩ := opdB_ok hx ex
      obtain ⟨m, d2, e2⟩ := opdB_ok hy ey
      split at h
      case isFalse => cases h
      rename_i hT
      refine eqn (b := n == m) h (fun e => by simp [den, d1 e, d2 e, Dat.toBool]) (fun w => ?_) fun w => ?_
      · rw [e1, e2]; unfold eqGuard; split <;> simp
      · rw [e1, e2]
        unfold eqNe at h
        split at h
        · simp [binOp, Sem.run_bind, run_equal_bool hT, eqB]
        · simp [binOp, Sem.run_bind, run_equal_bool hT, eqB]
        · cases h
    · split at h
      · rename_i t ex
        obtain ⟨d, d1, d2, e1, _⟩ := opdTm_ok hx ex
        split at h
        case isFalse => cases h
        rename_i hT
        rw [Bool.and_eq_true] at hT
        obtain ⟨hN, hT⟩ := hT
        have hy0 : y = .const .nilIface := by
          unfold nilO at hN
          split at hN
          · rfl
          · cases hN
        subst hy0
        have e2 : a.eval (.const .nilIface) = .nilIface := rfl
        refine eqn (b := isNilI d) h (fun e => by simp [den, d1 e]) (fun w => ?_) fun w => ?_
        · rw [e1, e2]; unfold eqGuard; cases d2 <;> simp [Dat.toV] <;> split <;> simp
        · rw [e1, e2]
          have hr := run_equal_nil (Δ := E.Δ) hT d2 w
          unfold eqNe at h
          split at h
          · cases d2 <;> simp only [Dat.toV] at hr ⊢ <;> simp [binOp, Sem.run_bind, hr, eqB]
          · cases d2 <;> simp only [Dat.toV] at hr ⊢ <;> simp [binOp, Sem.run_bind, hr, eqB]
          · cases h
      · rename_i t r' ex
        obtain ⟨d, d1, d2, e1, _⟩ := opdTm_ok hx ex
        split at h
        case isFalse => cases h
        rename_i hT
        rw [Bool.and_eq_true] at hT
        obtain ⟨hN, hT⟩ := hT
        have hy0 : y = .const (.slice none 0 0) := by
          unfold nilS at hN
          split at hN
          · rfl
          · cases hN
        subst hy0
        have e2 : a.eval (.const (.slice none 0 0)) = .slice none 0 0 := rfl
        cases d2 with
        | list _ A n c xs _ _ =>
        have hb : isNilI (.list (.slice A n c) (E.Δ.row r').length xs) = A.isNone := by cases A <;> rfl
        refine eqn (b := A.isNone) h (fun e => by simp [den, d1 e, hb]) (fun w => ?_) fun w => ?_
        · rw [e1, e2]; unfold eqGuard; simp only [Dat.toV]; split <;> simp
        · rw [e1, e2]
          have hr := run_equal_nils hT A n c w
          unfold eqNe at h
          split at h
          · simp only [Dat.toV]; simp [binOp, Sem.run_bind, hr, eqB]
          · simp only [Dat.toV]; simp [binOp, Sem.run_bind, hr, eqB]
          · cases h
      · rename_i t ex
        obtain ⟨d, d1, d2, e1, _⟩ := opdTm_ok hx ex
        split at h
        case h_2 => cases h
        rename_i u ey
        obtain ⟨d', g1, g2, e2, _⟩ := opdTm_ok hy ey
        cases d2 with
        | str s1 =>
        cases g2 with
        | str s2 =>
        have hgd : ∀ w, Sem.run E.P (eqGuard op xT x y (.string s1) (.string s2)) w = .ok () w := fun w => by unfold eqGuard; split <;> simp
        unfold strBin at h
        split at h
        · cases h
          refine fin (VR.ofTm (d := .bool (s1.toList == s2.toList)) (fun e => by simp only [den, d1 e, g1 e, strD]) (.bool _) rfl) fun w => ?_
          simp only [e1, e2, Dat.toV]
          rw [Sem.run_bind, hgd w]
          simp [binOp, Op.stringOp]
        · cases h
          refine fin (VR.ofTm (d := .bool !(s1.toList == s2.toList)) (fun e => by simp only [den, d1 e, g1 e, strD, Dat.toBool]) (.bool _) rfl) fun w => ?_
          simp only [e1, e2, Dat.toV]
          rw [Sem.run_bind, hgd w]
          simp [binOp, Op.stringOp]
        · cases h
          refine fin (VR.ofTm (d := .val (.string (s1 ++ s2))) (fun e => by simp only [den, d1 e, g1 e, strD]) (.str _) rfl) fun w => ?_
          have hle := hob _ (List.mem_singleton.2 rfl)
          simp only [den, d1.now, g1.now, strD, Cmp.of, Dat.toInt, Dat.bool.injEq, decide_eq_true_eq, ByteArray.size_append] at hle
          simp only [e1, e2, Dat.toV]
          rw [Sem.run_bind, hgd w]
          have hs : s1.size + s2.size ≤ 9223372036854775807 := by omega
          exact run_string_add_sum (P := E.P) (w := w) (a := s1) (b := s2) hs
        · cases h
      · split at h
        · rename_i xs ys ex ey
          obtain ⟨vs, d1, e1⟩ := opdAgg_ok hx ex
          obtain ⟨us, d2, e2⟩ := opdAgg_ok hy ey
          split at h
          case h_2 => cases h
          rename_i ts us' i1 i2
          split at h
          case isFalse => cases h
          rename_i hT
          simp only [Bool.and_eq_true, beq_iff_eq, Bool.not_eq_true'] at hT
          obtain ⟨⟨⟨h1, h2⟩, h3⟩, h4⟩ := hT
          obtain ⟨ns, rfl, n1⟩ := intsOf_ok d1 i1
          obtain ⟨ms, rfl, n2⟩ := intsOf_ok d2 i2
          have l1 := n1.length
          have l2 := n2.length
          have hlen : ms.length = ns.length := by omega
          rw [l1] at h1
          have hag : aggT E.P xT := by
            unfold isAggT at h3
            split at h3
            · exact .inr ⟨_, by assumption⟩
            · exact .inl ⟨_, _, by assumption⟩
            · cases h3
          refine eqn (b := decide (ns = ms)) h (eqAll_ok n1 n2 h2) (fun w => ?_) fun w => ?_
          · rw [e1, e2]; exact run_eqGuard_agg (P := E.P) w op xT x y _ _ h4
          · rw [e1, e2, ints_of_list, ints_of_list, hlen, ← sameTo_list ns ms hlen]
            unfold eqNe at h
            split at h
            · exact run_eql_ints h1 (by decide) hag _ _ w
            · exact run_neq_ints h1 (by decide) hag _ _ w
            · cases h
        · cases h
end
end Go.Proofs.YtonjilfbcofoaaaDoor
