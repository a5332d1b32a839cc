import Derived.Test.YtcigbgpdikadpaaDoorM2
import Derived.Test.YtcigbgpdikadpaaDoorM0

set_option linter.unusedVariables false
set_option linter.unusedSimpArgs false

section
namespace Go.Proofs.YtcigbgpdikadpaaDoor
open Go.RowKit
set_option linter.unusedVariables false

def arOf : BinOp → Option Ar
  | .add => some .add
  | .sub => some .sub
  | .mul => some .mul
  | .quo => some .quo
  | .rem => some .rem
  | .and => some .and
  | .or => some .or
  | .xor => some .xor
  | .andNot => some .andNot
  | _ => none
def cmpOf : BinOp → Option Cmp
  | .eql => some .eq
  | .neq => some .ne
  | .lss => some .lt
  | .leq => some .le
  | .gtr => some .gt
  | .geq => some .ge
  | _ => none
def shOf : BinOp → Option Ar
  | .shl => some .shl
  | .shr => some .shr
  | _ => none
def mkAr (o : Ar) (k : IntKind) : Tm → Tm → Tm
  | .int _ a, .int _ b => .int k (o.of k a b)
  | a, b => .ar o k a b
def mkCmp (c : Cmp) : Tm → Tm → Tm
  | .int _ a, .int _ b => .bool (c.of a b)
  | a, b => .cmp c a b
def mkNot : Tm → Tm
  | .bool b => .bool !b
  | a => .not a
def mkIte (c a b : Tm) : Tm := match c with
  | .bool true => a
  | .bool false => b
  | _ => if a = b then a else match a, b with
    | .bool true, .bool false => c
    | _, _ => .ite c a b
theorem mkAr_den (Δ : Tab) (ρ : List Dat) (o : Ar) (k : IntKind) (a b : Tm) : den Δ ρ (mkAr o k a b) = den Δ ρ (.ar o k a b) := by
  unfold mkAr; split <;> rfl
theorem mkCmp_den (Δ : Tab) (ρ : List Dat) (c : Cmp) (a b : Tm) : den Δ ρ (mkCmp c a b) = den Δ ρ (.cmp c a b) := by
  unfold mkCmp; split <;> rfl
theorem mkNot_den (Δ : Tab) (ρ : List Dat) (a : Tm) : den Δ ρ (mkNot a) = den Δ ρ (.not a) := by
  unfold mkNot; split <;> rfl
def unsig : IntKind → Bool
  | .u8 | .u16 | .u32 | .u64 => true
  | _ => false
def nonneg (k : IntKind) (u : Tm) : List Tm := [mkCmp .ge u (.int k 0)]
/-- cells that are all numbers -/
def intsOf : List C → Option (List Tm)
  | [] => some []
  | .p (.tm t s) :: l => if s = .int .i64 then (intsOf l).map (t :: ·) else none
  | _ :: _ => none
def eqAll : List Tm → List Tm → Tm
  | t :: l, u :: m => match l, m with
    | [], [] => mkCmp .eq t u
    | _, _ => .and (mkCmp .eq t u) (eqAll l m)
  | _, _ => .bool true
def boolT (P : Program) (t : TypeId) : Bool := match P.underlying t with
  | some .bool => true
  | _ => false
def ifaceT (P : Program) (t : TypeId) : Bool := match P.underlying t with
  | some (.interface _) => true
  | _ => false
def isAggT (P : Program) (t : TypeId) : Bool := match P.underlying t with
  | some (.struct _) => true
  | some (.array _ _) => true
  | _ => false
def nilO : Operand → Bool
  | .const .nilIface => true
  | _ => false
def nilS : Operand → Bool
  | .const (.slice none 0 0) => true
  | _ => false
def sliceT (P : Program) (t : TypeId) : Bool := match P.underlying t with
  | some (.slice _) => true
  | _ => false
def eqNe (op : BinOp) (t : Tm) : Option (AV × List Tm) := match op with
  | .eql => some (tmV t .bool, [])
  | .neq => some (tmV (mkNot t) .bool, [])
  | _ => none
def eqB (op : BinOp) (b : Bool) : Bool := match op with
  | .eql => b
  | _ => !b
def opdAgg : AV → Option (List C)
  | .v (.agg l) => some l
  | _ => none
/-- two strings -/
def strBin (op : BinOp) (t u : Tm) : Option (AV × List Tm) := match op with
  | .eql => some (tmV (.seq t u) .bool, [])
  | .neq => some (tmV (.not (.seq t u)) .bool, [])
  | .add => some (tmV (.sapp t u) .str, [.cmp .le (.slen (.sapp t u)) (.int .i64 9223372036854775807)])
  | _ => none
def evalBin (P : Program) (op : BinOp) (xT : TypeId) (x y : AV) (yo : Operand) : Option (AV × List Tm) := match opdI x, opdI y with
  | some (t, k), some (u, j) => match shOf op with
    | some r => some (tmV (mkAr r k t u) (.int k), nonneg j u)
    | none => if k = j then match cmpOf op with
        | some c => some (tmV (mkCmp c t u) .bool, [])
        | none => match arOf op with
          | some r => some (tmV (mkAr r k t u) (.int k), if r = .quo ∨ r = .rem then [mkCmp .ne u (.int k 0)] else [])
          | none => none
      else none
  | _, _ => match opdB x, opdB y with
    | some t, some u => if boolT P xT then eqNe op (.beq t u) else none
    | _, _ => match opdTm x with
      | some (t, .err) => if nilO yo && ifaceT P xT then eqNe op (.isnil t) else none
      | some (t, .list _) => if nilS yo && sliceT P xT then eqNe op (.isnil t) else none
      | some (t, .str) => match opdTm y with
        | some (u, .str) => strBin op t u
        | _ => none
      | _ => match opdAgg x, opdAgg y with
        | some xs, some ys => match intsOf xs, intsOf ys with
          | some ts, some us => if intsT P 5 xT ts.length && (us.length == ts.length) && isAggT P xT && !P.eqGuardType P.depth xT then eqNe op (eqAll ts us) else none
          | _, _ => none
        | _, _ => none
section
variable {E : Env} {w0 w : World} {ρ : List Dat} {σ : List Value} {l : List AV} {a : Act}
def obsOk (Δ : Tab) (ρ : List Dat) (obs : List Tm) : Prop := ∀ t ∈ obs, den Δ ρ t = .bool true
theorem run_intbin {P : Program} (xT : TypeId) (x y : Operand) (op : BinOp) (k : IntKind) (n m : Int) (w : World) (v : Value)
    (h : (binOp op xT (.int k n) (.int k m)).run P w = .ok v w) : Sem.run P (do eqGuard op xT x y (.int k n) (.int k m); binOp op xT (.int k n) (.int k m)) w = .ok v w := by
  have : (eqGuard op xT x y (.int k n) (.int k m)).run P w = .ok () w := by
    unfold eqGuard
    split <;> simp
  rw [Sem.run_bind, this]; exact h
theorem intsOf_ok {E : Env} {ρ : List Dat} {σ : List Value} : ∀ {l : List C} {vs : List Value} {ts : List Tm}, All2 (CR E ρ σ) l vs → intsOf l = some ts → ∃ ns : List Int, vs = ns.map (.int .i64) ∧ All2 (fun t n => Den E.Δ ρ t (.int .i64 n)) ts ns
  | [], _, ts, h, e => by cases h; cases e; exact ⟨[], rfl, .nil⟩
  | .p (.tm t s) :: l, _, ts, h, e => by
    cases h with
    | cons h1 h2 =>
    simp only [intsOf] at e
    split at e
    case isFalse => cases e
    rename_i hs
    subst hs
    simp only [Option.map_eq_some_iff] at e
    obtain ⟨ts', e1, rfl⟩ := e
    obtain ⟨ns, rfl, h3⟩ := intsOf_ok h2 e1
    obtain ⟨d, d1, d2, rfl, _⟩ := h1
    cases d2 with
    | int k n => exact ⟨n :: ns, rfl, .cons d1 h3⟩
  | .unk :: _, _, _, _, e => by simp [intsOf] at e
  | .undef :: _, _, _, _, e => by simp [intsOf] at e
  | .fn _ _ :: _, _, _, _, e => by simp [intsOf] at e
  | .p (.ref _ _ _) :: _, _, _, _, e => by simp [intsOf] at e
  | .p (.own _) :: _, _, _, _, e => by simp [intsOf] at e
  | .p .nils :: _, _, _, _, e => by simp [intsOf] at e
  | .p (.sb _ _ _ _) :: _, _, _, _, e => by simp [intsOf] at e
theorem eqAll_ok {Δ : Tab} {ρ : List Dat} {ts us : List Tm} {ns ms : List Int} (h : All2 (fun t n => Den Δ ρ t (.int .i64 n)) ts ns) (h' : All2 (fun t n => Den Δ ρ t (.int .i64 n)) us ms) (hl : us.length = ts.length) :
    Den Δ ρ (eqAll ts us) (.bool (decide (ns = ms))) := by
  induction h generalizing us ms with
  | nil =>
    have : us = [] := List.eq_nil_of_length_eq_zero (by simpa using hl)
    subst this
    cases h'
    intro e; simp [eqAll, den]
  | cons h1 h2 ih =>
    cases h' with
    | nil => cases hl
    | cons k1 k2 =>
      have hlen := by simpa using hl
      have ih' := ih k2 hlen
      rename_i t n ts ns u m us ms
      have hc : Den Δ ρ (mkCmp .eq t u) (.bool (n == m)) := fun e => by rw [mkCmp_den]; simp [den, h1 e, k1 e, Dat.toInt, Cmp.of]
      have hand : Den Δ ρ (.and (mkCmp .eq t u) (eqAll ts us)) (.bool (decide (n :: ns = m :: ms))) := fun e => by
        simp only [den, hc e, ih' e, Dat.toBool, List.cons.injEq, Bool.decide_and]
        congr 1
      cases ts with
      | nil =>
        cases us with
        | nil =>
          cases h2; cases k2
          intro e
          rw [eqAll, hc e]; simp; by_cases h : n = m <;> simp [h]
        | cons u' us => simp at hlen
      | cons t' ts =>
        cases us with
        | nil => simp at hlen
        | cons u' us => exact hand
theorem ints_of_list (ns : List Int) : (ns.map (Value.int .i64)).toArray = ints ns.length fun i => ns.getD i 0 := by
  apply Array.ext_getElem?
  intro i
  by_cases h : i < ns.length
  · rw [ints_get _ h]; simp [h]
  · rw [Array.getElem?_eq_none (by simp; omega), Array.getElem?_eq_none (by rw [ints_size]; omega)]
theorem sameTo_list (ns ms : List Int) (h : ms.length = ns.length) : sameTo (fun i => ns.getD i 0) (fun i => ms.getD i 0) 0 ns.length = decide (ns = ms) := by
  rw [sameTo_iff]
  refine decide_eq_decide.2 ⟨fun hi => ?_, fun e => by subst e; intros; rfl⟩
  apply List.ext_getElem? 
  intro i
  by_cases hlt : i < ns.length
  · have := hi i hlt
    simp only [List.getD_eq_getElem?_getD, List.getElem?_eq_getElem hlt, List.getElem?_eq_getElem (show i < ms.length by omega), Option.getD_some] at this
    rw [List.getElem?_eq_getElem hlt, List.getElem?_eq_getElem (show i < ms.length by omega), this]
  · rw [List.getElem?_eq_none (by omega), List.getElem?_eq_none (by omega)]
theorem opdAgg_ok {E : Env} {ρ : List Dat} {σ : List Value} {x : AV} {v : Value} {l : List C} (h : VR E ρ σ x v) (e : opdAgg x = some l) : ∃ vs, All2 (CR E ρ σ) l vs ∧ v = .agg vs.toArray := by
  unfold opdAgg at e
  split at e
  · cases e; exact h
  · cases e
theorem run_equal_bool {P : Program} {xT : TypeId} (h : boolT P xT = true) (a b : Bool) (w : World) : (Op.equal xT (.bool a) (.bool b)).run P w = .ok (a == b) w := by
  unfold boolT at h
  split at h
  · rename_i hu
    unfold Op.equal
    rw [show Op.maxDepth = 9999 + 1 from rfl]
    unfold Op.equalIn
    rw [Sem.run_bind, run_underlying hu w]
    rfl
  · cases h
theorem run_equal_nil {Δ : Tab} {P : Program} {xT : TypeId} (h : ifaceT P xT = true) {d : Dat} (hd : Has Δ .err d) (w : World) : (Op.equal xT d.toV .nilIface).run P w = .ok (isNilI d) w := by
  unfold ifaceT at h
  split at h
  · rename_i hu
    unfold Op.equal
    rw [show Op.maxDepth = 9999 + 1 from rfl]
    unfold Op.equalIn
    rw [Sem.run_bind, run_underlying hu w]
    cases hd <;> rfl
  · cases h
theorem run_equal_nils {P : Program} {xT : TypeId} (h : sliceT P xT = true) (A : Option Addr) (n c : Nat) (w : World) : (Op.equal xT (.slice A n c) (.slice none 0 0)).run P w = .ok A.isNone w := by
  unfold sliceT at h
  split at h
  · rename_i hu
    unfold Op.equal
    rw [show Op.maxDepth = 9999 + 1 from rfl]
    unfold Op.equalIn
    rw [Sem.run_bind, run_underlying hu w]
    cases A <;> rfl
  · cases h
theorem evalBin_ok {o : Oper} {op : BinOp} {xT yT : TypeId} {x y : Operand} {X Y : AV} (ho : o.op = .binOp op xT x y yT) (hx : VR E ρ σ X (a.eval x)) (hy : VR E ρ σ Y (a.eval y)) {r : AV} {obs : List Tm} (h : evalBin E.P op xT X Y y = some (r, obs))
    (hob : obsOk E.Δ ρ obs) : ∃ v, VR E ρ σ r v ∧ ∀ w, (execOp a.eval o).run E.P w = .ok (.value v) w := by
  have fin : ∀ {v : Value}, VR E ρ σ r v → (∀ w, Sem.run E.P (do eqGuard op xT x y (a.eval x) (a.eval y); binOp op xT (a.eval x) (a.eval y)) w = .ok v w) → ∃ v, VR E ρ σ r v ∧ ∀ w, (execOp a.eval o).run E.P w = .ok (.value v) w := fun {v} h1 h2 =>
    ⟨v, h1, fun w => by unfold execOp; simp only [ho]; rw [Sem.run_bind, h2 w]; rfl⟩
  have eqn : ∀ {t : Tm} {b : Bool}, eqNe op t = some (r, obs) → Den E.Δ ρ t (.bool b) → (∀ w, Sem.run E.P (eqGuard op xT x y (a.eval x) (a.eval y)) w = .ok () w) → (∀ w, (binOp op xT (a.eval x) (a.eval y)).run E.P w = .ok (.bool (eqB op b)) w) →
      ∃ v, VR E ρ σ r v ∧ ∀ w, (execOp a.eval o).run E.P w = .ok (.value v) w := fun {t b} h1 h2 h3 h4 => by
    unfold eqNe at h1
    split at h1
    · cases h1
      exact fin (VR.ofTm h2 (.bool b) rfl) fun w => by rw [Sem.run_bind, h3 w]; exact h4 w
    · cases h1
      have hD : Den E.Δ ρ (mkNot t) (.bool !b) := fun e => by rw [mkNot_den]; simp [den, h2 e, Dat.toBool]
      exact fin (VR.ofTm hD (.bool _) rfl) fun w => by rw [Sem.run_bind, h3 w]; exact h4 w
    · cases h1
  unfold evalBin at h
  split at h
  · rename_i t k u j ex ey
    obtain ⟨n, d1, e1⟩ := opdI_ok hx ex
    obtain ⟨m, d2, e2⟩ := opdI_ok hy ey
    split at h
    · rename_i r' hr
      cases h
      have hm : 0 ≤ m := by
        have := hob _ (by simp [nonneg]; rfl)
        rw [mkCmp_den] at this
        simpa [den, d2.now, Dat.toInt, Cmp.of] using this
      have hD : Den E.Δ ρ (mkAr r' k t u) (.int k (r'.of k n m)) := fun e => by rw [mkAr_den]; simp [den, d1 e, d2 e, Dat.toInt]
      refine fin (VR.ofTm hD (.int _ _) rfl) fun w => ?_
      rw [e1, e2]
      unfold shOf at hr
      split at hr <;> cases hr <;> simp [eqGuard, binOp, Op.shift, Dat.toV, Ar.of, show ¬ m < 0 by omega]
    · split at h
      case isFalse => cases h
      rename_i hkj
      subst hkj
      split at h
      · rename_i c hc
        cases h
        have hD : Den E.Δ ρ (mkCmp c t u) (.bool (c.of n m)) := fun e => by rw [mkCmp_den]; simp [den, d1 e, d2 e, Dat.toInt]
        refine fin (VR.ofTm hD (.bool _) rfl) fun w => ?_
        rw [e1, e2]
        refine run_intbin xT x y op k n m w _ ?_
        unfold cmpOf at hc
        split at hc <;> cases hc <;> simp [binOp, Op.intCmp, Dat.toV, Cmp.of]
      · split at h
        · rename_i r' hr
          cases h
          have hD : Den E.Δ ρ (mkAr r' k t u) (.int k (r'.of k n m)) := fun e => by rw [mkAr_den]; simp [den, d1 e, d2 e, Dat.toInt]
          refine fin (VR.ofTm hD (.int _ _) rfl) fun w => ?_
          rw [e1, e2]
          refine run_intbin xT x y op k n m w _ ?_
          have hz : (r' = .quo ∨ r' = .rem) → m ≠ 0 := fun hq => by
            have := hob (mkCmp .ne u (.int k 0)) (by rw [if_pos hq]; simp)
            rw [mkCmp_den] at this
            simpa [den, d2.now, Dat.toInt, Cmp.of] using this
          unfold arOf at hr
          split at hr <;> cases hr <;> simp [binOp, Op.intArith, Op.intDiv, Op.intBits, Dat.toV, Ar.of, bitsOf, hz]
        · cases h
  · split at h
    · rename_i t u ex ey
      obtain ⟨n, d1, e1⟩ := opdB_ok hx ex
      obtain ⟨m, d2, e2⟩ := opdB_ok hy ey
      split at h
      case isFalse => cases h
      rename_i hT
      refine eqn (b := n == m) h (fun e => by simp [den, d1 e, d2 e, Dat.toBool]) (fun w => ?_) fun w => ?_
      · rw [e1, e2]; unfold eqGuard; split <;> simp
      · rw [e1, e2]
        unfold eqNe at h
        split at h
        · simp [binOp, Sem.run_bind, run_equal_bool hT, eqB]
        · simp [binOp, Sem.run_bind, run_equal_bool hT, eqB]
        · cases h
    · split at h
      · rename_i t ex
        obtain ⟨d, d1, d2, e1, _⟩ := opdTm_ok hx ex
        split at h
        case isFalse => cases h
        rename_i hT
        rw [Bool.and_eq_true] at hT
        obtain ⟨hN, hT⟩ := hT
        have hy0 : y = .const .nilIface := by
          unfold nilO at hN
          split at hN
          · rfl
          · cases hN
        subst hy0
        have e2 : a.eval (.const .nilIface) = .nilIface := rfl
        refine eqn (b := isNilI d) h (fun e => by simp [den, d1 e]) (fun w => ?_) fun w => ?_
        · rw [e1, e2]; unfold eqGuard; cases d2 <;> simp [Dat.toV] <;> split <;> simp
        · rw [e1, e2]
          have hr := run_equal_nil (Δ := E.Δ) hT d2 w
          unfold eqNe at h
          split at h
          · cases d2 <;> simp only [Dat.toV] at hr ⊢ <;> simp [binOp, Sem.run_bind, hr, eqB]
          · cases d2 <;> simp only [Dat.toV] at hr ⊢ <;> simp [binOp, Sem.run_bind, hr, eqB]
          · cases h
      · rename_i t r' ex
        obtain ⟨d, d1, d2, e1, _⟩ := opdTm_ok hx ex
        split at h
        case isFalse => cases h
        rename_i hT
        rw [Bool.and_eq_true] at hT
        obtain ⟨hN, hT⟩ := hT
        have hy0 : y = .const (.slice none 0 0) := by
          unfold nilS at hN
          split at hN
          · rfl
          · cases hN
        subst hy0
        have e2 : a.eval (.const (.slice none 0 0)) = .slice none 0 0 := rfl
        cases d2 with
        | list _ A n c xs _ _ =>
        have hb : isNilI (.list (.slice A n c) (E.Δ.row r').length xs) = A.isNone := by cases A <;> rfl
        refine eqn (b := A.isNone) h (fun e => by simp [den, d1 e, hb]) (fun w => ?_) fun w => ?_
        · rw [e1, e2]; unfold eqGuard; simp only [Dat.toV]; split <;> simp
        · rw [e1, e2]
          have hr := run_equal_nils hT A n c w
          unfold eqNe at h
          split at h
          · simp only [Dat.toV]; simp [binOp, Sem.run_bind, hr, eqB]
          · simp only [Dat.toV]; simp [binOp, Sem.run_bind, hr, eqB]
          · cases h
      · rename_i t ex
        obtain ⟨d, d1, d2, e1, _⟩ := opdTm_ok hx ex
        split at h
        case h_2 => cases h
        rename_i u ey
        obtain ⟨d', g1, g2, e2, _⟩ := opdTm_ok hy ey
        cases d2 with
        | str s1 =>
        cases g2 with
        | str s2 =>
        have hgd : ∀ w, Sem.run E.P (eqGuard op xT x y (.string s1) (.string s2)) w = .ok () w := fun w => by unfold eqGuard; split <;> simp
        unfold strBin at h
        split at h
        · cases h
          refine fin (VR.ofTm (d := .bool (s1.toList == s2.toList)) (fun e => by simp only [den, d1 e, g1 e, strD]) (.bool _) rfl) fun w => ?_
          simp only [e1, e2, Dat.toV]
          rw [Sem.run_bind, hgd w]
          simp [binOp, Op.stringOp]
        · cases h
          refine fin (VR.ofTm (d := .bool !(s1.toList == s2.toList)) (fun e => by simp only [den, d1 e, g1 e, strD, Dat.toBool]) (.bool _) rfl) fun w => ?_
          simp only [e1, e2, Dat.toV]
          rw [Sem.run_bind, hgd w]
          simp [binOp, Op.stringOp]
        · cases h
          refine fin (VR.ofTm (d := .val (.string (s1 ++ s2))) (fun e => by simp only [den, d1 e, g1 e, strD]) (.str _) rfl) fun w => ?_
          have hle := hob _ (List.mem_singleton.2 rfl)
          simp only [den, d1.now, g1.now, strD, Cmp.of, Dat.toInt, Dat.bool.injEq, decide_eq_true_eq, ByteArray.size_append] at hle
          simp only [e1, e2, Dat.toV]
          rw [Sem.run_bind, hgd w]
          have hs : s1.size + s2.size ≤ 9223372036854775807 := by omega
          exact run_string_add_sum (P := E.P) (w := w) (a := s1) (b := s2) hs
        · cases h
      · split at h
        · rename_i xs ys ex ey
          obtain ⟨vs, d1, e1⟩ := opdAgg_ok hx ex
          obtain ⟨us, d2, e2⟩ := opdAgg_ok hy ey
          split at h
          case h_2 => cases h
          rename_i ts us' i1 i2
          split at h
          case isFalse => cases h
          rename_i hT
          simp only [Bool.and_eq_true, beq_iff_eq, Bool.not_eq_true'] at hT
          obtain ⟨⟨⟨h1, h2⟩, h3⟩, h4⟩ := hT
          obtain ⟨ns, rfl, n1⟩ := intsOf_ok d1 i1
          obtain ⟨ms, rfl, n2⟩ := intsOf_ok d2 i2
          have l1 := n1.length
          have l2 := n2.length
          have hlen : ms.length = ns.length := by omega
          rw [l1] at h1
          have hag : aggT E.P xT := by
            unfold isAggT at h3
            split at h3
            · exact .inr ⟨_, by assumption⟩
            · exact .inl ⟨_, _, by assumption⟩
            · cases h3
          refine eqn (b := decide (ns = ms)) h (eqAll_ok n1 n2 h2) (fun w => ?_) fun w => ?_
          · rw [e1, e2]; exact run_eqGuard_agg (P := E.P) w op xT x y _ _ h4
          · rw [e1, e2, ints_of_list, ints_of_list, hlen, ← sameTo_list ns ms hlen]
            unfold eqNe at h
            split at h
            · exact run_eql_ints h1 (by decide) hag _ _ w
            · exact run_neq_ints h1 (by decide) hag _ _ w
            · cases h
        · cases h
end
end Go.Proofs.YtcigbgpdikadpaaDoor
end

section
namespace Go.Proofs.YtcigbgpdikadpaaDoor
open Go.RowKit
set_option linter.unusedVariables false

def rowT (P : Program) (t : TypeId) : Option Bool := (P.underlying t).map (·.isRow)
def szT (P : Program) (t : TypeId) : Option Nat := (P.info? t).map (·.size)
def litI : Tm → Option Int
  | .int _ n => some n
  | _ => none
structure Ctx where
  P : Program
  Δ : Tab
  gt : List (Nat × List (Tm × Srt) × Nat)
def Env.cx (E : Env) : Ctx := ⟨E.P, E.Δ, E.gt⟩
abbrev Res := Option (AV × List Tm)
def qPick (K : List (Tm × Bool)) (c x y : AV) : Res := (opdB c).bind fun t => match knows K t with
  | some true => some (x, [])
  | some false => some (y, [])
  | none => (opdTm x).bind fun p => (opdTm y).bind fun q => if p.2 = q.2 then some (tmV (mkIte t p.1 q.1) p.2, []) else none
def qLoad (X : Ctx) (os : List Ob) (ty : TypeId) (x : AV) : Res := (opdR x).bind fun r => (cellsOf X.Δ X.gt os r.1).bind fun cs => match rowT X.P ty with
  | some true => (szT X.P ty).bind fun n => if n = 0 then none else (loadN cs r.2.1 n r.2.2).map fun l => (.v (.agg l), [])
  | some false => (loadC cs r.2.1 r.2.2).map fun c => (.v (.c c), [])
  | none => none
def qUn (op : UnOp) (x : AV) : Res := match op with
  | .not => (opdB x).map fun t => (tmV (mkNot t) .bool, [])
  | .neg => (opdI x).map fun p => (tmV (mkAr .sub p.2 (.int p.2 0) p.1) (.int p.2), [])
  | _ => none
def mkConv (k : IntKind) : Tm → Tm
  | .int _ n => .int k (k.wrap n)
  | t => .conv k t
/-- the term of a slice's content, and its rows' sort -/
def contentOf (os : List Ob) : AV → Option (Nat × Tm)
  | .v (.c (.p (.tm t (.list r)))) => some (r, t)
  | .v (.c (.p (.own j))) => match os[j]? with
    | some (.own r t) => some (r, t)
    | _ => none
  | _ => none
def isU8 (P : Program) (e : TypeId) : Bool := match P.underlying e with
  | some (.int .u8) => true
  | _ => false
theorem isU8_ok {P : Program} {e : TypeId} (h : isU8 P e = true) : P.underlying e = some (.int .u8) := by
  unfold isU8 at h
  split at h
  · assumption
  · cases h
def qConv (X : Ctx) (os : List Ob) (src dst : TypeId) (x : AV) : Res := match opdI x with
  | some p => (match X.P.underlying src, X.P.underlying dst with
    | some _, some (.int k) => some (tmV (mkConv k p.1) (.int k), [])
    | _, _ => none)
  | none => match X.P.underlying src, X.P.underlying dst with
    | some (.slice e), some .string => (match contentOf os x with
      | some (r, t) => if X.Δ.row r = [.int .u8] ∧ isU8 X.P e = true then some (tmV (.sof t) .str, []) else none
      | none => none)
    | _, _ => none
def qFieldAddr (P : Program) (t : TypeId) (x : AV) (k : Nat) : Res := (opdR x).bind fun r => match P.underlying t with
  | some (.struct fs) => match fs[k]? with
    | some f => match (P.info? f.type).map (fun i => i.size == 0) with
      | some false => some (.v (.c (.p (.ref r.1 (r.2.1 + f.offset) r.2.2))), [])
      | _ => none
    | none => none
  | _ => none
def mkLen : Tm → Tm
  | .nil _ => .int .i64 0
  | .emp => .int .i64 0
  | .push a r => match litRows (.push a r) with
    | some l => .int .i64 l.length
    | none => .len (.push a r)
  | t => .len t
def idxObs (i n : Tm) : List Tm := [mkCmp .ge i (.int .i64 0), mkCmp .lt i n]
def qIndexAddr (X : Ctx) (os : List Ob) (t : TypeId) (x ix : AV) : Res := (opdI ix).bind fun q => if q.2 = .i64 then match X.P.underlying t with
  | some (.slice e) => match x with
    | .v (.c (.p (.tm s (.list r)))) => if szT X.P e = some (X.Δ.row r).length then some (.v (.c (.p (.ref (.el s r q.1) 0 []))), idxObs q.1 (.len s)) else none
    | .v (.c (.p (.own j))) => (match os[j]? with
      | some (.own r s) => if szT X.P e = some (X.Δ.row r).length then some (.v (.c (.p (.ref (.oe j r q.1) 0 []))), idxObs q.1 (mkLen s)) else none
      | _ => none)
    | .v (.c (.p (.sb b off dyn n))) => (szT X.P e).bind fun st => match litI q.1 with
      | some i => if 0 ≤ i ∧ i < n then some (.v (.c (.p (.ref b (off + i.toNat * st) dyn))), []) else none
      | none => some (.v (.c (.p (.ref b off ((q.1, st, n) :: dyn)))), idxObs q.1 (.int .i64 n))
    | _ => none
  | some (.array m e) => (opdR x).bind fun r => (szT X.P e).bind fun st => match litI q.1 with
    | some n => if 0 ≤ n ∧ n < m then some (.v (.c (.p (.ref r.1 (r.2.1 + n.toNat * st) r.2.2))), []) else none
    | none => some (.v (.c (.p (.ref r.1 r.2.1 ((q.1, st, m) :: r.2.2)))), idxObs q.1 (.int .i64 m))
  | _ => none else none
/-- a part of an aggregate -/
def qPart (P : Program) (ty : TypeId) (cs : List C) (off : Nat) (dyn : List (Tm × Nat × Nat)) (obs : List Tm) : Res := match rowT P ty with
  | some true => (szT P ty).bind fun n => (loadN cs off n dyn).map fun l => (.v (.agg l), obs)
  | some false => (loadC cs off dyn).map fun c => (.v (.c c), obs)
  | none => none
def qField (P : Program) (t : TypeId) (x : AV) (k : Nat) : Res := (opdAgg x).bind fun cs => match P.underlying t with
  | some (.struct fs) => match fs[k]? with
    | some f => qPart P f.type cs f.offset [] []
    | none => none
  | _ => none
def qIndexS (P : Program) (t : TypeId) (x ix : AV) : Res := match opdI ix, x, P.underlying t with
  | some (i, .i64), .v (.c (.p (.tm s .str))), some .string => some (tmV (.sidx s i) (.int .u8), idxObs i (.slen s))
  | _, _, _ => none
def qIndex (P : Program) (t : TypeId) (x ix : AV) : Res := match qIndexS P t x ix with
 | some r => some r
 | none => (opdI ix).bind fun q => (opdAgg x).bind fun cs => match P.underlying t with
  | some (.array m e) => (szT P e).bind fun st => match litI q.1 with
    | some n => if 0 ≤ n ∧ n < m then qPart P e cs (n.toNat * st) [] [] else none
    | none => if q.2 = .i64 then qPart P e cs 0 [(q.1, st, m)] (idxObs q.1 (.int .i64 m)) else none
  | _ => none
def qExtract (x : AV) (k : Nat) : Res := match x with
  | .tup l => (l[k]?).map fun y => (.v y, [])
  | _ => none
def isErrno (P : Program) (t : TypeId) : Bool := decide (t = 54) && (match P.underlying t with
  | some (.int .i64) => true
  | _ => false) && (match P.info? t with
    | some i => (match i.zero with
      | some (.int .i64 0) => true
      | _ => false)
    | none => false)
def qAssert (P : Program) (t : TypeId) (ok : Bool) (x : AV) : Res := match x with
  | .v (.c (.p (.tm a .err))) => if isErrno P t && ok then some (.tup [.c (.p (.tm (.errI a) (.int .i64))), .c (.p (.tm (mkNot (.isnil a)) .bool))], []) else none
  | _ => none
def optI (l : List AV) : Option Operand → Option (Option (Tm × IntKind))
  | none => some none
  | some x => (opdI (opd l x)).map some
/-- bounds that are written out -/
def litB (n : Nat) : Option (Tm × IntKind) → Option (Tm × IntKind) → Option (Nat × Nat)
  | none, none => some (0, n)
  | some (.int .i64 l, .i64), none => if 0 ≤ l ∧ l ≤ n then some (l.toNat, n) else none
  | none, some (.int .i64 h, .i64) => if 0 ≤ h ∧ h ≤ n then some (0, h.toNat) else none
  | some (.int .i64 l, .i64), some (.int .i64 h, .i64) => if 0 ≤ l ∧ l ≤ h ∧ h ≤ n then some (l.toNat, h.toNat) else none
  | _, _ => none
def qSlice (X : Ctx) (t : TypeId) (x : AV) (lo hi : Option (Tm × IntKind)) : Res := match X.P.underlying t with
  | some (.array n e) => (opdR x).bind fun r => (szT X.P e).bind fun st => (litB n lo hi).bind fun lh => if lh.1 < n then some (.v (.c (.p (.sb r.1 (r.2.1 + lh.1 * st) r.2.2 (lh.2 - lh.1)))), []) else none
  | some (.slice e) => match x with
    | .v (.c (.p (.tm a (.list r)))) => if szT X.P e = some (X.Δ.row r).length then (match lo, hi with
      | none, none => some (x, [])
      | some (l, .i64), none => some (tmV (.cut a l (.len a)) (.list r), [mkCmp .ge l (.int .i64 0), mkCmp .le l (.len a)])
      | none, some (h, .i64) => some (tmV (.cut a (.int .i64 0) h) (.list r), [mkCmp .ge h (.int .i64 0), mkCmp .le h (.len a)])
      | some (l, .i64), some (h, .i64) => some (tmV (.cut a l h) (.list r), [mkCmp .ge l (.int .i64 0), mkCmp .le l h, mkCmp .le h (.len a)])
      | _, _ => none) else none
    | _ => none
  | some .string => match x, lo, hi with
    | .v (.c (.p (.tm a .str))), some (l, .i64), none => some (tmV (.scut a l (.slen a)) .str, [mkCmp .ge l (.int .i64 0), mkCmp .le l (.slen a)])
    | .v (.c (.p (.tm a .str))), none, some (h, .i64) => some (tmV (.scut a (.int .i64 0) h) .str, [mkCmp .ge h (.int .i64 0), mkCmp .le h (.slen a)])
    | .v (.c (.p (.tm a .str))), some (l, .i64), some (h, .i64) => some (tmV (.scut a l h) .str, [mkCmp .ge l (.int .i64 0), mkCmp .le l h, mkCmp .le h (.slen a)])
    | _, _, _ => none
  | _ => none
def qIface (P : Program) (t : TypeId) (x : AV) : Res := match P.underlying t with
  | some (.interface _) => none
  | some _ => (opdI x).bind fun p => if t = 54 ∧ p.2 = .i64 then some (tmV (.ifc p.1) .err, []) else none
  | none => none
def qLen (P : Program) (os : List Ob) (t : TypeId) (x : AV) : Res := match P.underlying t with
  | some (.slice _) => match x with
    | .v (.c (.p (.tm t (.list r)))) => some (tmV (mkLen t) (.int .i64), [])
    | .v (.c (.p (.own j))) => match os[j]? with
      | some (.own r t) => some (tmV (mkLen t) (.int .i64), [])
      | _ => none
    | .v (.c (.p .nils)) => some (tmV (.int .i64 0) (.int .i64), [])
    | .v (.c (.p (.sb _ _ _ n))) => some (tmV (.int .i64 n) (.int .i64), [])
    | _ => none
  | some (.array n _) => some (tmV (.int .i64 n) (.int .i64), [])
  | some .string => match x with
    | .v (.c (.p (.tm (.str l) .str))) => some (tmV (.int .i64 l.length) (.int .i64), [])
    | .v (.c (.p (.tm t .str))) => some (tmV (.slen t) (.int .i64), [])
    | _ => none
  | _ => none
/-- the greater, or the less, of two numbers -/
def qMax (c : Cmp) (x y : AV) : Res := (opdI x).bind fun p => (opdI y).bind fun q => if p.2 = q.2 then some (tmV (mkIte (mkCmp c q.1 p.1) q.1 p.1) (.int p.2), []) else none
/-- a pointer that is one -/
def qNilCheck (x : AV) : Res := match x with
  | .v (.c (.p (.ref b off dyn))) => some (.v (.c (.p (.ref b off dyn))), [])
  | _ => none
def evalQ (X : Ctx) (sl : List AV) (os : List Ob) (K : List (Tm × Bool)) (o : Oper) : Res := match o.op with
  | .move x => some (opd sl x, [])
  | .assign x => some (opd sl x, [])
  | .pick c x y => qPick K (opd sl c) (opd sl x) (opd sl y)
  | .load ty x => qLoad X os ty (opd sl x)
  | .binOp op xT x y _ => evalBin X.P op xT (opd sl x) (opd sl y) y
  | .unOp op _ x => qUn op (opd sl x)
  | .convert s d x => qConv X os s d (opd sl x)
  | .fieldAddr t x k => qFieldAddr X.P t (opd sl x) k
  | .indexAddr t x i => qIndexAddr X os t (opd sl x) (opd sl i)
  | .field t x k => qField X.P t (opd sl x) k
  | .index t x i => qIndex X.P t (opd sl x) (opd sl i)
  | .extract x k => qExtract (opd sl x) k
  | .makeInterface t x => qIface X.P t (opd sl x)
  | .typeAssert x _ t ok => qAssert X.P t ok (opd sl x)
  | .slice t x lo hi none => (optI sl lo).bind fun l => (optI sl hi).bind fun h => qSlice X t (opd sl x) l h
  | .call c => match c.callee, c.args.toList, c.argTypes.toList with
    | .builtin .len, [x], [t] => qLen X.P os t (opd sl x)
    | .builtin .max, [x, y], _ => qMax .gt (opd sl x) (opd sl y)
    | .builtin .min, [x, y], _ => qMax .lt (opd sl x) (opd sl y)
    | _, _, _ => none
  | .nilCheck x => qNilCheck (opd sl x)
  | _ => none

section
variable {E : Env} {w0 : World} {ρ : List Dat} {σ : List Value} {os : List Ob} {L : List Fact} {a : Act} {o : Oper} {r : AV} {obs : List Tm}
/-- it yields v in each memory of which what is known holds -/
def Yields (E : Env) (w0 : World) (ρ : List Dat) (σ : List Value) (L : List Fact) (a : Act) (o : Oper) (r : AV) : Prop :=
  ∃ v, VR E ρ σ r v ∧ ∀ w, Mem none w0 w (baseF E ρ :: L) → (execOp a.eval o).run E.P w = .ok (.value v) w
theorem Yields.of {v : Value} (h : VR E ρ σ r v) (hr : ∀ w, (execOp a.eval o).run E.P w = .ok (.value v) w) : Yields E w0 ρ σ L a o r := ⟨v, h, fun w _ => hr w⟩
theorem mkIte_den (Δ : Tab) (ρ : List Dat) {c a b : Tm} {q : Bool} (hc : den Δ ρ c = .bool q) : den Δ ρ (mkIte c a b) = if q then den Δ ρ a else den Δ ρ b := by
  by_cases c1 : c = .bool true
  · subst c1
    have : true = q := by simpa [den] using hc
    subst this; rfl
  by_cases c2 : c = .bool false
  · subst c2
    have : false = q := by simpa [den] using hc
    subst this; rfl
  unfold mkIte
  split
  · exact absurd rfl c1
  · exact absurd rfl c2
  · split
    · rename_i h; subst h; simp
    · split
      · rw [hc]; cases q <;> rfl
      · simp [den, hc, Dat.toBool]
theorem qPick_ok {K : List (Tm × Bool)} (hK : ∀ x ∈ K, Den E.Δ ρ x.1 (.bool x.2)) {c x y : Operand} {Xc Xx Xy : AV} (ho : o.op = .pick c x y) (hc : VR E ρ σ Xc (a.eval c)) (hx : VR E ρ σ Xx (a.eval x)) (hy : VR E ρ σ Xy (a.eval y))
    (h : qPick K Xc Xx Xy = some (r, obs)) : Yields E w0 ρ σ L a o r := by
  unfold qPick at h
  rw [Option.bind_eq_some_iff] at h
  obtain ⟨t, ht, h⟩ := h
  obtain ⟨b, d1, e1⟩ := opdB_ok hc ht
  have run : ∀ w, (execOp a.eval o).run E.P w = .ok (.value (if b then a.eval x else a.eval y)) w := fun w => by
    unfold execOp; simp [ho, e1, asBool]
  split at h
  · rename_i hk
    cases h
    have := knows_ok hK hk
    rw [d1.now] at this; cases this
    exact .of (v := a.eval x) hx run
  · rename_i hk
    cases h
    have := knows_ok hK hk
    rw [d1.now] at this; cases this
    exact .of (v := a.eval y) hy run
  · simp only [Option.bind_eq_some_iff] at h
    obtain ⟨⟨tx, sx⟩, hx', ⟨ty, sy⟩, hy', h⟩ := h
    split at h
    case isFalse => cases h
    rename_i hs
    simp only at hs
    subst hs
    cases h
    obtain ⟨dx, f1, f2, f3, f4⟩ := opdTm_ok hx hx'
    obtain ⟨dy, g1, g2, g3, g4⟩ := opdTm_ok hy hy'
    refine .of (v := if b then a.eval x else a.eval y) ⟨if b then dx else dy, fun e => ?_, ?_, ?_, f4⟩ run
    · rw [mkIte_den _ _ (d1 e), f1 e, g1 e]
    · cases b
      · exact g2
      · exact f2
    · cases b
      · exact g3
      · exact f3
theorem qLoad_ok (hW : E.Wf) (hO : ObsR E ρ σ os L) (hpre : E.γ <+: ρ) {ty : TypeId} {x : Operand} {Xx : AV} (ho : o.op = .load ty x) (hx : VR E ρ σ Xx (a.eval x)) (h : qLoad E.cx os ty Xx = some (r, obs)) : Yields E w0 ρ σ L a o r := by
  unfold qLoad at h
  simp only [Option.bind_eq_some_iff] at h
  obtain ⟨⟨b, off, dyn⟩, hr, cs, hcs, h⟩ := h
  obtain ⟨A, p, q, k1, k2, k3⟩ := opdR_ok hx hr
  obtain ⟨vs, v1, v2⟩ := base_cells (w0 := w0) hW hO k1 hcs hpre
  have hx' : a.eval x = .pointer (some ((A.getD ⟨0, 0, none⟩).add (p + off + q))) := by rw [k3, pt_eq]
  split at h
  · rename_i ht
    simp only [rowT, Option.map_eq_some_iff] at ht
    obtain ⟨d, hu, hd⟩ := ht
    simp only [Option.bind_eq_some_iff] at h
    obtain ⟨n, hn, h⟩ := h
    split at h
    · cases h
    simp only [Option.map_eq_some_iff] at h
    obtain ⟨l, hl, h⟩ := h
    cases h
    obtain ⟨us, u1, u2, u3⟩ := loadN_ok v1 hl k2
    refine ⟨.agg us.toArray, ⟨us, u1, rfl⟩, fun w hM => ?_⟩
    have hrun := run_loadVar_rowC (P := E.P) w ((A.getD ⟨0, 0, none⟩).add (p + off + q)) ty us.toArray d hu hd (by rw [List.size_toArray, u2]; exact hn) (fun j v hj => by
      rw [add_add', show p + off + q + j = p + (off + q + j) by omega]
      exact v2 w hM _ _ (u3 j v (by simpa using hj)))
    unfold execOp
    simp only [ho, hx', Instr.loadAt, Instr.sureAddr, Sem.run_bind, Sem.run_pure, Result.andThen_ok, hrun]
  · rename_i ht
    simp only [rowT, Option.map_eq_some_iff] at ht
    obtain ⟨d, hu, hd⟩ := ht
    simp only [Option.map_eq_some_iff] at h
    obtain ⟨c, hl, h⟩ := h
    cases h
    obtain ⟨v, u1, u2⟩ := loadC_ok v1 hl k2
    refine ⟨v, u2, fun w hM => ?_⟩
    have hrun := run_loadVar_one (P := E.P) w ((A.getD ⟨0, 0, none⟩).add (p + off + q)) ty v d hu hd (by
      rw [show p + off + q = p + (off + q) by omega]
      exact v2 w hM _ _ u1)
    unfold execOp
    simp only [ho, hx', Instr.loadAt, Instr.sureAddr, Sem.run_bind, Sem.run_pure, Result.andThen_ok, hrun]
  · cases h
theorem qUn_ok {op : UnOp} {xT : TypeId} {x : Operand} {Xx : AV} (ho : o.op = .unOp op xT x) (hx : VR E ρ σ Xx (a.eval x)) (h : qUn op Xx = some (r, obs)) : Yields E w0 ρ σ L a o r := by
  unfold qUn at h
  split at h
  · simp only [Option.map_eq_some_iff] at h
    obtain ⟨t, ht, h⟩ := h
    cases h
    obtain ⟨b, d1, e1⟩ := opdB_ok hx ht
    refine .of (VR.ofTm (d := .bool !b) (fun e => by rw [mkNot_den]; simp [den, d1 e, Dat.toBool]) (.bool _) rfl) fun w => ?_
    unfold execOp; simp [ho, e1, Op.unary, Dat.toV]
  · simp only [Option.map_eq_some_iff] at h
    obtain ⟨⟨t, k⟩, ht, h⟩ := h
    cases h
    obtain ⟨n, d1, e1⟩ := opdI_ok hx ht
    refine .of (VR.ofTm (d := .int k (k.wrap (0 - n))) (fun e => by rw [mkAr_den]; simp [den, d1 e, Dat.toInt, Ar.of]) (.int _ _) rfl) fun w => ?_
    unfold execOp; simp [ho, e1, Op.unary, Op.intArith, Dat.toV]
  · cases h
theorem qFieldAddr_ok {t : TypeId} {x : Operand} {k : Nat} {Xx : AV} (ho : o.op = .fieldAddr t x k) (hx : VR E ρ σ Xx (a.eval x)) (h : qFieldAddr E.P t Xx k = some (r, obs)) : Yields E w0 ρ σ L a o r := by
  unfold qFieldAddr at h
  simp only [Option.bind_eq_some_iff] at h
  obtain ⟨⟨b, off, dyn⟩, hr, h⟩ := h
  obtain ⟨A, p, q, k1, k2, k3⟩ := opdR_ok hx hr
  split at h
  · rename_i fs hu
    split at h
    · rename_i f hf
      split at h
      · rename_i hz
        cases h
        refine .of ⟨A, p, q, k1, k2, rfl⟩ fun w => ?_
        rw [show p + (off + f.offset) + q = p + off + q + f.offset by omega]
        exact R_field ho k3 hu hf hz
      · cases h
    · cases h
  · cases h
theorem mkLen_den (Δ : Tab) (ρ : List Dat) (t : Tm) : den Δ ρ (mkLen t) = .int .i64 (den Δ ρ t).xs.length := by
  unfold mkLen; split
  · rfl
  · rfl
  · split
    · rename_i l hl
      rw [litRows_ok hl]
      simp [den, Dat.xs]
    · rfl
  · rfl
theorem idx_of {i n : Tm} {k m : Int} (hi : den E.Δ ρ i = .int .i64 k) (hn : den E.Δ ρ n = .int .i64 m) (h : obsOk E.Δ ρ (idxObs i n)) : 0 ≤ k ∧ k < m := by
  have h1 := h (mkCmp .ge i (.int .i64 0)) (by simp [idxObs])
  have h2 := h (mkCmp .lt i n) (by simp [idxObs])
  rw [mkCmp_den] at h1 h2
  simp only [den, hi, hn, Dat.toInt, Cmp.of, Dat.bool.injEq, decide_eq_true_eq] at h1 h2
  exact ⟨h1, h2⟩
theorem list_len (hok : ∀ w, Mem none w0 w (baseF E ρ :: L) → OkL w ρ) (hw : ∃ w, Mem none w0 w (baseF E ρ :: L)) {s : Tm} {A : Option Addr} {m c sz : Nat} {xs : List (List Dat)} (f1 : Den E.Δ ρ s (.list (.slice A m c) sz xs)) :
    m = xs.length ∧ ∀ w, Mem none w0 w (baseF E ρ :: L) → Rd w sz (.slice A xs.length c) xs.length (flatV xs) := by
  have key : ∀ w, Mem none w0 w (baseF E ρ :: L) → Rd w sz (.slice A m c) xs.length (flatV xs) := fun w hM => by
    have hk := (den_good (p := fun k => AtL ρ k) (w := w) (Δ := E.Δ) (fun d hd => ⟨hok w hM d hd, fun k hk => ⟨d, hd, hk⟩⟩) s).1
    rw [f1.now] at hk
    cases hk with
    | list _ _ _ hr _ _ => exact hr
  have hm : m = xs.length := by
    obtain ⟨w, hM⟩ := hw
    obtain ⟨A', c', e', _⟩ := key w hM
    cases e'; rfl
  subst hm
  exact ⟨rfl, key⟩
theorem qIndexAddr_ok (hO : ObsR E ρ σ os L) (hok : ∀ w, Mem none w0 w (baseF E ρ :: L) → OkL w ρ) (hw : ∃ w, Mem none w0 w (baseF E ρ :: L)) {t : TypeId} {x ix : Operand} {Xx Xi : AV} (ho : o.op = .indexAddr t x ix) (hx : VR E ρ σ Xx (a.eval x)) (hi : VR E ρ σ Xi (a.eval ix)) (h : qIndexAddr E.cx os t Xx Xi = some (r, obs)) (hob : obsOk E.Δ ρ obs) : Yields E w0 ρ σ L a o r := by
  unfold qIndexAddr at h
  simp only [Option.bind_eq_some_iff] at h
  obtain ⟨⟨i, kd⟩, hq, h⟩ := h
  split at h
  case isFalse => cases h
  rename_i hk
  simp only at hk
  subst hk
  obtain ⟨n, d1, e1⟩ := opdI_ok hi hq
  split at h
  · rename_i e hu
    split at h
    · rename_i s r'
      split at h
      case isFalse => cases h
      rename_i hsz
      cases h
      obtain ⟨d, f1, f2, f3, f4⟩ := hx
      have hH := f2
      cases hH with
      | list _ A m c xs hl hh =>
      obtain ⟨h0, h1⟩ := idx_of d1.now (n := .len s) (m := xs.length) (by simp [den, f1.now, Dat.xs]) hob
      obtain ⟨rfl, hrd⟩ := list_len hok hw f1
      exact ⟨pt A (n.toNat * (E.Δ.row r').length), ⟨A, _, 0, ⟨_, _, _, n, f1, f2, d1, h0, h1, rfl⟩, rfl, rfl⟩, fun w hM => R_index (hrd w hM) ho f3 e1 h0 h1 hu hsz rfl⟩
    · rename_i j
      split at h
      · rename_i r' s hj
        split at h
        case isFalse => cases h
        rename_i hsz
        cases h
        obtain ⟨v, f, g1, g2, A, m, c, xs, rfl, g3, g4, g5, rfl⟩ := hO.get j _ hj
        obtain ⟨hσ, _⟩ := hx
        rw [g1] at hσ
        have hσ' := Option.some.inj hσ
        subst g5
        obtain ⟨h0, h1⟩ := idx_of d1.now (n := mkLen s) (m := xs.length) (by rw [mkLen_den]; simp [g3.now, Dat.xs]) hob
        exact ⟨pt A (n.toNat * (E.Δ.row r').length), ⟨A, _, 0, ⟨_, _, n, g1, d1, h0, h1, rfl⟩, rfl, rfl⟩, fun w hM => R_index (hM.ow (List.mem_cons_of_mem _ (List.mem_of_getElem? g2))).rd ho hσ'.symm e1 h0 h1 hu hsz rfl⟩
      · cases h
    · rename_i b off dyn m
      simp only [Option.bind_eq_some_iff] at h
      obtain ⟨st, hst, h⟩ := h
      obtain ⟨A, p, q, cap, k1, k2, k3, hv⟩ := hx
      have hst' := hst
      simp only [szT, Option.map_eq_some_iff] at hst'
      obtain ⟨ii, hii, hsz⟩ := hst'
      have run : 0 ≤ n → n < (m : Int) → ∀ w, (execOp a.eval o).run E.P w = .ok (.value (.pointer (some (((A.getD ⟨0, 0, none⟩).add (p + off + q)).add (n.toNat * st))))) w := fun h0 h1 w => by
        unfold execOp
        simp [ho, hv, e1, Instr.indexAt, asIntOf, Sem.run_bind, run_underlying (show E.P.underlying t = some (.slice e) from hu), h0, h1, sizeOf, typeInfo, show E.P.info? e = some ii from hii, hsz]
      split at h
      · rename_i n' hn'
        split at h
        case isFalse => cases h
        rename_i hlt
        cases h
        have hnn : n' = n := by
          unfold litI at hn'
          split at hn'
          · cases hn'
            have := d1.now
            simp [den] at this
            exact this.2
          · cases hn'
        subst hnn
        refine .of ⟨A, p, q, k1, k2, ?_⟩ (run hlt.1 hlt.2)
        rw [pt_eq, add_add', show p + (off + n'.toNat * st) + q = p + off + q + n'.toNat * st by omega]
      · cases h
        obtain ⟨h0, h1⟩ := idx_of d1.now (n := .int .i64 m) (m := m) rfl hob
        refine .of ⟨A, p, n.toNat * st + q, k1, ⟨n, q, d1, h0, h1, k2, rfl⟩, ?_⟩ (run h0 h1)
        rw [pt_eq, add_add', show p + off + (n.toNat * st + q) = p + off + q + n.toNat * st by omega]
    · cases h
  · rename_i m e hu
    simp only [Option.bind_eq_some_iff] at h
    obtain ⟨⟨b, off, dyn⟩, hr, st, hst, h⟩ := h
    obtain ⟨A, p, q, k1, k2, k3⟩ := opdR_ok hx hr
    split at h
    · rename_i n' hn'
      split at h
      case isFalse => cases h
      rename_i hlt
      cases h
      have hnn : n' = n := by
        unfold litI at hn'
        split at hn'
        · cases hn'
          have := d1.now
          simp [den] at this
          exact this.2
        · cases hn'
      subst hnn
      refine .of ⟨A, p, q, k1, k2, rfl⟩ fun w => ?_
      have := R_elem (P := E.P) (w := w) ho k3 e1 hlt.1 hlt.2 hu hst rfl
      rw [show p + (off + n'.toNat * st) + q = p + off + q + n'.toNat * st by omega]
      exact this
    · cases h
      obtain ⟨h0, h1⟩ := idx_of d1.now (n := .int .i64 m) (m := m) rfl hob
      refine .of ⟨A, p, n.toNat * st + q, k1, ⟨n, q, d1, h0, h1, k2, rfl⟩, rfl⟩ fun w => ?_
      have := R_elem (P := E.P) (w := w) ho k3 e1 h0 h1 hu hst rfl
      rw [show p + off + (n.toNat * st + q) = p + off + q + n.toNat * st by omega]
      exact this
  · cases h
theorem qPart_ok {ty : TypeId} {cs : List C} {vs : List Value} {off q : Nat} {dyn : List (Tm × Nat × Nat)} {obs' : List Tm} (hv : All2 (CR E ρ σ) cs vs) (hq : DynR E ρ dyn q) (h : qPart E.P ty cs off dyn obs' = some (r, obs)) :
    obs = obs' ∧ ∃ v, VR E ρ σ r v ∧ ∀ w, (part ty vs.toArray (off + q)).run E.P w = .ok v w := by
  unfold qPart at h
  split at h
  · rename_i ht
    simp only [rowT, Option.map_eq_some_iff] at ht
    obtain ⟨d, hu, hd⟩ := ht
    simp only [Option.bind_eq_some_iff, Option.map_eq_some_iff] at h
    obtain ⟨n, hn, l, hl, h⟩ := h
    cases h
    obtain ⟨us, u1, u2, u3⟩ := loadN_ok hv hl hq
    refine ⟨rfl, .agg us.toArray, ⟨us, u1, rfl⟩, fun w => ?_⟩
    have hagg : (isAgg ty).run E.P w = .ok true w := by
      unfold isAgg
      rw [Sem.run_bind, run_underlying hu w]
      cases d <;> simp_all [TypeDesc.isRow]
    simp only [szT, Option.map_eq_some_iff] at hn
    obtain ⟨i, hi, rfl⟩ := hn
    have hx : vs.toArray.extract (off + q) (off + q + i.size) = us.toArray := by
      apply Array.ext_getElem?
      intro j
      by_cases hj : j < i.size
      · have h1 := u3 j us[j] (List.getElem?_eq_getElem (by omega))
        have h2 := (List.getElem?_eq_some_iff.1 h1).1
        rw [Array.getElem?_extract]
        simp only [List.size_toArray, List.getElem?_toArray]
        rw [if_pos (by omega), h1, List.getElem?_eq_getElem (by omega)]
      · rw [Array.getElem?_eq_none (by simp; omega), Array.getElem?_eq_none (by simp; omega)]
    have hx2 : (vs.drop (off + q)).take i.size = us := by simpa using congrArg Array.toList hx
    simp [part, Sem.run_bind, hagg, sizeOf, typeInfo, hi, hx2]
  · rename_i ht
    simp only [rowT, Option.map_eq_some_iff] at ht
    obtain ⟨d, hu, hd⟩ := ht
    simp only [Option.map_eq_some_iff] at h
    obtain ⟨c, hl, h⟩ := h
    cases h
    obtain ⟨v, u1, u2⟩ := loadC_ok hv hl hq
    refine ⟨rfl, v, u2, fun w => ?_⟩
    have hagg : (isAgg ty).run E.P w = .ok false w := by
      unfold isAgg
      rw [Sem.run_bind, run_underlying hu w]
      cases d <;> simp_all [TypeDesc.isRow]
    simp [part, Sem.run_bind, hagg, u1]
  · cases h
theorem qField_ok {t : TypeId} {x : Operand} {k : Nat} {Xx : AV} (ho : o.op = .field t x k) (hx : VR E ρ σ Xx (a.eval x)) (h : qField E.P t Xx k = some (r, obs)) : Yields E w0 ρ σ L a o r := by
  unfold qField at h
  simp only [Option.bind_eq_some_iff] at h
  obtain ⟨cs, hcs, h⟩ := h
  obtain ⟨vs, v1, v2⟩ := opdAgg_ok hx hcs
  split at h
  · rename_i fs hu
    split at h
    · rename_i f hf
      obtain ⟨_, v, p1, p2⟩ := qPart_ok v1 (q := 0) (dyn := []) rfl h
      refine .of p1 fun w => ?_
      have := p2 w
      simp only [Nat.add_zero] at this
      unfold execOp
      simp only [ho, v2, Instr.field, Sem.run_bind, run_underlying hu, Result.andThen_ok, hf, asAgg, Sem.run_pure, this]
    · cases h
  · cases h
theorem qIndex_ok {t : TypeId} {x ix : Operand} {Xx Xi : AV} (ho : o.op = .index t x ix) (hx : VR E ρ σ Xx (a.eval x)) (hi : VR E ρ σ Xi (a.eval ix)) (h : qIndex E.P t Xx Xi = some (r, obs)) (hob : obsOk E.Δ ρ obs) : Yields E w0 ρ σ L a o r := by
  unfold qIndex at h
  split at h
  · rename_i r' hS
    cases h
    unfold qIndexS at hS
    split at hS
    · rename_i i s hi' hu
      cases hS
      obtain ⟨n, d1, e1⟩ := opdI_ok hi hi'
      obtain ⟨d, f1, f2, f3, f4⟩ := hx
      cases f2 with
      | str s' =>
      obtain ⟨h0, h1⟩ := idx_of d1.now (n := .slen s) (m := s'.size) (by simp only [den, f1.now, strD]) hob
      obtain ⟨n', rfl⟩ := Int.eq_ofNat_of_zero_le h0
      have hlt : n' < s'.size := by omega
      refine .of (VR.ofTm (d := .int .u8 (s'.data.getD n' 0).toNat) (fun e => by simp only [den, f1 e, d1 e, strD, Dat.toInt, Int.toNat_natCast]) (.int _ _) rfl) fun w => ?_
      have hg : s'[n']? = some (s'.data.getD n' 0) := by
        rw [getElem?_pos s' n' hlt]
        congr 1
        have : n' < s'.data.size := hlt
        simp only [Array.getD, this, dite_true]
        rfl
      unfold execOp
      simp [ho, f3, Dat.toV, e1, Instr.index, asIntOf, Sem.run_bind, run_underlying hu, hg]
    · cases hS
  simp only [Option.bind_eq_some_iff] at h
  obtain ⟨⟨i, kd⟩, hq, cs, hcs, h⟩ := h
  obtain ⟨n, d1, e1⟩ := opdI_ok hi hq
  obtain ⟨vs, v1, v2⟩ := opdAgg_ok hx hcs
  split at h
  · rename_i m e hu
    simp only [Option.bind_eq_some_iff] at h
    obtain ⟨st, hst, h⟩ := h
    have run : ∀ {v : Value} (w : World), 0 ≤ n → n < m → (part e vs.toArray (n.toNat * st)).run E.P w = .ok v w → (execOp a.eval o).run E.P w = .ok (.value v) w := fun {v} w h0 h1 hp => by
      simp only [szT, Option.map_eq_some_iff] at hst
      obtain ⟨ii, hii, rfl⟩ := hst
      unfold execOp
      simp [ho, v2, e1, Instr.index, asIntOf, Sem.run_bind, run_underlying hu, h0, h1, sizeOf, typeInfo, hii, hp]
    split at h
    · rename_i n' hn'
      split at h
      case isFalse => cases h
      rename_i hlt
      have hnn : n' = n := by
        unfold litI at hn'
        split at hn'
        · cases hn'
          have := d1.now
          simp [den] at this
          exact this.2
        · cases hn'
      subst hnn
      obtain ⟨_, v, p1, p2⟩ := qPart_ok v1 (q := 0) (dyn := []) rfl h
      exact .of p1 fun w => run w hlt.1 hlt.2 (by simpa using p2 w)
    · split at h
      case isFalse => cases h
      rename_i hk
      subst hk
      have hob' : obs = idxObs i (.int .i64 m) := by
        unfold qPart at h
        split at h
        · simp only [Option.bind_eq_some_iff, Option.map_eq_some_iff] at h
          obtain ⟨_, _, _, _, h⟩ := h
          cases h; rfl
        · simp only [Option.map_eq_some_iff] at h
          obtain ⟨_, _, h⟩ := h
          cases h; rfl
        · cases h
      subst hob'
      obtain ⟨h0, h1⟩ := idx_of d1.now (n := .int .i64 m) (m := m) rfl hob
      obtain ⟨_, v, p1, p2⟩ := qPart_ok v1 (q := n.toNat * st + 0) (dyn := [(i, st, m)]) ⟨n, 0, d1, h0, h1, rfl, rfl⟩ h
      exact .of p1 fun w => run w h0 h1 (by simpa using p2 w)
  · cases h
theorem qExtract_ok {x : Operand} {k : Nat} {Xx : AV} (ho : o.op = .extract x k) (hx : VR E ρ σ Xx (a.eval x)) (h : qExtract Xx k = some (r, obs)) : Yields E w0 ρ σ L a o r := by
  unfold qExtract at h
  split at h
  · rename_i l
    simp only [Option.map_eq_some_iff] at h
    obtain ⟨y, hy, h⟩ := h
    cases h
    obtain ⟨vs, v1, v2⟩ := hx
    obtain ⟨v, u1, u2⟩ := v1.get hy
    refine .of (v := v) u2 fun w => ?_
    unfold execOp
    simp [ho, v2, Instr.extract, u1]
  · cases h
theorem qIface_ok {t : TypeId} {x : Operand} {Xx : AV} (ho : o.op = .makeInterface t x) (hx : VR E ρ σ Xx (a.eval x)) (h : qIface E.P t Xx = some (r, obs)) : Yields E w0 ρ σ L a o r := by
  unfold qIface at h
  split at h
  · cases h
  · rename_i d hni hu
    simp only [Option.bind_eq_some_iff] at h
    obtain ⟨⟨u, k⟩, hq, h⟩ := h
    obtain ⟨n, d1, e1⟩ := opdI_ok hx hq
    split at h
    case isFalse => cases h
    rename_i hc
    simp only at hc
    obtain ⟨rfl, rfl⟩ := hc
    cases h
    refine .of (VR.ofTm (d := .val (.iface 54 (.int .i64 n))) (fun e => by simp [den, d1 e, Dat.toInt]) (.ifc _) rfl) fun w => ?_
    unfold execOp
    simp only [ho, e1, Instr.makeInterface, Sem.run_bind, run_underlying hu, Result.andThen_ok, Dat.toV]
    cases d with
    | interface ms => exact (hni _ rfl).elim
    | _ => rfl
  · cases h
theorem qAssert_ok {t xT : TypeId} {b : Bool} {x : Operand} {Xx : AV} (ho : o.op = .typeAssert x xT t b) (hx : VR E ρ σ Xx (a.eval x)) (h : qAssert E.P t b Xx = some (r, obs)) : Yields E w0 ρ σ L a o r := by
  unfold qAssert at h
  split at h
  · rename_i u
    split at h
    case isFalse => cases h
    rename_i hc
    rw [Bool.and_eq_true] at hc
    obtain ⟨hc, rfl⟩ := hc
    unfold isErrno at hc
    simp only [Bool.and_eq_true, decide_eq_true_eq] at hc
    obtain ⟨⟨rfl, c2⟩, c3⟩ := hc
    cases h
    obtain ⟨d, d1, d2, d3, _⟩ := hx
    split at c2
    case h_2 => cases c2
    rename_i hu
    split at c3
    case h_2 => cases c3
    rename_i i hi
    split at c3
    case h_2 => cases c3
    rename_i hz
    refine .of (v := .tuple #[.int .i64 (errN d), .bool (!isNilI d)]) ⟨[.int .i64 (errN d), .bool (!isNilI d)], .cons ⟨.int .i64 (errN d), fun e => by simp [den, d1 e], .int _ _, rfl, rfl⟩ (.one ⟨.bool (!isNilI d), fun e => by rw [mkNot_den]; simp [den, d1 e, Dat.toBool], .bool _, rfl, rfl⟩), rfl⟩ fun w => ?_
    unfold execOp
    simp only [ho, d3, Instr.typeAssert, Sem.run_bind, run_underlying hu, Result.andThen_ok]
    cases d2 with
    | nili => simp [Dat.toV, zeroValue, typeInfo, hi, hz, errN, isNilI, Sem.run_bind]
    | ifc n => simp [Dat.toV, errN, isNilI]
  · cases h
theorem optI_ok {l : List AV} (hs : All2 (VR E ρ σ) l a.tmps.toList) {x : Option Operand} {q : Option (Tm × IntKind)} (h : optI l x = some q) : (x = none ∧ q = none) ∨ ∃ y t k n, x = some y ∧ q = some (t, k) ∧ Den E.Δ ρ t (.int k n) ∧ a.eval y = .int k n := by
  cases x with
  | none => cases h; exact .inl ⟨rfl, rfl⟩
  | some y =>
    simp only [optI, Option.map_eq_some_iff] at h
    obtain ⟨⟨t, k⟩, h1, rfl⟩ := h
    obtain ⟨n, d1, e1⟩ := opdI_ok (opd_ok hs y) h1
    exact .inr ⟨y, t, k, n, rfl, rfl, d1, e1⟩
theorem run_slice_list {P : Program} {w : World} {A : Option Addr} {m c l h sz : Nat} {t e : TypeId} (hu : P.underlying t = some (.slice e)) (hsz : szT P e = some sz) (lo hi : Option Value) (hlo : lo = none ∧ l = 0 ∨ lo = some (.int .i64 (l : Int))) (hhi : hi = none ∧ h = m ∨ hi = some (.int .i64 (h : Int)))
    (h1 : l ≤ h) (h2 : h ≤ m) (hc : m ≤ c) : (Instr.sliceAt t (.slice A m c) lo hi none).run P w = .ok (.slice (if c = l then A else A.map (·.add (l * sz))) (h - l) (c - l)) w := by
  simp only [szT, Option.map_eq_some_iff] at hsz
  obtain ⟨ii, hii, rfl⟩ := hsz
  have hb : (Instr.sliceBounds true m c lo hi none).run P w = .ok (l, h, c) w := by
    have q1 : h ≤ c := by omega
    have q2 : l ≤ m := by omega
    unfold Instr.sliceBounds
    rcases hlo with ⟨rfl, rfl⟩ | rfl <;> rcases hhi with ⟨rfl, rfl⟩ | rfl <;> simp [Instr.sliceBound, asIntOf, Sem.run_bind, h1, h2, hc, q1, q2]
  simp [Instr.sliceAt, Instr.slice, Sem.run_bind, run_underlying hu, hb, sizeOf, typeInfo, hii]
theorem le_of (Δ : Tab) {ρ : List Dat} {x y : Tm} {p q : Int} (hx : den Δ ρ x = .int .i64 p) (hy : den Δ ρ y = .int .i64 q) {c : Cmp} {obs : List Tm} (hm : mkCmp c x y ∈ obs) (h : obsOk Δ ρ obs) : c.of p q = true := by
  have := h _ hm
  rw [mkCmp_den] at this
  simpa [den, hx, hy, Dat.toInt] using this
theorem litB_ok {P : Program} {l : List AV} (hs : All2 (VR E ρ σ) l a.tmps.toList) {lo hi : Option Operand} {ql qh : Option (Tm × IntKind)} (hl : optI l lo = some ql) (hh : optI l hi = some qh) {n x y : Nat} (h : litB n ql qh = some (x, y)) :
    x ≤ y ∧ y ≤ n ∧ ∀ w, (Instr.sliceBounds false n n (lo.map a.eval) (hi.map a.eval) none).run P w = .ok (x, y, n) w := by
  have lit : ∀ {t : Tm} {k : IntKind} {z : Int}, Den E.Δ ρ t (.int k z) → ∀ q, t = .int .i64 q → q = z := fun d q e => by
    subst e
    have := d.now
    simp only [den, Dat.int.injEq] at this
    exact this.2
  rcases optI_ok hs hl with ⟨rfl, rfl⟩ | ⟨yl, tl, kl, nl, rfl, rfl, dl, vl⟩ <;> rcases optI_ok hs hh with ⟨rfl, rfl⟩ | ⟨yh, th, kh, nh, rfl, rfl, dh, vh⟩
  · cases h
    exact ⟨Nat.zero_le _, Nat.le_refl _, fun w => by simp [Instr.sliceBounds]⟩
  · cases th <;> first | (cases h; done) | skip
    rename_i k z
    cases k <;> first | (cases h; done) | skip
    cases kh <;> first | (cases h; done) | skip
    obtain rfl := lit dh z rfl
    simp only [litB] at h
    split at h
    case isFalse => cases h
    rename_i hc
    cases h
    obtain ⟨z', rfl⟩ := Int.eq_ofNat_of_zero_le hc.1
    refine ⟨Nat.zero_le _, by omega, fun w => ?_⟩
    simp [Instr.sliceBounds, Instr.sliceBound, asIntOf, Sem.run_bind, vh]
    omega
  · cases tl <;> first | (cases h; done) | skip
    rename_i k z
    cases k <;> first | (cases h; done) | skip
    cases kl <;> first | (cases h; done) | skip
    obtain rfl := lit dl z rfl
    simp only [litB] at h
    split at h
    case isFalse => cases h
    rename_i hc
    cases h
    obtain ⟨z', rfl⟩ := Int.eq_ofNat_of_zero_le hc.1
    refine ⟨by omega, Nat.le_refl _, fun w => ?_⟩
    simp [Instr.sliceBounds, Instr.sliceBound, asIntOf, Sem.run_bind, vl]
    omega
  · cases tl <;> first | (cases h; done) | skip
    rename_i k z
    cases k <;> first | (cases h; done) | skip
    cases kl <;> first | (cases h; done) | skip
    cases th <;> first | (cases h; done) | skip
    rename_i k2 z2
    cases k2 <;> first | (cases h; done) | skip
    cases kh <;> first | (cases h; done) | skip
    obtain rfl := lit dl z rfl
    obtain rfl := lit dh z2 rfl
    simp only [litB] at h
    split at h
    case isFalse => cases h
    rename_i hc
    cases h
    obtain ⟨z', rfl⟩ := Int.eq_ofNat_of_zero_le hc.1
    obtain ⟨z2', rfl⟩ := Int.eq_ofNat_of_zero_le (show 0 ≤ z2 by omega)
    refine ⟨by omega, by omega, fun w => ?_⟩
    have hh1 : (z2' : Int) ≤ (n : Int) := hc.2.2
    have hh2 : (z' : Int) ≤ (z2' : Int) := hc.2.1
    simp [Instr.sliceBounds, Instr.sliceBound, asIntOf, Sem.run_bind, vl, vh, show z2' ≤ n by omega, show z' ≤ z2' by omega]
theorem qSlice_ok (hok : ∀ w, Mem none w0 w (baseF E ρ :: L) → OkL w ρ) (hw : ∃ w, Mem none w0 w (baseF E ρ :: L)) {sl : List AV} (hs : All2 (VR E ρ σ) sl a.tmps.toList) {t : TypeId} {x : Operand} {lo hi : Option Operand} {ql qh : Option (Tm × IntKind)} (ho : o.op = .slice t x lo hi none)
    (hl : optI sl lo = some ql) (hh : optI sl hi = some qh) {Xx : AV} (hx : VR E ρ σ Xx (a.eval x)) (h : qSlice E.cx t Xx ql qh = some (r, obs)) (hob : obsOk E.Δ ρ obs) : Yields E w0 ρ σ L a o r := by
  unfold qSlice at h
  split at h
  · rename_i n e hu
    simp only [Option.bind_eq_some_iff] at h
    obtain ⟨⟨b, off, dyn⟩, hr, st, hst, ⟨l, hh'⟩, hlit, h⟩ := h
    split at h
    case isFalse => cases h
    rename_i hln
    cases h
    obtain ⟨A, p, q, k1, k2, k3⟩ := opdR_ok hx hr
    replace hu : E.P.underlying t = some (.array n e) := hu
    replace hst : szT E.P e = some st := hst
    simp only [szT, Option.map_eq_some_iff] at hst
    obtain ⟨ii, hii, rfl⟩ := hst
    simp only at hln
    obtain ⟨c1, c2, hb⟩ := litB_ok (P := E.P) hs hl hh hlit
    refine .of (v := .slice (some ((A.getD ⟨0, 0, none⟩).add (p + (off + l * ii.size) + q))) (hh' - l) (n - l)) ⟨A, p, q, n - l, k1, k2, by omega, rfl⟩ fun w => ?_
    have hne : ¬ n = l := by omega
    unfold execOp
    simp [ho, k3, pt_eq, Instr.sliceAt, Sem.run_bind, run_underlying hu, hb w, Instr.sureAddr, sizeOf, typeInfo, hii, hne, add_add']
    congr 1
    omega
  · rename_i e hu
    split at h
    case h_2 => cases h
    rename_i u r'
    split at h
    case isFalse => cases h
    rename_i hsz
    obtain ⟨d, f1, f2, f3, f4⟩ := hx
    have hH := f2
    cases hH with
    | list _ A m c xs hxl hxh =>
    obtain ⟨rfl, hrd⟩ := list_len hok hw f1
    replace hu : E.P.underlying t = some (.slice e) := hu
    replace hsz : szT E.P e = some (E.Δ.row r').length := hsz
    have hall : xs.all (fun r => r.length == (E.Δ.row r').length) = true := List.all_eq_true.2 fun row hr => by simpa using hxl row hr
    have hc : xs.length ≤ c := by
      obtain ⟨w, hM⟩ := hw
      obtain ⟨A', c', e', hc, _⟩ := hrd w hM
      cases e'; exact hc
    have main : ∀ (tl th : Tm) (l' h' : Nat), Den E.Δ ρ tl (.int .i64 l') → Den E.Δ ρ th (.int .i64 h') → l' ≤ h' → h' ≤ xs.length → (lo.map a.eval = none ∧ l' = 0 ∨ lo.map a.eval = some (.int .i64 (l' : Int))) → (hi.map a.eval = none ∧ h' = xs.length ∨ hi.map a.eval = some (.int .i64 (h' : Int))) →
        Yields E w0 ρ σ L a o (tmV (.cut u tl th) (.list r')) := fun tl th l' h' dl dh b1 b2 el eh => by
      have hD : Den E.Δ ρ (.cut u tl th) (.list (cutV l' h' (E.Δ.row r').length (.slice A xs.length c)) (E.Δ.row r').length ((xs.take h').drop l')) := fun e => by
        simp only [den, f1 e, dl e, dh e, Dat.toInt, Int.toNat_natCast, cutD]
        rw [if_pos ⟨b1, b2, hall⟩]
      have hHas : Has E.Δ (.list r') (.list (cutV l' h' (E.Δ.row r').length (.slice A xs.length c)) (E.Δ.row r').length ((xs.take h').drop l')) :=
        .list r' _ _ _ _ (fun row hr => hxl row (List.mem_of_mem_take (List.mem_of_mem_drop hr))) (fun row hr => hxh row (List.mem_of_mem_take (List.mem_of_mem_drop hr)))
      refine .of (VR.ofTm hD hHas rfl) fun w => ?_
      have hrun := run_slice_list (P := E.P) (w := w) (A := A) (m := xs.length) (c := c) hu hsz _ _ el eh b1 b2 hc
      unfold execOp
      simp only [ho, f3, Dat.toV, Option.map_none, Sem.run_bind, hrun, Result.andThen_ok, Sem.run_pure, cutV]
    have hlen : Den E.Δ ρ (.len u) (.int .i64 xs.length) := fun e => by simp [den, f1 e, Dat.xs]
    have hzero : Den E.Δ ρ (.int .i64 0) (.int .i64 ((0 : Nat) : Int)) := fun e => rfl
    rcases optI_ok hs hl with ⟨rfl, rfl⟩ | ⟨yl, tl, kl, nl, rfl, rfl, dl, vl⟩ <;> rcases optI_ok hs hh with ⟨rfl, rfl⟩ | ⟨yh, th, kh, nh, rfl, rfl, dh, vh⟩
    · simp only at h
      cases h
      refine .of (v := a.eval x) ⟨_, f1, f2, f3, f4⟩ fun w => ?_
      have hrun := run_slice_list (P := E.P) (w := w) (A := A) (m := xs.length) (c := c) (l := 0) (h := xs.length) hu hsz none none (.inl ⟨rfl, rfl⟩) (.inl ⟨rfl, rfl⟩) (by omega) (by omega) hc
      unfold execOp
      simp only [ho, f3, Dat.toV, Option.map_none, Sem.run_bind, hrun, Result.andThen_ok, Sem.run_pure, Nat.sub_zero, Nat.zero_mul]
      congr 3
      cases A with
      | none => simp
      | some ad => simp [Addr.add]
    · cases kh <;> simp only at h <;> cases h
      have b1 := le_of E.Δ dh.now (y := .int .i64 0) (q := 0) rfl (c := .ge) (by simp) hob
      have b2 := le_of E.Δ dh.now hlen.now (c := .le) (by simp) hob
      simp only [Cmp.of, decide_eq_true_eq] at b1 b2
      obtain ⟨n', rfl⟩ := Int.eq_ofNat_of_zero_le b1
      exact main _ _ 0 n' hzero dh (by omega) (by omega) (.inl ⟨rfl, rfl⟩) (.inr (by simp [vh]))
    · cases kl <;> simp only at h <;> cases h
      have b1 := le_of E.Δ dl.now (y := .int .i64 0) (q := 0) rfl (c := .ge) (by simp) hob
      have b2 := le_of E.Δ dl.now hlen.now (c := .le) (by simp) hob
      simp only [Cmp.of, decide_eq_true_eq] at b1 b2
      obtain ⟨n', rfl⟩ := Int.eq_ofNat_of_zero_le b1
      exact main _ _ n' xs.length dl hlen (by omega) (by omega) (.inr (by simp [vl])) (.inl ⟨rfl, rfl⟩)
    · cases kl <;> cases kh <;> simp only at h <;> cases h
      have b1 := le_of E.Δ dl.now (y := .int .i64 0) (q := 0) rfl (c := .ge) (by simp) hob
      have b2 := le_of E.Δ dl.now dh.now (c := .le) (by simp) hob
      have b3 := le_of E.Δ dh.now hlen.now (c := .le) (by simp) hob
      simp only [Cmp.of, decide_eq_true_eq] at b1 b2 b3
      obtain ⟨n', rfl⟩ := Int.eq_ofNat_of_zero_le b1
      obtain ⟨n2, rfl⟩ := Int.eq_ofNat_of_zero_le (show 0 ≤ nh by omega)
      exact main _ _ n' n2 dl dh (by omega) (by omega) (.inr (by simp [vl])) (.inr (by simp [vh]))
  · rename_i hu
    replace hu : E.P.underlying t = some .string := hu
    have main : ∀ (u tl th : Tm) (l' h' : Nat) (s : ByteArray), Den E.Δ ρ u (.val (.string s)) → a.eval x = .string s → Den E.Δ ρ tl (.int .i64 l') → Den E.Δ ρ th (.int .i64 h') → l' ≤ h' → h' ≤ s.size → (lo.map a.eval = none ∧ l' = 0 ∨ lo.map a.eval = some (.int .i64 (l' : Int))) → (hi.map a.eval = none ∧ h' = s.size ∨ hi.map a.eval = some (.int .i64 (h' : Int))) →
        Yields E w0 ρ σ L a o (tmV (.scut u tl th) .str) := fun u tl th l' h' s du ev dl dh b1 b2 el eh => by
      refine .of (VR.ofTm (d := .val (.string (s.extract l' h'))) (fun e => by simp only [den, du e, dl e, dh e, strD, Dat.toInt, Int.toNat_natCast]) (.str _) rfl) fun w => ?_
      have hb : (Instr.sliceBounds false s.size s.size (lo.map a.eval) (hi.map a.eval) none).run E.P w = .ok (l', h', s.size) w := by
        rcases el with ⟨e1, rfl⟩ | e1 <;> rcases eh with ⟨e2, rfl⟩ | e2 <;> simp [e1, e2, Instr.sliceBounds, Instr.sliceBound, asIntOf, Sem.run_bind, b1, b2]
      unfold execOp
      simp [ho, ev, Instr.sliceAt, Instr.slice, Sem.run_bind, run_underlying hu, hb, Dat.toV]
    split at h
    · rename_i u l
      cases h
      obtain ⟨d, f1, f2, f3, f4⟩ := hx
      cases f2 with
      | str s =>
      rcases optI_ok hs hl with ⟨_, h0⟩ | ⟨yl, tl, kl, nl, rfl, h0, dl, vl⟩
      · cases h0
      cases h0
      rcases optI_ok hs hh with ⟨rfl, _⟩ | ⟨_, _, _, _, _, h0, _⟩
      case inr => cases h0
      have hlen : Den E.Δ ρ (.slen u) (.int .i64 s.size) := fun e => by simp only [den, f1 e, strD]
      have b1 := le_of E.Δ dl.now (y := .int .i64 0) (q := 0) rfl (c := .ge) (by simp) hob
      have b2 := le_of E.Δ dl.now hlen.now (c := .le) (by simp) hob
      simp only [Cmp.of, decide_eq_true_eq] at b1 b2
      obtain ⟨n', rfl⟩ := Int.eq_ofNat_of_zero_le b1
      exact main _ _ _ n' s.size s f1 f3 dl hlen (by omega) (by omega) (.inr (by simp [vl])) (.inl ⟨rfl, rfl⟩)
    · rename_i u l
      cases h
      obtain ⟨d, f1, f2, f3, f4⟩ := hx
      cases f2 with
      | str s =>
      rcases optI_ok hs hh with ⟨_, h0⟩ | ⟨yl, tl, kl, nl, rfl, h0, dl, vl⟩
      · cases h0
      cases h0
      rcases optI_ok hs hl with ⟨rfl, _⟩ | ⟨_, _, _, _, _, h0, _⟩
      case inr => cases h0
      have hlen : Den E.Δ ρ (.slen u) (.int .i64 s.size) := fun e => by simp only [den, f1 e, strD]
      have b1 := le_of E.Δ dl.now (y := .int .i64 0) (q := 0) rfl (c := .ge) (by simp) hob
      have b2 := le_of E.Δ dl.now hlen.now (c := .le) (by simp) hob
      simp only [Cmp.of, decide_eq_true_eq] at b1 b2
      obtain ⟨n', rfl⟩ := Int.eq_ofNat_of_zero_le b1
      exact main _ _ _ 0 n' s f1 f3 (fun _ => rfl) dl (by omega) (by omega) (.inl ⟨rfl, rfl⟩) (.inr (by simp [vl]))
    · rename_i u l h2
      cases h
      obtain ⟨d, f1, f2, f3, f4⟩ := hx
      cases f2 with
      | str s =>
      rcases optI_ok hs hh with ⟨_, h0⟩ | ⟨yh, th, kh, nh, rfl, h0, dh, vh⟩
      · cases h0
      cases h0
      rcases optI_ok hs hl with ⟨_, h0⟩ | ⟨yl, tl, kl, nl, rfl, h0, dl, vl⟩
      · cases h0
      cases h0
      have hlen : Den E.Δ ρ (.slen u) (.int .i64 s.size) := fun e => by simp only [den, f1 e, strD]
      have b1 := le_of E.Δ dl.now (y := .int .i64 0) (q := 0) rfl (c := .ge) (by simp) hob
      have b2 := le_of E.Δ dl.now dh.now (c := .le) (by simp) hob
      have b3 := le_of E.Δ dh.now hlen.now (c := .le) (by simp) hob
      simp only [Cmp.of, decide_eq_true_eq] at b1 b2 b3
      obtain ⟨n', rfl⟩ := Int.eq_ofNat_of_zero_le b1
      obtain ⟨n2, rfl⟩ := Int.eq_ofNat_of_zero_le (show 0 ≤ nh by omega)
      exact main _ _ _ n' n2 s f1 f3 dl dh (by omega) (by omega) (.inr (by simp [vl])) (.inr (by simp [vh]))
    · cases h
  · cases h
theorem run_len {P : Program} {w : World} {x : Operand} {t : TypeId} {n : Nat} (ho : o.op = .call { callee := .builtin .len, args := #[x], argTypes := #[t] }) (h : (Builtin.len_ #[t] o.type #[a.eval x]).run P w = .ok (.int .i64 n) w) : (execOp a.eval o).run P w = .ok (.value (.int .i64 n)) w := by
  unfold execOp
  simp [ho, resolve, invoke, builtin, h]
theorem push_fold (l : List Int) : ∀ s : List UInt8, (l.foldl (fun r n => r.push (UInt8.ofNat n.toNat)) (⟨s.toArray⟩ : ByteArray)) = ⟨(s ++ l.map fun n => UInt8.ofNat n.toNat).toArray⟩ := by
  induction l with
  | nil => intro s; simp
  | cons n l ih =>
    intro s
    simp only [List.map_cons, List.foldl_cons]
    have : (⟨s.toArray⟩ : ByteArray).push (UInt8.ofNat n.toNat) = ⟨(s ++ [UInt8.ofNat n.toNat]).toArray⟩ := by simp [ByteArray.push]
    rw [this, ih]
    simp
theorem flat_u8 {Δ : Tab} {r : Nat} (hr : Δ.row r = [.int .u8]) : ∀ {xs : List (List Dat)}, Has Δ (.rows r) (.rows xs) → flatV xs = (xs.map fun r => (r.headD (.int .u8 0)).toInt).map (Value.int .u8)
  | [], _ => rfl
  | row :: xs, h => by
    cases h with
    | rows _ _ hl hh =>
    have ih := flat_u8 hr (xs := xs) (.rows r xs (fun row hr => hl row (by simp [hr])) (fun row hr => hh row (by simp [hr])))
    have h1 := hl row (by simp)
    rw [hr] at h1
    obtain ⟨d, rfl⟩ := List.length_eq_one_iff.1 h1
    have h2 := hh [d] (by simp) 0 (.int .u8) d (by rw [hr]; rfl) rfl
    cases h2 with
    | int _ n =>
      have e1 : flatV ([.int .u8 n] :: xs) = .int .u8 n :: flatV xs := by simp [flatV, Dat.toV]
      rw [e1, ih]; rfl
theorem run_strV {P : Program} {w : World} {src dst e : TypeId} {v : Value} {n : Nat} {l : List Int} (hs : P.underlying src = some (.slice e)) (he : P.underlying e = some (.int .u8)) (hd : P.underlying dst = some .string)
    (h : Rd w 1 v n (l.map (Value.int .u8))) : (convert src dst v).run P w = .ok (.string ⟨(l.map fun n => UInt8.ofNat n.toNat).toArray⟩) w := by
  obtain ⟨A, c, rfl, hc, hl, ha⟩ := h
  rw [run_convert_bytes_string w src dst e A n c hs he hd]
  rw [List.length_map, Nat.mul_one] at hl
  cases A with
  | none =>
    have hn : n = 0 := by
      apply Classical.byContradiction
      intro hn
      obtain ⟨ad, e1, _⟩ := ha (by omega)
      cases e1
    subst hn
    have : l = [] := List.eq_nil_of_length_eq_zero (by omega)
    subst this
    simp [Conv.bytesToString]
    rfl
  | some ad =>
    have hload : (loadCells ad n).run P w = .ok (l.map (Value.int .u8)).toArray w := by
      have := run_loadCells_list (P := P) w ad (l.map (Value.int .u8)) (fun j u hu => by
        have hj : j < n := by
          have := (List.getElem?_eq_some_iff.1 hu).1
          rw [List.length_map] at this; omega
        obtain ⟨ad', e2, _, hcell⟩ := ha (by omega)
        cases e2
        exact hcell j u hu)
      rwa [List.length_map, show l.length = n by omega] at this
    have := run_bytesToString w ad n c l hload
    rw [this]
    congr 2
    have h0 := push_fold l []
    have e : ByteArray.empty = (⟨([] : List UInt8).toArray⟩ : ByteArray) := rfl
    rw [e, h0]
    rfl
theorem contentQ_ok (hO : ObsR E ρ σ os L) (hok : ∀ w, Mem none w0 w (baseF E ρ :: L) → OkL w ρ) (hw : ∃ w, Mem none w0 w (baseF E ρ :: L)) {X : AV} {v : Value} (hv : VR E ρ σ X v) {r : Nat} {t : Tm} (he : contentOf os X = some (r, t)) :
    ∃ xs, (∀ e, (den E.Δ (ρ ++ e) t).xs = xs) ∧ Has E.Δ (.rows r) (.rows xs) ∧ ∀ w, Mem none w0 w (baseF E ρ :: L) → Rd w (E.Δ.row r).length v xs.length (flatV xs) := by
  unfold contentOf at he
  split at he
  · cases he
    obtain ⟨d, d1, d2, rfl, _⟩ := hv
    cases d2 with
    | list _ A n c xs hl hh =>
    obtain ⟨rfl, hrd⟩ := list_len hok hw d1
    exact ⟨xs, fun e => by rw [d1 e]; rfl, .rows r xs hl hh, hrd⟩
  · split at he
    · rename_i j r' t' hj
      cases he
      obtain ⟨v', f, h1, h2, A, n, c, xs, rfl, h4, h5, h6, rfl⟩ := hO.get _ _ hj
      obtain ⟨hσ, _⟩ := hv
      rw [h1] at hσ
      cases hσ
      subst h6
      exact ⟨xs, fun e => by rw [h4 e]; rfl, h5, fun w hM => (hM.ow (List.mem_cons_of_mem _ (List.mem_of_getElem? h2))).rd⟩
    · cases he
  · cases he
theorem qConv_ok (hO : ObsR E ρ σ os L) (hok : ∀ w, Mem none w0 w (baseF E ρ :: L) → OkL w ρ) (hw : ∃ w, Mem none w0 w (baseF E ρ :: L)) {src dst : TypeId} {x : Operand} {Xx : AV} (ho : o.op = .convert src dst x) (hx : VR E ρ σ Xx (a.eval x)) (h : qConv E.cx os src dst Xx = some (r, obs)) : Yields E w0 ρ σ L a o r := by
  unfold qConv at h
  split at h
  · rename_i p ht
    obtain ⟨t, j⟩ := p
    obtain ⟨n, d1, e1⟩ := opdI_ok hx ht
    split at h
    · rename_i k hs hd
      cases h
      refine .of (VR.ofTm (d := .int k (k.wrap n)) (fun e => ?_) (.int _ _) rfl) fun w => ?_
      · have : den E.Δ (ρ ++ e) (mkConv k t) = den E.Δ (ρ ++ e) (.conv k t) := by unfold mkConv; split <;> rfl
        rw [this]; simp [den, d1 e, Dat.toInt]
      · unfold execOp
        simp only [ho, e1, convert, Sem.run_bind, run_underlying (show E.P.underlying src = _ from hs), run_underlying (show E.P.underlying dst = _ from hd), Result.andThen_ok, Conv.intToInt, Sem.run_pure, Dat.toV]
    · cases h
  · split at h
    · rename_i e hs hd
      split at h
      · rename_i r' t hc
        split at h
        case isFalse => cases h
        rename_i hcc
        cases h
        obtain ⟨c1, c2⟩ := hcc
        replace c2 := isU8_ok (P := E.P) c2
        replace c1 : E.Δ.row r' = [.int .u8] := c1
        obtain ⟨xs, x1, x2, x3⟩ := contentQ_ok hO hok hw hx hc
        refine ⟨_, VR.ofTm (d := .val (.string (bytesOf xs))) (fun e => ?_) (.str _) rfl, fun w hM => ?_⟩
        · simp only [den, x1 e]
        · have hr := x3 w hM
          rw [flat_u8 c1 x2, c1] at hr
          have hrun := run_strV (P := E.P) (src := src) (dst := dst) hs c2 hd hr
          unfold execOp
          simp only [ho, Sem.run_bind, hrun, Result.andThen_ok, Sem.run_pure, Dat.toV, bytesOf, List.map_map]
          rfl
      · cases h
    · cases h
theorem qLen_ok (hO : ObsR E ρ σ os L) (hok : ∀ w, Mem none w0 w (baseF E ρ :: L) → OkL w ρ) (hw : ∃ w, Mem none w0 w (baseF E ρ :: L)) {t : TypeId} {x : Operand} {Xx : AV} (ho : o.op = .call { callee := .builtin .len, args := #[x], argTypes := #[t] }) (hx : VR E ρ σ Xx (a.eval x)) (h : qLen E.P os t Xx = some (r, obs)) : Yields E w0 ρ σ L a o r := by
  unfold qLen at h
  split at h
  · rename_i e hu
    have run : ∀ {A : Option Addr} {n c : Nat} (w : World), a.eval x = .slice A n c → (execOp a.eval o).run E.P w = .ok (.value (.int .i64 n)) w := fun w hv => by
      refine run_len ho ?_
      simp [Builtin.len_, run_underlying hu, hv, goInt]
    split at h
    · rename_i t' r'
      cases h
      obtain ⟨d, f1, f2, f3, f4⟩ := hx
      have hH := f2
      cases hH with
      | list _ A m c xs hl hh =>
      have hm : m = xs.length := by
        obtain ⟨w, hM⟩ := hw
        have hk := (den_good (p := fun k => AtL ρ k) (w := w) (Δ := E.Δ) (fun d hd => ⟨hok w hM d hd, fun k hk => ⟨d, hd, hk⟩⟩) t').1
        rw [f1.now] at hk
        cases hk with
        | list _ _ _ hr _ _ =>
        obtain ⟨A', c', e', _⟩ := hr
        cases e'; rfl
      subst hm
      exact .of (VR.ofTm (d := .int .i64 xs.length) (fun e => by rw [mkLen_den, f1 e]; rfl) (.int _ _) rfl) fun w => run w f3
    · rename_i j
      split at h
      · rename_i r' t' hj
        cases h
        obtain ⟨v, f, h1, h2, A, n, c, xs, rfl, h4, h5, h6, h7⟩ := hO.get j _ hj
        obtain ⟨hσ, _⟩ := hx
        rw [h1] at hσ
        subst h6
        exact .of (VR.ofTm (d := .int .i64 xs.length) (fun e => by rw [mkLen_den, h4 e]; rfl) (.int _ _) rfl) fun w => run w (Option.some.inj hσ).symm
      · cases h
    · cases h
      exact .of (VR.ofTm (d := .int .i64 0) (fun _ => rfl) (.int _ _) rfl) fun w => run w hx
    · rename_i n
      cases h
      obtain ⟨A, p, q, m, _, _, _, hv⟩ := hx
      exact .of (VR.ofTm (d := .int .i64 n) (fun _ => rfl) (.int _ _) rfl) fun w => run w hv
    · cases h
  · rename_i n e hu
    cases h
    refine .of (VR.ofTm (d := .int .i64 n) (fun _ => rfl) (.int _ _) rfl) fun w => ?_
    refine run_len ho ?_
    simp [Builtin.len_, run_underlying hu, goInt]
  · rename_i hu
    split at h
    · rename_i l
      cases h
      obtain ⟨d, f1, f2, f3, f4⟩ := hx
      have fd := f1.now
      simp only [den] at fd
      subst fd
      refine .of (VR.ofTm (d := .int .i64 l.length) (fun _ => rfl) (.int _ _) rfl) fun w => ?_
      refine run_len ho ?_
      have hsz : (⟨(l.map UInt8.ofNat).toArray⟩ : ByteArray).size = l.length := by show (l.map UInt8.ofNat).toArray.size = _; simp
      simp only [f3, Dat.toV, strB]
      simp [Builtin.len_, run_underlying hu, goInt, hsz]
    · rename_i t _
      cases h
      obtain ⟨d, f1, f2, f3, f4⟩ := hx
      cases f2 with
      | str s =>
      refine .of (VR.ofTm (d := .int .i64 s.size) (fun e => by simp only [den, f1 e, strD]) (.int _ _) rfl) fun w => ?_
      refine run_len ho ?_
      simp [Builtin.len_, run_underlying hu, goInt, f3, Dat.toV]
    · cases h
  · cases h
theorem qMax_ok {b : Builtin} {tys : Array TypeId} {x y : Operand} {c : Cmp} (hb : b = .max ∨ b = .min) (ho : o.op = .call { callee := .builtin b, args := #[x, y], argTypes := tys })
    (hrun : ∀ (cs : Array Bool) (k : IntKind) (n m : Int), builtin b tys o.type cs #[.int k n, .int k m] = (pure (.value (.int k (if c.of m n then m else n))) : Sem Next)) {Xx Xy : AV} (hx : VR E ρ σ Xx (a.eval x)) (hy : VR E ρ σ Xy (a.eval y)) (h : qMax c Xx Xy = some (r, obs)) : Yields E w0 ρ σ L a o r := by
  unfold qMax at h
  simp only [Option.bind_eq_some_iff] at h
  obtain ⟨⟨t, k⟩, ht, ⟨u, k'⟩, hu, h⟩ := h
  split at h
  case isFalse => cases h
  rename_i hk
  simp only at hk
  subst hk
  cases h
  obtain ⟨n, d1, e1⟩ := opdI_ok hx ht
  obtain ⟨m, d2, e2⟩ := opdI_ok hy hu
  refine .of (VR.ofTm (d := .int k (if c.of m n then m else n)) (fun e => ?_) (.int _ _) rfl) fun w => ?_
  · rw [mkIte_den (q := c.of m n) _ _ (by rw [mkCmp_den]; simp [den, d1 e, d2 e, Dat.toInt]), d1 e, d2 e]
    split <;> rfl
  · unfold execOp
    simp only [ho, resolve, List.map_toArray, List.map_cons, List.map_nil, e1, e2, Sem.run_bind, Sem.run_pure, Result.andThen_ok, invoke]
    rw [hrun]; rfl
theorem qNilCheck_ok {x : Operand} {Xx : AV} (ho : o.op = .nilCheck x) (hx : VR E ρ σ Xx (a.eval x)) (h : qNilCheck Xx = some (r, obs)) : Yields E w0 ρ σ L a o r := by
  have key : ∀ ad, a.eval x = .pointer (some ad) → ∀ w, (execOp a.eval o).run E.P w = .ok (.value (a.eval x)) w := fun ad e w => by unfold execOp; simp [ho, e]
  unfold qNilCheck at h
  split at h
  · cases h
    refine .of hx fun w => ?_
    obtain ⟨A, p, q, _, _, hv⟩ := hx
    exact key _ (hv.trans (pt_eq _ _)) w
  · cases h
theorem evalQ_ok (hW : E.Wf) (hO : ObsR E ρ σ os L) (hpre : E.γ <+: ρ) {K : List (Tm × Bool)} (hK : ∀ x ∈ K, Den E.Δ ρ x.1 (.bool x.2)) {sl : List AV} (hs : All2 (VR E ρ σ) sl a.tmps.toList) (hw : ∃ w, Mem none w0 w (baseF E ρ :: L))
    (h : evalQ E.cx sl os K o = some (r, obs)) (hob : obsOk E.Δ ρ obs) : Yields E w0 ρ σ L a o r := by
  have hok : ∀ w, Mem none w0 w (baseF E ρ :: L) → OkL w ρ := fun w hM => (hM.holds _ List.mem_cons_self).1.1
  unfold evalQ at h
  split at h
  · rename_i x ho
    cases h
    exact .of (opd_ok hs x) fun w => by unfold execOp; simp [ho]
  · rename_i x ho
    cases h
    exact .of (opd_ok hs x) fun w => by unfold execOp; simp [ho]
  · rename_i ho; exact qPick_ok hK ho (opd_ok hs _) (opd_ok hs _) (opd_ok hs _) h
  · rename_i ho; exact qLoad_ok hW hO hpre ho (opd_ok hs _) h
  · rename_i ho
    obtain ⟨v, h1, h2⟩ := evalBin_ok ho (opd_ok hs _) (opd_ok hs _) h hob
    exact .of h1 h2
  · rename_i ho; exact qUn_ok ho (opd_ok hs _) h
  · rename_i ho; exact qConv_ok hO hok hw ho (opd_ok hs _) h
  · rename_i ho; exact qFieldAddr_ok ho (opd_ok hs _) h
  · rename_i ho; exact qIndexAddr_ok hO hok hw ho (opd_ok hs _) (opd_ok hs _) h hob
  · rename_i ho; exact qField_ok ho (opd_ok hs _) h
  · rename_i ho; exact qIndex_ok ho (opd_ok hs _) (opd_ok hs _) h hob
  · rename_i ho; exact qExtract_ok ho (opd_ok hs _) h
  · rename_i ho; exact qIface_ok ho (opd_ok hs _) h
  · rename_i ho; exact qAssert_ok ho (opd_ok hs _) h
  · rename_i ho
    simp only [Option.bind_eq_some_iff] at h
    obtain ⟨l, hl, h', hh, h⟩ := h
    exact qSlice_ok hok hw hs ho hl hh (opd_ok hs _) h hob
  · rename_i c ho
    obtain ⟨cal, args, tys⟩ := c
    split at h
    · rename_i x t h1 h2 h3
      simp only at h1 h2 h3
      have h2' : args = #[x] := by rw [← Array.toArray_toList (xs := args), h2]
      have h3' : tys = #[t] := by rw [← Array.toArray_toList (xs := tys), h3]
      subst h1 h2' h3'
      exact qLen_ok hO hok hw ho (opd_ok hs _) h
    · rename_i x y h1 h2
      simp only at h1 h2
      have h2' : args = #[x, y] := by rw [← Array.toArray_toList (xs := args), h2]
      subst h1 h2'
      exact qMax_ok (by simp) ho (fun cs k n m => by simp [builtin, Builtin.max_, Builtin.max2, Cmp.of]) (opd_ok hs _) (opd_ok hs _) h
    · rename_i x y h1 h2
      simp only at h1 h2
      have h2' : args = #[x, y] := by rw [← Array.toArray_toList (xs := args), h2]
      subst h1 h2'
      exact qMax_ok (by simp) ho (fun cs k n m => by simp [builtin, Builtin.min_, Builtin.min2, Cmp.of]) (opd_ok hs _) (opd_ok hs _) h
    · cases h
  · rename_i ho; exact qNilCheck_ok ho (opd_ok hs _) h
  · cases h
end
end Go.Proofs.YtcigbgpdikadpaaDoor
end
