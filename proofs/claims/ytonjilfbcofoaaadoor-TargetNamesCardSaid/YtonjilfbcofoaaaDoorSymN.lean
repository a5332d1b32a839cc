/-
  Contracts as values, and words for what trees demand.
-/
import Derived.Test.YtonjilfbcofoaaaDoorSymM
namespace Go.Proofs.YtonjilfbcofoaaaDoor
open Go.RowKit
set_option linter.unusedVariables false

def sgsN : List (Nat × Sig) → Nat → Option Sig
  | [], _ => none
  | x :: l, k => if x.1 = k then some x.2 else sgsN l k
structure Con (E : Env) where
  f : Nat
  sg : Sig
  Φ : Spec
  ok : sg.ok = true
  bo : ∃ x, bodyOf E.P f = some x
  holds : Holds E f sg Φ
def specC {E : Env} : List (Con E) → Nat → Spec
  | [], _ => fun _ _ => False
  | c :: T, k => if c.f = k then c.Φ else specC T k
def names {E : Env} (T : List (Con E)) : List (Nat × Sig) := T.map fun c => (c.f, c.sg)
theorem sgsN_con {E : Env} : ∀ (T : List (Con E)) (f : Nat) (sg : Sig), sgsN (names T) f = some sg → sg.ok = true ∧ (∃ x, bodyOf E.P f = some x) ∧ Holds E f sg (specC T f)
  | [], f, sg, h => by cases h
  | c :: T, f, sg, h => by
    simp only [names, List.map_cons, sgsN] at h
    by_cases e : c.f = f
    · rw [if_pos e] at h
      cases h
      subst e
      refine ⟨c.ok, c.bo, ?_⟩
      rw [specC, if_pos rfl]; exact c.holds
    · rw [if_neg e] at h
      have := sgsN_con T f sg h
      rw [specC, if_neg e]; exact this
theorem bo_of {P : Program} {f : Nat} (h : (bodyOf P f).isSome = true) : ∃ x, bodyOf P f = some x := Option.isSome_iff_exists.1 h
/-- a tree's demands, for all arguments of the sorts -/
def Meets (E : Env) (T : List (Con E)) (sg : Sig) (tr : Tree) (Ψ : Spec) : Prop := allS E.Δ (Sig.sorts sg.params) fun ds => ∀ Q, Ψ ds Q → wp E.Δ (specC T) Q tr (E.γ ++ ds) []
theorem con_of {E : Env} (hW : E.Wf) (hmix : E.P.follows .mixedOrders = true) (T : List (Con E)) {ns : List (Nat × Sig)} (hn : names T = ns) {f : Nat} {sg : Sig} {tr : Tree} {n : Nat} (hγ : E.γ.length = n) (hT : walk E.cx (sgsN ns) n f sg = tr) (hsg : sg.ok = true) {Ψ : Spec}
    (h : Meets E T sg tr Ψ) : Holds E f sg Ψ := by
  subst hn hγ
  exact walk_ok hW hmix (sgsN_con T) hT hsg fun ds Q hs hΨ => allS_use h hs Q hΨ
/-- package variables that are plain numbers -/
def litOk : Tm × Srt → Bool
  | (.int k _, .int k') => decide (k = k')
  | (.bool _, .bool) => true
  | _ => false
theorem wf_lit {E : Env} (h : E.gt.all (fun x => x.2.1.all litOk) = true) : E.Wf := by
  refine ⟨fun x hx t ht => ?_⟩
  have h1 := List.all_eq_true.1 (List.all_eq_true.1 h x hx) t ht
  obtain ⟨t, s⟩ := t
  unfold litOk at h1
  split at h1
  · rename_i k n k' e
    simp only [decide_eq_true_eq] at h1
    cases e; subst h1
    exact ⟨.int _ _, rfl, rfl⟩
  · rename_i b e
    cases e
    exact ⟨.bool _, rfl, rfl⟩
  · cases h1

/-- numbers in data -/
def rowI (r : List Dat) (c : Nat) : Int := (r.getD c (.int .i64 0)).toInt
def argI (ds : List Dat) (i : Nat) : Int := (ds.getD i (.int .i64 0)).toInt
theorem toInt_getD (r : List Dat) (c : Nat) : (r.getD c (.int .i64 0)).toInt = rowI r c := rfl
end Go.Proofs.YtonjilfbcofoaaaDoor
