/-
  A function's contract out of its walk.
-/
import Derived.Test.YtonjilfbcofoaaaDoorSymL
namespace Go.Proofs.YtonjilfbcofoaaaDoor
open Go.RowKit
set_option linter.unusedVariables false

section
variable {E : Env} {w0 w w' : World} {ρ ρ' : List Dat} {σ σ' : List Value} {S S' : St} {a : Act} {L : List Fact} {o : Oper}
theorem groupV_len : ∀ (l : List (Bool × List Srt)) (ds : List Dat), (groupV l ds).length = l.length
  | [], _ => rfl
  | (ag, ss) :: l, ds => by simp [groupV, groupV_len l]
theorem resA_len : ∀ (l : List (Bool × List Srt)) (n : Nat), (resA l n).length = l.length
  | [], _ => rfl
  | (ag, ss) :: l, n => by simp [resA, resA_len l]
theorem a1_av {l : List A1} {vs : List Value} (h : All2 (AR E ρ σ) l vs) : All2 (VR E ρ σ) (l.map AV.v) vs := by
  induction h with
  | nil => exact .nil
  | cons h _ ih => exact .cons h ih
theorem fin_ok (hW : E.Wf) {F : Fin} {fn : Func} (hF : F.res = fn.results.toList) {Q : List Dat → Prop} {ts : List Tm} (h : Rel E w0 ρ σ S a w) (hf : finTms E.cx F S = some ts) (hQ : Q (ts.map (den E.Δ ρ))) :
    bodyPost E.P fn (fun e w' => Ends E F.sg w0 w' E.old Q e) .normal a w := by
  unfold finTms at hf
  rw [Option.bind_eq_some_iff] at hf
  obtain ⟨l, hl, hf⟩ := hf
  obtain ⟨vs, v1, v2⟩ := resAll_ok hW h hl
  rw [hF] at v2
  obtain ⟨L, hO, hM⟩ := h.mem
  have hgood : ∀ d ∈ ts.map (den E.Δ ρ), Good w (AtL ρ) d := fun d hd => by
    obtain ⟨t, _, rfl⟩ := List.mem_map.1 hd
    exact den_good (fun d hd => ⟨h.ok d hd, fun k hk => ⟨d, hd, hk⟩⟩) t
  have hat : ∀ k, AtL (ts.map (den E.Δ ρ)) k → AtL ρ k := fun k ⟨d, hd, hk⟩ => (hgood d hd).2 k hk
  refine ⟨h.defers, retV vs, run_results v2, ts.map (den E.Δ ρ), hQ, ?_⟩
  by_cases hown : F.sg.own = true
  · rw [if_pos hown] at hf
    split at hf
    · rename_i j r hres
      split at hf
      · rename_i r' t hob
        split at hf
        case isFalse => cases hf
        rename_i hr
        subst hr
        cases hf
        obtain ⟨v, f, h1, h2, A, n, c, xs, rfl, h4, h5, h6, rfl⟩ := hO.get _ _ hob
        cases v1 with
        | cons u1 u2 =>
        cases u2
        have hv := u1.1
        rw [h1] at hv
        cases hv
        have hOw := hM.ow (List.mem_cons_of_mem _ (List.mem_of_getElem? h2))
        simp only [List.map_cons, List.map_nil, h4.now] at hat hgood ⊢
        refine ⟨?_, hM.below, fun d hd => (hgood d hd).1, fun k hk => h.reach k (hat k hk), ?_⟩
        · rw [hres]; exact .cons h5 .nil
        · rw [if_pos hown]
          refine ⟨A, n, c, r, xs, hres, rfl, rfl, hOw, h6, fun k hk hk2 => ?_⟩
          exact (List.pairwise_cons.1 hM.apart).1 _ (List.mem_of_getElem? h2) (by simp [Fact.wr]) k (.inl (hat k hk2)) hk
      · cases hf
    · cases hf
  · rw [if_neg hown] at hf
    have hv := a1_av v1
    obtain ⟨k1, k2⟩ := argTms_ok hv hf
    refine ⟨k2, hM.below, fun d hd => (hgood d hd).1, fun k hk => h.reach k (hat k hk), ?_⟩
    rw [if_neg hown, k1]
/-- what is known where a call begins -/
theorem start_ok {sg : Sig} (hsg : sg.ok = true) {ds : List Dat} (hs : All2 (Has E.Δ) (Sig.sorts sg.params) ds) (hok : OkL w ds) (hγ : OkL w E.γ) (hG : E.globs w) (hold : ∀ k, AtL ds k ∨ AtL E.γ k → E.old k) (nt : Nat) :
    Rel E w (E.γ ++ ds) [] (start sg E.γ.length nt) { tmps := (groupV sg.params ds).toArray ++ Array.replicate (nt - (groupV sg.params ds).toArray.size) undef, defers := [] } w := by
  have hp : grpOk sg.params = true := by
    unfold Sig.ok at hsg
    rw [Bool.and_eq_true] at hsg
    exact hsg.1
  have hr := resA_ok (E := E) (ρ := E.γ ++ ds) (σ := []) (n := E.γ.length) hs hp (fun i d hd => by rw [List.getElem?_append_right (by omega), Nat.add_sub_cancel_left]; exact hd)
  have hlen : Sig.sorts sg.params = sg.params.flatMap (·.2) := rfl
  refine ⟨?_, rfl, ?_, (fun x hx => by cases hx), ⟨[], ⟨rfl, rfl, (fun j o h => by cases h)⟩, ?_⟩, List.prefix_append _ _, fun k hk => ?_⟩
  · simp only [start, Array.toList_append, Array.toList_replicate, List.size_toArray, resA_len, groupV_len]
    exact (a1_av hr).append (All2.replicate (show VR E (E.γ ++ ds) [] (.v (.c .undef)) undef from rfl) _)
  · simp only [start, List.length_append]
    rw [← hlen, hs.length]
  · refine (Mem.start w).addOld (f := baseF E (E.γ ++ ds)) ⟨⟨fun d hd => ?_, hG⟩, baseFirm _ _⟩ rfl fun k hk => ⟨?_, by simp⟩
    · rcases List.mem_append.1 hd with hd | hd
      · exact hγ d hd
      · exact hok d hd
    · refine (baseFirm E (E.γ ++ ds)).lt w ⟨fun d hd => ?_, hG⟩ k hk
      rcases List.mem_append.1 hd with hd | hd
      · exact hγ d hd
      · exact hok d hd
  · right
    refine hold k ?_
    rcases atL_append hk with hk | hk
    · exact .inr hk
    · exact .inl hk
/-- the contract of a function: what its tree demands -/
theorem walk_ok (hW : E.Wf) (hmix : E.P.follows .mixedOrders = true) {sgs : Nat → Option Sig} {Φ : Nat → Spec} (hΦ : ∀ f sg, sgs f = some sg → sg.ok = true ∧ (∃ x, bodyOf E.P f = some x) ∧ Holds E f sg (Φ f))
    {f : Nat} {sg : Sig} {T : Tree} (hT : walk E.cx sgs E.γ.length f sg = T) (hsg : sg.ok = true) {Ψ : Spec} (hspec : ∀ ds Q, All2 (Has E.Δ) (Sig.sorts sg.params) ds → Ψ ds Q → wp E.Δ Φ Q T (E.γ ++ ds) []) : Holds E f sg Ψ := by
  intro w ds Q hs hok hγ hG hΨ
  have hw := hspec ds Q hs hΨ
  rw [← hT] at hw
  unfold walk at hw
  split at hw
  case h_2 => exact hw.elim
  rename_i fn c hb
  obtain ⟨b1, b2, _⟩ := bodyOf_ok hb
  let E' : Env := { E with old := fun k => AtL ds k ∨ AtL E.γ k }
  have hW' : E'.Wf := ⟨hW.srt⟩
  have hr := start_ok (E := E') hsg hs hok hγ hG (fun k hk => hk) fn.ntmps
  refine calls_of_wp b1 b2 ?_
  exact run_ok (E := E') (w0 := w) (Fn := bodyPost E.P fn (fun e w' => Ends E sg w w' (fun k => AtL ds k ∨ AtL E.γ k) Q e)) hW' hmix (Φ := Φ) hΦ (F := ⟨sg, fn.results.toList⟩) (Post := Q) (fun a w h => h)
    (fun S a w' ρ σ ts h hf hQ => fin_ok hW' (F := ⟨sg, fn.results.toList⟩) rfl h hf hQ) 100000 0 (start sg E.γ.length fn.ntmps) _ _ [] [] _ _ w rfl (.code .fin) hr hw
end
end Go.Proofs.YtonjilfbcofoaaaDoor
