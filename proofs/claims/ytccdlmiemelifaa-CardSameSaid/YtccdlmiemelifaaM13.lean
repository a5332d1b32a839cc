import Derived.Test.YtccdlmiemelifaaM12
import Derived.Test.YtccdlmiemelifaaM11
import Derived.Test.YtccdlmiemelifaaM10
import Derived.Deep.RegionWith

set_option linter.unusedVariables false
set_option linter.unusedSimpArgs false

section
namespace Go.Proofs.Ytccdlmiemelifaa
open Go.RowKit
set_option linter.unusedVariables false
set_option linter.unusedSimpArgs false

theorem card_isz (x0 x1 x2 x3 x4 x5 x6 x7 x8 x9 x10 x11 x12 : Value) : (Try.prog.info? 37).map (·.size) = some (#[x0, x1, x2, x3, x4, x5, x6, x7, x8, x9, x10, x11, x12] : Array Value).size := by kernel_rfl
def Ones (x0 x1 x2 x3 x4 x5 x6 x7 x8 x9 x10 x11 : Value) : Prop := (#[x0, x1, x2, x3, x4, x5, x6, x7, x8, x9, x10, x11] : Array Value).all (·.oneCell') = true
theorem card_one {x0 x1 x2 x3 x4 x5 x6 x7 x8 x9 x10 x11 : Value} (h : Ones x0 x1 x2 x3 x4 x5 x6 x7 x8 x9 x10 x11) {u : Value} (hu : u.oneCell' = true) : (#[x0, x1, x2, x3, x4, x5, x6, x7, x8, x9, x10, x11, u] : Array Value).all (·.oneCell') = true := by
  unfold Ones at h
  simp at h ⊢
  simp [h, hu]
/-- what a round of the loop finds -/
def CpcI (w : World) (cs : Value → Array Value) (zs : Array Value) (rows : List (List Dat)) (B' : Nat) (A : Option Addr) (c : Nat) (i : Nat) (wr : World) : Prop :=
  ∃ us : List Value, us.length = rows.length ∧ Row wr w.heap.size (cs (.slice A rows.length c)) 37 ∧ Row wr (w.heap.size + 1) zs 37 ∧ Below w.heap.size w wr ∧ B' ≤ wr.heap.size ∧
    Ow wr (w.heap.size + 2) 14 (.slice A rows.length c) rows.length (rowsA rows us) ∧ (∀ k, blkOf (.slice A rows.length c) = some k → k < B') ∧ (∀ j r, i ≤ j → rows[j]? = some r → us[j]? = some (subA r)) ∧ ∀ j r u, j < i → rows[j]? = some r → us[j]? = some u → TrE wr B' u (effOf (r.drop 9)).subs
theorem abl_rows {v : Value} {rows : List (List Dat)} (h : Has E0.Δ (.list 42) (.list v 14 rows)) : ∀ r ∈ rows, All2 (Has E0.Δ) ablS r := by
  have hrow := abl_rowS
  have h14 := abl_row14
  generalize hd : Dat.list v 14 rows = d at h
  cases h with
  | list _ A n c xs hl hx =>
    cases hd
    intro r hr
    have h5 := hl r hr
    have hg := hx r hr
    rw [h14] at h5
    rw [hrow] at hg
    match r, h5 with
    | [a, b, c, d, e, f, g, h, i, j, k, l, m, n], _ => exact .cons (hg 0 _ _ rfl rfl) (.cons (hg 1 _ _ rfl rfl) (.cons (hg 2 _ _ rfl rfl) (.cons (hg 3 _ _ rfl rfl) (.cons (hg 4 _ _ rfl rfl) (.cons (hg 5 _ _ rfl rfl) (.cons (hg 6 _ _ rfl rfl) (.cons (hg 7 _ _ rfl rfl) (.cons (hg 8 _ _ rfl rfl) (.cons (hg 9 _ _ rfl rfl) (.cons (hg 10 _ _ rfl rfl) (.cons (hg 11 _ _ rfl rfl) (.cons (hg 12 _ _ rfl rfl) (.cons (hg 13 _ _ rfl rfl) .nil)))))))))))))
set_option maxRecDepth 1000000 in
set_option maxHeartbeats 4000000 in
theorem copyC_w (x0 x1 x2 x3 x4 x5 x6 x7 x8 x9 x10 x11 v : Value) (rows : List (List Dat)) (w : World) (hone : Ones x0 x1 x2 x3 x4 x5 x6 x7 x8 x9 x10 x11) (hsz : ∀ r ∈ rows, (effOf (r.drop 9)).size ≤ 300) (hlen : rows.length ≤ 1000) (hok : OkD w (.list v 14 rows)) (hhas : Has E0.Δ (.list 42) (.list v 14 rows)) :
    Calls Try.prog 15 #[.agg #[x0, x1, x2, x3, x4, x5, x6, x7, x8, x9, x10, x11, v]] w fun e w' => ∃ u, e = .returned (.agg #[x0, x1, x2, x3, x4, x5, x6, x7, x8, x9, x10, x11, u]) ∧ Below w.heap.size w w' ∧ TrA w' w.heap.size u rows := by
  have hrows := abl_rows hhas
  have h14 : ∀ r ∈ rows, r.length = 14 := fun r hr => (hrows r hr).length.symm
  have hcl : ∀ W, Below w.heap.size w W → w.heap.size ≤ W.heap.size → Calls Try.prog 25 #[v] W fun e w' => ∃ A c, e = .returned (.slice A rows.length c) ∧ Below W.heap.size W w' ∧ Ow w' W.heap.size 14 (.slice A rows.length c) rows.length (flatV rows) := by
    intro W hb _
    refine (aClone_h W [.list v 14 rows] (fun rs => rs = [.rows rows]) (.cons hhas .nil) (fun d hd => by rw [List.mem_singleton.1 hd]; exact hok.keeps (grown_of_below hb) fun _ _ e => by cases e) (fun d hd => by cases hd) (globs_any W) ⟨by show rows.length ≤ _; omega, rfl⟩).mono ?_
    rintro e w' ⟨rs, rfl, _, hb2, _, _, h⟩
    rw [if_pos (show sg_aClone.own = true from rfl)] at h
    obtain ⟨A, n, c, r, xs, h1, h2, h3, h4, h5, _⟩ := h
    cases h2
    rw [aClone_res] at h1
    have hr : 42 = r := by injection h1 with h1 _; injection h1 with _ h1; injection h1 with h1 _; injection h1
    subst hr
    rw [abl_row14] at h4
    subst h5
    exact ⟨A, c, h3, hb2, h4⟩
  generalize hln : rows.length = ln at *
  go_enter Try.func15, Try.ntmps15
  have HB0 : Below w.heap.size w ((w.alloc (.cells #[x0, x1, x2, x3, x4, x5, x6, x7, x8, x9, x10, x11, v] 37)).alloc (.cells #[.int .i64 0, .int .i64 0, .bool false, .int .i64 0, .int .i64 0, .int .i64 0, .int .i64 0, .int .i64 0, .int .i64 0, .int .i64 0, .int .i64 0, .int .i64 0, .slice none 0 0] 37)) := ((Below.refl w.heap.size w).alloc (Nat.le_refl _) _).alloc (by simp) _
  have HRW : ∀ W2, Below ((w.alloc (.cells #[x0, x1, x2, x3, x4, x5, x6, x7, x8, x9, x10, x11, v] 37)).alloc (.cells #[.int .i64 0, .int .i64 0, .bool false, .int .i64 0, .int .i64 0, .int .i64 0, .int .i64 0, .int .i64 0, .int .i64 0, .int .i64 0, .int .i64 0, .int .i64 0, .slice none 0 0] 37)).heap.size ((w.alloc (.cells #[x0, x1, x2, x3, x4, x5, x6, x7, x8, x9, x10, x11, v] 37)).alloc (.cells #[.int .i64 0, .int .i64 0, .bool false, .int .i64 0, .int .i64 0, .int .i64 0, .int .i64 0, .int .i64 0, .int .i64 0, .int .i64 0, .int .i64 0, .int .i64 0, .slice none 0 0] 37)) W2 → Row W2 w.heap.size #[x0, x1, x2, x3, x4, x5, x6, x7, x8, x9, x10, x11, v] 37 ∧ Row W2 (w.heap.size + 1) #[.int .i64 0, .int .i64 0, .bool false, .int .i64 0, .int .i64 0, .int .i64 0, .int .i64 0, .int .i64 0, .int .i64 0, .int .i64 0, .int .i64 0, .int .i64 0, .slice none 0 0] 37 ∧ Below w.heap.size w W2 ∧ w.heap.size + 2 ≤ W2.heap.size := fun W2 hb => ⟨((Row.new w _ _).alloc _).below hb, by
    have := (Row.new (w.alloc (.cells #[x0, x1, x2, x3, x4, x5, x6, x7, x8, x9, x10, x11, v] 37)) #[.int .i64 0, .int .i64 0, .bool false, .int .i64 0, .int .i64 0, .int .i64 0, .int .i64 0, .int .i64 0, .int .i64 0, .int .i64 0, .int .i64 0, .int .i64 0, .slice none 0 0] 37).below hb
    simpa using this, HB0.trans (hb.mono HB0.size), by have := hb.size; simpa using this⟩
  have hszW : ((w.alloc (.cells #[x0, x1, x2, x3, x4, x5, x6, x7, x8, x9, x10, x11, v] 37)).alloc (.cells #[.int .i64 0, .int .i64 0, .bool false, .int .i64 0, .int .i64 0, .int .i64 0, .int .i64 0, .int .i64 0, .int .i64 0, .int .i64 0, .int .i64 0, .int .i64 0, .slice none 0 0] 37)).heap.size = w.heap.size + 2 := by simp
  go_wp2_with (go_at_call 25; refine (hcl _ HB0 HB0.size).mono ?_; rintro e W2 ⟨A, c, rfl, hb2, hO⟩; rw [hszW] at hO; obtain ⟨HR, HR1, HB, HS⟩ := HRW W2 hb2; clear hb2 HRW HB0; have hc4 := HR.cell (i := 12) rfl; have hf4 := HR.free 12)
  have hfl := flat_rowsA h14
  rw [hfl] at hO
  clear hc4 hf4 hcl hszW
  have HSW := HS
  go_loopg [3, 11] ln (fun g _ p11 wr => ∃ i : Nat, ln ≤ i + g ∧ i ≤ ln ∧ p11 = .int .i64 i ∧ CpcI w (fun z => #[x0, x1, x2, x3, x4, x5, x6, x7, x8, x9, x10, x11, z]) #[.int .i64 0, .int .i64 0, .bool false, .int .i64 0, .int .i64 0, .int .i64 0, .int .i64 0, .int .i64 0, .int .i64 0, .int .i64 0, .int .i64 0, .int .i64 0, .slice none 0 0] rows W2.heap.size A c i wr)
  case atStart =>
    refine ⟨0, by omega, by omega, rfl, rows.map subA, by simp, ?_, HR1.other (by omega) _ _, HB.trans (below_st _ _ _ (Nat.le_refl _)), by simp, ?_, by rw [hln]; exact fun k hk => (hO.blk_lt k hk).2, ?_, ?_⟩
    · rw [hln]; exact HR.set 12 _
    · rw [hln]; exact hO.grown (grownBy_setCell W2 _ _ _) (by
        cases hv : blkOf _ with
        | none => exact .inl rfl
        | some k => right; intro e; have := (hO.blk_lt k hv).1; cases e; omega)
    · intro j r _ hr; rw [List.getElem?_map, hr]; rfl
    · intro j r u hj; omega
  case round =>
    clear HR HR1 HB HS hO
    obtain ⟨i, hg, hi, rfl, us, hul, HR, HR1, HB, HS, HO, hBk, hold, hnew⟩ := hrel
    rw [hln] at HR HO hBk
    by_cases hlt : i < ln
    · have hlt' : (i : Int) < ln := by omega
      obtain ⟨A', c', e, _, _, _, hoo⟩ := id HO
      cases e
      obtain ⟨g, off, rfl, hgB, hgl, _⟩ := hoo (by omega)
      clear hoo
      have hc4 := HR.cell (i := 12) rfl
      have hlt0 : w.heap.size < wr.heap.size := HR.lt
      have hne0 : w.heap.size ≠ g := by omega
      go_upto_region 5 with fail
      have q4 : ∀ x : Gro (some g) wr.drew, (gro (some g) wr.drew x).cell? ⟨w.heap.size, 12, none⟩ = some (.slice (some ⟨g, off, none⟩) ln c) := fun x => (gro_cell1 (w := wr.drew) hlt0 hne0).trans hc4
      refine wp_region_G (bo := some g) [(true, 0), (true, 1), (true, 2), (true, 3), (true, 4), (true, 5), (true, 6), (true, 7), (false, 8), (false, 9), (true, 10), (true, 11), (false, 12)] (by kernel_rfl) (by kernel_rfl) (by kernel_rfl) (by kernel_rfl) ?_
      iterate 8 (refine wpG_quiet rfl ?_; go_big_quiet_step (fail); refine wpQuiet_nil ?_)
      have hil : i < rows.length := by omega
      have hri : rows[i]? = some rows[i] := List.getElem?_eq_getElem hil
      generalize hr0 : rows[i] = r0 at *
      have hrm : r0 ∈ rows := by rw [← hr0]; exact List.getElem_mem hil
      obtain ⟨a0, a1, a2, a3, a4, a5, a6, a7, a8, a, b, c0, d, v0, sub, hr, hsub⟩ := abl_shape (hrows _ hrm)
      have hv : subA r0 = v0 := by rw [hr]; rfl
      have he : effOf (r0.drop 9) = .mk a b c0 d (sub.map effOf) := by rw [hr, effOf_eq]; rfl
      have hui : us[i]? = some v0 := by rw [hold i _ (Nat.le_refl _) hri, hv]
      have HOd := HO.below ((Below.refl wr.heap.size wr).drew)
      have hget : ∀ j, j < 5 → (rowsA rows us)[i * 14 + 9 + j]? = (#[.int .i64 a, .int .i64 b, .int .i64 c0, .int .i64 d, v0] : Array Value)[j]? := by
        intro j hj
        rw [Nat.add_assoc, rowsA_get h14 hri hui (by omega), hr]
        match j, hj with
        | 0, _ => rfl
        | 1, _ => rfl
        | 2, _ => rfl
        | 3, _ => rfl
        | 4, _ => rfl
      refine wpG_loadO (p := i * 14 + 9) (cs := #[.int .i64 a, .int .i64 b, .int .i64 c0, .int .i64 d, v0]) HOd rfl rfl 24 _ rfl (by rfl) (by omega) (fun j u hj => ?_) Try.underlying24 rfl (by kernel_rfl) ?_
      · rw [hget j (Array.getElem?_eq_some_iff.1 hj).1]; exact hj
      refine wpG_event rfl rfl fun K hK => ?_
      go_step
      have hsz2 : 1 + Eff.sizes (sub.map effOf) ≤ 300 := by
        have := hsz _ hrm
        rw [he, Eff.size_eq] at this
        exact this
      have hok2 : OkD wr.drew (.list v0 5 sub) := by
        cases hok with
        | list _ _ _ _ hx =>
          have := hx _ hrm (.list v0 5 sub) (by rw [hr]; simp)
          exact this.keeps (grown_of_below HB.drew) fun _ _ e => by cases e
      refine (copy_w 1001 a b c0 d v0 sub wr.drew (by omega) (by omega) hok2 hsub).mono ?_
      rintro e W3 ⟨u, rfl, hb3, htr⟩
      refine hK _ _ (LatG.below hb3) ?_
      clear hK K
      have HO3 := HOd.below hb3
      have hgB' : g < W2.heap.size := hBk g (by simp only [blkOf]; rw [if_pos (by omega)])
      have hs3 := hb3.size
      have hnewW : ∀ j r' u', j < i → rows[j]? = some r' → us[j]? = some u' → TrE W3 W2.heap.size u' (effOf (r'.drop 9)).subs := fun j r' u' hj h1 h2 => ((hnew j r' u' hj h1 h2).kept ((Below.refl wr.heap.size wr).drew)).kept hb3
      have htrW : TrE W3 W2.heap.size u (sub.map effOf) := htr.weak HS
      have hval : setMany (rowsA rows us) (i * 14 + 9) [.int .i64 a, .int .i64 b, .int .i64 c0, .int .i64 d, u] = rowsA rows (us.set i u) := by
        rw [rowsA_set u h14 hul hil]
        show ((((( rowsA rows us).set (i * 14 + 9) (.int .i64 a)).set (i * 14 + 9 + 1) (.int .i64 b)).set (i * 14 + 9 + 1 + 1) (.int .i64 c0)).set (i * 14 + 9 + 1 + 1 + 1) (.int .i64 d)).set (i * 14 + 9 + 1 + 1 + 1 + 1) u = _
        have g0 : (rowsA rows us).set (i * 14 + 9) (.int .i64 a) = rowsA rows us := set_same (hget 0 (by omega))
        have g1 : (rowsA rows us).set (i * 14 + 9 + 1) (.int .i64 b) = rowsA rows us := set_same (hget 1 (by omega))
        have g2 : (rowsA rows us).set (i * 14 + 9 + 1 + 1) (.int .i64 c0) = rowsA rows us := set_same (hget 2 (by omega))
        have g3 : (rowsA rows us).set (i * 14 + 9 + 1 + 1 + 1) (.int .i64 d) = rowsA rows us := set_same (hget 3 (by omega))
        rw [g0, g1, g2, g3]
      have hu1 : u.oneCell' = true := by
        cases htr with
        | mk _ ho _ _ _ => obtain ⟨_, _, rfl, _⟩ := ho; rfl
      iterate 2 (refine wpG_quiet rfl ?_; go_big_quiet_step (fail); refine wpQuiet_nil ?_)
      refine wpG_storeO (p := i * 14 + 9) (cs := #[.int .i64 a, .int .i64 b, .int .i64 c0, .int .i64 d, u]) HO3 rfl rfl rfl 24 _ _ rfl (by rfl) rfl ?_ (by kernel_rfl) ?_ ?_
      · show i * 14 + 9 + 5 ≤ ln * 14; omega
      · intro x hx
        simp only [List.mem_cons, List.not_mem_nil, or_false] at hx
        rcases hx with rfl | rfl | rfl | rfl | rfl
        · rfl
        · rfl
        · rfl
        · rfl
        · exact hu1
      intro wn hOn hgr
      rw [hval] at hOn
      refine wpG_nil ?_
      have HRn := row_grown (((HR.drew).below hb3)) hgr (by omega)
      have HR1n := row_grown (((HR1.drew).below hb3)) hgr (by omega)
      have HBn : Below w.heap.size w wn := below_grown (HB.drew.trans (hb3.mono (by have := HB.size; exact this))) hgr (by have h1 := HB.size; have h2 : wr.heap.size ≤ W3.heap.size := hs3; omega) (by omega)
      have hsn := hgr.size
      have hnewN : ∀ j r' u', j < i + 1 → rows[j]? = some r' → (us.set i u)[j]? = some u' → TrE wn W2.heap.size u' (effOf (r'.drop 9)).subs := by
        intro j r' u' hj h1 h2
        rw [List.getElem?_set] at h2
        by_cases hji : i = j
        · subst hji
          rw [if_pos rfl, if_pos (by omega)] at h2
          cases h2
          rw [hri] at h1; cases h1
          rw [he]
          exact htrW.grown hgr fun k hk => by cases hk; exact hgB'
        · rw [if_neg hji] at h2
          exact (hnewW j r' u' (by omega) h1 h2).grown hgr fun k hk => by cases hk; exact hgB'
      have holdN : ∀ j r', i + 1 ≤ j → rows[j]? = some r' → (us.set i u)[j]? = some (subA r') := by
        intro j r' hj h1
        rw [List.getElem?_set, if_neg (by omega)]
        exact hold j r' (by omega) h1
      have hlenN : (us.set i u).length = rows.length := by rw [List.length_set]; exact hul
      have hSn : W2.heap.size ≤ wn.heap.size := by have : wr.heap.size ≤ W3.heap.size := hs3; omega
      rw [← hln] at HRn hOn hBk
      have HF : CpcI w (fun z => #[x0, x1, x2, x3, x4, x5, x6, x7, x8, x9, x10, x11, z]) #[.int .i64 0, .int .i64 0, .bool false, .int .i64 0, .int .i64 0, .int .i64 0, .int .i64 0, .int .i64 0, .int .i64 0, .int .i64 0, .int .i64 0, .int .i64 0, .slice none 0 0] rows W2.heap.size (some ⟨g, off, none⟩) c (i + 1) wn := ⟨us.set i u, hlenN, HRn, HR1n, HBn, hSn, hOn, hBk, holdN, hnewN⟩
      clear HRn HR1n HBn hSn hOn hBk holdN hnewN hlenN hsn hgr hu1 hval htrW hnewW hs3 HO3 htr hb3 hok2 hsz2 HOd hui hri hv he hsub hr q4 HR HR1 HB HS HO hold hnew hc4 hget hrm
      have hi2 : (i : Int) + 1 ≤ 1000 := by omega
      have hi0 : (0 : Int) ≤ i := by omega
      go_wp2
      go_roundg (gk - 1)
      case rel => exact ⟨i + 1, by omega, by omega, by simp, HF⟩
      case measure => omega
    · obtain rfl : i = ln := by omega
      have hcond : ¬ (i : Int) < i := by omega
      have hfin : TrA wr (w.heap.size + 2) (.slice A i c) rows := ⟨us, W2.heap.size, hul, by rw [hln]; exact HO, hBk, HSW, fun j r u hr hu => hnew j r u (by have := (List.getElem?_eq_some_iff.1 hr).1; omega) hr hu⟩
      clear hnew hold HO hBk hul hrows hfl hhas hok h14
      have hones := card_one hone (u := .slice A i c) rfl
      go_wp2_with (first
        | (refine wpList_load_Row HR rfl _ _ rfl rfl _ Try.underlying37 rfl (card_isz _ _ _ _ _ _ _ _ _ _ _ _ _) ?_)
        | (refine wpList_store_Row HR1 rfl rfl _ _ _ rfl rfl rfl (card_isz _ _ _ _ _ _ _ _ _ _ _ _ _) rfl hones ?_))
      refine bodyPost_ret (results_Row (HR1.setRow _) rfl _ _ rfl Try.underlying37 rfl (card_isz _ _ _ _ _ _ _ _ _ _ _ _ _)) rfl ?_
      obtain ⟨us, B', h1, h2, h3, h4, h5⟩ := hfin.grown (grownBy_setRow wr (w.heap.size + 1) #[x0, x1, x2, x3, x4, x5, x6, x7, x8, x9, x10, x11, .slice A i c]) fun k hk => by cases hk; omega
      exact ⟨_, rfl, below_setRow HB (by omega) _, us, B', h1, h2.weak (by omega), h3, by omega, h5⟩
end Go.Proofs.Ytccdlmiemelifaa
end

section
namespace Go.Proofs.Ytccdlmiemelifaa
open Go.RowKit
set_option linter.unusedVariables false
set_option linter.unusedSimpArgs false

/-- what may be a cost; free: it must be nothing -/
def costP (a b c d e f : Int) (free : Bool) : Prop := (0 ≤ a ∧ a ≤ 1000 ∧ 0 ≤ b ∧ b ≤ 1000 ∧ 0 ≤ c ∧ c ≤ 1000 ∧ 0 ≤ d ∧ d ≤ 1000 ∧ 0 ≤ e ∧ e ≤ 1000 ∧ 0 ≤ f ∧ f ≤ 1000) ∧ a + b + c + d + e + f ≤ 20 ∧ (free = true → a + b + c + d + e + f = 0)
instance (a b c d e f : Int) (free : Bool) : Decidable (costP a b c d e f free) := by unfold costP; infer_instance
def argB (ds : List Dat) (i : Nat) : Bool := (ds.getD i (.bool false)).toBool
def cost_s : Spec := fun ds Q => Q [.bool (decide (costP (argI ds 0) (argI ds 1) (argI ds 2) (argI ds 3) (argI ds 4) (argI ds 5) (argB ds 6)))]
def paid_s : Spec := cost_s
def rcost7_s : Spec := cost_s
def k_paid : Nat := 31
def sg_paid : Sig := ⟨[(true, List.replicate 6 (.int .i64)), (false, [.bool])], [(false, [.bool])], false, true, true, false, false⟩
def tr_paid : Tree := (.ite (.var 6)
 (.ret [(.and (.cmp .eq (.var 0) (.int .i64 0)) (.and (.cmp .eq (.var 1) (.int .i64 0)) (.and (.cmp .eq (.var 2) (.int .i64 0)) (.and (.cmp .eq (.var 3) (.int .i64 0)) (.and (.cmp .eq (.var 4) (.int .i64 0)) (.cmp .eq (.var 5) (.int .i64 0)))))))])
 (.ite (.or (.cmp .lt (.var 0) (.int .i64 0)) (.cmp .gt (.var 0) (.int .i64 1000)))
  (.ret [(.bool false)])
  (.ite (.or (.cmp .lt (.var 1) (.int .i64 0)) (.cmp .gt (.var 1) (.int .i64 1000)))
   (.ret [(.bool false)])
   (.ite (.or (.cmp .lt (.var 2) (.int .i64 0)) (.cmp .gt (.var 2) (.int .i64 1000)))
    (.ret [(.bool false)])
    (.ite (.or (.cmp .lt (.var 3) (.int .i64 0)) (.cmp .gt (.var 3) (.int .i64 1000)))
     (.ret [(.bool false)])
     (.ite (.or (.cmp .lt (.var 4) (.int .i64 0)) (.cmp .gt (.var 4) (.int .i64 1000)))
      (.ret [(.bool false)])
      (.ite (.or (.cmp .lt (.var 5) (.int .i64 0)) (.cmp .gt (.var 5) (.int .i64 1000)))
       (.ret [(.bool false)])
       (.ret [(.cmp .le (.ar .add .i64 (.ar .add .i64 (.ar .add .i64 (.ar .add .i64 (.ar .add .i64 (.ar .add .i64 (.int .i64 0) (.var 0)) (.var 1)) (.var 2)) (.var 3)) (.var 4)) (.var 5)) (.int .i64 20))]))))))))
theorem wk_paid : walk E0.cx (sgsN []) 0 31 sg_paid = tr_paid := by kernel_rfl
theorem bo_paid : ∃ x, bodyOf E0.P 31 = some x := bo_of (by kernel_rfl)
theorem paid_h : Holds E0 k_paid sg_paid paid_s := con_fn wf0 mix0 g0 [] rfl wk_paid rfl (by
  intro Φ hΦ ds Q hs h
  have hl : ds.length = 7 := hs.length.symm
  clear hΦ
  simp only [tr_paid, wp, den_int, den_bool, den_nili, den_ar, den_cmp, den_not, den_len, den_elem, den_isnil, den_errI, den_ifc, den_rep, den_push, den_app, den_emp, den_upd, row0_econs, row0_enil, den_and, den_beq, den_nil, toInt_int, toBool_bool, xs_rows, xs_list, dflt_int, dflt_bool, of_eq, of_ne, of_lt, of_le, of_gt, of_ge, of_add, of_sub, of_rem, List.map_cons, List.map_nil, Dat.bool.injEq, decide_eq_true_eq, decide_eq_false_iff_not, Bool.not_eq_true', Bool.not_eq_false', beq_iff_eq, bne_iff_ne, beq_eq_false_iff_ne, bne_eq_false_iff_eq, ne_eq, List.append_assoc, List.cons_append, List.nil_append, allS, @den_var0 E0.Δ ds, den_varA, den_varB, hl, Nat.reduceLT, Nat.reduceLeDiff, Nat.reduceSub, List.getD_cons_zero, List.getD_cons_succ, argL_fold ds, argI_fold ds, List.append_assoc, List.cons_append, List.nil_append, toInt_int, toBool_bool, xs_rows, xs_list, Int.toNat_natCast, Dat.bool.injEq, den_or]
  simp only [paid_s, rcost7_s, cost_s, argB] at h
  generalize argI ds 0 = a, argI ds 1 = b', argI ds 2 = c, argI ds 3 = d, argI ds 4 = e, argI ds 5 = f at h ⊢
  have fin : ∀ b : Bool, (b = true ↔ costP a b' c d e f (ds.getD 6 (Dat.bool false)).toBool) → Q [.bool b] := fun b hb => by
    rw [show b = decide (costP a b' c d e f (ds.getD 6 (Dat.bool false)).toBool) by rw [Bool.eq_iff_iff, hb, decide_eq_true_eq]]
    exact h
  simp only [Bool.or_eq_true, Bool.or_eq_false_iff, decide_eq_true_eq, decide_eq_false_iff_not]
  refine ⟨fun hf => fin _ ?_, fun hf => ⟨fun h1 => fin _ ?_, fun h1 => ⟨fun h2 => fin _ ?_, fun h2 => ⟨fun h3 => fin _ ?_, fun h3 => ⟨fun h4 => fin _ ?_, fun h4 => ⟨fun h5 => fin _ ?_, fun h5 => ⟨fun h6 => fin _ ?_, fun h6 => fin _ ?_⟩⟩⟩⟩⟩⟩⟩
  · rw [hf]; simp only [Bool.and_eq_true, beq_iff_eq, costP, toBool_bool, true_imp_iff]; omega
  all_goals first
    | (simp only [Bool.false_eq_true, false_iff, costP]; omega)
    | skip
  rw [hf, wrap64 (x := 0 + a) (by omega) (by omega), wrap64 (x := 0 + a + b') (by omega) (by omega), wrap64 (x := 0 + a + b' + c) (by omega) (by omega), wrap64 (x := 0 + a + b' + c + d) (by omega) (by omega), wrap64 (x := 0 + a + b' + c + d + e) (by omega) (by omega), wrap64 (by omega) (by omega)]
  simp only [decide_eq_true_eq, costP, toBool_bool, Bool.false_eq_true, false_imp_iff, and_true]
  omega)
noncomputable def con_paid : Con E0 := ⟨k_paid, sg_paid, paid_s, rfl, bo_paid, paid_h⟩
-- lacks mulligan/mulliganref07.cost : rcost7
end Go.Proofs.Ytccdlmiemelifaa
end

section
namespace Go.Proofs.Ytccdlmiemelifaa
open Go.RowKit
set_option linter.unusedVariables false
set_option linter.unusedSimpArgs false

/-- which of the first k abilities count then -/
def usesK (l : List (List Dat)) (w : Int) (k : Nat) : List Nat := (List.range k).filter fun i => rowI (l.getD i []) 0 == w
def i64R (l : List Nat) : List (List Dat) := l.map fun i : Nat => [.int .i64 (i : Int)]
theorem i64R_len (l : List Nat) : (i64R l).length = l.length := List.length_map _
theorem i64R_app (a b : List Nat) : i64R (a ++ b) = i64R a ++ i64R b := List.map_append
theorem usesK_len (l : List (List Dat)) (w : Int) (k : Nat) : (usesK l w k).length ≤ k := Nat.le_trans (List.length_filter_le _ _) (Nat.le_of_eq List.length_range)
theorem usesK_yes {l : List (List Dat)} {w : Int} {k : Nat} (h : rowI (l.getD k []) 0 = w) : usesK l w (k + 1) = usesK l w k ++ [k] := by
  rw [usesK, List.range_succ, List.filter_append, List.filter_cons, if_pos (by rw [h, beq_self_eq_true])]; rfl
theorem usesK_no {l : List (List Dat)} {w : Int} {k : Nat} (h : rowI (l.getD k []) 0 ≠ w) : usesK l w (k + 1) = usesK l w k := by
  rw [usesK, List.range_succ, List.filter_append, List.filter_cons, if_neg (by simpa using h), List.filter_nil, List.append_nil]; rfl
def uses_s : Spec := fun ds Q => (argL ds 12).length ≤ 1000 ∧ Q [.rows (i64R (usesK (argL ds 12) (argI ds 13) (argL ds 12).length))]
def cUses_s : Spec := uses_s
def rUses_s : Spec := uses_s
def k_cUses : Nat := 41
def sg_cUses : Sig := ⟨[(true, [.int .i64, .int .i64] ++ [.bool] ++ List.replicate 9 (.int .i64) ++ [.list 42]), (false, [.int .i64])], [(false, [.rows 3])], true, false, false, false, false⟩
def tr_cUses : Tree := (.loop [.emp, (.int .i64 0)] [(.rows 3), (.int .i64)]
 (.ite (.cmp .lt (.var 15) (.len (.var 12)))
  (.ob (.cmp .ge (.var 15) (.int .i64 0))
  (.ite (.cmp .eq (.elem (.var 12) (.var 15) 0 (.int .i64)) (.var 13))
   (.ob (.cmp .le (.len (.push (.var 14) (.econs (.var 15) .enil))) (.int .i64 17592186044416))
   (.again 0 [(.push (.var 14) (.econs (.var 15) .enil)), (.ar .add .i64 (.var 15) (.int .i64 1))]))
   (.again 0 [(.var 14), (.ar .add .i64 (.var 15) (.int .i64 1))])))
  (.ret [(.var 14)])))
theorem wk_cUses : walk E0.cx (sgsN []) 0 41 sg_cUses = tr_cUses := by kernel_rfl
theorem bo_cUses : ∃ x, bodyOf E0.P 41 = some x := bo_of (by kernel_rfl)
theorem cUses_h : Holds E0 k_cUses sg_cUses cUses_s := con_fn wf0 mix0 g0 [] rfl wk_cUses rfl (by
  intro Φ hΦ ds Q hs ⟨hlen, h⟩
  have hl : ds.length = 14 := hs.length.symm
  clear hΦ
  simp only [tr_cUses, wp, den_int, den_bool, den_nili, den_ar, den_cmp, den_not, den_len, den_elem, den_isnil, den_errI, den_ifc, den_rep, den_push, den_app, den_emp, den_upd, row0_econs, row0_enil, den_and, den_beq, den_nil, toInt_int, toBool_bool, xs_rows, xs_list, dflt_int, dflt_bool, of_eq, of_ne, of_lt, of_le, of_gt, of_ge, of_add, of_sub, of_rem, List.map_cons, List.map_nil, Dat.bool.injEq, decide_eq_true_eq, decide_eq_false_iff_not, Bool.not_eq_true', Bool.not_eq_false', beq_iff_eq, bne_iff_ne, beq_eq_false_iff_ne, bne_eq_false_iff_eq, ne_eq, List.append_assoc, List.cons_append, List.nil_append, allS, @den_var0 E0.Δ ds, den_varA, den_varB, hl, Nat.reduceLT, Nat.reduceLeDiff, Nat.reduceSub, List.getD_cons_zero, List.getD_cons_succ, argL_fold ds, argI_fold ds, List.append_assoc, List.cons_append, List.nil_append, toInt_int, toBool_bool, xs_rows, xs_list, Int.toNat_natCast, Dat.bool.injEq]
  refine ⟨fun xs m => ∃ i : Nat, i ≤ (argL ds 12).length ∧ m = (argL ds 12).length - i ∧ xs = [.rows (i64R (usesK (argL ds 12) (argI ds 13) i)), .int .i64 i], ⟨_, 0, by omega, rfl, rfl⟩, ?_⟩
  rintro d _ i' m ⟨i, hi, hmi, e⟩
  cases e
  refine ⟨fun hlt => ⟨by omega, fun he => ⟨?_, ?_⟩, fun he => ?_⟩, fun hge => ?_⟩
  · have := usesK_len (argL ds 12) (argI ds 13) i
    simp only [xs_rows, List.length_append, i64R_len, List.length_cons, List.length_nil]
    omega
  · refine ⟨(argL ds 12).length - (i + 1), by omega, i + 1, by omega, rfl, ?_⟩
    have he' : rowI ((argL ds 12).getD i []) 0 = argI ds 13 := he
    rw [usesK_yes he', i64R_app, wrap64 (by omega) (by omega)]
    rfl
  · refine ⟨(argL ds 12).length - (i + 1), by omega, i + 1, by omega, rfl, ?_⟩
    have he' : rowI ((argL ds 12).getD i []) 0 ≠ argI ds 13 := he
    rw [usesK_no he', wrap64 (by omega) (by omega)]
    rfl
  · rw [show i = (argL ds 12).length by omega]; exact h)
noncomputable def con_cUses : Con E0 := ⟨k_cUses, sg_cUses, cUses_s, rfl, bo_cUses, cUses_h⟩
-- lacks mulligan/mulliganref07.Uses : rUses
end Go.Proofs.Ytccdlmiemelifaa
end

section
namespace Go.Proofs.Ytccdlmiemelifaa
open Go.RowKit
set_option linter.unusedVariables false
set_option linter.unusedSimpArgs false

def stillP (e : Eff) : Prop := e.op = 20 ∧ (headOp e.subs = 10 ∨ headOp e.subs = 23 ∨ headOp e.subs = 24 ∨ headOp e.subs = 25)
instance (e : Eff) : Decidable (stillP e) := by unfold stillP; infer_instance
/-- an ability's error -/
def ablErr (w a b c d e f : Int) (tap : Bool) (t : Int) (x : Eff) : Int :=
  if w < 0 ∨ 7 ≤ w then 6
  else if ¬ costP a b c d e f (decide (w ≠ 1)) then 10
  else if (w = 6 ∧ tap = false) ∨ (w ≠ 6 ∧ w ≠ 1 ∧ tap = true) then 2
  else if t < 0 ∨ 6 ≤ t ∨ (t ≠ 0 ∧ w ≠ 0 ∧ w ≠ 1) then 11
  else if x.chk t 1 ≠ 0 then x.chk t 1
  else if w = 6 ∧ (x.op ≠ 15 ∨ x.who ≠ 0) then 2
  else if w = 5 ∧ ¬ stillP x then 2 else 0
/-- .. of a call's arguments -/
def ablA (ds : List Dat) : Int := ablErr (argI ds 0) (argI ds 1) (argI ds 2) (argI ds 3) (argI ds 4) (argI ds 5) (argI ds 6) (argB ds 7) (argI ds 8) (argE (ds.drop 9))
def cability_s : Spec := fun ds Q => Q [errV (ablA ds)]
def k_cability : Nat := 34
def sg_cability : Sig := ⟨[(true, List.replicate 7 (.int .i64) ++ [.bool] ++ List.replicate 5 (.int .i64) ++ [.list 24])], [(false, [.err])], false, false, true, false, false⟩
def tr_cability : Tree := (.ite (.or (.cmp .lt (.var 0) (.int .i64 0)) (.cmp .ge (.var 0) (.int .i64 7)))
 (.ret [(.ifc (.int .i64 6))])
 (.call k_paid [(.var 1), (.var 2), (.var 3), (.var 4), (.var 5), (.var 6), (.not (.cmp .eq (.var 0) (.int .i64 1)))] [.bool]
 (.ite (.not (.var 14))
  (.ret [(.ifc (.int .i64 10))])
  (.ite (.and (.not (.cmp .eq (.var 0) (.int .i64 1))) (.not (.beq (.var 7) (.cmp .eq (.var 0) (.int .i64 6)))))
   (.ret [(.ifc (.int .i64 2))])
   (.ite (.or (.cmp .lt (.var 8) (.int .i64 0)) (.or (.cmp .ge (.var 8) (.int .i64 6)) (.and (.not (.cmp .eq (.var 0) (.int .i64 1))) (.and (.cmp .ne (.var 0) (.int .i64 0)) (.cmp .ne (.var 8) (.int .i64 0))))))
    (.ret [(.ifc (.int .i64 11))])
    (.call k_eCheck [(.var 9), (.var 10), (.var 11), (.var 12), (.var 13), (.var 8)] [.err]
    (.ite (.not (.isnil (.var 15)))
     (.ret [(.var 15)])
     (.ite (.and (.cmp .eq (.var 0) (.int .i64 6)) (.or (.cmp .ne (.var 9) (.int .i64 15)) (.cmp .ne (.var 12) (.int .i64 0))))
      (.ret [(.ifc (.int .i64 2))])
      (.ite (.cmp .eq (.var 0) (.int .i64 5))
       (.ite (.cmp .ne (.var 9) (.int .i64 20))
        (.ret [(.ifc (.int .i64 2))])
        (.ob (.cmp .lt (.int .i64 0) (.len (.var 13)))
        (.ite (.or (.cmp .eq (.elem (.var 13) (.int .i64 0) 0 (.int .i64)) (.int .i64 10)) (.or (.cmp .eq (.elem (.var 13) (.int .i64 0) 0 (.int .i64)) (.int .i64 23)) (.or (.cmp .eq (.elem (.var 13) (.int .i64 0) 0 (.int .i64)) (.int .i64 24)) (.cmp .eq (.elem (.var 13) (.int .i64 0) 0 (.int .i64)) (.int .i64 25)))))
         (.ret [.nili])
         (.ret [(.ifc (.int .i64 2))]))))
       (.ret [.nili]))))))))))
theorem wk_cability : walk E0.cx (sgsN [(31, sg_paid), (18, sg_eCheck)]) 0 34 sg_cability = tr_cability := by kernel_rfl
theorem bo_cability : ∃ x, bodyOf E0.P 34 = some x := bo_of (by kernel_rfl)
theorem sp_cability_paid : specC [con_paid, con_eCheck] k_paid = paid_s := rfl
theorem sp_cability_eCheck : specC [con_paid, con_eCheck] k_eCheck = eCheck_s := rfl
theorem cability_h : Holds E0 k_cability sg_cability cability_s := con_fn wf0 mix0 g0 [con_paid, con_eCheck] rfl wk_cability rfl (by
  intro Φ hΦ ds Q hs h
  have h : Q [errV (ablA ds)] := h
  have hl : ds.length = 14 := hs.length.symm
  have s1 : Φ k_paid = paid_s := by rw [hΦ]; rfl
  have s2 : Φ k_eCheck = eCheck_s := by rw [hΦ]; rfl
  clear hΦ
  have hE : argE [ds.getD 9 (.bool false), ds.getD 10 (.bool false), ds.getD 11 (.bool false), ds.getD 12 (.bool false), ds.getD 13 (.bool false), ds.getD 8 (.bool false)] = argE (ds.drop 9) := by
    match ds, hl with
    | [_, _, _, _, _, _, _, _, _, _, _, _, _, _], _ => rfl
  simp only [tr_cability, wp, den_int, den_bool, den_nili, den_ar, den_cmp, den_not, den_len, den_elem, den_isnil, den_errI, den_ifc, den_rep, den_push, den_app, den_emp, den_upd, row0_econs, row0_enil, den_and, den_beq, den_nil, toInt_int, toBool_bool, xs_rows, xs_list, dflt_int, dflt_bool, of_eq, of_ne, of_lt, of_le, of_gt, of_ge, of_add, of_sub, of_rem, List.map_cons, List.map_nil, Dat.bool.injEq, decide_eq_true_eq, decide_eq_false_iff_not, Bool.not_eq_true', Bool.not_eq_false', beq_iff_eq, bne_iff_ne, beq_eq_false_iff_ne, bne_eq_false_iff_eq, ne_eq, List.append_assoc, List.cons_append, List.nil_append, allS, s1, s2, paid_s, cost_s, eCheck_s, @den_var0 E0.Δ ds, den_varA, den_varB, hl, Nat.reduceLT, Nat.reduceLeDiff, Nat.reduceSub, List.getD_cons_zero, List.getD_cons_succ, argL_fold ds, argI_fold ds, List.append_assoc, List.cons_append, List.nil_append, toInt_int, toBool_bool, xs_rows, xs_list, Int.toNat_natCast, Dat.bool.injEq, den_or, hE, argI_c0, argI_c1]
  have hop : (argE (ds.drop 9)).op = argI ds 9 := by rw [argE_opI, argI_drop]
  have hwho : (argE (ds.drop 9)).who = argI ds 12 := by rw [argE_who, argI_drop]
  have hsub : (argE (ds.drop 9)).subs = (argL ds 13).map effOf := by rw [argE_subs, argL_drop]
  have hw : argB [ds.getD 1 (.bool false), ds.getD 2 (.bool false), ds.getD 3 (.bool false), ds.getD 4 (.bool false), ds.getD 5 (.bool false), ds.getD 6 (.bool false), .bool !(argI ds 0 == 1)] 6 = decide (argI ds 0 ≠ 1) := by
    show (!(argI ds 0 == 1)) = _
    rw [Bool.eq_iff_iff]; simp
  rw [hw]
  have fe : ∀ n : Int, n ≠ 0 → ablA ds = n → Q [.val (.iface 47 (.int .i64 n))] := fun n hn e => by rw [← errV_n hn, ← e]; exact h
  have f0 : ablA ds = 0 → Q [.val .nilIface] := fun e => by rw [← errV_0, ← e]; exact h
  unfold ablA ablErr at fe f0 h
  rw [show argB ds 7 = (ds.getD 7 (Dat.bool false)).toBool from rfl, hop, hwho] at fe f0 h
  generalize htap : (ds.getD 7 (Dat.bool false)).toBool = tap at fe f0 h ⊢
  refine ⟨fun h1 => ?_, fun h1 => ?_⟩
  · simp only [Bool.or_eq_true, decide_eq_true_eq] at h1
    exact fe 6 (by decide) (if_pos h1)
  have c1 : ¬ (argI ds 0 < 0 ∨ 7 ≤ argI ds 0) := by simp only [Bool.or_eq_false_iff, decide_eq_false_iff_not] at h1; omega
  simp only [if_neg c1] at fe f0 h
  refine ⟨fun h2 => fe 10 (by decide) (if_pos h2), fun h2 => ?_⟩
  have c2 := not_not_intro h2
  simp only [if_neg c2] at fe f0 h
  have e3 : (!(argI ds 0 == 1) && !(tap == (argI ds 0 == 6))) = decide ((argI ds 0 = 6 ∧ tap = false) ∨ (argI ds 0 ≠ 6 ∧ argI ds 0 ≠ 1 ∧ tap = true)) := by
    rw [Bool.eq_iff_iff, decide_eq_true_eq]
    by_cases a : argI ds 0 = 1
    · simp [a]
    · by_cases b : argI ds 0 = 6
      · cases tap <;> simp [b]
      · cases tap <;> simp [a, b]
  rw [e3]
  simp only [decide_eq_true_eq, decide_eq_false_iff_not]
  refine ⟨fun h3 => fe 2 (by decide) (if_pos h3), fun c3 => ?_⟩
  simp only [if_neg c3] at fe f0 h
  have e4 : (decide (argI ds 8 < 0) || (decide (6 ≤ argI ds 8) || !(argI ds 0 == 1) && (argI ds 0 != 0 && argI ds 8 != 0))) = decide (argI ds 8 < 0 ∨ 6 ≤ argI ds 8 ∨ (argI ds 8 ≠ 0 ∧ argI ds 0 ≠ 0 ∧ argI ds 0 ≠ 1)) := by
    rw [Bool.eq_iff_iff, decide_eq_true_eq]
    simp only [Bool.or_eq_true, Bool.and_eq_true, decide_eq_true_eq, Bool.not_eq_true', beq_eq_false_iff_ne, bne_iff_ne]
    omega
  rw [e4]
  simp only [decide_eq_true_eq, decide_eq_false_iff_not]
  refine ⟨fun h4 => fe 11 (by decide) (if_pos h4), fun c4 => ?_⟩
  simp only [if_neg c4] at fe f0 h
  rw [if_neg (show ¬ (argI ds 8 < 0 ∨ 5 < argI ds 8) by omega), errV_nil, decide_eq_false_iff_not, decide_eq_true_eq]
  refine ⟨fun h5 => by rw [if_pos h5] at h; exact h, fun h5 => ?_⟩
  have c5 := not_not_intro h5
  simp only [if_neg c5] at fe f0 h
  have e6 : (argI ds 0 == 6 && (argI ds 9 != 15 || argI ds 12 != 0)) = decide (argI ds 0 = 6 ∧ (argI ds 9 ≠ 15 ∨ argI ds 12 ≠ 0)) := by
    rw [Bool.eq_iff_iff, decide_eq_true_eq]
    simp only [Bool.or_eq_true, Bool.and_eq_true, beq_iff_eq, bne_iff_ne]
  rw [e6]
  simp only [decide_eq_true_eq, decide_eq_false_iff_not]
  refine ⟨fun h6 => fe 2 (by decide) (if_pos h6), fun c6 => ?_⟩
  simp only [if_neg c6] at fe f0 h
  refine ⟨fun h7 => ⟨fun h8 => fe 2 (by decide) (if_pos ⟨h7, fun hs => h8 (hop ▸ hs.1)⟩), fun h8 => ?_⟩, fun h7 => f0 (if_neg fun hs => h7 hs.1)⟩
  have hlen1 : 0 < (argL ds 13).length := by
    have hc := Eff.chk_eq (argE (ds.drop 9)) (argI ds 8) 1
    rw [h5] at hc
    by_cases hz : headE (argE (ds.drop 9)).op (argE (ds.drop 9)).n (argE (ds.drop 9)).m (argE (ds.drop 9)).who (argI ds 8) 1 (argE (ds.drop 9)).subs.length (headOp (argE (ds.drop 9)).subs) = 0
    case neg => rw [if_pos hz] at hc; exact absurd hc.symm hz
    unfold headE at hz
    split at hz
    · cases hz
    split at hz
    · cases hz
    split at hz
    · cases hz
    split at hz
    · cases hz
    split at hz
    · cases hz
    rename_i hf
    have := ((Decidable.of_not_not hf).1 (hop.trans h8)).1
    rw [hsub, List.length_map] at this
    omega
  have hho : headOp (argE (ds.drop 9)).subs = (((argL ds 13).getD (Int.toNat 0) []).getD 0 (Dat.int IntKind.i64 0)).toInt := by
    rw [hsub]; exact headOp_map hlen1
  rw [← hho]
  refine ⟨by omega, fun h9 => f0 (if_neg fun hs => hs.2 ⟨hop.trans h8, ?_⟩), fun h9 => fe 2 (by decide) (if_pos ⟨h7, fun hs => ?_⟩)⟩
  · simpa only [Bool.or_eq_true, beq_iff_eq] using h9
  · simp only [Bool.or_eq_false_iff, beq_eq_false_iff_ne] at h9
    have := hs.2
    omega)
noncomputable def con_cability : Con E0 := ⟨k_cability, sg_cability, cability_s, rfl, bo_cability, cability_h⟩
end Go.Proofs.Ytccdlmiemelifaa
end

section
namespace Go.Proofs.Ytccdlmiemelifaa
open Go.RowKit
set_option linter.unusedVariables false
set_option linter.unusedSimpArgs false

def strongP (k p t s : Int) : Prop := if k = 1 then 0 ≤ p ∧ p ≤ 99 ∧ 1 ≤ t ∧ t ≤ 99 ∧ 0 ≤ s ∧ s ≤ 255 else p = 0 ∧ t = 0 ∧ s = 0
instance (k p t s : Int) : Decidable (strongP k p t s) := by unfold strongP; infer_instance
def formedP (k : Int) (n u : Nat) (fast : Bool) : Prop := if k = 2 then n = 1 ∧ u = 1 else n ≤ 4 ∧ u = 0 ∧ (fast = true → k = 1)
instance (k : Int) (n u : Nat) (fast : Bool) : Decidable (formedP k n u fast) := by unfold formedP; infer_instance
def firstErr : List (List Dat) → Int
  | [] => 0
  | r :: l => if ablA r ≠ 0 then ablA r else firstErr l
def spells (l : List (List Dat)) : Nat := (usesK l 0 l.length).length
def crdErr (ds : List Dat) : Int :=
  if argI ds 0 < 0 ∨ 4 ≤ argI ds 0 ∨ argI ds 1 < 0 ∨ 5 < argI ds 1 then 6
  else if ¬ costP (argI ds 3) (argI ds 4) (argI ds 5) (argI ds 6) (argI ds 7) (argI ds 8) (decide (argI ds 0 = 0)) then 10
  else if ¬ strongP (argI ds 0) (argI ds 9) (argI ds 10) (argI ds 11) then 1
  else if ¬ formedP (argI ds 0) (argL ds 12).length (spells (argL ds 12)) (argB ds 2) then 2
  else firstErr (argL ds 12)
def strong_s : Spec := fun ds Q => Q [.bool (decide (strongP (argI ds 0) (argI ds 9) (argI ds 10) (argI ds 11)))]
def k_strong : Nat := 32
def sg_strong : Sig := ⟨[(true, [.int .i64, .int .i64] ++ [.bool] ++ List.replicate 9 (.int .i64) ++ [.list 42])], [(false, [.bool])], false, false, true, false, false⟩
def tr_strong : Tree := (.ite (.cmp .ne (.var 0) (.int .i64 1))
 (.ret [(.and (.cmp .eq (.var 9) (.int .i64 0)) (.and (.cmp .eq (.var 10) (.int .i64 0)) (.cmp .eq (.var 11) (.int .i64 0))))])
 (.ret [(.and (.cmp .ge (.var 9) (.int .i64 0)) (.and (.cmp .le (.var 9) (.int .i64 99)) (.and (.cmp .ge (.var 10) (.int .i64 1)) (.and (.cmp .le (.var 10) (.int .i64 99)) (.and (.cmp .ge (.var 11) (.int .i64 0)) (.cmp .le (.var 11) (.int .i64 255)))))))]))
theorem wk_strong : walk E0.cx (sgsN []) 0 32 sg_strong = tr_strong := by kernel_rfl
theorem bo_strong : ∃ x, bodyOf E0.P 32 = some x := bo_of (by kernel_rfl)
theorem strong_h : Holds E0 k_strong sg_strong strong_s := con_fn wf0 mix0 g0 [] rfl wk_strong rfl (by
  intro Φ hΦ ds Q hs h
  have h : Q [.bool (decide (strongP (argI ds 0) (argI ds 9) (argI ds 10) (argI ds 11)))] := h
  have hl : ds.length = 13 := hs.length.symm
  clear hΦ
  simp only [tr_strong, wp, den_int, den_bool, den_nili, den_ar, den_cmp, den_not, den_len, den_elem, den_isnil, den_errI, den_ifc, den_rep, den_push, den_app, den_emp, den_upd, row0_econs, row0_enil, den_and, den_beq, den_nil, toInt_int, toBool_bool, xs_rows, xs_list, dflt_int, dflt_bool, of_eq, of_ne, of_lt, of_le, of_gt, of_ge, of_add, of_sub, of_rem, List.map_cons, List.map_nil, Dat.bool.injEq, decide_eq_true_eq, decide_eq_false_iff_not, Bool.not_eq_true', Bool.not_eq_false', beq_iff_eq, bne_iff_ne, beq_eq_false_iff_ne, bne_eq_false_iff_eq, ne_eq, List.append_assoc, List.cons_append, List.nil_append, allS, @den_var0 E0.Δ ds, den_varA, den_varB, hl, Nat.reduceLT, Nat.reduceLeDiff, Nat.reduceSub, List.getD_cons_zero, List.getD_cons_succ, argL_fold ds, argI_fold ds, List.append_assoc, List.cons_append, List.nil_append, toInt_int, toBool_bool, xs_rows, xs_list, Int.toNat_natCast, Dat.bool.injEq, den_or]
  have fin : ∀ b : Bool, (b = true ↔ strongP (argI ds 0) (argI ds 9) (argI ds 10) (argI ds 11)) → Q [.bool b] := fun b hb => by
    rw [show b = decide (strongP (argI ds 0) (argI ds 9) (argI ds 10) (argI ds 11)) by rw [Bool.eq_iff_iff, hb, decide_eq_true_eq]]
    exact h
  refine ⟨fun h1 => fin _ ?_, fun h1 => fin _ ?_⟩
  · unfold strongP
    rw [if_neg h1]
    simp only [Bool.and_eq_true, beq_iff_eq]
  · unfold strongP
    rw [if_pos (by omega)]
    simp only [Bool.and_eq_true, decide_eq_true_eq])
noncomputable def con_strong : Con E0 := ⟨k_strong, sg_strong, strong_s, rfl, bo_strong, strong_h⟩
def cformed_s : Spec := fun ds Q => (argL ds 12).length ≤ 1000 ∧ Q [.bool (decide (formedP (argI ds 0) (argL ds 12).length (spells (argL ds 12)) (argB ds 2)))]
def k_cformed : Nat := 33
def sg_cformed : Sig := ⟨[(true, [.int .i64, .int .i64] ++ [.bool] ++ List.replicate 9 (.int .i64) ++ [.list 42])], [(false, [.bool])], false, false, false, false, false⟩
def tr_cformed : Tree := (.call k_cUses [(.var 0), (.var 1), (.var 2), (.var 3), (.var 4), (.var 5), (.var 6), (.var 7), (.var 8), (.var 9), (.var 10), (.var 11), (.var 12), (.int .i64 0)] [(.rows 3)]
(.ite (.cmp .eq (.var 0) (.int .i64 2))
 (.ite (.cmp .eq (.len (.var 12)) (.int .i64 1))
  (.ret [(.cmp .eq (.len (.app .emp (.var 13))) (.int .i64 1))])
  (.ret [(.bool false)]))
 (.ite (.cmp .le (.len (.var 12)) (.int .i64 4))
  (.ite (.cmp .eq (.len (.app .emp (.var 13))) (.int .i64 0))
   (.ite (.not (.var 2))
    (.ret [(.bool true)])
    (.ret [(.cmp .eq (.var 0) (.int .i64 1))]))
   (.ret [(.bool false)]))
  (.ret [(.bool false)]))))
theorem wk_cformed : walk E0.cx (sgsN [(41, sg_cUses)]) 0 33 sg_cformed = tr_cformed := by kernel_rfl
theorem bo_cformed : ∃ x, bodyOf E0.P 33 = some x := bo_of (by kernel_rfl)
theorem sp_cformed_cUses : specC [con_cUses] k_cUses = cUses_s := rfl
theorem cformed_h : Holds E0 k_cformed sg_cformed cformed_s := con_fn wf0 mix0 g0 [con_cUses] rfl wk_cformed rfl (by
  intro Φ hΦ ds Q hs ⟨hlen, h⟩
  have hl : ds.length = 13 := hs.length.symm
  have s1 : Φ k_cUses = cUses_s := by rw [hΦ]; rfl
  clear hΦ
  simp only [tr_cformed, wp, den_int, den_bool, den_nili, den_ar, den_cmp, den_not, den_len, den_elem, den_isnil, den_errI, den_ifc, den_rep, den_push, den_app, den_emp, den_upd, row0_econs, row0_enil, den_and, den_beq, den_nil, toInt_int, toBool_bool, xs_rows, xs_list, dflt_int, dflt_bool, of_eq, of_ne, of_lt, of_le, of_gt, of_ge, of_add, of_sub, of_rem, List.map_cons, List.map_nil, Dat.bool.injEq, decide_eq_true_eq, decide_eq_false_iff_not, Bool.not_eq_true', Bool.not_eq_false', beq_iff_eq, bne_iff_ne, beq_eq_false_iff_ne, bne_eq_false_iff_eq, ne_eq, List.append_assoc, List.cons_append, List.nil_append, allS, s1, cUses_s, uses_s, @den_var0 E0.Δ ds, den_varA, den_varB, hl, Nat.reduceLT, Nat.reduceLeDiff, Nat.reduceSub, List.getD_cons_zero, List.getD_cons_succ, argL_fold ds, argI_fold ds, List.append_assoc, List.cons_append, List.nil_append, toInt_int, toBool_bool, xs_rows, xs_list, Int.toNat_natCast, Dat.bool.injEq, den_or]
  have e12 : ∀ a, argL [ds.getD 0 (.bool false), ds.getD 1 (.bool false), ds.getD 2 (.bool false), ds.getD 3 (.bool false), ds.getD 4 (.bool false), ds.getD 5 (.bool false), ds.getD 6 (.bool false), ds.getD 7 (.bool false), ds.getD 8 (.bool false), ds.getD 9 (.bool false), ds.getD 10 (.bool false), ds.getD 11 (.bool false), ds.getD 12 (.bool false), a] 12 = argL ds 12 := fun _ => rfl
  have e13 : ∀ x, argI [ds.getD 0 (.bool false), ds.getD 1 (.bool false), ds.getD 2 (.bool false), ds.getD 3 (.bool false), ds.getD 4 (.bool false), ds.getD 5 (.bool false), ds.getD 6 (.bool false), ds.getD 7 (.bool false), ds.getD 8 (.bool false), ds.getD 9 (.bool false), ds.getD 10 (.bool false), ds.getD 11 (.bool false), ds.getD 12 (.bool false), .int .i64 x] 13 = x := fun _ => rfl
  simp only [e12, e13]
  have fin : ∀ b : Bool, (b = true ↔ formedP (argI ds 0) (argL ds 12).length (spells (argL ds 12)) (argB ds 2)) → Q [.bool b] := fun b hb => by
    rw [show b = decide (formedP (argI ds 0) (argL ds 12).length (spells (argL ds 12)) (argB ds 2)) by rw [Bool.eq_iff_iff, hb, decide_eq_true_eq]]
    exact h
  have hu : (i64R (usesK (argL ds 12) 0 (argL ds 12).length)).length = spells (argL ds 12) := i64R_len _
  rw [hu]
  unfold formedP at fin
  refine ⟨hlen, fun h1 => ⟨fun h2 => fin _ ?_, fun h2 => fin _ ?_⟩, fun h1 => ⟨fun h2 => ⟨fun h3 => ⟨fun h4 => fin _ ?_, fun h4 => fin _ ?_⟩, fun h3 => fin _ ?_⟩, fun h2 => fin _ ?_⟩⟩
  · rw [if_pos h1, beq_iff_eq]; omega
  · rw [if_pos h1]; simp only [Bool.false_eq_true, false_iff]; omega
  · rw [if_neg h1]; exact ⟨fun _ => ⟨by omega, by omega, fun hf => absurd ((show argB ds 2 = (ds.getD 2 (Dat.bool false)).toBool from rfl).symm.trans hf) (by rw [h4]; decide)⟩, fun _ => rfl⟩
  · rw [if_neg h1, beq_iff_eq]; exact ⟨fun he => ⟨by omega, by omega, fun _ => he⟩, fun he => he.2.2 h4⟩
  · rw [if_neg h1]; simp only [Bool.false_eq_true, false_iff]; omega
  · rw [if_neg h1]; simp only [Bool.false_eq_true, false_iff]; omega)
noncomputable def con_cformed : Con E0 := ⟨k_cformed, sg_cformed, cformed_s, rfl, bo_cformed, cformed_h⟩
def cCheck_s : Spec := fun ds Q => (argL ds 12).length ≤ 1000 ∧ Q [errV (crdErr ds)]
theorem abl_len {d : Dat} (h : Has E0.Δ (.list 42) d) : ∀ r ∈ d.xs, r.length = 14 := by
  cases h with
  | list _ A n c xs hl _ => exact fun r hr => hl r hr
theorem fold14 {r : List Dat} (h : r.length = 14) (a b c d e f g h' i j k l m n : Dat) : [r.getD 0 a, r.getD 1 b, r.getD 2 c, r.getD 3 d, r.getD 4 e, r.getD 5 f, r.getD 6 g, r.getD 7 h', r.getD 8 i, r.getD 9 j, r.getD 10 k, r.getD 11 l, r.getD 12 m, r.getD 13 n] = r := by
  match r, h with
  | [_, _, _, _, _, _, _, _, _, _, _, _, _, _], _ => rfl
theorem fold13 {r : List Dat} (h : r.length = 13) (d : Dat) : [r.getD 0 d, r.getD 1 d, r.getD 2 d, r.getD 3 d, r.getD 4 d, r.getD 5 d, r.getD 6 d, r.getD 7 d, r.getD 8 d, r.getD 9 d, r.getD 10 d, r.getD 11 d, r.getD 12 d] = r := by
  match r, h with
  | [_, _, _, _, _, _, _, _, _, _, _, _, _], _ => rfl
def k_cCheck : Nat := 24
def sg_cCheck : Sig := ⟨[(true, [.int .i64, .int .i64] ++ [.bool] ++ List.replicate 9 (.int .i64) ++ [.list 42])], [(false, [.err])], false, false, false, false, false⟩
def tr_cCheck : Tree := (.ite (.cmp .lt (.var 0) (.int .i64 0))
 (.ret [(.ifc (.int .i64 6))])
 (.ite (.cmp .ge (.var 0) (.int .i64 4))
  (.ret [(.ifc (.int .i64 6))])
  (.ite (.cmp .lt (.var 1) (.int .i64 0))
   (.ret [(.ifc (.int .i64 6))])
   (.ite (.cmp .gt (.var 1) (.int .i64 5))
    (.ret [(.ifc (.int .i64 6))])
    (.call k_paid [(.var 3), (.var 4), (.var 5), (.var 6), (.var 7), (.var 8), (.cmp .eq (.var 0) (.int .i64 0))] [.bool]
    (.ite (.not (.var 13))
     (.ret [(.ifc (.int .i64 10))])
     (.call k_strong [(.var 0), (.var 1), (.var 2), (.var 3), (.var 4), (.var 5), (.var 6), (.var 7), (.var 8), (.var 9), (.var 10), (.var 11), (.var 12)] [.bool]
     (.ite (.not (.var 14))
      (.ret [(.ifc (.int .i64 1))])
      (.call k_cformed [(.var 0), (.var 1), (.var 2), (.var 3), (.var 4), (.var 5), (.var 6), (.var 7), (.var 8), (.var 9), (.var 10), (.var 11), (.var 12)] [.bool]
      (.ite (.not (.var 15))
       (.ret [(.ifc (.int .i64 2))])
       (.loop [.nili, (.int .i64 0)] [.err, (.int .i64)]
        (.ite (.cmp .lt (.var 17) (.len (.var 12)))
         (.ob (.cmp .ge (.var 17) (.int .i64 0))
         (.call k_cability [(.elem (.var 12) (.var 17) 0 (.int .i64)), (.elem (.var 12) (.var 17) 1 (.int .i64)), (.elem (.var 12) (.var 17) 2 (.int .i64)), (.elem (.var 12) (.var 17) 3 (.int .i64)), (.elem (.var 12) (.var 17) 4 (.int .i64)), (.elem (.var 12) (.var 17) 5 (.int .i64)), (.elem (.var 12) (.var 17) 6 (.int .i64)), (.elem (.var 12) (.var 17) 7 .bool), (.elem (.var 12) (.var 17) 8 (.int .i64)), (.elem (.var 12) (.var 17) 9 (.int .i64)), (.elem (.var 12) (.var 17) 10 (.int .i64)), (.elem (.var 12) (.var 17) 11 (.int .i64)), (.elem (.var 12) (.var 17) 12 (.int .i64)), (.elem (.var 12) (.var 17) 13 (.list 24))] [.err]
         (.ite (.not (.isnil (.var 18)))
          (.ret [(.var 18)])
          (.again 0 [(.var 16), (.ar .add .i64 (.var 17) (.int .i64 1))]))))
         (.ret [.nili])))))))))))))
theorem wk_cCheck : walk E0.cx (sgsN [(31, sg_paid), (32, sg_strong), (33, sg_cformed), (34, sg_cability)]) 0 24 sg_cCheck = tr_cCheck := by kernel_rfl
theorem bo_cCheck : ∃ x, bodyOf E0.P 24 = some x := bo_of (by kernel_rfl)
theorem sp_cCheck_paid : specC [con_paid, con_strong, con_cformed, con_cability] k_paid = paid_s := rfl
theorem sp_cCheck_strong : specC [con_paid, con_strong, con_cformed, con_cability] k_strong = strong_s := rfl
theorem sp_cCheck_cformed : specC [con_paid, con_strong, con_cformed, con_cability] k_cformed = cformed_s := rfl
theorem sp_cCheck_cability : specC [con_paid, con_strong, con_cformed, con_cability] k_cability = cability_s := rfl
theorem cCheck_h : Holds E0 k_cCheck sg_cCheck cCheck_s := con_fn wf0 mix0 g0 [con_paid, con_strong, con_cformed, con_cability] rfl wk_cCheck rfl (by
  intro Φ hΦ ds Q hs ⟨hlen, h⟩
  have hl : ds.length = 13 := hs.length.symm
  have s1 : Φ k_paid = paid_s := by rw [hΦ]; rfl
  have s2 : Φ k_strong = strong_s := by rw [hΦ]; rfl
  have s3 : Φ k_cformed = cformed_s := by rw [hΦ]; rfl
  have s4 : Φ k_cability = cability_s := by rw [hΦ]; rfl
  clear hΦ
  have hrow := abl_len (all2_get hs (i := 12) rfl)
  rw [argL_fold] at hrow
  simp only [tr_cCheck, wp, den_int, den_bool, den_nili, den_ar, den_cmp, den_not, den_len, den_elem, den_isnil, den_errI, den_ifc, den_rep, den_push, den_app, den_emp, den_upd, row0_econs, row0_enil, den_and, den_beq, den_nil, toInt_int, toBool_bool, xs_rows, xs_list, dflt_int, dflt_bool, of_eq, of_ne, of_lt, of_le, of_gt, of_ge, of_add, of_sub, of_rem, List.map_cons, List.map_nil, Dat.bool.injEq, decide_eq_true_eq, decide_eq_false_iff_not, Bool.not_eq_true', Bool.not_eq_false', beq_iff_eq, bne_iff_ne, beq_eq_false_iff_ne, bne_eq_false_iff_eq, ne_eq, List.append_assoc, List.cons_append, List.nil_append, allS, s1, s2, s3, s4, paid_s, cost_s, strong_s, cformed_s, cability_s, @den_var0 E0.Δ ds, den_varA, den_varB, hl, Nat.reduceLT, Nat.reduceLeDiff, Nat.reduceSub, List.getD_cons_zero, List.getD_cons_succ, argL_fold ds, argI_fold ds, List.append_assoc, List.cons_append, List.nil_append, toInt_int, toBool_bool, xs_rows, xs_list, Int.toNat_natCast, Dat.bool.injEq, den_or, fold13 hl, argI_c0, argI_c1]
  have hw : argB [ds.getD 3 (.bool false), ds.getD 4 (.bool false), ds.getD 5 (.bool false), ds.getD 6 (.bool false), ds.getD 7 (.bool false), ds.getD 8 (.bool false), .bool (argI ds 0 == 0)] 6 = decide (argI ds 0 = 0) := by
    show (argI ds 0 == 0) = _
    rw [Bool.eq_iff_iff]; simp
  rw [hw]
  have fe : ∀ n : Int, n ≠ 0 → crdErr ds = n → Q [.val (.iface 47 (.int .i64 n))] := fun n hn e => by rw [← errV_n hn, ← e]; exact h
  have f0 : crdErr ds = firstErr (argL ds 12) → Q [errV (firstErr (argL ds 12))] := fun e => by rw [← e]; exact h
  unfold crdErr at fe f0
  refine ⟨fun h1 => fe 6 (by decide) (if_pos (by omega)), fun h1 => ⟨fun h2 => fe 6 (by decide) (if_pos (by omega)), fun h2 => ⟨fun h3 => fe 6 (by decide) (if_pos (by omega)), fun h3 => ⟨fun h4 => fe 6 (by decide) (if_pos (by omega)), fun h4 => ?_⟩⟩⟩⟩
  simp only [if_neg (show ¬ (argI ds 0 < 0 ∨ 4 ≤ argI ds 0 ∨ argI ds 1 < 0 ∨ 5 < argI ds 1) by omega)] at fe f0
  refine ⟨fun h5 => fe 10 (by decide) (if_pos h5), fun h5 => ?_⟩
  simp only [if_neg (not_not_intro h5)] at fe f0
  refine ⟨fun h6 => fe 1 (by decide) (if_pos h6), fun h6 => ?_⟩
  simp only [if_neg (not_not_intro h6)] at fe f0
  refine ⟨hlen, fun h7 => fe 2 (by decide) (if_pos h7), fun h7 => ?_⟩
  simp only [if_neg (not_not_intro h7)] at fe f0
  have hQ := f0 (by trivial)
  refine ⟨fun xs m => ∃ i : Nat, i ≤ (argL ds 12).length ∧ m = (argL ds 12).length - i ∧ xs = [.val .nilIface, .int .i64 i] ∧ firstErr (argL ds 12) = firstErr ((argL ds 12).drop i), ⟨_, 0, by omega, rfl, rfl, rfl⟩, ?_⟩
  rintro d _ i' m ⟨i, hi, hmi, e, hf⟩
  cases e
  refine ⟨fun hlt => ⟨by omega, ?_⟩, fun hge => ?_⟩
  · have hi2 : i < (argL ds 12).length := by omega
    have hr := hrow _ (getD_memL (d := []) hi2)
    rw [Int.toNat_natCast, fold14 hr, errV_nil, decide_eq_false_iff_not, decide_eq_true_eq]
    rw [drop_getD (d := []) hi2, firstErr] at hf
    refine ⟨fun hb => ?_, fun hg => ⟨(argL ds 12).length - (i + 1), by omega, i + 1, by omega, rfl, ?_, ?_⟩⟩
    · rw [if_pos hb] at hf; rw [hf] at hQ; exact hQ
    · rw [wrap64 (by omega) (by omega)]; rfl
    · rw [if_neg (not_not_intro hg)] at hf; exact hf
  · rw [List.drop_of_length_le (by omega)] at hf
    rw [hf] at hQ; exact hQ)
noncomputable def con_cCheck : Con E0 := ⟨k_cCheck, sg_cCheck, cCheck_s, rfl, bo_cCheck, cCheck_h⟩
end Go.Proofs.Ytccdlmiemelifaa
end

section
namespace Go.Proofs.Ytccdlmiemelifaa
open Go.RowKit
set_option linter.unusedVariables false
set_option linter.unusedSimpArgs false

def k_clarge : Nat := 14
def sg_clarge : Sig := ⟨[(true, [.int .i64, .int .i64] ++ [.bool] ++ List.replicate 9 (.int .i64) ++ [.list 42])], [(false, [.bool])], false, false, false, false, false⟩
def tr_clarge : Tree := (.loop [(.bool false), (.int .i64 0)] [.bool, (.int .i64)]
 (.ite (.cmp .lt (.var 14) (.len (.var 12)))
  (.ob (.cmp .ge (.var 14) (.int .i64 0))
  (.ite (.cmp .gt (.var 14) (.int .i64 8))
   (.ret [(.bool true)])
   (.call k_Large [(.elem (.var 12) (.var 14) 9 (.int .i64)), (.elem (.var 12) (.var 14) 10 (.int .i64)), (.elem (.var 12) (.var 14) 11 (.int .i64)), (.elem (.var 12) (.var 14) 12 (.int .i64)), (.elem (.var 12) (.var 14) 13 (.list 24))] [.bool]
   (.ite (.var 15)
    (.ret [(.bool true)])
    (.again 0 [(.var 13), (.ar .add .i64 (.var 14) (.int .i64 1))])))))
  (.ret [(.bool false)])))
theorem wk_clarge : walk E0.cx (sgsN [(6, sg_Large)]) 0 14 sg_clarge = tr_clarge := by kernel_rfl
theorem bo_clarge : ∃ x, bodyOf E0.P 14 = some x := bo_of (by kernel_rfl)
theorem sp_clarge_Large : specC [con_Large] k_Large = Large_s := rfl
def clarge_s : Spec := fun ds Q => ∀ b : Bool, (b = false → (argL ds 12).length ≤ 9 ∧ ∀ r ∈ argL ds 12, (argE (r.drop 9)).size ≤ 300) → Q [.bool b]
theorem clarge_h : Holds E0 k_clarge sg_clarge clarge_s := con_fn wf0 mix0 g0 [con_Large] rfl wk_clarge rfl (by
  intro Φ hΦ ds Q hs h
  have hl : ds.length = 13 := hs.length.symm
  have s1 : Φ k_Large = Large_s := by rw [hΦ]; rfl
  clear hΦ
  have hrow := abl_len (all2_get hs (i := 12) rfl)
  rw [argL_fold] at hrow
  simp only [tr_clarge, wp, den_int, den_bool, den_nili, den_ar, den_cmp, den_not, den_len, den_elem, den_isnil, den_errI, den_ifc, den_rep, den_push, den_app, den_emp, den_upd, row0_econs, row0_enil, den_and, den_beq, den_nil, toInt_int, toBool_bool, xs_rows, xs_list, dflt_int, dflt_bool, of_eq, of_ne, of_lt, of_le, of_gt, of_ge, of_add, of_sub, of_rem, List.map_cons, List.map_nil, Dat.bool.injEq, decide_eq_true_eq, decide_eq_false_iff_not, Bool.not_eq_true', Bool.not_eq_false', beq_iff_eq, bne_iff_ne, beq_eq_false_iff_ne, bne_eq_false_iff_eq, ne_eq, List.append_assoc, List.cons_append, List.nil_append, allS, s1, Large_s, @den_var0 E0.Δ ds, den_varA, den_varB, hl, Nat.reduceLT, Nat.reduceLeDiff, Nat.reduceSub, List.getD_cons_zero, List.getD_cons_succ, argL_fold ds, argI_fold ds, List.append_assoc, List.cons_append, List.nil_append, toInt_int, toBool_bool, xs_rows, xs_list, Int.toNat_natCast, Dat.bool.injEq]
  refine ⟨fun xs m => ∃ (i : Nat) (b : Bool), i ≤ (argL ds 12).length ∧ i ≤ 9 ∧ m = (argL ds 12).length - i ∧ xs = [.bool b, .int .i64 i] ∧ ∀ r ∈ (argL ds 12).take i, (argE (r.drop 9)).size ≤ 300, ⟨_, 0, _, by omega, by omega, rfl, rfl, by simp⟩, ?_⟩
  rintro b i' m ⟨i, _, hi, hi9, hmi, e, hall⟩
  cases e
  refine ⟨fun hlt => ⟨by omega, fun h9 => h _ (fun hx => by cases hx), fun h9 => ?_⟩, fun hge => h _ fun _ => ?_⟩
  · intro b2 hb2
    have hi2 : i < (argL ds 12).length := by omega
    have hr := hrow _ (getD_memL (d := []) hi2)
    refine ⟨fun _ => h _ (fun hx => by cases hx), fun hf => ⟨(argL ds 12).length - (i + 1), by omega, i + 1, b, by omega, by omega, rfl, ?_, fun r hr2 => ?_⟩⟩
    · rw [wrap64 (by omega) (by omega)]; rfl
    · rw [take_succ_getD (d := []) hi2] at hr2
      rcases List.mem_append.1 hr2 with hr2 | hr2
      · exact hall r hr2
      · rw [List.mem_singleton] at hr2
        subst hr2
        have := hb2 hf
        rw [Int.toNat_natCast] at this
        generalize (argL ds 12).getD i [] = r at this hr
        match r, hr with
        | [_, _, _, _, _, _, _, _, _, _, _, _, _, _], _ => exact this
  · rw [List.take_of_length_le (by omega)] at hall
    exact ⟨by omega, hall⟩)
noncomputable def con_clarge : Con E0 := ⟨k_clarge, sg_clarge, clarge_s, rfl, bo_clarge, clarge_h⟩
theorem crd_bare {ds : List Dat} (t : Int) (h0 : argI ds 0 = 1) (h1 : argI ds 1 = 0) (h2 : argB ds 2 = false) (h3 : argI ds 3 = 0) (h4 : argI ds 4 = 0) (h5 : argI ds 5 = 0) (h6 : argI ds 6 = 0) (h7 : argI ds 7 = 0) (h8 : argI ds 8 = 0) (h9 : argI ds 9 = 1) (h10 : argI ds 10 = t) (h11 : argI ds 11 = 0) (h12 : argL ds 12 = []) (ht : t = 0 ∨ t = 1) : crdErr ds = if t = 1 then 0 else 1 := by
  unfold crdErr
  rw [h0, h1, h2, h3, h4, h5, h6, h7, h8, h9, h10, h11, h12]
  rcases ht with rfl | rfl <;> decide +kernel
def k_alive7 : Nat := 13
def sg_alive7 : Sig := ⟨[], [(false, [.bool])], false, false, false, false, false⟩
def tr_alive7 : Tree := (.call k_cCheck [(.int .i64 1), (.int .i64 0), (.bool false), (.int .i64 0), (.int .i64 0), (.int .i64 0), (.int .i64 0), (.int .i64 0), (.int .i64 0), (.int .i64 1), (.int .i64 1), (.int .i64 0), (.nil 42)] [.err]
(.ite (.not (.isnil (.var 0)))
 (.ret [(.bool false)])
 (.call k_cCheck [(.int .i64 1), (.int .i64 0), (.bool false), (.int .i64 0), (.int .i64 0), (.int .i64 0), (.int .i64 0), (.int .i64 0), (.int .i64 0), (.int .i64 1), (.int .i64 0), (.int .i64 0), (.nil 42)] [.err]
 (.call k_Is [(.var 1), (.int .i64 1)] [.bool]
 (.ret [(.var 2)])))))
theorem wk_alive7 : walk E0.cx (sgsN [(24, sg_cCheck), (19, sg_Is)]) 0 13 sg_alive7 = tr_alive7 := by kernel_rfl
theorem bo_alive7 : ∃ x, bodyOf E0.P 13 = some x := bo_of (by kernel_rfl)
theorem sp_alive7_cCheck : specC [con_cCheck, con_Is] k_cCheck = cCheck_s := rfl
theorem sp_alive7_Is : specC [con_cCheck, con_Is] k_Is = Is_s := rfl
def alive7_s : Spec := fun ds Q => Q [.bool true]
theorem alive7_h : Holds E0 k_alive7 sg_alive7 alive7_s := con_fn wf0 mix0 g0 [con_cCheck, con_Is] rfl wk_alive7 rfl (by
  intro Φ hΦ ds Q hs h
  have sp : Φ k_cCheck = cCheck_s := by rw [hΦ]; rfl
  have sp2 : Φ k_Is = Is_s := by rw [hΦ]; rfl
  clear hΦ
  obtain rfl := List.length_eq_zero_iff.1 (show ds.length = 0 from hs.length.symm)
  simp only [tr_alive7, wp, allS, den_nil, sp, sp2, cCheck_s, List.map_cons, List.map_nil, den_int, den_bool]
  have e1 := crd_bare (ds := [Dat.int IntKind.i64 1, Dat.int IntKind.i64 0, Dat.bool false, Dat.int IntKind.i64 0, Dat.int IntKind.i64 0, Dat.int IntKind.i64 0, Dat.int IntKind.i64 0, Dat.int IntKind.i64 0, Dat.int IntKind.i64 0, Dat.int IntKind.i64 1, Dat.int IntKind.i64 1, Dat.int IntKind.i64 0, Dat.list (Value.slice none 0 0) (E0.Δ.row 42).length []]) 1 rfl rfl rfl rfl rfl rfl rfl rfl rfl rfl rfl rfl rfl (Or.inr rfl)
  have e2 := crd_bare (ds := [Dat.int IntKind.i64 1, Dat.int IntKind.i64 0, Dat.bool false, Dat.int IntKind.i64 0, Dat.int IntKind.i64 0, Dat.int IntKind.i64 0, Dat.int IntKind.i64 0, Dat.int IntKind.i64 0, Dat.int IntKind.i64 0, Dat.int IntKind.i64 1, Dat.int IntKind.i64 0, Dat.int IntKind.i64 0, Dat.list (Value.slice none 0 0) (E0.Δ.row 42).length []]) 0 rfl rfl rfl rfl rfl rfl rfl rfl rfl rfl rfl rfl rfl (Or.inl rfl)
  rw [if_pos rfl] at e1
  rw [if_neg (by decide)] at e2
  rw [e1, e2]
  exact ⟨Nat.zero_le _, fun hx => Bool.noConfusion (Dat.bool.inj hx), fun _ => ⟨Nat.zero_le _, 1, 1, rfl, h⟩⟩)
noncomputable def con_alive7 : Con E0 := ⟨k_alive7, sg_alive7, alive7_s, rfl, bo_alive7, alive7_h⟩
end Go.Proofs.Ytccdlmiemelifaa
end

section
namespace Go.Proofs.Ytccdlmiemelifaa
open Go.RowKit
set_option linter.unusedVariables false
set_option linter.unusedSimpArgs false

/-- a card's thirteen cells -/
def cardS : List Srt := [.int .i64, .int .i64, .bool, .int .i64, .int .i64, .int .i64, .int .i64, .int .i64, .int .i64, .int .i64, .int .i64, .int .i64, .list 42]
theorem abl_list {e : Dat} (h : Has E0.Δ (.list 42) e) : ∃ v sub, e = Dat.list v 14 sub := by
  have hrow := abl_row14
  cases h with
  | list _ A n c xs hl h => exact ⟨_, xs, by rw [hrow]⟩
theorem card_split {l : List Dat} {ss : List Srt} (h : All2 (Has E0.Δ) (cardS ++ ss) l) : ∃ x0 x1 x2 x3 x4 x5 x6 x7 x8 x9 x10 x11 v r rest, l = [.int .i64 x0, .int .i64 x1, .bool x2, .int .i64 x3, .int .i64 x4, .int .i64 x5, .int .i64 x6, .int .i64 x7, .int .i64 x8, .int .i64 x9, .int .i64 x10, .int .i64 x11, .list v 14 r] ++ rest ∧ Has E0.Δ (.list 42) (.list v 14 r) ∧ All2 (Has E0.Δ) ss rest := by
  unfold cardS at h
  rcases h with _ | ⟨h0, h⟩
  rcases h with _ | ⟨h1, h⟩
  rcases h with _ | ⟨h2, h⟩
  rcases h with _ | ⟨h3, h⟩
  rcases h with _ | ⟨h4, h⟩
  rcases h with _ | ⟨h5, h⟩
  rcases h with _ | ⟨h6, h⟩
  rcases h with _ | ⟨h7, h⟩
  rcases h with _ | ⟨h8, h⟩
  rcases h with _ | ⟨h9, h⟩
  rcases h with _ | ⟨h10, h⟩
  rcases h with _ | ⟨h11, h⟩
  rcases h with _ | ⟨h12, h⟩
  cases h0; cases h1; cases h2; cases h3; cases h4; cases h5; cases h6; cases h7; cases h8; cases h9; cases h10; cases h11
  obtain ⟨v, sub, rfl⟩ := abl_list h12
  exact ⟨_, _, _, _, _, _, _, _, _, _, _, _, v, sub, _, rfl, h12, h⟩
/-- a card: twelve heads -/
structure Hdr where
  (x0 x1 : Int) (x2 : Bool) (x3 x4 x5 x6 x7 x8 x9 x10 x11 : Int)
def Hdr.ds (x : Hdr) (v : Value) (r : List (List Dat)) : List Dat := [.int .i64 x.x0, .int .i64 x.x1, .bool x.x2, .int .i64 x.x3, .int .i64 x.x4, .int .i64 x.x5, .int .i64 x.x6, .int .i64 x.x7, .int .i64 x.x8, .int .i64 x.x9, .int .i64 x.x10, .int .i64 x.x11, .list v 14 r]
def Hdr.cs (x : Hdr) (v : Value) : Array Value := #[.int .i64 x.x0, .int .i64 x.x1, .bool x.x2, .int .i64 x.x3, .int .i64 x.x4, .int .i64 x.x5, .int .i64 x.x6, .int .i64 x.x7, .int .i64 x.x8, .int .i64 x.x9, .int .i64 x.x10, .int .i64 x.x11, v]
theorem Hdr.has (x : Hdr) {v : Value} {r : List (List Dat)} (h : Has E0.Δ (.list 42) (.list v 14 r)) : All2 (Has E0.Δ) cardS (x.ds v r) :=
  .cons (.int _ _) (.cons (.int _ _) (.cons (.bool _) (.cons (.int _ _) (.cons (.int _ _) (.cons (.int _ _) (.cons (.int _ _) (.cons (.int _ _) (.cons (.int _ _) (.cons (.int _ _) (.cons (.int _ _) (.cons (.int _ _) (.cons h .nil))))))))))))
theorem Hdr.ok (x : Hdr) {w : World} {v : Value} {r : List (List Dat)} (h : OkD w (.list v 14 r)) : OkL w (x.ds v r) := fun d hd => by
  simp only [Hdr.ds, List.mem_cons, List.not_mem_nil, or_false] at hd
  rcases hd with rfl | rfl | rfl | rfl | rfl | rfl | rfl | rfl | rfl | rfl | rfl | rfl | rfl
  all_goals first | exact .int _ _ | exact .bool _ | exact h
theorem Hdr.isz (x : Hdr) (v : Value) : (Try.prog.info? 37).map (·.size) = some (x.cs v).size := card_isz _ _ _ _ _ _ _ _ _ _ _ _ _
theorem Hdr.ones (x : Hdr) {v : Value} (h : v.oneCell' = true) : (x.cs v).all (·.oneCell') = true := card_one (by simp [Ones, Value.oneCell']) h
def keyC (x : Hdr) (r : List (List Dat)) := cdK (x.ds .nilIface r)
theorem keyC_eq (x : Hdr) (v : Value) (r : List (List Dat)) (e : List Dat) : cdK (x.ds v r ++ e) = keyC x r := rfl
theorem keyC_drop (x : Hdr) (v : Value) (r : List (List Dat)) (e : List Dat) : (x.ds v r ++ e).drop 13 = e := rfl
theorem keyC_congr (x : Hdr) {r r' : List (List Dat)} (h : r.map abK = r'.map abK) : keyC x r = keyC x r' := by
  unfold keyC cdK
  show (cdH _, r.map abK) = (cdH _, r'.map abK)
  rw [h]; rfl
def SzC (r : List (List Dat)) : Prop := (∀ x ∈ r, (effOf (x.drop 9)).size ≤ 300) ∧ r.length ≤ 9
theorem SzC.big {r : List (List Dat)} (h : SzC r) : (∀ x ∈ r, (effOf (x.drop 9)).size ≤ 1000) ∧ r.length ≤ 1000 := ⟨fun x hx => Nat.le_trans (h.1 x hx) (by decide), Nat.le_trans h.2 (by decide)⟩
theorem c_same (x y : Hdr) (v v' : Value) (r r' : List (List Dat)) (w : World) (hA : Has E0.Δ (.list 42) (.list v 14 r)) (hB : Has E0.Δ (.list 42) (.list v' 14 r')) (oA : OkD w (.list v 14 r)) (oB : OkD w (.list v' 14 r')) (hsz : SzC r) :
    Calls Try.prog 16 #[.agg (x.cs v), .agg (y.cs v')] w fun e w' => ∃ b : Bool, e = .returned (.bool b) ∧ (b = true ↔ keyC x r = keyC y r') ∧ Below w.heap.size w w' :=
  call_b cSame_h rfl rfl (ds := x.ds v r ++ y.ds v' r') ((x.has hA).append (y.has hB)) (fun d hd => (List.mem_append.1 hd).elim (x.ok oA d) (y.ok oB d)) (fun b => (b = true ↔ _)) ⟨hsz.big.1, hsz.big.2, fun b hb => ⟨b, rfl, hb⟩⟩ rfl
theorem c_cards (x y : Hdr) (v v' : Value) (r r' : List (List Dat)) (w : World) (hA : Has E0.Δ (.list 42) (.list v 14 r)) (hB : Has E0.Δ (.list 42) (.list v' 14 r')) (oA : OkD w (.list v 14 r)) (oB : OkD w (.list v' 14 r')) (hsz : SzC r) :
    Calls Try.prog 17 #[.agg (x.cs v), .agg (y.cs v')] w fun e w' => ∃ b : Bool, e = .returned (.bool b) ∧ (b = true ↔ keyC x r = keyC y r') ∧ Below w.heap.size w w' :=
  call_b nCards_h rfl rfl (ds := x.ds v r ++ y.ds v' r') ((x.has hA).append (y.has hB)) (fun d hd => (List.mem_append.1 hd).elim (x.ok oA d) (y.ok oB d)) (fun b => (b = true ↔ _)) ⟨hsz.big.1, hsz.big.2, fun b hb => ⟨b, rfl, hb⟩⟩ rfl
theorem c_large (x : Hdr) (v : Value) (r : List (List Dat)) (w : World) (hA : Has E0.Δ (.list 42) (.list v 14 r)) (oA : OkD w (.list v 14 r)) :
    Calls Try.prog 14 #[.agg (x.cs v)] w fun e w' => ∃ b : Bool, e = .returned (.bool b) ∧ (b = false → SzC r) ∧ Below w.heap.size w w' :=
  call_b clarge_h rfl rfl (ds := x.ds v r) (x.has hA) (x.ok oA) (fun b => b = false → _) (fun b hb => ⟨b, rfl, fun hf => ⟨fun z hz => by
    have h1 := (hb hf).2 z hz
    have h14 : z.length = 14 := ((abl_rows hA) z hz).length.symm
    rwa [argE_row0 (by rw [List.length_drop, h14])] at h1, (hb hf).1⟩⟩) rfl
theorem c_alive (w : World) : Calls Try.prog 13 #[] w fun e w' => ∃ x : Bool, e = .returned (.bool x) ∧ x = true ∧ Below w.heap.size w w' :=
  call_b alive7_h rfl rfl (ds := []) .nil (fun _ h => by cases h) (fun x => x = true) ⟨true, rfl, rfl⟩ rfl
/-- slice v holds abilities that may be written into -/
def TrC (w : World) (B E : Nat) (v : Value) (n : Nat) : Prop := ∃ xs, Ow w B 14 v n xs ∧ n ≤ 9 ∧ (∀ k, blkOf v = some k → k < E) ∧ ∀ i, i < n → (∃ a : Int, xs[i * 14]? = some (.int .i64 a)) ∧ ∃ u, xs[i * 14 + 13]? = some u ∧ TrS w B E 301 u
theorem TrA.shape {w : World} {B E : Nat} {v : Value} {rs : List (List Dat)} (h : TrA w B v rs) (hh : ∀ r ∈ rs, All2 (Has E0.Δ) ablS r) (hE : w.heap.size ≤ E) (hs : SzC rs) : TrC w B E v rs.length := by
  obtain ⟨us, B', h1, h2, h3, h4, h5⟩ := h
  have h14 : ∀ r ∈ rs, r.length = 14 := fun r hr => (hh r hr).length.symm
  refine ⟨_, h2, hs.2, fun k hk => Nat.lt_of_lt_of_le (h2.blk_lt k hk).2 hE, fun i hi => ?_⟩
  have hr : rs[i]? = some rs[i] := List.getElem?_eq_getElem hi
  have hu : us[i]? = some (us[i]'(by omega)) := List.getElem?_eq_getElem (by omega)
  have hm := List.getElem_mem hi
  have hsz := hs.1 _ hm
  rw [Eff.size_eq] at hsz
  refine ⟨?_, us[i]'(by omega), ?_, (h5 i _ _ hr hu).shape 301 h4 hE (by omega) (by omega)⟩
  · obtain ⟨a0, a1, a2, a3, a4, a5, a6, a7, a8, a9, a10, a11, a12, v0, sub, e, _⟩ := abl_shape (hh _ hm)
    refine ⟨a0, ?_⟩
    rw [← Nat.add_zero (i * 14), rowsA_get h14 hr hu (by omega), e]; rfl
  · rw [rowsA_get h14 hr hu (by omega), cellsA'_last (h14 _ hm)]
end Go.Proofs.Ytccdlmiemelifaa
end

section
namespace Go.Proofs.Ytccdlmiemelifaa
open Go.RowKit
set_option linter.unusedVariables false
set_option linter.unusedSimpArgs false

theorem Ow.same {B0 sz n : Nat} {v : Value} {xs : List Value} {w w' : World} (h : Ow w B0 sz v n xs) (hs : w.heap.size ≤ w'.heap.size) (hk : ∀ k, blkOf v = some k → w'.heap[k]? = w.heap[k]?) : Ow w' B0 sz v n xs := by
  obtain ⟨A, c, rfl, hc, hl, ha, ho⟩ := h
  by_cases hc0 : 0 < c
  · obtain ⟨g, off, rfl, hB, hg, hj⟩ := ho hc0
    have hblk := hk g (by simp only [blkOf]; rw [if_pos hc0])
    have hcell : ∀ o, w'.cell? ⟨g, o, none⟩ = w.cell? ⟨g, o, none⟩ := fun o => by unfold World.cell?; simp only [hblk]
    have hfro : ∀ o, w'.frozen? ⟨g, o, none⟩ = w.frozen? ⟨g, o, none⟩ := fun o => by unfold World.frozen?; simp only [hblk]
    refine ⟨_, c, rfl, hc, hl, fun hn => ?_, fun _ => ⟨g, off, rfl, hB, Nat.lt_of_lt_of_le hg hs, fun j hjc => ?_⟩⟩
    · obtain ⟨ad, e, _, hcl⟩ := ha hn
      cases e
      refine ⟨_, rfl, Nat.lt_of_lt_of_le hg hs, fun j u hu => ?_⟩
      have := hcl j u hu
      rw [Addr.add_lit] at this ⊢
      rw [hcell]; exact this
    · rw [hcell, hfro]; exact hj j hjc
  · exact ⟨A, c, rfl, hc, hl, fun hn => absurd hn (by omega), fun hn => absurd hn hc0⟩
/-- the blocks from B up to E are as they were -/
def Sm (B E : Nat) (w w' : World) : Prop := w.heap.size ≤ w'.heap.size ∧ ∀ k, B ≤ k → k < E → w'.heap[k]? = w.heap[k]?
theorem TrS.same {w w' : World} {B E : Nat} (h : Sm B E w w') : ∀ {d : Nat} {v : Value}, TrS w B E d v → TrS w' B E d v
  | 0, _, ht => ht.elim
  | d + 1, v, ⟨n, xs, ho, hn, hE, hx⟩ => ⟨n, xs, ho.same h.1 fun k hk => h.2 k (ho.blk_lt k hk).1 (hE k hk), hn, hE, fun i hi => ⟨(hx i hi).1, by obtain ⟨u, h1, h2⟩ := (hx i hi).2; exact ⟨u, h1, h2.same h⟩⟩⟩
theorem TrC.same {w w' : World} {B E n : Nat} {v : Value} (h : Sm B E w w') : TrC w B E v n → TrC w' B E v n
  | ⟨xs, ho, hn, hE, hx⟩ => ⟨xs, ho.same h.1 fun k hk => h.2 k (ho.blk_lt k hk).1 (hE k hk), hn, hE, fun i hi => ⟨(hx i hi).1, by obtain ⟨u, h1, h2⟩ := (hx i hi).2; exact ⟨u, h1, h2.same h⟩⟩⟩
theorem Sm.lt {B E : Nat} {w w' : World} (h : Below w.heap.size w w') (hE : E ≤ w.heap.size) : Sm B E w w' := ⟨h.size, fun k _ hk => h.block k (by omega)⟩
theorem Sm.grown {B E g : Nat} {w w' : World} (h : w.grownBy w' (some g)) (hE : E ≤ w.heap.size) (hg : g < B ∨ E ≤ g) : Sm B E w w' := ⟨h.size, fun k h1 hk => h.block k (by omega) (by intro e; cases e; omega)⟩
/-- a copy of the card's abilities between two places -/
def CF (ra : List (List Dat)) (W : World) (B E : Nat) (u : Value) : Prop := TrC W B E u ra.length ∧ ∃ rc, OkD W (.list u 14 rc) ∧ Has E0.Δ (.list 42) (.list u 14 rc) ∧ rc.map abK = ra.map abK ∧ ∀ k, AtL [.list u 14 rc] k → B ≤ k ∧ k < E
theorem OkD.sameOn {W W' : World} {B E : Nat} {d : Dat} (h : OkD W d) (hs : Sm B E W W') (ho : W'.os = W.os) (ht : W'.tape = W.tape) (hp : W'.output = W.output) (hk : ∀ k, AtD d k → B ≤ k ∧ k < E) : OkD W' d :=
  h.keepsLt (B := fun k => ¬ (B ≤ k ∧ k < E)) ⟨ho, ht, hp, hs.1, fun k _ hn => by
    have := Classical.not_not.1 hn
    exact hs.2 k this.1 this.2⟩ fun k hkk hn => hn (hk k hkk)
theorem CF.same {ra : List (List Dat)} {W W' : World} {B E : Nat} {u : Value} (h : CF ra W B E u) (hs : Sm B E W W') (ho : W'.os = W.os) (ht : W'.tape = W.tape) (hp : W'.output = W.output) : CF ra W' B E u := by
  obtain ⟨h1, rc, h2, h3, h4, h5⟩ := h
  exact ⟨h1.same hs, rc, h2.sameOn hs ho ht hp fun k hk => h5 k ⟨_, List.mem_singleton.2 rfl, hk⟩, h3, h4, h5⟩
theorem CF.below {ra : List (List Dat)} {W W' : World} {B E : Nat} {u : Value} (h : CF ra W B E u) (hb : Below W.heap.size W W') (hE : E ≤ W.heap.size) : CF ra W' B E u := h.same (Sm.lt hb hE) hb.os hb.tape hb.output
theorem CF.grown {ra : List (List Dat)} {W W' : World} {B E g : Nat} {u : Value} (h : CF ra W B E u) (hb : W.grownBy W' (some g)) (hE : E ≤ W.heap.size) (hg : g < B ∨ E ≤ g) : CF ra W' B E u := h.same (Sm.grown hb hE hg) hb.os hb.tape hb.output
/-- what card.Copy leaves -/
theorem TrA.cf {ra : List (List Dat)} {W : World} {B : Nat} {u : Value} (h : TrA W B u ra) (hh : ∀ r ∈ ra, All2 (Has E0.Δ) ablS r) (hs : SzC ra) : CF ra W B W.heap.size u := by
  obtain ⟨rc, h1, h2, h3, h4⟩ := h.data hh
  refine ⟨h.shape hh (Nat.le_refl _) hs, rc, h1, h2, h3, fun k hk => ⟨h4 k hk, ?_⟩⟩
  obtain ⟨d, hd, hk⟩ := hk
  rw [List.mem_singleton.1 hd] at hk
  exact h1.lt hk
theorem c_copy (x : Hdr) (v : Value) (r : List (List Dat)) (w : World) (hA : Has E0.Δ (.list 42) (.list v 14 r)) (oA : OkD w (.list v 14 r)) (hsz : SzC r) :
    Calls Try.prog 15 #[.agg (x.cs v)] w fun e w' => ∃ u, e = .returned (.agg (x.cs u)) ∧ u.oneCell' = true ∧ Below w.heap.size w w' ∧ CF r w' w.heap.size w'.heap.size u := by
  refine (copyC_w (.int .i64 x.x0) (.int .i64 x.x1) (.bool x.x2) (.int .i64 x.x3) (.int .i64 x.x4) (.int .i64 x.x5) (.int .i64 x.x6) (.int .i64 x.x7) (.int .i64 x.x8) (.int .i64 x.x9) (.int .i64 x.x10) (.int .i64 x.x11) v r w (by simp [Ones, Value.oneCell']) hsz.1 hsz.big.2 oA hA).mono ?_
  rintro e w' ⟨u, rfl, hb, ht⟩
  refine ⟨u, rfl, ?_, hb, ht.cf (abl_rows hA) hsz⟩
  obtain ⟨us, B', _, ⟨A, c, rfl, _⟩, _⟩ := ht
  rfl
def lst (c : Nat) (s4 s5 : Bool) : Array Bool := #[true, decide (1 ≤ c), true, decide (2 ≤ c), s4, s5, false, false]
def rdy (c : Nat) (s4 s5 : Bool) : List Nat := (if c = 0 then [1] else if c = 1 then [3] else []) ++ (if s4 then [] else [4]) ++ (if s5 then [] else [5])
section
variable {P : Program} {md : Region.Mode} {ops : Array Oper} {B : Nat → Prop} {Q : Act → World → Prop}
theorem r5 (fr : Value → Value → Value → Value → Act) (Inv : Nat → Bool → Bool → Value → Value → Value → Value → World → Prop)
    (ready : ∀ c s4 s5, c ≤ 2 → ¬ (c = 2 ∧ s4 = true ∧ s5 = true) → Region.ready md ops (lst c s4 s5) = rdy c s4 s5)
    (st1 : ∀ s4 s5 z5 z6 z18 z20 W, Inv 0 s4 s5 z5 z6 z18 z20 W → wpOp P ops (calm Q) 1 (fun a' w' => LtO true B W w' ∧ ∃ v, a' = fr z5 z6 v z20 ∧ Inv 1 s4 s5 z5 z6 v z20 w') (fr z5 z6 z18 z20) W)
    (st3 : ∀ s4 s5 z5 z6 z18 z20 W, Inv 1 s4 s5 z5 z6 z18 z20 W → wpOp P ops (calm Q) 3 (fun a' w' => LtO true B W w' ∧ ∃ v, a' = fr z5 z6 z18 v ∧ Inv 2 s4 s5 z5 z6 z18 v w') (fr z5 z6 z18 z20) W)
    (st4 : ∀ c s5 z5 z6 z18 z20 W, Inv c false s5 z5 z6 z18 z20 W → wpOp P ops (calm Q) 4 (fun a' w' => LtO true B W w' ∧ ∃ v, a' = fr v z6 z18 z20 ∧ Inv c true s5 v z6 z18 z20 w') (fr z5 z6 z18 z20) W)
    (st5 : ∀ c s4 z5 z6 z18 z20 W, Inv c s4 false z5 z6 z18 z20 W → wpOp P ops (calm Q) 5 (fun a' w' => LtO true B W w' ∧ ∃ v, a' = fr z5 v z18 z20 ∧ Inv c s4 true z5 v z18 z20 w') (fr z5 z6 z18 z20) W)
    (fin : ∀ z5 z6 z18 z20 W, Inv 2 true true z5 z6 z18 z20 W → wpAnyR P md ops true B Q 2 (lst 2 true true) (fr z5 z6 z18 z20) W) :
    ∀ n c s4 s5, c ≤ 2 → n = (2 - c) + (if s4 then 0 else 1) + (if s5 then 0 else 1) → ∀ z5 z6 z18 z20 W, Inv c s4 s5 z5 z6 z18 z20 W → wpAnyR P md ops true B Q (n + 2) (lst c s4 s5) (fr z5 z6 z18 z20) W := by
  intro n
  induction n with
  | zero =>
    intro c s4 s5 hc hn z5 z6 z18 z20 W h
    have h2 : c = 2 := by omega
    have h4 : s4 = true := by
      cases s4 with
      | true => rfl
      | false => rw [if_neg Bool.false_ne_true] at hn; omega
    have h5 : s5 = true := by
      cases s5 with
      | true => rfl
      | false => rw [h4, if_pos rfl, if_neg Bool.false_ne_true] at hn; omega
    subst h2 h4 h5
    exact fin _ _ _ _ _ h
  | succ n ih =>
    intro c s4 s5 hc hn z5 z6 z18 z20 W h
    have hne : ¬ (c = 2 ∧ s4 = true ∧ s5 = true) := by rintro ⟨rfl, rfl, rfl⟩; simp at hn
    refine ⟨fun hr => ?_, fun i hi => ?_⟩
    · rw [ready c s4 s5 hc hne] at hr
      unfold rdy at hr
      exfalso
      revert hr hne
      match c, hc with
      | 0, _ => simp
      | 1, _ => simp
      | 2, _ => cases s4 <;> cases s5 <;> simp
    · rw [ready c s4 s5 hc hne] at hi
      unfold rdy at hi
      rw [List.mem_append, List.mem_append] at hi
      rcases hi with (hi | hi) | hi
      · match c, hc with
        | 0, _ =>
          rw [if_pos rfl, List.mem_singleton] at hi
          subst hi
          refine wpOp_mono (fun a' w' h' => ?_) (st1 _ _ _ _ _ _ _ h)
          obtain ⟨h1, v, rfl, h2⟩ := h'
          exact ⟨h1, ih 1 s4 s5 (by omega) (by omega) _ _ _ _ _ h2⟩
        | 1, _ =>
          rw [if_neg (by decide), if_pos rfl, List.mem_singleton] at hi
          subst hi
          refine wpOp_mono (fun a' w' h' => ?_) (st3 _ _ _ _ _ _ _ h)
          obtain ⟨h1, v, rfl, h2⟩ := h'
          exact ⟨h1, ih 2 s4 s5 (by omega) (by omega) _ _ _ _ _ h2⟩
        | 2, _ => simp at hi
      · cases s4 with
        | true => simp at hi
        | false =>
          rw [if_neg Bool.false_ne_true, List.mem_singleton] at hi
          subst hi
          refine wpOp_mono (fun a' w' h' => ?_) (st4 _ _ _ _ _ _ _ h)
          obtain ⟨h1, v, rfl, h2⟩ := h'
          exact ⟨h1, ih c true s5 hc (by simp at hn ⊢; omega) _ _ _ _ _ h2⟩
      · cases s5 with
        | true => simp at hi
        | false =>
          rw [if_neg Bool.false_ne_true, List.mem_singleton] at hi
          subst hi
          refine wpOp_mono (fun a' w' h' => ?_) (st5 _ _ _ _ _ _ _ h)
          obtain ⟨h1, v, rfl, h2⟩ := h'
          exact ⟨h1, ih c s4 true hc (by simp at hn ⊢; omega) _ _ _ _ _ h2⟩
end
end Go.Proofs.Ytccdlmiemelifaa
end

section
namespace Go.Proofs.Ytccdlmiemelifaa
open Go.RowKit
set_option linter.unusedVariables false
set_option linter.unusedSimpArgs false

theorem Ow.cellG {w : World} {B sz n c q : Nat} {A : Option Addr} {xs : List Value} {v : Value} (h : Ow w B sz (.slice A n c) n xs) (hq : xs[q]? = some v) : ∃ g off, A = some ⟨g, off, none⟩ ∧ B ≤ g ∧ g < w.heap.size ∧ 0 < c ∧ w.cell? ⟨g, off + q, none⟩ = some v ∧ w.frozen? ⟨g, off + q, none⟩ = false := by
  have hlen := h.len
  obtain ⟨A', c', e, hc, hl, ha, ho⟩ := h
  cases e
  have hql := (List.getElem?_eq_some_iff.1 hq).1
  have hn0 : 0 < n := Nat.pos_of_ne_zero fun e => by subst e; simp at hlen; omega
  obtain ⟨g, off, rfl, hB, hg, hj⟩ := ho (by omega)
  obtain ⟨ad, e, _, hcell⟩ := ha hn0
  cases e
  have h1 := hcell q v hq
  rw [Addr.add_lit] at h1
  exact ⟨g, off, rfl, hB, hg, by omega, h1, (hj q (Nat.lt_of_lt_of_le (show q < n * sz by rw [← hl]; exact hql) (Nat.mul_le_mul_right _ hc))).2⟩
theorem TrC.at {w : World} {B E n c i : Nat} {A : Option Addr} (h : TrC w B E (.slice A n c) n) (hi : i < n) : ∃ g off, A = some ⟨g, off, none⟩ ∧ B ≤ g ∧ g < E ∧ (∃ a : Int, w.cell? ⟨g, off + i * 14, none⟩ = some (.int .i64 a) ∧ w.frozen? ⟨g, off + i * 14, none⟩ = false) ∧ ∃ u, w.cell? ⟨g, off + i * 14 + 13, none⟩ = some u ∧ TrS w B E 301 u := by
  obtain ⟨xs, ho, _, hE, hx⟩ := h
  obtain ⟨⟨a, ha⟩, u, hu, ht⟩ := hx i hi
  obtain ⟨g, off, rfl, hB, hg, hc0, h1, h2⟩ := ho.cellG ha
  obtain ⟨g', off', e, _, _, _, h3, _⟩ := ho.cellG hu
  cases e
  exact ⟨g, off, rfl, hB, hE g (by simp only [blkOf]; rw [if_pos hc0]), ⟨a, h1, h2⟩, u, by rw [← Nat.add_assoc] at h3; exact h3, ht⟩
theorem TrS.at {w : World} {B E d n c k : Nat} {A : Option Addr} (h : TrS w B E (d + 1) (.slice A n c)) (hk : k < n) : ∃ g off, A = some ⟨g, off, none⟩ ∧ B ≤ g ∧ g < E ∧ ∃ a : Int, w.cell? ⟨g, off + k * 5 + 1, none⟩ = some (.int .i64 a) ∧ w.frozen? ⟨g, off + k * 5 + 1, none⟩ = false := by
  obtain ⟨n', xs, ho, _, hE, hx⟩ := h
  obtain ⟨_, _, e, _⟩ := id ho
  cases e
  obtain ⟨a, ha⟩ := (hx k hk).1 1 (by omega)
  obtain ⟨g, off, rfl, hB, hg, hc0, h1, h2⟩ := ho.cellG ha
  rw [← Nat.add_assoc] at h1 h2
  exact ⟨g, off, rfl, hB, hE g (by simp only [blkOf]; rw [if_pos hc0]), a, h1, h2⟩
theorem TrS.small {w : World} {B E d n c : Nat} {A : Option Addr} (h : TrS w B E (d + 1) (.slice A n c)) : n ≤ 1000 := by
  obtain ⟨n', xs, ho, hn, _⟩ := h
  obtain ⟨_, _, e, _⟩ := id ho
  cases e; exact hn
theorem TrC.slice {w : World} {B E n : Nat} {v : Value} (h : TrC w B E v n) : ∃ A c, v = .slice A n c ∧ n ≤ 9 := by
  obtain ⟨xs, ⟨A, c, rfl, _⟩, hn, _⟩ := h
  exact ⟨A, c, rfl, hn⟩
theorem TrC.poke {w : World} {B E n : Nat} {v : Value} {p : Addr} {y z : Int} (hp : w.cell? p = some (.int .i64 y)) : TrC w B E v n → TrC (w.setCell p (.int .i64 z)) B E v n
  | ⟨xs, ho, hn, hE, hx⟩ => by
    obtain ⟨xs', h1, h2, h3⟩ := ho.poke hp (.int .i64 z)
    refine ⟨xs', h1, hn, hE, fun i hi => ⟨?_, ?_⟩⟩
    · obtain ⟨a, ha⟩ := (hx i hi).1
      rcases h3 (i * 14) with e | ⟨_, e⟩
      · exact ⟨a, e.trans ha⟩
      · exact ⟨z, e⟩
    · obtain ⟨u, hu, ht⟩ := (hx i hi).2
      rcases h3 (i * 14 + 13) with e | ⟨e, _⟩
      · exact ⟨u, e.trans hu, ht.poke hp⟩
      · rw [hu] at e
        cases e
        obtain ⟨A, n', c, e⟩ := ht.slice
        cases e
structure MidK (x : Hdr) (va : Value) (ra : List (List Dat)) (w : World) (B1 E1 B2 E2 k5 k6 : Nat) (u1 u2 : Value) (wr : World) : Prop where
  ha : Row wr w.heap.size (x.cs va) 37
  h5 : Row wr k5 (x.cs u1) 37
  h6 : Row wr k6 (x.cs u2) 37
  hb : Below w.heap.size w wr
  hC : TrC wr B1 E1 u1 ra.length
  hD : CF ra wr B2 E2 u2
  hE2 : E2 ≤ wr.heap.size
theorem MidK.poke {x : Hdr} {va : Value} {ra : List (List Dat)} {w : World} {B1 E1 B2 E2 k5 k6 : Nat} {u1 u2 : Value} {wr : World} (h : MidK x va ra w B1 E1 B2 E2 k5 k6 u1 u2 wr) (h0 : w.heap.size < B1) (o5 : k5 < B1 ∨ E1 ≤ k5) (o6 : k6 < B1 ∨ E1 ≤ k6) (h12 : E1 ≤ B2) {g o : Nat} {y z : Int} (hp : wr.cell? ⟨g, o, none⟩ = some (.int .i64 y)) (hg : B1 ≤ g) (hg2 : g < E1) : MidK x va ra w B1 E1 B2 E2 k5 k6 u1 u2 (wr.setCell ⟨g, o, none⟩ (.int .i64 z)) where
  ha := h.ha.other (by omega) _ _
  h5 := h.h5.other (by omega) _ _
  h6 := h.h6.other (by omega) _ _
  hb := h.hb.trans (below_st _ _ _ (by omega))
  hC := h.hC.poke hp
  hD := h.hD.grown (grownBy_setCell wr _ _ _) h.hE2 (.inl (by omega))
  hE2 := by simpa using h.hE2
end Go.Proofs.Ytccdlmiemelifaa
end
