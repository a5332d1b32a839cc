import Derived.Shelf.LaysC
import Derived.Shelf.Strconv.AtoiAll
import Derived.Shelf.Strconv.ErrVarAll
import Derived.Test.YtigdoooikfgdfaaDoorM12
import Derived.Test.YtigdoooikfgdfaaDoorM14
import Derived.Lib.OthersKept
import Derived.OwnWalk
import Derived.Deep.CutBlock
import Derived.BigCall

set_option linter.unusedVariables false
set_option linter.unusedSimpArgs false

section
namespace Go.Proofs.YtigdoooikfgdfaaDoor
open Go.Shelf
def sh_laysC172_ren : Go.Shelf.Ren := ⟨fun | 172 => 35 | 244 => 59 | 245 => 60 | 247 => 70 | 279 => 71 | 280 => 72 | 281 => 73 | 282 => 74 | 287 => 88 | 316 => 89 | 171 => 28 | 205 => 90 | 321 => 101 | 322 => 102 | 243 => 52 | 246 => 65 | 283 => 75 | 284 => 76 | 285 => 77 | 286 => 78 | 129 => 92 | 317 => 91 | 318 => 93 | 319 => 94 | 320 => 95 | 337 => 103 | 338 => 104 | n => n, fun | 9 => 9 | 3 => 3 | 75 => 29 | 76 => 71 | 4 => 4 | 5 => 5 | 167 => 95 | 37 => 82 | 0 => 0 | 85 => 96 | 2 => 2 | 168 => 98 | 53 => 102 | 175 => 115 | 46 => 75 | 210 => 119 | 127 => 131 | 145 => 134 | 143 => 132 | 21 => 21 | 171 => 101 | 173 => 105 | 212 => 122 | 51 => 123 | 20 => 20 | 213 => 124 | 232 => 137 | 233 => 138 | 80 => 139 | n => n, fun | 15 => 1 | 16 => 2 | 17 => 3 | 18 => 4 | 19 => 5 | n => n⟩
theorem sh_laysC172 : Go.Proofs.LaysC.n172 Tryd.prog sh_laysC172_ren := {
  mixed := by kernel_rfl
  f129 := Tryd.func92.trans (congrArg some (by kernel_rfl))
  f171 := Tryd.func28.trans (congrArg some (by kernel_rfl))
  f172 := Tryd.func35.trans (congrArg some (by kernel_rfl))
  f205 := Tryd.func90.trans (congrArg some (by kernel_rfl))
  f243 := Tryd.func52.trans (congrArg some (by kernel_rfl))
  f244 := Tryd.func59.trans (congrArg some (by kernel_rfl))
  f245 := Tryd.func60.trans (congrArg some (by kernel_rfl))
  f246 := Tryd.func65.trans (congrArg some (by kernel_rfl))
  f247 := Tryd.func70.trans (congrArg some (by kernel_rfl))
  f279 := Tryd.func71.trans (congrArg some (by kernel_rfl))
  f280 := Tryd.func72.trans (congrArg some (by kernel_rfl))
  f281 := Tryd.func73.trans (congrArg some (by kernel_rfl))
  f282 := Tryd.func74.trans (congrArg some (by kernel_rfl))
  f283 := Tryd.func75.trans (congrArg some (by kernel_rfl))
  f284 := Tryd.func76.trans (congrArg some (by kernel_rfl))
  f285 := Tryd.func77.trans (congrArg some (by kernel_rfl))
  f286 := Tryd.func78.trans (congrArg some (by kernel_rfl))
  f287 := Tryd.func88.trans (congrArg some (by kernel_rfl))
  f316 := Tryd.func89.trans (congrArg some (by kernel_rfl))
  f317 := Tryd.func91.trans (congrArg some (by kernel_rfl))
  f318 := Tryd.func93.trans (congrArg some (by kernel_rfl))
  f319 := Tryd.func94.trans (congrArg some (by kernel_rfl))
  f320 := Tryd.func95.trans (congrArg some (by kernel_rfl))
  f321 := Tryd.func101.trans (congrArg some (by kernel_rfl))
  f322 := Tryd.func102.trans (congrArg some (by kernel_rfl))
  f337 := Tryd.func103.trans (congrArg some (by kernel_rfl))
  f338 := Tryd.func104.trans (congrArg some (by kernel_rfl))
  t0 := Tryd.underlying0
  a0 := Tryd.isAgg0
  z0 := Tryd.sizeOf0
  v0 := Tryd.zeroValue0
  t2 := Tryd.underlying2
  a2 := Tryd.isAgg2
  z2 := Tryd.sizeOf2
  v2 := Tryd.zeroValue2
  t3 := Tryd.underlying3
  a3 := Tryd.isAgg3
  z3 := Tryd.sizeOf3
  v3 := Tryd.zeroValue3
  t4 := Tryd.underlying4
  a4 := Tryd.isAgg4
  z4 := Tryd.sizeOf4
  v4 := Tryd.zeroValue4
  t5 := Tryd.underlying5
  a5 := Tryd.isAgg5
  z5 := Tryd.sizeOf5
  v5 := Tryd.zeroValue5
  t9 := Tryd.underlying9
  a9 := Tryd.isAgg9
  z9 := Tryd.sizeOf9
  v9 := Tryd.zeroValue9
  t20 := Tryd.underlying20
  a20 := Tryd.isAgg20
  z20 := Tryd.sizeOf20
  v20 := Tryd.zeroValue20
  t21 := Tryd.underlying21
  a21 := Tryd.isAgg21
  z21 := Tryd.sizeOf21
  v21 := Tryd.zeroValue21
  t37 := Tryd.underlying82
  a37 := Tryd.isAgg82
  z37 := Tryd.sizeOf82
  v37 := Tryd.zeroValue82
  t46 := Tryd.underlying75
  a46 := Tryd.isAgg75
  z46 := Tryd.sizeOf75
  v46 := Tryd.zeroValue75
  t51 := Tryd.underlying123
  a51 := Tryd.isAgg123
  z51 := Tryd.sizeOf123
  v51 := Tryd.zeroValue123
  t53 := Tryd.underlying102
  a53 := Tryd.isAgg102
  z53 := Tryd.sizeOf102
  v53 := Tryd.zeroValue102
  t75 := Tryd.underlying29
  a75 := Tryd.isAgg29
  z75 := Tryd.sizeOf29
  v75 := Tryd.zeroValue29
  t76 := Tryd.underlying71
  a76 := Tryd.isAgg71
  z76 := Tryd.sizeOf71
  v76 := Tryd.zeroValue71
  t85 := Tryd.underlying96
  a85 := Tryd.isAgg96
  z85 := Tryd.sizeOf96
  v85 := Tryd.zeroValue96
  t127 := Tryd.underlying131
  a127 := Tryd.isAgg131
  z127 := Tryd.sizeOf131
  v127 := Tryd.zeroValue131
  t143 := Tryd.underlying132
  a143 := Tryd.isAgg132
  z143 := Tryd.sizeOf132
  v143 := Tryd.zeroValue132
  t145 := Tryd.underlying134
  a145 := Tryd.isAgg134
  z145 := Tryd.sizeOf134
  v145 := Tryd.zeroValue134
  t167 := Tryd.underlying95
  a167 := Tryd.isAgg95
  z167 := Tryd.sizeOf95
  v167 := Tryd.zeroValue95
  t168 := Tryd.underlying98
  a168 := Tryd.isAgg98
  z168 := Tryd.sizeOf98
  v168 := Tryd.zeroValue98
  t171 := Tryd.underlying101
  a171 := Tryd.isAgg101
  z171 := Tryd.sizeOf101
  v171 := Tryd.zeroValue101
  t173 := Tryd.underlying105
  a173 := Tryd.isAgg105
  z173 := Tryd.sizeOf105
  v173 := Tryd.zeroValue105
  t175 := Tryd.underlying115
  a175 := Tryd.isAgg115
  z175 := Tryd.sizeOf115
  v175 := Tryd.zeroValue115
  t210 := Tryd.underlying119
  a210 := Tryd.isAgg119
  z210 := Tryd.sizeOf119
  v210 := Tryd.zeroValue119
  t212 := Tryd.underlying122
  a212 := Tryd.isAgg122
  z212 := Tryd.sizeOf122
  v212 := Tryd.zeroValue122
  t213 := Tryd.underlying124
  a213 := Tryd.isAgg124
  z213 := Tryd.sizeOf124
  t232 := Tryd.underlying137
  a232 := Tryd.isAgg137
  z232 := Tryd.sizeOf137
  v232 := Tryd.zeroValue137
  t233 := Tryd.underlying138
  a233 := Tryd.isAgg138
  z233 := Tryd.sizeOf138
  v233 := Tryd.zeroValue138
  g15 := by kernel_rfl
  g16 := by kernel_rfl
  g17 := by kernel_rfl
  g18 := by kernel_rfl
  g19 := by kernel_rfl
  t80 := Tryd.underlying139
  a80 := Tryd.isAgg139
  z80 := Tryd.sizeOf139
  v80 := Tryd.zeroValue139
  i0 := by kernel_rfl
  i2 := by kernel_rfl
  i3 := by kernel_rfl
  i4 := by kernel_rfl
  i5 := by kernel_rfl
  i9 := by kernel_rfl
  i20 := by kernel_rfl
  i21 := by kernel_rfl
  i37 := by kernel_rfl
  i46 := by kernel_rfl
  i51 := by kernel_rfl
  i53 := by kernel_rfl
  i75 := by kernel_rfl
  i76 := by kernel_rfl
  i80 := by kernel_rfl
  i85 := by kernel_rfl
  i127 := by kernel_rfl
  i143 := by kernel_rfl
  i145 := by kernel_rfl
  i167 := by kernel_rfl
  i168 := by kernel_rfl
  i171 := by kernel_rfl
  i173 := by kernel_rfl
  i175 := by kernel_rfl
  i210 := by kernel_rfl
  i212 := by kernel_rfl
  i232 := by kernel_rfl
  i233 := by kernel_rfl
  m15 := by kernel_rfl
  m16 := by kernel_rfl
  m17 := by kernel_rfl
  m18 := by kernel_rfl
  m19 := by kernel_rfl
  c0 := by kernel_rfl
  c2 := by kernel_rfl
  c3 := by kernel_rfl
  c4 := by kernel_rfl
  c5 := by kernel_rfl
  c9 := by kernel_rfl
  c20 := by kernel_rfl
  c21 := by kernel_rfl
  c37 := by kernel_rfl
  c46 := by kernel_rfl
  c51 := by kernel_rfl
  c53 := by kernel_rfl
  c75 := by kernel_rfl
  c76 := by kernel_rfl
  c80 := by kernel_rfl
  c85 := by kernel_rfl
  c127 := by kernel_rfl
  c143 := by kernel_rfl
  c145 := by kernel_rfl
  c167 := by kernel_rfl
  c168 := by kernel_rfl
  c171 := by kernel_rfl
  c173 := by kernel_rfl
  c175 := by kernel_rfl
  c210 := by kernel_rfl
  c212 := by kernel_rfl
  c213 := by kernel_rfl
  c232 := by kernel_rfl
  c233 := by kernel_rfl }
open Go.RowKit in
theorem sh_strconv_Atoi_ok (s : ByteArray) (hmax : s.size ≤ 9223372036854775806) (v : Int) (h : Lib.atoiAll s.data.toList = .ok v) (w : World) :
    Calls Tryd.prog 35 #[.string s] w fun e w' => e = .returned (.tuple #[.int .i64 v, .nilIface]) ∧ (w' = w ∨ ∃ t, w' = Lib.bytesWorld w 5 t) := Any.strconv_Atoi_ok sh_laysC172 s hmax v h w
open Go.RowKit in
theorem sh_strconv_Atoi_syntax_var (s : ByteArray) (hlim : s.size ≤ 281474976710656) (h : Lib.atoiAll s.data.toList = Lib.NumEnd.syntax) (tp : TypeId) (p : Value) (w : World) (hvar : w.var? Tryd.prog "strconv.ErrSyntax" = some #[.iface tp p]) :
    Calls Tryd.prog 35 #[.string s] w fun e w' => ∃ N, e = .returned (.tuple #[.int .i64 0, .iface 98 (.pointer (some ⟨N, 0, none⟩))]) ∧ w.heap.size ≤ N ∧ w'.heap[N]? = some (.cells #[.string ⟨#[65, 116, 111, 105]⟩, .string s, .iface tp p] 119 (0, 0)) ∧ Below w.heap.size w w' := Any.strconv_Atoi_syntax_var sh_laysC172 s hlim h tp p w hvar
open Go.RowKit in
theorem sh_strconv_Atoi_range_var (s : ByteArray) (hlim : s.size ≤ 281474976710656) (h : Lib.atoiAll s.data.toList = .range) (tp : TypeId) (p : Value) (w : World) (hvar : w.var? Tryd.prog "strconv.ErrRange" = some #[.iface tp p]) :
    Calls Tryd.prog 35 #[.string s] w fun e w' => ∃ N, e = .returned (.tuple #[.int .i64 (Lib.atoiSat s.data.toList), .iface 98 (.pointer (some ⟨N, 0, none⟩))]) ∧ w.heap.size ≤ N ∧ w'.heap[N]? = some (.cells #[.string ⟨#[65, 116, 111, 105]⟩, .string s, .iface tp p] 119 (0, 0)) ∧ Below w.heap.size w w' := Any.strconv_Atoi_range_var sh_laysC172 s hlim h tp p w hvar
end Go.Proofs.YtigdoooikfgdfaaDoor
end

section
namespace Go.Proofs.YtigdoooikfgdfaaDoor
open Go.RowKit
set_option linter.unusedVariables false
set_option linter.unusedSimpArgs false

/-- a name's figures: what stands behind the first '-' -/
def figS (l : List UInt8) : List UInt8 := (l.dropWhile (· != 45)).drop 1
/-- a number's name -/
def wordN (k : Nat) : List Nat := if 112 ≤ k then [116, 111, 107, 101, 110] else match (cardP k).head? with
  | some (.int 0) => [115, 111, 117, 114, 99, 101]
  | some (.int 1) => [98, 101, 97, 115, 116]
  | some (.int 2) => [109, 97, 103, 105, 99]
  | _ => [114, 101, 108, 105, 99]
def decN (k : Nat) : List Nat := if k < 10 then [48 + k] else if k < 100 then [48 + k / 10, 48 + k % 10] else [48 + k / 100, 48 + k / 10 % 10, 48 + k % 10]
def nmN (k : Nat) : List Nat := wordN k ++ (45 :: decN k)
noncomputable def nchk (k : Nat) : Bool := (match tName_g [.int k] with
  | some [.str l] => decide (l = nmN k)
  | _ => false) && (match rName8_g [.int k] with
  | some [.str l] => decide (l = nmN k)
  | _ => false)
theorem nchk_0 : (List.range' 0 30).all nchk = true := by kernel_rfl
theorem nchk_1 : (List.range' 30 30).all nchk = true := by kernel_rfl
theorem nchk_2 : (List.range' 60 30).all nchk = true := by kernel_rfl
theorem nchk_3 : (List.range' 90 30).all nchk = true := by kernel_rfl
theorem nm_at {k : Nat} (h : k < 120) : tName_g [.int k] = some [.str (nmN k)] ∧ rName8_g [.int k] = some [.str (nmN k)] := by
  have h1 : nchk k = true := by
    by_cases a : k < 30
    · exact List.all_eq_true.1 nchk_0 k (by simp [List.mem_range']; omega)
    by_cases b : k < 60
    · exact List.all_eq_true.1 nchk_1 k (by simp only [List.mem_range']; exact ⟨k - 30, by omega, by omega⟩)
    by_cases c : k < 90
    · exact List.all_eq_true.1 nchk_2 k (by simp only [List.mem_range']; exact ⟨k - 60, by omega, by omega⟩)
    · exact List.all_eq_true.1 nchk_3 k (by simp only [List.mem_range']; exact ⟨k - 90, by omega, by omega⟩)
  unfold nchk at h1
  generalize tName_g [.int (k : Int)] = x at *
  generalize rName8_g [.int (k : Int)] = y at *
  rw [Bool.and_eq_true] at h1
  obtain ⟨h1, h2⟩ := h1
  split at h1
  · split at h2
    · rw [of_decide_eq_true h1, of_decide_eq_true h2]; exact ⟨rfl, rfl⟩
    · cases h2
  · cases h1
end Go.Proofs.YtigdoooikfgdfaaDoor
end

section
namespace Go.Proofs.YtigdoooikfgdfaaDoor
open Go.RowKit
set_option linter.unusedVariables false
set_option linter.unusedSimpArgs false

/-- .. in bytes -/
def lnm (k : Nat) : List UInt8 := (nmN k).map UInt8.ofNat
def lchkN (k : Nat) : Bool := decide ((lnm k).map UInt8.toNat = nmN k) && (match Lib.atoiAll (figS (lnm k)) with
    | .ok v => decide (v = (k : Int))
    | _ => false)
theorem lchkN_all : (List.range 120).all lchkN = true := by decide +kernel
theorem ln_at {k : Nat} (h : k < 120) : (lnm k).map UInt8.toNat = nmN k ∧ Lib.atoiAll (figS (lnm k)) = .ok (k : Int) := by
  have h1 : lchkN k = true := List.all_eq_true.1 lchkN_all k (List.mem_range.2 h)
  unfold lchkN at h1
  rw [Bool.and_eq_true] at h1
  obtain ⟨h1, h2⟩ := h1
  refine ⟨of_decide_eq_true h1, ?_⟩
  split at h2
  · rename_i v hv
    rw [hv, of_decide_eq_true h2]
  · cases h2
theorem lnm_ne (k : Nat) : lnm k ≠ [] := by
  unfold lnm nmN
  intro h
  rw [List.map_eq_nil_iff, List.append_eq_nil_iff] at h
  cases h.2
theorem lnm_inj {i k : Nat} (hi : i < 120) (hk : k < 120) (h : lnm i = lnm k) : i = k := by
  have h1 := (ln_at hi).2
  have h2 := (ln_at hk).2
  rw [h, h2] at h1
  injection h1 with h1
  omega
theorem dropW_idx : ∀ (l : List UInt8), (Lib.indexByte l 45 = -1 → figS l = []) ∧ (Lib.indexByte l 45 ≠ -1 → 0 ≤ Lib.indexByte l 45 ∧ (Lib.indexByte l 45).toNat < l.length ∧ figS l = l.drop ((Lib.indexByte l 45).toNat + 1))
  | [] => ⟨fun _ => rfl, fun h => absurd rfl h⟩
  | b :: l => by
    obtain ⟨i1, i2⟩ := dropW_idx l
    by_cases hb : b = 45
    · subst hb
      have e : Lib.indexByte (45 :: l) 45 = 0 := rfl
      rw [e]
      refine ⟨fun h => absurd h (by decide), fun _ => ⟨by decide, by simp, ?_⟩⟩
      rw [figS, List.dropWhile_cons_of_neg (by decide)]; rfl
    · have ef : figS (b :: l) = figS l := by
        rw [figS, List.dropWhile_cons_of_pos (by simpa using hb)]; rfl
      have e : Lib.indexByte (b :: l) 45 = if Lib.indexByte l 45 == -1 then -1 else Lib.indexByte l 45 + 1 := by
        rw [Lib.indexByte, if_neg (by simpa using hb)]
      rw [e, ef]
      by_cases hn : Lib.indexByte l 45 = -1
      · rw [if_pos (by rw [hn]; rfl)]
        exact ⟨fun _ => i1 hn, fun h => absurd rfl h⟩
      · obtain ⟨j1, j2, j3⟩ := i2 hn
        rw [if_neg (by simpa using hn)]
        refine ⟨fun h => absurd h (by omega), fun _ => ⟨by omega, ?_, ?_⟩⟩
        · rw [List.length_cons]; omega
        · rw [j3, show (Lib.indexByte l 45 + 1).toNat = (Lib.indexByte l 45).toNat + 1 by omega]; rfl
def k_sIdx : Nat := 69
def sg_sIdx : Sig := ⟨[(false, [.str]), (false, [.str])], [(false, [.int .i64])], false, false, false, false, false⟩
noncomputable def tr_sIdx : Tree := walk E0.cx (sgsN []) 0 69 sg_sIdx
theorem wk_sIdx : walk E0.cx (sgsN []) 0 69 sg_sIdx = tr_sIdx := rfl
theorem bo_sIdx : ∃ x, bodyOf E0.P 69 = some x := bo_of (by kernel_rfl)
def sIdx_s : Spec := fun ds Q => strD (ds.getD 1 (.bool false)) = ⟨#[45]⟩ ∧ Q [.int .i64 (Lib.indexByte (strD (ds.getD 0 (.bool false))).data.toList 45)]
theorem sIdx_h : Holds E0 k_sIdx sg_sIdx sIdx_s := fun w ds Q h1 h2 h3 h4 ⟨he, hQ⟩ => by
  rcases h1 with _ | ⟨h0, h1⟩
  rcases h1 with _ | ⟨h5, h1⟩
  rcases h1 with _ | _
  cases h0 with
  | str s =>
  cases h5 with
  | str c =>
  have he : c = ⟨#[45]⟩ := he
  subst he
  refine (sh_stringslite_Index_one s 45 w).mono fun e w' ⟨he, hw⟩ => ?_
  subst hw
  exact ⟨_, hQ, .cons (.int _ _) .nil, Below.refl _ _, fun d hd => by rw [List.mem_singleton.1 hd]; exact .int _ _, fun k ⟨d, hd, hk⟩ => (by rw [List.mem_singleton.1 hd] at hk; cases hk), by rw [if_neg (by decide), he]; rfl⟩
noncomputable def con_sIdx : Con E0 := ⟨k_sIdx, sg_sIdx, sIdx_s, rfl, bo_sIdx, sIdx_h⟩
def k_sCut : Nat := 34
def sg_sCut : Sig := ⟨[(false, [.str]), (false, [.str])], [(false, [.str]), (false, [.str]), (false, [.bool])], false, false, false, false, false⟩
def tr_sCut : Tree := (.call k_sIdx [(.var 0), (.var 1)] [(.int .i64)]
(.ite (.cmp .ge (.var 2) (.int .i64 0))
 (.ob (.cmp .le (.var 2) (.slen (.var 0)))
 (.ob (.cmp .ge (.ar .add .i64 (.var 2) (.slen (.var 1))) (.int .i64 0))
 (.ob (.cmp .le (.ar .add .i64 (.var 2) (.slen (.var 1))) (.slen (.var 0)))
 (.ret [(.scut (.var 0) (.int .i64 0) (.var 2)), (.scut (.var 0) (.ar .add .i64 (.var 2) (.slen (.var 1))) (.slen (.var 0))), (.bool true)]))))
 (.ret [(.var 0), (.str []), (.bool false)])))
theorem wk_sCut : walk E0.cx (sgsN [(69, sg_sIdx)]) 0 34 sg_sCut = tr_sCut := by kernel_rfl
theorem bo_sCut : ∃ x, bodyOf E0.P 34 = some x := bo_of (by kernel_rfl)
theorem sp_sCut_sIdx : specC [con_sIdx] k_sIdx = sIdx_s := rfl
def sCut_s : Spec := fun ds Q => strD (ds.getD 1 (.bool false)) = ⟨#[45]⟩ ∧ (strD (ds.getD 0 (.bool false))).size ≤ 1000 ∧ ∀ d (b : Bool), Q [d, .val (.string ⟨(figS (strD (ds.getD 0 (.bool false))).data.toList).toArray⟩), .bool b]
theorem ba_from (s : ByteArray) (k : Nat) (h : k ≤ s.size) : s.extract k s.size = ⟨(s.data.toList.drop k).toArray⟩ := by
  apply ByteArray.ext
  rw [ByteArray.data_extract]
  apply Array.ext'
  rw [Array.toList_extract, List.extract_eq_take_drop]
  have : s.data.toList.length = s.size := Array.length_toList
  rw [List.take_of_length_le (by rw [List.length_drop]; omega)]
theorem sCut_h : Holds E0 k_sCut sg_sCut sCut_s := con_fn wf0 mix0 g0 [con_sIdx] rfl wk_sCut rfl (by
  intro Φ hΦ ds Q hs ⟨he, hn, h⟩
  have hl : ds.length = 2 := hs.length.symm
  have sp : Φ k_sIdx = sIdx_s := by rw [hΦ]; rfl
  clear hΦ
  match ds, hl with
  | [d0, d1], _ =>
  have he : strD d1 = ⟨#[45]⟩ := he
  have hn : (strD d0).size ≤ 1000 := hn
  have h : ∀ d (b : Bool), Q [d, .val (.string ⟨(figS (strD d0).data.toList).toArray⟩), .bool b] := h
  obtain ⟨g1, g2⟩ := dropW_idx (strD d0).data.toList
  have hsz : (strD d0).data.toList.length = (strD d0).size := Array.length_toList
  unfold tr_sCut
  simp only [wp, sp, sIdx_s]
  refine ⟨he, ?_⟩
  show (Dat.bool (decide (Lib.indexByte (strD d0).data.toList 45 ≥ 0)) = .bool true → Dat.bool (decide (Lib.indexByte (strD d0).data.toList 45 ≤ ((strD d0).size : Int))) = .bool true ∧
      Dat.bool (decide (IntKind.i64.wrap (Lib.indexByte (strD d0).data.toList 45 + ((strD d1).size : Int)) ≥ 0)) = .bool true ∧
      Dat.bool (decide (IntKind.i64.wrap (Lib.indexByte (strD d0).data.toList 45 + ((strD d1).size : Int)) ≤ ((strD d0).size : Int))) = .bool true ∧
      Q [.val (.string ((strD d0).extract (0 : Int).toNat (Lib.indexByte (strD d0).data.toList 45).toNat)), .val (.string ((strD d0).extract (IntKind.i64.wrap (Lib.indexByte (strD d0).data.toList 45 + ((strD d1).size : Int))).toNat ((strD d0).size : Int).toNat)), .bool true]) ∧
    (Dat.bool (decide (Lib.indexByte (strD d0).data.toList 45 ≥ 0)) = .bool false → Q [d0, .val (strB []), .bool false])
  have es : ((strD d1).size : Int) = 1 := by rw [he]; rfl
  rw [es]
  simp only [Dat.bool.injEq, decide_eq_true_eq, decide_eq_false_iff_not]
  refine ⟨fun hp => ?_, fun hp => ?_⟩
  · obtain ⟨j1, j2, j3⟩ := g2 (by omega)
    rw [wrap64 (by omega) (by omega)]
    refine ⟨by omega, by omega, by omega, ?_⟩
    have e1 : (Lib.indexByte (strD d0).data.toList 45 + 1).toNat = (Lib.indexByte (strD d0).data.toList 45).toNat + 1 := by omega
    rw [Int.toNat_natCast, e1, ba_from _ _ (by omega), ← j3]
    exact h _ true
  · have := g1 (by have := (g2 · |>.1); by_cases e : Lib.indexByte (strD d0).data.toList 45 = -1; exact e; have := (g2 e).1; omega)
    rw [this] at h
    exact h _ false)
noncomputable def con_sCut : Con E0 := ⟨k_sCut, sg_sCut, sCut_s, rfl, bo_sCut, sCut_h⟩
end Go.Proofs.YtigdoooikfgdfaaDoor
end

section
namespace Go.Proofs.YtigdoooikfgdfaaDoor.nm
open Go.RowKit
set_option linter.unusedVariables false
set_option linter.unusedSimpArgs false

noncomputable def E0 : Env := { Go.Proofs.YtigdoooikfgdfaaDoor.E0 with gx := [1, 2] }
theorem g0 : E0.γ = [] := rfl
theorem wf0 : E0.Wf := wf_lit (by kernel_rfl)
theorem mix0 : E0.P.follows .mixedOrders = true := by kernel_rfl
/-- what holds with less known -/
theorem up {f : FuncId} {sg : Sig} {Φ : Spec} (h : Holds Go.Proofs.YtigdoooikfgdfaaDoor.E0 f sg Φ) : Holds E0 f sg Φ := fun w ds Q a b c d e => h w ds Q a b c ⟨d.1, fun g hg => by cases hg⟩ e
noncomputable def upC (c : Con Go.Proofs.YtigdoooikfgdfaaDoor.E0) : Con E0 := ⟨c.f, c.sg, c.Φ, c.ok, c.bo, up c.holds⟩
theorem globs_up {w : World} (h : E0.globs w) : Go.Proofs.YtigdoooikfgdfaaDoor.E0.globs w := ⟨h.1, fun g hg => by cases hg⟩
theorem globs_below {w w' : World} (h : E0.globs w) (hb : Below w.heap.size w w') : E0.globs w' := h.block fun k hk _ => hb.block k hk
theorem err_var {w : World} (hG : E0.globs w) {n : String} {g : Nat} (hn : Tryd.prog.globalNamed n = some g) (hm : g ∈ E0.gx) : ∃ t p, w.var? Tryd.prog n = some #[.iface t p] := by
  obtain ⟨T, t, p, h⟩ := hG.err g hm
  refine ⟨t, p, ?_⟩
  unfold World.var?
  rw [hn, Option.bind_some, h]
/-- the library's number of a text -/
theorem atoi_w (s : ByteArray) (hs : s.size ≤ 300) (w : World) (hG : E0.globs w) : Calls Tryd.prog 35 #[.string s] w fun e w' =>
    (∃ (v : Int) (er : Value), e = .returned (.tuple #[.int .i64 v, er]) ∧ ((er = .nilIface ∧ Lib.atoiAll s.data.toList = .ok v) ∨ ((∃ t p, er = .iface t p) ∧ ∀ v, Lib.atoiAll s.data.toList ≠ .ok v))) ∧ Below w.heap.size w w' := by
  match h : Lib.atoiAll s.data.toList with
  | Lib.NumEnd.ok v =>
    refine (sh_strconv_Atoi_ok s (by omega) v h w).mono fun e w' ⟨he, hw⟩ => ⟨⟨v, _, he, .inl ⟨rfl, rfl⟩⟩, ?_⟩
    rcases hw with rfl | ⟨t, rfl⟩
    · exact Below.refl _ _
    · exact Lib.bytesWorld_below _ _ _
  | Lib.NumEnd.syntax =>
    obtain ⟨t, p, hv⟩ := err_var hG (n := "strconv.ErrSyntax") (g := 1) (by kernel_rfl) (by show _ ∈ [_, _]; simp)
    exact (sh_strconv_Atoi_syntax_var s (by omega) h t p w hv).mono fun e w' ⟨N, he, _, _, hb⟩ => ⟨⟨_, _, he, .inr ⟨⟨_, _, rfl⟩, fun v e => by cases e⟩⟩, hb⟩
  | Lib.NumEnd.range =>
    obtain ⟨t, p, hv⟩ := err_var hG (n := "strconv.ErrRange") (g := 2) (by kernel_rfl) (by show _ ∈ [_, _]; simp)
    exact (sh_strconv_Atoi_range_var s (by omega) h t p w hv).mono fun e w' ⟨N, he, _, _, hb⟩ => ⟨⟨_, _, he, .inr ⟨⟨_, _, rfl⟩, fun v e => by cases e⟩⟩, hb⟩
theorem cut_w (s : ByteArray) (hs : s.size ≤ 100) (w : World) (hG : E0.globs w) : Calls Tryd.prog 34 #[.string s, .string ⟨#[45]⟩] w fun e w' => (∃ b f, e = .returned (.tuple #[b, .string ⟨(figS s.data.toList).toArray⟩, .bool f])) ∧ Below w.heap.size w w' := by
  refine (sCut_h w [.val (.string s), .val (.string ⟨#[45]⟩)] (fun rs => ∃ d b, rs = [d, .val (.string ⟨(figS s.data.toList).toArray⟩), .bool b]) (.cons (.str _) (.cons (.str _) .nil)) (fun d hd => ?_) (fun d hd => by cases hd) (globs_up hG) ⟨rfl, by show s.size ≤ _; omega, fun d b => ⟨d, b, rfl⟩⟩).mono ?_
  · simp only [List.mem_cons, List.not_mem_nil, or_false] at hd
    rcases hd with rfl | rfl <;> exact .val _
  · rintro e w' ⟨rs, ⟨d, b, rfl⟩, _, hb, _, _, he⟩
    rw [if_neg (by decide)] at he
    exact ⟨⟨_, _, he⟩, hb⟩
def nameB (n : Int) : List UInt8 := if 0 ≤ n ∧ n < 120 then lnm n.toNat else []
theorem u8_inj {a b : List UInt8} (h : a.map UInt8.toNat = b.map UInt8.toNat) : a = b := by
  have := congrArg (List.map UInt8.ofNat) h
  rw [List.map_map, List.map_map, show UInt8.ofNat ∘ UInt8.toNat = id from funext fun x => UInt8.ofNat_toNat, List.map_id, List.map_id] at this
  exact this
theorem name_w (n : Int) (w : World) (hG : E0.globs w) : Calls Tryd.prog 10 #[.int .i64 n] w fun e w' => e = .returned (.string ⟨(nameB n).toArray⟩) ∧ Below w.heap.size w w' := by
  have hg : tName_g [.int n] = some [.str ((nameB n).map UInt8.toNat)] := by
    unfold nameB
    by_cases h : 0 ≤ n ∧ n < 120
    · rw [if_pos h]
      obtain ⟨k, rfl⟩ := Int.eq_ofNat_of_zero_le h.1
      have hk : k < 120 := by omega
      rw [Int.toNat_natCast, (ln_at hk).1]
      exact (nm_at hk).1
    · rw [if_neg h]; exact tName_out (by omega)
  refine (tName_h w [.int .i64 n] (fun rs => rs.map strip = [.str ((nameB n).map UInt8.toNat)]) (.cons (.int _ _) .nil) (fun d hd => by rw [List.mem_singleton.1 hd]; exact .int _ _) (fun d hd => by cases hd) (globs_up hG) ⟨_, by rw [List.map_cons, strip_int]; exact hg, fun rs h => h⟩).mono ?_
  rintro e w' ⟨rs, hq, hs, hb, _, _, he⟩
  refine ⟨?_, hb⟩
  rw [if_neg (by decide)] at he
  rcases hs with _ | ⟨h0, h1⟩
  rcases h1 with _ | _
  cases h0 with
  | str s =>
  rw [List.map_cons, strip_val] at hq
  have hq : (s.data.toList.map UInt8.toNat) = (nameB n).map UInt8.toNat := by
    injection hq with hq _
    injection hq
  rw [he, ← u8_inj hq]; rfl
theorem fin_no {l : List UInt8} {v : Int} (hv : Lib.atoiAll (figS l) = .ok v) (h : nameB v ≠ l) : ∀ k : Nat, k < 120 → l ≠ lnm k := fun k hk e => by
  have h2 := (ln_at hk).2
  rw [← e, hv] at h2
  injection h2 with h2
  subst h2
  apply h
  unfold nameB
  rw [if_pos (by omega), Int.toNat_natCast]
  exact e.symm
theorem fin_yes {l : List UInt8} {v : Int} (hl : l ≠ []) (h : nameB v = l) : ∃ k : Nat, k < 120 ∧ v = (k : Int) ∧ l = lnm k := by
  unfold nameB at h
  by_cases h0 : 0 ≤ v ∧ v < 120
  · rw [if_pos h0] at h
    exact ⟨v.toNat, by omega, by omega, h.symm⟩
  · rw [if_neg h0] at h
    exact absurd h.symm hl
theorem number_w (s : ByteArray) (hs : s.size ≤ 100) (w : World) (hG : E0.globs w) : Calls Tryd.prog 13 #[.string s] w fun e w' =>
    (∃ (n : Int) (b : Bool), e = .returned (.tuple #[.int .i64 n, .bool b]) ∧ ((b = true ∧ ∃ k : Nat, k < 120 ∧ n = (k : Int) ∧ s.data.toList = lnm k) ∨ (b = false ∧ n = 0 ∧ ∀ k : Nat, k < 120 → s.data.toList ≠ lnm k))) ∧ Below w.heap.size w w' := by
  have hfl : (figS s.data.toList).length ≤ 100 := by
    have hsz : s.data.toList.length = s.size := Array.length_toList
    unfold figS
    rw [List.length_drop]
    have := (List.dropWhile_sublist (· != (45 : UInt8)) (l := s.data.toList)).length_le
    omega
  have HC := fun W hg => cut_w s hs W hg
  have HA := fun W hg => atoi_w ⟨(figS s.data.toList).toArray⟩ (by show (figS s.data.toList).toArray.size ≤ _; rw [List.size_toArray]; omega) W hg
  have HN := fun n W hg => name_w n W hg
  go_enter Tryd.func13, Tryd.ntmps13
  go_wp2_with (first
    | (go_at_call 34; refine (HC _ hG).mono ?_; rintro e W1 ⟨⟨b, f, rfl⟩, hb1⟩; have hG1 := globs_below hG hb1))
  refine (HA _ hG1).mono ?_
  rintro e W2 ⟨⟨v, er, rfl, hv⟩, hb2⟩
  have HB : Below w.heap.size w W2 := hb1.trans (hb2.mono hb1.size)
  have hG2 := globs_below hG1 hb2
  clear hb1 hb2 hG1 HC HA
  rcases hv with ⟨rfl, hv⟩ | ⟨⟨t, p, rfl⟩, hv⟩
  · go_wp2_with (first
      | (go_at_call 10; refine (HN _ _ hG2).mono ?_; rintro e W3 ⟨rfl, hb3⟩))
    · rename_i h1
      go_ret2
      rw [ba_toList] at h1
      rw [h1] at hv
      cases hv
    · rename_i h1 h2
      go_ret2
      refine ⟨⟨_, _, rfl, .inr ⟨rfl, rfl, ?_⟩⟩, HB.trans (hb3.mono HB.size)⟩
      refine fin_no hv fun e => ?_
      rw [ba_toList] at h1 h2
      rcases h2 with h2 | h2
      · exact h1 (List.isEmpty_iff.1 h2)
      · rw [e] at h2; simp at h2
    · rename_i h1 h2
      go_ret2
      rw [ba_toList] at h1 h2
      have h3 : nameB v = s.data.toList := by simpa using h2.2
      exact ⟨⟨_, _, rfl, .inl ⟨rfl, fin_yes h1 h3⟩⟩, HB.trans (hb3.mono HB.size)⟩
  · go_wp2
    all_goals (go_ret2; exact ⟨⟨_, _, rfl, .inr ⟨rfl, rfl, fun k hk e => hv k (by rw [e]; exact (ln_at hk).2)⟩⟩, HB⟩)
def k_tNumber : Nat := 13
def sg_tNumber : Sig := ⟨[(false, [.str])], [(false, [.int .i64]), (false, [.bool])], false, false, false, false, false⟩
noncomputable def tr_tNumber : Tree := walk E0.cx (sgsN []) 0 13 sg_tNumber
theorem wk_tNumber : walk E0.cx (sgsN []) 0 13 sg_tNumber = tr_tNumber := rfl
theorem bo_tNumber : ∃ x, bodyOf E0.P 13 = some x := bo_of (by kernel_rfl)
def tNumber_s : Spec := fun ds Q => (strD (ds.getD 0 (.bool false))).size ≤ 100 ∧ ∀ (n : Int) (b : Bool), ((b = true ∧ ∃ k : Nat, k < 120 ∧ n = (k : Int) ∧ (strD (ds.getD 0 (.bool false))).data.toList = lnm k) ∨ (b = false ∧ n = 0 ∧ ∀ k : Nat, k < 120 → (strD (ds.getD 0 (.bool false))).data.toList ≠ lnm k)) → Q [.int .i64 n, .bool b]
theorem tNumber_h : Holds E0 k_tNumber sg_tNumber tNumber_s := fun w ds Q h1 h2 h3 h4 ⟨hn, hQ⟩ => by
  rcases h1 with _ | ⟨h0, h1⟩
  rcases h1 with _ | _
  cases h0 with
  | str s =>
  refine (number_w s hn w h4).mono ?_
  rintro e w' ⟨⟨n, b, he, hr⟩, hb⟩
  exact ⟨_, hQ n b hr, .cons (.int _ _) (.cons (.bool _) .nil), hb, fun d hd => by
    simp only [List.mem_cons, List.not_mem_nil, or_false] at hd
    rcases hd with rfl | rfl
    · exact .int _ _
    · exact .bool _, fun k ⟨d, hd, hk⟩ => (by
    simp only [List.mem_cons, List.not_mem_nil, or_false] at hd
    rcases hd with rfl | rfl <;> cases hk), by rw [if_neg (by decide), he]; rfl⟩
noncomputable def con_tNumber : Con E0 := ⟨k_tNumber, sg_tNumber, tNumber_s, rfl, bo_tNumber, tNumber_h⟩
end Go.Proofs.YtigdoooikfgdfaaDoor.nm
end

section
namespace Go.Proofs.YtigdoooikfgdfaaDoor.nm
open Go.RowKit
set_option linter.unusedVariables false
set_option linter.unusedSimpArgs false

noncomputable def con_alive08 : Con E0 := upC Go.Proofs.YtigdoooikfgdfaaDoor.con_alive08
noncomputable def con_rName8 : Con E0 := upC Go.Proofs.YtigdoooikfgdfaaDoor.con_rName8
theorem str_bytes {d : Dat} {l : List Nat} {m : List UInt8} (h : strip d = .str l) (hm : m.map UInt8.toNat = l) : (strD d).data.toList = m := by
  have := str_strip h rfl
  rw [← hm] at this
  exact u8_inj this
def k_ltnames : Nat := 4
def sg_ltnames : Sig := ⟨[(false, [.str])], [(false, [.bool])], false, false, true, false, false⟩
def tr_ltnames : Tree := (.call k_alive08 [] [.bool]
(.ite (.not (.var 1))
 (.ret [(.bool false)])
 (.ite (.cmp .gt (.slen (.var 0)) (.int .i64 100))
  (.ret [(.bool true)])
  (.call k_tNumber [(.var 0)] [(.int .i64), .bool]
  (.loop [(.int .i64 0), (.bool false), (.int .i64 0)] [(.int .i64), .bool, (.int .i64)]
   (.ite (.cmp .lt (.var 6) (.int .i64 120))
    (.call k_rName8 [(.var 6)] [.str]
    (.again 0 [(.ite (.seq (.var 7) (.var 0)) (.var 6) (.var 4)), (.or (.seq (.var 7) (.var 0)) (.var 5)), (.ar .add .i64 (.var 6) (.int .i64 1))]))
    (.ret [(.and (.cmp .eq (.var 2) (.var 4)) (.beq (.var 3) (.var 5)))])))))))
theorem wk_ltnames : walk E0.cx (sgsN [(5, sg_alive08), (13, sg_tNumber), (11, sg_rName8)]) 0 4 sg_ltnames = tr_ltnames := by kernel_rfl
theorem bo_ltnames : ∃ x, bodyOf E0.P 4 = some x := bo_of (by kernel_rfl)
theorem sp_ltnames_alive08 : specC [con_alive08, con_tNumber, con_rName8] k_alive08 = alive08_s := rfl
theorem sp_ltnames_tNumber : specC [con_alive08, con_tNumber, con_rName8] k_tNumber = tNumber_s := rfl
theorem sp_ltnames_rName8 : specC [con_alive08, con_tNumber, con_rName8] k_rName8 = rName8_s := rfl
theorem ltnames_h : Holds E0 k_ltnames sg_ltnames true_s := con_fn wf0 mix0 g0 [con_alive08, con_tNumber, con_rName8] rfl wk_ltnames rfl (by
  intro Φ hΦ ds Q hs h
  have hl : ds.length = 1 := hs.length.symm
  have s1 : Φ k_alive08 = psp alive08_g := by rw [hΦ]; rfl
  have s2 : Φ k_tNumber = tNumber_s := by rw [hΦ]; rfl
  have s3 : Φ k_rName8 = psp rName8_g := by rw [hΦ]; rfl
  have h : Q [.bool true] := h
  clear hΦ
  match ds, hl with
  | [d0], _ =>
  have hH : Has E0.Δ .str d0 := by
    cases hs with
    | cons h0 _ => exact h0
  obtain ⟨s, rfl⟩ : ∃ s, d0 = .val (.string s) := by
    cases hH with
    | str s => exact ⟨s, rfl⟩
  clear hs hl hH
  unfold tr_ltnames
  simp only [wp, s1, s2, s3]
  refine ⟨[.bool true], alive08_ok, fun r hr => ?_⟩
  obtain ⟨d, r', rfl, hd, hr'⟩ := List.map_eq_cons_iff.1 hr
  rw [List.map_eq_nil_iff] at hr'
  subst hr'
  rw [strip_isBool hd]
  clear hd hr
  refine ⟨fun hx => absurd (Dat.bool.inj (show Dat.bool false = .bool true from hx)) (by decide), fun _ => ⟨fun _ => h, fun hlen => ?_⟩⟩
  have hlen : Dat.bool (decide ((s.size : Int) > 100)) = .bool false := hlen
  simp only [Dat.bool.injEq, decide_eq_false_iff_not] at hlen
  refine ⟨by show s.size ≤ 100; omega, fun n b hnb => ?_⟩
  have hnb : (b = true ∧ ∃ k : Nat, k < 120 ∧ n = (k : Int) ∧ s.data.toList = lnm k) ∨ (b = false ∧ n = 0 ∧ ∀ k : Nat, k < 120 → s.data.toList ≠ lnm k) := hnb
  generalize hL : s.data.toList = l at *
  refine ⟨fun xs m => ∃ (want : Int) (ok : Bool) (i : Nat), xs = [.int .i64 want, .bool ok, .int .i64 i] ∧ i ≤ 120 ∧ m = 120 - i ∧ (ok = true → ∃ k : Nat, k < i ∧ want = (k : Int) ∧ l = lnm k) ∧ (ok = false → want = 0 ∧ ∀ k : Nat, k < i → l ≠ lnm k), ⟨120, 0, false, 0, rfl, by omega, rfl, (fun hx => Bool.noConfusion hx), (fun _ => ⟨rfl, fun k hk => absurd hk (Nat.not_lt_zero _)⟩)⟩, ?_⟩
  simp only [allS]
  rintro want ok i' m ⟨_, _, i, e, hi, hm, hT, hF⟩
  cases e
  refine ⟨fun hlt => ?_, fun hge => ?_⟩
  · have hlt : Dat.bool (decide ((i : Int) < 120)) = .bool true := hlt
    simp only [Dat.bool.injEq, decide_eq_true_eq] at hlt
    have hi2 : i < 120 := by omega
    refine ⟨[.str (nmN i)], ?_, fun r hr => ?_⟩
    · show rName8_g [strip (Dat.int .i64 (i : Int))] = _
      rw [strip_int]; exact (nm_at hi2).2
    obtain ⟨d, r', rfl, hd, hr'⟩ := List.map_eq_cons_iff.1 hr
    rw [List.map_eq_nil_iff] at hr'
    subst hr'
    have hb := str_bytes hd (ln_at hi2).1
    have es : ((strD d).toList == s.toList) = decide (lnm i = l) := by
      rw [ba_toList, ba_toList, hb, hL, Bool.eq_iff_iff, beq_iff_eq, decide_eq_true_eq]
    refine ⟨120 - (i + 1), by show 120 - (i + 1) < m; omega, if lnm i = l then (i : Int) else want, decide (lnm i = l) || ok, i + 1, ?_, by omega, rfl, ?_, ?_⟩
    · show [if ((strD d).toList == s.toList) = true then Dat.int .i64 (i : Int) else Dat.int .i64 want, Dat.bool (((strD d).toList == s.toList) || ok), Dat.int .i64 (IntKind.i64.wrap ((i : Int) + 1))] = _
      rw [es, wrap64 (by omega) (by omega)]
      by_cases hq : lnm i = l
      · simp [hq]
      · simp [hq]
    · intro hx
      by_cases hq : lnm i = l
      · rw [if_pos hq]; exact ⟨i, by omega, rfl, hq.symm⟩
      · rw [if_neg hq]
        obtain ⟨k, k1, k2, k3⟩ := hT (by simpa [hq] using hx)
        exact ⟨k, by omega, k2, k3⟩
    · intro hx
      rw [Bool.or_eq_false_iff, decide_eq_false_iff_not] at hx
      obtain ⟨f1, f2⟩ := hF hx.2
      rw [if_neg hx.1]
      refine ⟨f1, fun k hk => ?_⟩
      rcases Nat.lt_succ_iff_lt_or_eq.1 hk with hk | rfl
      · exact f2 k hk
      · exact fun e => hx.1 e.symm
  · have hge : Dat.bool (decide ((i : Int) < 120)) = .bool false := hge
    simp only [Dat.bool.injEq, decide_eq_false_iff_not] at hge
    obtain rfl : i = 120 := by omega
    show Q [Dat.bool ((n == want) && (b == ok))]
    have e : ((n == want) && (b == ok)) = true := by
      rw [Bool.and_eq_true, beq_iff_eq, beq_iff_eq]
      cases ok with
      | true =>
        obtain ⟨k, k1, k2, k3⟩ := hT rfl
        rcases hnb with ⟨rfl, j, j1, j2, j3⟩ | ⟨_, _, j3⟩
        · have := lnm_inj k1 j1 (k3.symm.trans j3)
          exact ⟨by omega, rfl⟩
        · exact absurd k3 (j3 k k1)
      | false =>
        obtain ⟨f1, f2⟩ := hF rfl
        rcases hnb with ⟨rfl, j, j1, j2, j3⟩ | ⟨rfl, j2, j3⟩
        · exact absurd j3 (f2 j j1)
        · exact ⟨by omega, rfl⟩
    rw [e]; exact h)
end Go.Proofs.YtigdoooikfgdfaaDoor.nm
end
