/-
  Sizes and zero values of the seat's types.
-/
import Derived.Test.YtlgfnimahmmgeaaKitM
import Derived.Test.YtlgfnimahmmgeaaKitV
namespace Go.Proofs.Ytlgfnimahmmgeaa
open Go.RowKit
theorem tsz_2 : (Try.prog.info? 2).map (·.size) = some 1 := by kernel_rfl
theorem tzv_2 : (Try.prog.info? 2).map (fun i => i.zero) = some (some (.int .i64 0)) := by kernel_rfl
theorem tinfo_2 : ElemInfo Try.prog 2 1 8 := elemInfo_of (by kernel_rfl)
theorem tsz_3 : (Try.prog.info? 3).map (·.size) = some 1 := by kernel_rfl
theorem tzv_3 : (Try.prog.info? 3).map (fun i => i.zero) = some (some (.int .i64 0)) := by kernel_rfl
theorem tinfo_3 : ElemInfo Try.prog 3 1 8 := elemInfo_of (by kernel_rfl)
theorem tsz_4 : (Try.prog.info? 4).map (·.size) = some 1 := by kernel_rfl
theorem tzv_4 : (Try.prog.info? 4).map (fun i => i.zero) = some (some (.bool false)) := by kernel_rfl
theorem tinfo_4 : ElemInfo Try.prog 4 1 1 := elemInfo_of (by kernel_rfl)
theorem tsz_5 : (Try.prog.info? 5).map (·.size) = some 1 := by kernel_rfl
theorem tzv_5 : (Try.prog.info? 5).map (fun i => i.zero) = some (some (.int .u8 0)) := by kernel_rfl
theorem tinfo_5 : ElemInfo Try.prog 5 1 1 := elemInfo_of (by kernel_rfl)
theorem tsz_9 : (Try.prog.info? 9).map (·.size) = some 1 := by kernel_rfl
theorem tzv_9 : (Try.prog.info? 9).map (fun i => i.zero) = some (some (.string ⟨#[]⟩)) := by kernel_rfl
theorem tinfo_9 : ElemInfo Try.prog 9 1 16 := elemInfo_of (by kernel_rfl)
theorem tsz_12 : (Try.prog.info? 12).map (·.size) = some 1 := by kernel_rfl
theorem tzv_12 : (Try.prog.info? 12).map (fun i => i.zero) = some (some (.int .u64 0)) := by kernel_rfl
theorem tinfo_12 : ElemInfo Try.prog 12 1 8 := elemInfo_of (by kernel_rfl)
theorem tsz_13 : (Try.prog.info? 13).map (·.size) = some 2 := by kernel_rfl
theorem tzv_13 : (Try.prog.info? 13).map (fun i => i.zero) = some (some (.agg #[.string ⟨#[]⟩, .int .u64 0])) := by kernel_rfl
theorem tinfo_13 : ElemInfo Try.prog 13 2 24 := elemInfo_of (by kernel_rfl)
theorem tsz_21 : (Try.prog.info? 21).map (·.size) = some 1 := by kernel_rfl
theorem tzv_21 : (Try.prog.info? 21).map (fun i => i.zero) = some (some (.int .i32 0)) := by kernel_rfl
theorem tinfo_21 : ElemInfo Try.prog 21 1 4 := elemInfo_of (by kernel_rfl)
theorem tsz_22 : (Try.prog.info? 22).map (·.size) = some 1 := by kernel_rfl
theorem tzv_22 : (Try.prog.info? 22).map (fun i => i.zero) = some (some (.slice none 0 0)) := by kernel_rfl
theorem tinfo_22 : ElemInfo Try.prog 22 1 24 := elemInfo_of (by kernel_rfl)
theorem tsz_24 : (Try.prog.info? 24).map (·.size) = some 6 := by kernel_rfl
theorem tzv_24 : (Try.prog.info? 24).map (fun i => i.zero) = some (some (.agg (ints 6 fun _ => 0))) := by kernel_rfl
theorem tgd_24 : Try.prog.eqGuardType Try.prog.depth 24 = false := by kernel_rfl
theorem tit_24 : intsT Try.prog 5 24 6 = true := by kernel_rfl
theorem teql_24 (F G : Nat → Int) (w : World) : (binOp .eql 24 (.agg (ints 6 F)) (.agg (ints 6 G))).run Try.prog w = .ok (.bool (sameTo F G 0 6)) w := run_eql_ints tit_24 (by decide) (.inr ⟨_, Try.underlying24⟩) F G w
theorem tneq_24 (F G : Nat → Int) (w : World) : (binOp .neq 24 (.agg (ints 6 F)) (.agg (ints 6 G))).run Try.prog w = .ok (.bool (!sameTo F G 0 6)) w := run_neq_ints tit_24 (by decide) (.inr ⟨_, Try.underlying24⟩) F G w
theorem tinfo_24 : ElemInfo Try.prog 24 6 48 := elemInfo_of (by kernel_rfl)
theorem tsz_25 : (Try.prog.info? 25).map (·.size) = some 6 := by kernel_rfl
theorem tzv_25 : (Try.prog.info? 25).map (fun i => i.zero) = some (some (.agg (ints 6 fun _ => 0))) := by kernel_rfl
theorem tgd_25 : Try.prog.eqGuardType Try.prog.depth 25 = false := by kernel_rfl
theorem tit_25 : intsT Try.prog 5 25 6 = true := by kernel_rfl
theorem teql_25 (F G : Nat → Int) (w : World) : (binOp .eql 25 (.agg (ints 6 F)) (.agg (ints 6 G))).run Try.prog w = .ok (.bool (sameTo F G 0 6)) w := run_eql_ints tit_25 (by decide) (.inr ⟨_, Try.underlying25⟩) F G w
theorem tneq_25 (F G : Nat → Int) (w : World) : (binOp .neq 25 (.agg (ints 6 F)) (.agg (ints 6 G))).run Try.prog w = .ok (.bool (!sameTo F G 0 6)) w := run_neq_ints tit_25 (by decide) (.inr ⟨_, Try.underlying25⟩) F G w
theorem tinfo_25 : ElemInfo Try.prog 25 6 48 := elemInfo_of (by kernel_rfl)
theorem tsz_29 : (Try.prog.info? 29).map (·.size) = some 1 := by kernel_rfl
theorem tzv_29 : (Try.prog.info? 29).map (fun i => i.zero) = some (some (.slice none 0 0)) := by kernel_rfl
theorem tinfo_29 : ElemInfo Try.prog 29 1 24 := elemInfo_of (by kernel_rfl)
theorem tsz_30 : (Try.prog.info? 30).map (·.size) = some 1 := by kernel_rfl
theorem tzv_30 : (Try.prog.info? 30).map (fun i => i.zero) = some (some (.slice none 0 0)) := by kernel_rfl
theorem tinfo_30 : ElemInfo Try.prog 30 1 24 := elemInfo_of (by kernel_rfl)
theorem tsz_31 : (Try.prog.info? 31).map (·.size) = some 11 := by kernel_rfl
theorem tzv_31 : (Try.prog.info? 31).map (fun i => i.zero) = some (some (.agg #[.slice none 0 0, .slice none 0 0, .slice none 0 0, .slice none 0 0, .slice none 0 0, .slice none 0 0, .slice none 0 0, .slice none 0 0, .slice none 0 0, .slice none 0 0, .slice none 0 0])) := by kernel_rfl
theorem tinfo_31 : ElemInfo Try.prog 31 11 264 := elemInfo_of (by kernel_rfl)
theorem tsz_32 : (Try.prog.info? 32).map (·.size) = some 9 := by kernel_rfl
theorem tzv_32 : (Try.prog.info? 32).map (fun i => i.zero) = some (some (.agg (ints 9 fun _ => 0))) := by kernel_rfl
theorem tgd_32 : Try.prog.eqGuardType Try.prog.depth 32 = false := by kernel_rfl
theorem tit_32 : intsT Try.prog 5 32 9 = true := by kernel_rfl
theorem teql_32 (F G : Nat → Int) (w : World) : (binOp .eql 32 (.agg (ints 9 F)) (.agg (ints 9 G))).run Try.prog w = .ok (.bool (sameTo F G 0 9)) w := run_eql_ints tit_32 (by decide) (.inl ⟨_, _, Try.underlying32⟩) F G w
theorem tneq_32 (F G : Nat → Int) (w : World) : (binOp .neq 32 (.agg (ints 9 F)) (.agg (ints 9 G))).run Try.prog w = .ok (.bool (!sameTo F G 0 9)) w := run_neq_ints tit_32 (by decide) (.inl ⟨_, _, Try.underlying32⟩) F G w
theorem tinfo_32 : ElemInfo Try.prog 32 9 72 := elemInfo_of (by kernel_rfl)
theorem tsz_33 : (Try.prog.info? 33).map (·.size) = some 18 := by kernel_rfl
theorem tzv_33 : (Try.prog.info? 33).map (fun i => i.zero) = some (some (.agg (ints 18 fun _ => 0))) := by kernel_rfl
theorem tgd_33 : Try.prog.eqGuardType Try.prog.depth 33 = false := by kernel_rfl
theorem tit_33 : intsT Try.prog 5 33 18 = true := by kernel_rfl
theorem teql_33 (F G : Nat → Int) (w : World) : (binOp .eql 33 (.agg (ints 18 F)) (.agg (ints 18 G))).run Try.prog w = .ok (.bool (sameTo F G 0 18)) w := run_eql_ints tit_33 (by decide) (.inl ⟨_, _, Try.underlying33⟩) F G w
theorem tneq_33 (F G : Nat → Int) (w : World) : (binOp .neq 33 (.agg (ints 18 F)) (.agg (ints 18 G))).run Try.prog w = .ok (.bool (!sameTo F G 0 18)) w := run_neq_ints tit_33 (by decide) (.inl ⟨_, _, Try.underlying33⟩) F G w
theorem tinfo_33 : ElemInfo Try.prog 33 18 144 := elemInfo_of (by kernel_rfl)
theorem tsz_34 : (Try.prog.info? 34).map (·.size) = some 7 := by kernel_rfl
theorem tzv_34 : (Try.prog.info? 34).map (fun i => i.zero) = some (some (.agg (ints 7 fun _ => 0))) := by kernel_rfl
theorem tgd_34 : Try.prog.eqGuardType Try.prog.depth 34 = false := by kernel_rfl
theorem tit_34 : intsT Try.prog 5 34 7 = true := by kernel_rfl
theorem teql_34 (F G : Nat → Int) (w : World) : (binOp .eql 34 (.agg (ints 7 F)) (.agg (ints 7 G))).run Try.prog w = .ok (.bool (sameTo F G 0 7)) w := run_eql_ints tit_34 (by decide) (.inl ⟨_, _, Try.underlying34⟩) F G w
theorem tneq_34 (F G : Nat → Int) (w : World) : (binOp .neq 34 (.agg (ints 7 F)) (.agg (ints 7 G))).run Try.prog w = .ok (.bool (!sameTo F G 0 7)) w := run_neq_ints tit_34 (by decide) (.inl ⟨_, _, Try.underlying34⟩) F G w
theorem tinfo_34 : ElemInfo Try.prog 34 7 56 := elemInfo_of (by kernel_rfl)
theorem tsz_35 : (Try.prog.info? 35).map (·.size) = some 37 := by kernel_rfl
theorem tzv_35 : (Try.prog.info? 35).map (fun i => i.zero) = some (some (.agg #[.slice none 0 0, .slice none 0 0, .slice none 0 0, .slice none 0 0, .slice none 0 0, .slice none 0 0, .slice none 0 0, .slice none 0 0, .slice none 0 0, .slice none 0 0, .slice none 0 0, .slice none 0 0, .int .i64 0, .int .i64 0, .int .i64 0, .int .i64 0, .int .i64 0, .int .i64 0, .int .i64 0, .int .i64 0, .int .i64 0, .int .i64 0, .int .i64 0, .int .i64 0, .int .i64 0, .int .i64 0, .int .i64 0, .int .i64 0, .int .i64 0, .int .i64 0, .int .i64 0, .int .i64 0, .int .i64 0, .int .i64 0, .int .i64 0, .int .i64 0, .int .i64 0])) := by kernel_rfl
theorem tinfo_35 : ElemInfo Try.prog 35 37 488 := elemInfo_of (by kernel_rfl)
theorem tsz_36 : (Try.prog.info? 36).map (·.size) = some 37 := by kernel_rfl
theorem tzv_36 : (Try.prog.info? 36).map (fun i => i.zero) = some (some (.agg #[.slice none 0 0, .slice none 0 0, .slice none 0 0, .slice none 0 0, .slice none 0 0, .slice none 0 0, .slice none 0 0, .slice none 0 0, .slice none 0 0, .slice none 0 0, .slice none 0 0, .slice none 0 0, .int .i64 0, .int .i64 0, .int .i64 0, .int .i64 0, .int .i64 0, .int .i64 0, .int .i64 0, .int .i64 0, .int .i64 0, .int .i64 0, .int .i64 0, .int .i64 0, .int .i64 0, .int .i64 0, .int .i64 0, .int .i64 0, .int .i64 0, .int .i64 0, .int .i64 0, .int .i64 0, .int .i64 0, .int .i64 0, .int .i64 0, .int .i64 0, .int .i64 0])) := by kernel_rfl
theorem tinfo_36 : ElemInfo Try.prog 36 37 488 := elemInfo_of (by kernel_rfl)
theorem tsz_38 : (Try.prog.info? 38).map (·.size) = some 18 := by kernel_rfl
theorem tzv_38 : (Try.prog.info? 38).map (fun i => i.zero) = some (some (.agg (ints 18 fun _ => 0))) := by kernel_rfl
theorem tgd_38 : Try.prog.eqGuardType Try.prog.depth 38 = false := by kernel_rfl
theorem tit_38 : intsT Try.prog 5 38 18 = true := by kernel_rfl
theorem teql_38 (F G : Nat → Int) (w : World) : (binOp .eql 38 (.agg (ints 18 F)) (.agg (ints 18 G))).run Try.prog w = .ok (.bool (sameTo F G 0 18)) w := run_eql_ints tit_38 (by decide) (.inl ⟨_, _, Try.underlying38⟩) F G w
theorem tneq_38 (F G : Nat → Int) (w : World) : (binOp .neq 38 (.agg (ints 18 F)) (.agg (ints 18 G))).run Try.prog w = .ok (.bool (!sameTo F G 0 18)) w := run_neq_ints tit_38 (by decide) (.inl ⟨_, _, Try.underlying38⟩) F G w
theorem tinfo_38 : ElemInfo Try.prog 38 18 144 := elemInfo_of (by kernel_rfl)
theorem tsz_39 : (Try.prog.info? 39).map (·.size) = some 18 := by kernel_rfl
theorem tzv_39 : (Try.prog.info? 39).map (fun i => i.zero) = some (some (.agg (ints 18 fun _ => 0))) := by kernel_rfl
theorem tgd_39 : Try.prog.eqGuardType Try.prog.depth 39 = false := by kernel_rfl
theorem tit_39 : intsT Try.prog 5 39 18 = true := by kernel_rfl
theorem teql_39 (F G : Nat → Int) (w : World) : (binOp .eql 39 (.agg (ints 18 F)) (.agg (ints 18 G))).run Try.prog w = .ok (.bool (sameTo F G 0 18)) w := run_eql_ints tit_39 (by decide) (.inl ⟨_, _, Try.underlying39⟩) F G w
theorem tneq_39 (F G : Nat → Int) (w : World) : (binOp .neq 39 (.agg (ints 18 F)) (.agg (ints 18 G))).run Try.prog w = .ok (.bool (!sameTo F G 0 18)) w := run_neq_ints tit_39 (by decide) (.inl ⟨_, _, Try.underlying39⟩) F G w
theorem tinfo_39 : ElemInfo Try.prog 39 18 144 := elemInfo_of (by kernel_rfl)
theorem tsz_51 : (Try.prog.info? 51).map (·.size) = some 1 := by kernel_rfl
theorem tzv_51 : (Try.prog.info? 51).map (fun i => i.zero) = some (some (.int .u64 0)) := by kernel_rfl
theorem tinfo_51 : ElemInfo Try.prog 51 1 8 := elemInfo_of (by kernel_rfl)
theorem tsz_54 : (Try.prog.info? 54).map (·.size) = some 1 := by kernel_rfl
theorem tzv_54 : (Try.prog.info? 54).map (fun i => i.zero) = some (some (.int .u64 0)) := by kernel_rfl
theorem tinfo_54 : ElemInfo Try.prog 54 1 8 := elemInfo_of (by kernel_rfl)
theorem tsz_64 : (Try.prog.info? 64).map (·.size) = some 1 := by kernel_rfl
theorem tzv_64 : (Try.prog.info? 64).map (fun i => i.zero) = some (some (.int .u32 0)) := by kernel_rfl
theorem tinfo_64 : ElemInfo Try.prog 64 1 4 := elemInfo_of (by kernel_rfl)
end Go.Proofs.Ytlgfnimahmmgeaa
