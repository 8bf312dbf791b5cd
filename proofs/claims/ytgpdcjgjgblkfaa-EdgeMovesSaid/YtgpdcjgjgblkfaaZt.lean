/-
  What the seat's types say, as closed facts (written by gen.py off the translation).
-/
import Derived.Test.YtgpdcjgjgblkfaaZs
import Derived.Test.YtgpdcjgjgblkfaaRows
namespace Go.Proofs.Ytgpdcjgjgblkfaa
open Go.Z
theorem ty_arrOf_22 : Z.arrOf Try.prog 22 = some (4, (false, 1)) := by kernel_rfl
theorem ty_arrOf_24 : Z.arrOf Try.prog 24 = none := by kernel_rfl
theorem ty_arrOf_29 : Z.arrOf Try.prog 29 = some (3, (true, 7)) := by kernel_rfl
theorem ty_arrOf_3 : Z.arrOf Try.prog 3 = none := by kernel_rfl
theorem ty_fldOf_24_0 : Z.fldOf Try.prog 24 0 = some (0, (false, 1)) := by kernel_rfl
theorem ty_fldOf_24_1 : Z.fldOf Try.prog 24 1 = some (1, (false, 1)) := by kernel_rfl
theorem ty_fldOf_24_2 : Z.fldOf Try.prog 24 2 = some (2, (false, 1)) := by kernel_rfl
theorem ty_fldOf_24_3 : Z.fldOf Try.prog 24 3 = some (3, (true, 4)) := by kernel_rfl
theorem ty_hasTy_25 : Z.hasTy Try.prog 25 = true := by kernel_rfl
theorem ty_intOf_3 : Z.intOf Try.prog 3 = some .i64 := by kernel_rfl
theorem ty_isBoolTy_29 : Z.isBoolTy Try.prog 29 = false := by kernel_rfl
theorem ty_isBoolTy_3 : Z.isBoolTy Try.prog 3 = false := by kernel_rfl
theorem ty_isBoolTy_4 : Z.isBoolTy Try.prog 4 = true := by kernel_rfl
theorem ty_lay_24 : Z.lay Try.prog 24 = some (true, 7) := by kernel_rfl
theorem ty_lay_29 : Z.lay Try.prog 29 = some (true, 21) := by kernel_rfl
theorem ty_lay_3 : Z.lay Try.prog 3 = some (false, 1) := by kernel_rfl
theorem ty_placesOf_24 : Z.placesOf Try.prog 24 = some [(0, 1), (1, 1), (2, 1), (3, 4)] := by kernel_rfl
theorem ty_placesOf_29 : Z.placesOf Try.prog 29 = some [(0, 7), (7, 7), (14, 7)] := by kernel_rfl
theorem ty_slcOf_22 : Z.slcOf Try.prog 22 = none := by kernel_rfl
theorem ty_slcOf_24 : Z.slcOf Try.prog 24 = none := by kernel_rfl
theorem ty_slcOf_25 : Z.slcOf Try.prog 25 = none := by kernel_rfl
theorem ty_slcOf_29 : Z.slcOf Try.prog 29 = none := by kernel_rfl
theorem ty_slcOf_3 : Z.slcOf Try.prog 3 = none := by kernel_rfl
theorem ty_zeroOf_24 : Z.zeroOf Try.prog 24 = some [.int .i64 0, .int .i64 0, .int .i64 0, .int .i64 0, .int .i64 0, .int .i64 0, .int .i64 0] := by kernel_rfl
theorem ty_zeroOf_29 : Z.zeroOf Try.prog 29 = some [.int .i64 0, .int .i64 0, .int .i64 0, .int .i64 0, .int .i64 0, .int .i64 0, .int .i64 0, .int .i64 0, .int .i64 0, .int .i64 0, .int .i64 0, .int .i64 0, .int .i64 0, .int .i64 0, .int .i64 0, .int .i64 0, .int .i64 0, .int .i64 0, .int .i64 0, .int .i64 0, .int .i64 0] := by kernel_rfl
end Go.Proofs.Ytgpdcjgjgblkfaa
