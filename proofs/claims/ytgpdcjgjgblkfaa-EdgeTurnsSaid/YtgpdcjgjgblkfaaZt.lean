/-
  What the seat's types say, as closed facts (written by gen.py off the translation).
-/
import Derived.Test.YtgpdcjgjgblkfaaZs
import Derived.Test.YtgpdcjgjgblkfaaRows
namespace Go.Proofs.Ytgpdcjgjgblkfaa
open Go.Z
theorem ty_arrOf_22 : Z.arrOf Try.prog 22 = some (4, (false, 1)) := by kernel_rfl
theorem ty_arrOf_24 : Z.arrOf Try.prog 24 = none := by kernel_rfl
theorem ty_arrOf_29 : Z.arrOf Try.prog 29 = some (3, (true, 7)) := by kernel_rfl
theorem ty_arrOf_3 : Z.arrOf Try.prog 3 = none := by kernel_rfl
theorem ty_eqTy_29 (x0 : Int) (x1 : Int) (x2 : Int) (x3 : Int) (x4 : Int) (x5 : Int) (x6 : Int) (x7 : Int) (x8 : Int) (x9 : Int) (x10 : Int) (x11 : Int) (x12 : Int) (x13 : Int) (x14 : Int) (x15 : Int) (x16 : Int) (x17 : Int) (x18 : Int) (x19 : Int) (x20 : Int) (y0 : Int) (y1 : Int) (y2 : Int) (y3 : Int) (y4 : Int) (y5 : Int) (y6 : Int) (y7 : Int) (y8 : Int) (y9 : Int) (y10 : Int) (y11 : Int) (y12 : Int) (y13 : Int) (y14 : Int) (y15 : Int) (y16 : Int) (y17 : Int) (y18 : Int) (y19 : Int) (y20 : Int) : Z.eqAgg Try.prog 29 [.int .i64 x0, .int .i64 x1, .int .i64 x2, .int .i64 x3, .int .i64 x4, .int .i64 x5, .int .i64 x6, .int .i64 x7, .int .i64 x8, .int .i64 x9, .int .i64 x10, .int .i64 x11, .int .i64 x12, .int .i64 x13, .int .i64 x14, .int .i64 x15, .int .i64 x16, .int .i64 x17, .int .i64 x18, .int .i64 x19, .int .i64 x20] [.int .i64 y0, .int .i64 y1, .int .i64 y2, .int .i64 y3, .int .i64 y4, .int .i64 y5, .int .i64 y6, .int .i64 y7, .int .i64 y8, .int .i64 y9, .int .i64 y10, .int .i64 y11, .int .i64 y12, .int .i64 y13, .int .i64 y14, .int .i64 y15, .int .i64 y16, .int .i64 y17, .int .i64 y18, .int .i64 y19, .int .i64 y20] = some (((x0 == y0) && ((x1 == y1) && ((x2 == y2) && (((x3 == y3) && ((x4 == y4) && ((x5 == y5) && ((x6 == y6) && true)))) && true)))) && (((x7 == y7) && ((x8 == y8) && ((x9 == y9) && (((x10 == y10) && ((x11 == y11) && ((x12 == y12) && ((x13 == y13) && true)))) && true)))) && (((x14 == y14) && ((x15 == y15) && ((x16 == y16) && (((x17 == y17) && ((x18 == y18) && ((x19 == y19) && ((x20 == y20) && true)))) && true)))) && true))) := by kernel_rfl
theorem ty_fldOf_24_0 : Z.fldOf Try.prog 24 0 = some (0, (false, 1)) := by kernel_rfl
theorem ty_fldOf_24_1 : Z.fldOf Try.prog 24 1 = some (1, (false, 1)) := by kernel_rfl
theorem ty_fldOf_24_2 : Z.fldOf Try.prog 24 2 = some (2, (false, 1)) := by kernel_rfl
theorem ty_fldOf_24_3 : Z.fldOf Try.prog 24 3 = some (3, (true, 4)) := by kernel_rfl
theorem ty_hasTy_25 : Z.hasTy Try.prog 25 = true := by kernel_rfl
theorem ty_intOf_3 : Z.intOf Try.prog 3 = some .i64 := by kernel_rfl
theorem ty_isBoolTy_29 : Z.isBoolTy Try.prog 29 = false := by kernel_rfl
theorem ty_isBoolTy_3 : Z.isBoolTy Try.prog 3 = false := by kernel_rfl
theorem ty_isBoolTy_4 : Z.isBoolTy Try.prog 4 = true := by kernel_rfl
theorem ty_lay_24 : Z.lay Try.prog 24 = some (true, 7) := by kernel_rfl
theorem ty_lay_29 : Z.lay Try.prog 29 = some (true, 21) := by kernel_rfl
theorem ty_lay_3 : Z.lay Try.prog 3 = some (false, 1) := by kernel_rfl
theorem ty_placesOf_24 : Z.placesOf Try.prog 24 = some [(0, 1), (1, 1), (2, 1), (3, 4)] := by kernel_rfl
theorem ty_placesOf_29 : Z.placesOf Try.prog 29 = some [(0, 7), (7, 7), (14, 7)] := by kernel_rfl
theorem ty_slcOf_22 : Z.slcOf Try.prog 22 = none := by kernel_rfl
theorem ty_slcOf_24 : Z.slcOf Try.prog 24 = none := by kernel_rfl
theorem ty_slcOf_25 : Z.slcOf Try.prog 25 = none := by kernel_rfl
theorem ty_slcOf_29 : Z.slcOf Try.prog 29 = none := by kernel_rfl
theorem ty_slcOf_3 : Z.slcOf Try.prog 3 = none := by kernel_rfl
theorem ty_zeroOf_24 : Z.zeroOf Try.prog 24 = some [.int .i64 0, .int .i64 0, .int .i64 0, .int .i64 0, .int .i64 0, .int .i64 0, .int .i64 0] := by kernel_rfl
theorem ty_zeroOf_29 : Z.zeroOf Try.prog 29 = some [.int .i64 0, .int .i64 0, .int .i64 0, .int .i64 0, .int .i64 0, .int .i64 0, .int .i64 0, .int .i64 0, .int .i64 0, .int .i64 0, .int .i64 0, .int .i64 0, .int .i64 0, .int .i64 0, .int .i64 0, .int .i64 0, .int .i64 0, .int .i64 0, .int .i64 0, .int .i64 0, .int .i64 0] := by kernel_rfl
end Go.Proofs.Ytgpdcjgjgblkfaa
