/-
  What the seat's types say, as closed facts (written by ygen.py off the translation).
-/
import Derived.Test.YteoomeajampfcaaYy
import Derived.Test.YteoomeajampfcaaRows
namespace Go.Proofs.Yteoomeajampfcaa
open Go.Y
theorem ty_arrOf_23 : Y.arrOf Try.prog 23 = none := by kernel_rfl
theorem ty_arrOf_25 : Y.arrOf Try.prog 25 = some (2, (false, 1)) := by kernel_rfl
theorem ty_arrOf_3 : Y.arrOf Try.prog 3 = none := by kernel_rfl
theorem ty_arrOf_31 : Y.arrOf Try.prog 31 = none := by kernel_rfl
theorem ty_arrOf_37 : Y.arrOf Try.prog 37 = some (4, (true, 4)) := by kernel_rfl
theorem ty_arrOf_41 : Y.arrOf Try.prog 41 = some (2, (true, 4)) := by kernel_rfl
theorem ty_arrOf_44 : Y.arrOf Try.prog 44 = none := by kernel_rfl
theorem ty_arrOf_46 : Y.arrOf Try.prog 46 = none := by kernel_rfl
theorem ty_arrOf_5 : Y.arrOf Try.prog 5 = none := by kernel_rfl
theorem ty_bytesE_31 : Y.bytesE Try.prog 31 = some 4 := by kernel_rfl
theorem ty_eqTy_23 (x0 : Int) (x1 : Int) (x2 : Int) (x3 : Int) (y0 : Int) (y1 : Int) (y2 : Int) (y3 : Int) : Y.eqAgg Try.prog 23 [.int .u8 x0, .int .u8 x1, .int .u8 x2, .int .u8 x3] [.int .u8 y0, .int .u8 y1, .int .u8 y2, .int .u8 y3] = some ((x0 == y0) && ((x1 == y1) && ((x2 == y2) && ((x3 == y3) && true)))) := by kernel_rfl
theorem ty_fldOf_23_0 : Y.fldOf Try.prog 23 0 = some (0, (false, 1)) := by kernel_rfl
theorem ty_fldOf_23_1 : Y.fldOf Try.prog 23 1 = some (1, (false, 1)) := by kernel_rfl
theorem ty_fldOf_23_2 : Y.fldOf Try.prog 23 2 = some (2, (false, 1)) := by kernel_rfl
theorem ty_fldOf_23_3 : Y.fldOf Try.prog 23 3 = some (3, (false, 1)) := by kernel_rfl
theorem ty_hasTy_24 : Y.hasTy Try.prog 24 = true := by kernel_rfl
theorem ty_hasTy_3 : Y.hasTy Try.prog 3 = true := by kernel_rfl
theorem ty_hasTy_5 : Y.hasTy Try.prog 5 = true := by kernel_rfl
theorem ty_intOf_3 : Y.intOf Try.prog 3 = some .i64 := by kernel_rfl
theorem ty_intOf_5 : Y.intOf Try.prog 5 = some .u8 := by kernel_rfl
theorem ty_isBoolTy_4 : Y.isBoolTy Try.prog 4 = true := by kernel_rfl
theorem ty_lay_23 : Y.lay Try.prog 23 = some (true, 4) := by kernel_rfl
theorem ty_lay_24 : Y.lay Try.prog 24 = some (false, 1) := by kernel_rfl
theorem ty_lay_3 : Y.lay Try.prog 3 = some (false, 1) := by kernel_rfl
theorem ty_lay_37 : Y.lay Try.prog 37 = some (true, 16) := by kernel_rfl
theorem ty_lay_44 : Y.lay Try.prog 44 = some (false, 1) := by kernel_rfl
theorem ty_lay_5 : Y.lay Try.prog 5 = some (false, 1) := by kernel_rfl
theorem ty_notInt_23 : Y.notInt Try.prog 23 = true := by kernel_rfl
theorem ty_notInt_31 : Y.notInt Try.prog 31 = true := by kernel_rfl
theorem ty_notInt_37 : Y.notInt Try.prog 37 = true := by kernel_rfl
theorem ty_notInt_44 : Y.notInt Try.prog 44 = true := by kernel_rfl
theorem ty_notInt_46 : Y.notInt Try.prog 46 = true := by kernel_rfl
theorem ty_placesOf_23 : Y.placesOf Try.prog 23 = some [(0, 1), (1, 1), (2, 1), (3, 1)] := by kernel_rfl
theorem ty_placesOf_37 : Y.placesOf Try.prog 37 = some [(0, 4), (4, 4), (8, 4), (12, 4)] := by kernel_rfl
theorem ty_slcOf_23 : Y.slcOf Try.prog 23 = none := by kernel_rfl
theorem ty_slcOf_25 : Y.slcOf Try.prog 25 = none := by kernel_rfl
theorem ty_slcOf_3 : Y.slcOf Try.prog 3 = none := by kernel_rfl
theorem ty_slcOf_31 : Y.slcOf Try.prog 31 = some (true, 4) := by kernel_rfl
theorem ty_slcOf_37 : Y.slcOf Try.prog 37 = none := by kernel_rfl
theorem ty_slcOf_41 : Y.slcOf Try.prog 41 = none := by kernel_rfl
theorem ty_slcOf_44 : Y.slcOf Try.prog 44 = none := by kernel_rfl
theorem ty_slcOf_46 : Y.slcOf Try.prog 46 = none := by kernel_rfl
theorem ty_slcOf_5 : Y.slcOf Try.prog 5 = none := by kernel_rfl
theorem ty_zeroA_23 : Y.zeroA Try.prog 23 = some (.agg [.int .u8 0, .int .u8 0, .int .u8 0, .int .u8 0]) := by kernel_rfl
theorem ty_zeroA_3 : Y.zeroA Try.prog 3 = some (.int .i64 0) := by kernel_rfl
theorem ty_zeroA_37 : Y.zeroA Try.prog 37 = some (.rows 4 [.agg [.int .u8 0, .int .u8 0, .int .u8 0, .int .u8 0], .agg [.int .u8 0, .int .u8 0, .int .u8 0, .int .u8 0], .agg [.int .u8 0, .int .u8 0, .int .u8 0, .int .u8 0], .agg [.int .u8 0, .int .u8 0, .int .u8 0, .int .u8 0]]) := by kernel_rfl
theorem ty_zeroE_31 : Y.zeroE Try.prog 31 = some (.agg [.int .u8 0, .int .u8 0, .int .u8 0, .int .u8 0]) := by kernel_rfl
end Go.Proofs.Yteoomeajampfcaa
