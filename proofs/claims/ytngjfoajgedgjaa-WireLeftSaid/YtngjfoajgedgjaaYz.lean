/-
  What the seat's types say, as closed facts (written by ygen.py off the translation).
-/
import Derived.Test.YtngjfoajgedgjaaYy
import Derived.Test.YtngjfoajgedgjaaRows
namespace Go.Proofs.Ytngjfoajgedgjaa
open Go.Y
theorem ty_arrOf_22 : Y.arrOf Try.prog 22 = none := by kernel_rfl
theorem ty_arrOf_26 : Y.arrOf Try.prog 26 = none := by kernel_rfl
theorem ty_arrOf_3 : Y.arrOf Try.prog 3 = none := by kernel_rfl
theorem ty_arrOf_37 : Y.arrOf Try.prog 37 = some (3, (false, 1)) := by kernel_rfl
theorem ty_arrOf_39 : Y.arrOf Try.prog 39 = none := by kernel_rfl
theorem ty_arrOf_4 : Y.arrOf Try.prog 4 = none := by kernel_rfl
theorem ty_arrOf_41 : Y.arrOf Try.prog 41 = none := by kernel_rfl
theorem ty_arrOf_5 : Y.arrOf Try.prog 5 = none := by kernel_rfl
theorem ty_arrOf_52 : Y.arrOf Try.prog 52 = some (2, (false, 1)) := by kernel_rfl
theorem ty_arrOf_66 : Y.arrOf Try.prog 66 = none := by kernel_rfl
theorem ty_arrOf_72 : Y.arrOf Try.prog 72 = none := by kernel_rfl
theorem ty_arrOf_9 : Y.arrOf Try.prog 9 = none := by kernel_rfl
theorem ty_bytesE_22 : Y.bytesE Try.prog 22 = some 16 := by kernel_rfl
theorem ty_bytesE_39 : Y.bytesE Try.prog 39 = some 1 := by kernel_rfl
theorem ty_bytesE_41 : Y.bytesE Try.prog 41 = some 8 := by kernel_rfl
theorem ty_fldOf_26_0 : Y.fldOf Try.prog 26 0 = some (0, (false, 1)) := by kernel_rfl
theorem ty_fldOf_26_1 : Y.fldOf Try.prog 26 1 = some (1, (false, 1)) := by kernel_rfl
theorem ty_fldOf_26_2 : Y.fldOf Try.prog 26 2 = some (2, (false, 1)) := by kernel_rfl
theorem ty_fldOf_26_3 : Y.fldOf Try.prog 26 3 = some (3, (false, 1)) := by kernel_rfl
theorem ty_fldOf_26_4 : Y.fldOf Try.prog 26 4 = some (4, (false, 1)) := by kernel_rfl
theorem ty_hasTy_21 : Y.hasTy Try.prog 21 = true := by kernel_rfl
theorem ty_hasTy_3 : Y.hasTy Try.prog 3 = true := by kernel_rfl
theorem ty_hasTy_34 : Y.hasTy Try.prog 34 = true := by kernel_rfl
theorem ty_hasTy_39 : Y.hasTy Try.prog 39 = true := by kernel_rfl
theorem ty_hasTy_5 : Y.hasTy Try.prog 5 = true := by kernel_rfl
theorem ty_hasTy_61 : Y.hasTy Try.prog 61 = true := by kernel_rfl
theorem ty_hasTy_72 : Y.hasTy Try.prog 72 = true := by kernel_rfl
theorem ty_intOf_21 : Y.intOf Try.prog 21 = some .i32 := by kernel_rfl
theorem ty_intOf_3 : Y.intOf Try.prog 3 = some .i64 := by kernel_rfl
theorem ty_intOf_5 : Y.intOf Try.prog 5 = some .u8 := by kernel_rfl
theorem ty_intOf_72 : Y.intOf Try.prog 72 = some .u64 := by kernel_rfl
theorem ty_isBoolTy_4 : Y.isBoolTy Try.prog 4 = true := by kernel_rfl
theorem ty_isByteSlc_39 : Y.isByteSlc Try.prog 39 = true := by kernel_rfl
theorem ty_isFuncTy_46 : Y.isFuncTy Try.prog 46 = true := by kernel_rfl
theorem ty_isStrTy_9 : Y.isStrTy Try.prog 9 = true := by kernel_rfl
theorem ty_lay_21 : Y.lay Try.prog 21 = some (false, 1) := by kernel_rfl
theorem ty_lay_26 : Y.lay Try.prog 26 = some (true, 5) := by kernel_rfl
theorem ty_lay_3 : Y.lay Try.prog 3 = some (false, 1) := by kernel_rfl
theorem ty_lay_39 : Y.lay Try.prog 39 = some (false, 1) := by kernel_rfl
theorem ty_lay_4 : Y.lay Try.prog 4 = some (false, 1) := by kernel_rfl
theorem ty_lay_41 : Y.lay Try.prog 41 = some (false, 1) := by kernel_rfl
theorem ty_lay_46 : Y.lay Try.prog 46 = some (false, 1) := by kernel_rfl
theorem ty_lay_5 : Y.lay Try.prog 5 = some (false, 1) := by kernel_rfl
theorem ty_notInt_22 : Y.notInt Try.prog 22 = true := by kernel_rfl
theorem ty_notInt_26 : Y.notInt Try.prog 26 = true := by kernel_rfl
theorem ty_notInt_39 : Y.notInt Try.prog 39 = true := by kernel_rfl
theorem ty_notInt_4 : Y.notInt Try.prog 4 = true := by kernel_rfl
theorem ty_notInt_41 : Y.notInt Try.prog 41 = true := by kernel_rfl
theorem ty_notInt_66 : Y.notInt Try.prog 66 = true := by kernel_rfl
theorem ty_placesOf_26 : Y.placesOf Try.prog 26 = some [(0, 1), (1, 1), (2, 1), (3, 1), (4, 1)] := by kernel_rfl
theorem ty_slcOf_22 : Y.slcOf Try.prog 22 = some (true, 5) := by kernel_rfl
theorem ty_slcOf_26 : Y.slcOf Try.prog 26 = none := by kernel_rfl
theorem ty_slcOf_3 : Y.slcOf Try.prog 3 = none := by kernel_rfl
theorem ty_slcOf_37 : Y.slcOf Try.prog 37 = none := by kernel_rfl
theorem ty_slcOf_39 : Y.slcOf Try.prog 39 = some (false, 1) := by kernel_rfl
theorem ty_slcOf_4 : Y.slcOf Try.prog 4 = none := by kernel_rfl
theorem ty_slcOf_41 : Y.slcOf Try.prog 41 = some (false, 1) := by kernel_rfl
theorem ty_slcOf_5 : Y.slcOf Try.prog 5 = none := by kernel_rfl
theorem ty_slcOf_52 : Y.slcOf Try.prog 52 = none := by kernel_rfl
theorem ty_slcOf_66 : Y.slcOf Try.prog 66 = none := by kernel_rfl
theorem ty_slcOf_72 : Y.slcOf Try.prog 72 = none := by kernel_rfl
theorem ty_slcOf_9 : Y.slcOf Try.prog 9 = none := by kernel_rfl
theorem ty_zeroA_26 : Y.zeroA Try.prog 26 = some (.agg [.int .u8 0, .int .u8 0, .int .u8 0, .int .u8 0, .int .i64 0]) := by kernel_rfl
theorem ty_zeroA_3 : Y.zeroA Try.prog 3 = some (.int .i64 0) := by kernel_rfl
theorem ty_zeroA_4 : Y.zeroA Try.prog 4 = some (.bool false) := by kernel_rfl
theorem ty_zeroA_41 : Y.zeroA Try.prog 41 = some (.nils) := by kernel_rfl
theorem ty_zeroA_46 : Y.zeroA Try.prog 46 = some (.nilf) := by kernel_rfl
theorem ty_zeroE_22 : Y.zeroE Try.prog 22 = some (.agg [.int .u8 0, .int .u8 0, .int .u8 0, .int .u8 0, .int .i64 0]) := by kernel_rfl
theorem ty_zeroE_39 : Y.zeroE Try.prog 39 = some (.int .u8 0) := by kernel_rfl
theorem ty_zeroE_41 : Y.zeroE Try.prog 41 = some (.int .i64 0) := by kernel_rfl
end Go.Proofs.Ytngjfoajgedgjaa
