/-
  What the seat's types say, as closed facts (written by ygen.py off the translation).
-/
import Derived.Test.YtcgnnkbdbidpkaaYy
import Derived.Test.YtcgnnkbdbidpkaaRows
namespace Go.Proofs.Ytcgnnkbdbidpkaa
open Go.Y
theorem ty_arrOf_23 : Y.arrOf Try.prog 23 = none := by kernel_rfl
theorem ty_arrOf_24 : Y.arrOf Try.prog 24 = none := by kernel_rfl
theorem ty_arrOf_3 : Y.arrOf Try.prog 3 = none := by kernel_rfl
theorem ty_arrOf_31 : Y.arrOf Try.prog 31 = some (4, (true, 4)) := by kernel_rfl
theorem ty_arrOf_37 : Y.arrOf Try.prog 37 = some (2, (true, 4)) := by kernel_rfl
theorem ty_arrOf_42 : Y.arrOf Try.prog 42 = none := by kernel_rfl
theorem ty_arrOf_43 : Y.arrOf Try.prog 43 = some (4, (true, 9)) := by kernel_rfl
theorem ty_arrOf_44 : Y.arrOf Try.prog 44 = none := by kernel_rfl
theorem ty_arrOf_5 : Y.arrOf Try.prog 5 = none := by kernel_rfl
theorem ty_arrOf_50 : Y.arrOf Try.prog 50 = none := by kernel_rfl
theorem ty_arrOf_53 : Y.arrOf Try.prog 53 = some (2, (true, 11)) := by kernel_rfl
theorem ty_arrOf_58 : Y.arrOf Try.prog 58 = none := by kernel_rfl
theorem ty_arrOf_59 : Y.arrOf Try.prog 59 = none := by kernel_rfl
theorem ty_arrOf_9 : Y.arrOf Try.prog 9 = none := by kernel_rfl
theorem ty_bytesE_24 : Y.bytesE Try.prog 24 = some 4 := by kernel_rfl
theorem ty_bytesE_44 : Y.bytesE Try.prog 44 = some 64 := by kernel_rfl
theorem ty_eqTy_23 (x0 : Int) (x1 : Int) (x2 : Int) (x3 : Int) (y0 : Int) (y1 : Int) (y2 : Int) (y3 : Int) : Y.eqAgg Try.prog 23 [.int .u8 x0, .int .u8 x1, .int .u8 x2, .int .u8 x3] [.int .u8 y0, .int .u8 y1, .int .u8 y2, .int .u8 y3] = some ((x0 == y0) && ((x1 == y1) && ((x2 == y2) && ((x3 == y3) && true)))) := by kernel_rfl
theorem ty_eqTy_31 (x0 : Int) (x1 : Int) (x2 : Int) (x3 : Int) (x4 : Int) (x5 : Int) (x6 : Int) (x7 : Int) (x8 : Int) (x9 : Int) (x10 : Int) (x11 : Int) (x12 : Int) (x13 : Int) (x14 : Int) (x15 : Int) (y0 : Int) (y1 : Int) (y2 : Int) (y3 : Int) (y4 : Int) (y5 : Int) (y6 : Int) (y7 : Int) (y8 : Int) (y9 : Int) (y10 : Int) (y11 : Int) (y12 : Int) (y13 : Int) (y14 : Int) (y15 : Int) : Y.eqAgg Try.prog 31 [.int .u8 x0, .int .u8 x1, .int .u8 x2, .int .u8 x3, .int .u8 x4, .int .u8 x5, .int .u8 x6, .int .u8 x7, .int .u8 x8, .int .u8 x9, .int .u8 x10, .int .u8 x11, .int .u8 x12, .int .u8 x13, .int .u8 x14, .int .u8 x15] [.int .u8 y0, .int .u8 y1, .int .u8 y2, .int .u8 y3, .int .u8 y4, .int .u8 y5, .int .u8 y6, .int .u8 y7, .int .u8 y8, .int .u8 y9, .int .u8 y10, .int .u8 y11, .int .u8 y12, .int .u8 y13, .int .u8 y14, .int .u8 y15] = some (((x0 == y0) && ((x1 == y1) && ((x2 == y2) && ((x3 == y3) && true)))) && (((x4 == y4) && ((x5 == y5) && ((x6 == y6) && ((x7 == y7) && true)))) && (((x8 == y8) && ((x9 == y9) && ((x10 == y10) && ((x11 == y11) && true)))) && (((x12 == y12) && ((x13 == y13) && ((x14 == y14) && ((x15 == y15) && true)))) && true)))) := by kernel_rfl
theorem ty_fldOf_23_0 : Y.fldOf Try.prog 23 0 = some (0, (false, 1)) := by kernel_rfl
theorem ty_fldOf_23_1 : Y.fldOf Try.prog 23 1 = some (1, (false, 1)) := by kernel_rfl
theorem ty_fldOf_23_2 : Y.fldOf Try.prog 23 2 = some (2, (false, 1)) := by kernel_rfl
theorem ty_fldOf_23_3 : Y.fldOf Try.prog 23 3 = some (3, (false, 1)) := by kernel_rfl
theorem ty_fldOf_42_0 : Y.fldOf Try.prog 42 0 = some (0, (false, 1)) := by kernel_rfl
theorem ty_fldOf_42_2 : Y.fldOf Try.prog 42 2 = some (5, (true, 4)) := by kernel_rfl
theorem ty_fldOf_50_2 : Y.fldOf Try.prog 50 2 = some (2, (false, 1)) := by kernel_rfl
theorem ty_fldOf_50_4 : Y.fldOf Try.prog 50 4 = some (7, (true, 4)) := by kernel_rfl
theorem ty_hasTy_3 : Y.hasTy Try.prog 3 = true := by kernel_rfl
theorem ty_hasTy_5 : Y.hasTy Try.prog 5 = true := by kernel_rfl
theorem ty_intOf_3 : Y.intOf Try.prog 3 = some .i64 := by kernel_rfl
theorem ty_intOf_5 : Y.intOf Try.prog 5 = some .u8 := by kernel_rfl
theorem ty_isBoolTy_4 : Y.isBoolTy Try.prog 4 = true := by kernel_rfl
theorem ty_isStrTy_9 : Y.isStrTy Try.prog 9 = true := by kernel_rfl
theorem ty_lay_23 : Y.lay Try.prog 23 = some (true, 4) := by kernel_rfl
theorem ty_lay_3 : Y.lay Try.prog 3 = some (false, 1) := by kernel_rfl
theorem ty_lay_31 : Y.lay Try.prog 31 = some (true, 16) := by kernel_rfl
theorem ty_lay_4 : Y.lay Try.prog 4 = some (false, 1) := by kernel_rfl
theorem ty_lay_42 : Y.lay Try.prog 42 = some (true, 9) := by kernel_rfl
theorem ty_lay_43 : Y.lay Try.prog 43 = some (true, 36) := by kernel_rfl
theorem ty_lay_5 : Y.lay Try.prog 5 = some (false, 1) := by kernel_rfl
theorem ty_lay_50 : Y.lay Try.prog 50 = some (true, 11) := by kernel_rfl
theorem ty_lay_58 : Y.lay Try.prog 58 = some (false, 1) := by kernel_rfl
theorem ty_notInt_23 : Y.notInt Try.prog 23 = true := by kernel_rfl
theorem ty_notInt_24 : Y.notInt Try.prog 24 = true := by kernel_rfl
theorem ty_notInt_31 : Y.notInt Try.prog 31 = true := by kernel_rfl
theorem ty_notInt_42 : Y.notInt Try.prog 42 = true := by kernel_rfl
theorem ty_notInt_43 : Y.notInt Try.prog 43 = true := by kernel_rfl
theorem ty_notInt_44 : Y.notInt Try.prog 44 = true := by kernel_rfl
theorem ty_notInt_50 : Y.notInt Try.prog 50 = true := by kernel_rfl
theorem ty_notInt_58 : Y.notInt Try.prog 58 = true := by kernel_rfl
theorem ty_notInt_59 : Y.notInt Try.prog 59 = true := by kernel_rfl
theorem ty_placesOf_23 : Y.placesOf Try.prog 23 = some [(0, 1), (1, 1), (2, 1), (3, 1)] := by kernel_rfl
theorem ty_placesOf_31 : Y.placesOf Try.prog 31 = some [(0, 4), (4, 4), (8, 4), (12, 4)] := by kernel_rfl
theorem ty_placesOf_42 : Y.placesOf Try.prog 42 = some [(0, 1), (1, 4), (5, 4)] := by kernel_rfl
theorem ty_placesOf_43 : Y.placesOf Try.prog 43 = some [(0, 9), (9, 9), (18, 9), (27, 9)] := by kernel_rfl
theorem ty_placesOf_50 : Y.placesOf Try.prog 50 = some [(0, 1), (1, 1), (2, 1), (3, 4), (7, 4)] := by kernel_rfl
theorem ty_slcOf_23 : Y.slcOf Try.prog 23 = none := by kernel_rfl
theorem ty_slcOf_24 : Y.slcOf Try.prog 24 = some (true, 4) := by kernel_rfl
theorem ty_slcOf_3 : Y.slcOf Try.prog 3 = none := by kernel_rfl
theorem ty_slcOf_31 : Y.slcOf Try.prog 31 = none := by kernel_rfl
theorem ty_slcOf_37 : Y.slcOf Try.prog 37 = none := by kernel_rfl
theorem ty_slcOf_42 : Y.slcOf Try.prog 42 = none := by kernel_rfl
theorem ty_slcOf_43 : Y.slcOf Try.prog 43 = none := by kernel_rfl
theorem ty_slcOf_44 : Y.slcOf Try.prog 44 = some (true, 11) := by kernel_rfl
theorem ty_slcOf_5 : Y.slcOf Try.prog 5 = none := by kernel_rfl
theorem ty_slcOf_50 : Y.slcOf Try.prog 50 = none := by kernel_rfl
theorem ty_slcOf_53 : Y.slcOf Try.prog 53 = none := by kernel_rfl
theorem ty_slcOf_58 : Y.slcOf Try.prog 58 = none := by kernel_rfl
theorem ty_slcOf_59 : Y.slcOf Try.prog 59 = none := by kernel_rfl
theorem ty_slcOf_9 : Y.slcOf Try.prog 9 = none := by kernel_rfl
theorem ty_zeroA_23 : Y.zeroA Try.prog 23 = some (.agg [.int .u8 0, .int .u8 0, .int .u8 0, .int .u8 0]) := by kernel_rfl
theorem ty_zeroA_3 : Y.zeroA Try.prog 3 = some (.int .i64 0) := by kernel_rfl
theorem ty_zeroA_31 : Y.zeroA Try.prog 31 = some (.rows 4 [.agg [.int .u8 0, .int .u8 0, .int .u8 0, .int .u8 0], .agg [.int .u8 0, .int .u8 0, .int .u8 0, .int .u8 0], .agg [.int .u8 0, .int .u8 0, .int .u8 0, .int .u8 0], .agg [.int .u8 0, .int .u8 0, .int .u8 0, .int .u8 0]]) := by kernel_rfl
theorem ty_zeroA_42 : Y.zeroA Try.prog 42 = some (.agg [.bool false, .agg [.int .i64 0, .int .i64 0, .int .i64 0, .int .i64 0], .agg [.int .u8 0, .int .u8 0, .int .u8 0, .int .u8 0]]) := by kernel_rfl
theorem ty_zeroA_43 : Y.zeroA Try.prog 43 = some (.rows 9 [.agg [.bool false, .agg [.int .i64 0, .int .i64 0, .int .i64 0, .int .i64 0], .agg [.int .u8 0, .int .u8 0, .int .u8 0, .int .u8 0]], .agg [.bool false, .agg [.int .i64 0, .int .i64 0, .int .i64 0, .int .i64 0], .agg [.int .u8 0, .int .u8 0, .int .u8 0, .int .u8 0]], .agg [.bool false, .agg [.int .i64 0, .int .i64 0, .int .i64 0, .int .i64 0], .agg [.int .u8 0, .int .u8 0, .int .u8 0, .int .u8 0]], .agg [.bool false, .agg [.int .i64 0, .int .i64 0, .int .i64 0, .int .i64 0], .agg [.int .u8 0, .int .u8 0, .int .u8 0, .int .u8 0]]]) := by kernel_rfl
theorem ty_zeroA_50 : Y.zeroA Try.prog 50 = some (.agg [.int .i64 0, .int .i64 0, .int .u8 0, .agg [.int .i64 0, .int .i64 0, .int .i64 0, .int .i64 0], .agg [.int .u8 0, .int .u8 0, .int .u8 0, .int .u8 0]]) := by kernel_rfl
theorem ty_zeroE_24 : Y.zeroE Try.prog 24 = some (.agg [.int .u8 0, .int .u8 0, .int .u8 0, .int .u8 0]) := by kernel_rfl
theorem ty_zeroE_44 : Y.zeroE Try.prog 44 = some (.agg [.int .i64 0, .int .i64 0, .int .u8 0, .agg [.int .i64 0, .int .i64 0, .int .i64 0, .int .i64 0], .agg [.int .u8 0, .int .u8 0, .int .u8 0, .int .u8 0]]) := by kernel_rfl
end Go.Proofs.Ytcgnnkbdbidpkaa
