/-
  What the seat's types say, as closed facts (written by ygen.py off the translation).
-/
import Derived.Test.YtcmacobhnpgpaaaYy
import Derived.Test.YtcmacobhnpgpaaaRows
namespace Go.Proofs.Ytcmacobhnpgpaaa
open Go.Y
theorem ty_arrOf_23 : Y.arrOf Try.prog 23 = none := by kernel_rfl
theorem ty_arrOf_24 : Y.arrOf Try.prog 24 = some (3, (true, 4)) := by kernel_rfl
theorem ty_arrOf_28 : Y.arrOf Try.prog 28 = none := by kernel_rfl
theorem ty_arrOf_3 : Y.arrOf Try.prog 3 = none := by kernel_rfl
theorem ty_arrOf_33 : Y.arrOf Try.prog 33 = none := by kernel_rfl
theorem ty_arrOf_34 : Y.arrOf Try.prog 34 = none := by kernel_rfl
theorem ty_arrOf_37 : Y.arrOf Try.prog 37 = none := by kernel_rfl
theorem ty_arrOf_43 : Y.arrOf Try.prog 43 = some (2, (true, 4)) := by kernel_rfl
theorem ty_arrOf_44 : Y.arrOf Try.prog 44 = some (4, (false, 1)) := by kernel_rfl
theorem ty_arrOf_47 : Y.arrOf Try.prog 47 = none := by kernel_rfl
theorem ty_arrOf_52 : Y.arrOf Try.prog 52 = some (4, (false, 1)) := by kernel_rfl
theorem ty_arrOf_53 : Y.arrOf Try.prog 53 = none := by kernel_rfl
theorem ty_arrOf_60 : Y.arrOf Try.prog 60 = some (16, (false, 1)) := by kernel_rfl
theorem ty_arrOf_61 : Y.arrOf Try.prog 61 = some (16, (false, 1)) := by kernel_rfl
theorem ty_arrOf_63 : Y.arrOf Try.prog 63 = some (16, (true, 4)) := by kernel_rfl
theorem ty_arrOf_64 : Y.arrOf Try.prog 64 = some (16, (false, 1)) := by kernel_rfl
theorem ty_arrOf_82 : Y.arrOf Try.prog 82 = none := by kernel_rfl
theorem ty_bytesE_28 : Y.bytesE Try.prog 28 = some 64 := by kernel_rfl
theorem ty_bytesE_82 : Y.bytesE Try.prog 82 = some 8 := by kernel_rfl
theorem ty_eqTy_23 (x0 : Int) (x1 : Int) (x2 : Int) (x3 : Int) (y0 : Int) (y1 : Int) (y2 : Int) (y3 : Int) : Y.eqAgg Try.prog 23 [.int .i64 x0, .int .i64 x1, .int .i64 x2, .int .i64 x3] [.int .i64 y0, .int .i64 y1, .int .i64 y2, .int .i64 y3] = some ((x0 == y0) && ((x1 == y1) && ((x2 == y2) && ((x3 == y3) && true)))) := by kernel_rfl
theorem ty_eqTy_33 (x0 : Int) (x1 : Int) (x2 : Int) (x3 : Int) (x4 : Int) (x5 : Int) (x6 : Int) (x7 : Int) (x8 : Int) (x9 : Int) (x10 : Int) (y0 : Int) (y1 : Int) (y2 : Int) (y3 : Int) (y4 : Int) (y5 : Int) (y6 : Int) (y7 : Int) (y8 : Int) (y9 : Int) (y10 : Int) : Y.eqAgg Try.prog 33 [.int .i64 x0, .int .i64 x1, .int .u8 x2, .int .i64 x3, .int .i64 x4, .int .i64 x5, .int .i64 x6, .int .u8 x7, .int .u8 x8, .int .u8 x9, .int .u8 x10] [.int .i64 y0, .int .i64 y1, .int .u8 y2, .int .i64 y3, .int .i64 y4, .int .i64 y5, .int .i64 y6, .int .u8 y7, .int .u8 y8, .int .u8 y9, .int .u8 y10] = some ((x0 == y0) && ((x1 == y1) && ((x2 == y2) && (((x3 == y3) && ((x4 == y4) && ((x5 == y5) && ((x6 == y6) && true)))) && (((x7 == y7) && ((x8 == y8) && ((x9 == y9) && ((x10 == y10) && true)))) && true))))) := by kernel_rfl
theorem ty_eqTy_79 (x0 : Bool) (x1 : Int) (x2 : Int) (x3 : Int) (x4 : Int) (y0 : Bool) (y1 : Int) (y2 : Int) (y3 : Int) (y4 : Int) : Y.eqAgg Try.prog 79 [.bool x0, .int .i64 x1, .int .i64 x2, .int .i64 x3, .int .i64 x4] [.bool y0, .int .i64 y1, .int .i64 y2, .int .i64 y3, .int .i64 y4] = some ((x0 == y0) && (((x1 == y1) && ((x2 == y2) && ((x3 == y3) && ((x4 == y4) && true)))) && true)) := by kernel_rfl
theorem ty_fldOf_23_0 : Y.fldOf Try.prog 23 0 = some (0, (false, 1)) := by kernel_rfl
theorem ty_fldOf_23_1 : Y.fldOf Try.prog 23 1 = some (1, (false, 1)) := by kernel_rfl
theorem ty_fldOf_23_2 : Y.fldOf Try.prog 23 2 = some (2, (false, 1)) := by kernel_rfl
theorem ty_fldOf_23_3 : Y.fldOf Try.prog 23 3 = some (3, (false, 1)) := by kernel_rfl
theorem ty_fldOf_33_0 : Y.fldOf Try.prog 33 0 = some (0, (false, 1)) := by kernel_rfl
theorem ty_fldOf_33_1 : Y.fldOf Try.prog 33 1 = some (1, (false, 1)) := by kernel_rfl
theorem ty_fldOf_33_2 : Y.fldOf Try.prog 33 2 = some (2, (false, 1)) := by kernel_rfl
theorem ty_fldOf_33_3 : Y.fldOf Try.prog 33 3 = some (3, (true, 4)) := by kernel_rfl
theorem ty_fldOf_68_0 : Y.fldOf Try.prog 68 0 = some (0, (false, 1)) := by kernel_rfl
theorem ty_fldOf_68_1 : Y.fldOf Try.prog 68 1 = some (1, (false, 1)) := by kernel_rfl
theorem ty_fldOf_73_0 : Y.fldOf Try.prog 73 0 = some (0, (false, 1)) := by kernel_rfl
theorem ty_fldOf_73_1 : Y.fldOf Try.prog 73 1 = some (1, (false, 1)) := by kernel_rfl
theorem ty_fldOf_77_0 : Y.fldOf Try.prog 77 0 = some (0, (true, 2)) := by kernel_rfl
theorem ty_fldOf_77_1 : Y.fldOf Try.prog 77 1 = some (2, (true, 2)) := by kernel_rfl
theorem ty_fldOf_77_2 : Y.fldOf Try.prog 77 2 = some (4, (false, 1)) := by kernel_rfl
theorem ty_fldOf_77_3 : Y.fldOf Try.prog 77 3 = some (5, (false, 1)) := by kernel_rfl
theorem ty_fldOf_77_4 : Y.fldOf Try.prog 77 4 = some (6, (false, 1)) := by kernel_rfl
theorem ty_fldOf_79_1 : Y.fldOf Try.prog 79 1 = some (1, (true, 4)) := by kernel_rfl
theorem ty_hasTy_5 : Y.hasTy Try.prog 5 = true := by kernel_rfl
theorem ty_hasTy_74 : Y.hasTy Try.prog 74 = true := by kernel_rfl
theorem ty_intOf_3 : Y.intOf Try.prog 3 = some .i64 := by kernel_rfl
theorem ty_isBoolTy_4 : Y.isBoolTy Try.prog 4 = true := by kernel_rfl
theorem ty_isFuncTy_47 : Y.isFuncTy Try.prog 47 = true := by kernel_rfl
theorem ty_isInt_3 : Y.isInt Try.prog 3 = true := by kernel_rfl
theorem ty_notInt_3 : Y.notInt Try.prog 3 = false := by kernel_rfl
theorem ty_isPtrTy_34 : Y.isPtrTy Try.prog 34 = true := by kernel_rfl
theorem ty_isPtrTy_53 : Y.isPtrTy Try.prog 53 = true := by kernel_rfl
theorem ty_lay_23 : Y.lay Try.prog 23 = some (true, 4) := by kernel_rfl
theorem ty_lay_28 : Y.lay Try.prog 28 = some (false, 1) := by kernel_rfl
theorem ty_lay_3 : Y.lay Try.prog 3 = some (false, 1) := by kernel_rfl
theorem ty_lay_33 : Y.lay Try.prog 33 = some (true, 11) := by kernel_rfl
theorem ty_lay_34 : Y.lay Try.prog 34 = some (false, 1) := by kernel_rfl
theorem ty_lay_37 : Y.lay Try.prog 37 = some (false, 1) := by kernel_rfl
theorem ty_lay_4 : Y.lay Try.prog 4 = some (false, 1) := by kernel_rfl
theorem ty_lay_44 : Y.lay Try.prog 44 = some (true, 4) := by kernel_rfl
theorem ty_lay_5 : Y.lay Try.prog 5 = some (false, 1) := by kernel_rfl
theorem ty_lay_53 : Y.lay Try.prog 53 = some (false, 1) := by kernel_rfl
theorem ty_lay_60 : Y.lay Try.prog 60 = some (true, 16) := by kernel_rfl
theorem ty_lay_61 : Y.lay Try.prog 61 = some (true, 16) := by kernel_rfl
theorem ty_lay_63 : Y.lay Try.prog 63 = some (true, 64) := by kernel_rfl
theorem ty_lay_64 : Y.lay Try.prog 64 = some (true, 16) := by kernel_rfl
theorem ty_lay_73 : Y.lay Try.prog 73 = some (true, 2) := by kernel_rfl
theorem ty_lay_74 : Y.lay Try.prog 74 = some (false, 1) := by kernel_rfl
theorem ty_lay_75 : Y.lay Try.prog 75 = some (false, 1) := by kernel_rfl
theorem ty_lay_79 : Y.lay Try.prog 79 = some (true, 5) := by kernel_rfl
theorem ty_mapKT_74 : Y.mapKT Try.prog 74 = some (true, 2) := by kernel_rfl
theorem ty_mapKT_75 : Y.mapKT Try.prog 75 = some (true, 2) := by kernel_rfl
theorem ty_mapZ_74 : Y.mapZ Try.prog 74 = some (.nilp) := by kernel_rfl
theorem ty_mapZ_75 : Y.mapZ Try.prog 75 = some (.agg [.bool false, .agg [.int .i64 0, .int .i64 0, .int .i64 0, .int .i64 0]]) := by kernel_rfl
theorem ty_notInt_23 : Y.notInt Try.prog 23 = true := by kernel_rfl
theorem ty_notInt_28 : Y.notInt Try.prog 28 = true := by kernel_rfl
theorem ty_notInt_33 : Y.notInt Try.prog 33 = true := by kernel_rfl
theorem ty_notInt_34 : Y.notInt Try.prog 34 = true := by kernel_rfl
theorem ty_notInt_37 : Y.notInt Try.prog 37 = true := by kernel_rfl
theorem ty_notInt_47 : Y.notInt Try.prog 47 = true := by kernel_rfl
theorem ty_notInt_53 : Y.notInt Try.prog 53 = true := by kernel_rfl
theorem ty_notInt_82 : Y.notInt Try.prog 82 = true := by kernel_rfl
theorem ty_placesOf_23 : Y.placesOf Try.prog 23 = some [(0, 1), (1, 1), (2, 1), (3, 1)] := by kernel_rfl
theorem ty_placesOf_33 : Y.placesOf Try.prog 33 = some [(0, 1), (1, 1), (2, 1), (3, 4), (7, 4)] := by kernel_rfl
theorem ty_placesOf_44 : Y.placesOf Try.prog 44 = some [(0, 1), (1, 1), (2, 1), (3, 1)] := by kernel_rfl
theorem ty_placesOf_60 : Y.placesOf Try.prog 60 = some [(0, 1), (1, 1), (2, 1), (3, 1), (4, 1), (5, 1), (6, 1), (7, 1), (8, 1), (9, 1), (10, 1), (11, 1), (12, 1), (13, 1), (14, 1), (15, 1)] := by kernel_rfl
theorem ty_placesOf_61 : Y.placesOf Try.prog 61 = some [(0, 1), (1, 1), (2, 1), (3, 1), (4, 1), (5, 1), (6, 1), (7, 1), (8, 1), (9, 1), (10, 1), (11, 1), (12, 1), (13, 1), (14, 1), (15, 1)] := by kernel_rfl
theorem ty_placesOf_63 : Y.placesOf Try.prog 63 = some [(0, 4), (4, 4), (8, 4), (12, 4), (16, 4), (20, 4), (24, 4), (28, 4), (32, 4), (36, 4), (40, 4), (44, 4), (48, 4), (52, 4), (56, 4), (60, 4)] := by kernel_rfl
theorem ty_placesOf_64 : Y.placesOf Try.prog 64 = some [(0, 1), (1, 1), (2, 1), (3, 1), (4, 1), (5, 1), (6, 1), (7, 1), (8, 1), (9, 1), (10, 1), (11, 1), (12, 1), (13, 1), (14, 1), (15, 1)] := by kernel_rfl
theorem ty_placesOf_68 : Y.placesOf Try.prog 68 = some [(0, 1), (1, 1)] := by kernel_rfl
theorem ty_placesOf_73 : Y.placesOf Try.prog 73 = some [(0, 1), (1, 1)] := by kernel_rfl
theorem ty_placesOf_77 : Y.placesOf Try.prog 77 = some [(0, 2), (2, 2), (4, 1), (5, 1), (6, 1)] := by kernel_rfl
theorem ty_placesOf_79 : Y.placesOf Try.prog 79 = some [(0, 1), (1, 4)] := by kernel_rfl
theorem ty_slcOf_23 : Y.slcOf Try.prog 23 = none := by kernel_rfl
theorem ty_slcOf_24 : Y.slcOf Try.prog 24 = none := by kernel_rfl
theorem ty_slcOf_28 : Y.slcOf Try.prog 28 = some (true, 11) := by kernel_rfl
theorem ty_slcOf_3 : Y.slcOf Try.prog 3 = none := by kernel_rfl
theorem ty_slcOf_33 : Y.slcOf Try.prog 33 = none := by kernel_rfl
theorem ty_slcOf_34 : Y.slcOf Try.prog 34 = none := by kernel_rfl
theorem ty_slcOf_37 : Y.slcOf Try.prog 37 = none := by kernel_rfl
theorem ty_slcOf_43 : Y.slcOf Try.prog 43 = none := by kernel_rfl
theorem ty_slcOf_44 : Y.slcOf Try.prog 44 = none := by kernel_rfl
theorem ty_slcOf_47 : Y.slcOf Try.prog 47 = none := by kernel_rfl
theorem ty_slcOf_52 : Y.slcOf Try.prog 52 = none := by kernel_rfl
theorem ty_slcOf_53 : Y.slcOf Try.prog 53 = none := by kernel_rfl
theorem ty_slcOf_60 : Y.slcOf Try.prog 60 = none := by kernel_rfl
theorem ty_slcOf_61 : Y.slcOf Try.prog 61 = none := by kernel_rfl
theorem ty_slcOf_63 : Y.slcOf Try.prog 63 = none := by kernel_rfl
theorem ty_slcOf_64 : Y.slcOf Try.prog 64 = none := by kernel_rfl
theorem ty_slcOf_82 : Y.slcOf Try.prog 82 = some (false, 1) := by kernel_rfl
theorem ty_zeroA_23 : Y.zeroA Try.prog 23 = some (.agg [.int .i64 0, .int .i64 0, .int .i64 0, .int .i64 0]) := by kernel_rfl
theorem ty_zeroA_28 : Y.zeroA Try.prog 28 = some (.nils) := by kernel_rfl
theorem ty_zeroA_3 : Y.zeroA Try.prog 3 = some (.int .i64 0) := by kernel_rfl
theorem ty_zeroA_33 : Y.zeroA Try.prog 33 = some (.agg [.int .i64 0, .int .i64 0, .int .u8 0, .agg [.int .i64 0, .int .i64 0, .int .i64 0, .int .i64 0], .agg [.int .u8 0, .int .u8 0, .int .u8 0, .int .u8 0]]) := by kernel_rfl
theorem ty_zeroA_34 : Y.zeroA Try.prog 34 = some (.nilp) := by kernel_rfl
theorem ty_zeroA_4 : Y.zeroA Try.prog 4 = some (.bool false) := by kernel_rfl
theorem ty_zeroA_44 : Y.zeroA Try.prog 44 = some (.rows 1 [.int .i64 0, .int .i64 0, .int .i64 0, .int .i64 0]) := by kernel_rfl
theorem ty_zeroA_60 : Y.zeroA Try.prog 60 = some (.rows 1 [.nils, .nils, .nils, .nils, .nils, .nils, .nils, .nils, .nils, .nils, .nils, .nils, .nils, .nils, .nils, .nils]) := by kernel_rfl
theorem ty_zeroA_61 : Y.zeroA Try.prog 61 = some (.rows 1 [.int .i64 0, .int .i64 0, .int .i64 0, .int .i64 0, .int .i64 0, .int .i64 0, .int .i64 0, .int .i64 0, .int .i64 0, .int .i64 0, .int .i64 0, .int .i64 0, .int .i64 0, .int .i64 0, .int .i64 0, .int .i64 0]) := by kernel_rfl
theorem ty_zeroA_63 : Y.zeroA Try.prog 63 = some (.rows 4 [.agg [.int .i64 0, .int .i64 0, .int .i64 0, .int .i64 0], .agg [.int .i64 0, .int .i64 0, .int .i64 0, .int .i64 0], .agg [.int .i64 0, .int .i64 0, .int .i64 0, .int .i64 0], .agg [.int .i64 0, .int .i64 0, .int .i64 0, .int .i64 0], .agg [.int .i64 0, .int .i64 0, .int .i64 0, .int .i64 0], .agg [.int .i64 0, .int .i64 0, .int .i64 0, .int .i64 0], .agg [.int .i64 0, .int .i64 0, .int .i64 0, .int .i64 0], .agg [.int .i64 0, .int .i64 0, .int .i64 0, .int .i64 0], .agg [.int .i64 0, .int .i64 0, .int .i64 0, .int .i64 0], .agg [.int .i64 0, .int .i64 0, .int .i64 0, .int .i64 0], .agg [.int .i64 0, .int .i64 0, .int .i64 0, .int .i64 0], .agg [.int .i64 0, .int .i64 0, .int .i64 0, .int .i64 0], .agg [.int .i64 0, .int .i64 0, .int .i64 0, .int .i64 0], .agg [.int .i64 0, .int .i64 0, .int .i64 0, .int .i64 0], .agg [.int .i64 0, .int .i64 0, .int .i64 0, .int .i64 0], .agg [.int .i64 0, .int .i64 0, .int .i64 0, .int .i64 0]]) := by kernel_rfl
theorem ty_zeroA_64 : Y.zeroA Try.prog 64 = some (.rows 1 [.bool false, .bool false, .bool false, .bool false, .bool false, .bool false, .bool false, .bool false, .bool false, .bool false, .bool false, .bool false, .bool false, .bool false, .bool false, .bool false]) := by kernel_rfl
theorem ty_zeroA_68 : Y.zeroA Try.prog 68 = some (.agg [.nilf, .nils]) := by kernel_rfl
theorem ty_zeroA_73 : Y.zeroA Try.prog 73 = some (.agg [.int .i64 0, .int .i64 0]) := by kernel_rfl
theorem ty_zeroA_77 : Y.zeroA Try.prog 77 = some (.agg [.agg [.int .i64 0, .int .i64 0], .agg [.int .i64 0, .int .i64 0], .int .i64 0, .nilm, .nilm]) := by kernel_rfl
theorem ty_zeroA_79 : Y.zeroA Try.prog 79 = some (.agg [.bool false, .agg [.int .i64 0, .int .i64 0, .int .i64 0, .int .i64 0]]) := by kernel_rfl
theorem ty_zeroE_28 : Y.zeroE Try.prog 28 = some (.agg [.int .i64 0, .int .i64 0, .int .u8 0, .agg [.int .i64 0, .int .i64 0, .int .i64 0, .int .i64 0], .agg [.int .u8 0, .int .u8 0, .int .u8 0, .int .u8 0]]) := by kernel_rfl
theorem ty_zeroE_82 : Y.zeroE Try.prog 82 = some (.int .i64 0) := by kernel_rfl
end Go.Proofs.Ytcmacobhnpgpaaa
