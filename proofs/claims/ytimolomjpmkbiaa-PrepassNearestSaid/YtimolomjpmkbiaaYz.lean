/-
  What the seat's types say, as closed facts (written by ygen.py off the translation).
-/
import Derived.Test.YtimolomjpmkbiaaYy
import Derived.Test.YtimolomjpmkbiaaRows
namespace Go.Proofs.Ytimolomjpmkbiaa
open Go.Y
theorem ty_arrOf_22 : Y.arrOf Try.prog 22 = some (4, (false, 1)) := by kernel_rfl
theorem ty_arrOf_24 : Y.arrOf Try.prog 24 = none := by kernel_rfl
theorem ty_arrOf_29 : Y.arrOf Try.prog 29 = some (3, (true, 7)) := by kernel_rfl
theorem ty_arrOf_3 : Y.arrOf Try.prog 3 = none := by kernel_rfl
theorem ty_arrOf_37 : Y.arrOf Try.prog 37 = some (3, (false, 1)) := by kernel_rfl
theorem ty_arrOf_40 : Y.arrOf Try.prog 40 = none := by kernel_rfl
theorem ty_arrOf_48 : Y.arrOf Try.prog 48 = some (4, (true, 7)) := by kernel_rfl
theorem ty_arrOf_49 : Y.arrOf Try.prog 49 = some (2, (false, 1)) := by kernel_rfl
theorem ty_arrOf_5 : Y.arrOf Try.prog 5 = none := by kernel_rfl
theorem ty_arrOf_53 : Y.arrOf Try.prog 53 = some (3, (false, 1)) := by kernel_rfl
theorem ty_arrOf_55 : Y.arrOf Try.prog 55 = none := by kernel_rfl
theorem ty_arrOf_57 : Y.arrOf Try.prog 57 = none := by kernel_rfl
theorem ty_arrOf_61 : Y.arrOf Try.prog 61 = none := by kernel_rfl
theorem ty_arrOf_63 : Y.arrOf Try.prog 63 = none := by kernel_rfl
theorem ty_arrOf_72 : Y.arrOf Try.prog 72 = some (4, (true, 9)) := by kernel_rfl
theorem ty_arrOf_9 : Y.arrOf Try.prog 9 = none := by kernel_rfl
theorem ty_bytesE_40 : Y.bytesE Try.prog 40 = some 8 := by kernel_rfl
theorem ty_bytesE_55 : Y.bytesE Try.prog 55 = some 64 := by kernel_rfl
theorem ty_eqTy_57 (x0 : Int) (x1 : Int) (x2 : Int) (x3 : Int) (y0 : Int) (y1 : Int) (y2 : Int) (y3 : Int) : Y.eqAgg Try.prog 57 [.int .i64 x0, .int .i64 x1, .int .i64 x2, .int .i64 x3] [.int .i64 y0, .int .i64 y1, .int .i64 y2, .int .i64 y3] = some ((x0 == y0) && ((x1 == y1) && ((x2 == y2) && ((x3 == y3) && true)))) := by kernel_rfl
theorem ty_eqTy_59 (x0 : Int) (x1 : Int) (x2 : Int) (x3 : Int) (y0 : Int) (y1 : Int) (y2 : Int) (y3 : Int) : Y.eqAgg Try.prog 59 [.int .u8 x0, .int .u8 x1, .int .u8 x2, .int .u8 x3] [.int .u8 y0, .int .u8 y1, .int .u8 y2, .int .u8 y3] = some ((x0 == y0) && ((x1 == y1) && ((x2 == y2) && ((x3 == y3) && true)))) := by kernel_rfl
theorem ty_eqTy_71 (x0 : Bool) (x1 : Int) (x2 : Int) (x3 : Int) (x4 : Int) (x5 : Int) (x6 : Int) (x7 : Int) (x8 : Int) (y0 : Bool) (y1 : Int) (y2 : Int) (y3 : Int) (y4 : Int) (y5 : Int) (y6 : Int) (y7 : Int) (y8 : Int) : Y.eqAgg Try.prog 71 [.bool x0, .int .i64 x1, .int .i64 x2, .int .i64 x3, .int .i64 x4, .int .u8 x5, .int .u8 x6, .int .u8 x7, .int .u8 x8] [.bool y0, .int .i64 y1, .int .i64 y2, .int .i64 y3, .int .i64 y4, .int .u8 y5, .int .u8 y6, .int .u8 y7, .int .u8 y8] = some ((x0 == y0) && (((x1 == y1) && ((x2 == y2) && ((x3 == y3) && ((x4 == y4) && true)))) && (((x5 == y5) && ((x6 == y6) && ((x7 == y7) && ((x8 == y8) && true)))) && true))) := by kernel_rfl
theorem ty_eqTy_72 (x0 : Bool) (x1 : Int) (x2 : Int) (x3 : Int) (x4 : Int) (x5 : Int) (x6 : Int) (x7 : Int) (x8 : Int) (x9 : Bool) (x10 : Int) (x11 : Int) (x12 : Int) (x13 : Int) (x14 : Int) (x15 : Int) (x16 : Int) (x17 : Int) (x18 : Bool) (x19 : Int) (x20 : Int) (x21 : Int) (x22 : Int) (x23 : Int) (x24 : Int) (x25 : Int) (x26 : Int) (x27 : Bool) (x28 : Int) (x29 : Int) (x30 : Int) (x31 : Int) (x32 : Int) (x33 : Int) (x34 : Int) (x35 : Int) (y0 : Bool) (y1 : Int) (y2 : Int) (y3 : Int) (y4 : Int) (y5 : Int) (y6 : Int) (y7 : Int) (y8 : Int) (y9 : Bool) (y10 : Int) (y11 : Int) (y12 : Int) (y13 : Int) (y14 : Int) (y15 : Int) (y16 : Int) (y17 : Int) (y18 : Bool) (y19 : Int) (y20 : Int) (y21 : Int) (y22 : Int) (y23 : Int) (y24 : Int) (y25 : Int) (y26 : Int) (y27 : Bool) (y28 : Int) (y29 : Int) (y30 : Int) (y31 : Int) (y32 : Int) (y33 : Int) (y34 : Int) (y35 : Int) : Y.eqAgg Try.prog 72 [.bool x0, .int .i64 x1, .int .i64 x2, .int .i64 x3, .int .i64 x4, .int .u8 x5, .int .u8 x6, .int .u8 x7, .int .u8 x8, .bool x9, .int .i64 x10, .int .i64 x11, .int .i64 x12, .int .i64 x13, .int .u8 x14, .int .u8 x15, .int .u8 x16, .int .u8 x17, .bool x18, .int .i64 x19, .int .i64 x20, .int .i64 x21, .int .i64 x22, .int .u8 x23, .int .u8 x24, .int .u8 x25, .int .u8 x26, .bool x27, .int .i64 x28, .int .i64 x29, .int .i64 x30, .int .i64 x31, .int .u8 x32, .int .u8 x33, .int .u8 x34, .int .u8 x35] [.bool y0, .int .i64 y1, .int .i64 y2, .int .i64 y3, .int .i64 y4, .int .u8 y5, .int .u8 y6, .int .u8 y7, .int .u8 y8, .bool y9, .int .i64 y10, .int .i64 y11, .int .i64 y12, .int .i64 y13, .int .u8 y14, .int .u8 y15, .int .u8 y16, .int .u8 y17, .bool y18, .int .i64 y19, .int .i64 y20, .int .i64 y21, .int .i64 y22, .int .u8 y23, .int .u8 y24, .int .u8 y25, .int .u8 y26, .bool y27, .int .i64 y28, .int .i64 y29, .int .i64 y30, .int .i64 y31, .int .u8 y32, .int .u8 y33, .int .u8 y34, .int .u8 y35] = some (((x0 == y0) && (((x1 == y1) && ((x2 == y2) && ((x3 == y3) && ((x4 == y4) && true)))) && (((x5 == y5) && ((x6 == y6) && ((x7 == y7) && ((x8 == y8) && true)))) && true))) && (((x9 == y9) && (((x10 == y10) && ((x11 == y11) && ((x12 == y12) && ((x13 == y13) && true)))) && (((x14 == y14) && ((x15 == y15) && ((x16 == y16) && ((x17 == y17) && true)))) && true))) && (((x18 == y18) && (((x19 == y19) && ((x20 == y20) && ((x21 == y21) && ((x22 == y22) && true)))) && (((x23 == y23) && ((x24 == y24) && ((x25 == y25) && ((x26 == y26) && true)))) && true))) && (((x27 == y27) && (((x28 == y28) && ((x29 == y29) && ((x30 == y30) && ((x31 == y31) && true)))) && (((x32 == y32) && ((x33 == y33) && ((x34 == y34) && ((x35 == y35) && true)))) && true))) && true)))) := by kernel_rfl
theorem ty_fldOf_24_0 : Y.fldOf Try.prog 24 0 = some (0, (false, 1)) := by kernel_rfl
theorem ty_fldOf_24_1 : Y.fldOf Try.prog 24 1 = some (1, (false, 1)) := by kernel_rfl
theorem ty_fldOf_24_2 : Y.fldOf Try.prog 24 2 = some (2, (false, 1)) := by kernel_rfl
theorem ty_fldOf_24_3 : Y.fldOf Try.prog 24 3 = some (3, (true, 4)) := by kernel_rfl
theorem ty_fldOf_57_0 : Y.fldOf Try.prog 57 0 = some (0, (false, 1)) := by kernel_rfl
theorem ty_fldOf_57_1 : Y.fldOf Try.prog 57 1 = some (1, (false, 1)) := by kernel_rfl
theorem ty_fldOf_57_2 : Y.fldOf Try.prog 57 2 = some (2, (false, 1)) := by kernel_rfl
theorem ty_fldOf_57_3 : Y.fldOf Try.prog 57 3 = some (3, (false, 1)) := by kernel_rfl
theorem ty_fldOf_61_0 : Y.fldOf Try.prog 61 0 = some (0, (false, 1)) := by kernel_rfl
theorem ty_fldOf_61_1 : Y.fldOf Try.prog 61 1 = some (1, (false, 1)) := by kernel_rfl
theorem ty_fldOf_61_2 : Y.fldOf Try.prog 61 2 = some (2, (false, 1)) := by kernel_rfl
theorem ty_fldOf_61_3 : Y.fldOf Try.prog 61 3 = some (3, (true, 4)) := by kernel_rfl
theorem ty_fldOf_61_4 : Y.fldOf Try.prog 61 4 = some (7, (true, 4)) := by kernel_rfl
theorem ty_fldOf_71_0 : Y.fldOf Try.prog 71 0 = some (0, (false, 1)) := by kernel_rfl
theorem ty_fldOf_71_1 : Y.fldOf Try.prog 71 1 = some (1, (true, 4)) := by kernel_rfl
theorem ty_fldOf_71_2 : Y.fldOf Try.prog 71 2 = some (5, (true, 4)) := by kernel_rfl
theorem ty_fldOf_91_0 : Y.fldOf Try.prog 91 0 = some (0, (false, 1)) := by kernel_rfl
theorem ty_fldOf_91_1 : Y.fldOf Try.prog 91 1 = some (1, (false, 1)) := by kernel_rfl
theorem ty_fldOf_91_2 : Y.fldOf Try.prog 91 2 = some (2, (false, 1)) := by kernel_rfl
theorem ty_hasTy_25 : Y.hasTy Try.prog 25 = true := by kernel_rfl
theorem ty_hasTy_5 : Y.hasTy Try.prog 5 = true := by kernel_rfl
theorem ty_intOf_3 : Y.intOf Try.prog 3 = some .i64 := by kernel_rfl
theorem ty_isBoolTy_4 : Y.isBoolTy Try.prog 4 = true := by kernel_rfl
theorem ty_isFuncTy_84 : Y.isFuncTy Try.prog 84 = true := by kernel_rfl
theorem ty_isPtrTy_63 : Y.isPtrTy Try.prog 63 = true := by kernel_rfl
theorem ty_isStrTy_9 : Y.isStrTy Try.prog 9 = true := by kernel_rfl
theorem ty_lay_24 : Y.lay Try.prog 24 = some (true, 7) := by kernel_rfl
theorem ty_lay_29 : Y.lay Try.prog 29 = some (true, 21) := by kernel_rfl
theorem ty_lay_3 : Y.lay Try.prog 3 = some (false, 1) := by kernel_rfl
theorem ty_lay_4 : Y.lay Try.prog 4 = some (false, 1) := by kernel_rfl
theorem ty_lay_40 : Y.lay Try.prog 40 = some (false, 1) := by kernel_rfl
theorem ty_lay_48 : Y.lay Try.prog 48 = some (true, 28) := by kernel_rfl
theorem ty_lay_5 : Y.lay Try.prog 5 = some (false, 1) := by kernel_rfl
theorem ty_lay_57 : Y.lay Try.prog 57 = some (true, 4) := by kernel_rfl
theorem ty_lay_59 : Y.lay Try.prog 59 = some (true, 4) := by kernel_rfl
theorem ty_lay_61 : Y.lay Try.prog 61 = some (true, 11) := by kernel_rfl
theorem ty_lay_71 : Y.lay Try.prog 71 = some (true, 9) := by kernel_rfl
theorem ty_lay_72 : Y.lay Try.prog 72 = some (true, 36) := by kernel_rfl
theorem ty_lay_89 : Y.lay Try.prog 89 = some (false, 1) := by kernel_rfl
theorem ty_lay_94 : Y.lay Try.prog 94 = some (true, 2) := by kernel_rfl
theorem ty_mapKT_89 : Y.mapKT Try.prog 89 = some (true, 2) := by kernel_rfl
theorem ty_mapZ_89 : Y.mapZ Try.prog 89 = some (.rows 9 [.agg [.bool false, .agg [.int .i64 0, .int .i64 0, .int .i64 0, .int .i64 0], .agg [.int .u8 0, .int .u8 0, .int .u8 0, .int .u8 0]], .agg [.bool false, .agg [.int .i64 0, .int .i64 0, .int .i64 0, .int .i64 0], .agg [.int .u8 0, .int .u8 0, .int .u8 0, .int .u8 0]], .agg [.bool false, .agg [.int .i64 0, .int .i64 0, .int .i64 0, .int .i64 0], .agg [.int .u8 0, .int .u8 0, .int .u8 0, .int .u8 0]], .agg [.bool false, .agg [.int .i64 0, .int .i64 0, .int .i64 0, .int .i64 0], .agg [.int .u8 0, .int .u8 0, .int .u8 0, .int .u8 0]]]) := by kernel_rfl
theorem ty_notInt_24 : Y.notInt Try.prog 24 = true := by kernel_rfl
theorem ty_notInt_29 : Y.notInt Try.prog 29 = true := by kernel_rfl
theorem ty_notInt_40 : Y.notInt Try.prog 40 = true := by kernel_rfl
theorem ty_notInt_55 : Y.notInt Try.prog 55 = true := by kernel_rfl
theorem ty_notInt_57 : Y.notInt Try.prog 57 = true := by kernel_rfl
theorem ty_notInt_61 : Y.notInt Try.prog 61 = true := by kernel_rfl
theorem ty_notInt_63 : Y.notInt Try.prog 63 = true := by kernel_rfl
theorem ty_notInt_72 : Y.notInt Try.prog 72 = true := by kernel_rfl
theorem ty_placesOf_24 : Y.placesOf Try.prog 24 = some [(0, 1), (1, 1), (2, 1), (3, 4)] := by kernel_rfl
theorem ty_placesOf_29 : Y.placesOf Try.prog 29 = some [(0, 7), (7, 7), (14, 7)] := by kernel_rfl
theorem ty_placesOf_48 : Y.placesOf Try.prog 48 = some [(0, 7), (7, 7), (14, 7), (21, 7)] := by kernel_rfl
theorem ty_placesOf_57 : Y.placesOf Try.prog 57 = some [(0, 1), (1, 1), (2, 1), (3, 1)] := by kernel_rfl
theorem ty_placesOf_61 : Y.placesOf Try.prog 61 = some [(0, 1), (1, 1), (2, 1), (3, 4), (7, 4)] := by kernel_rfl
theorem ty_placesOf_71 : Y.placesOf Try.prog 71 = some [(0, 1), (1, 4), (5, 4)] := by kernel_rfl
theorem ty_placesOf_72 : Y.placesOf Try.prog 72 = some [(0, 9), (9, 9), (18, 9), (27, 9)] := by kernel_rfl
theorem ty_placesOf_91 : Y.placesOf Try.prog 91 = some [(0, 1), (1, 1), (2, 1)] := by kernel_rfl
theorem ty_placesOf_94 : Y.placesOf Try.prog 94 = some [(0, 1), (1, 1)] := by kernel_rfl
theorem ty_slcOf_22 : Y.slcOf Try.prog 22 = none := by kernel_rfl
theorem ty_slcOf_24 : Y.slcOf Try.prog 24 = none := by kernel_rfl
theorem ty_slcOf_29 : Y.slcOf Try.prog 29 = none := by kernel_rfl
theorem ty_slcOf_3 : Y.slcOf Try.prog 3 = none := by kernel_rfl
theorem ty_slcOf_37 : Y.slcOf Try.prog 37 = none := by kernel_rfl
theorem ty_slcOf_40 : Y.slcOf Try.prog 40 = some (false, 1) := by kernel_rfl
theorem ty_slcOf_48 : Y.slcOf Try.prog 48 = none := by kernel_rfl
theorem ty_slcOf_49 : Y.slcOf Try.prog 49 = none := by kernel_rfl
theorem ty_slcOf_5 : Y.slcOf Try.prog 5 = none := by kernel_rfl
theorem ty_slcOf_53 : Y.slcOf Try.prog 53 = none := by kernel_rfl
theorem ty_slcOf_55 : Y.slcOf Try.prog 55 = some (true, 11) := by kernel_rfl
theorem ty_slcOf_57 : Y.slcOf Try.prog 57 = none := by kernel_rfl
theorem ty_slcOf_61 : Y.slcOf Try.prog 61 = none := by kernel_rfl
theorem ty_slcOf_63 : Y.slcOf Try.prog 63 = none := by kernel_rfl
theorem ty_slcOf_72 : Y.slcOf Try.prog 72 = none := by kernel_rfl
theorem ty_slcOf_9 : Y.slcOf Try.prog 9 = none := by kernel_rfl
theorem ty_zeroA_24 : Y.zeroA Try.prog 24 = some (.agg [.int .i64 0, .int .i64 0, .int .i64 0, .rows 1 [.int .i64 0, .int .i64 0, .int .i64 0, .int .i64 0]]) := by kernel_rfl
theorem ty_zeroA_29 : Y.zeroA Try.prog 29 = some (.rows 7 [.agg [.int .i64 0, .int .i64 0, .int .i64 0, .rows 1 [.int .i64 0, .int .i64 0, .int .i64 0, .int .i64 0]], .agg [.int .i64 0, .int .i64 0, .int .i64 0, .rows 1 [.int .i64 0, .int .i64 0, .int .i64 0, .int .i64 0]], .agg [.int .i64 0, .int .i64 0, .int .i64 0, .rows 1 [.int .i64 0, .int .i64 0, .int .i64 0, .int .i64 0]]]) := by kernel_rfl
theorem ty_zeroA_4 : Y.zeroA Try.prog 4 = some (.bool false) := by kernel_rfl
theorem ty_zeroA_40 : Y.zeroA Try.prog 40 = some (.nils) := by kernel_rfl
theorem ty_zeroA_48 : Y.zeroA Try.prog 48 = some (.rows 7 [.agg [.int .i64 0, .int .i64 0, .int .i64 0, .rows 1 [.int .i64 0, .int .i64 0, .int .i64 0, .int .i64 0]], .agg [.int .i64 0, .int .i64 0, .int .i64 0, .rows 1 [.int .i64 0, .int .i64 0, .int .i64 0, .int .i64 0]], .agg [.int .i64 0, .int .i64 0, .int .i64 0, .rows 1 [.int .i64 0, .int .i64 0, .int .i64 0, .int .i64 0]], .agg [.int .i64 0, .int .i64 0, .int .i64 0, .rows 1 [.int .i64 0, .int .i64 0, .int .i64 0, .int .i64 0]]]) := by kernel_rfl
theorem ty_zeroA_5 : Y.zeroA Try.prog 5 = some (.int .u8 0) := by kernel_rfl
theorem ty_zeroA_57 : Y.zeroA Try.prog 57 = some (.agg [.int .i64 0, .int .i64 0, .int .i64 0, .int .i64 0]) := by kernel_rfl
theorem ty_zeroA_61 : Y.zeroA Try.prog 61 = some (.agg [.int .i64 0, .int .i64 0, .int .u8 0, .agg [.int .i64 0, .int .i64 0, .int .i64 0, .int .i64 0], .agg [.int .u8 0, .int .u8 0, .int .u8 0, .int .u8 0]]) := by kernel_rfl
theorem ty_zeroA_71 : Y.zeroA Try.prog 71 = some (.agg [.bool false, .agg [.int .i64 0, .int .i64 0, .int .i64 0, .int .i64 0], .agg [.int .u8 0, .int .u8 0, .int .u8 0, .int .u8 0]]) := by kernel_rfl
theorem ty_zeroA_72 : Y.zeroA Try.prog 72 = some (.rows 9 [.agg [.bool false, .agg [.int .i64 0, .int .i64 0, .int .i64 0, .int .i64 0], .agg [.int .u8 0, .int .u8 0, .int .u8 0, .int .u8 0]], .agg [.bool false, .agg [.int .i64 0, .int .i64 0, .int .i64 0, .int .i64 0], .agg [.int .u8 0, .int .u8 0, .int .u8 0, .int .u8 0]], .agg [.bool false, .agg [.int .i64 0, .int .i64 0, .int .i64 0, .int .i64 0], .agg [.int .u8 0, .int .u8 0, .int .u8 0, .int .u8 0]], .agg [.bool false, .agg [.int .i64 0, .int .i64 0, .int .i64 0, .int .i64 0], .agg [.int .u8 0, .int .u8 0, .int .u8 0, .int .u8 0]]]) := by kernel_rfl
theorem ty_zeroA_91 : Y.zeroA Try.prog 91 = some (.agg [.int .i64 0, .int .i64 0, .nilm]) := by kernel_rfl
theorem ty_zeroA_94 : Y.zeroA Try.prog 94 = some (.agg [.int .i64 0, .int .i64 0]) := by kernel_rfl
theorem ty_zeroE_40 : Y.zeroE Try.prog 40 = some (.int .i64 0) := by kernel_rfl
theorem ty_zeroE_55 : Y.zeroE Try.prog 55 = some (.agg [.int .i64 0, .int .i64 0, .int .u8 0, .agg [.int .i64 0, .int .i64 0, .int .i64 0, .int .i64 0], .agg [.int .u8 0, .int .u8 0, .int .u8 0, .int .u8 0]]) := by kernel_rfl
end Go.Proofs.Ytimolomjpmkbiaa
