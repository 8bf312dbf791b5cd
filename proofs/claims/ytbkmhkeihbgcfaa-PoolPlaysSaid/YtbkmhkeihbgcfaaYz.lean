/-
  What the seat's types say, as closed facts (written by ygen.py off the translation).
-/
import Derived.Test.YtbkmhkeihbgcfaaYy
import Derived.Test.YtbkmhkeihbgcfaaRows
namespace Go.Proofs.Ytbkmhkeihbgcfaa
open Go.Y
theorem ty_arrOf_110 : Y.arrOf Try.prog 110 = none := by kernel_rfl
theorem ty_arrOf_112 : Y.arrOf Try.prog 112 = none := by kernel_rfl
theorem ty_arrOf_116 : Y.arrOf Try.prog 116 = none := by kernel_rfl
theorem ty_arrOf_120 : Y.arrOf Try.prog 120 = none := by kernel_rfl
theorem ty_arrOf_22 : Y.arrOf Try.prog 22 = none := by kernel_rfl
theorem ty_arrOf_24 : Y.arrOf Try.prog 24 = none := by kernel_rfl
theorem ty_arrOf_3 : Y.arrOf Try.prog 3 = none := by kernel_rfl
theorem ty_arrOf_37 : Y.arrOf Try.prog 37 = some (2, (false, 1)) := by kernel_rfl
theorem ty_arrOf_38 : Y.arrOf Try.prog 38 = some (2, (false, 1)) := by kernel_rfl
theorem ty_arrOf_42 : Y.arrOf Try.prog 42 = some (201, (false, 1)) := by kernel_rfl
theorem ty_arrOf_46 : Y.arrOf Try.prog 46 = none := by kernel_rfl
theorem ty_arrOf_47 : Y.arrOf Try.prog 47 = none := by kernel_rfl
theorem ty_arrOf_49 : Y.arrOf Try.prog 49 = some (8, (false, 1)) := by kernel_rfl
theorem ty_arrOf_52 : Y.arrOf Try.prog 52 = none := by kernel_rfl
theorem ty_arrOf_58 : Y.arrOf Try.prog 58 = none := by kernel_rfl
theorem ty_arrOf_60 : Y.arrOf Try.prog 60 = none := by kernel_rfl
theorem ty_arrOf_64 : Y.arrOf Try.prog 64 = none := by kernel_rfl
theorem ty_arrOf_65 : Y.arrOf Try.prog 65 = none := by kernel_rfl
theorem ty_arrOf_72 : Y.arrOf Try.prog 72 = some (2, (false, 1)) := by kernel_rfl
theorem ty_arrOf_73 : Y.arrOf Try.prog 73 = some (16, (false, 1)) := by kernel_rfl
theorem ty_arrOf_78 : Y.arrOf Try.prog 78 = some (4, (false, 1)) := by kernel_rfl
theorem ty_arrOf_79 : Y.arrOf Try.prog 79 = none := by kernel_rfl
theorem ty_arrOf_80 : Y.arrOf Try.prog 80 = none := by kernel_rfl
theorem ty_arrOf_88 : Y.arrOf Try.prog 88 = none := by kernel_rfl
theorem ty_arrOf_96 : Y.arrOf Try.prog 96 = none := by kernel_rfl
theorem ty_arrOf_98 : Y.arrOf Try.prog 98 = none := by kernel_rfl
theorem ty_bytesE_120 : Y.bytesE Try.prog 120 = some 80 := by kernel_rfl
theorem ty_bytesE_22 : Y.bytesE Try.prog 22 = some 8 := by kernel_rfl
theorem ty_bytesE_46 : Y.bytesE Try.prog 46 = some 16 := by kernel_rfl
theorem ty_bytesE_52 : Y.bytesE Try.prog 52 = some 1 := by kernel_rfl
theorem ty_bytesE_58 : Y.bytesE Try.prog 58 = some 64 := by kernel_rfl
theorem ty_bytesE_79 : Y.bytesE Try.prog 79 = some 72 := by kernel_rfl
theorem ty_bytesE_88 : Y.bytesE Try.prog 88 = some 24 := by kernel_rfl
theorem ty_eqTy_64 (x0 : Int) (x1 : Int) (x2 : Int) (x3 : Int) (x4 : Int) (x5 : Int) (x6 : Int) (x7 : Int) (x8 : Int) (x9 : Int) (x10 : Int) (y0 : Int) (y1 : Int) (y2 : Int) (y3 : Int) (y4 : Int) (y5 : Int) (y6 : Int) (y7 : Int) (y8 : Int) (y9 : Int) (y10 : Int) : Y.eqAgg Try.prog 64 [.int .i64 x0, .int .i64 x1, .int .u8 x2, .int .i64 x3, .int .i64 x4, .int .i64 x5, .int .i64 x6, .int .u8 x7, .int .u8 x8, .int .u8 x9, .int .u8 x10] [.int .i64 y0, .int .i64 y1, .int .u8 y2, .int .i64 y3, .int .i64 y4, .int .i64 y5, .int .i64 y6, .int .u8 y7, .int .u8 y8, .int .u8 y9, .int .u8 y10] = some ((x0 == y0) && ((x1 == y1) && ((x2 == y2) && (((x3 == y3) && ((x4 == y4) && ((x5 == y5) && ((x6 == y6) && true)))) && (((x7 == y7) && ((x8 == y8) && ((x9 == y9) && ((x10 == y10) && true)))) && true))))) := by kernel_rfl
theorem ty_fldOf_101_0 : Y.fldOf Try.prog 101 0 = some (0, (true, 4)) := by kernel_rfl
theorem ty_fldOf_101_1 : Y.fldOf Try.prog 101 1 = some (4, (false, 1)) := by kernel_rfl
theorem ty_fldOf_101_2 : Y.fldOf Try.prog 101 2 = some (5, (false, 1)) := by kernel_rfl
theorem ty_fldOf_101_3 : Y.fldOf Try.prog 101 3 = some (6, (false, 1)) := by kernel_rfl
theorem ty_fldOf_122_0 : Y.fldOf Try.prog 122 0 = some (0, (false, 1)) := by kernel_rfl
theorem ty_fldOf_122_1 : Y.fldOf Try.prog 122 1 = some (1, (false, 1)) := by kernel_rfl
theorem ty_fldOf_122_2 : Y.fldOf Try.prog 122 2 = some (2, (false, 1)) := by kernel_rfl
theorem ty_fldOf_122_3 : Y.fldOf Try.prog 122 3 = some (3, (false, 1)) := by kernel_rfl
theorem ty_fldOf_122_4 : Y.fldOf Try.prog 122 4 = some (4, (false, 1)) := by kernel_rfl
theorem ty_fldOf_124_0 : Y.fldOf Try.prog 124 0 = some (0, (true, 11)) := by kernel_rfl
theorem ty_fldOf_124_1 : Y.fldOf Try.prog 124 1 = some (11, (false, 1)) := by kernel_rfl
theorem ty_fldOf_124_2 : Y.fldOf Try.prog 124 2 = some (12, (false, 1)) := by kernel_rfl
theorem ty_fldOf_127_0 : Y.fldOf Try.prog 127 0 = some (0, (false, 1)) := by kernel_rfl
theorem ty_fldOf_127_1 : Y.fldOf Try.prog 127 1 = some (1, (false, 1)) := by kernel_rfl
theorem ty_fldOf_51_0 : Y.fldOf Try.prog 51 0 = some (0, (false, 1)) := by kernel_rfl
theorem ty_fldOf_51_1 : Y.fldOf Try.prog 51 1 = some (1, (false, 1)) := by kernel_rfl
theorem ty_fldOf_51_2 : Y.fldOf Try.prog 51 2 = some (2, (false, 1)) := by kernel_rfl
theorem ty_fldOf_54_0 : Y.fldOf Try.prog 54 0 = some (0, (false, 1)) := by kernel_rfl
theorem ty_fldOf_54_1 : Y.fldOf Try.prog 54 1 = some (1, (false, 1)) := by kernel_rfl
theorem ty_fldOf_54_2 : Y.fldOf Try.prog 54 2 = some (2, (false, 1)) := by kernel_rfl
theorem ty_fldOf_54_3 : Y.fldOf Try.prog 54 3 = some (3, (false, 1)) := by kernel_rfl
theorem ty_fldOf_54_4 : Y.fldOf Try.prog 54 4 = some (4, (false, 1)) := by kernel_rfl
theorem ty_fldOf_54_5 : Y.fldOf Try.prog 54 5 = some (5, (false, 1)) := by kernel_rfl
theorem ty_fldOf_54_6 : Y.fldOf Try.prog 54 6 = some (6, (false, 1)) := by kernel_rfl
theorem ty_fldOf_60_0 : Y.fldOf Try.prog 60 0 = some (0, (false, 1)) := by kernel_rfl
theorem ty_fldOf_60_1 : Y.fldOf Try.prog 60 1 = some (1, (false, 1)) := by kernel_rfl
theorem ty_fldOf_60_2 : Y.fldOf Try.prog 60 2 = some (2, (false, 1)) := by kernel_rfl
theorem ty_fldOf_60_3 : Y.fldOf Try.prog 60 3 = some (3, (false, 1)) := by kernel_rfl
theorem ty_fldOf_64_0 : Y.fldOf Try.prog 64 0 = some (0, (false, 1)) := by kernel_rfl
theorem ty_fldOf_64_1 : Y.fldOf Try.prog 64 1 = some (1, (false, 1)) := by kernel_rfl
theorem ty_fldOf_64_2 : Y.fldOf Try.prog 64 2 = some (2, (false, 1)) := by kernel_rfl
theorem ty_fldOf_64_3 : Y.fldOf Try.prog 64 3 = some (3, (true, 4)) := by kernel_rfl
theorem ty_fldOf_83_0 : Y.fldOf Try.prog 83 0 = some (0, (false, 1)) := by kernel_rfl
theorem ty_fldOf_83_1 : Y.fldOf Try.prog 83 1 = some (1, (true, 11)) := by kernel_rfl
theorem ty_fldOf_85_0 : Y.fldOf Try.prog 85 0 = some (0, (false, 1)) := by kernel_rfl
theorem ty_fldOf_85_1 : Y.fldOf Try.prog 85 1 = some (1, (false, 1)) := by kernel_rfl
theorem ty_fldOf_85_2 : Y.fldOf Try.prog 85 2 = some (2, (false, 1)) := by kernel_rfl
theorem ty_fldOf_85_3 : Y.fldOf Try.prog 85 3 = some (3, (false, 1)) := by kernel_rfl
theorem ty_fldOf_85_4 : Y.fldOf Try.prog 85 4 = some (4, (false, 1)) := by kernel_rfl
theorem ty_fldOf_85_5 : Y.fldOf Try.prog 85 5 = some (5, (false, 1)) := by kernel_rfl
theorem ty_fldOf_85_6 : Y.fldOf Try.prog 85 6 = some (6, (false, 1)) := by kernel_rfl
theorem ty_fldOf_85_7 : Y.fldOf Try.prog 85 7 = some (7, (false, 1)) := by kernel_rfl
theorem ty_fldOf_90_0 : Y.fldOf Try.prog 90 0 = some (0, (false, 1)) := by kernel_rfl
theorem ty_fldOf_90_1 : Y.fldOf Try.prog 90 1 = some (1, (false, 1)) := by kernel_rfl
theorem ty_fldOf_90_2 : Y.fldOf Try.prog 90 2 = some (2, (false, 1)) := by kernel_rfl
theorem ty_fldOf_90_3 : Y.fldOf Try.prog 90 3 = some (3, (false, 1)) := by kernel_rfl
theorem ty_fldOf_90_4 : Y.fldOf Try.prog 90 4 = some (4, (false, 1)) := by kernel_rfl
theorem ty_fldOf_93_0 : Y.fldOf Try.prog 93 0 = some (0, (false, 1)) := by kernel_rfl
theorem ty_fldOf_93_1 : Y.fldOf Try.prog 93 1 = some (1, (false, 1)) := by kernel_rfl
theorem ty_fldOf_93_2 : Y.fldOf Try.prog 93 2 = some (2, (false, 1)) := by kernel_rfl
theorem ty_fldOf_96_0 : Y.fldOf Try.prog 96 0 = some (0, (false, 1)) := by kernel_rfl
theorem ty_fldOf_96_1 : Y.fldOf Try.prog 96 1 = some (1, (false, 1)) := by kernel_rfl
theorem ty_fldOf_96_2 : Y.fldOf Try.prog 96 2 = some (2, (false, 1)) := by kernel_rfl
theorem ty_fldOf_96_3 : Y.fldOf Try.prog 96 3 = some (3, (false, 1)) := by kernel_rfl
theorem ty_hasTy_36 : Y.hasTy Try.prog 36 = true := by kernel_rfl
theorem ty_hasTy_5 : Y.hasTy Try.prog 5 = true := by kernel_rfl
theorem ty_hasTy_97 : Y.hasTy Try.prog 97 = true := by kernel_rfl
theorem ty_intOf_3 : Y.intOf Try.prog 3 = some .i64 := by kernel_rfl
theorem ty_isBoolTy_4 : Y.isBoolTy Try.prog 4 = true := by kernel_rfl
theorem ty_isFuncTy_29 : Y.isFuncTy Try.prog 29 = true := by kernel_rfl
theorem ty_isInt_3 : Y.isInt Try.prog 3 = true := by kernel_rfl
theorem ty_notInt_3 : Y.notInt Try.prog 3 = false := by kernel_rfl
theorem ty_isPtrTy_24 : Y.isPtrTy Try.prog 24 = true := by kernel_rfl
theorem ty_isPtrTy_65 : Y.isPtrTy Try.prog 65 = true := by kernel_rfl
theorem ty_lay_110 : Y.lay Try.prog 110 = some (false, 1) := by kernel_rfl
theorem ty_lay_112 : Y.lay Try.prog 112 = some (false, 1) := by kernel_rfl
theorem ty_lay_120 : Y.lay Try.prog 120 = some (false, 1) := by kernel_rfl
theorem ty_lay_124 : Y.lay Try.prog 124 = some (true, 13) := by kernel_rfl
theorem ty_lay_22 : Y.lay Try.prog 22 = some (false, 1) := by kernel_rfl
theorem ty_lay_24 : Y.lay Try.prog 24 = some (false, 1) := by kernel_rfl
theorem ty_lay_3 : Y.lay Try.prog 3 = some (false, 1) := by kernel_rfl
theorem ty_lay_37 : Y.lay Try.prog 37 = some (true, 2) := by kernel_rfl
theorem ty_lay_38 : Y.lay Try.prog 38 = some (true, 2) := by kernel_rfl
theorem ty_lay_4 : Y.lay Try.prog 4 = some (false, 1) := by kernel_rfl
theorem ty_lay_42 : Y.lay Try.prog 42 = some (true, 201) := by kernel_rfl
theorem ty_lay_49 : Y.lay Try.prog 49 = some (true, 8) := by kernel_rfl
theorem ty_lay_5 : Y.lay Try.prog 5 = some (false, 1) := by kernel_rfl
theorem ty_lay_51 : Y.lay Try.prog 51 = some (true, 3) := by kernel_rfl
theorem ty_lay_52 : Y.lay Try.prog 52 = some (false, 1) := by kernel_rfl
theorem ty_lay_58 : Y.lay Try.prog 58 = some (false, 1) := by kernel_rfl
theorem ty_lay_60 : Y.lay Try.prog 60 = some (true, 4) := by kernel_rfl
theorem ty_lay_64 : Y.lay Try.prog 64 = some (true, 11) := by kernel_rfl
theorem ty_lay_73 : Y.lay Try.prog 73 = some (true, 16) := by kernel_rfl
theorem ty_lay_83 : Y.lay Try.prog 83 = some (true, 12) := by kernel_rfl
theorem ty_lay_88 : Y.lay Try.prog 88 = some (false, 1) := by kernel_rfl
theorem ty_lay_93 : Y.lay Try.prog 93 = some (true, 3) := by kernel_rfl
theorem ty_lay_96 : Y.lay Try.prog 96 = some (true, 4) := by kernel_rfl
theorem ty_lay_97 : Y.lay Try.prog 97 = some (false, 1) := by kernel_rfl
theorem ty_lay_98 : Y.lay Try.prog 98 = some (false, 1) := by kernel_rfl
theorem ty_mapKT_97 : Y.mapKT Try.prog 97 = some (true, 2) := by kernel_rfl
theorem ty_mapZ_97 : Y.mapZ Try.prog 97 = some (.int .i64 0) := by kernel_rfl
theorem ty_notInt_110 : Y.notInt Try.prog 110 = true := by kernel_rfl
theorem ty_notInt_112 : Y.notInt Try.prog 112 = true := by kernel_rfl
theorem ty_notInt_116 : Y.notInt Try.prog 116 = true := by kernel_rfl
theorem ty_notInt_120 : Y.notInt Try.prog 120 = true := by kernel_rfl
theorem ty_notInt_22 : Y.notInt Try.prog 22 = true := by kernel_rfl
theorem ty_notInt_24 : Y.notInt Try.prog 24 = true := by kernel_rfl
theorem ty_notInt_37 : Y.notInt Try.prog 37 = true := by kernel_rfl
theorem ty_notInt_46 : Y.notInt Try.prog 46 = true := by kernel_rfl
theorem ty_notInt_47 : Y.notInt Try.prog 47 = true := by kernel_rfl
theorem ty_notInt_52 : Y.notInt Try.prog 52 = true := by kernel_rfl
theorem ty_notInt_58 : Y.notInt Try.prog 58 = true := by kernel_rfl
theorem ty_notInt_60 : Y.notInt Try.prog 60 = true := by kernel_rfl
theorem ty_notInt_64 : Y.notInt Try.prog 64 = true := by kernel_rfl
theorem ty_notInt_65 : Y.notInt Try.prog 65 = true := by kernel_rfl
theorem ty_notInt_79 : Y.notInt Try.prog 79 = true := by kernel_rfl
theorem ty_notInt_80 : Y.notInt Try.prog 80 = true := by kernel_rfl
theorem ty_notInt_88 : Y.notInt Try.prog 88 = true := by kernel_rfl
theorem ty_notInt_96 : Y.notInt Try.prog 96 = true := by kernel_rfl
theorem ty_notInt_98 : Y.notInt Try.prog 98 = true := by kernel_rfl
theorem ty_placesOf_101 : Y.placesOf Try.prog 101 = some [(0, 4), (4, 1), (5, 1), (6, 1)] := by kernel_rfl
theorem ty_placesOf_122 : Y.placesOf Try.prog 122 = some [(0, 1), (1, 1), (2, 1), (3, 1), (4, 1)] := by kernel_rfl
theorem ty_placesOf_124 : Y.placesOf Try.prog 124 = some [(0, 11), (11, 1), (12, 1)] := by kernel_rfl
theorem ty_placesOf_127 : Y.placesOf Try.prog 127 = some [(0, 1), (1, 1)] := by kernel_rfl
theorem ty_placesOf_37 : Y.placesOf Try.prog 37 = some [(0, 1), (1, 1)] := by kernel_rfl
theorem ty_placesOf_38 : Y.placesOf Try.prog 38 = some [(0, 1), (1, 1)] := by kernel_rfl
theorem ty_placesOf_42 : Y.placesOf Try.prog 42 = some [(0, 1), (1, 1), (2, 1), (3, 1), (4, 1), (5, 1), (6, 1), (7, 1), (8, 1), (9, 1), (10, 1), (11, 1), (12, 1), (13, 1), (14, 1), (15, 1), (16, 1), (17, 1), (18, 1), (19, 1), (20, 1), (21, 1), (22, 1), (23, 1), (24, 1), (25, 1), (26, 1), (27, 1), (28, 1), (29, 1), (30, 1), (31, 1), (32, 1), (33, 1), (34, 1), (35, 1), (36, 1), (37, 1), (38, 1), (39, 1), (40, 1), (41, 1), (42, 1), (43, 1), (44, 1), (45, 1), (46, 1), (47, 1), (48, 1), (49, 1), (50, 1), (51, 1), (52, 1), (53, 1), (54, 1), (55, 1), (56, 1), (57, 1), (58, 1), (59, 1), (60, 1), (61, 1), (62, 1), (63, 1), (64, 1), (65, 1), (66, 1), (67, 1), (68, 1), (69, 1), (70, 1), (71, 1), (72, 1), (73, 1), (74, 1), (75, 1), (76, 1), (77, 1), (78, 1), (79, 1), (80, 1), (81, 1), (82, 1), (83, 1), (84, 1), (85, 1), (86, 1), (87, 1), (88, 1), (89, 1), (90, 1), (91, 1), (92, 1), (93, 1), (94, 1), (95, 1), (96, 1), (97, 1), (98, 1), (99, 1), (100, 1), (101, 1), (102, 1), (103, 1), (104, 1), (105, 1), (106, 1), (107, 1), (108, 1), (109, 1), (110, 1), (111, 1), (112, 1), (113, 1), (114, 1), (115, 1), (116, 1), (117, 1), (118, 1), (119, 1), (120, 1), (121, 1), (122, 1), (123, 1), (124, 1), (125, 1), (126, 1), (127, 1), (128, 1), (129, 1), (130, 1), (131, 1), (132, 1), (133, 1), (134, 1), (135, 1), (136, 1), (137, 1), (138, 1), (139, 1), (140, 1), (141, 1), (142, 1), (143, 1), (144, 1), (145, 1), (146, 1), (147, 1), (148, 1), (149, 1), (150, 1), (151, 1), (152, 1), (153, 1), (154, 1), (155, 1), (156, 1), (157, 1), (158, 1), (159, 1), (160, 1), (161, 1), (162, 1), (163, 1), (164, 1), (165, 1), (166, 1), (167, 1), (168, 1), (169, 1), (170, 1), (171, 1), (172, 1), (173, 1), (174, 1), (175, 1), (176, 1), (177, 1), (178, 1), (179, 1), (180, 1), (181, 1), (182, 1), (183, 1), (184, 1), (185, 1), (186, 1), (187, 1), (188, 1), (189, 1), (190, 1), (191, 1), (192, 1), (193, 1), (194, 1), (195, 1), (196, 1), (197, 1), (198, 1), (199, 1), (200, 1)] := by kernel_rfl
theorem ty_placesOf_49 : Y.placesOf Try.prog 49 = some [(0, 1), (1, 1), (2, 1), (3, 1), (4, 1), (5, 1), (6, 1), (7, 1)] := by kernel_rfl
theorem ty_placesOf_54 : Y.placesOf Try.prog 54 = some [(0, 1), (1, 1), (2, 1), (3, 1), (4, 1), (5, 1), (6, 1)] := by kernel_rfl
theorem ty_placesOf_64 : Y.placesOf Try.prog 64 = some [(0, 1), (1, 1), (2, 1), (3, 4), (7, 4)] := by kernel_rfl
theorem ty_placesOf_73 : Y.placesOf Try.prog 73 = some [(0, 1), (1, 1), (2, 1), (3, 1), (4, 1), (5, 1), (6, 1), (7, 1), (8, 1), (9, 1), (10, 1), (11, 1), (12, 1), (13, 1), (14, 1), (15, 1)] := by kernel_rfl
theorem ty_placesOf_85 : Y.placesOf Try.prog 85 = some [(0, 1), (1, 1), (2, 1), (3, 1), (4, 1), (5, 1), (6, 1), (7, 1)] := by kernel_rfl
theorem ty_placesOf_90 : Y.placesOf Try.prog 90 = some [(0, 1), (1, 1), (2, 1), (3, 1), (4, 1)] := by kernel_rfl
theorem ty_placesOf_93 : Y.placesOf Try.prog 93 = some [(0, 1), (1, 1), (2, 1)] := by kernel_rfl
theorem ty_placesOf_96 : Y.placesOf Try.prog 96 = some [(0, 1), (1, 1), (2, 1), (3, 1)] := by kernel_rfl
theorem ty_slcOf_110 : Y.slcOf Try.prog 110 = none := by kernel_rfl
theorem ty_slcOf_112 : Y.slcOf Try.prog 112 = none := by kernel_rfl
theorem ty_slcOf_116 : Y.slcOf Try.prog 116 = none := by kernel_rfl
theorem ty_slcOf_120 : Y.slcOf Try.prog 120 = some (true, 13) := by kernel_rfl
theorem ty_slcOf_22 : Y.slcOf Try.prog 22 = some (false, 1) := by kernel_rfl
theorem ty_slcOf_24 : Y.slcOf Try.prog 24 = none := by kernel_rfl
theorem ty_slcOf_3 : Y.slcOf Try.prog 3 = none := by kernel_rfl
theorem ty_slcOf_37 : Y.slcOf Try.prog 37 = none := by kernel_rfl
theorem ty_slcOf_38 : Y.slcOf Try.prog 38 = none := by kernel_rfl
theorem ty_slcOf_42 : Y.slcOf Try.prog 42 = none := by kernel_rfl
theorem ty_slcOf_46 : Y.slcOf Try.prog 46 = some (true, 3) := by kernel_rfl
theorem ty_slcOf_47 : Y.slcOf Try.prog 47 = none := by kernel_rfl
theorem ty_slcOf_49 : Y.slcOf Try.prog 49 = none := by kernel_rfl
theorem ty_slcOf_52 : Y.slcOf Try.prog 52 = some (false, 1) := by kernel_rfl
theorem ty_slcOf_58 : Y.slcOf Try.prog 58 = some (true, 11) := by kernel_rfl
theorem ty_slcOf_60 : Y.slcOf Try.prog 60 = none := by kernel_rfl
theorem ty_slcOf_64 : Y.slcOf Try.prog 64 = none := by kernel_rfl
theorem ty_slcOf_65 : Y.slcOf Try.prog 65 = none := by kernel_rfl
theorem ty_slcOf_72 : Y.slcOf Try.prog 72 = none := by kernel_rfl
theorem ty_slcOf_73 : Y.slcOf Try.prog 73 = none := by kernel_rfl
theorem ty_slcOf_78 : Y.slcOf Try.prog 78 = none := by kernel_rfl
theorem ty_slcOf_79 : Y.slcOf Try.prog 79 = some (true, 12) := by kernel_rfl
theorem ty_slcOf_80 : Y.slcOf Try.prog 80 = none := by kernel_rfl
theorem ty_slcOf_88 : Y.slcOf Try.prog 88 = some (true, 3) := by kernel_rfl
theorem ty_slcOf_96 : Y.slcOf Try.prog 96 = none := by kernel_rfl
theorem ty_slcOf_98 : Y.slcOf Try.prog 98 = none := by kernel_rfl
theorem ty_zeroA_101 : Y.zeroA Try.prog 101 = some (.agg [.agg [.int .i64 0, .int .i64 0, .int .i64 0, .int .i64 0], .nilm, .nilp, .bool false]) := by kernel_rfl
theorem ty_zeroA_122 : Y.zeroA Try.prog 122 = some (.agg [.int .i64 0, .int .i64 0, .int .i64 0, .int .i64 0, .nils]) := by kernel_rfl
theorem ty_zeroA_124 : Y.zeroA Try.prog 124 = some (.agg [.agg [.int .i64 0, .int .i64 0, .int .u8 0, .agg [.int .i64 0, .int .i64 0, .int .i64 0, .int .i64 0], .agg [.int .u8 0, .int .u8 0, .int .u8 0, .int .u8 0]], .int .i64 0, .bool false]) := by kernel_rfl
theorem ty_zeroA_127 : Y.zeroA Try.prog 127 = some (.agg [.nilf, .nils]) := by kernel_rfl
theorem ty_zeroA_22 : Y.zeroA Try.prog 22 = some (.nils) := by kernel_rfl
theorem ty_zeroA_24 : Y.zeroA Try.prog 24 = some (.nilp) := by kernel_rfl
theorem ty_zeroA_3 : Y.zeroA Try.prog 3 = some (.int .i64 0) := by kernel_rfl
theorem ty_zeroA_37 : Y.zeroA Try.prog 37 = some (.rows 1 [.int .i64 0, .int .i64 0]) := by kernel_rfl
theorem ty_zeroA_38 : Y.zeroA Try.prog 38 = some (.rows 1 [.nils, .nils]) := by kernel_rfl
theorem ty_zeroA_4 : Y.zeroA Try.prog 4 = some (.bool false) := by kernel_rfl
theorem ty_zeroA_42 : Y.zeroA Try.prog 42 = some (.rows 1 [.bool false, .bool false, .bool false, .bool false, .bool false, .bool false, .bool false, .bool false, .bool false, .bool false, .bool false, .bool false, .bool false, .bool false, .bool false, .bool false, .bool false, .bool false, .bool false, .bool false, .bool false, .bool false, .bool false, .bool false, .bool false, .bool false, .bool false, .bool false, .bool false, .bool false, .bool false, .bool false, .bool false, .bool false, .bool false, .bool false, .bool false, .bool false, .bool false, .bool false, .bool false, .bool false, .bool false, .bool false, .bool false, .bool false, .bool false, .bool false, .bool false, .bool false, .bool false, .bool false, .bool false, .bool false, .bool false, .bool false, .bool false, .bool false, .bool false, .bool false, .bool false, .bool false, .bool false, .bool false, .bool false, .bool false, .bool false, .bool false, .bool false, .bool false, .bool false, .bool false, .bool false, .bool false, .bool false, .bool false, .bool false, .bool false, .bool false, .bool false, .bool false, .bool false, .bool false, .bool false, .bool false, .bool false, .bool false, .bool false, .bool false, .bool false, .bool false, .bool false, .bool false, .bool false, .bool false, .bool false, .bool false, .bool false, .bool false, .bool false, .bool false, .bool false, .bool false, .bool false, .bool false, .bool false, .bool false, .bool false, .bool false, .bool false, .bool false, .bool false, .bool false, .bool false, .bool false, .bool false, .bool false, .bool false, .bool false, .bool false, .bool false, .bool false, .bool false, .bool false, .bool false, .bool false, .bool false, .bool false, .bool false, .bool false, .bool false, .bool false, .bool false, .bool false, .bool false, .bool false, .bool false, .bool false, .bool false, .bool false, .bool false, .bool false, .bool false, .bool false, .bool false, .bool false, .bool false, .bool false, .bool false, .bool false, .bool false, .bool false, .bool false, .bool false, .bool false, .bool false, .bool false, .bool false, .bool false, .bool false, .bool false, .bool false, .bool false, .bool false, .bool false, .bool false, .bool false, .bool false, .bool false, .bool false, .bool false, .bool false, .bool false, .bool false, .bool false, .bool false, .bool false, .bool false, .bool false, .bool false, .bool false, .bool false, .bool false, .bool false, .bool false, .bool false, .bool false, .bool false, .bool false, .bool false, .bool false, .bool false, .bool false, .bool false, .bool false, .bool false, .bool false, .bool false, .bool false, .bool false, .bool false]) := by kernel_rfl
theorem ty_zeroA_49 : Y.zeroA Try.prog 49 = some (.rows 1 [.int .i64 0, .int .i64 0, .int .i64 0, .int .i64 0, .int .i64 0, .int .i64 0, .int .i64 0, .int .i64 0]) := by kernel_rfl
theorem ty_zeroA_51 : Y.zeroA Try.prog 51 = some (.agg [.int .u8 0, .int .u8 0, .int .i64 0]) := by kernel_rfl
theorem ty_zeroA_54 : Y.zeroA Try.prog 54 = some (.agg [.int .i64 0, .int .i64 0, .int .i64 0, .nils, .nils, .nils, .nils]) := by kernel_rfl
theorem ty_zeroA_58 : Y.zeroA Try.prog 58 = some (.nils) := by kernel_rfl
theorem ty_zeroA_60 : Y.zeroA Try.prog 60 = some (.agg [.int .i64 0, .int .i64 0, .int .i64 0, .int .i64 0]) := by kernel_rfl
theorem ty_zeroA_64 : Y.zeroA Try.prog 64 = some (.agg [.int .i64 0, .int .i64 0, .int .u8 0, .agg [.int .i64 0, .int .i64 0, .int .i64 0, .int .i64 0], .agg [.int .u8 0, .int .u8 0, .int .u8 0, .int .u8 0]]) := by kernel_rfl
theorem ty_zeroA_73 : Y.zeroA Try.prog 73 = some (.rows 1 [.int .i64 0, .int .i64 0, .int .i64 0, .int .i64 0, .int .i64 0, .int .i64 0, .int .i64 0, .int .i64 0, .int .i64 0, .int .i64 0, .int .i64 0, .int .i64 0, .int .i64 0, .int .i64 0, .int .i64 0, .int .i64 0]) := by kernel_rfl
theorem ty_zeroA_83 : Y.zeroA Try.prog 83 = some (.agg [.int .u8 0, .agg [.int .i64 0, .int .i64 0, .int .u8 0, .agg [.int .i64 0, .int .i64 0, .int .i64 0, .int .i64 0], .agg [.int .u8 0, .int .u8 0, .int .u8 0, .int .u8 0]]]) := by kernel_rfl
theorem ty_zeroA_85 : Y.zeroA Try.prog 85 = some (.agg [.int .i64 0, .int .i64 0, .int .i64 0, .int .i64 0, .int .i64 0, .nils, .bool false, .int .i64 0]) := by kernel_rfl
theorem ty_zeroA_90 : Y.zeroA Try.prog 90 = some (.agg [.int .i64 0, .int .i64 0, .int .i64 0, .int .i64 0, .nils]) := by kernel_rfl
theorem ty_zeroA_93 : Y.zeroA Try.prog 93 = some (.agg [.int .i64 0, .int .i64 0, .bool false]) := by kernel_rfl
theorem ty_zeroA_96 : Y.zeroA Try.prog 96 = some (.agg [.int .i64 0, .int .i64 0, .int .i64 0, .int .i64 0]) := by kernel_rfl
theorem ty_zeroE_120 : Y.zeroE Try.prog 120 = some (.agg [.agg [.int .i64 0, .int .i64 0, .int .u8 0, .agg [.int .i64 0, .int .i64 0, .int .i64 0, .int .i64 0], .agg [.int .u8 0, .int .u8 0, .int .u8 0, .int .u8 0]], .int .i64 0, .bool false]) := by kernel_rfl
theorem ty_zeroE_22 : Y.zeroE Try.prog 22 = some (.int .i64 0) := by kernel_rfl
theorem ty_zeroE_46 : Y.zeroE Try.prog 46 = some (.agg [.int .u8 0, .int .u8 0, .int .i64 0]) := by kernel_rfl
theorem ty_zeroE_52 : Y.zeroE Try.prog 52 = some (.bool false) := by kernel_rfl
theorem ty_zeroE_58 : Y.zeroE Try.prog 58 = some (.agg [.int .i64 0, .int .i64 0, .int .u8 0, .agg [.int .i64 0, .int .i64 0, .int .i64 0, .int .i64 0], .agg [.int .u8 0, .int .u8 0, .int .u8 0, .int .u8 0]]) := by kernel_rfl
theorem ty_zeroE_79 : Y.zeroE Try.prog 79 = some (.agg [.int .u8 0, .agg [.int .i64 0, .int .i64 0, .int .u8 0, .agg [.int .i64 0, .int .i64 0, .int .i64 0, .int .i64 0], .agg [.int .u8 0, .int .u8 0, .int .u8 0, .int .u8 0]]]) := by kernel_rfl
theorem ty_zeroE_88 : Y.zeroE Try.prog 88 = some (.agg [.int .i64 0, .int .i64 0, .bool false]) := by kernel_rfl
end Go.Proofs.Ytbkmhkeihbgcfaa
