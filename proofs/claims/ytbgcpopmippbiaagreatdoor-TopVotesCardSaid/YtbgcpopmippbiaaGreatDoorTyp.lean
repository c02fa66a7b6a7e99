/- The types of this seat's program, as the machine reads them; printed by wip/tools/gentyp.py. -/
import Derived.Test.YtbgcpopmippbiaaGreatDoorEngY
import Derived.Test.YtbgcpopmippbiaaGreatDoorRows
namespace Go.Proofs.YtbgcpopmippbiaaGreatDoor
open Go.Eng
set_option maxRecDepth 20000
def tyTable : List (TypeId × TI) := [
  (1, ⟨.other, 1, 8, [.d (.v .nilFunc)]⟩),
  (2, ⟨(.int .i64), 1, 8, [.d (.v (.int .i64 0))]⟩),
  (3, ⟨(.int .i64), 1, 8, [.d (.v (.int .i64 0))]⟩),
  (4, ⟨.bool, 1, 1, [.d (.v (.bool false))]⟩),
  (5, ⟨(.int .u8), 1, 1, [.d (.v (.int .u8 0))]⟩),
  (9, ⟨.str, 1, 16, [.d (.v (.string ByteArray.empty))]⟩),
  (12, ⟨(.int .u64), 1, 8, [.d (.v (.int .u64 0))]⟩),
  (15, ⟨.ptr, 1, 8, [.d (.v (.pointer none))]⟩),
  (16, ⟨.ptr, 1, 8, [.d (.v (.pointer none))]⟩),
  (17, ⟨.ptr, 1, 8, [.d (.v (.pointer none))]⟩),
  (20, ⟨.iface, 1, 16, [.d (.v .nilIface)]⟩),
  (21, ⟨(.int .i32), 1, 4, [.d (.v (.int .i32 0))]⟩),
  (22, ⟨.slice 26, 1, 24, [.nils 4]⟩),
  (23, ⟨.other, 1, 8, [.d (.v .nilFunc)]⟩),
  (24, ⟨.other, 1, 8, [.d (.v .nilFunc)]⟩),
  (25, ⟨.struct [(0, 9), (1, 3), (2, 9), (3, 3)], 4, 48, [.d (.v (.string ByteArray.empty)), .d (.v (.int .i64 0)), .d (.v (.string ByteArray.empty)), .d (.v (.int .i64 0))]⟩),
  (26, ⟨.struct [(0, 9), (1, 3), (2, 9), (3, 3)], 4, 48, [.d (.v (.string ByteArray.empty)), .d (.v (.int .i64 0)), .d (.v (.string ByteArray.empty)), .d (.v (.int .i64 0))]⟩),
  (27, ⟨.slice 149, 1, 24, [.nils 2]⟩),
  (28, ⟨.slice 90, 1, 24, [.nils 3]⟩),
  (29, ⟨.slice 182, 1, 24, [.nils 2]⟩),
  (30, ⟨.struct [(0, 27), (1, 3), (2, 28), (3, 29)], 4, 80, [.nils 2, .d (.v (.int .i64 0)), .nils 3, .nils 2]⟩),
  (31, ⟨.struct [(0, 27), (1, 3), (2, 28), (3, 29)], 4, 80, [.nils 2, .d (.v (.int .i64 0)), .nils 3, .nils 2]⟩),
  (33, ⟨.other, 1, 8, [.d (.v .nilFunc)]⟩),
  (34, ⟨.struct [(0, 9), (1, 22)], 2, 40, [.d (.v (.string ByteArray.empty)), .nils 4]⟩),
  (35, ⟨.struct [(0, 9), (1, 22)], 2, 40, [.d (.v (.string ByteArray.empty)), .nils 4]⟩),
  (36, ⟨(.int .i64), 1, 8, [.d (.v (.int .i64 0))]⟩),
  (38, ⟨.other, 1, 8, [.d (.v .nilFunc)]⟩),
  (39, ⟨.other, 1, 8, [.d (.v .nilFunc)]⟩),
  (40, ⟨.slice 4, 1, 24, [.nils 1]⟩),
  (41, ⟨.struct [(0, 9), (1, 3), (2, 40)], 3, 48, [.d (.v (.string ByteArray.empty)), .d (.v (.int .i64 0)), .nils 1]⟩),
  (42, ⟨.struct [(0, 9), (1, 3), (2, 40)], 3, 48, [.d (.v (.string ByteArray.empty)), .d (.v (.int .i64 0)), .nils 1]⟩),
  (43, ⟨.slice 50, 1, 24, [.nils 1]⟩),
  (45, ⟨.other, 1, 8, [.d (.v .nilFunc)]⟩),
  (46, ⟨.other, 1, 8, [.d (.v .nilFunc)]⟩),
  (47, ⟨.other, 1, 8, [.d (.v .nilFunc)]⟩),
  (48, ⟨.slice 113, 1, 24, [.nils 4]⟩),
  (49, ⟨.struct [(0, 48)], 1, 24, [.nils 4]⟩),
  (50, ⟨.struct [(0, 48)], 1, 24, [.nils 4]⟩),
  (52, ⟨.other, 1, 8, [.d (.v .nilFunc)]⟩),
  (53, ⟨.slice 3, 1, 24, [.nils 1]⟩),
  (54, ⟨.other, 1, 8, [.d (.v .nilFunc)]⟩),
  (55, ⟨.other, 1, 8, [.d (.v .nilFunc)]⟩),
  (56, ⟨(.int .u64), 1, 8, [.d (.v (.int .u64 0))]⟩),
  (58, ⟨.other, 1, 8, [.d (.v .nilFunc)]⟩),
  (59, ⟨.other, 1, 8, [.d (.v .nilFunc)]⟩),
  (60, ⟨.slice 5, 1, 24, [.nils 1]⟩),
  (61, ⟨.struct [(0, 56), (1, 56)], 2, 16, [.d (.v (.int .u64 0)), .d (.v (.int .u64 0))]⟩),
  (62, ⟨.struct [(0, 56), (1, 56)], 2, 16, [.d (.v (.int .u64 0)), .d (.v (.int .u64 0))]⟩),
  (64, ⟨.other, 1, 8, [.d (.v .nilFunc)]⟩),
  (66, ⟨.other, 1, 8, [.d (.v .nilFunc)]⟩),
  (67, ⟨.slice 69, 1, 24, [.nils 3]⟩),
  (68, ⟨.struct [(0, 3), (1, 60), (2, 67)], 3, 56, [.d (.v (.int .i64 0)), .nils 1, .nils 3]⟩),
  (69, ⟨.struct [(0, 3), (1, 60), (2, 67)], 3, 56, [.d (.v (.int .i64 0)), .nils 1, .nils 3]⟩),
  (70, ⟨.other, 1, 8, [.d (.v .nilFunc)]⟩),
  (71, ⟨.slice 80, 1, 24, [.nils 7]⟩),
  (73, ⟨.other, 1, 8, [.d (.v .nilFunc)]⟩),
  (74, ⟨.arr 2 56, 2, 16, [.d (.v (.int .u64 0)), .d (.v (.int .u64 0))]⟩),
  (75, ⟨.arr 2 56, 2, 16, [.d (.v (.int .u64 0)), .d (.v (.int .u64 0))]⟩),
  (76, ⟨.other, 1, 8, [.d (.v .nilFunc)]⟩),
  (77, ⟨.other, 1, 8, [.d (.v .nilFunc)]⟩),
  (78, ⟨.slice 9, 1, 24, [.nils 1]⟩),
  (79, ⟨.struct [(0, 9), (1, 4), (2, 78), (3, 56), (4, 3), (5, 3), (6, 3)], 7, 80, [.d (.v (.string ByteArray.empty)), .d (.v (.bool false)), .nils 1, .d (.v (.int .u64 0)), .d (.v (.int .i64 0)), .d (.v (.int .i64 0)), .d (.v (.int .i64 0))]⟩),
  (80, ⟨.struct [(0, 9), (1, 4), (2, 78), (3, 56), (4, 3), (5, 3), (6, 3)], 7, 80, [.d (.v (.string ByteArray.empty)), .d (.v (.bool false)), .nils 1, .d (.v (.int .u64 0)), .d (.v (.int .i64 0)), .d (.v (.int .i64 0)), .d (.v (.int .i64 0))]⟩),
  (81, ⟨.other, 1, 8, [.d (.v .nilFunc)]⟩),
  (82, ⟨.slice 75, 1, 24, [.nils 2]⟩),
  (83, ⟨.other, 1, 8, [.d (.v .nilFunc)]⟩),
  (84, ⟨.other, 1, 8, [.d (.v .nilFunc)]⟩),
  (85, ⟨.slice 35, 1, 24, [.nils 2]⟩),
  (87, ⟨.other, 1, 8, [.d (.v .nilFunc)]⟩),
  (88, ⟨.other, 1, 8, [.d (.v .nilFunc)]⟩),
  (89, ⟨.struct [(0, 3), (1, 3), (2, 3)], 3, 24, [.d (.v (.int .i64 0)), .d (.v (.int .i64 0)), .d (.v (.int .i64 0))]⟩),
  (90, ⟨.struct [(0, 3), (1, 3), (2, 3)], 3, 24, [.d (.v (.int .i64 0)), .d (.v (.int .i64 0)), .d (.v (.int .i64 0))]⟩),
  (91, ⟨.other, 1, 8, [.d (.v .nilFunc)]⟩),
  (92, ⟨.other, 1, 8, [.d (.v .nilFunc)]⟩),
  (93, ⟨.other, 1, 8, [.d (.v .nilFunc)]⟩),
  (94, ⟨.other, 1, 8, [.d (.v .nilFunc)]⟩),
  (96, ⟨.other, 1, 8, [.d (.v .nilFunc)]⟩),
  (97, ⟨.other, 1, 8, [.d (.v .nilFunc)]⟩),
  (98, ⟨.other, 1, 8, [.d (.v .nilFunc)]⟩),
  (99, ⟨.other, 1, 8, [.d (.v .nilFunc)]⟩),
  (100, ⟨.ptr, 1, 8, [.d (.v (.pointer none))]⟩),
  (101, ⟨.struct [(0, 50), (1, 31), (5, 3), (6, 3)], 7, 120, [.nils 4, .nils 2, .d (.v (.int .i64 0)), .nils 3, .nils 2, .d (.v (.int .i64 0)), .d (.v (.int .i64 0))]⟩),
  (102, ⟨.struct [(0, 50), (1, 31), (5, 3), (6, 3)], 7, 120, [.nils 4, .nils 2, .d (.v (.int .i64 0)), .nils 3, .nils 2, .d (.v (.int .i64 0)), .d (.v (.int .i64 0))]⟩),
  (104, ⟨.other, 1, 8, [.d (.v .nilFunc)]⟩),
  (105, ⟨.other, 1, 8, [.d (.v .nilFunc)]⟩),
  (106, ⟨.other, 1, 8, [.d (.v .nilFunc)]⟩),
  (107, ⟨.other, 1, 8, [.d (.v .nilFunc)]⟩),
  (109, ⟨.other, 1, 8, [.d (.v .nilFunc)]⟩),
  (111, ⟨.other, 1, 8, [.d (.v .nilFunc)]⟩),
  (112, ⟨.struct [(0, 9), (1, 3), (2, 22), (3, 3)], 4, 56, [.d (.v (.string ByteArray.empty)), .d (.v (.int .i64 0)), .nils 4, .d (.v (.int .i64 0))]⟩),
  (113, ⟨.struct [(0, 9), (1, 3), (2, 22), (3, 3)], 4, 56, [.d (.v (.string ByteArray.empty)), .d (.v (.int .i64 0)), .nils 4, .d (.v (.int .i64 0))]⟩),
  (114, ⟨.other, 1, 8, [.d (.v .nilFunc)]⟩),
  (115, ⟨.other, 1, 8, [.d (.v .nilFunc)]⟩),
  (116, ⟨.other, 1, 8, [.d (.v .nilFunc)]⟩),
  (117, ⟨.other, 1, 8, [.d (.v .nilFunc)]⟩),
  (118, ⟨.other, 1, 8, [.d (.v .nilFunc)]⟩),
  (119, ⟨.other, 1, 8, [.d (.v .nilFunc)]⟩),
  (120, ⟨.other, 1, 8, [.d (.v .nilFunc)]⟩),
  (121, ⟨.other, 1, 8, [.d (.v .nilFunc)]⟩),
  (122, ⟨.other, 1, 8, [.d (.v .nilFunc)]⟩),
  (123, ⟨.other, 1, 8, [.d (.v .nilFunc)]⟩),
  (124, ⟨.other, 1, 8, [.d (.v .nilFunc)]⟩),
  (125, ⟨.other, 1, 8, [.d (.v .nilFunc)]⟩),
  (126, ⟨.arr 8 5, 8, 8, [.d (.v (.int .u8 0)), .d (.v (.int .u8 0)), .d (.v (.int .u8 0)), .d (.v (.int .u8 0)), .d (.v (.int .u8 0)), .d (.v (.int .u8 0)), .d (.v (.int .u8 0)), .d (.v (.int .u8 0))]⟩),
  (127, ⟨.other, 1, 8, [.d (.v .nilFunc)]⟩),
  (128, ⟨.other, 1, 8, [.d (.v .nilFunc)]⟩),
  (129, ⟨.struct [(0, 3), (1, 36)], 2, 16, [.d (.v (.int .i64 0)), .d (.v (.int .i64 0))]⟩),
  (130, ⟨.struct [(0, 3), (1, 36)], 2, 16, [.d (.v (.int .i64 0)), .d (.v (.int .i64 0))]⟩),
  (131, ⟨.ptr, 1, 8, [.d (.v (.pointer none))]⟩),
  (132, ⟨.struct [(0, 60), (1, 3), (2, 9)], 3, 48, [.nils 1, .d (.v (.int .i64 0)), .d (.v (.string ByteArray.empty))]⟩),
  (133, ⟨.struct [(0, 60), (1, 3), (2, 9)], 3, 48, [.nils 1, .d (.v (.int .i64 0)), .d (.v (.string ByteArray.empty))]⟩),
  (134, ⟨.other, 1, 8, [.d (.v .nilFunc)]⟩),
  (135, ⟨.other, 1, 8, [.d (.v .nilFunc)]⟩),
  (136, ⟨.slice 139, 1, 24, [.nils 3]⟩),
  (137, ⟨.other, 1, 8, [.d (.v .nilFunc)]⟩),
  (138, ⟨.struct [(0, 3), (1, 75)], 3, 24, [.d (.v (.int .i64 0)), .d (.v (.int .u64 0)), .d (.v (.int .u64 0))]⟩),
  (139, ⟨.struct [(0, 3), (1, 75)], 3, 24, [.d (.v (.int .i64 0)), .d (.v (.int .u64 0)), .d (.v (.int .u64 0))]⟩),
  (140, ⟨.other, 1, 8, [.d (.v .nilFunc)]⟩),
  (141, ⟨.other, 1, 8, [.d (.v .nilFunc)]⟩),
  (142, ⟨.other, 1, 8, [.d (.v .nilFunc)]⟩),
  (143, ⟨.other, 1, 8, [.d (.v .nilFunc)]⟩),
  (144, ⟨.other, 1, 8, [.d (.v .nilFunc)]⟩),
  (146, ⟨.other, 1, 8, [.d (.v .nilFunc)]⟩),
  (147, ⟨.other, 1, 8, [.d (.v .nilFunc)]⟩),
  (148, ⟨.struct [(0, 3), (1, 85)], 2, 32, [.d (.v (.int .i64 0)), .nils 2]⟩),
  (149, ⟨.struct [(0, 3), (1, 85)], 2, 32, [.d (.v (.int .i64 0)), .nils 2]⟩),
  (151, ⟨.other, 1, 8, [.d (.v .nilFunc)]⟩),
  (152, ⟨.other, 1, 8, [.d (.v .nilFunc)]⟩),
  (153, ⟨.other, 1, 8, [.d (.v .nilFunc)]⟩),
  (154, ⟨.other, 1, 8, [.d (.v .nilFunc)]⟩),
  (155, ⟨.other, 1, 8, [.d (.v .nilFunc)]⟩),
  (156, ⟨.other, 1, 8, [.d (.v .nilFunc)]⟩),
  (157, ⟨.other, 1, 8, [.d (.v .nilFunc)]⟩),
  (158, ⟨(.int .u64), 1, 8, [.d (.v (.int .u64 0))]⟩),
  (159, ⟨.other, 1, 8, [.d (.v .nilFunc)]⟩),
  (160, ⟨.other, 1, 8, [.d (.v .nilFunc)]⟩),
  (161, ⟨.other, 1, 8, [.d (.v .nilFunc)]⟩),
  (162, ⟨.other, 1, 8, [.d (.v .nilFunc)]⟩),
  (163, ⟨.other, 1, 8, [.d (.v .nilFunc)]⟩),
  (164, ⟨.other, 1, 8, [.d (.v .nilFunc)]⟩),
  (165, ⟨.other, 1, 8, [.d (.v .nilFunc)]⟩),
  (166, ⟨.other, 1, 8, [.d (.v .nilFunc)]⟩),
  (168, ⟨.other, 1, 8, [.d (.v .nilFunc)]⟩),
  (169, ⟨.other, 1, 8, [.d (.v .nilFunc)]⟩),
  (170, ⟨.other, 1, 8, [.d (.v .nilFunc)]⟩),
  (171, ⟨.other, 1, 8, [.d (.v .nilFunc)]⟩),
  (172, ⟨.other, 1, 8, [.d (.v .nilFunc)]⟩),
  (173, ⟨.other, 1, 8, [.d (.v .nilFunc)]⟩),
  (174, ⟨.other, 1, 8, [.d (.v .nilFunc)]⟩),
  (175, ⟨.other, 1, 8, [.d (.v .nilFunc)]⟩),
  (176, ⟨.other, 1, 8, [.d (.v .nilFunc)]⟩),
  (177, ⟨.other, 1, 8, [.d (.v .nilFunc)]⟩),
  (178, ⟨.other, 1, 8, [.d (.v .nilFunc)]⟩),
  (179, ⟨.other, 1, 8, [.d (.v .nilFunc)]⟩),
  (180, ⟨.other, 1, 8, [.d (.v .nilFunc)]⟩),
  (181, ⟨.struct [(0, 9), (1, 3)], 2, 24, [.d (.v (.string ByteArray.empty)), .d (.v (.int .i64 0))]⟩),
  (182, ⟨.struct [(0, 9), (1, 3)], 2, 24, [.d (.v (.string ByteArray.empty)), .d (.v (.int .i64 0))]⟩),
  (183, ⟨.other, 1, 8, [.d (.v .nilFunc)]⟩),
  (184, ⟨.other, 1, 8, [.d (.v .nilFunc)]⟩),
  (185, ⟨.other, 1, 8, [.d (.v .nilFunc)]⟩),
  (186, ⟨.other, 1, 8, [.d (.v .nilFunc)]⟩),
  (187, ⟨.other, 1, 8, [.d (.v .nilFunc)]⟩),
  (188, ⟨.struct [(0, 3), (1, 22), (2, 3), (3, 9)], 4, 56, [.d (.v (.int .i64 0)), .nils 4, .d (.v (.int .i64 0)), .d (.v (.string ByteArray.empty))]⟩),
  (189, ⟨.struct [(0, 3), (1, 22), (2, 3), (3, 9)], 4, 56, [.d (.v (.int .i64 0)), .nils 4, .d (.v (.int .i64 0)), .d (.v (.string ByteArray.empty))]⟩),
  (191, ⟨.other, 1, 8, [.d (.v .nilFunc)]⟩),
  (192, ⟨.other, 1, 8, [.d (.v .nilFunc)]⟩),
  (193, ⟨.other, 1, 8, [.d (.v .nilFunc)]⟩),
  (194, ⟨.other, 1, 8, [.d (.v .nilFunc)]⟩),
  (195, ⟨.other, 1, 8, [.d (.v .nilFunc)]⟩),
  (196, ⟨.other, 1, 8, [.d (.v .nilFunc)]⟩),
  (197, ⟨.other, 1, 8, [.d (.v .nilFunc)]⟩),
  (198, ⟨.slice 60, 1, 24, [.nils 1]⟩),
  (199, ⟨.other, 1, 8, [.d (.v .nilFunc)]⟩),
  (200, ⟨(.int .u64), 1, 8, [.d (.v (.int .u64 0))]⟩),
  (201, ⟨.struct [(0, 3), (1, 127)], 2, 16, [.d (.v (.int .i64 0)), .d (.v .nilFunc)]⟩),
  (202, ⟨.struct [(0, 3), (1, 127)], 2, 16, [.d (.v (.int .i64 0)), .d (.v .nilFunc)]⟩),
  (204, ⟨.other, 1, 8, [.d (.v .nilFunc)]⟩),
  (205, ⟨.other, 1, 8, [.d (.v .nilFunc)]⟩),
  (206, ⟨.other, 1, 8, [.d (.v .nilFunc)]⟩),
  (207, ⟨.other, 1, 8, [.d (.v .nilFunc)]⟩),
  (208, ⟨.other, 1, 8, [.d (.v .nilFunc)]⟩),
  (209, ⟨.other, 1, 8, [.d (.v .nilFunc)]⟩),
  (210, ⟨.other, 1, 8, [.d (.v .nilFunc)]⟩),
  (211, ⟨.other, 1, 8, [.d (.v .nilFunc)]⟩),
  (212, ⟨.other, 1, 8, [.d (.v .nilFunc)]⟩),
  (213, ⟨.other, 1, 8, [.d (.v .nilFunc)]⟩),
  (214, ⟨.other, 1, 8, [.d (.v .nilFunc)]⟩),
  (215, ⟨.other, 1, 8, [.d (.v .nilFunc)]⟩),
  (216, ⟨.other, 1, 8, [.d (.v .nilFunc)]⟩),
  (217, ⟨.other, 1, 8, [.d (.v .nilFunc)]⟩),
  (218, ⟨.other, 1, 8, [.d (.v .nilFunc)]⟩),
  (219, ⟨.other, 1, 8, [.d (.v .nilFunc)]⟩),
  (220, ⟨.other, 1, 8, [.d (.v .nilFunc)]⟩),
  (222, ⟨.other, 1, 8, [.d (.v .nilFunc)]⟩),
  (223, ⟨.other, 1, 8, [.d (.v .nilFunc)]⟩),
  (224, ⟨.other, 1, 8, [.d (.v .nilFunc)]⟩),
  (225, ⟨.other, 1, 8, [.d (.v .nilFunc)]⟩),
  (226, ⟨.other, 1, 8, [.d (.v .nilFunc)]⟩),
  (227, ⟨.other, 1, 8, [.d (.v .nilFunc)]⟩),
  (228, ⟨.other, 1, 8, [.d (.v .nilFunc)]⟩),
  (229, ⟨.other, 1, 8, [.d (.v .nilFunc)]⟩),
  (230, ⟨.other, 1, 8, [.d (.v .nilFunc)]⟩),
  (231, ⟨.other, 1, 8, [.d (.v .nilFunc)]⟩),
  (232, ⟨.other, 1, 8, [.d (.v .nilFunc)]⟩),
  (233, ⟨.other, 1, 8, [.d (.v .nilFunc)]⟩),
  (234, ⟨.other, 1, 8, [.d (.v .nilFunc)]⟩),
  (235, ⟨.other, 1, 8, [.d (.v .nilFunc)]⟩),
  (236, ⟨.other, 1, 8, [.d (.v .nilFunc)]⟩),
  (237, ⟨.other, 1, 8, [.d (.v .nilFunc)]⟩),
  (238, ⟨.other, 1, 8, [.d (.v .nilFunc)]⟩),
  (239, ⟨.other, 1, 8, [.d (.v .nilFunc)]⟩),
  (240, ⟨.other, 1, 8, [.d (.v .nilFunc)]⟩),
  (242, ⟨.other, 1, 8, [.d (.v .nilFunc)]⟩),
  (243, ⟨.other, 1, 8, [.d (.v .nilFunc)]⟩),
  (244, ⟨.slice 23, 1, 24, [.nils 1]⟩),
  (245, ⟨.other, 1, 8, [.d (.v .nilFunc)]⟩),
  (246, ⟨.other, 1, 8, [.d (.v .nilFunc)]⟩),
  (247, ⟨.other, 1, 8, [.d (.v .nilFunc)]⟩),
  (248, ⟨.other, 1, 8, [.d (.v .nilFunc)]⟩),
  (249, ⟨(.int .i64), 1, 8, [.d (.v (.int .i64 0))]⟩),
  (251, ⟨.other, 1, 8, [.d (.v .nilFunc)]⟩),
  (252, ⟨.other, 1, 8, [.d (.v .nilFunc)]⟩),
  (253, ⟨.other, 1, 8, [.d (.v .nilFunc)]⟩),
  (254, ⟨.other, 1, 8, [.d (.v .nilFunc)]⟩),
  (255, ⟨.other, 1, 8, [.d (.v .nilFunc)]⟩),
  (256, ⟨.other, 1, 8, [.d (.v .nilFunc)]⟩),
  (257, ⟨(.int .u32), 1, 4, [.d (.v (.int .u32 0))]⟩),
  (258, ⟨.other, 1, 8, [.d (.v .nilFunc)]⟩),
  (260, ⟨.other, 1, 8, [.d (.v .nilFunc)]⟩),
  (261, ⟨.other, 1, 8, [.d (.v .nilFunc)]⟩),
  (262, ⟨.other, 1, 8, [.d (.v .nilFunc)]⟩),
  (263, ⟨.other, 1, 8, [.d (.v .nilFunc)]⟩),
  (264, ⟨.slice 202, 1, 24, [.nils 2]⟩),
  (265, ⟨.arr 5 202, 10, 80, [.d (.v (.int .i64 0)), .d (.v .nilFunc), .d (.v (.int .i64 0)), .d (.v .nilFunc), .d (.v (.int .i64 0)), .d (.v .nilFunc), .d (.v (.int .i64 0)), .d (.v .nilFunc), .d (.v (.int .i64 0)), .d (.v .nilFunc)]⟩),
  (266, ⟨.other, 1, 8, [.d (.v .nilFunc)]⟩),
  (267, ⟨.other, 1, 8, [.d (.v .nilFunc)]⟩),
  (268, ⟨.other, 1, 8, [.d (.v .nilFunc)]⟩),
  (269, ⟨.arr 256 4, 256, 256, List.replicate 256 (.d (.v (.bool false)))⟩),
  (270, ⟨.arr 256 4, 256, 256, List.replicate 256 (.d (.v (.bool false)))⟩),
  (272, ⟨.other, 1, 8, [.d (.v .nilFunc)]⟩),
  (273, ⟨.other, 1, 8, [.d (.v .nilFunc)]⟩),
  (274, ⟨.ptr, 1, 8, [.d (.v (.pointer none))]⟩),
  (275, ⟨.other, 1, 8, [.d (.v .nilFunc)]⟩),
  (276, ⟨.other, 1, 8, [.d (.v .nilFunc)]⟩),
  (277, ⟨.other, 1, 8, [.d (.v .nilFunc)]⟩),
  (278, ⟨.iface, 1, 16, [.d (.v .nilIface)]⟩),
  (279, ⟨.iface, 1, 16, [.d (.v .nilIface)]⟩),
  (281, ⟨.other, 1, 8, [.d (.v .nilFunc)]⟩),
  (282, ⟨.arr 3 56, 3, 24, [.d (.v (.int .u64 0)), .d (.v (.int .u64 0)), .d (.v (.int .u64 0))]⟩),
  (283, ⟨.slice 56, 1, 24, [.nils 1]⟩),
  (284, ⟨.other, 1, 8, [.d (.v .nilFunc)]⟩),
  (285, ⟨.other, 1, 8, [.d (.v .nilFunc)]⟩),
  (286, ⟨.other, 1, 8, [.d (.v .nilFunc)]⟩),
  (287, ⟨.other, 1, 8, [.d (.v .nilFunc)]⟩),
  (288, ⟨.other, 1, 8, [.d (.v .nilFunc)]⟩),
  (289, ⟨.other, 1, 8, [.d (.v .nilFunc)]⟩),
  (290, ⟨.other, 1, 8, [.d (.v .nilFunc)]⟩),
  (291, ⟨.other, 1, 8, [.d (.v .nilFunc)]⟩),
  (292, ⟨.other, 1, 8, [.d (.v .nilFunc)]⟩),
  (293, ⟨.other, 1, 8, [.d (.v .nilFunc)]⟩),
  (294, ⟨.other, 1, 8, [.d (.v .nilFunc)]⟩),
  (295, ⟨.other, 1, 8, [.d (.v .nilFunc)]⟩),
  (296, ⟨.other, 1, 8, [.d (.v .nilFunc)]⟩),
  (297, ⟨.other, 1, 8, [.d (.v .nilFunc)]⟩),
  (298, ⟨.other, 1, 8, [.d (.v .nilFunc)]⟩),
  (299, ⟨.other, 1, 8, [.d (.v .nilFunc)]⟩),
  (300, ⟨(.int .u64), 1, 8, [.d (.v (.int .u64 0))]⟩),
  (301, ⟨.other, 1, 8, [.d (.v .nilFunc)]⟩),
  (302, ⟨.other, 1, 8, [.d (.v .nilFunc)]⟩),
  (303, ⟨.other, 1, 8, [.d (.v .nilFunc)]⟩),
  (304, ⟨.ptr, 1, 8, [.d (.v (.pointer none))]⟩),
  (305, ⟨.other, 1, 8, [.d (.v .nilFunc)]⟩),
  (306, ⟨.other, 1, 8, [.d (.v .nilFunc)]⟩),
  (308, ⟨.other, 1, 8, [.d (.v .nilFunc)]⟩),
  (309, ⟨.other, 1, 8, [.d (.v .nilFunc)]⟩),
  (310, ⟨.other, 1, 8, [.d (.v .nilFunc)]⟩),
  (311, ⟨.arr 256 4, 256, 256, List.replicate 256 (.d (.v (.bool false)))⟩),
  (313, ⟨.other, 1, 8, [.d (.v .nilFunc)]⟩),
  (314, ⟨.other, 1, 8, [.d (.v .nilFunc)]⟩),
  (315, ⟨.ptr, 1, 8, [.d (.v (.pointer none))]⟩),
  (316, ⟨.other, 1, 8, [.d (.v .nilFunc)]⟩),
  (317, ⟨.other, 1, 8, [.d (.v .nilFunc)]⟩),
  (318, ⟨.other, 1, 8, [.d (.v .nilFunc)]⟩),
  (319, ⟨.other, 1, 8, [.d (.v .nilFunc)]⟩),
  (320, ⟨.arr 3 56, 3, 24, [.d (.v (.int .u64 0)), .d (.v (.int .u64 0)), .d (.v (.int .u64 0))]⟩),
  (321, ⟨.other, 1, 8, [.d (.v .nilFunc)]⟩),
  (322, ⟨.other, 1, 8, [.d (.v .nilFunc)]⟩),
  (323, ⟨.other, 1, 8, [.d (.v .nilFunc)]⟩),
  (324, ⟨.other, 1, 8, [.d (.v .nilFunc)]⟩),
  (325, ⟨.other, 1, 8, [.d (.v .nilFunc)]⟩),
  (326, ⟨.other, 1, 8, [.d (.v .nilFunc)]⟩),
  (328, ⟨.other, 1, 8, [.d (.v .nilFunc)]⟩),
  (329, ⟨.other, 1, 8, [.d (.v .nilFunc)]⟩),
  (330, ⟨.other, 1, 8, [.d (.v .nilFunc)]⟩),
  (331, ⟨.other, 1, 8, [.d (.v .nilFunc)]⟩),
  (332, ⟨.ptr, 1, 8, [.d (.v (.pointer none))]⟩),
  (334, ⟨.other, 1, 8, [.d (.v .nilFunc)]⟩),
  (335, ⟨.other, 1, 8, [.d (.v .nilFunc)]⟩),
  (337, ⟨.other, 1, 8, [.d (.v .nilFunc)]⟩),
  (338, ⟨.ptr, 1, 8, [.d (.v (.pointer none))]⟩),
  (339, ⟨.other, 1, 8, [.d (.v .nilFunc)]⟩),
  (340, ⟨.other, 1, 8, [.d (.v .nilFunc)]⟩),
  (341, ⟨.ptr, 1, 8, [.d (.v (.pointer none))]⟩),
  (342, ⟨.other, 1, 8, [.d (.v .nilFunc)]⟩),
  (343, ⟨.other, 1, 8, [.d (.v .nilFunc)]⟩),
  (344, ⟨.other, 1, 8, [.d (.v .nilFunc)]⟩),
  (346, ⟨.other, 1, 8, [.d (.v .nilFunc)]⟩),
  (347, ⟨.arr 256 5, 256, 256, List.replicate 256 (.d (.v (.int .u8 0)))⟩),
  (348, ⟨.struct [(0, 5), (1, 5)], 2, 2, [.d (.v (.int .u8 0)), .d (.v (.int .u8 0))]⟩),
  (349, ⟨.struct [(0, 5), (1, 5)], 2, 2, [.d (.v (.int .u8 0)), .d (.v (.int .u8 0))]⟩),
  (350, ⟨.arr 16 349, 32, 32, List.replicate 32 (.d (.v (.int .u8 0)))⟩),
  (351, ⟨.other, 1, 8, [.d (.v .nilFunc)]⟩),
  (354, ⟨.other, 1, 8, [.d (.v .nilFunc)]⟩),
  (355, ⟨.other, 1, 8, [.d (.v .nilFunc)]⟩),
  (356, ⟨.ptr, 1, 8, [.d (.v (.pointer none))]⟩),
  (357, ⟨.ptr, 1, 8, [.d (.v (.pointer none))]⟩),
  (358, ⟨.struct [(0, 9)], 1, 16, [.d (.v (.string ByteArray.empty))]⟩),
  (359, ⟨.struct [(0, 9)], 1, 16, [.d (.v (.string ByteArray.empty))]⟩),
  (360, ⟨.other, 1, 8, [.d (.v .nilFunc)]⟩),
  (361, ⟨.arr 24 5, 24, 24, List.replicate 24 (.d (.v (.int .u8 0)))⟩),
  (362, ⟨.other, 1, 8, [.d (.v .nilFunc)]⟩),
  (364, ⟨.other, 1, 8, [.d (.v .nilFunc)]⟩),
  (365, ⟨.other, 1, 8, [.d (.v .nilFunc)]⟩),
  (366, ⟨.arr 20 56, 20, 160, List.replicate 20 (.d (.v (.int .u64 0)))⟩),
  (367, ⟨.arr 65 5, 65, 65, List.replicate 65 (.d (.v (.int .u8 0)))⟩),
  (368, ⟨.arr 32 5, 32, 32, List.replicate 32 (.d (.v (.int .u8 0)))⟩),
  (369, ⟨.arr 64 5, 64, 64, List.replicate 64 (.d (.v (.int .u8 0)))⟩),
  (370, ⟨.other, 1, 8, [.d (.v .nilFunc)]⟩),
  (376, ⟨.other, 1, 8, [.d (.v .nilFunc)]⟩),
  (379, ⟨.other, 1, 8, [.d (.v .nilFunc)]⟩),
  (385, ⟨.other, 1, 8, [.d (.v .nilFunc)]⟩),
  (386, ⟨.other, 1, 8, [.d (.v .nilFunc)]⟩)]
theorem ext87 : ExtOk Tryz.prog 87 (.overlaps 22 4) := ⟨Tryz.f87, Tryz.func87, by kernel_rfl, by kernel_rfl, by kernel_rfl, by kernel_rfl⟩
theorem ext181 : ExtOk Tryz.prog 181 (.overlaps 48 4) := ⟨Tryz.f181, Tryz.func181, by kernel_rfl, by kernel_rfl, by kernel_rfl, by kernel_rfl⟩
theorem ext195 : ExtOk Tryz.prog 195 (.add64) := ⟨Tryz.f195, Tryz.func195, by kernel_rfl, by kernel_rfl, by kernel_rfl, by kernel_rfl⟩
theorem ext223 : ExtOk Tryz.prog 223 (.overlaps 85 4) := ⟨Tryz.f223, Tryz.func223, by kernel_rfl, by kernel_rfl, by kernel_rfl, by kernel_rfl⟩
theorem ext225 : ExtOk Tryz.prog 225 (.overlaps 27 4) := ⟨Tryz.f225, Tryz.func225, by kernel_rfl, by kernel_rfl, by kernel_rfl, by kernel_rfl⟩
theorem ext227 : ExtOk Tryz.prog 227 (.overlaps 28 4) := ⟨Tryz.f227, Tryz.func227, by kernel_rfl, by kernel_rfl, by kernel_rfl, by kernel_rfl⟩
theorem ext231 : ExtOk Tryz.prog 231 (.cmpString) := ⟨Tryz.f231, Tryz.func231, by kernel_rfl, by kernel_rfl, by kernel_rfl, by kernel_rfl⟩
theorem ext264 : ExtOk Tryz.prog 264 (.countString) := ⟨Tryz.f264, Tryz.func264, by kernel_rfl, by kernel_rfl, by kernel_rfl, by kernel_rfl⟩
theorem ext298 : ExtOk Tryz.prog 298 (.indexByteString) := ⟨Tryz.f298, Tryz.func298, by kernel_rfl, by kernel_rfl, by kernel_rfl, by kernel_rfl⟩
def extTable : List (FuncId × Ext) := [(87, .overlaps 22 4), (181, .overlaps 48 4), (195, .add64), (223, .overlaps 85 4), (225, .overlaps 27 4), (227, .overlaps 28 4), (231, .cmpString), (264, .countString), (298, .indexByteString)]
theorem extTable_ok : ExtAll Tryz.prog extTable := ⟨ext87, ext181, ext195, ext223, ext225, ext227, ext231, ext264, ext298, trivial⟩
theorem tyTable_ok : tyCheckAll Tryz.prog tyTable = true := by kernel_rfl
theorem mixed : Tryz.prog.follows .mixedOrders = true := by kernel_rfl
def tys : Ctx := ⟨fun t => tyL tyTable t, fun f => extL extTable f⟩
theorem sitOk {ro : Option Nat} {pin : Pin} : SitOk ⟨Tryz.prog, tys, ro, pin⟩ := ⟨ctxOk_of tyTable_ok extTable_ok, mixed⟩
/-- A contract, from what the body asks. -/
theorem meets {f : FuncId} {fn : Func} {code : Code} {args : List (Bool × List CV)} {res : Res} {nt : Nat} {rl : List ResultVar} (hf : Tryz.prog.funcs[f]? = some fn) (hb : fn.body = some code) (hname : (fn.name == "runtime.NumGoroutine") = false) (hnt : fn.ntmps = nt) (hrs : fn.results = rl.toArray) (hlen : decide (args.length ≤ nt) = true)
    (h : vc ⟨Tryz.prog, tys, none, ⟨0, []⟩⟩ code (RetS tys rl res) (initSt nt args)) : Meets Tryz.prog f args res := by
  subst hnt
  refine meets_of_body (E := ⟨Tryz.prog, tys, none, ⟨0, []⟩⟩) sitOk rfl hf hb hname (of_decide_eq_true hlen) ?_
  rw [hrs]; exact awp_mono (awp_vc sitOk h) fun e st h => by simpa using RetS.retQ e st h
theorem tysOk : CtxOk Tryz.prog tys := ctxOk_of tyTable_ok extTable_ok
theorem own : ownKnob Tryz.prog.godebug = none := by kernel_rfl
theorem laidOut : laidOutB Tryz.prog = true := by kernel_rfl
/-- The like, where objects are frozen as it ends. -/
theorem meetsF {f : FuncId} {fn : Func} {code : Code} {args : List (Bool × List CV)} {res : Res} {nt : Nat} {rl : List ResultVar} (hf : Tryz.prog.funcs[f]? = some fn) (hb : fn.body = some code) (hname : (fn.name == "runtime.NumGoroutine") = false) (hnt : fn.ntmps = nt) (hrs : fn.results = rl.toArray) (hlen : decide (args.length ≤ nt) = true)
    (h : vc ⟨Tryz.prog, tys, none, ⟨0, []⟩⟩ code (RetQ tys rl res) (initSt nt args)) : Meets Tryz.prog f args res := by
  subst hnt
  refine meets_of_body (E := ⟨Tryz.prog, tys, none, ⟨0, []⟩⟩) sitOk rfl hf hb hname (of_decide_eq_true hlen) ?_
  rw [hrs]; exact awp_mono (awp_vc sitOk h) fun e st h => by simpa using h
/-- A call by a walk over the caller's objects. -/
theorem callW {ro : Option Nat} {pin : Pin} {R : Reg} {acc : List Ft} {st : St} {j : Nat} {f : FuncId} {fn : Func} {code : Code} {A : List (Bool × List AV)} {cv : Option (List (Bool × List CV))} {K : Kop} {KH : AT → List (Nat × Option AObj) → Nat → Prop} {nt : Nat} {rl : List ResultVar} (hd : R.draw = false) (hf : Tryz.prog.funcs[f]? = some fn) (hb : fn.body = some code) (hname : (fn.name == "runtime.NumGoroutine") = false) (hnt : fn.ntmps = nt) (hrs : fn.results = rl.toArray) (hlen : decide (A.length ≤ nt) = true)
    (h : vc ⟨Tryz.prog, tys, none, ⟨R.N + 8 * j, []⟩⟩ code (retH tys rl KH) ⟨nt, initEnv 0 A, st.objs, R.N + 8 * j⟩) : VCall ⟨Tryz.prog, tys, ro, pin⟩ R acc st j (some (f, A)) cv K KH := by
  subst hnt
  refine callH hd (hcall_of_body sitOk hf hb hname (of_decide_eq_true hlen) ?_)
  rw [hrs]; exact awp_vc sitOk h
theorem callWd {ro : Option Nat} {pin : Pin} {R : Reg} {acc : List Ft} {st : St} {j : Nat} {f : FuncId} {fn : Func} {code : Code} {A : List (Bool × List AV)} {cv : Option (List (Bool × List CV))} {K : Kop} {KH : AT → List (Nat × Option AObj) → Nat → Prop} {nt : Nat} {rl : List ResultVar} (hd : drawF R.ops acc.reverse = true) (hc : cutOk R.ops j = true) (hf : Tryz.prog.funcs[f]? = some fn) (hb : fn.body = some code) (hname : (fn.name == "runtime.NumGoroutine") = false) (hnt : fn.ntmps = nt) (hrs : fn.results = rl.toArray) (hlen : decide (A.length ≤ nt) = true)
    (h : vc ⟨Tryz.prog, tys, none, ⟨R.N + 8 * j, []⟩⟩ code (retH tys rl KH) ⟨nt, initEnv 0 A, st.objs, R.N + 8 * j⟩) : VCall ⟨Tryz.prog, tys, ro, pin⟩ R acc st j (some (f, A)) cv K KH := by
  subst hnt
  refine callHd hd hc (hcall_of_body sitOk hf hb hname (of_decide_eq_true hlen) ?_)
  rw [hrs]; exact awp_vc sitOk h
/-- The like, by a walk that is not yet rewriting. -/
theorem meetsA {f : FuncId} {fn : Func} {code : Code} {args : List (Bool × List CV)} {res : Res} {nt : Nat} {rl : List ResultVar} (hf : Tryz.prog.funcs[f]? = some fn) (hb : fn.body = some code) (hname : (fn.name == "runtime.NumGoroutine") = false) (hnt : fn.ntmps = nt) (hrs : fn.results = rl.toArray) (hlen : decide (args.length ≤ nt) = true)
    (h : AWp ⟨Tryz.prog, tys, none, ⟨0, []⟩⟩ code (RetS tys rl res) (initSt nt args)) : Meets Tryz.prog f args res := by
  subst hnt
  refine meets_of_body (E := ⟨Tryz.prog, tys, none, ⟨0, []⟩⟩) sitOk rfl hf hb hname (of_decide_eq_true hlen) ?_
  rw [hrs]; exact awp_mono h fun e st h => by simpa using RetS.retQ e st h


theorem ty3 : tys.ty 3 = some ⟨(.int .i64), 1, 8, [.d (.v (.int .i64 0))]⟩ := rfl
theorem sz3 : tys.size 3 = some 1 := rfl
theorem ag3 : tys.agg 3 = some false := rfl
attribute [go_sem] ty3 sz3 ag3
theorem ty4 : tys.ty 4 = some ⟨.bool, 1, 1, [.d (.v (.bool false))]⟩ := rfl
theorem sz4 : tys.size 4 = some 1 := rfl
theorem ag4 : tys.agg 4 = some false := rfl
attribute [go_sem] ty4 sz4 ag4
theorem ty5 : tys.ty 5 = some ⟨(.int .u8), 1, 1, [.d (.v (.int .u8 0))]⟩ := rfl
attribute [go_sem] ty5 
theorem ty9 : tys.ty 9 = some ⟨.str, 1, 16, [.d (.v (.string ByteArray.empty))]⟩ := rfl
theorem sz9 : tys.size 9 = some 1 := rfl
theorem ag9 : tys.agg 9 = some false := rfl
attribute [go_sem] ty9 sz9 ag9






theorem ty22 : tys.ty 22 = some ⟨.slice 26, 1, 24, [.nils 4]⟩ := rfl
theorem sz22 : tys.size 22 = some 1 := rfl
theorem ag22 : tys.agg 22 = some false := rfl
theorem el22 : tys.elem 22 = some 26 := rfl
attribute [go_sem] ty22 sz22 ag22 el22
theorem ty23 : tys.ty 23 = some ⟨.other, 1, 8, [.d (.v .nilFunc)]⟩ := rfl
theorem sz23 : tys.size 23 = some 1 := rfl
theorem ag23 : tys.agg 23 = some false := rfl
attribute [go_sem] ty23 sz23 ag23


theorem ty26 : tys.ty 26 = some ⟨.struct [(0, 9), (1, 3), (2, 9), (3, 3)], 4, 48, [.d (.v (.string ByteArray.empty)), .d (.v (.int .i64 0)), .d (.v (.string ByteArray.empty)), .d (.v (.int .i64 0))]⟩ := rfl
theorem sz26 : tys.size 26 = some 4 := rfl
theorem ag26 : tys.agg 26 = some true := rfl
theorem fl26 : tys.fields 26 = some [(0, 9), (1, 3), (2, 9), (3, 3)] := rfl
attribute [go_sem] ty26 sz26 ag26 fl26
theorem ty27 : tys.ty 27 = some ⟨.slice 149, 1, 24, [.nils 2]⟩ := rfl
theorem sz27 : tys.size 27 = some 1 := rfl
theorem ag27 : tys.agg 27 = some false := rfl
theorem el27 : tys.elem 27 = some 149 := rfl
attribute [go_sem] ty27 sz27 ag27 el27
theorem ty28 : tys.ty 28 = some ⟨.slice 90, 1, 24, [.nils 3]⟩ := rfl
theorem sz28 : tys.size 28 = some 1 := rfl
theorem ag28 : tys.agg 28 = some false := rfl
theorem el28 : tys.elem 28 = some 90 := rfl
attribute [go_sem] ty28 sz28 ag28 el28
theorem ty29 : tys.ty 29 = some ⟨.slice 182, 1, 24, [.nils 2]⟩ := rfl
theorem sz29 : tys.size 29 = some 1 := rfl
theorem ag29 : tys.agg 29 = some false := rfl
theorem el29 : tys.elem 29 = some 182 := rfl
attribute [go_sem] ty29 sz29 ag29 el29

theorem ty31 : tys.ty 31 = some ⟨.struct [(0, 27), (1, 3), (2, 28), (3, 29)], 4, 80, [.nils 2, .d (.v (.int .i64 0)), .nils 3, .nils 2]⟩ := rfl
theorem sz31 : tys.size 31 = some 4 := rfl
theorem ag31 : tys.agg 31 = some true := rfl
theorem fl31 : tys.fields 31 = some [(0, 27), (1, 3), (2, 28), (3, 29)] := rfl
attribute [go_sem] ty31 sz31 ag31 fl31


theorem ty35 : tys.ty 35 = some ⟨.struct [(0, 9), (1, 22)], 2, 40, [.d (.v (.string ByteArray.empty)), .nils 4]⟩ := rfl
theorem sz35 : tys.size 35 = some 2 := rfl
theorem ag35 : tys.agg 35 = some true := rfl
theorem fl35 : tys.fields 35 = some [(0, 9), (1, 22)] := rfl
attribute [go_sem] ty35 sz35 ag35 fl35
theorem ty36 : tys.ty 36 = some ⟨(.int .i64), 1, 8, [.d (.v (.int .i64 0))]⟩ := rfl
theorem sz36 : tys.size 36 = some 1 := rfl
theorem ag36 : tys.agg 36 = some false := rfl
attribute [go_sem] ty36 sz36 ag36


theorem ty40 : tys.ty 40 = some ⟨.slice 4, 1, 24, [.nils 1]⟩ := rfl
theorem sz40 : tys.size 40 = some 1 := rfl
theorem ag40 : tys.agg 40 = some false := rfl
theorem el40 : tys.elem 40 = some 4 := rfl
attribute [go_sem] ty40 sz40 ag40 el40

theorem ty42 : tys.ty 42 = some ⟨.struct [(0, 9), (1, 3), (2, 40)], 3, 48, [.d (.v (.string ByteArray.empty)), .d (.v (.int .i64 0)), .nils 1]⟩ := rfl
theorem sz42 : tys.size 42 = some 3 := rfl
theorem ag42 : tys.agg 42 = some true := rfl
theorem fl42 : tys.fields 42 = some [(0, 9), (1, 3), (2, 40)] := rfl
attribute [go_sem] ty42 sz42 ag42 fl42
theorem ty43 : tys.ty 43 = some ⟨.slice 50, 1, 24, [.nils 1]⟩ := rfl
theorem el43 : tys.elem 43 = some 50 := rfl
attribute [go_sem] ty43 el43



theorem ty48 : tys.ty 48 = some ⟨.slice 113, 1, 24, [.nils 4]⟩ := rfl
theorem sz48 : tys.size 48 = some 1 := rfl
theorem ag48 : tys.agg 48 = some false := rfl
theorem el48 : tys.elem 48 = some 113 := rfl
attribute [go_sem] ty48 sz48 ag48 el48

theorem ty50 : tys.ty 50 = some ⟨.struct [(0, 48)], 1, 24, [.nils 4]⟩ := rfl
theorem sz50 : tys.size 50 = some 1 := rfl
theorem ag50 : tys.agg 50 = some true := rfl
theorem fl50 : tys.fields 50 = some [(0, 48)] := rfl
attribute [go_sem] ty50 sz50 ag50 fl50

theorem ty53 : tys.ty 53 = some ⟨.slice 3, 1, 24, [.nils 1]⟩ := rfl
theorem el53 : tys.elem 53 = some 3 := rfl
attribute [go_sem] ty53 el53



























theorem ty85 : tys.ty 85 = some ⟨.slice 35, 1, 24, [.nils 2]⟩ := rfl
theorem sz85 : tys.size 85 = some 1 := rfl
theorem ag85 : tys.agg 85 = some false := rfl
theorem el85 : tys.elem 85 = some 35 := rfl
attribute [go_sem] ty85 sz85 ag85 el85



theorem ty90 : tys.ty 90 = some ⟨.struct [(0, 3), (1, 3), (2, 3)], 3, 24, [.d (.v (.int .i64 0)), .d (.v (.int .i64 0)), .d (.v (.int .i64 0))]⟩ := rfl
theorem sz90 : tys.size 90 = some 3 := rfl
theorem ag90 : tys.agg 90 = some true := rfl
theorem fl90 : tys.fields 90 = some [(0, 3), (1, 3), (2, 3)] := rfl
attribute [go_sem] ty90 sz90 ag90 fl90








theorem sz100 : tys.size 100 = some 1 := rfl
theorem ag100 : tys.agg 100 = some false := rfl
attribute [go_sem] sz100 ag100

theorem ty102 : tys.ty 102 = some ⟨.struct [(0, 50), (1, 31), (5, 3), (6, 3)], 7, 120, [.nils 4, .nils 2, .d (.v (.int .i64 0)), .nils 3, .nils 2, .d (.v (.int .i64 0)), .d (.v (.int .i64 0))]⟩ := rfl
theorem fl102 : tys.fields 102 = some [(0, 50), (1, 31), (5, 3), (6, 3)] := rfl
attribute [go_sem] ty102 fl102







theorem ty113 : tys.ty 113 = some ⟨.struct [(0, 9), (1, 3), (2, 22), (3, 3)], 4, 56, [.d (.v (.string ByteArray.empty)), .d (.v (.int .i64 0)), .nils 4, .d (.v (.int .i64 0))]⟩ := rfl
theorem sz113 : tys.size 113 = some 4 := rfl
theorem ag113 : tys.agg 113 = some true := rfl
theorem fl113 : tys.fields 113 = some [(0, 9), (1, 3), (2, 22), (3, 3)] := rfl
attribute [go_sem] ty113 sz113 ag113 fl113


































theorem ty149 : tys.ty 149 = some ⟨.struct [(0, 3), (1, 85)], 2, 32, [.d (.v (.int .i64 0)), .nils 2]⟩ := rfl
theorem sz149 : tys.size 149 = some 2 := rfl
theorem ag149 : tys.agg 149 = some true := rfl
theorem fl149 : tys.fields 149 = some [(0, 3), (1, 85)] := rfl
attribute [go_sem] ty149 sz149 ag149 fl149




theorem sz155 : tys.size 155 = some 1 := rfl
theorem ag155 : tys.agg 155 = some false := rfl
attribute [go_sem] sz155 ag155

theorem sz157 : tys.size 157 = some 1 := rfl
theorem ag157 : tys.agg 157 = some false := rfl
attribute [go_sem] sz157 ag157
theorem ty158 : tys.ty 158 = some ⟨(.int .u64), 1, 8, [.d (.v (.int .u64 0))]⟩ := rfl
attribute [go_sem] ty158 






















theorem ty182 : tys.ty 182 = some ⟨.struct [(0, 9), (1, 3)], 2, 24, [.d (.v (.string ByteArray.empty)), .d (.v (.int .i64 0))]⟩ := rfl
theorem sz182 : tys.size 182 = some 2 := rfl
theorem ag182 : tys.agg 182 = some true := rfl
theorem fl182 : tys.fields 182 = some [(0, 9), (1, 3)] := rfl
attribute [go_sem] ty182 sz182 ag182 fl182






theorem ty189 : tys.ty 189 = some ⟨.struct [(0, 3), (1, 22), (2, 3), (3, 9)], 4, 56, [.d (.v (.int .i64 0)), .nils 4, .d (.v (.int .i64 0)), .d (.v (.string ByteArray.empty))]⟩ := rfl
theorem sz189 : tys.size 189 = some 4 := rfl
theorem ag189 : tys.agg 189 = some true := rfl
theorem fl189 : tys.fields 189 = some [(0, 3), (1, 22), (2, 3), (3, 9)] := rfl
attribute [go_sem] ty189 sz189 ag189 fl189


















































theorem el244 : tys.elem 244 = some 23 := rfl
attribute [go_sem] el244





















































































































theorem ex5 : tys.ext 5 = none := rfl
theorem ex6 : tys.ext 6 = none := rfl
theorem ex7 : tys.ext 7 = none := rfl
theorem ex8 : tys.ext 8 = none := rfl
theorem ex9 : tys.ext 9 = none := rfl
theorem ex10 : tys.ext 10 = none := rfl
theorem ex11 : tys.ext 11 = none := rfl
theorem ex12 : tys.ext 12 = none := rfl
theorem ex13 : tys.ext 13 = none := rfl
theorem ex24 : tys.ext 24 = none := rfl
theorem ex25 : tys.ext 25 = none := rfl
theorem ex26 : tys.ext 26 = none := rfl
theorem ex27 : tys.ext 27 = none := rfl
theorem ex28 : tys.ext 28 = none := rfl
theorem ex29 : tys.ext 29 = none := rfl
theorem ex30 : tys.ext 30 = none := rfl
theorem ex31 : tys.ext 31 = none := rfl
theorem ex32 : tys.ext 32 = none := rfl
theorem ex33 : tys.ext 33 = none := rfl
theorem ex34 : tys.ext 34 = none := rfl
theorem ex35 : tys.ext 35 = none := rfl
theorem ex36 : tys.ext 36 = none := rfl
theorem ex37 : tys.ext 37 = none := rfl
theorem ex38 : tys.ext 38 = none := rfl
theorem ex39 : tys.ext 39 = none := rfl
theorem ex40 : tys.ext 40 = none := rfl
theorem ex41 : tys.ext 41 = none := rfl
theorem ex42 : tys.ext 42 = none := rfl
theorem ex43 : tys.ext 43 = none := rfl
theorem ex44 : tys.ext 44 = none := rfl
theorem ex45 : tys.ext 45 = none := rfl
theorem ex46 : tys.ext 46 = none := rfl
theorem ex71 : tys.ext 71 = none := rfl
theorem ex72 : tys.ext 72 = none := rfl
theorem ex73 : tys.ext 73 = none := rfl
theorem ex74 : tys.ext 74 = none := rfl
theorem ex75 : tys.ext 75 = none := rfl
theorem ex76 : tys.ext 76 = none := rfl
theorem ex78 : tys.ext 78 = none := rfl
theorem ex80 : tys.ext 80 = none := rfl
theorem ex82 : tys.ext 82 = none := rfl
theorem ex83 : tys.ext 83 = none := rfl
theorem ex84 : tys.ext 84 = none := rfl
theorem ex85 : tys.ext 85 = none := rfl
theorem ex86 : tys.ext 86 = none := rfl
theorem ex87 : tys.ext 87 = some (.overlaps 22 4) := rfl
theorem ex89 : tys.ext 89 = none := rfl
theorem ex90 : tys.ext 90 = none := rfl
theorem ex91 : tys.ext 91 = none := rfl
theorem ex92 : tys.ext 92 = none := rfl
theorem ex93 : tys.ext 93 = none := rfl
theorem ex94 : tys.ext 94 = none := rfl
theorem ex95 : tys.ext 95 = none := rfl
theorem ex96 : tys.ext 96 = none := rfl
theorem ex98 : tys.ext 98 = none := rfl
theorem ex100 : tys.ext 100 = none := rfl
theorem ex102 : tys.ext 102 = none := rfl
theorem ex105 : tys.ext 105 = none := rfl
theorem ex106 : tys.ext 106 = none := rfl
theorem ex107 : tys.ext 107 = none := rfl
theorem ex108 : tys.ext 108 = none := rfl
theorem ex109 : tys.ext 109 = none := rfl
theorem ex110 : tys.ext 110 = none := rfl
theorem ex111 : tys.ext 111 = none := rfl
theorem ex113 : tys.ext 113 = none := rfl
theorem ex115 : tys.ext 115 = none := rfl
theorem ex147 : tys.ext 147 = none := rfl
theorem ex148 : tys.ext 148 = none := rfl
theorem ex149 : tys.ext 149 = none := rfl
theorem ex150 : tys.ext 150 = none := rfl
theorem ex151 : tys.ext 151 = none := rfl
theorem ex152 : tys.ext 152 = none := rfl
theorem ex153 : tys.ext 153 = none := rfl
theorem ex154 : tys.ext 154 = none := rfl
theorem ex155 : tys.ext 155 = none := rfl
theorem ex156 : tys.ext 156 = none := rfl
theorem ex157 : tys.ext 157 = none := rfl
theorem ex158 : tys.ext 158 = none := rfl
theorem ex160 : tys.ext 160 = none := rfl
theorem ex161 : tys.ext 161 = none := rfl
theorem ex162 : tys.ext 162 = none := rfl
theorem ex163 : tys.ext 163 = none := rfl
theorem ex166 : tys.ext 166 = none := rfl
theorem ex168 : tys.ext 168 = none := rfl
theorem ex171 : tys.ext 171 = none := rfl
theorem ex172 : tys.ext 172 = none := rfl
theorem ex174 : tys.ext 174 = none := rfl
theorem ex180 : tys.ext 180 = none := rfl
theorem ex181 : tys.ext 181 = some (.overlaps 48 4) := rfl
theorem ex194 : tys.ext 194 = none := rfl
theorem ex196 : tys.ext 196 = none := rfl
theorem ex197 : tys.ext 197 = none := rfl
theorem ex216 : tys.ext 216 = none := rfl
theorem ex217 : tys.ext 217 = none := rfl
theorem ex218 : tys.ext 218 = none := rfl
theorem ex220 : tys.ext 220 = none := rfl
theorem ex221 : tys.ext 221 = none := rfl
theorem ex223 : tys.ext 223 = some (.overlaps 85 4) := rfl
theorem ex225 : tys.ext 225 = some (.overlaps 27 4) := rfl
theorem ex227 : tys.ext 227 = some (.overlaps 28 4) := rfl
theorem ex229 : tys.ext 229 = none := rfl
theorem ex230 : tys.ext 230 = none := rfl
theorem ex231 : tys.ext 231 = some (.cmpString) := rfl
theorem ex234 : tys.ext 234 = none := rfl
theorem ex242 : tys.ext 242 = none := rfl
theorem ex256 : tys.ext 256 = none := rfl
theorem ex264 : tys.ext 264 = some (.countString) := rfl
theorem ex265 : tys.ext 265 = none := rfl
theorem ex266 : tys.ext 266 = none := rfl
theorem ex267 : tys.ext 267 = none := rfl
theorem ex268 : tys.ext 268 = none := rfl
theorem ex272 : tys.ext 272 = none := rfl
theorem ex273 : tys.ext 273 = none := rfl
theorem ex291 : tys.ext 291 = none := rfl
theorem ex292 : tys.ext 292 = none := rfl
theorem ex294 : tys.ext 294 = none := rfl
theorem ex298 : tys.ext 298 = some (.indexByteString) := rfl
attribute [go_sem] ex5 ex6 ex7 ex8 ex9 ex10 ex11 ex12 ex13 ex24 ex25 ex26 ex27 ex28 ex29 ex30 ex31 ex32 ex33 ex34 ex35 ex36 ex37 ex38 ex39 ex40 ex41 ex42 ex43 ex44 ex45 ex46 ex71 ex72 ex73 ex74 ex75 ex76 ex78 ex80 ex82 ex83 ex84 ex85 ex86 ex87 ex89 ex90 ex91 ex92 ex93 ex94 ex95 ex96 ex98 ex100 ex102 ex105 ex106 ex107 ex108 ex109 ex110 ex111 ex113 ex115 ex147 ex148 ex149 ex150 ex151 ex152 ex153 ex154 ex155 ex156 ex157 ex158 ex160 ex161 ex162 ex163 ex166 ex168 ex171 ex172 ex174 ex180 ex181 ex194 ex196 ex197 ex216 ex217 ex218 ex220 ex221 ex223 ex225 ex227 ex229 ex230 ex231 ex234 ex242 ex256 ex264 ex265 ex266 ex267 ex268 ex272 ex273 ex291 ex292 ex294 ex298 
end Go.Proofs.YtbgcpopmippbiaaGreatDoor
