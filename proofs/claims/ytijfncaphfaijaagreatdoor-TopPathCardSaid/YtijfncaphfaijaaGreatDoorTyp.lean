/- The types of this seat's program, as the machine reads them; printed by wip/tools/gentyp.py. -/
import Derived.Test.YtijfncaphfaijaaGreatDoorEngY
import Derived.Test.YtijfncaphfaijaaGreatDoorRows
namespace Go.Proofs.YtijfncaphfaijaaGreatDoor
open Go.Eng
set_option maxRecDepth 20000
def tyTable : List (TypeId × TI) := [
  (1, ⟨.other, 1, 8, [.d (.v .nilFunc)]⟩),
  (2, ⟨(.int .i64), 1, 8, [.d (.v (.int .i64 0))]⟩),
  (3, ⟨(.int .i64), 1, 8, [.d (.v (.int .i64 0))]⟩),
  (4, ⟨.bool, 1, 1, [.d (.v (.bool false))]⟩),
  (5, ⟨(.int .u8), 1, 1, [.d (.v (.int .u8 0))]⟩),
  (9, ⟨.str, 1, 16, [.d (.v (.string ByteArray.empty))]⟩),
  (12, ⟨(.int .u64), 1, 8, [.d (.v (.int .u64 0))]⟩),
  (15, ⟨.ptr, 1, 8, [.d (.v (.pointer none))]⟩),
  (16, ⟨.ptr, 1, 8, [.d (.v (.pointer none))]⟩),
  (17, ⟨.ptr, 1, 8, [.d (.v (.pointer none))]⟩),
  (20, ⟨.iface, 1, 16, [.d (.v .nilIface)]⟩),
  (21, ⟨(.int .i32), 1, 4, [.d (.v (.int .i32 0))]⟩),
  (22, ⟨.slice 5, 1, 24, [.nils 1]⟩),
  (23, ⟨.slice 3, 1, 24, [.nils 1]⟩),
  (24, ⟨.other, 1, 8, [.d (.v .nilFunc)]⟩),
  (25, ⟨(.int .u64), 1, 8, [.d (.v (.int .u64 0))]⟩),
  (26, ⟨.slice 79, 1, 24, [.nils 2]⟩),
  (27, ⟨.struct [(0, 3), (1, 3), (2, 25), (3, 26)], 4, 48, [.d (.v (.int .i64 0)), .d (.v (.int .i64 0)), .d (.v (.int .u64 0)), .nils 2]⟩),
  (28, ⟨.struct [(0, 3), (1, 3), (2, 25), (3, 26)], 4, 48, [.d (.v (.int .i64 0)), .d (.v (.int .i64 0)), .d (.v (.int .u64 0)), .nils 2]⟩),
  (30, ⟨.other, 1, 8, [.d (.v .nilFunc)]⟩),
  (31, ⟨(.int .i64), 1, 8, [.d (.v (.int .i64 0))]⟩),
  (33, ⟨.other, 1, 8, [.d (.v .nilFunc)]⟩),
  (35, ⟨.other, 1, 8, [.d (.v .nilFunc)]⟩),
  (36, ⟨.struct [(0, 25), (1, 25)], 2, 16, [.d (.v (.int .u64 0)), .d (.v (.int .u64 0))]⟩),
  (37, ⟨.struct [(0, 25), (1, 25)], 2, 16, [.d (.v (.int .u64 0)), .d (.v (.int .u64 0))]⟩),
  (39, ⟨.other, 1, 8, [.d (.v .nilFunc)]⟩),
  (40, ⟨.other, 1, 8, [.d (.v .nilFunc)]⟩),
  (41, ⟨.other, 1, 8, [.d (.v .nilFunc)]⟩),
  (42, ⟨.other, 1, 8, [.d (.v .nilFunc)]⟩),
  (43, ⟨.other, 1, 8, [.d (.v .nilFunc)]⟩),
  (45, ⟨.other, 1, 8, [.d (.v .nilFunc)]⟩),
  (46, ⟨.slice 9, 1, 24, [.nils 1]⟩),
  (47, ⟨.slice 161, 1, 24, [.nils 6]⟩),
  (48, ⟨.struct [(0, 3), (1, 9), (2, 9), (3, 25), (4, 46), (5, 3), (6, 3), (7, 4), (8, 3), (9, 46), (10, 47), (11, 37)], 13, 168, [.d (.v (.int .i64 0)), .d (.v (.string ByteArray.empty)), .d (.v (.string ByteArray.empty)), .d (.v (.int .u64 0)), .nils 1, .d (.v (.int .i64 0)), .d (.v (.int .i64 0)), .d (.v (.bool false)), .d (.v (.int .i64 0)), .nils 1, .nils 6, .d (.v (.int .u64 0)), .d (.v (.int .u64 0))]⟩),
  (49, ⟨.struct [(0, 3), (1, 9), (2, 9), (3, 25), (4, 46), (5, 3), (6, 3), (7, 4), (8, 3), (9, 46), (10, 47), (11, 37)], 13, 168, [.d (.v (.int .i64 0)), .d (.v (.string ByteArray.empty)), .d (.v (.string ByteArray.empty)), .d (.v (.int .u64 0)), .nils 1, .d (.v (.int .i64 0)), .d (.v (.int .i64 0)), .d (.v (.bool false)), .d (.v (.int .i64 0)), .nils 1, .nils 6, .d (.v (.int .u64 0)), .d (.v (.int .u64 0))]⟩),
  (51, ⟨.other, 1, 8, [.d (.v .nilFunc)]⟩),
  (53, ⟨.other, 1, 8, [.d (.v .nilFunc)]⟩),
  (54, ⟨.other, 1, 8, [.d (.v .nilFunc)]⟩),
  (55, ⟨.other, 1, 8, [.d (.v .nilFunc)]⟩),
  (56, ⟨.slice 49, 1, 24, [.nils 13]⟩),
  (57, ⟨.slice 56, 1, 24, [.nils 1]⟩),
  (58, ⟨.other, 1, 8, [.d (.v .nilFunc)]⟩),
  (59, ⟨.other, 1, 8, [.d (.v .nilFunc)]⟩),
  (60, ⟨.other, 1, 8, [.d (.v .nilFunc)]⟩),
  (61, ⟨.other, 1, 8, [.d (.v .nilFunc)]⟩),
  (62, ⟨.other, 1, 8, [.d (.v .nilFunc)]⟩),
  (63, ⟨.slice 65, 1, 24, [.nils 3]⟩),
  (64, ⟨.struct [(0, 3), (1, 22), (2, 63)], 3, 56, [.d (.v (.int .i64 0)), .nils 1, .nils 3]⟩),
  (65, ⟨.struct [(0, 3), (1, 22), (2, 63)], 3, 56, [.d (.v (.int .i64 0)), .nils 1, .nils 3]⟩),
  (66, ⟨.other, 1, 8, [.d (.v .nilFunc)]⟩),
  (67, ⟨.slice 74, 1, 24, [.nils 7]⟩),
  (69, ⟨.other, 1, 8, [.d (.v .nilFunc)]⟩),
  (70, ⟨.arr 2 25, 2, 16, [.d (.v (.int .u64 0)), .d (.v (.int .u64 0))]⟩),
  (71, ⟨.arr 2 25, 2, 16, [.d (.v (.int .u64 0)), .d (.v (.int .u64 0))]⟩),
  (72, ⟨.other, 1, 8, [.d (.v .nilFunc)]⟩),
  (73, ⟨.struct [(0, 9), (1, 4), (2, 46), (3, 25), (4, 3), (5, 3), (6, 3)], 7, 80, [.d (.v (.string ByteArray.empty)), .d (.v (.bool false)), .nils 1, .d (.v (.int .u64 0)), .d (.v (.int .i64 0)), .d (.v (.int .i64 0)), .d (.v (.int .i64 0))]⟩),
  (74, ⟨.struct [(0, 9), (1, 4), (2, 46), (3, 25), (4, 3), (5, 3), (6, 3)], 7, 80, [.d (.v (.string ByteArray.empty)), .d (.v (.bool false)), .nils 1, .d (.v (.int .u64 0)), .d (.v (.int .i64 0)), .d (.v (.int .i64 0)), .d (.v (.int .i64 0))]⟩),
  (75, ⟨.other, 1, 8, [.d (.v .nilFunc)]⟩),
  (76, ⟨.slice 71, 1, 24, [.nils 2]⟩),
  (77, ⟨.slice 4, 1, 24, [.nils 1]⟩),
  (78, ⟨.struct [(0, 3), (1, 25)], 2, 16, [.d (.v (.int .i64 0)), .d (.v (.int .u64 0))]⟩),
  (79, ⟨.struct [(0, 3), (1, 25)], 2, 16, [.d (.v (.int .i64 0)), .d (.v (.int .u64 0))]⟩),
  (81, ⟨.other, 1, 8, [.d (.v .nilFunc)]⟩),
  (82, ⟨.other, 1, 8, [.d (.v .nilFunc)]⟩),
  (84, ⟨.other, 1, 8, [.d (.v .nilFunc)]⟩),
  (85, ⟨.other, 1, 8, [.d (.v .nilFunc)]⟩),
  (86, ⟨.ptr, 1, 8, [.d (.v (.pointer none))]⟩),
  (87, ⟨.struct [(0, 28), (4, 22), (5, 26)], 6, 96, [.d (.v (.int .i64 0)), .d (.v (.int .i64 0)), .d (.v (.int .u64 0)), .nils 2, .nils 1, .nils 2]⟩),
  (88, ⟨.struct [(0, 28), (4, 22), (5, 26)], 6, 96, [.d (.v (.int .i64 0)), .d (.v (.int .i64 0)), .d (.v (.int .u64 0)), .nils 2, .nils 1, .nils 2]⟩),
  (89, ⟨.other, 1, 8, [.d (.v .nilFunc)]⟩),
  (90, ⟨.other, 1, 8, [.d (.v .nilFunc)]⟩),
  (91, ⟨.other, 1, 8, [.d (.v .nilFunc)]⟩),
  (92, ⟨.other, 1, 8, [.d (.v .nilFunc)]⟩),
  (93, ⟨.other, 1, 8, [.d (.v .nilFunc)]⟩),
  (94, ⟨.other, 1, 8, [.d (.v .nilFunc)]⟩),
  (95, ⟨.other, 1, 8, [.d (.v .nilFunc)]⟩),
  (96, ⟨.other, 1, 8, [.d (.v .nilFunc)]⟩),
  (97, ⟨.other, 1, 8, [.d (.v .nilFunc)]⟩),
  (98, ⟨.other, 1, 8, [.d (.v .nilFunc)]⟩),
  (99, ⟨.other, 1, 8, [.d (.v .nilFunc)]⟩),
  (100, ⟨.other, 1, 8, [.d (.v .nilFunc)]⟩),
  (101, ⟨.other, 1, 8, [.d (.v .nilFunc)]⟩),
  (102, ⟨.other, 1, 8, [.d (.v .nilFunc)]⟩),
  (104, ⟨.other, 1, 8, [.d (.v .nilFunc)]⟩),
  (105, ⟨.other, 1, 8, [.d (.v .nilFunc)]⟩),
  (106, ⟨.other, 1, 8, [.d (.v .nilFunc)]⟩),
  (107, ⟨.other, 1, 8, [.d (.v .nilFunc)]⟩),
  (108, ⟨.other, 1, 8, [.d (.v .nilFunc)]⟩),
  (109, ⟨.slice 110, 1, 24, [.nils 1]⟩),
  (110, ⟨.ptr, 1, 8, [.d (.v (.pointer none))]⟩),
  (111, ⟨.other, 1, 8, [.d (.v .nilFunc)]⟩),
  (112, ⟨.other, 1, 8, [.d (.v .nilFunc)]⟩),
  (113, ⟨.other, 1, 8, [.d (.v .nilFunc)]⟩),
  (114, ⟨.other, 1, 8, [.d (.v .nilFunc)]⟩),
  (115, ⟨.struct [(0, 56), (1, 56), (2, 9), (3, 3)], 4, 72, [.nils 13, .nils 13, .d (.v (.string ByteArray.empty)), .d (.v (.int .i64 0))]⟩),
  (116, ⟨.struct [(0, 56), (1, 56), (2, 9), (3, 3)], 4, 72, [.nils 13, .nils 13, .d (.v (.string ByteArray.empty)), .d (.v (.int .i64 0))]⟩),
  (117, ⟨.other, 1, 8, [.d (.v .nilFunc)]⟩),
  (118, ⟨.other, 1, 8, [.d (.v .nilFunc)]⟩),
  (119, ⟨.other, 1, 8, [.d (.v .nilFunc)]⟩),
  (120, ⟨.arr 8 5, 8, 8, [.d (.v (.int .u8 0)), .d (.v (.int .u8 0)), .d (.v (.int .u8 0)), .d (.v (.int .u8 0)), .d (.v (.int .u8 0)), .d (.v (.int .u8 0)), .d (.v (.int .u8 0)), .d (.v (.int .u8 0))]⟩),
  (121, ⟨.other, 1, 8, [.d (.v .nilFunc)]⟩),
  (122, ⟨.other, 1, 8, [.d (.v .nilFunc)]⟩),
  (123, ⟨.struct [(0, 3), (1, 31)], 2, 16, [.d (.v (.int .i64 0)), .d (.v (.int .i64 0))]⟩),
  (124, ⟨.struct [(0, 3), (1, 31)], 2, 16, [.d (.v (.int .i64 0)), .d (.v (.int .i64 0))]⟩),
  (125, ⟨.ptr, 1, 8, [.d (.v (.pointer none))]⟩),
  (126, ⟨.struct [(0, 22), (1, 3), (2, 9)], 3, 48, [.nils 1, .d (.v (.int .i64 0)), .d (.v (.string ByteArray.empty))]⟩),
  (127, ⟨.struct [(0, 22), (1, 3), (2, 9)], 3, 48, [.nils 1, .d (.v (.int .i64 0)), .d (.v (.string ByteArray.empty))]⟩),
  (128, ⟨.other, 1, 8, [.d (.v .nilFunc)]⟩),
  (129, ⟨.other, 1, 8, [.d (.v .nilFunc)]⟩),
  (130, ⟨.slice 133, 1, 24, [.nils 3]⟩),
  (131, ⟨.other, 1, 8, [.d (.v .nilFunc)]⟩),
  (132, ⟨.struct [(0, 3), (1, 71)], 3, 24, [.d (.v (.int .i64 0)), .d (.v (.int .u64 0)), .d (.v (.int .u64 0))]⟩),
  (133, ⟨.struct [(0, 3), (1, 71)], 3, 24, [.d (.v (.int .i64 0)), .d (.v (.int .u64 0)), .d (.v (.int .u64 0))]⟩),
  (134, ⟨.other, 1, 8, [.d (.v .nilFunc)]⟩),
  (135, ⟨.other, 1, 8, [.d (.v .nilFunc)]⟩),
  (136, ⟨.other, 1, 8, [.d (.v .nilFunc)]⟩),
  (137, ⟨.other, 1, 8, [.d (.v .nilFunc)]⟩),
  (138, ⟨.other, 1, 8, [.d (.v .nilFunc)]⟩),
  (139, ⟨.slice 25, 1, 24, [.nils 1]⟩),
  (140, ⟨.other, 1, 8, [.d (.v .nilFunc)]⟩),
  (141, ⟨.other, 1, 8, [.d (.v .nilFunc)]⟩),
  (142, ⟨.other, 1, 8, [.d (.v .nilFunc)]⟩),
  (143, ⟨.other, 1, 8, [.d (.v .nilFunc)]⟩),
  (144, ⟨.other, 1, 8, [.d (.v .nilFunc)]⟩),
  (146, ⟨.other, 1, 8, [.d (.v .nilFunc)]⟩),
  (147, ⟨.other, 1, 8, [.d (.v .nilFunc)]⟩),
  (148, ⟨.slice 92, 1, 24, [.nils 1]⟩),
  (149, ⟨.other, 1, 8, [.d (.v .nilFunc)]⟩),
  (150, ⟨(.int .u64), 1, 8, [.d (.v (.int .u64 0))]⟩),
  (151, ⟨.other, 1, 8, [.d (.v .nilFunc)]⟩),
  (152, ⟨.other, 1, 8, [.d (.v .nilFunc)]⟩),
  (153, ⟨.other, 1, 8, [.d (.v .nilFunc)]⟩),
  (154, ⟨.other, 1, 8, [.d (.v .nilFunc)]⟩),
  (156, ⟨.other, 1, 8, [.d (.v .nilFunc)]⟩),
  (157, ⟨.slice 22, 1, 24, [.nils 1]⟩),
  (158, ⟨.other, 1, 8, [.d (.v .nilFunc)]⟩),
  (159, ⟨.other, 1, 8, [.d (.v .nilFunc)]⟩),
  (160, ⟨.struct [(0, 3), (1, 3), (2, 71), (4, 37)], 6, 48, [.d (.v (.int .i64 0)), .d (.v (.int .i64 0)), .d (.v (.int .u64 0)), .d (.v (.int .u64 0)), .d (.v (.int .u64 0)), .d (.v (.int .u64 0))]⟩),
  (161, ⟨.struct [(0, 3), (1, 3), (2, 71), (4, 37)], 6, 48, [.d (.v (.int .i64 0)), .d (.v (.int .i64 0)), .d (.v (.int .u64 0)), .d (.v (.int .u64 0)), .d (.v (.int .u64 0)), .d (.v (.int .u64 0))]⟩),
  (162, ⟨.other, 1, 8, [.d (.v .nilFunc)]⟩),
  (163, ⟨.other, 1, 8, [.d (.v .nilFunc)]⟩),
  (164, ⟨.other, 1, 8, [.d (.v .nilFunc)]⟩),
  (165, ⟨.other, 1, 8, [.d (.v .nilFunc)]⟩),
  (166, ⟨.other, 1, 8, [.d (.v .nilFunc)]⟩),
  (167, ⟨.other, 1, 8, [.d (.v .nilFunc)]⟩),
  (168, ⟨.other, 1, 8, [.d (.v .nilFunc)]⟩),
  (169, ⟨.other, 1, 8, [.d (.v .nilFunc)]⟩),
  (170, ⟨.other, 1, 8, [.d (.v .nilFunc)]⟩),
  (171, ⟨.other, 1, 8, [.d (.v .nilFunc)]⟩),
  (172, ⟨.struct [(0, 3), (1, 121)], 2, 16, [.d (.v (.int .i64 0)), .d (.v .nilFunc)]⟩),
  (173, ⟨.struct [(0, 3), (1, 121)], 2, 16, [.d (.v (.int .i64 0)), .d (.v .nilFunc)]⟩),
  (175, ⟨.other, 1, 8, [.d (.v .nilFunc)]⟩),
  (176, ⟨.other, 1, 8, [.d (.v .nilFunc)]⟩),
  (177, ⟨.other, 1, 8, [.d (.v .nilFunc)]⟩),
  (178, ⟨.other, 1, 8, [.d (.v .nilFunc)]⟩),
  (179, ⟨(.int .u64), 1, 8, [.d (.v (.int .u64 0))]⟩),
  (180, ⟨.other, 1, 8, [.d (.v .nilFunc)]⟩),
  (181, ⟨.other, 1, 8, [.d (.v .nilFunc)]⟩),
  (182, ⟨.other, 1, 8, [.d (.v .nilFunc)]⟩),
  (183, ⟨.other, 1, 8, [.d (.v .nilFunc)]⟩),
  (184, ⟨.other, 1, 8, [.d (.v .nilFunc)]⟩),
  (185, ⟨.other, 1, 8, [.d (.v .nilFunc)]⟩),
  (186, ⟨.other, 1, 8, [.d (.v .nilFunc)]⟩),
  (187, ⟨.other, 1, 8, [.d (.v .nilFunc)]⟩),
  (188, ⟨.other, 1, 8, [.d (.v .nilFunc)]⟩),
  (189, ⟨.other, 1, 8, [.d (.v .nilFunc)]⟩),
  (190, ⟨.other, 1, 8, [.d (.v .nilFunc)]⟩),
  (191, ⟨.other, 1, 8, [.d (.v .nilFunc)]⟩),
  (193, ⟨.other, 1, 8, [.d (.v .nilFunc)]⟩),
  (194, ⟨.other, 1, 8, [.d (.v .nilFunc)]⟩),
  (195, ⟨.other, 1, 8, [.d (.v .nilFunc)]⟩),
  (196, ⟨.other, 1, 8, [.d (.v .nilFunc)]⟩),
  (197, ⟨.other, 1, 8, [.d (.v .nilFunc)]⟩),
  (198, ⟨.other, 1, 8, [.d (.v .nilFunc)]⟩),
  (199, ⟨.other, 1, 8, [.d (.v .nilFunc)]⟩),
  (200, ⟨.other, 1, 8, [.d (.v .nilFunc)]⟩),
  (201, ⟨.other, 1, 8, [.d (.v .nilFunc)]⟩),
  (202, ⟨.other, 1, 8, [.d (.v .nilFunc)]⟩),
  (203, ⟨.other, 1, 8, [.d (.v .nilFunc)]⟩),
  (204, ⟨.other, 1, 8, [.d (.v .nilFunc)]⟩),
  (205, ⟨.other, 1, 8, [.d (.v .nilFunc)]⟩),
  (206, ⟨.other, 1, 8, [.d (.v .nilFunc)]⟩),
  (207, ⟨.other, 1, 8, [.d (.v .nilFunc)]⟩),
  (208, ⟨.other, 1, 8, [.d (.v .nilFunc)]⟩),
  (209, ⟨.other, 1, 8, [.d (.v .nilFunc)]⟩),
  (210, ⟨.other, 1, 8, [.d (.v .nilFunc)]⟩),
  (211, ⟨.other, 1, 8, [.d (.v .nilFunc)]⟩),
  (212, ⟨.other, 1, 8, [.d (.v .nilFunc)]⟩),
  (213, ⟨.other, 1, 8, [.d (.v .nilFunc)]⟩),
  (214, ⟨.other, 1, 8, [.d (.v .nilFunc)]⟩),
  (215, ⟨.other, 1, 8, [.d (.v .nilFunc)]⟩),
  (216, ⟨.other, 1, 8, [.d (.v .nilFunc)]⟩),
  (217, ⟨.other, 1, 8, [.d (.v .nilFunc)]⟩),
  (218, ⟨.other, 1, 8, [.d (.v .nilFunc)]⟩),
  (219, ⟨.other, 1, 8, [.d (.v .nilFunc)]⟩),
  (220, ⟨.other, 1, 8, [.d (.v .nilFunc)]⟩),
  (221, ⟨.slice 173, 1, 24, [.nils 2]⟩),
  (222, ⟨.arr 5 173, 10, 80, [.d (.v (.int .i64 0)), .d (.v .nilFunc), .d (.v (.int .i64 0)), .d (.v .nilFunc), .d (.v (.int .i64 0)), .d (.v .nilFunc), .d (.v (.int .i64 0)), .d (.v .nilFunc), .d (.v (.int .i64 0)), .d (.v .nilFunc)]⟩),
  (223, ⟨.other, 1, 8, [.d (.v .nilFunc)]⟩),
  (224, ⟨.other, 1, 8, [.d (.v .nilFunc)]⟩),
  (225, ⟨.other, 1, 8, [.d (.v .nilFunc)]⟩),
  (226, ⟨.arr 256 4, 256, 256, List.replicate 256 (.d (.v (.bool false)))⟩),
  (227, ⟨.arr 256 4, 256, 256, List.replicate 256 (.d (.v (.bool false)))⟩),
  (229, ⟨.other, 1, 8, [.d (.v .nilFunc)]⟩),
  (230, ⟨.other, 1, 8, [.d (.v .nilFunc)]⟩),
  (231, ⟨.ptr, 1, 8, [.d (.v (.pointer none))]⟩),
  (232, ⟨.other, 1, 8, [.d (.v .nilFunc)]⟩),
  (233, ⟨.other, 1, 8, [.d (.v .nilFunc)]⟩),
  (234, ⟨.iface, 1, 16, [.d (.v .nilIface)]⟩),
  (235, ⟨.iface, 1, 16, [.d (.v .nilIface)]⟩),
  (237, ⟨.other, 1, 8, [.d (.v .nilFunc)]⟩),
  (238, ⟨.arr 3 25, 3, 24, [.d (.v (.int .u64 0)), .d (.v (.int .u64 0)), .d (.v (.int .u64 0))]⟩),
  (239, ⟨.other, 1, 8, [.d (.v .nilFunc)]⟩),
  (240, ⟨.other, 1, 8, [.d (.v .nilFunc)]⟩),
  (241, ⟨.other, 1, 8, [.d (.v .nilFunc)]⟩),
  (242, ⟨(.int .u32), 1, 4, [.d (.v (.int .u32 0))]⟩),
  (243, ⟨.other, 1, 8, [.d (.v .nilFunc)]⟩),
  (244, ⟨.map 3, 1, 8, [.d (.v (.map none))]⟩),
  (245, ⟨.other, 1, 8, [.d (.v .nilFunc)]⟩),
  (246, ⟨.other, 1, 8, [.d (.v .nilFunc)]⟩),
  (247, ⟨.other, 1, 8, [.d (.v .nilFunc)]⟩),
  (248, ⟨.other, 1, 8, [.d (.v .nilFunc)]⟩),
  (249, ⟨.other, 1, 8, [.d (.v .nilFunc)]⟩),
  (250, ⟨.other, 1, 8, [.d (.v .nilFunc)]⟩),
  (251, ⟨.other, 1, 8, [.d (.v .nilFunc)]⟩),
  (253, ⟨.other, 1, 8, [.d (.v .nilFunc)]⟩),
  (254, ⟨.other, 1, 8, [.d (.v .nilFunc)]⟩),
  (255, ⟨.other, 1, 8, [.d (.v .nilFunc)]⟩),
  (256, ⟨.other, 1, 8, [.d (.v .nilFunc)]⟩),
  (257, ⟨.map 9, 1, 8, [.d (.v (.map none))]⟩),
  (258, ⟨.other, 1, 8, [.d (.v .nilFunc)]⟩),
  (260, ⟨.other, 1, 8, [.d (.v .nilFunc)]⟩),
  (261, ⟨.other, 1, 8, [.d (.v .nilFunc)]⟩),
  (262, ⟨.other, 1, 8, [.d (.v .nilFunc)]⟩),
  (263, ⟨.arr 256 4, 256, 256, List.replicate 256 (.d (.v (.bool false)))⟩),
  (265, ⟨.other, 1, 8, [.d (.v .nilFunc)]⟩),
  (266, ⟨.other, 1, 8, [.d (.v .nilFunc)]⟩),
  (267, ⟨.ptr, 1, 8, [.d (.v (.pointer none))]⟩),
  (268, ⟨.other, 1, 8, [.d (.v .nilFunc)]⟩),
  (269, ⟨.other, 1, 8, [.d (.v .nilFunc)]⟩),
  (270, ⟨.other, 1, 8, [.d (.v .nilFunc)]⟩),
  (271, ⟨.other, 1, 8, [.d (.v .nilFunc)]⟩),
  (272, ⟨.arr 3 25, 3, 24, [.d (.v (.int .u64 0)), .d (.v (.int .u64 0)), .d (.v (.int .u64 0))]⟩),
  (273, ⟨.other, 1, 8, [.d (.v .nilFunc)]⟩),
  (274, ⟨.other, 1, 8, [.d (.v .nilFunc)]⟩),
  (275, ⟨.other, 1, 8, [.d (.v .nilFunc)]⟩),
  (276, ⟨.other, 1, 8, [.d (.v .nilFunc)]⟩),
  (278, ⟨.other, 1, 8, [.d (.v .nilFunc)]⟩),
  (279, ⟨.ptr, 1, 8, [.d (.v (.pointer none))]⟩),
  (280, ⟨.other, 1, 8, [.d (.v .nilFunc)]⟩),
  (281, ⟨.other, 1, 8, [.d (.v .nilFunc)]⟩),
  (282, ⟨.ptr, 1, 8, [.d (.v (.pointer none))]⟩),
  (283, ⟨.other, 1, 8, [.d (.v .nilFunc)]⟩),
  (284, ⟨.other, 1, 8, [.d (.v .nilFunc)]⟩),
  (285, ⟨.arr 256 5, 256, 256, List.replicate 256 (.d (.v (.int .u8 0)))⟩),
  (286, ⟨.struct [(0, 5), (1, 5)], 2, 2, [.d (.v (.int .u8 0)), .d (.v (.int .u8 0))]⟩),
  (287, ⟨.struct [(0, 5), (1, 5)], 2, 2, [.d (.v (.int .u8 0)), .d (.v (.int .u8 0))]⟩),
  (288, ⟨.arr 16 287, 32, 32, List.replicate 32 (.d (.v (.int .u8 0)))⟩),
  (289, ⟨.other, 1, 8, [.d (.v .nilFunc)]⟩),
  (292, ⟨.other, 1, 8, [.d (.v .nilFunc)]⟩),
  (293, ⟨.other, 1, 8, [.d (.v .nilFunc)]⟩),
  (295, ⟨.other, 1, 8, [.d (.v .nilFunc)]⟩),
  (296, ⟨.ptr, 1, 8, [.d (.v (.pointer none))]⟩),
  (297, ⟨.ptr, 1, 8, [.d (.v (.pointer none))]⟩),
  (298, ⟨.struct [(0, 9)], 1, 16, [.d (.v (.string ByteArray.empty))]⟩),
  (299, ⟨.struct [(0, 9)], 1, 16, [.d (.v (.string ByteArray.empty))]⟩),
  (300, ⟨.other, 1, 8, [.d (.v .nilFunc)]⟩),
  (301, ⟨.arr 24 5, 24, 24, List.replicate 24 (.d (.v (.int .u8 0)))⟩),
  (302, ⟨.other, 1, 8, [.d (.v .nilFunc)]⟩),
  (304, ⟨.other, 1, 8, [.d (.v .nilFunc)]⟩),
  (305, ⟨.other, 1, 8, [.d (.v .nilFunc)]⟩),
  (306, ⟨.arr 20 25, 20, 160, List.replicate 20 (.d (.v (.int .u64 0)))⟩),
  (307, ⟨.arr 65 5, 65, 65, List.replicate 65 (.d (.v (.int .u8 0)))⟩),
  (308, ⟨.arr 32 5, 32, 32, List.replicate 32 (.d (.v (.int .u8 0)))⟩),
  (309, ⟨.arr 64 5, 64, 64, List.replicate 64 (.d (.v (.int .u8 0)))⟩),
  (310, ⟨.other, 1, 8, [.d (.v .nilFunc)]⟩),
  (316, ⟨.other, 1, 8, [.d (.v .nilFunc)]⟩),
  (319, ⟨.other, 1, 8, [.d (.v .nilFunc)]⟩),
  (325, ⟨.other, 1, 8, [.d (.v .nilFunc)]⟩),
  (326, ⟨.other, 1, 8, [.d (.v .nilFunc)]⟩)]
theorem ext134 : ExtOk Tryz.prog 134 (.add64) := ⟨Tryz.f134, Tryz.func134, by kernel_rfl, by kernel_rfl, by kernel_rfl, by kernel_rfl⟩
theorem ext189 : ExtOk Tryz.prog 189 (.countString) := ⟨Tryz.f189, Tryz.func189, by kernel_rfl, by kernel_rfl, by kernel_rfl, by kernel_rfl⟩
theorem ext250 : ExtOk Tryz.prog 250 (.indexByteString) := ⟨Tryz.f250, Tryz.func250, by kernel_rfl, by kernel_rfl, by kernel_rfl, by kernel_rfl⟩
def extTable : List (FuncId × Ext) := [(134, .add64), (189, .countString), (250, .indexByteString)]
theorem extTable_ok : ExtAll Tryz.prog extTable := ⟨ext134, ext189, ext250, trivial⟩
theorem tyTable_ok : tyCheckAll Tryz.prog tyTable = true := by kernel_rfl
theorem mixed : Tryz.prog.follows .mixedOrders = true := by kernel_rfl
def tys : Ctx := ⟨fun t => tyL tyTable t, fun f => extL extTable f⟩
theorem sitOk {ro : Option Nat} {pin : Pin} : SitOk ⟨Tryz.prog, tys, ro, pin⟩ := ⟨ctxOk_of tyTable_ok extTable_ok, mixed⟩
/-- A contract, from what the body asks. -/
theorem meets {f : FuncId} {fn : Func} {code : Code} {args : List (Bool × List CV)} {res : Res} {nt : Nat} {rl : List ResultVar} (hf : Tryz.prog.funcs[f]? = some fn) (hb : fn.body = some code) (hname : (fn.name == "runtime.NumGoroutine") = false) (hnt : fn.ntmps = nt) (hrs : fn.results = rl.toArray) (hlen : decide (args.length ≤ nt) = true)
    (h : vc ⟨Tryz.prog, tys, none, ⟨0, []⟩⟩ code (RetS tys rl res) (initSt nt args)) : Meets Tryz.prog f args res := by
  subst hnt
  refine meets_of_body (E := ⟨Tryz.prog, tys, none, ⟨0, []⟩⟩) sitOk rfl hf hb hname (of_decide_eq_true hlen) ?_
  rw [hrs]; exact awp_mono (awp_vc sitOk h) fun e st h => by simpa using RetS.retQ e st h
theorem tysOk : CtxOk Tryz.prog tys := ctxOk_of tyTable_ok extTable_ok
theorem own : ownKnob Tryz.prog.godebug = none := by kernel_rfl
theorem laidOut : laidOutB Tryz.prog = true := by kernel_rfl
/-- The like, where objects are frozen as it ends. -/
theorem meetsF {f : FuncId} {fn : Func} {code : Code} {args : List (Bool × List CV)} {res : Res} {nt : Nat} {rl : List ResultVar} (hf : Tryz.prog.funcs[f]? = some fn) (hb : fn.body = some code) (hname : (fn.name == "runtime.NumGoroutine") = false) (hnt : fn.ntmps = nt) (hrs : fn.results = rl.toArray) (hlen : decide (args.length ≤ nt) = true)
    (h : vc ⟨Tryz.prog, tys, none, ⟨0, []⟩⟩ code (RetQ tys rl res) (initSt nt args)) : Meets Tryz.prog f args res := by
  subst hnt
  refine meets_of_body (E := ⟨Tryz.prog, tys, none, ⟨0, []⟩⟩) sitOk rfl hf hb hname (of_decide_eq_true hlen) ?_
  rw [hrs]; exact awp_mono (awp_vc sitOk h) fun e st h => by simpa using h
/-- A call by a walk over the caller's objects. -/
theorem callW {ro : Option Nat} {pin : Pin} {R : Reg} {acc : List Ft} {st : St} {j : Nat} {f : FuncId} {fn : Func} {code : Code} {A : List (Bool × List AV)} {cv : Option (List (Bool × List CV))} {K : Kop} {KH : AT → List (Nat × Option AObj) → Nat → Prop} {nt : Nat} {rl : List ResultVar} (hd : R.draw = false) (hf : Tryz.prog.funcs[f]? = some fn) (hb : fn.body = some code) (hname : (fn.name == "runtime.NumGoroutine") = false) (hnt : fn.ntmps = nt) (hrs : fn.results = rl.toArray) (hlen : decide (A.length ≤ nt) = true)
    (h : vc ⟨Tryz.prog, tys, none, ⟨R.N + 8 * j, []⟩⟩ code (retH tys rl KH) ⟨nt, initEnv 0 A, st.objs, R.N + 8 * j⟩) : VCall ⟨Tryz.prog, tys, ro, pin⟩ R acc st j (some (f, A)) cv K KH := by
  subst hnt
  refine callH hd (hcall_of_body sitOk hf hb hname (of_decide_eq_true hlen) ?_)
  rw [hrs]; exact awp_vc sitOk h
theorem callWd {ro : Option Nat} {pin : Pin} {R : Reg} {acc : List Ft} {st : St} {j : Nat} {f : FuncId} {fn : Func} {code : Code} {A : List (Bool × List AV)} {cv : Option (List (Bool × List CV))} {K : Kop} {KH : AT → List (Nat × Option AObj) → Nat → Prop} {nt : Nat} {rl : List ResultVar} (hd : drawF R.ops acc.reverse = true) (hc : cutOk R.ops j = true) (hf : Tryz.prog.funcs[f]? = some fn) (hb : fn.body = some code) (hname : (fn.name == "runtime.NumGoroutine") = false) (hnt : fn.ntmps = nt) (hrs : fn.results = rl.toArray) (hlen : decide (A.length ≤ nt) = true)
    (h : vc ⟨Tryz.prog, tys, none, ⟨R.N + 8 * j, []⟩⟩ code (retH tys rl KH) ⟨nt, initEnv 0 A, st.objs, R.N + 8 * j⟩) : VCall ⟨Tryz.prog, tys, ro, pin⟩ R acc st j (some (f, A)) cv K KH := by
  subst hnt
  refine callHd hd hc (hcall_of_body sitOk hf hb hname (of_decide_eq_true hlen) ?_)
  rw [hrs]; exact awp_vc sitOk h
/-- A call that turns some objects. -/
theorem meetsO {f : FuncId} {fn : Func} {code : Code} {A : List (Bool × List AV)} {os os' : List (Nat × AObj)} {t : AT} {nt : Nat} {rl : List ResultVar} (next : Nat) (hlt : (os.all fun p => decide (p.1 < next)) = true) (hf : Tryz.prog.funcs[f]? = some fn) (hb : fn.body = some code) (hname : (fn.name == "runtime.NumGoroutine") = false) (hnt : fn.ntmps = nt) (hrs : fn.results = rl.toArray) (hlen : decide (A.length ≤ nt) = true)
    (h : vc ⟨Tryz.prog, tys, none, ⟨next, []⟩⟩ code (retH tys rl fun t1 objs _ => t1 = t ∧ hasO objs os') ⟨nt, initEnv 0 A, someO os, next⟩) : MeetsO Tryz.prog f A os os' t := by
  subst hnt
  refine meetsO_of_hcall (E := ⟨Tryz.prog, tys, none, ⟨next, []⟩⟩) next hlt (hcall_of_body sitOk hf hb hname (of_decide_eq_true hlen) ?_)
  rw [hrs]; exact awp_vc sitOk h
/-- The like, by a walk that is not yet rewriting. -/
theorem meetsA {f : FuncId} {fn : Func} {code : Code} {args : List (Bool × List CV)} {res : Res} {nt : Nat} {rl : List ResultVar} (hf : Tryz.prog.funcs[f]? = some fn) (hb : fn.body = some code) (hname : (fn.name == "runtime.NumGoroutine") = false) (hnt : fn.ntmps = nt) (hrs : fn.results = rl.toArray) (hlen : decide (args.length ≤ nt) = true)
    (h : AWp ⟨Tryz.prog, tys, none, ⟨0, []⟩⟩ code (RetS tys rl res) (initSt nt args)) : Meets Tryz.prog f args res := by
  subst hnt
  refine meets_of_body (E := ⟨Tryz.prog, tys, none, ⟨0, []⟩⟩) sitOk rfl hf hb hname (of_decide_eq_true hlen) ?_
  rw [hrs]; exact awp_mono h fun e st h => by simpa using RetS.retQ e st h
theorem ty1 : tys.ty 1 = some ⟨.other, 1, 8, [.d (.v .nilFunc)]⟩ := rfl
theorem sz1 : tys.size 1 = some 1 := rfl
theorem ag1 : tys.agg 1 = some false := rfl
attribute [go_sem] ty1 sz1 ag1
theorem ty2 : tys.ty 2 = some ⟨(.int .i64), 1, 8, [.d (.v (.int .i64 0))]⟩ := rfl
theorem sz2 : tys.size 2 = some 1 := rfl
theorem ag2 : tys.agg 2 = some false := rfl
attribute [go_sem] ty2 sz2 ag2
theorem ty3 : tys.ty 3 = some ⟨(.int .i64), 1, 8, [.d (.v (.int .i64 0))]⟩ := rfl
theorem sz3 : tys.size 3 = some 1 := rfl
theorem ag3 : tys.agg 3 = some false := rfl
attribute [go_sem] ty3 sz3 ag3
theorem ty4 : tys.ty 4 = some ⟨.bool, 1, 1, [.d (.v (.bool false))]⟩ := rfl
theorem sz4 : tys.size 4 = some 1 := rfl
theorem ag4 : tys.agg 4 = some false := rfl
attribute [go_sem] ty4 sz4 ag4
theorem ty5 : tys.ty 5 = some ⟨(.int .u8), 1, 1, [.d (.v (.int .u8 0))]⟩ := rfl
theorem sz5 : tys.size 5 = some 1 := rfl
theorem ag5 : tys.agg 5 = some false := rfl
attribute [go_sem] ty5 sz5 ag5
theorem ty9 : tys.ty 9 = some ⟨.str, 1, 16, [.d (.v (.string ByteArray.empty))]⟩ := rfl
theorem sz9 : tys.size 9 = some 1 := rfl
theorem ag9 : tys.agg 9 = some false := rfl
attribute [go_sem] ty9 sz9 ag9
theorem ty12 : tys.ty 12 = some ⟨(.int .u64), 1, 8, [.d (.v (.int .u64 0))]⟩ := rfl
theorem sz12 : tys.size 12 = some 1 := rfl
theorem ag12 : tys.agg 12 = some false := rfl
attribute [go_sem] ty12 sz12 ag12
theorem ty15 : tys.ty 15 = some ⟨.ptr, 1, 8, [.d (.v (.pointer none))]⟩ := rfl
theorem sz15 : tys.size 15 = some 1 := rfl
theorem ag15 : tys.agg 15 = some false := rfl
attribute [go_sem] ty15 sz15 ag15
theorem ty16 : tys.ty 16 = some ⟨.ptr, 1, 8, [.d (.v (.pointer none))]⟩ := rfl
theorem sz16 : tys.size 16 = some 1 := rfl
theorem ag16 : tys.agg 16 = some false := rfl
attribute [go_sem] ty16 sz16 ag16
theorem ty17 : tys.ty 17 = some ⟨.ptr, 1, 8, [.d (.v (.pointer none))]⟩ := rfl
theorem sz17 : tys.size 17 = some 1 := rfl
theorem ag17 : tys.agg 17 = some false := rfl
attribute [go_sem] ty17 sz17 ag17
theorem ty20 : tys.ty 20 = some ⟨.iface, 1, 16, [.d (.v .nilIface)]⟩ := rfl
theorem sz20 : tys.size 20 = some 1 := rfl
theorem ag20 : tys.agg 20 = some false := rfl
attribute [go_sem] ty20 sz20 ag20
theorem ty21 : tys.ty 21 = some ⟨(.int .i32), 1, 4, [.d (.v (.int .i32 0))]⟩ := rfl
theorem sz21 : tys.size 21 = some 1 := rfl
theorem ag21 : tys.agg 21 = some false := rfl
attribute [go_sem] ty21 sz21 ag21
theorem ty22 : tys.ty 22 = some ⟨.slice 5, 1, 24, [.nils 1]⟩ := rfl
theorem sz22 : tys.size 22 = some 1 := rfl
theorem ag22 : tys.agg 22 = some false := rfl
theorem el22 : tys.elem 22 = some 5 := rfl
attribute [go_sem] ty22 sz22 ag22 el22
theorem ty23 : tys.ty 23 = some ⟨.slice 3, 1, 24, [.nils 1]⟩ := rfl
theorem sz23 : tys.size 23 = some 1 := rfl
theorem ag23 : tys.agg 23 = some false := rfl
theorem el23 : tys.elem 23 = some 3 := rfl
attribute [go_sem] ty23 sz23 ag23 el23
theorem ty24 : tys.ty 24 = some ⟨.other, 1, 8, [.d (.v .nilFunc)]⟩ := rfl
theorem sz24 : tys.size 24 = some 1 := rfl
theorem ag24 : tys.agg 24 = some false := rfl
attribute [go_sem] ty24 sz24 ag24
theorem ty25 : tys.ty 25 = some ⟨(.int .u64), 1, 8, [.d (.v (.int .u64 0))]⟩ := rfl
theorem sz25 : tys.size 25 = some 1 := rfl
theorem ag25 : tys.agg 25 = some false := rfl
attribute [go_sem] ty25 sz25 ag25
theorem ty26 : tys.ty 26 = some ⟨.slice 79, 1, 24, [.nils 2]⟩ := rfl
theorem sz26 : tys.size 26 = some 1 := rfl
theorem ag26 : tys.agg 26 = some false := rfl
theorem el26 : tys.elem 26 = some 79 := rfl
attribute [go_sem] ty26 sz26 ag26 el26
theorem ty27 : tys.ty 27 = some ⟨.struct [(0, 3), (1, 3), (2, 25), (3, 26)], 4, 48, [.d (.v (.int .i64 0)), .d (.v (.int .i64 0)), .d (.v (.int .u64 0)), .nils 2]⟩ := rfl
theorem sz27 : tys.size 27 = some 4 := rfl
theorem ag27 : tys.agg 27 = some true := rfl
theorem fl27 : tys.fields 27 = some [(0, 3), (1, 3), (2, 25), (3, 26)] := rfl
attribute [go_sem] ty27 sz27 ag27 fl27
theorem ty28 : tys.ty 28 = some ⟨.struct [(0, 3), (1, 3), (2, 25), (3, 26)], 4, 48, [.d (.v (.int .i64 0)), .d (.v (.int .i64 0)), .d (.v (.int .u64 0)), .nils 2]⟩ := rfl
theorem sz28 : tys.size 28 = some 4 := rfl
theorem ag28 : tys.agg 28 = some true := rfl
theorem fl28 : tys.fields 28 = some [(0, 3), (1, 3), (2, 25), (3, 26)] := rfl
attribute [go_sem] ty28 sz28 ag28 fl28
theorem ty30 : tys.ty 30 = some ⟨.other, 1, 8, [.d (.v .nilFunc)]⟩ := rfl
theorem sz30 : tys.size 30 = some 1 := rfl
theorem ag30 : tys.agg 30 = some false := rfl
attribute [go_sem] ty30 sz30 ag30
theorem ty31 : tys.ty 31 = some ⟨(.int .i64), 1, 8, [.d (.v (.int .i64 0))]⟩ := rfl
theorem sz31 : tys.size 31 = some 1 := rfl
theorem ag31 : tys.agg 31 = some false := rfl
attribute [go_sem] ty31 sz31 ag31
theorem ty33 : tys.ty 33 = some ⟨.other, 1, 8, [.d (.v .nilFunc)]⟩ := rfl
theorem sz33 : tys.size 33 = some 1 := rfl
theorem ag33 : tys.agg 33 = some false := rfl
attribute [go_sem] ty33 sz33 ag33
theorem ty35 : tys.ty 35 = some ⟨.other, 1, 8, [.d (.v .nilFunc)]⟩ := rfl
theorem sz35 : tys.size 35 = some 1 := rfl
theorem ag35 : tys.agg 35 = some false := rfl
attribute [go_sem] ty35 sz35 ag35
theorem ty36 : tys.ty 36 = some ⟨.struct [(0, 25), (1, 25)], 2, 16, [.d (.v (.int .u64 0)), .d (.v (.int .u64 0))]⟩ := rfl
theorem sz36 : tys.size 36 = some 2 := rfl
theorem ag36 : tys.agg 36 = some true := rfl
theorem fl36 : tys.fields 36 = some [(0, 25), (1, 25)] := rfl
attribute [go_sem] ty36 sz36 ag36 fl36
theorem ty37 : tys.ty 37 = some ⟨.struct [(0, 25), (1, 25)], 2, 16, [.d (.v (.int .u64 0)), .d (.v (.int .u64 0))]⟩ := rfl
theorem sz37 : tys.size 37 = some 2 := rfl
theorem ag37 : tys.agg 37 = some true := rfl
theorem fl37 : tys.fields 37 = some [(0, 25), (1, 25)] := rfl
attribute [go_sem] ty37 sz37 ag37 fl37
theorem ty39 : tys.ty 39 = some ⟨.other, 1, 8, [.d (.v .nilFunc)]⟩ := rfl
theorem sz39 : tys.size 39 = some 1 := rfl
theorem ag39 : tys.agg 39 = some false := rfl
attribute [go_sem] ty39 sz39 ag39
theorem ty40 : tys.ty 40 = some ⟨.other, 1, 8, [.d (.v .nilFunc)]⟩ := rfl
theorem sz40 : tys.size 40 = some 1 := rfl
theorem ag40 : tys.agg 40 = some false := rfl
attribute [go_sem] ty40 sz40 ag40
theorem ty41 : tys.ty 41 = some ⟨.other, 1, 8, [.d (.v .nilFunc)]⟩ := rfl
theorem sz41 : tys.size 41 = some 1 := rfl
theorem ag41 : tys.agg 41 = some false := rfl
attribute [go_sem] ty41 sz41 ag41
theorem ty42 : tys.ty 42 = some ⟨.other, 1, 8, [.d (.v .nilFunc)]⟩ := rfl
theorem sz42 : tys.size 42 = some 1 := rfl
theorem ag42 : tys.agg 42 = some false := rfl
attribute [go_sem] ty42 sz42 ag42
theorem ty43 : tys.ty 43 = some ⟨.other, 1, 8, [.d (.v .nilFunc)]⟩ := rfl
theorem sz43 : tys.size 43 = some 1 := rfl
theorem ag43 : tys.agg 43 = some false := rfl
attribute [go_sem] ty43 sz43 ag43
theorem ty45 : tys.ty 45 = some ⟨.other, 1, 8, [.d (.v .nilFunc)]⟩ := rfl
theorem sz45 : tys.size 45 = some 1 := rfl
theorem ag45 : tys.agg 45 = some false := rfl
attribute [go_sem] ty45 sz45 ag45
theorem ty46 : tys.ty 46 = some ⟨.slice 9, 1, 24, [.nils 1]⟩ := rfl
theorem sz46 : tys.size 46 = some 1 := rfl
theorem ag46 : tys.agg 46 = some false := rfl
theorem el46 : tys.elem 46 = some 9 := rfl
attribute [go_sem] ty46 sz46 ag46 el46
theorem ty47 : tys.ty 47 = some ⟨.slice 161, 1, 24, [.nils 6]⟩ := rfl
theorem sz47 : tys.size 47 = some 1 := rfl
theorem ag47 : tys.agg 47 = some false := rfl
theorem el47 : tys.elem 47 = some 161 := rfl
attribute [go_sem] ty47 sz47 ag47 el47
theorem ty48 : tys.ty 48 = some ⟨.struct [(0, 3), (1, 9), (2, 9), (3, 25), (4, 46), (5, 3), (6, 3), (7, 4), (8, 3), (9, 46), (10, 47), (11, 37)], 13, 168, [.d (.v (.int .i64 0)), .d (.v (.string ByteArray.empty)), .d (.v (.string ByteArray.empty)), .d (.v (.int .u64 0)), .nils 1, .d (.v (.int .i64 0)), .d (.v (.int .i64 0)), .d (.v (.bool false)), .d (.v (.int .i64 0)), .nils 1, .nils 6, .d (.v (.int .u64 0)), .d (.v (.int .u64 0))]⟩ := rfl
theorem sz48 : tys.size 48 = some 13 := rfl
theorem ag48 : tys.agg 48 = some true := rfl
theorem fl48 : tys.fields 48 = some [(0, 3), (1, 9), (2, 9), (3, 25), (4, 46), (5, 3), (6, 3), (7, 4), (8, 3), (9, 46), (10, 47), (11, 37)] := rfl
attribute [go_sem] ty48 sz48 ag48 fl48
theorem ty49 : tys.ty 49 = some ⟨.struct [(0, 3), (1, 9), (2, 9), (3, 25), (4, 46), (5, 3), (6, 3), (7, 4), (8, 3), (9, 46), (10, 47), (11, 37)], 13, 168, [.d (.v (.int .i64 0)), .d (.v (.string ByteArray.empty)), .d (.v (.string ByteArray.empty)), .d (.v (.int .u64 0)), .nils 1, .d (.v (.int .i64 0)), .d (.v (.int .i64 0)), .d (.v (.bool false)), .d (.v (.int .i64 0)), .nils 1, .nils 6, .d (.v (.int .u64 0)), .d (.v (.int .u64 0))]⟩ := rfl
theorem sz49 : tys.size 49 = some 13 := rfl
theorem ag49 : tys.agg 49 = some true := rfl
theorem fl49 : tys.fields 49 = some [(0, 3), (1, 9), (2, 9), (3, 25), (4, 46), (5, 3), (6, 3), (7, 4), (8, 3), (9, 46), (10, 47), (11, 37)] := rfl
attribute [go_sem] ty49 sz49 ag49 fl49
theorem ty51 : tys.ty 51 = some ⟨.other, 1, 8, [.d (.v .nilFunc)]⟩ := rfl
theorem sz51 : tys.size 51 = some 1 := rfl
theorem ag51 : tys.agg 51 = some false := rfl
attribute [go_sem] ty51 sz51 ag51
theorem ty53 : tys.ty 53 = some ⟨.other, 1, 8, [.d (.v .nilFunc)]⟩ := rfl
theorem sz53 : tys.size 53 = some 1 := rfl
theorem ag53 : tys.agg 53 = some false := rfl
attribute [go_sem] ty53 sz53 ag53
theorem ty54 : tys.ty 54 = some ⟨.other, 1, 8, [.d (.v .nilFunc)]⟩ := rfl
theorem sz54 : tys.size 54 = some 1 := rfl
theorem ag54 : tys.agg 54 = some false := rfl
attribute [go_sem] ty54 sz54 ag54
theorem ty55 : tys.ty 55 = some ⟨.other, 1, 8, [.d (.v .nilFunc)]⟩ := rfl
theorem sz55 : tys.size 55 = some 1 := rfl
theorem ag55 : tys.agg 55 = some false := rfl
attribute [go_sem] ty55 sz55 ag55
theorem ty56 : tys.ty 56 = some ⟨.slice 49, 1, 24, [.nils 13]⟩ := rfl
theorem sz56 : tys.size 56 = some 1 := rfl
theorem ag56 : tys.agg 56 = some false := rfl
theorem el56 : tys.elem 56 = some 49 := rfl
attribute [go_sem] ty56 sz56 ag56 el56
theorem ty57 : tys.ty 57 = some ⟨.slice 56, 1, 24, [.nils 1]⟩ := rfl
theorem sz57 : tys.size 57 = some 1 := rfl
theorem ag57 : tys.agg 57 = some false := rfl
theorem el57 : tys.elem 57 = some 56 := rfl
attribute [go_sem] ty57 sz57 ag57 el57
theorem ty58 : tys.ty 58 = some ⟨.other, 1, 8, [.d (.v .nilFunc)]⟩ := rfl
theorem sz58 : tys.size 58 = some 1 := rfl
theorem ag58 : tys.agg 58 = some false := rfl
attribute [go_sem] ty58 sz58 ag58
theorem ty59 : tys.ty 59 = some ⟨.other, 1, 8, [.d (.v .nilFunc)]⟩ := rfl
theorem sz59 : tys.size 59 = some 1 := rfl
theorem ag59 : tys.agg 59 = some false := rfl
attribute [go_sem] ty59 sz59 ag59
theorem ty60 : tys.ty 60 = some ⟨.other, 1, 8, [.d (.v .nilFunc)]⟩ := rfl
theorem sz60 : tys.size 60 = some 1 := rfl
theorem ag60 : tys.agg 60 = some false := rfl
attribute [go_sem] ty60 sz60 ag60
theorem ty61 : tys.ty 61 = some ⟨.other, 1, 8, [.d (.v .nilFunc)]⟩ := rfl
theorem sz61 : tys.size 61 = some 1 := rfl
theorem ag61 : tys.agg 61 = some false := rfl
attribute [go_sem] ty61 sz61 ag61
theorem ty62 : tys.ty 62 = some ⟨.other, 1, 8, [.d (.v .nilFunc)]⟩ := rfl
theorem sz62 : tys.size 62 = some 1 := rfl
theorem ag62 : tys.agg 62 = some false := rfl
attribute [go_sem] ty62 sz62 ag62
theorem ty63 : tys.ty 63 = some ⟨.slice 65, 1, 24, [.nils 3]⟩ := rfl
theorem sz63 : tys.size 63 = some 1 := rfl
theorem ag63 : tys.agg 63 = some false := rfl
theorem el63 : tys.elem 63 = some 65 := rfl
attribute [go_sem] ty63 sz63 ag63 el63
theorem ty64 : tys.ty 64 = some ⟨.struct [(0, 3), (1, 22), (2, 63)], 3, 56, [.d (.v (.int .i64 0)), .nils 1, .nils 3]⟩ := rfl
theorem sz64 : tys.size 64 = some 3 := rfl
theorem ag64 : tys.agg 64 = some true := rfl
theorem fl64 : tys.fields 64 = some [(0, 3), (1, 22), (2, 63)] := rfl
attribute [go_sem] ty64 sz64 ag64 fl64
theorem ty65 : tys.ty 65 = some ⟨.struct [(0, 3), (1, 22), (2, 63)], 3, 56, [.d (.v (.int .i64 0)), .nils 1, .nils 3]⟩ := rfl
theorem sz65 : tys.size 65 = some 3 := rfl
theorem ag65 : tys.agg 65 = some true := rfl
theorem fl65 : tys.fields 65 = some [(0, 3), (1, 22), (2, 63)] := rfl
attribute [go_sem] ty65 sz65 ag65 fl65
theorem ty66 : tys.ty 66 = some ⟨.other, 1, 8, [.d (.v .nilFunc)]⟩ := rfl
theorem sz66 : tys.size 66 = some 1 := rfl
theorem ag66 : tys.agg 66 = some false := rfl
attribute [go_sem] ty66 sz66 ag66
theorem ty67 : tys.ty 67 = some ⟨.slice 74, 1, 24, [.nils 7]⟩ := rfl
theorem sz67 : tys.size 67 = some 1 := rfl
theorem ag67 : tys.agg 67 = some false := rfl
theorem el67 : tys.elem 67 = some 74 := rfl
attribute [go_sem] ty67 sz67 ag67 el67
theorem ty69 : tys.ty 69 = some ⟨.other, 1, 8, [.d (.v .nilFunc)]⟩ := rfl
theorem sz69 : tys.size 69 = some 1 := rfl
theorem ag69 : tys.agg 69 = some false := rfl
attribute [go_sem] ty69 sz69 ag69
theorem ty70 : tys.ty 70 = some ⟨.arr 2 25, 2, 16, [.d (.v (.int .u64 0)), .d (.v (.int .u64 0))]⟩ := rfl
theorem sz70 : tys.size 70 = some 2 := rfl
theorem ag70 : tys.agg 70 = some true := rfl
attribute [go_sem] ty70 sz70 ag70
theorem ty71 : tys.ty 71 = some ⟨.arr 2 25, 2, 16, [.d (.v (.int .u64 0)), .d (.v (.int .u64 0))]⟩ := rfl
theorem sz71 : tys.size 71 = some 2 := rfl
theorem ag71 : tys.agg 71 = some true := rfl
attribute [go_sem] ty71 sz71 ag71
theorem ty72 : tys.ty 72 = some ⟨.other, 1, 8, [.d (.v .nilFunc)]⟩ := rfl
theorem sz72 : tys.size 72 = some 1 := rfl
theorem ag72 : tys.agg 72 = some false := rfl
attribute [go_sem] ty72 sz72 ag72
theorem ty73 : tys.ty 73 = some ⟨.struct [(0, 9), (1, 4), (2, 46), (3, 25), (4, 3), (5, 3), (6, 3)], 7, 80, [.d (.v (.string ByteArray.empty)), .d (.v (.bool false)), .nils 1, .d (.v (.int .u64 0)), .d (.v (.int .i64 0)), .d (.v (.int .i64 0)), .d (.v (.int .i64 0))]⟩ := rfl
theorem sz73 : tys.size 73 = some 7 := rfl
theorem ag73 : tys.agg 73 = some true := rfl
theorem fl73 : tys.fields 73 = some [(0, 9), (1, 4), (2, 46), (3, 25), (4, 3), (5, 3), (6, 3)] := rfl
attribute [go_sem] ty73 sz73 ag73 fl73
theorem ty74 : tys.ty 74 = some ⟨.struct [(0, 9), (1, 4), (2, 46), (3, 25), (4, 3), (5, 3), (6, 3)], 7, 80, [.d (.v (.string ByteArray.empty)), .d (.v (.bool false)), .nils 1, .d (.v (.int .u64 0)), .d (.v (.int .i64 0)), .d (.v (.int .i64 0)), .d (.v (.int .i64 0))]⟩ := rfl
theorem sz74 : tys.size 74 = some 7 := rfl
theorem ag74 : tys.agg 74 = some true := rfl
theorem fl74 : tys.fields 74 = some [(0, 9), (1, 4), (2, 46), (3, 25), (4, 3), (5, 3), (6, 3)] := rfl
attribute [go_sem] ty74 sz74 ag74 fl74
theorem ty75 : tys.ty 75 = some ⟨.other, 1, 8, [.d (.v .nilFunc)]⟩ := rfl
theorem sz75 : tys.size 75 = some 1 := rfl
theorem ag75 : tys.agg 75 = some false := rfl
attribute [go_sem] ty75 sz75 ag75
theorem ty76 : tys.ty 76 = some ⟨.slice 71, 1, 24, [.nils 2]⟩ := rfl
theorem sz76 : tys.size 76 = some 1 := rfl
theorem ag76 : tys.agg 76 = some false := rfl
theorem el76 : tys.elem 76 = some 71 := rfl
attribute [go_sem] ty76 sz76 ag76 el76
theorem ty77 : tys.ty 77 = some ⟨.slice 4, 1, 24, [.nils 1]⟩ := rfl
theorem sz77 : tys.size 77 = some 1 := rfl
theorem ag77 : tys.agg 77 = some false := rfl
theorem el77 : tys.elem 77 = some 4 := rfl
attribute [go_sem] ty77 sz77 ag77 el77
theorem ty78 : tys.ty 78 = some ⟨.struct [(0, 3), (1, 25)], 2, 16, [.d (.v (.int .i64 0)), .d (.v (.int .u64 0))]⟩ := rfl
theorem sz78 : tys.size 78 = some 2 := rfl
theorem ag78 : tys.agg 78 = some true := rfl
theorem fl78 : tys.fields 78 = some [(0, 3), (1, 25)] := rfl
attribute [go_sem] ty78 sz78 ag78 fl78
theorem ty79 : tys.ty 79 = some ⟨.struct [(0, 3), (1, 25)], 2, 16, [.d (.v (.int .i64 0)), .d (.v (.int .u64 0))]⟩ := rfl
theorem sz79 : tys.size 79 = some 2 := rfl
theorem ag79 : tys.agg 79 = some true := rfl
theorem fl79 : tys.fields 79 = some [(0, 3), (1, 25)] := rfl
attribute [go_sem] ty79 sz79 ag79 fl79
theorem ty81 : tys.ty 81 = some ⟨.other, 1, 8, [.d (.v .nilFunc)]⟩ := rfl
theorem sz81 : tys.size 81 = some 1 := rfl
theorem ag81 : tys.agg 81 = some false := rfl
attribute [go_sem] ty81 sz81 ag81
theorem ty82 : tys.ty 82 = some ⟨.other, 1, 8, [.d (.v .nilFunc)]⟩ := rfl
theorem sz82 : tys.size 82 = some 1 := rfl
theorem ag82 : tys.agg 82 = some false := rfl
attribute [go_sem] ty82 sz82 ag82
theorem ty84 : tys.ty 84 = some ⟨.other, 1, 8, [.d (.v .nilFunc)]⟩ := rfl
theorem sz84 : tys.size 84 = some 1 := rfl
theorem ag84 : tys.agg 84 = some false := rfl
attribute [go_sem] ty84 sz84 ag84
theorem ty85 : tys.ty 85 = some ⟨.other, 1, 8, [.d (.v .nilFunc)]⟩ := rfl
theorem sz85 : tys.size 85 = some 1 := rfl
theorem ag85 : tys.agg 85 = some false := rfl
attribute [go_sem] ty85 sz85 ag85
theorem ty86 : tys.ty 86 = some ⟨.ptr, 1, 8, [.d (.v (.pointer none))]⟩ := rfl
theorem sz86 : tys.size 86 = some 1 := rfl
theorem ag86 : tys.agg 86 = some false := rfl
attribute [go_sem] ty86 sz86 ag86
theorem ty87 : tys.ty 87 = some ⟨.struct [(0, 28), (4, 22), (5, 26)], 6, 96, [.d (.v (.int .i64 0)), .d (.v (.int .i64 0)), .d (.v (.int .u64 0)), .nils 2, .nils 1, .nils 2]⟩ := rfl
theorem sz87 : tys.size 87 = some 6 := rfl
theorem ag87 : tys.agg 87 = some true := rfl
theorem fl87 : tys.fields 87 = some [(0, 28), (4, 22), (5, 26)] := rfl
attribute [go_sem] ty87 sz87 ag87 fl87
theorem ty88 : tys.ty 88 = some ⟨.struct [(0, 28), (4, 22), (5, 26)], 6, 96, [.d (.v (.int .i64 0)), .d (.v (.int .i64 0)), .d (.v (.int .u64 0)), .nils 2, .nils 1, .nils 2]⟩ := rfl
theorem sz88 : tys.size 88 = some 6 := rfl
theorem ag88 : tys.agg 88 = some true := rfl
theorem fl88 : tys.fields 88 = some [(0, 28), (4, 22), (5, 26)] := rfl
attribute [go_sem] ty88 sz88 ag88 fl88
theorem ty89 : tys.ty 89 = some ⟨.other, 1, 8, [.d (.v .nilFunc)]⟩ := rfl
theorem sz89 : tys.size 89 = some 1 := rfl
theorem ag89 : tys.agg 89 = some false := rfl
attribute [go_sem] ty89 sz89 ag89
theorem ty90 : tys.ty 90 = some ⟨.other, 1, 8, [.d (.v .nilFunc)]⟩ := rfl
theorem sz90 : tys.size 90 = some 1 := rfl
theorem ag90 : tys.agg 90 = some false := rfl
attribute [go_sem] ty90 sz90 ag90
theorem ty91 : tys.ty 91 = some ⟨.other, 1, 8, [.d (.v .nilFunc)]⟩ := rfl
theorem sz91 : tys.size 91 = some 1 := rfl
theorem ag91 : tys.agg 91 = some false := rfl
attribute [go_sem] ty91 sz91 ag91
theorem ty92 : tys.ty 92 = some ⟨.other, 1, 8, [.d (.v .nilFunc)]⟩ := rfl
theorem sz92 : tys.size 92 = some 1 := rfl
theorem ag92 : tys.agg 92 = some false := rfl
attribute [go_sem] ty92 sz92 ag92
theorem ty93 : tys.ty 93 = some ⟨.other, 1, 8, [.d (.v .nilFunc)]⟩ := rfl
theorem sz93 : tys.size 93 = some 1 := rfl
theorem ag93 : tys.agg 93 = some false := rfl
attribute [go_sem] ty93 sz93 ag93
theorem ty94 : tys.ty 94 = some ⟨.other, 1, 8, [.d (.v .nilFunc)]⟩ := rfl
theorem sz94 : tys.size 94 = some 1 := rfl
theorem ag94 : tys.agg 94 = some false := rfl
attribute [go_sem] ty94 sz94 ag94
theorem ty95 : tys.ty 95 = some ⟨.other, 1, 8, [.d (.v .nilFunc)]⟩ := rfl
theorem sz95 : tys.size 95 = some 1 := rfl
theorem ag95 : tys.agg 95 = some false := rfl
attribute [go_sem] ty95 sz95 ag95
theorem ty96 : tys.ty 96 = some ⟨.other, 1, 8, [.d (.v .nilFunc)]⟩ := rfl
theorem sz96 : tys.size 96 = some 1 := rfl
theorem ag96 : tys.agg 96 = some false := rfl
attribute [go_sem] ty96 sz96 ag96
theorem ty97 : tys.ty 97 = some ⟨.other, 1, 8, [.d (.v .nilFunc)]⟩ := rfl
theorem sz97 : tys.size 97 = some 1 := rfl
theorem ag97 : tys.agg 97 = some false := rfl
attribute [go_sem] ty97 sz97 ag97
theorem ty98 : tys.ty 98 = some ⟨.other, 1, 8, [.d (.v .nilFunc)]⟩ := rfl
theorem sz98 : tys.size 98 = some 1 := rfl
theorem ag98 : tys.agg 98 = some false := rfl
attribute [go_sem] ty98 sz98 ag98
theorem ty99 : tys.ty 99 = some ⟨.other, 1, 8, [.d (.v .nilFunc)]⟩ := rfl
theorem sz99 : tys.size 99 = some 1 := rfl
theorem ag99 : tys.agg 99 = some false := rfl
attribute [go_sem] ty99 sz99 ag99
theorem ty100 : tys.ty 100 = some ⟨.other, 1, 8, [.d (.v .nilFunc)]⟩ := rfl
theorem sz100 : tys.size 100 = some 1 := rfl
theorem ag100 : tys.agg 100 = some false := rfl
attribute [go_sem] ty100 sz100 ag100
theorem ty101 : tys.ty 101 = some ⟨.other, 1, 8, [.d (.v .nilFunc)]⟩ := rfl
theorem sz101 : tys.size 101 = some 1 := rfl
theorem ag101 : tys.agg 101 = some false := rfl
attribute [go_sem] ty101 sz101 ag101
theorem ty102 : tys.ty 102 = some ⟨.other, 1, 8, [.d (.v .nilFunc)]⟩ := rfl
theorem sz102 : tys.size 102 = some 1 := rfl
theorem ag102 : tys.agg 102 = some false := rfl
attribute [go_sem] ty102 sz102 ag102
theorem ty104 : tys.ty 104 = some ⟨.other, 1, 8, [.d (.v .nilFunc)]⟩ := rfl
theorem sz104 : tys.size 104 = some 1 := rfl
theorem ag104 : tys.agg 104 = some false := rfl
attribute [go_sem] ty104 sz104 ag104
theorem ty105 : tys.ty 105 = some ⟨.other, 1, 8, [.d (.v .nilFunc)]⟩ := rfl
theorem sz105 : tys.size 105 = some 1 := rfl
theorem ag105 : tys.agg 105 = some false := rfl
attribute [go_sem] ty105 sz105 ag105
theorem ty106 : tys.ty 106 = some ⟨.other, 1, 8, [.d (.v .nilFunc)]⟩ := rfl
theorem sz106 : tys.size 106 = some 1 := rfl
theorem ag106 : tys.agg 106 = some false := rfl
attribute [go_sem] ty106 sz106 ag106
theorem ty107 : tys.ty 107 = some ⟨.other, 1, 8, [.d (.v .nilFunc)]⟩ := rfl
theorem sz107 : tys.size 107 = some 1 := rfl
theorem ag107 : tys.agg 107 = some false := rfl
attribute [go_sem] ty107 sz107 ag107
theorem ty108 : tys.ty 108 = some ⟨.other, 1, 8, [.d (.v .nilFunc)]⟩ := rfl
theorem sz108 : tys.size 108 = some 1 := rfl
theorem ag108 : tys.agg 108 = some false := rfl
attribute [go_sem] ty108 sz108 ag108
theorem ty109 : tys.ty 109 = some ⟨.slice 110, 1, 24, [.nils 1]⟩ := rfl
theorem sz109 : tys.size 109 = some 1 := rfl
theorem ag109 : tys.agg 109 = some false := rfl
theorem el109 : tys.elem 109 = some 110 := rfl
attribute [go_sem] ty109 sz109 ag109 el109
theorem ty110 : tys.ty 110 = some ⟨.ptr, 1, 8, [.d (.v (.pointer none))]⟩ := rfl
theorem sz110 : tys.size 110 = some 1 := rfl
theorem ag110 : tys.agg 110 = some false := rfl
attribute [go_sem] ty110 sz110 ag110
theorem ty111 : tys.ty 111 = some ⟨.other, 1, 8, [.d (.v .nilFunc)]⟩ := rfl
theorem sz111 : tys.size 111 = some 1 := rfl
theorem ag111 : tys.agg 111 = some false := rfl
attribute [go_sem] ty111 sz111 ag111
theorem ty112 : tys.ty 112 = some ⟨.other, 1, 8, [.d (.v .nilFunc)]⟩ := rfl
theorem sz112 : tys.size 112 = some 1 := rfl
theorem ag112 : tys.agg 112 = some false := rfl
attribute [go_sem] ty112 sz112 ag112
theorem ty113 : tys.ty 113 = some ⟨.other, 1, 8, [.d (.v .nilFunc)]⟩ := rfl
theorem sz113 : tys.size 113 = some 1 := rfl
theorem ag113 : tys.agg 113 = some false := rfl
attribute [go_sem] ty113 sz113 ag113
theorem ty114 : tys.ty 114 = some ⟨.other, 1, 8, [.d (.v .nilFunc)]⟩ := rfl
theorem sz114 : tys.size 114 = some 1 := rfl
theorem ag114 : tys.agg 114 = some false := rfl
attribute [go_sem] ty114 sz114 ag114
theorem ty115 : tys.ty 115 = some ⟨.struct [(0, 56), (1, 56), (2, 9), (3, 3)], 4, 72, [.nils 13, .nils 13, .d (.v (.string ByteArray.empty)), .d (.v (.int .i64 0))]⟩ := rfl
theorem sz115 : tys.size 115 = some 4 := rfl
theorem ag115 : tys.agg 115 = some true := rfl
theorem fl115 : tys.fields 115 = some [(0, 56), (1, 56), (2, 9), (3, 3)] := rfl
attribute [go_sem] ty115 sz115 ag115 fl115
theorem ty116 : tys.ty 116 = some ⟨.struct [(0, 56), (1, 56), (2, 9), (3, 3)], 4, 72, [.nils 13, .nils 13, .d (.v (.string ByteArray.empty)), .d (.v (.int .i64 0))]⟩ := rfl
theorem sz116 : tys.size 116 = some 4 := rfl
theorem ag116 : tys.agg 116 = some true := rfl
theorem fl116 : tys.fields 116 = some [(0, 56), (1, 56), (2, 9), (3, 3)] := rfl
attribute [go_sem] ty116 sz116 ag116 fl116
theorem ty117 : tys.ty 117 = some ⟨.other, 1, 8, [.d (.v .nilFunc)]⟩ := rfl
theorem sz117 : tys.size 117 = some 1 := rfl
theorem ag117 : tys.agg 117 = some false := rfl
attribute [go_sem] ty117 sz117 ag117
theorem ty118 : tys.ty 118 = some ⟨.other, 1, 8, [.d (.v .nilFunc)]⟩ := rfl
theorem sz118 : tys.size 118 = some 1 := rfl
theorem ag118 : tys.agg 118 = some false := rfl
attribute [go_sem] ty118 sz118 ag118
theorem ty119 : tys.ty 119 = some ⟨.other, 1, 8, [.d (.v .nilFunc)]⟩ := rfl
theorem sz119 : tys.size 119 = some 1 := rfl
theorem ag119 : tys.agg 119 = some false := rfl
attribute [go_sem] ty119 sz119 ag119
theorem ty120 : tys.ty 120 = some ⟨.arr 8 5, 8, 8, [.d (.v (.int .u8 0)), .d (.v (.int .u8 0)), .d (.v (.int .u8 0)), .d (.v (.int .u8 0)), .d (.v (.int .u8 0)), .d (.v (.int .u8 0)), .d (.v (.int .u8 0)), .d (.v (.int .u8 0))]⟩ := rfl
theorem sz120 : tys.size 120 = some 8 := rfl
theorem ag120 : tys.agg 120 = some true := rfl
attribute [go_sem] ty120 sz120 ag120
theorem ty121 : tys.ty 121 = some ⟨.other, 1, 8, [.d (.v .nilFunc)]⟩ := rfl
theorem sz121 : tys.size 121 = some 1 := rfl
theorem ag121 : tys.agg 121 = some false := rfl
attribute [go_sem] ty121 sz121 ag121
theorem ty122 : tys.ty 122 = some ⟨.other, 1, 8, [.d (.v .nilFunc)]⟩ := rfl
theorem sz122 : tys.size 122 = some 1 := rfl
theorem ag122 : tys.agg 122 = some false := rfl
attribute [go_sem] ty122 sz122 ag122
theorem ty123 : tys.ty 123 = some ⟨.struct [(0, 3), (1, 31)], 2, 16, [.d (.v (.int .i64 0)), .d (.v (.int .i64 0))]⟩ := rfl
theorem sz123 : tys.size 123 = some 2 := rfl
theorem ag123 : tys.agg 123 = some true := rfl
theorem fl123 : tys.fields 123 = some [(0, 3), (1, 31)] := rfl
attribute [go_sem] ty123 sz123 ag123 fl123
theorem ty124 : tys.ty 124 = some ⟨.struct [(0, 3), (1, 31)], 2, 16, [.d (.v (.int .i64 0)), .d (.v (.int .i64 0))]⟩ := rfl
theorem sz124 : tys.size 124 = some 2 := rfl
theorem ag124 : tys.agg 124 = some true := rfl
theorem fl124 : tys.fields 124 = some [(0, 3), (1, 31)] := rfl
attribute [go_sem] ty124 sz124 ag124 fl124
theorem ty125 : tys.ty 125 = some ⟨.ptr, 1, 8, [.d (.v (.pointer none))]⟩ := rfl
theorem sz125 : tys.size 125 = some 1 := rfl
theorem ag125 : tys.agg 125 = some false := rfl
attribute [go_sem] ty125 sz125 ag125
theorem ty126 : tys.ty 126 = some ⟨.struct [(0, 22), (1, 3), (2, 9)], 3, 48, [.nils 1, .d (.v (.int .i64 0)), .d (.v (.string ByteArray.empty))]⟩ := rfl
theorem sz126 : tys.size 126 = some 3 := rfl
theorem ag126 : tys.agg 126 = some true := rfl
theorem fl126 : tys.fields 126 = some [(0, 22), (1, 3), (2, 9)] := rfl
attribute [go_sem] ty126 sz126 ag126 fl126
theorem ty127 : tys.ty 127 = some ⟨.struct [(0, 22), (1, 3), (2, 9)], 3, 48, [.nils 1, .d (.v (.int .i64 0)), .d (.v (.string ByteArray.empty))]⟩ := rfl
theorem sz127 : tys.size 127 = some 3 := rfl
theorem ag127 : tys.agg 127 = some true := rfl
theorem fl127 : tys.fields 127 = some [(0, 22), (1, 3), (2, 9)] := rfl
attribute [go_sem] ty127 sz127 ag127 fl127
theorem ty128 : tys.ty 128 = some ⟨.other, 1, 8, [.d (.v .nilFunc)]⟩ := rfl
theorem sz128 : tys.size 128 = some 1 := rfl
theorem ag128 : tys.agg 128 = some false := rfl
attribute [go_sem] ty128 sz128 ag128
theorem ty129 : tys.ty 129 = some ⟨.other, 1, 8, [.d (.v .nilFunc)]⟩ := rfl
theorem sz129 : tys.size 129 = some 1 := rfl
theorem ag129 : tys.agg 129 = some false := rfl
attribute [go_sem] ty129 sz129 ag129
theorem ty130 : tys.ty 130 = some ⟨.slice 133, 1, 24, [.nils 3]⟩ := rfl
theorem sz130 : tys.size 130 = some 1 := rfl
theorem ag130 : tys.agg 130 = some false := rfl
theorem el130 : tys.elem 130 = some 133 := rfl
attribute [go_sem] ty130 sz130 ag130 el130
theorem ty131 : tys.ty 131 = some ⟨.other, 1, 8, [.d (.v .nilFunc)]⟩ := rfl
theorem sz131 : tys.size 131 = some 1 := rfl
theorem ag131 : tys.agg 131 = some false := rfl
attribute [go_sem] ty131 sz131 ag131
theorem ty132 : tys.ty 132 = some ⟨.struct [(0, 3), (1, 71)], 3, 24, [.d (.v (.int .i64 0)), .d (.v (.int .u64 0)), .d (.v (.int .u64 0))]⟩ := rfl
theorem sz132 : tys.size 132 = some 3 := rfl
theorem ag132 : tys.agg 132 = some true := rfl
theorem fl132 : tys.fields 132 = some [(0, 3), (1, 71)] := rfl
attribute [go_sem] ty132 sz132 ag132 fl132
theorem ty133 : tys.ty 133 = some ⟨.struct [(0, 3), (1, 71)], 3, 24, [.d (.v (.int .i64 0)), .d (.v (.int .u64 0)), .d (.v (.int .u64 0))]⟩ := rfl
theorem sz133 : tys.size 133 = some 3 := rfl
theorem ag133 : tys.agg 133 = some true := rfl
theorem fl133 : tys.fields 133 = some [(0, 3), (1, 71)] := rfl
attribute [go_sem] ty133 sz133 ag133 fl133
theorem ty134 : tys.ty 134 = some ⟨.other, 1, 8, [.d (.v .nilFunc)]⟩ := rfl
theorem sz134 : tys.size 134 = some 1 := rfl
theorem ag134 : tys.agg 134 = some false := rfl
attribute [go_sem] ty134 sz134 ag134
theorem ty135 : tys.ty 135 = some ⟨.other, 1, 8, [.d (.v .nilFunc)]⟩ := rfl
theorem sz135 : tys.size 135 = some 1 := rfl
theorem ag135 : tys.agg 135 = some false := rfl
attribute [go_sem] ty135 sz135 ag135
theorem ty136 : tys.ty 136 = some ⟨.other, 1, 8, [.d (.v .nilFunc)]⟩ := rfl
theorem sz136 : tys.size 136 = some 1 := rfl
theorem ag136 : tys.agg 136 = some false := rfl
attribute [go_sem] ty136 sz136 ag136
theorem ty137 : tys.ty 137 = some ⟨.other, 1, 8, [.d (.v .nilFunc)]⟩ := rfl
theorem sz137 : tys.size 137 = some 1 := rfl
theorem ag137 : tys.agg 137 = some false := rfl
attribute [go_sem] ty137 sz137 ag137
theorem ty138 : tys.ty 138 = some ⟨.other, 1, 8, [.d (.v .nilFunc)]⟩ := rfl
theorem sz138 : tys.size 138 = some 1 := rfl
theorem ag138 : tys.agg 138 = some false := rfl
attribute [go_sem] ty138 sz138 ag138
theorem ty139 : tys.ty 139 = some ⟨.slice 25, 1, 24, [.nils 1]⟩ := rfl
theorem sz139 : tys.size 139 = some 1 := rfl
theorem ag139 : tys.agg 139 = some false := rfl
theorem el139 : tys.elem 139 = some 25 := rfl
attribute [go_sem] ty139 sz139 ag139 el139
theorem ty140 : tys.ty 140 = some ⟨.other, 1, 8, [.d (.v .nilFunc)]⟩ := rfl
theorem sz140 : tys.size 140 = some 1 := rfl
theorem ag140 : tys.agg 140 = some false := rfl
attribute [go_sem] ty140 sz140 ag140
theorem ty141 : tys.ty 141 = some ⟨.other, 1, 8, [.d (.v .nilFunc)]⟩ := rfl
theorem sz141 : tys.size 141 = some 1 := rfl
theorem ag141 : tys.agg 141 = some false := rfl
attribute [go_sem] ty141 sz141 ag141
theorem ty142 : tys.ty 142 = some ⟨.other, 1, 8, [.d (.v .nilFunc)]⟩ := rfl
theorem sz142 : tys.size 142 = some 1 := rfl
theorem ag142 : tys.agg 142 = some false := rfl
attribute [go_sem] ty142 sz142 ag142
theorem ty143 : tys.ty 143 = some ⟨.other, 1, 8, [.d (.v .nilFunc)]⟩ := rfl
theorem sz143 : tys.size 143 = some 1 := rfl
theorem ag143 : tys.agg 143 = some false := rfl
attribute [go_sem] ty143 sz143 ag143
theorem ty144 : tys.ty 144 = some ⟨.other, 1, 8, [.d (.v .nilFunc)]⟩ := rfl
theorem sz144 : tys.size 144 = some 1 := rfl
theorem ag144 : tys.agg 144 = some false := rfl
attribute [go_sem] ty144 sz144 ag144
theorem ty146 : tys.ty 146 = some ⟨.other, 1, 8, [.d (.v .nilFunc)]⟩ := rfl
theorem sz146 : tys.size 146 = some 1 := rfl
theorem ag146 : tys.agg 146 = some false := rfl
attribute [go_sem] ty146 sz146 ag146
theorem ty147 : tys.ty 147 = some ⟨.other, 1, 8, [.d (.v .nilFunc)]⟩ := rfl
theorem sz147 : tys.size 147 = some 1 := rfl
theorem ag147 : tys.agg 147 = some false := rfl
attribute [go_sem] ty147 sz147 ag147
theorem ty148 : tys.ty 148 = some ⟨.slice 92, 1, 24, [.nils 1]⟩ := rfl
theorem sz148 : tys.size 148 = some 1 := rfl
theorem ag148 : tys.agg 148 = some false := rfl
theorem el148 : tys.elem 148 = some 92 := rfl
attribute [go_sem] ty148 sz148 ag148 el148
theorem ty149 : tys.ty 149 = some ⟨.other, 1, 8, [.d (.v .nilFunc)]⟩ := rfl
theorem sz149 : tys.size 149 = some 1 := rfl
theorem ag149 : tys.agg 149 = some false := rfl
attribute [go_sem] ty149 sz149 ag149
theorem ty150 : tys.ty 150 = some ⟨(.int .u64), 1, 8, [.d (.v (.int .u64 0))]⟩ := rfl
theorem sz150 : tys.size 150 = some 1 := rfl
theorem ag150 : tys.agg 150 = some false := rfl
attribute [go_sem] ty150 sz150 ag150
theorem ty151 : tys.ty 151 = some ⟨.other, 1, 8, [.d (.v .nilFunc)]⟩ := rfl
theorem sz151 : tys.size 151 = some 1 := rfl
theorem ag151 : tys.agg 151 = some false := rfl
attribute [go_sem] ty151 sz151 ag151
theorem ty152 : tys.ty 152 = some ⟨.other, 1, 8, [.d (.v .nilFunc)]⟩ := rfl
theorem sz152 : tys.size 152 = some 1 := rfl
theorem ag152 : tys.agg 152 = some false := rfl
attribute [go_sem] ty152 sz152 ag152
theorem ty153 : tys.ty 153 = some ⟨.other, 1, 8, [.d (.v .nilFunc)]⟩ := rfl
theorem sz153 : tys.size 153 = some 1 := rfl
theorem ag153 : tys.agg 153 = some false := rfl
attribute [go_sem] ty153 sz153 ag153
theorem ty154 : tys.ty 154 = some ⟨.other, 1, 8, [.d (.v .nilFunc)]⟩ := rfl
theorem sz154 : tys.size 154 = some 1 := rfl
theorem ag154 : tys.agg 154 = some false := rfl
attribute [go_sem] ty154 sz154 ag154
theorem ty156 : tys.ty 156 = some ⟨.other, 1, 8, [.d (.v .nilFunc)]⟩ := rfl
theorem sz156 : tys.size 156 = some 1 := rfl
theorem ag156 : tys.agg 156 = some false := rfl
attribute [go_sem] ty156 sz156 ag156
theorem ty157 : tys.ty 157 = some ⟨.slice 22, 1, 24, [.nils 1]⟩ := rfl
theorem sz157 : tys.size 157 = some 1 := rfl
theorem ag157 : tys.agg 157 = some false := rfl
theorem el157 : tys.elem 157 = some 22 := rfl
attribute [go_sem] ty157 sz157 ag157 el157
theorem ty158 : tys.ty 158 = some ⟨.other, 1, 8, [.d (.v .nilFunc)]⟩ := rfl
theorem sz158 : tys.size 158 = some 1 := rfl
theorem ag158 : tys.agg 158 = some false := rfl
attribute [go_sem] ty158 sz158 ag158
theorem ty159 : tys.ty 159 = some ⟨.other, 1, 8, [.d (.v .nilFunc)]⟩ := rfl
theorem sz159 : tys.size 159 = some 1 := rfl
theorem ag159 : tys.agg 159 = some false := rfl
attribute [go_sem] ty159 sz159 ag159
theorem ty160 : tys.ty 160 = some ⟨.struct [(0, 3), (1, 3), (2, 71), (4, 37)], 6, 48, [.d (.v (.int .i64 0)), .d (.v (.int .i64 0)), .d (.v (.int .u64 0)), .d (.v (.int .u64 0)), .d (.v (.int .u64 0)), .d (.v (.int .u64 0))]⟩ := rfl
theorem sz160 : tys.size 160 = some 6 := rfl
theorem ag160 : tys.agg 160 = some true := rfl
theorem fl160 : tys.fields 160 = some [(0, 3), (1, 3), (2, 71), (4, 37)] := rfl
attribute [go_sem] ty160 sz160 ag160 fl160
theorem ty161 : tys.ty 161 = some ⟨.struct [(0, 3), (1, 3), (2, 71), (4, 37)], 6, 48, [.d (.v (.int .i64 0)), .d (.v (.int .i64 0)), .d (.v (.int .u64 0)), .d (.v (.int .u64 0)), .d (.v (.int .u64 0)), .d (.v (.int .u64 0))]⟩ := rfl
theorem sz161 : tys.size 161 = some 6 := rfl
theorem ag161 : tys.agg 161 = some true := rfl
theorem fl161 : tys.fields 161 = some [(0, 3), (1, 3), (2, 71), (4, 37)] := rfl
attribute [go_sem] ty161 sz161 ag161 fl161
theorem ty162 : tys.ty 162 = some ⟨.other, 1, 8, [.d (.v .nilFunc)]⟩ := rfl
theorem sz162 : tys.size 162 = some 1 := rfl
theorem ag162 : tys.agg 162 = some false := rfl
attribute [go_sem] ty162 sz162 ag162
theorem ty163 : tys.ty 163 = some ⟨.other, 1, 8, [.d (.v .nilFunc)]⟩ := rfl
theorem sz163 : tys.size 163 = some 1 := rfl
theorem ag163 : tys.agg 163 = some false := rfl
attribute [go_sem] ty163 sz163 ag163
theorem ty164 : tys.ty 164 = some ⟨.other, 1, 8, [.d (.v .nilFunc)]⟩ := rfl
theorem sz164 : tys.size 164 = some 1 := rfl
theorem ag164 : tys.agg 164 = some false := rfl
attribute [go_sem] ty164 sz164 ag164
theorem ty165 : tys.ty 165 = some ⟨.other, 1, 8, [.d (.v .nilFunc)]⟩ := rfl
theorem sz165 : tys.size 165 = some 1 := rfl
theorem ag165 : tys.agg 165 = some false := rfl
attribute [go_sem] ty165 sz165 ag165
theorem ty166 : tys.ty 166 = some ⟨.other, 1, 8, [.d (.v .nilFunc)]⟩ := rfl
theorem sz166 : tys.size 166 = some 1 := rfl
theorem ag166 : tys.agg 166 = some false := rfl
attribute [go_sem] ty166 sz166 ag166
theorem ty167 : tys.ty 167 = some ⟨.other, 1, 8, [.d (.v .nilFunc)]⟩ := rfl
theorem sz167 : tys.size 167 = some 1 := rfl
theorem ag167 : tys.agg 167 = some false := rfl
attribute [go_sem] ty167 sz167 ag167
theorem ty168 : tys.ty 168 = some ⟨.other, 1, 8, [.d (.v .nilFunc)]⟩ := rfl
theorem sz168 : tys.size 168 = some 1 := rfl
theorem ag168 : tys.agg 168 = some false := rfl
attribute [go_sem] ty168 sz168 ag168
theorem ty169 : tys.ty 169 = some ⟨.other, 1, 8, [.d (.v .nilFunc)]⟩ := rfl
theorem sz169 : tys.size 169 = some 1 := rfl
theorem ag169 : tys.agg 169 = some false := rfl
attribute [go_sem] ty169 sz169 ag169
theorem ty170 : tys.ty 170 = some ⟨.other, 1, 8, [.d (.v .nilFunc)]⟩ := rfl
theorem sz170 : tys.size 170 = some 1 := rfl
theorem ag170 : tys.agg 170 = some false := rfl
attribute [go_sem] ty170 sz170 ag170
theorem ty171 : tys.ty 171 = some ⟨.other, 1, 8, [.d (.v .nilFunc)]⟩ := rfl
theorem sz171 : tys.size 171 = some 1 := rfl
theorem ag171 : tys.agg 171 = some false := rfl
attribute [go_sem] ty171 sz171 ag171
theorem ty172 : tys.ty 172 = some ⟨.struct [(0, 3), (1, 121)], 2, 16, [.d (.v (.int .i64 0)), .d (.v .nilFunc)]⟩ := rfl
theorem sz172 : tys.size 172 = some 2 := rfl
theorem ag172 : tys.agg 172 = some true := rfl
theorem fl172 : tys.fields 172 = some [(0, 3), (1, 121)] := rfl
attribute [go_sem] ty172 sz172 ag172 fl172
theorem ty173 : tys.ty 173 = some ⟨.struct [(0, 3), (1, 121)], 2, 16, [.d (.v (.int .i64 0)), .d (.v .nilFunc)]⟩ := rfl
theorem sz173 : tys.size 173 = some 2 := rfl
theorem ag173 : tys.agg 173 = some true := rfl
theorem fl173 : tys.fields 173 = some [(0, 3), (1, 121)] := rfl
attribute [go_sem] ty173 sz173 ag173 fl173
theorem ty175 : tys.ty 175 = some ⟨.other, 1, 8, [.d (.v .nilFunc)]⟩ := rfl
theorem sz175 : tys.size 175 = some 1 := rfl
theorem ag175 : tys.agg 175 = some false := rfl
attribute [go_sem] ty175 sz175 ag175
theorem ty176 : tys.ty 176 = some ⟨.other, 1, 8, [.d (.v .nilFunc)]⟩ := rfl
theorem sz176 : tys.size 176 = some 1 := rfl
theorem ag176 : tys.agg 176 = some false := rfl
attribute [go_sem] ty176 sz176 ag176
theorem ty177 : tys.ty 177 = some ⟨.other, 1, 8, [.d (.v .nilFunc)]⟩ := rfl
theorem sz177 : tys.size 177 = some 1 := rfl
theorem ag177 : tys.agg 177 = some false := rfl
attribute [go_sem] ty177 sz177 ag177
theorem ty178 : tys.ty 178 = some ⟨.other, 1, 8, [.d (.v .nilFunc)]⟩ := rfl
theorem sz178 : tys.size 178 = some 1 := rfl
theorem ag178 : tys.agg 178 = some false := rfl
attribute [go_sem] ty178 sz178 ag178
theorem ty179 : tys.ty 179 = some ⟨(.int .u64), 1, 8, [.d (.v (.int .u64 0))]⟩ := rfl
theorem sz179 : tys.size 179 = some 1 := rfl
theorem ag179 : tys.agg 179 = some false := rfl
attribute [go_sem] ty179 sz179 ag179
theorem ty180 : tys.ty 180 = some ⟨.other, 1, 8, [.d (.v .nilFunc)]⟩ := rfl
theorem sz180 : tys.size 180 = some 1 := rfl
theorem ag180 : tys.agg 180 = some false := rfl
attribute [go_sem] ty180 sz180 ag180
theorem ty181 : tys.ty 181 = some ⟨.other, 1, 8, [.d (.v .nilFunc)]⟩ := rfl
theorem sz181 : tys.size 181 = some 1 := rfl
theorem ag181 : tys.agg 181 = some false := rfl
attribute [go_sem] ty181 sz181 ag181
theorem ty182 : tys.ty 182 = some ⟨.other, 1, 8, [.d (.v .nilFunc)]⟩ := rfl
theorem sz182 : tys.size 182 = some 1 := rfl
theorem ag182 : tys.agg 182 = some false := rfl
attribute [go_sem] ty182 sz182 ag182
theorem ty183 : tys.ty 183 = some ⟨.other, 1, 8, [.d (.v .nilFunc)]⟩ := rfl
theorem sz183 : tys.size 183 = some 1 := rfl
theorem ag183 : tys.agg 183 = some false := rfl
attribute [go_sem] ty183 sz183 ag183
theorem ty184 : tys.ty 184 = some ⟨.other, 1, 8, [.d (.v .nilFunc)]⟩ := rfl
theorem sz184 : tys.size 184 = some 1 := rfl
theorem ag184 : tys.agg 184 = some false := rfl
attribute [go_sem] ty184 sz184 ag184
theorem ty185 : tys.ty 185 = some ⟨.other, 1, 8, [.d (.v .nilFunc)]⟩ := rfl
theorem sz185 : tys.size 185 = some 1 := rfl
theorem ag185 : tys.agg 185 = some false := rfl
attribute [go_sem] ty185 sz185 ag185
theorem ty186 : tys.ty 186 = some ⟨.other, 1, 8, [.d (.v .nilFunc)]⟩ := rfl
theorem sz186 : tys.size 186 = some 1 := rfl
theorem ag186 : tys.agg 186 = some false := rfl
attribute [go_sem] ty186 sz186 ag186
theorem ty187 : tys.ty 187 = some ⟨.other, 1, 8, [.d (.v .nilFunc)]⟩ := rfl
theorem sz187 : tys.size 187 = some 1 := rfl
theorem ag187 : tys.agg 187 = some false := rfl
attribute [go_sem] ty187 sz187 ag187
theorem ty188 : tys.ty 188 = some ⟨.other, 1, 8, [.d (.v .nilFunc)]⟩ := rfl
theorem sz188 : tys.size 188 = some 1 := rfl
theorem ag188 : tys.agg 188 = some false := rfl
attribute [go_sem] ty188 sz188 ag188
theorem ty189 : tys.ty 189 = some ⟨.other, 1, 8, [.d (.v .nilFunc)]⟩ := rfl
theorem sz189 : tys.size 189 = some 1 := rfl
theorem ag189 : tys.agg 189 = some false := rfl
attribute [go_sem] ty189 sz189 ag189
theorem ty190 : tys.ty 190 = some ⟨.other, 1, 8, [.d (.v .nilFunc)]⟩ := rfl
theorem sz190 : tys.size 190 = some 1 := rfl
theorem ag190 : tys.agg 190 = some false := rfl
attribute [go_sem] ty190 sz190 ag190
theorem ty191 : tys.ty 191 = some ⟨.other, 1, 8, [.d (.v .nilFunc)]⟩ := rfl
theorem sz191 : tys.size 191 = some 1 := rfl
theorem ag191 : tys.agg 191 = some false := rfl
attribute [go_sem] ty191 sz191 ag191
theorem ty193 : tys.ty 193 = some ⟨.other, 1, 8, [.d (.v .nilFunc)]⟩ := rfl
theorem sz193 : tys.size 193 = some 1 := rfl
theorem ag193 : tys.agg 193 = some false := rfl
attribute [go_sem] ty193 sz193 ag193
theorem ty194 : tys.ty 194 = some ⟨.other, 1, 8, [.d (.v .nilFunc)]⟩ := rfl
theorem sz194 : tys.size 194 = some 1 := rfl
theorem ag194 : tys.agg 194 = some false := rfl
attribute [go_sem] ty194 sz194 ag194
theorem ty195 : tys.ty 195 = some ⟨.other, 1, 8, [.d (.v .nilFunc)]⟩ := rfl
theorem sz195 : tys.size 195 = some 1 := rfl
theorem ag195 : tys.agg 195 = some false := rfl
attribute [go_sem] ty195 sz195 ag195
theorem ty196 : tys.ty 196 = some ⟨.other, 1, 8, [.d (.v .nilFunc)]⟩ := rfl
theorem sz196 : tys.size 196 = some 1 := rfl
theorem ag196 : tys.agg 196 = some false := rfl
attribute [go_sem] ty196 sz196 ag196
theorem ty197 : tys.ty 197 = some ⟨.other, 1, 8, [.d (.v .nilFunc)]⟩ := rfl
theorem sz197 : tys.size 197 = some 1 := rfl
theorem ag197 : tys.agg 197 = some false := rfl
attribute [go_sem] ty197 sz197 ag197
theorem ty198 : tys.ty 198 = some ⟨.other, 1, 8, [.d (.v .nilFunc)]⟩ := rfl
theorem sz198 : tys.size 198 = some 1 := rfl
theorem ag198 : tys.agg 198 = some false := rfl
attribute [go_sem] ty198 sz198 ag198
theorem ty199 : tys.ty 199 = some ⟨.other, 1, 8, [.d (.v .nilFunc)]⟩ := rfl
theorem sz199 : tys.size 199 = some 1 := rfl
theorem ag199 : tys.agg 199 = some false := rfl
attribute [go_sem] ty199 sz199 ag199
theorem ty200 : tys.ty 200 = some ⟨.other, 1, 8, [.d (.v .nilFunc)]⟩ := rfl
theorem sz200 : tys.size 200 = some 1 := rfl
theorem ag200 : tys.agg 200 = some false := rfl
attribute [go_sem] ty200 sz200 ag200
theorem ty201 : tys.ty 201 = some ⟨.other, 1, 8, [.d (.v .nilFunc)]⟩ := rfl
theorem sz201 : tys.size 201 = some 1 := rfl
theorem ag201 : tys.agg 201 = some false := rfl
attribute [go_sem] ty201 sz201 ag201
theorem ty202 : tys.ty 202 = some ⟨.other, 1, 8, [.d (.v .nilFunc)]⟩ := rfl
theorem sz202 : tys.size 202 = some 1 := rfl
theorem ag202 : tys.agg 202 = some false := rfl
attribute [go_sem] ty202 sz202 ag202
theorem ty203 : tys.ty 203 = some ⟨.other, 1, 8, [.d (.v .nilFunc)]⟩ := rfl
theorem sz203 : tys.size 203 = some 1 := rfl
theorem ag203 : tys.agg 203 = some false := rfl
attribute [go_sem] ty203 sz203 ag203
theorem ty204 : tys.ty 204 = some ⟨.other, 1, 8, [.d (.v .nilFunc)]⟩ := rfl
theorem sz204 : tys.size 204 = some 1 := rfl
theorem ag204 : tys.agg 204 = some false := rfl
attribute [go_sem] ty204 sz204 ag204
theorem ty205 : tys.ty 205 = some ⟨.other, 1, 8, [.d (.v .nilFunc)]⟩ := rfl
theorem sz205 : tys.size 205 = some 1 := rfl
theorem ag205 : tys.agg 205 = some false := rfl
attribute [go_sem] ty205 sz205 ag205
theorem ty206 : tys.ty 206 = some ⟨.other, 1, 8, [.d (.v .nilFunc)]⟩ := rfl
theorem sz206 : tys.size 206 = some 1 := rfl
theorem ag206 : tys.agg 206 = some false := rfl
attribute [go_sem] ty206 sz206 ag206
theorem ty207 : tys.ty 207 = some ⟨.other, 1, 8, [.d (.v .nilFunc)]⟩ := rfl
theorem sz207 : tys.size 207 = some 1 := rfl
theorem ag207 : tys.agg 207 = some false := rfl
attribute [go_sem] ty207 sz207 ag207
theorem ty208 : tys.ty 208 = some ⟨.other, 1, 8, [.d (.v .nilFunc)]⟩ := rfl
theorem sz208 : tys.size 208 = some 1 := rfl
theorem ag208 : tys.agg 208 = some false := rfl
attribute [go_sem] ty208 sz208 ag208
theorem ty209 : tys.ty 209 = some ⟨.other, 1, 8, [.d (.v .nilFunc)]⟩ := rfl
theorem sz209 : tys.size 209 = some 1 := rfl
theorem ag209 : tys.agg 209 = some false := rfl
attribute [go_sem] ty209 sz209 ag209
theorem ty210 : tys.ty 210 = some ⟨.other, 1, 8, [.d (.v .nilFunc)]⟩ := rfl
theorem sz210 : tys.size 210 = some 1 := rfl
theorem ag210 : tys.agg 210 = some false := rfl
attribute [go_sem] ty210 sz210 ag210
theorem ty211 : tys.ty 211 = some ⟨.other, 1, 8, [.d (.v .nilFunc)]⟩ := rfl
theorem sz211 : tys.size 211 = some 1 := rfl
theorem ag211 : tys.agg 211 = some false := rfl
attribute [go_sem] ty211 sz211 ag211
theorem ty212 : tys.ty 212 = some ⟨.other, 1, 8, [.d (.v .nilFunc)]⟩ := rfl
theorem sz212 : tys.size 212 = some 1 := rfl
theorem ag212 : tys.agg 212 = some false := rfl
attribute [go_sem] ty212 sz212 ag212
theorem ty213 : tys.ty 213 = some ⟨.other, 1, 8, [.d (.v .nilFunc)]⟩ := rfl
theorem sz213 : tys.size 213 = some 1 := rfl
theorem ag213 : tys.agg 213 = some false := rfl
attribute [go_sem] ty213 sz213 ag213
theorem ty214 : tys.ty 214 = some ⟨.other, 1, 8, [.d (.v .nilFunc)]⟩ := rfl
theorem sz214 : tys.size 214 = some 1 := rfl
theorem ag214 : tys.agg 214 = some false := rfl
attribute [go_sem] ty214 sz214 ag214
theorem ty215 : tys.ty 215 = some ⟨.other, 1, 8, [.d (.v .nilFunc)]⟩ := rfl
theorem sz215 : tys.size 215 = some 1 := rfl
theorem ag215 : tys.agg 215 = some false := rfl
attribute [go_sem] ty215 sz215 ag215
theorem ty216 : tys.ty 216 = some ⟨.other, 1, 8, [.d (.v .nilFunc)]⟩ := rfl
theorem sz216 : tys.size 216 = some 1 := rfl
theorem ag216 : tys.agg 216 = some false := rfl
attribute [go_sem] ty216 sz216 ag216
theorem ty217 : tys.ty 217 = some ⟨.other, 1, 8, [.d (.v .nilFunc)]⟩ := rfl
theorem sz217 : tys.size 217 = some 1 := rfl
theorem ag217 : tys.agg 217 = some false := rfl
attribute [go_sem] ty217 sz217 ag217
theorem ty218 : tys.ty 218 = some ⟨.other, 1, 8, [.d (.v .nilFunc)]⟩ := rfl
theorem sz218 : tys.size 218 = some 1 := rfl
theorem ag218 : tys.agg 218 = some false := rfl
attribute [go_sem] ty218 sz218 ag218
theorem ty219 : tys.ty 219 = some ⟨.other, 1, 8, [.d (.v .nilFunc)]⟩ := rfl
theorem sz219 : tys.size 219 = some 1 := rfl
theorem ag219 : tys.agg 219 = some false := rfl
attribute [go_sem] ty219 sz219 ag219
theorem ty220 : tys.ty 220 = some ⟨.other, 1, 8, [.d (.v .nilFunc)]⟩ := rfl
theorem sz220 : tys.size 220 = some 1 := rfl
theorem ag220 : tys.agg 220 = some false := rfl
attribute [go_sem] ty220 sz220 ag220
theorem ty221 : tys.ty 221 = some ⟨.slice 173, 1, 24, [.nils 2]⟩ := rfl
theorem sz221 : tys.size 221 = some 1 := rfl
theorem ag221 : tys.agg 221 = some false := rfl
theorem el221 : tys.elem 221 = some 173 := rfl
attribute [go_sem] ty221 sz221 ag221 el221
theorem ty222 : tys.ty 222 = some ⟨.arr 5 173, 10, 80, [.d (.v (.int .i64 0)), .d (.v .nilFunc), .d (.v (.int .i64 0)), .d (.v .nilFunc), .d (.v (.int .i64 0)), .d (.v .nilFunc), .d (.v (.int .i64 0)), .d (.v .nilFunc), .d (.v (.int .i64 0)), .d (.v .nilFunc)]⟩ := rfl
theorem sz222 : tys.size 222 = some 10 := rfl
theorem ag222 : tys.agg 222 = some true := rfl
attribute [go_sem] ty222 sz222 ag222
theorem ty223 : tys.ty 223 = some ⟨.other, 1, 8, [.d (.v .nilFunc)]⟩ := rfl
theorem sz223 : tys.size 223 = some 1 := rfl
theorem ag223 : tys.agg 223 = some false := rfl
attribute [go_sem] ty223 sz223 ag223
theorem ty224 : tys.ty 224 = some ⟨.other, 1, 8, [.d (.v .nilFunc)]⟩ := rfl
theorem sz224 : tys.size 224 = some 1 := rfl
theorem ag224 : tys.agg 224 = some false := rfl
attribute [go_sem] ty224 sz224 ag224
theorem ty225 : tys.ty 225 = some ⟨.other, 1, 8, [.d (.v .nilFunc)]⟩ := rfl
theorem sz225 : tys.size 225 = some 1 := rfl
theorem ag225 : tys.agg 225 = some false := rfl
attribute [go_sem] ty225 sz225 ag225
theorem ty226 : tys.ty 226 = some ⟨.arr 256 4, 256, 256, List.replicate 256 (.d (.v (.bool false)))⟩ := rfl
theorem sz226 : tys.size 226 = some 256 := rfl
theorem ag226 : tys.agg 226 = some true := rfl
attribute [go_sem] ty226 sz226 ag226
theorem ty227 : tys.ty 227 = some ⟨.arr 256 4, 256, 256, List.replicate 256 (.d (.v (.bool false)))⟩ := rfl
theorem sz227 : tys.size 227 = some 256 := rfl
theorem ag227 : tys.agg 227 = some true := rfl
attribute [go_sem] ty227 sz227 ag227
theorem ty229 : tys.ty 229 = some ⟨.other, 1, 8, [.d (.v .nilFunc)]⟩ := rfl
theorem sz229 : tys.size 229 = some 1 := rfl
theorem ag229 : tys.agg 229 = some false := rfl
attribute [go_sem] ty229 sz229 ag229
theorem ty230 : tys.ty 230 = some ⟨.other, 1, 8, [.d (.v .nilFunc)]⟩ := rfl
theorem sz230 : tys.size 230 = some 1 := rfl
theorem ag230 : tys.agg 230 = some false := rfl
attribute [go_sem] ty230 sz230 ag230
theorem ty231 : tys.ty 231 = some ⟨.ptr, 1, 8, [.d (.v (.pointer none))]⟩ := rfl
theorem sz231 : tys.size 231 = some 1 := rfl
theorem ag231 : tys.agg 231 = some false := rfl
attribute [go_sem] ty231 sz231 ag231
theorem ty232 : tys.ty 232 = some ⟨.other, 1, 8, [.d (.v .nilFunc)]⟩ := rfl
theorem sz232 : tys.size 232 = some 1 := rfl
theorem ag232 : tys.agg 232 = some false := rfl
attribute [go_sem] ty232 sz232 ag232
theorem ty233 : tys.ty 233 = some ⟨.other, 1, 8, [.d (.v .nilFunc)]⟩ := rfl
theorem sz233 : tys.size 233 = some 1 := rfl
theorem ag233 : tys.agg 233 = some false := rfl
attribute [go_sem] ty233 sz233 ag233
theorem ty234 : tys.ty 234 = some ⟨.iface, 1, 16, [.d (.v .nilIface)]⟩ := rfl
theorem sz234 : tys.size 234 = some 1 := rfl
theorem ag234 : tys.agg 234 = some false := rfl
attribute [go_sem] ty234 sz234 ag234
theorem ty235 : tys.ty 235 = some ⟨.iface, 1, 16, [.d (.v .nilIface)]⟩ := rfl
theorem sz235 : tys.size 235 = some 1 := rfl
theorem ag235 : tys.agg 235 = some false := rfl
attribute [go_sem] ty235 sz235 ag235
theorem ty237 : tys.ty 237 = some ⟨.other, 1, 8, [.d (.v .nilFunc)]⟩ := rfl
theorem sz237 : tys.size 237 = some 1 := rfl
theorem ag237 : tys.agg 237 = some false := rfl
attribute [go_sem] ty237 sz237 ag237
theorem ty238 : tys.ty 238 = some ⟨.arr 3 25, 3, 24, [.d (.v (.int .u64 0)), .d (.v (.int .u64 0)), .d (.v (.int .u64 0))]⟩ := rfl
theorem sz238 : tys.size 238 = some 3 := rfl
theorem ag238 : tys.agg 238 = some true := rfl
attribute [go_sem] ty238 sz238 ag238
theorem ty239 : tys.ty 239 = some ⟨.other, 1, 8, [.d (.v .nilFunc)]⟩ := rfl
theorem sz239 : tys.size 239 = some 1 := rfl
theorem ag239 : tys.agg 239 = some false := rfl
attribute [go_sem] ty239 sz239 ag239
theorem ty240 : tys.ty 240 = some ⟨.other, 1, 8, [.d (.v .nilFunc)]⟩ := rfl
theorem sz240 : tys.size 240 = some 1 := rfl
theorem ag240 : tys.agg 240 = some false := rfl
attribute [go_sem] ty240 sz240 ag240
theorem ty241 : tys.ty 241 = some ⟨.other, 1, 8, [.d (.v .nilFunc)]⟩ := rfl
theorem sz241 : tys.size 241 = some 1 := rfl
theorem ag241 : tys.agg 241 = some false := rfl
attribute [go_sem] ty241 sz241 ag241
theorem ty242 : tys.ty 242 = some ⟨(.int .u32), 1, 4, [.d (.v (.int .u32 0))]⟩ := rfl
theorem sz242 : tys.size 242 = some 1 := rfl
theorem ag242 : tys.agg 242 = some false := rfl
attribute [go_sem] ty242 sz242 ag242
theorem ty243 : tys.ty 243 = some ⟨.other, 1, 8, [.d (.v .nilFunc)]⟩ := rfl
theorem sz243 : tys.size 243 = some 1 := rfl
theorem ag243 : tys.agg 243 = some false := rfl
attribute [go_sem] ty243 sz243 ag243
theorem ty244 : tys.ty 244 = some ⟨.map 3, 1, 8, [.d (.v (.map none))]⟩ := rfl
theorem sz244 : tys.size 244 = some 1 := rfl
theorem ag244 : tys.agg 244 = some false := rfl
attribute [go_sem] ty244 sz244 ag244
theorem ty245 : tys.ty 245 = some ⟨.other, 1, 8, [.d (.v .nilFunc)]⟩ := rfl
theorem sz245 : tys.size 245 = some 1 := rfl
theorem ag245 : tys.agg 245 = some false := rfl
attribute [go_sem] ty245 sz245 ag245
theorem ty246 : tys.ty 246 = some ⟨.other, 1, 8, [.d (.v .nilFunc)]⟩ := rfl
theorem sz246 : tys.size 246 = some 1 := rfl
theorem ag246 : tys.agg 246 = some false := rfl
attribute [go_sem] ty246 sz246 ag246
theorem ty247 : tys.ty 247 = some ⟨.other, 1, 8, [.d (.v .nilFunc)]⟩ := rfl
theorem sz247 : tys.size 247 = some 1 := rfl
theorem ag247 : tys.agg 247 = some false := rfl
attribute [go_sem] ty247 sz247 ag247
theorem ty248 : tys.ty 248 = some ⟨.other, 1, 8, [.d (.v .nilFunc)]⟩ := rfl
theorem sz248 : tys.size 248 = some 1 := rfl
theorem ag248 : tys.agg 248 = some false := rfl
attribute [go_sem] ty248 sz248 ag248
theorem ty249 : tys.ty 249 = some ⟨.other, 1, 8, [.d (.v .nilFunc)]⟩ := rfl
theorem sz249 : tys.size 249 = some 1 := rfl
theorem ag249 : tys.agg 249 = some false := rfl
attribute [go_sem] ty249 sz249 ag249
theorem ty250 : tys.ty 250 = some ⟨.other, 1, 8, [.d (.v .nilFunc)]⟩ := rfl
theorem sz250 : tys.size 250 = some 1 := rfl
theorem ag250 : tys.agg 250 = some false := rfl
attribute [go_sem] ty250 sz250 ag250
theorem ty251 : tys.ty 251 = some ⟨.other, 1, 8, [.d (.v .nilFunc)]⟩ := rfl
theorem sz251 : tys.size 251 = some 1 := rfl
theorem ag251 : tys.agg 251 = some false := rfl
attribute [go_sem] ty251 sz251 ag251
theorem ty253 : tys.ty 253 = some ⟨.other, 1, 8, [.d (.v .nilFunc)]⟩ := rfl
theorem sz253 : tys.size 253 = some 1 := rfl
theorem ag253 : tys.agg 253 = some false := rfl
attribute [go_sem] ty253 sz253 ag253
theorem ty254 : tys.ty 254 = some ⟨.other, 1, 8, [.d (.v .nilFunc)]⟩ := rfl
theorem sz254 : tys.size 254 = some 1 := rfl
theorem ag254 : tys.agg 254 = some false := rfl
attribute [go_sem] ty254 sz254 ag254
theorem ty255 : tys.ty 255 = some ⟨.other, 1, 8, [.d (.v .nilFunc)]⟩ := rfl
theorem sz255 : tys.size 255 = some 1 := rfl
theorem ag255 : tys.agg 255 = some false := rfl
attribute [go_sem] ty255 sz255 ag255
theorem ty256 : tys.ty 256 = some ⟨.other, 1, 8, [.d (.v .nilFunc)]⟩ := rfl
theorem sz256 : tys.size 256 = some 1 := rfl
theorem ag256 : tys.agg 256 = some false := rfl
attribute [go_sem] ty256 sz256 ag256
theorem ty257 : tys.ty 257 = some ⟨.map 9, 1, 8, [.d (.v (.map none))]⟩ := rfl
theorem sz257 : tys.size 257 = some 1 := rfl
theorem ag257 : tys.agg 257 = some false := rfl
attribute [go_sem] ty257 sz257 ag257
theorem ty258 : tys.ty 258 = some ⟨.other, 1, 8, [.d (.v .nilFunc)]⟩ := rfl
theorem sz258 : tys.size 258 = some 1 := rfl
theorem ag258 : tys.agg 258 = some false := rfl
attribute [go_sem] ty258 sz258 ag258
theorem ty260 : tys.ty 260 = some ⟨.other, 1, 8, [.d (.v .nilFunc)]⟩ := rfl
theorem sz260 : tys.size 260 = some 1 := rfl
theorem ag260 : tys.agg 260 = some false := rfl
attribute [go_sem] ty260 sz260 ag260
theorem ty261 : tys.ty 261 = some ⟨.other, 1, 8, [.d (.v .nilFunc)]⟩ := rfl
theorem sz261 : tys.size 261 = some 1 := rfl
theorem ag261 : tys.agg 261 = some false := rfl
attribute [go_sem] ty261 sz261 ag261
theorem ty262 : tys.ty 262 = some ⟨.other, 1, 8, [.d (.v .nilFunc)]⟩ := rfl
theorem sz262 : tys.size 262 = some 1 := rfl
theorem ag262 : tys.agg 262 = some false := rfl
attribute [go_sem] ty262 sz262 ag262
theorem ty263 : tys.ty 263 = some ⟨.arr 256 4, 256, 256, List.replicate 256 (.d (.v (.bool false)))⟩ := rfl
theorem sz263 : tys.size 263 = some 256 := rfl
theorem ag263 : tys.agg 263 = some true := rfl
attribute [go_sem] ty263 sz263 ag263
theorem ty265 : tys.ty 265 = some ⟨.other, 1, 8, [.d (.v .nilFunc)]⟩ := rfl
theorem sz265 : tys.size 265 = some 1 := rfl
theorem ag265 : tys.agg 265 = some false := rfl
attribute [go_sem] ty265 sz265 ag265
theorem ty266 : tys.ty 266 = some ⟨.other, 1, 8, [.d (.v .nilFunc)]⟩ := rfl
theorem sz266 : tys.size 266 = some 1 := rfl
theorem ag266 : tys.agg 266 = some false := rfl
attribute [go_sem] ty266 sz266 ag266
theorem ty267 : tys.ty 267 = some ⟨.ptr, 1, 8, [.d (.v (.pointer none))]⟩ := rfl
theorem sz267 : tys.size 267 = some 1 := rfl
theorem ag267 : tys.agg 267 = some false := rfl
attribute [go_sem] ty267 sz267 ag267
theorem ty268 : tys.ty 268 = some ⟨.other, 1, 8, [.d (.v .nilFunc)]⟩ := rfl
theorem sz268 : tys.size 268 = some 1 := rfl
theorem ag268 : tys.agg 268 = some false := rfl
attribute [go_sem] ty268 sz268 ag268
theorem ty269 : tys.ty 269 = some ⟨.other, 1, 8, [.d (.v .nilFunc)]⟩ := rfl
theorem sz269 : tys.size 269 = some 1 := rfl
theorem ag269 : tys.agg 269 = some false := rfl
attribute [go_sem] ty269 sz269 ag269
theorem ty270 : tys.ty 270 = some ⟨.other, 1, 8, [.d (.v .nilFunc)]⟩ := rfl
theorem sz270 : tys.size 270 = some 1 := rfl
theorem ag270 : tys.agg 270 = some false := rfl
attribute [go_sem] ty270 sz270 ag270
theorem ty271 : tys.ty 271 = some ⟨.other, 1, 8, [.d (.v .nilFunc)]⟩ := rfl
theorem sz271 : tys.size 271 = some 1 := rfl
theorem ag271 : tys.agg 271 = some false := rfl
attribute [go_sem] ty271 sz271 ag271
theorem ty272 : tys.ty 272 = some ⟨.arr 3 25, 3, 24, [.d (.v (.int .u64 0)), .d (.v (.int .u64 0)), .d (.v (.int .u64 0))]⟩ := rfl
theorem sz272 : tys.size 272 = some 3 := rfl
theorem ag272 : tys.agg 272 = some true := rfl
attribute [go_sem] ty272 sz272 ag272
theorem ty273 : tys.ty 273 = some ⟨.other, 1, 8, [.d (.v .nilFunc)]⟩ := rfl
theorem sz273 : tys.size 273 = some 1 := rfl
theorem ag273 : tys.agg 273 = some false := rfl
attribute [go_sem] ty273 sz273 ag273
theorem ty274 : tys.ty 274 = some ⟨.other, 1, 8, [.d (.v .nilFunc)]⟩ := rfl
theorem sz274 : tys.size 274 = some 1 := rfl
theorem ag274 : tys.agg 274 = some false := rfl
attribute [go_sem] ty274 sz274 ag274
theorem ty275 : tys.ty 275 = some ⟨.other, 1, 8, [.d (.v .nilFunc)]⟩ := rfl
theorem sz275 : tys.size 275 = some 1 := rfl
theorem ag275 : tys.agg 275 = some false := rfl
attribute [go_sem] ty275 sz275 ag275
theorem ty276 : tys.ty 276 = some ⟨.other, 1, 8, [.d (.v .nilFunc)]⟩ := rfl
theorem sz276 : tys.size 276 = some 1 := rfl
theorem ag276 : tys.agg 276 = some false := rfl
attribute [go_sem] ty276 sz276 ag276
theorem ty278 : tys.ty 278 = some ⟨.other, 1, 8, [.d (.v .nilFunc)]⟩ := rfl
theorem sz278 : tys.size 278 = some 1 := rfl
theorem ag278 : tys.agg 278 = some false := rfl
attribute [go_sem] ty278 sz278 ag278
theorem ty279 : tys.ty 279 = some ⟨.ptr, 1, 8, [.d (.v (.pointer none))]⟩ := rfl
theorem sz279 : tys.size 279 = some 1 := rfl
theorem ag279 : tys.agg 279 = some false := rfl
attribute [go_sem] ty279 sz279 ag279
theorem ty280 : tys.ty 280 = some ⟨.other, 1, 8, [.d (.v .nilFunc)]⟩ := rfl
theorem sz280 : tys.size 280 = some 1 := rfl
theorem ag280 : tys.agg 280 = some false := rfl
attribute [go_sem] ty280 sz280 ag280
theorem ty281 : tys.ty 281 = some ⟨.other, 1, 8, [.d (.v .nilFunc)]⟩ := rfl
theorem sz281 : tys.size 281 = some 1 := rfl
theorem ag281 : tys.agg 281 = some false := rfl
attribute [go_sem] ty281 sz281 ag281
theorem ty282 : tys.ty 282 = some ⟨.ptr, 1, 8, [.d (.v (.pointer none))]⟩ := rfl
theorem sz282 : tys.size 282 = some 1 := rfl
theorem ag282 : tys.agg 282 = some false := rfl
attribute [go_sem] ty282 sz282 ag282
theorem ty283 : tys.ty 283 = some ⟨.other, 1, 8, [.d (.v .nilFunc)]⟩ := rfl
theorem sz283 : tys.size 283 = some 1 := rfl
theorem ag283 : tys.agg 283 = some false := rfl
attribute [go_sem] ty283 sz283 ag283
theorem ty284 : tys.ty 284 = some ⟨.other, 1, 8, [.d (.v .nilFunc)]⟩ := rfl
theorem sz284 : tys.size 284 = some 1 := rfl
theorem ag284 : tys.agg 284 = some false := rfl
attribute [go_sem] ty284 sz284 ag284
theorem ty285 : tys.ty 285 = some ⟨.arr 256 5, 256, 256, List.replicate 256 (.d (.v (.int .u8 0)))⟩ := rfl
theorem sz285 : tys.size 285 = some 256 := rfl
theorem ag285 : tys.agg 285 = some true := rfl
attribute [go_sem] ty285 sz285 ag285
theorem ty286 : tys.ty 286 = some ⟨.struct [(0, 5), (1, 5)], 2, 2, [.d (.v (.int .u8 0)), .d (.v (.int .u8 0))]⟩ := rfl
theorem sz286 : tys.size 286 = some 2 := rfl
theorem ag286 : tys.agg 286 = some true := rfl
theorem fl286 : tys.fields 286 = some [(0, 5), (1, 5)] := rfl
attribute [go_sem] ty286 sz286 ag286 fl286
theorem ty287 : tys.ty 287 = some ⟨.struct [(0, 5), (1, 5)], 2, 2, [.d (.v (.int .u8 0)), .d (.v (.int .u8 0))]⟩ := rfl
theorem sz287 : tys.size 287 = some 2 := rfl
theorem ag287 : tys.agg 287 = some true := rfl
theorem fl287 : tys.fields 287 = some [(0, 5), (1, 5)] := rfl
attribute [go_sem] ty287 sz287 ag287 fl287
theorem ty288 : tys.ty 288 = some ⟨.arr 16 287, 32, 32, List.replicate 32 (.d (.v (.int .u8 0)))⟩ := rfl
theorem sz288 : tys.size 288 = some 32 := rfl
theorem ag288 : tys.agg 288 = some true := rfl
attribute [go_sem] ty288 sz288 ag288
theorem ty289 : tys.ty 289 = some ⟨.other, 1, 8, [.d (.v .nilFunc)]⟩ := rfl
theorem sz289 : tys.size 289 = some 1 := rfl
theorem ag289 : tys.agg 289 = some false := rfl
attribute [go_sem] ty289 sz289 ag289
theorem ty292 : tys.ty 292 = some ⟨.other, 1, 8, [.d (.v .nilFunc)]⟩ := rfl
theorem sz292 : tys.size 292 = some 1 := rfl
theorem ag292 : tys.agg 292 = some false := rfl
attribute [go_sem] ty292 sz292 ag292
theorem ty293 : tys.ty 293 = some ⟨.other, 1, 8, [.d (.v .nilFunc)]⟩ := rfl
theorem sz293 : tys.size 293 = some 1 := rfl
theorem ag293 : tys.agg 293 = some false := rfl
attribute [go_sem] ty293 sz293 ag293
theorem ty295 : tys.ty 295 = some ⟨.other, 1, 8, [.d (.v .nilFunc)]⟩ := rfl
theorem sz295 : tys.size 295 = some 1 := rfl
theorem ag295 : tys.agg 295 = some false := rfl
attribute [go_sem] ty295 sz295 ag295
theorem ty296 : tys.ty 296 = some ⟨.ptr, 1, 8, [.d (.v (.pointer none))]⟩ := rfl
theorem sz296 : tys.size 296 = some 1 := rfl
theorem ag296 : tys.agg 296 = some false := rfl
attribute [go_sem] ty296 sz296 ag296
theorem ty297 : tys.ty 297 = some ⟨.ptr, 1, 8, [.d (.v (.pointer none))]⟩ := rfl
theorem sz297 : tys.size 297 = some 1 := rfl
theorem ag297 : tys.agg 297 = some false := rfl
attribute [go_sem] ty297 sz297 ag297
theorem ty298 : tys.ty 298 = some ⟨.struct [(0, 9)], 1, 16, [.d (.v (.string ByteArray.empty))]⟩ := rfl
theorem sz298 : tys.size 298 = some 1 := rfl
theorem ag298 : tys.agg 298 = some true := rfl
theorem fl298 : tys.fields 298 = some [(0, 9)] := rfl
attribute [go_sem] ty298 sz298 ag298 fl298
theorem ty299 : tys.ty 299 = some ⟨.struct [(0, 9)], 1, 16, [.d (.v (.string ByteArray.empty))]⟩ := rfl
theorem sz299 : tys.size 299 = some 1 := rfl
theorem ag299 : tys.agg 299 = some true := rfl
theorem fl299 : tys.fields 299 = some [(0, 9)] := rfl
attribute [go_sem] ty299 sz299 ag299 fl299
theorem ty300 : tys.ty 300 = some ⟨.other, 1, 8, [.d (.v .nilFunc)]⟩ := rfl
theorem sz300 : tys.size 300 = some 1 := rfl
theorem ag300 : tys.agg 300 = some false := rfl
attribute [go_sem] ty300 sz300 ag300
theorem ty301 : tys.ty 301 = some ⟨.arr 24 5, 24, 24, List.replicate 24 (.d (.v (.int .u8 0)))⟩ := rfl
theorem sz301 : tys.size 301 = some 24 := rfl
theorem ag301 : tys.agg 301 = some true := rfl
attribute [go_sem] ty301 sz301 ag301
theorem ty302 : tys.ty 302 = some ⟨.other, 1, 8, [.d (.v .nilFunc)]⟩ := rfl
theorem sz302 : tys.size 302 = some 1 := rfl
theorem ag302 : tys.agg 302 = some false := rfl
attribute [go_sem] ty302 sz302 ag302
theorem ty304 : tys.ty 304 = some ⟨.other, 1, 8, [.d (.v .nilFunc)]⟩ := rfl
theorem sz304 : tys.size 304 = some 1 := rfl
theorem ag304 : tys.agg 304 = some false := rfl
attribute [go_sem] ty304 sz304 ag304
theorem ty305 : tys.ty 305 = some ⟨.other, 1, 8, [.d (.v .nilFunc)]⟩ := rfl
theorem sz305 : tys.size 305 = some 1 := rfl
theorem ag305 : tys.agg 305 = some false := rfl
attribute [go_sem] ty305 sz305 ag305
theorem ty306 : tys.ty 306 = some ⟨.arr 20 25, 20, 160, List.replicate 20 (.d (.v (.int .u64 0)))⟩ := rfl
theorem sz306 : tys.size 306 = some 20 := rfl
theorem ag306 : tys.agg 306 = some true := rfl
attribute [go_sem] ty306 sz306 ag306
theorem ty307 : tys.ty 307 = some ⟨.arr 65 5, 65, 65, List.replicate 65 (.d (.v (.int .u8 0)))⟩ := rfl
theorem sz307 : tys.size 307 = some 65 := rfl
theorem ag307 : tys.agg 307 = some true := rfl
attribute [go_sem] ty307 sz307 ag307
theorem ty308 : tys.ty 308 = some ⟨.arr 32 5, 32, 32, List.replicate 32 (.d (.v (.int .u8 0)))⟩ := rfl
theorem sz308 : tys.size 308 = some 32 := rfl
theorem ag308 : tys.agg 308 = some true := rfl
attribute [go_sem] ty308 sz308 ag308
theorem ty309 : tys.ty 309 = some ⟨.arr 64 5, 64, 64, List.replicate 64 (.d (.v (.int .u8 0)))⟩ := rfl
theorem sz309 : tys.size 309 = some 64 := rfl
theorem ag309 : tys.agg 309 = some true := rfl
attribute [go_sem] ty309 sz309 ag309
theorem ty310 : tys.ty 310 = some ⟨.other, 1, 8, [.d (.v .nilFunc)]⟩ := rfl
theorem sz310 : tys.size 310 = some 1 := rfl
theorem ag310 : tys.agg 310 = some false := rfl
attribute [go_sem] ty310 sz310 ag310
theorem ty316 : tys.ty 316 = some ⟨.other, 1, 8, [.d (.v .nilFunc)]⟩ := rfl
theorem sz316 : tys.size 316 = some 1 := rfl
theorem ag316 : tys.agg 316 = some false := rfl
attribute [go_sem] ty316 sz316 ag316
theorem ty319 : tys.ty 319 = some ⟨.other, 1, 8, [.d (.v .nilFunc)]⟩ := rfl
theorem sz319 : tys.size 319 = some 1 := rfl
theorem ag319 : tys.agg 319 = some false := rfl
attribute [go_sem] ty319 sz319 ag319
theorem ty325 : tys.ty 325 = some ⟨.other, 1, 8, [.d (.v .nilFunc)]⟩ := rfl
theorem sz325 : tys.size 325 = some 1 := rfl
theorem ag325 : tys.agg 325 = some false := rfl
attribute [go_sem] ty325 sz325 ag325
theorem ty326 : tys.ty 326 = some ⟨.other, 1, 8, [.d (.v .nilFunc)]⟩ := rfl
theorem sz326 : tys.size 326 = some 1 := rfl
theorem ag326 : tys.agg 326 = some false := rfl
attribute [go_sem] ty326 sz326 ag326
theorem ex0 : tys.ext 0 = none := rfl
theorem ex1 : tys.ext 1 = none := rfl
theorem ex2 : tys.ext 2 = none := rfl
theorem ex3 : tys.ext 3 = none := rfl
theorem ex4 : tys.ext 4 = none := rfl
theorem ex5 : tys.ext 5 = none := rfl
theorem ex6 : tys.ext 6 = none := rfl
theorem ex7 : tys.ext 7 = none := rfl
theorem ex8 : tys.ext 8 = none := rfl
theorem ex9 : tys.ext 9 = none := rfl
theorem ex10 : tys.ext 10 = none := rfl
theorem ex11 : tys.ext 11 = none := rfl
theorem ex12 : tys.ext 12 = none := rfl
theorem ex13 : tys.ext 13 = none := rfl
theorem ex14 : tys.ext 14 = none := rfl
theorem ex15 : tys.ext 15 = none := rfl
theorem ex16 : tys.ext 16 = none := rfl
theorem ex17 : tys.ext 17 = none := rfl
theorem ex18 : tys.ext 18 = none := rfl
theorem ex19 : tys.ext 19 = none := rfl
theorem ex20 : tys.ext 20 = none := rfl
theorem ex21 : tys.ext 21 = none := rfl
theorem ex22 : tys.ext 22 = none := rfl
theorem ex23 : tys.ext 23 = none := rfl
theorem ex24 : tys.ext 24 = none := rfl
theorem ex25 : tys.ext 25 = none := rfl
theorem ex26 : tys.ext 26 = none := rfl
theorem ex27 : tys.ext 27 = none := rfl
theorem ex28 : tys.ext 28 = none := rfl
theorem ex29 : tys.ext 29 = none := rfl
theorem ex30 : tys.ext 30 = none := rfl
theorem ex31 : tys.ext 31 = none := rfl
theorem ex32 : tys.ext 32 = none := rfl
theorem ex33 : tys.ext 33 = none := rfl
theorem ex34 : tys.ext 34 = none := rfl
theorem ex35 : tys.ext 35 = none := rfl
theorem ex36 : tys.ext 36 = none := rfl
theorem ex37 : tys.ext 37 = none := rfl
theorem ex38 : tys.ext 38 = none := rfl
theorem ex39 : tys.ext 39 = none := rfl
theorem ex40 : tys.ext 40 = none := rfl
theorem ex41 : tys.ext 41 = none := rfl
theorem ex42 : tys.ext 42 = none := rfl
theorem ex43 : tys.ext 43 = none := rfl
theorem ex44 : tys.ext 44 = none := rfl
theorem ex45 : tys.ext 45 = none := rfl
theorem ex46 : tys.ext 46 = none := rfl
theorem ex47 : tys.ext 47 = none := rfl
theorem ex48 : tys.ext 48 = none := rfl
theorem ex49 : tys.ext 49 = none := rfl
theorem ex50 : tys.ext 50 = none := rfl
theorem ex51 : tys.ext 51 = none := rfl
theorem ex52 : tys.ext 52 = none := rfl
theorem ex53 : tys.ext 53 = none := rfl
theorem ex54 : tys.ext 54 = none := rfl
theorem ex55 : tys.ext 55 = none := rfl
theorem ex56 : tys.ext 56 = none := rfl
theorem ex57 : tys.ext 57 = none := rfl
theorem ex58 : tys.ext 58 = none := rfl
theorem ex59 : tys.ext 59 = none := rfl
theorem ex60 : tys.ext 60 = none := rfl
theorem ex61 : tys.ext 61 = none := rfl
theorem ex62 : tys.ext 62 = none := rfl
theorem ex63 : tys.ext 63 = none := rfl
theorem ex64 : tys.ext 64 = none := rfl
theorem ex65 : tys.ext 65 = none := rfl
theorem ex66 : tys.ext 66 = none := rfl
theorem ex67 : tys.ext 67 = none := rfl
theorem ex68 : tys.ext 68 = none := rfl
theorem ex69 : tys.ext 69 = none := rfl
theorem ex70 : tys.ext 70 = none := rfl
theorem ex71 : tys.ext 71 = none := rfl
theorem ex72 : tys.ext 72 = none := rfl
theorem ex73 : tys.ext 73 = none := rfl
theorem ex74 : tys.ext 74 = none := rfl
theorem ex75 : tys.ext 75 = none := rfl
theorem ex76 : tys.ext 76 = none := rfl
theorem ex77 : tys.ext 77 = none := rfl
theorem ex78 : tys.ext 78 = none := rfl
theorem ex79 : tys.ext 79 = none := rfl
theorem ex80 : tys.ext 80 = none := rfl
theorem ex81 : tys.ext 81 = none := rfl
theorem ex82 : tys.ext 82 = none := rfl
theorem ex83 : tys.ext 83 = none := rfl
theorem ex84 : tys.ext 84 = none := rfl
theorem ex85 : tys.ext 85 = none := rfl
theorem ex86 : tys.ext 86 = none := rfl
theorem ex87 : tys.ext 87 = none := rfl
theorem ex88 : tys.ext 88 = none := rfl
theorem ex89 : tys.ext 89 = none := rfl
theorem ex90 : tys.ext 90 = none := rfl
theorem ex91 : tys.ext 91 = none := rfl
theorem ex92 : tys.ext 92 = none := rfl
theorem ex93 : tys.ext 93 = none := rfl
theorem ex94 : tys.ext 94 = none := rfl
theorem ex95 : tys.ext 95 = none := rfl
theorem ex96 : tys.ext 96 = none := rfl
theorem ex97 : tys.ext 97 = none := rfl
theorem ex98 : tys.ext 98 = none := rfl
theorem ex99 : tys.ext 99 = none := rfl
theorem ex100 : tys.ext 100 = none := rfl
theorem ex101 : tys.ext 101 = none := rfl
theorem ex102 : tys.ext 102 = none := rfl
theorem ex103 : tys.ext 103 = none := rfl
theorem ex104 : tys.ext 104 = none := rfl
theorem ex105 : tys.ext 105 = none := rfl
theorem ex106 : tys.ext 106 = none := rfl
theorem ex107 : tys.ext 107 = none := rfl
theorem ex108 : tys.ext 108 = none := rfl
theorem ex109 : tys.ext 109 = none := rfl
theorem ex110 : tys.ext 110 = none := rfl
theorem ex111 : tys.ext 111 = none := rfl
theorem ex112 : tys.ext 112 = none := rfl
theorem ex113 : tys.ext 113 = none := rfl
theorem ex114 : tys.ext 114 = none := rfl
theorem ex115 : tys.ext 115 = none := rfl
theorem ex116 : tys.ext 116 = none := rfl
theorem ex117 : tys.ext 117 = none := rfl
theorem ex118 : tys.ext 118 = none := rfl
theorem ex119 : tys.ext 119 = none := rfl
theorem ex120 : tys.ext 120 = none := rfl
theorem ex121 : tys.ext 121 = none := rfl
theorem ex122 : tys.ext 122 = none := rfl
theorem ex123 : tys.ext 123 = none := rfl
theorem ex124 : tys.ext 124 = none := rfl
theorem ex125 : tys.ext 125 = none := rfl
theorem ex126 : tys.ext 126 = none := rfl
theorem ex127 : tys.ext 127 = none := rfl
theorem ex128 : tys.ext 128 = none := rfl
theorem ex129 : tys.ext 129 = none := rfl
theorem ex130 : tys.ext 130 = none := rfl
theorem ex131 : tys.ext 131 = none := rfl
theorem ex132 : tys.ext 132 = none := rfl
theorem ex133 : tys.ext 133 = none := rfl
theorem ex134 : tys.ext 134 = some (.add64) := rfl
theorem ex135 : tys.ext 135 = none := rfl
theorem ex136 : tys.ext 136 = none := rfl
theorem ex137 : tys.ext 137 = none := rfl
theorem ex138 : tys.ext 138 = none := rfl
theorem ex139 : tys.ext 139 = none := rfl
theorem ex140 : tys.ext 140 = none := rfl
theorem ex141 : tys.ext 141 = none := rfl
theorem ex142 : tys.ext 142 = none := rfl
theorem ex143 : tys.ext 143 = none := rfl
theorem ex144 : tys.ext 144 = none := rfl
theorem ex145 : tys.ext 145 = none := rfl
theorem ex146 : tys.ext 146 = none := rfl
theorem ex147 : tys.ext 147 = none := rfl
theorem ex148 : tys.ext 148 = none := rfl
theorem ex149 : tys.ext 149 = none := rfl
theorem ex150 : tys.ext 150 = none := rfl
theorem ex151 : tys.ext 151 = none := rfl
theorem ex152 : tys.ext 152 = none := rfl
theorem ex153 : tys.ext 153 = none := rfl
theorem ex154 : tys.ext 154 = none := rfl
theorem ex155 : tys.ext 155 = none := rfl
theorem ex156 : tys.ext 156 = none := rfl
theorem ex157 : tys.ext 157 = none := rfl
theorem ex158 : tys.ext 158 = none := rfl
theorem ex159 : tys.ext 159 = none := rfl
theorem ex160 : tys.ext 160 = none := rfl
theorem ex161 : tys.ext 161 = none := rfl
theorem ex162 : tys.ext 162 = none := rfl
theorem ex163 : tys.ext 163 = none := rfl
theorem ex164 : tys.ext 164 = none := rfl
theorem ex165 : tys.ext 165 = none := rfl
theorem ex166 : tys.ext 166 = none := rfl
theorem ex167 : tys.ext 167 = none := rfl
theorem ex168 : tys.ext 168 = none := rfl
theorem ex169 : tys.ext 169 = none := rfl
theorem ex170 : tys.ext 170 = none := rfl
theorem ex171 : tys.ext 171 = none := rfl
theorem ex172 : tys.ext 172 = none := rfl
theorem ex173 : tys.ext 173 = none := rfl
theorem ex174 : tys.ext 174 = none := rfl
theorem ex175 : tys.ext 175 = none := rfl
theorem ex176 : tys.ext 176 = none := rfl
theorem ex177 : tys.ext 177 = none := rfl
theorem ex178 : tys.ext 178 = none := rfl
theorem ex179 : tys.ext 179 = none := rfl
theorem ex180 : tys.ext 180 = none := rfl
theorem ex181 : tys.ext 181 = none := rfl
theorem ex182 : tys.ext 182 = none := rfl
theorem ex183 : tys.ext 183 = none := rfl
theorem ex184 : tys.ext 184 = none := rfl
theorem ex185 : tys.ext 185 = none := rfl
theorem ex186 : tys.ext 186 = none := rfl
theorem ex187 : tys.ext 187 = none := rfl
theorem ex188 : tys.ext 188 = none := rfl
theorem ex189 : tys.ext 189 = some (.countString) := rfl
theorem ex190 : tys.ext 190 = none := rfl
theorem ex191 : tys.ext 191 = none := rfl
theorem ex192 : tys.ext 192 = none := rfl
theorem ex193 : tys.ext 193 = none := rfl
theorem ex194 : tys.ext 194 = none := rfl
theorem ex195 : tys.ext 195 = none := rfl
theorem ex196 : tys.ext 196 = none := rfl
theorem ex197 : tys.ext 197 = none := rfl
theorem ex198 : tys.ext 198 = none := rfl
theorem ex199 : tys.ext 199 = none := rfl
theorem ex200 : tys.ext 200 = none := rfl
theorem ex201 : tys.ext 201 = none := rfl
theorem ex202 : tys.ext 202 = none := rfl
theorem ex203 : tys.ext 203 = none := rfl
theorem ex204 : tys.ext 204 = none := rfl
theorem ex205 : tys.ext 205 = none := rfl
theorem ex206 : tys.ext 206 = none := rfl
theorem ex207 : tys.ext 207 = none := rfl
theorem ex208 : tys.ext 208 = none := rfl
theorem ex209 : tys.ext 209 = none := rfl
theorem ex210 : tys.ext 210 = none := rfl
theorem ex211 : tys.ext 211 = none := rfl
theorem ex212 : tys.ext 212 = none := rfl
theorem ex213 : tys.ext 213 = none := rfl
theorem ex214 : tys.ext 214 = none := rfl
theorem ex215 : tys.ext 215 = none := rfl
theorem ex216 : tys.ext 216 = none := rfl
theorem ex217 : tys.ext 217 = none := rfl
theorem ex218 : tys.ext 218 = none := rfl
theorem ex219 : tys.ext 219 = none := rfl
theorem ex220 : tys.ext 220 = none := rfl
theorem ex221 : tys.ext 221 = none := rfl
theorem ex222 : tys.ext 222 = none := rfl
theorem ex223 : tys.ext 223 = none := rfl
theorem ex224 : tys.ext 224 = none := rfl
theorem ex225 : tys.ext 225 = none := rfl
theorem ex226 : tys.ext 226 = none := rfl
theorem ex227 : tys.ext 227 = none := rfl
theorem ex228 : tys.ext 228 = none := rfl
theorem ex229 : tys.ext 229 = none := rfl
theorem ex230 : tys.ext 230 = none := rfl
theorem ex231 : tys.ext 231 = none := rfl
theorem ex232 : tys.ext 232 = none := rfl
theorem ex233 : tys.ext 233 = none := rfl
theorem ex234 : tys.ext 234 = none := rfl
theorem ex235 : tys.ext 235 = none := rfl
theorem ex236 : tys.ext 236 = none := rfl
theorem ex237 : tys.ext 237 = none := rfl
theorem ex238 : tys.ext 238 = none := rfl
theorem ex239 : tys.ext 239 = none := rfl
theorem ex240 : tys.ext 240 = none := rfl
theorem ex241 : tys.ext 241 = none := rfl
theorem ex242 : tys.ext 242 = none := rfl
theorem ex243 : tys.ext 243 = none := rfl
theorem ex244 : tys.ext 244 = none := rfl
theorem ex245 : tys.ext 245 = none := rfl
theorem ex246 : tys.ext 246 = none := rfl
theorem ex247 : tys.ext 247 = none := rfl
theorem ex248 : tys.ext 248 = none := rfl
theorem ex249 : tys.ext 249 = none := rfl
theorem ex250 : tys.ext 250 = some (.indexByteString) := rfl
theorem ex251 : tys.ext 251 = none := rfl
theorem ex252 : tys.ext 252 = none := rfl
theorem ex253 : tys.ext 253 = none := rfl
theorem ex254 : tys.ext 254 = none := rfl
theorem ex255 : tys.ext 255 = none := rfl
theorem ex256 : tys.ext 256 = none := rfl
theorem ex257 : tys.ext 257 = none := rfl
theorem ex258 : tys.ext 258 = none := rfl
theorem ex259 : tys.ext 259 = none := rfl
theorem ex260 : tys.ext 260 = none := rfl
theorem ex261 : tys.ext 261 = none := rfl
theorem ex262 : tys.ext 262 = none := rfl
theorem ex263 : tys.ext 263 = none := rfl
theorem ex264 : tys.ext 264 = none := rfl
theorem ex265 : tys.ext 265 = none := rfl
theorem ex266 : tys.ext 266 = none := rfl
theorem ex267 : tys.ext 267 = none := rfl
theorem ex268 : tys.ext 268 = none := rfl
theorem ex269 : tys.ext 269 = none := rfl
theorem ex270 : tys.ext 270 = none := rfl
theorem ex271 : tys.ext 271 = none := rfl
theorem ex272 : tys.ext 272 = none := rfl
theorem ex273 : tys.ext 273 = none := rfl
theorem ex274 : tys.ext 274 = none := rfl
theorem ex275 : tys.ext 275 = none := rfl
theorem ex276 : tys.ext 276 = none := rfl
theorem ex277 : tys.ext 277 = none := rfl
theorem ex278 : tys.ext 278 = none := rfl
theorem ex279 : tys.ext 279 = none := rfl
theorem ex280 : tys.ext 280 = none := rfl
theorem ex281 : tys.ext 281 = none := rfl
theorem ex282 : tys.ext 282 = none := rfl
theorem ex283 : tys.ext 283 = none := rfl
theorem ex284 : tys.ext 284 = none := rfl
theorem ex285 : tys.ext 285 = none := rfl
theorem ex286 : tys.ext 286 = none := rfl
theorem ex287 : tys.ext 287 = none := rfl
theorem ex288 : tys.ext 288 = none := rfl
theorem ex289 : tys.ext 289 = none := rfl
theorem ex290 : tys.ext 290 = none := rfl
theorem ex291 : tys.ext 291 = none := rfl
theorem ex292 : tys.ext 292 = none := rfl
theorem ex293 : tys.ext 293 = none := rfl
theorem ex294 : tys.ext 294 = none := rfl
theorem ex295 : tys.ext 295 = none := rfl
theorem ex296 : tys.ext 296 = none := rfl
theorem ex297 : tys.ext 297 = none := rfl
theorem ex298 : tys.ext 298 = none := rfl
theorem ex299 : tys.ext 299 = none := rfl
theorem ex300 : tys.ext 300 = none := rfl
theorem ex301 : tys.ext 301 = none := rfl
theorem ex302 : tys.ext 302 = none := rfl
theorem ex303 : tys.ext 303 = none := rfl
attribute [go_sem] ex0 ex1 ex2 ex3 ex4 ex5 ex6 ex7 ex8 ex9 ex10 ex11 ex12 ex13 ex14 ex15 ex16 ex17 ex18 ex19 ex20 ex21 ex22 ex23 ex24 ex25 ex26 ex27 ex28 ex29 ex30 ex31 ex32 ex33 ex34 ex35 ex36 ex37 ex38 ex39 ex40 ex41 ex42 ex43 ex44 ex45 ex46 ex47 ex48 ex49 ex50 ex51 ex52 ex53 ex54 ex55 ex56 ex57 ex58 ex59 ex60 ex61 ex62 ex63 ex64 ex65 ex66 ex67 ex68 ex69 ex70 ex71 ex72 ex73 ex74 ex75 ex76 ex77 ex78 ex79 ex80 ex81 ex82 ex83 ex84 ex85 ex86 ex87 ex88 ex89 ex90 ex91 ex92 ex93 ex94 ex95 ex96 ex97 ex98 ex99 ex100 ex101 ex102 ex103 ex104 ex105 ex106 ex107 ex108 ex109 ex110 ex111 ex112 ex113 ex114 ex115 ex116 ex117 ex118 ex119 ex120 ex121 ex122 ex123 ex124 ex125 ex126 ex127 ex128 ex129 ex130 ex131 ex132 ex133 ex134 ex135 ex136 ex137 ex138 ex139 ex140 ex141 ex142 ex143 ex144 ex145 ex146 ex147 ex148 ex149 ex150 ex151 ex152 ex153 ex154 ex155 ex156 ex157 ex158 ex159 ex160 ex161 ex162 ex163 ex164 ex165 ex166 ex167 ex168 ex169 ex170 ex171 ex172 ex173 ex174 ex175 ex176 ex177 ex178 ex179 ex180 ex181 ex182 ex183 ex184 ex185 ex186 ex187 ex188 ex189 ex190 ex191 ex192 ex193 ex194 ex195 ex196 ex197 ex198 ex199 ex200 ex201 ex202 ex203 ex204 ex205 ex206 ex207 ex208 ex209 ex210 ex211 ex212 ex213 ex214 ex215 ex216 ex217 ex218 ex219 ex220 ex221 ex222 ex223 ex224 ex225 ex226 ex227 ex228 ex229 ex230 ex231 ex232 ex233 ex234 ex235 ex236 ex237 ex238 ex239 ex240 ex241 ex242 ex243 ex244 ex245 ex246 ex247 ex248 ex249 ex250 ex251 ex252 ex253 ex254 ex255 ex256 ex257 ex258 ex259 ex260 ex261 ex262 ex263 ex264 ex265 ex266 ex267 ex268 ex269 ex270 ex271 ex272 ex273 ex274 ex275 ex276 ex277 ex278 ex279 ex280 ex281 ex282 ex283 ex284 ex285 ex286 ex287 ex288 ex289 ex290 ex291 ex292 ex293 ex294 ex295 ex296 ex297 ex298 ex299 ex300 ex301 ex302 ex303
end Go.Proofs.YtijfncaphfaijaaGreatDoor
