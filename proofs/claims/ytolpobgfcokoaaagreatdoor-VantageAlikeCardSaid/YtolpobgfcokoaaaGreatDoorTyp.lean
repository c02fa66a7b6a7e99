/- The types of this seat's program, as the machine reads them; printed by wip/tools/gentyp.py. -/
import Derived.Test.YtolpobgfcokoaaaGreatDoorEngY
import Derived.Test.YtolpobgfcokoaaaGreatDoorRows
namespace Go.Proofs.YtolpobgfcokoaaaGreatDoor
open Go.Eng
set_option maxRecDepth 20000
def tyTable : List (TypeId × TI) := [
  (1, ⟨.other, 1, 8, [.d (.v .nilFunc)]⟩),
  (2, ⟨(.int .i64), 1, 8, [.d (.v (.int .i64 0))]⟩),
  (3, ⟨(.int .i64), 1, 8, [.d (.v (.int .i64 0))]⟩),
  (4, ⟨.bool, 1, 1, [.d (.v (.bool false))]⟩),
  (5, ⟨(.int .u8), 1, 1, [.d (.v (.int .u8 0))]⟩),
  (9, ⟨.str, 1, 16, [.d (.v (.string ByteArray.empty))]⟩),
  (12, ⟨(.int .u64), 1, 8, [.d (.v (.int .u64 0))]⟩),
  (15, ⟨.ptr, 1, 8, [.d (.v (.pointer none))]⟩),
  (16, ⟨.ptr, 1, 8, [.d (.v (.pointer none))]⟩),
  (17, ⟨.ptr, 1, 8, [.d (.v (.pointer none))]⟩),
  (21, ⟨(.int .i32), 1, 4, [.d (.v (.int .i32 0))]⟩),
  (22, ⟨.slice 57, 1, 24, [.nils 2]⟩),
  (23, ⟨.slice 104, 1, 24, [.nils 3]⟩),
  (24, ⟨.slice 111, 1, 24, [.nils 2]⟩),
  (25, ⟨.struct [(0, 22), (1, 3), (2, 23), (3, 24)], 4, 80, [.nils 2, .d (.v (.int .i64 0)), .nils 3, .nils 2]⟩),
  (26, ⟨.struct [(0, 22), (1, 3), (2, 23), (3, 24)], 4, 80, [.nils 2, .d (.v (.int .i64 0)), .nils 3, .nils 2]⟩),
  (27, ⟨.slice 41, 1, 24, [.nils 1]⟩),
  (28, ⟨.other, 1, 8, [.d (.v .nilFunc)]⟩),
  (29, ⟨.other, 1, 8, [.d (.v .nilFunc)]⟩),
  (30, ⟨.slice 4, 1, 24, [.nils 1]⟩),
  (31, ⟨.struct [(0, 9), (1, 3), (2, 30)], 3, 48, [.d (.v (.string ByteArray.empty)), .d (.v (.int .i64 0)), .nils 1]⟩),
  (32, ⟨.struct [(0, 9), (1, 3), (2, 30)], 3, 48, [.d (.v (.string ByteArray.empty)), .d (.v (.int .i64 0)), .nils 1]⟩),
  (33, ⟨(.int .i64), 1, 8, [.d (.v (.int .i64 0))]⟩),
  (35, ⟨.other, 1, 8, [.d (.v .nilFunc)]⟩),
  (36, ⟨.other, 1, 8, [.d (.v .nilFunc)]⟩),
  (37, ⟨.other, 1, 8, [.d (.v .nilFunc)]⟩),
  (38, ⟨.other, 1, 8, [.d (.v .nilFunc)]⟩),
  (39, ⟨.slice 79, 1, 24, [.nils 4]⟩),
  (40, ⟨.struct [(0, 39)], 1, 24, [.nils 4]⟩),
  (41, ⟨.struct [(0, 39)], 1, 24, [.nils 4]⟩),
  (43, ⟨.other, 1, 8, [.d (.v .nilFunc)]⟩),
  (44, ⟨.other, 1, 8, [.d (.v .nilFunc)]⟩),
  (45, ⟨.other, 1, 8, [.d (.v .nilFunc)]⟩),
  (46, ⟨.other, 1, 8, [.d (.v .nilFunc)]⟩),
  (47, ⟨.other, 1, 8, [.d (.v .nilFunc)]⟩),
  (48, ⟨.slice 52, 1, 24, [.nils 4]⟩),
  (50, ⟨.other, 1, 8, [.d (.v .nilFunc)]⟩),
  (51, ⟨.struct [(0, 9), (1, 3), (2, 9), (3, 3)], 4, 48, [.d (.v (.string ByteArray.empty)), .d (.v (.int .i64 0)), .d (.v (.string ByteArray.empty)), .d (.v (.int .i64 0))]⟩),
  (52, ⟨.struct [(0, 9), (1, 3), (2, 9), (3, 3)], 4, 48, [.d (.v (.string ByteArray.empty)), .d (.v (.int .i64 0)), .d (.v (.string ByteArray.empty)), .d (.v (.int .i64 0))]⟩),
  (53, ⟨.other, 1, 8, [.d (.v .nilFunc)]⟩),
  (54, ⟨.other, 1, 8, [.d (.v .nilFunc)]⟩),
  (55, ⟨.slice 59, 1, 24, [.nils 2]⟩),
  (56, ⟨.struct [(0, 3), (1, 55)], 2, 32, [.d (.v (.int .i64 0)), .nils 2]⟩),
  (57, ⟨.struct [(0, 3), (1, 55)], 2, 32, [.d (.v (.int .i64 0)), .nils 2]⟩),
  (58, ⟨.struct [(0, 9), (1, 48)], 2, 40, [.d (.v (.string ByteArray.empty)), .nils 4]⟩),
  (59, ⟨.struct [(0, 9), (1, 48)], 2, 40, [.d (.v (.string ByteArray.empty)), .nils 4]⟩),
  (60, ⟨.other, 1, 8, [.d (.v .nilFunc)]⟩),
  (61, ⟨.other, 1, 8, [.d (.v .nilFunc)]⟩),
  (62, ⟨.slice 3, 1, 24, [.nils 1]⟩),
  (63, ⟨.other, 1, 8, [.d (.v .nilFunc)]⟩),
  (64, ⟨.other, 1, 8, [.d (.v .nilFunc)]⟩),
  (65, ⟨.other, 1, 8, [.d (.v .nilFunc)]⟩),
  (66, ⟨.other, 1, 8, [.d (.v .nilFunc)]⟩),
  (67, ⟨.other, 1, 8, [.d (.v .nilFunc)]⟩),
  (68, ⟨.other, 1, 8, [.d (.v .nilFunc)]⟩),
  (69, ⟨.other, 1, 8, [.d (.v .nilFunc)]⟩),
  (70, ⟨.ptr, 1, 8, [.d (.v (.pointer none))]⟩),
  (71, ⟨.struct [(0, 41), (1, 26), (5, 3), (6, 3)], 7, 120, [.nils 4, .nils 2, .d (.v (.int .i64 0)), .nils 3, .nils 2, .d (.v (.int .i64 0)), .d (.v (.int .i64 0))]⟩),
  (72, ⟨.struct [(0, 41), (1, 26), (5, 3), (6, 3)], 7, 120, [.nils 4, .nils 2, .d (.v (.int .i64 0)), .nils 3, .nils 2, .d (.v (.int .i64 0)), .d (.v (.int .i64 0))]⟩),
  (74, ⟨.other, 1, 8, [.d (.v .nilFunc)]⟩),
  (75, ⟨.other, 1, 8, [.d (.v .nilFunc)]⟩),
  (76, ⟨.other, 1, 8, [.d (.v .nilFunc)]⟩),
  (77, ⟨.other, 1, 8, [.d (.v .nilFunc)]⟩),
  (78, ⟨.struct [(0, 9), (1, 3), (2, 48), (3, 3)], 4, 56, [.d (.v (.string ByteArray.empty)), .d (.v (.int .i64 0)), .nils 4, .d (.v (.int .i64 0))]⟩),
  (79, ⟨.struct [(0, 9), (1, 3), (2, 48), (3, 3)], 4, 56, [.d (.v (.string ByteArray.empty)), .d (.v (.int .i64 0)), .nils 4, .d (.v (.int .i64 0))]⟩),
  (80, ⟨.other, 1, 8, [.d (.v .nilFunc)]⟩),
  (81, ⟨.other, 1, 8, [.d (.v .nilFunc)]⟩),
  (82, ⟨.other, 1, 8, [.d (.v .nilFunc)]⟩),
  (84, ⟨.other, 1, 8, [.d (.v .nilFunc)]⟩),
  (86, ⟨.other, 1, 8, [.d (.v .nilFunc)]⟩),
  (87, ⟨.other, 1, 8, [.d (.v .nilFunc)]⟩),
  (88, ⟨.other, 1, 8, [.d (.v .nilFunc)]⟩),
  (89, ⟨.other, 1, 8, [.d (.v .nilFunc)]⟩),
  (90, ⟨.other, 1, 8, [.d (.v .nilFunc)]⟩),
  (92, ⟨.other, 1, 8, [.d (.v .nilFunc)]⟩),
  (93, ⟨.other, 1, 8, [.d (.v .nilFunc)]⟩),
  (94, ⟨.other, 1, 8, [.d (.v .nilFunc)]⟩),
  (95, ⟨.other, 1, 8, [.d (.v .nilFunc)]⟩),
  (96, ⟨.other, 1, 8, [.d (.v .nilFunc)]⟩),
  (97, ⟨.other, 1, 8, [.d (.v .nilFunc)]⟩),
  (98, ⟨.other, 1, 8, [.d (.v .nilFunc)]⟩),
  (99, ⟨.other, 1, 8, [.d (.v .nilFunc)]⟩),
  (100, ⟨.other, 1, 8, [.d (.v .nilFunc)]⟩),
  (101, ⟨.other, 1, 8, [.d (.v .nilFunc)]⟩),
  (102, ⟨.other, 1, 8, [.d (.v .nilFunc)]⟩),
  (103, ⟨.struct [(0, 3), (1, 3), (2, 3)], 3, 24, [.d (.v (.int .i64 0)), .d (.v (.int .i64 0)), .d (.v (.int .i64 0))]⟩),
  (104, ⟨.struct [(0, 3), (1, 3), (2, 3)], 3, 24, [.d (.v (.int .i64 0)), .d (.v (.int .i64 0)), .d (.v (.int .i64 0))]⟩),
  (105, ⟨.other, 1, 8, [.d (.v .nilFunc)]⟩),
  (107, ⟨.other, 1, 8, [.d (.v .nilFunc)]⟩),
  (108, ⟨.other, 1, 8, [.d (.v .nilFunc)]⟩),
  (109, ⟨.other, 1, 8, [.d (.v .nilFunc)]⟩),
  (110, ⟨.struct [(0, 9), (1, 3)], 2, 24, [.d (.v (.string ByteArray.empty)), .d (.v (.int .i64 0))]⟩),
  (111, ⟨.struct [(0, 9), (1, 3)], 2, 24, [.d (.v (.string ByteArray.empty)), .d (.v (.int .i64 0))]⟩),
  (112, ⟨.other, 1, 8, [.d (.v .nilFunc)]⟩),
  (113, ⟨.other, 1, 8, [.d (.v .nilFunc)]⟩),
  (114, ⟨.other, 1, 8, [.d (.v .nilFunc)]⟩),
  (115, ⟨.other, 1, 8, [.d (.v .nilFunc)]⟩),
  (116, ⟨.other, 1, 8, [.d (.v .nilFunc)]⟩),
  (118, ⟨.other, 1, 8, [.d (.v .nilFunc)]⟩),
  (119, ⟨.other, 1, 8, [.d (.v .nilFunc)]⟩),
  (120, ⟨.other, 1, 8, [.d (.v .nilFunc)]⟩),
  (121, ⟨.other, 1, 8, [.d (.v .nilFunc)]⟩),
  (122, ⟨.other, 1, 8, [.d (.v .nilFunc)]⟩),
  (123, ⟨.other, 1, 8, [.d (.v .nilFunc)]⟩),
  (124, ⟨.other, 1, 8, [.d (.v .nilFunc)]⟩),
  (125, ⟨.struct [(0, 48), (1, 3), (2, 33)], 3, 40, [.nils 4, .d (.v (.int .i64 0)), .d (.v (.int .i64 0))]⟩),
  (126, ⟨.struct [(0, 48), (1, 3), (2, 33)], 3, 40, [.nils 4, .d (.v (.int .i64 0)), .d (.v (.int .i64 0))]⟩),
  (127, ⟨.other, 1, 8, [.d (.v .nilFunc)]⟩),
  (128, ⟨.other, 1, 8, [.d (.v .nilFunc)]⟩),
  (130, ⟨.other, 1, 8, [.d (.v .nilFunc)]⟩),
  (131, ⟨.other, 1, 8, [.d (.v .nilFunc)]⟩),
  (132, ⟨.other, 1, 8, [.d (.v .nilFunc)]⟩),
  (133, ⟨.struct [(0, 3), (1, 48), (2, 3), (3, 9)], 4, 56, [.d (.v (.int .i64 0)), .nils 4, .d (.v (.int .i64 0)), .d (.v (.string ByteArray.empty))]⟩),
  (134, ⟨.struct [(0, 3), (1, 48), (2, 3), (3, 9)], 4, 56, [.d (.v (.int .i64 0)), .nils 4, .d (.v (.int .i64 0)), .d (.v (.string ByteArray.empty))]⟩),
  (136, ⟨.other, 1, 8, [.d (.v .nilFunc)]⟩),
  (137, ⟨.other, 1, 8, [.d (.v .nilFunc)]⟩),
  (138, ⟨.other, 1, 8, [.d (.v .nilFunc)]⟩),
  (139, ⟨.other, 1, 8, [.d (.v .nilFunc)]⟩),
  (140, ⟨.other, 1, 8, [.d (.v .nilFunc)]⟩),
  (141, ⟨.other, 1, 8, [.d (.v .nilFunc)]⟩),
  (142, ⟨.other, 1, 8, [.d (.v .nilFunc)]⟩),
  (143, ⟨.other, 1, 8, [.d (.v .nilFunc)]⟩),
  (144, ⟨.other, 1, 8, [.d (.v .nilFunc)]⟩),
  (145, ⟨.other, 1, 8, [.d (.v .nilFunc)]⟩),
  (146, ⟨.other, 1, 8, [.d (.v .nilFunc)]⟩),
  (147, ⟨.other, 1, 8, [.d (.v .nilFunc)]⟩),
  (148, ⟨.other, 1, 8, [.d (.v .nilFunc)]⟩),
  (149, ⟨.other, 1, 8, [.d (.v .nilFunc)]⟩),
  (150, ⟨.other, 1, 8, [.d (.v .nilFunc)]⟩),
  (151, ⟨.other, 1, 8, [.d (.v .nilFunc)]⟩),
  (152, ⟨.other, 1, 8, [.d (.v .nilFunc)]⟩),
  (153, ⟨(.int .u64), 1, 8, [.d (.v (.int .u64 0))]⟩),
  (154, ⟨.other, 1, 8, [.d (.v .nilFunc)]⟩),
  (155, ⟨.other, 1, 8, [.d (.v .nilFunc)]⟩),
  (156, ⟨.other, 1, 8, [.d (.v .nilFunc)]⟩),
  (157, ⟨.other, 1, 8, [.d (.v .nilFunc)]⟩),
  (158, ⟨.other, 1, 8, [.d (.v .nilFunc)]⟩),
  (159, ⟨.other, 1, 8, [.d (.v .nilFunc)]⟩),
  (160, ⟨.slice 9, 1, 24, [.nils 1]⟩),
  (161, ⟨.other, 1, 8, [.d (.v .nilFunc)]⟩),
  (162, ⟨.other, 1, 8, [.d (.v .nilFunc)]⟩),
  (164, ⟨.other, 1, 8, [.d (.v .nilFunc)]⟩),
  (165, ⟨.other, 1, 8, [.d (.v .nilFunc)]⟩),
  (166, ⟨.other, 1, 8, [.d (.v .nilFunc)]⟩),
  (167, ⟨.other, 1, 8, [.d (.v .nilFunc)]⟩),
  (168, ⟨.other, 1, 8, [.d (.v .nilFunc)]⟩),
  (169, ⟨.other, 1, 8, [.d (.v .nilFunc)]⟩),
  (170, ⟨.slice 28, 1, 24, [.nils 1]⟩),
  (171, ⟨.other, 1, 8, [.d (.v .nilFunc)]⟩),
  (172, ⟨.other, 1, 8, [.d (.v .nilFunc)]⟩),
  (173, ⟨.other, 1, 8, [.d (.v .nilFunc)]⟩),
  (174, ⟨.other, 1, 8, [.d (.v .nilFunc)]⟩),
  (175, ⟨.other, 1, 8, [.d (.v .nilFunc)]⟩),
  (176, ⟨.other, 1, 8, [.d (.v .nilFunc)]⟩),
  (177, ⟨.other, 1, 8, [.d (.v .nilFunc)]⟩),
  (178, ⟨(.int .i64), 1, 8, [.d (.v (.int .i64 0))]⟩),
  (180, ⟨.other, 1, 8, [.d (.v .nilFunc)]⟩),
  (181, ⟨.other, 1, 8, [.d (.v .nilFunc)]⟩),
  (182, ⟨.other, 1, 8, [.d (.v .nilFunc)]⟩),
  (183, ⟨.other, 1, 8, [.d (.v .nilFunc)]⟩),
  (184, ⟨.other, 1, 8, [.d (.v .nilFunc)]⟩),
  (185, ⟨.other, 1, 8, [.d (.v .nilFunc)]⟩),
  (186, ⟨(.int .u32), 1, 4, [.d (.v (.int .u32 0))]⟩),
  (187, ⟨.other, 1, 8, [.d (.v .nilFunc)]⟩),
  (188, ⟨(.int .u64), 1, 8, [.d (.v (.int .u64 0))]⟩),
  (189, ⟨.other, 1, 8, [.d (.v .nilFunc)]⟩),
  (190, ⟨.other, 1, 8, [.d (.v .nilFunc)]⟩),
  (191, ⟨.other, 1, 8, [.d (.v .nilFunc)]⟩),
  (192, ⟨.other, 1, 8, [.d (.v .nilFunc)]⟩),
  (193, ⟨.other, 1, 8, [.d (.v .nilFunc)]⟩),
  (194, ⟨.other, 1, 8, [.d (.v .nilFunc)]⟩),
  (195, ⟨.other, 1, 8, [.d (.v .nilFunc)]⟩),
  (196, ⟨.other, 1, 8, [.d (.v .nilFunc)]⟩),
  (197, ⟨.other, 1, 8, [.d (.v .nilFunc)]⟩),
  (198, ⟨.other, 1, 8, [.d (.v .nilFunc)]⟩),
  (199, ⟨(.int .u64), 1, 8, [.d (.v (.int .u64 0))]⟩),
  (200, ⟨.other, 1, 8, [.d (.v .nilFunc)]⟩),
  (201, ⟨.other, 1, 8, [.d (.v .nilFunc)]⟩),
  (202, ⟨.other, 1, 8, [.d (.v .nilFunc)]⟩),
  (203, ⟨.ptr, 1, 8, [.d (.v (.pointer none))]⟩),
  (204, ⟨.other, 1, 8, [.d (.v .nilFunc)]⟩),
  (205, ⟨.other, 1, 8, [.d (.v .nilFunc)]⟩),
  (206, ⟨.other, 1, 8, [.d (.v .nilFunc)]⟩),
  (207, ⟨.other, 1, 8, [.d (.v .nilFunc)]⟩),
  (209, ⟨.other, 1, 8, [.d (.v .nilFunc)]⟩),
  (211, ⟨.other, 1, 8, [.d (.v .nilFunc)]⟩),
  (212, ⟨.ptr, 1, 8, [.d (.v (.pointer none))]⟩),
  (214, ⟨.other, 1, 8, [.d (.v .nilFunc)]⟩),
  (216, ⟨.struct [(0, 5), (1, 5)], 2, 2, [.d (.v (.int .u8 0)), .d (.v (.int .u8 0))]⟩),
  (217, ⟨.struct [(0, 5), (1, 5)], 2, 2, [.d (.v (.int .u8 0)), .d (.v (.int .u8 0))]⟩),
  (219, ⟨.other, 1, 8, [.d (.v .nilFunc)]⟩),
  (225, ⟨.other, 1, 8, [.d (.v .nilFunc)]⟩),
  (228, ⟨.other, 1, 8, [.d (.v .nilFunc)]⟩),
  (229, ⟨.ptr, 1, 8, [.d (.v (.pointer none))]⟩)]
theorem ext142 : ExtOk Tryz.prog 142 (.overlaps 39 4) := ⟨Tryz.f142, Tryz.func142, by kernel_rfl, by kernel_rfl, by kernel_rfl, by kernel_rfl⟩
theorem ext181 : ExtOk Tryz.prog 181 (.countString) := ⟨Tryz.f181, Tryz.func181, by kernel_rfl, by kernel_rfl, by kernel_rfl, by kernel_rfl⟩
theorem ext190 : ExtOk Tryz.prog 190 (.cmpString) := ⟨Tryz.f190, Tryz.func190, by kernel_rfl, by kernel_rfl, by kernel_rfl, by kernel_rfl⟩
theorem ext206 : ExtOk Tryz.prog 206 (.indexByteString) := ⟨Tryz.f206, Tryz.func206, by kernel_rfl, by kernel_rfl, by kernel_rfl, by kernel_rfl⟩
def extTable : List (FuncId × Ext) := [(142, .overlaps 39 4), (181, .countString), (190, .cmpString), (206, .indexByteString)]
theorem extTable_ok : ExtAll Tryz.prog extTable := ⟨ext142, ext181, ext190, ext206, trivial⟩
theorem tyTable_ok : tyCheckAll Tryz.prog tyTable = true := by kernel_rfl
theorem mixed : Tryz.prog.follows .mixedOrders = true := by kernel_rfl
def tys : Ctx := ⟨fun t => tyL tyTable t, fun f => extL extTable f⟩
theorem sitOk {ro : Option Nat} {pin : Pin} : SitOk ⟨Tryz.prog, tys, ro, pin⟩ := ⟨ctxOk_of tyTable_ok extTable_ok, mixed⟩
/-- A contract, from what the body asks. -/
theorem meets {f : FuncId} {fn : Func} {code : Code} {args : List (Bool × List CV)} {res : Res} {nt : Nat} {rl : List ResultVar} (hf : Tryz.prog.funcs[f]? = some fn) (hb : fn.body = some code) (hname : (fn.name == "runtime.NumGoroutine") = false) (hnt : fn.ntmps = nt) (hrs : fn.results = rl.toArray) (hlen : decide (args.length ≤ nt) = true)
    (h : vc ⟨Tryz.prog, tys, none, ⟨0, []⟩⟩ code (RetS tys rl res) (initSt nt args)) : Meets Tryz.prog f args res := by
  subst hnt
  refine meets_of_body (E := ⟨Tryz.prog, tys, none, ⟨0, []⟩⟩) sitOk rfl hf hb hname (of_decide_eq_true hlen) ?_
  rw [hrs]; exact awp_mono (awp_vc sitOk h) fun e st h => by simpa using RetS.retQ e st h
theorem tysOk : CtxOk Tryz.prog tys := ctxOk_of tyTable_ok extTable_ok
theorem own : ownKnob Tryz.prog.godebug = none := by kernel_rfl
theorem laidOut : laidOutB Tryz.prog = true := by kernel_rfl
/-- The like, where objects are frozen as it ends. -/
theorem meetsF {f : FuncId} {fn : Func} {code : Code} {args : List (Bool × List CV)} {res : Res} {nt : Nat} {rl : List ResultVar} (hf : Tryz.prog.funcs[f]? = some fn) (hb : fn.body = some code) (hname : (fn.name == "runtime.NumGoroutine") = false) (hnt : fn.ntmps = nt) (hrs : fn.results = rl.toArray) (hlen : decide (args.length ≤ nt) = true)
    (h : vc ⟨Tryz.prog, tys, none, ⟨0, []⟩⟩ code (RetQ tys rl res) (initSt nt args)) : Meets Tryz.prog f args res := by
  subst hnt
  refine meets_of_body (E := ⟨Tryz.prog, tys, none, ⟨0, []⟩⟩) sitOk rfl hf hb hname (of_decide_eq_true hlen) ?_
  rw [hrs]; exact awp_mono (awp_vc sitOk h) fun e st h => by simpa using h
/-- A call by a walk over the caller's objects. -/
theorem callW {ro : Option Nat} {pin : Pin} {R : Reg} {acc : List Ft} {st : St} {j : Nat} {f : FuncId} {fn : Func} {code : Code} {A : List (Bool × List AV)} {cv : Option (List (Bool × List CV))} {K : Kop} {KH : AT → List (Nat × Option AObj) → Nat → Prop} {nt : Nat} {rl : List ResultVar} (hd : R.draw = false) (hf : Tryz.prog.funcs[f]? = some fn) (hb : fn.body = some code) (hname : (fn.name == "runtime.NumGoroutine") = false) (hnt : fn.ntmps = nt) (hrs : fn.results = rl.toArray) (hlen : decide (A.length ≤ nt) = true)
    (h : vc ⟨Tryz.prog, tys, none, ⟨R.N + 8 * j, []⟩⟩ code (retH tys rl KH) ⟨nt, initEnv 0 A, st.objs, R.N + 8 * j⟩) : VCall ⟨Tryz.prog, tys, ro, pin⟩ R acc st j (some (f, A)) cv K KH := by
  subst hnt
  refine callH hd (hcall_of_body sitOk hf hb hname (of_decide_eq_true hlen) ?_)
  rw [hrs]; exact awp_vc sitOk h
theorem callWd {ro : Option Nat} {pin : Pin} {R : Reg} {acc : List Ft} {st : St} {j : Nat} {f : FuncId} {fn : Func} {code : Code} {A : List (Bool × List AV)} {cv : Option (List (Bool × List CV))} {K : Kop} {KH : AT → List (Nat × Option AObj) → Nat → Prop} {nt : Nat} {rl : List ResultVar} (hd : drawF R.ops acc.reverse = true) (hc : cutOk R.ops j = true) (hf : Tryz.prog.funcs[f]? = some fn) (hb : fn.body = some code) (hname : (fn.name == "runtime.NumGoroutine") = false) (hnt : fn.ntmps = nt) (hrs : fn.results = rl.toArray) (hlen : decide (A.length ≤ nt) = true)
    (h : vc ⟨Tryz.prog, tys, none, ⟨R.N + 8 * j, []⟩⟩ code (retH tys rl KH) ⟨nt, initEnv 0 A, st.objs, R.N + 8 * j⟩) : VCall ⟨Tryz.prog, tys, ro, pin⟩ R acc st j (some (f, A)) cv K KH := by
  subst hnt
  refine callHd hd hc (hcall_of_body sitOk hf hb hname (of_decide_eq_true hlen) ?_)
  rw [hrs]; exact awp_vc sitOk h
/-- The like, by a walk that is not yet rewriting. -/
theorem meetsA {f : FuncId} {fn : Func} {code : Code} {args : List (Bool × List CV)} {res : Res} {nt : Nat} {rl : List ResultVar} (hf : Tryz.prog.funcs[f]? = some fn) (hb : fn.body = some code) (hname : (fn.name == "runtime.NumGoroutine") = false) (hnt : fn.ntmps = nt) (hrs : fn.results = rl.toArray) (hlen : decide (args.length ≤ nt) = true)
    (h : AWp ⟨Tryz.prog, tys, none, ⟨0, []⟩⟩ code (RetS tys rl res) (initSt nt args)) : Meets Tryz.prog f args res := by
  subst hnt
  refine meets_of_body (E := ⟨Tryz.prog, tys, none, ⟨0, []⟩⟩) sitOk rfl hf hb hname (of_decide_eq_true hlen) ?_
  rw [hrs]; exact awp_mono h fun e st h => by simpa using RetS.retQ e st h
theorem ty1 : tys.ty 1 = some ⟨.other, 1, 8, [.d (.v .nilFunc)]⟩ := rfl
theorem sz1 : tys.size 1 = some 1 := rfl
theorem ag1 : tys.agg 1 = some false := rfl
attribute [go_sem] ty1 sz1 ag1
theorem ty2 : tys.ty 2 = some ⟨(.int .i64), 1, 8, [.d (.v (.int .i64 0))]⟩ := rfl
theorem sz2 : tys.size 2 = some 1 := rfl
theorem ag2 : tys.agg 2 = some false := rfl
attribute [go_sem] ty2 sz2 ag2
theorem ty3 : tys.ty 3 = some ⟨(.int .i64), 1, 8, [.d (.v (.int .i64 0))]⟩ := rfl
theorem sz3 : tys.size 3 = some 1 := rfl
theorem ag3 : tys.agg 3 = some false := rfl
attribute [go_sem] ty3 sz3 ag3
theorem ty4 : tys.ty 4 = some ⟨.bool, 1, 1, [.d (.v (.bool false))]⟩ := rfl
theorem sz4 : tys.size 4 = some 1 := rfl
theorem ag4 : tys.agg 4 = some false := rfl
attribute [go_sem] ty4 sz4 ag4
theorem ty5 : tys.ty 5 = some ⟨(.int .u8), 1, 1, [.d (.v (.int .u8 0))]⟩ := rfl
theorem sz5 : tys.size 5 = some 1 := rfl
theorem ag5 : tys.agg 5 = some false := rfl
attribute [go_sem] ty5 sz5 ag5
theorem ty9 : tys.ty 9 = some ⟨.str, 1, 16, [.d (.v (.string ByteArray.empty))]⟩ := rfl
theorem sz9 : tys.size 9 = some 1 := rfl
theorem ag9 : tys.agg 9 = some false := rfl
attribute [go_sem] ty9 sz9 ag9
theorem ty12 : tys.ty 12 = some ⟨(.int .u64), 1, 8, [.d (.v (.int .u64 0))]⟩ := rfl
theorem sz12 : tys.size 12 = some 1 := rfl
theorem ag12 : tys.agg 12 = some false := rfl
attribute [go_sem] ty12 sz12 ag12
theorem ty15 : tys.ty 15 = some ⟨.ptr, 1, 8, [.d (.v (.pointer none))]⟩ := rfl
theorem sz15 : tys.size 15 = some 1 := rfl
theorem ag15 : tys.agg 15 = some false := rfl
attribute [go_sem] ty15 sz15 ag15
theorem ty16 : tys.ty 16 = some ⟨.ptr, 1, 8, [.d (.v (.pointer none))]⟩ := rfl
theorem sz16 : tys.size 16 = some 1 := rfl
theorem ag16 : tys.agg 16 = some false := rfl
attribute [go_sem] ty16 sz16 ag16
theorem ty17 : tys.ty 17 = some ⟨.ptr, 1, 8, [.d (.v (.pointer none))]⟩ := rfl
theorem sz17 : tys.size 17 = some 1 := rfl
theorem ag17 : tys.agg 17 = some false := rfl
attribute [go_sem] ty17 sz17 ag17
theorem ty21 : tys.ty 21 = some ⟨(.int .i32), 1, 4, [.d (.v (.int .i32 0))]⟩ := rfl
theorem sz21 : tys.size 21 = some 1 := rfl
theorem ag21 : tys.agg 21 = some false := rfl
attribute [go_sem] ty21 sz21 ag21
theorem ty22 : tys.ty 22 = some ⟨.slice 57, 1, 24, [.nils 2]⟩ := rfl
theorem sz22 : tys.size 22 = some 1 := rfl
theorem ag22 : tys.agg 22 = some false := rfl
theorem el22 : tys.elem 22 = some 57 := rfl
attribute [go_sem] ty22 sz22 ag22 el22
theorem ty23 : tys.ty 23 = some ⟨.slice 104, 1, 24, [.nils 3]⟩ := rfl
theorem sz23 : tys.size 23 = some 1 := rfl
theorem ag23 : tys.agg 23 = some false := rfl
theorem el23 : tys.elem 23 = some 104 := rfl
attribute [go_sem] ty23 sz23 ag23 el23
theorem ty24 : tys.ty 24 = some ⟨.slice 111, 1, 24, [.nils 2]⟩ := rfl
theorem sz24 : tys.size 24 = some 1 := rfl
theorem ag24 : tys.agg 24 = some false := rfl
theorem el24 : tys.elem 24 = some 111 := rfl
attribute [go_sem] ty24 sz24 ag24 el24
theorem ty25 : tys.ty 25 = some ⟨.struct [(0, 22), (1, 3), (2, 23), (3, 24)], 4, 80, [.nils 2, .d (.v (.int .i64 0)), .nils 3, .nils 2]⟩ := rfl
theorem sz25 : tys.size 25 = some 4 := rfl
theorem ag25 : tys.agg 25 = some true := rfl
theorem fl25 : tys.fields 25 = some [(0, 22), (1, 3), (2, 23), (3, 24)] := rfl
attribute [go_sem] ty25 sz25 ag25 fl25
theorem ty26 : tys.ty 26 = some ⟨.struct [(0, 22), (1, 3), (2, 23), (3, 24)], 4, 80, [.nils 2, .d (.v (.int .i64 0)), .nils 3, .nils 2]⟩ := rfl
theorem sz26 : tys.size 26 = some 4 := rfl
theorem ag26 : tys.agg 26 = some true := rfl
theorem fl26 : tys.fields 26 = some [(0, 22), (1, 3), (2, 23), (3, 24)] := rfl
attribute [go_sem] ty26 sz26 ag26 fl26
theorem ty27 : tys.ty 27 = some ⟨.slice 41, 1, 24, [.nils 1]⟩ := rfl
theorem sz27 : tys.size 27 = some 1 := rfl
theorem ag27 : tys.agg 27 = some false := rfl
theorem el27 : tys.elem 27 = some 41 := rfl
attribute [go_sem] ty27 sz27 ag27 el27
theorem ty28 : tys.ty 28 = some ⟨.other, 1, 8, [.d (.v .nilFunc)]⟩ := rfl
theorem sz28 : tys.size 28 = some 1 := rfl
theorem ag28 : tys.agg 28 = some false := rfl
attribute [go_sem] ty28 sz28 ag28
theorem ty29 : tys.ty 29 = some ⟨.other, 1, 8, [.d (.v .nilFunc)]⟩ := rfl
theorem sz29 : tys.size 29 = some 1 := rfl
theorem ag29 : tys.agg 29 = some false := rfl
attribute [go_sem] ty29 sz29 ag29
theorem ty30 : tys.ty 30 = some ⟨.slice 4, 1, 24, [.nils 1]⟩ := rfl
theorem sz30 : tys.size 30 = some 1 := rfl
theorem ag30 : tys.agg 30 = some false := rfl
theorem el30 : tys.elem 30 = some 4 := rfl
attribute [go_sem] ty30 sz30 ag30 el30
theorem ty31 : tys.ty 31 = some ⟨.struct [(0, 9), (1, 3), (2, 30)], 3, 48, [.d (.v (.string ByteArray.empty)), .d (.v (.int .i64 0)), .nils 1]⟩ := rfl
theorem sz31 : tys.size 31 = some 3 := rfl
theorem ag31 : tys.agg 31 = some true := rfl
theorem fl31 : tys.fields 31 = some [(0, 9), (1, 3), (2, 30)] := rfl
attribute [go_sem] ty31 sz31 ag31 fl31
theorem ty32 : tys.ty 32 = some ⟨.struct [(0, 9), (1, 3), (2, 30)], 3, 48, [.d (.v (.string ByteArray.empty)), .d (.v (.int .i64 0)), .nils 1]⟩ := rfl
theorem sz32 : tys.size 32 = some 3 := rfl
theorem ag32 : tys.agg 32 = some true := rfl
theorem fl32 : tys.fields 32 = some [(0, 9), (1, 3), (2, 30)] := rfl
attribute [go_sem] ty32 sz32 ag32 fl32
theorem ty33 : tys.ty 33 = some ⟨(.int .i64), 1, 8, [.d (.v (.int .i64 0))]⟩ := rfl
theorem sz33 : tys.size 33 = some 1 := rfl
theorem ag33 : tys.agg 33 = some false := rfl
attribute [go_sem] ty33 sz33 ag33
theorem ty35 : tys.ty 35 = some ⟨.other, 1, 8, [.d (.v .nilFunc)]⟩ := rfl
theorem sz35 : tys.size 35 = some 1 := rfl
theorem ag35 : tys.agg 35 = some false := rfl
attribute [go_sem] ty35 sz35 ag35
theorem ty36 : tys.ty 36 = some ⟨.other, 1, 8, [.d (.v .nilFunc)]⟩ := rfl
theorem sz36 : tys.size 36 = some 1 := rfl
theorem ag36 : tys.agg 36 = some false := rfl
attribute [go_sem] ty36 sz36 ag36
theorem ty37 : tys.ty 37 = some ⟨.other, 1, 8, [.d (.v .nilFunc)]⟩ := rfl
theorem sz37 : tys.size 37 = some 1 := rfl
theorem ag37 : tys.agg 37 = some false := rfl
attribute [go_sem] ty37 sz37 ag37
theorem ty38 : tys.ty 38 = some ⟨.other, 1, 8, [.d (.v .nilFunc)]⟩ := rfl
theorem sz38 : tys.size 38 = some 1 := rfl
theorem ag38 : tys.agg 38 = some false := rfl
attribute [go_sem] ty38 sz38 ag38
theorem ty39 : tys.ty 39 = some ⟨.slice 79, 1, 24, [.nils 4]⟩ := rfl
theorem sz39 : tys.size 39 = some 1 := rfl
theorem ag39 : tys.agg 39 = some false := rfl
theorem el39 : tys.elem 39 = some 79 := rfl
attribute [go_sem] ty39 sz39 ag39 el39
theorem ty40 : tys.ty 40 = some ⟨.struct [(0, 39)], 1, 24, [.nils 4]⟩ := rfl
theorem sz40 : tys.size 40 = some 1 := rfl
theorem ag40 : tys.agg 40 = some true := rfl
theorem fl40 : tys.fields 40 = some [(0, 39)] := rfl
attribute [go_sem] ty40 sz40 ag40 fl40
theorem ty41 : tys.ty 41 = some ⟨.struct [(0, 39)], 1, 24, [.nils 4]⟩ := rfl
theorem sz41 : tys.size 41 = some 1 := rfl
theorem ag41 : tys.agg 41 = some true := rfl
theorem fl41 : tys.fields 41 = some [(0, 39)] := rfl
attribute [go_sem] ty41 sz41 ag41 fl41
theorem ty43 : tys.ty 43 = some ⟨.other, 1, 8, [.d (.v .nilFunc)]⟩ := rfl
theorem sz43 : tys.size 43 = some 1 := rfl
theorem ag43 : tys.agg 43 = some false := rfl
attribute [go_sem] ty43 sz43 ag43
theorem ty44 : tys.ty 44 = some ⟨.other, 1, 8, [.d (.v .nilFunc)]⟩ := rfl
theorem sz44 : tys.size 44 = some 1 := rfl
theorem ag44 : tys.agg 44 = some false := rfl
attribute [go_sem] ty44 sz44 ag44
theorem ty45 : tys.ty 45 = some ⟨.other, 1, 8, [.d (.v .nilFunc)]⟩ := rfl
theorem sz45 : tys.size 45 = some 1 := rfl
theorem ag45 : tys.agg 45 = some false := rfl
attribute [go_sem] ty45 sz45 ag45
theorem ty46 : tys.ty 46 = some ⟨.other, 1, 8, [.d (.v .nilFunc)]⟩ := rfl
theorem sz46 : tys.size 46 = some 1 := rfl
theorem ag46 : tys.agg 46 = some false := rfl
attribute [go_sem] ty46 sz46 ag46
theorem ty47 : tys.ty 47 = some ⟨.other, 1, 8, [.d (.v .nilFunc)]⟩ := rfl
theorem sz47 : tys.size 47 = some 1 := rfl
theorem ag47 : tys.agg 47 = some false := rfl
attribute [go_sem] ty47 sz47 ag47
theorem ty48 : tys.ty 48 = some ⟨.slice 52, 1, 24, [.nils 4]⟩ := rfl
theorem sz48 : tys.size 48 = some 1 := rfl
theorem ag48 : tys.agg 48 = some false := rfl
theorem el48 : tys.elem 48 = some 52 := rfl
attribute [go_sem] ty48 sz48 ag48 el48
theorem ty50 : tys.ty 50 = some ⟨.other, 1, 8, [.d (.v .nilFunc)]⟩ := rfl
theorem sz50 : tys.size 50 = some 1 := rfl
theorem ag50 : tys.agg 50 = some false := rfl
attribute [go_sem] ty50 sz50 ag50
theorem ty51 : tys.ty 51 = some ⟨.struct [(0, 9), (1, 3), (2, 9), (3, 3)], 4, 48, [.d (.v (.string ByteArray.empty)), .d (.v (.int .i64 0)), .d (.v (.string ByteArray.empty)), .d (.v (.int .i64 0))]⟩ := rfl
theorem sz51 : tys.size 51 = some 4 := rfl
theorem ag51 : tys.agg 51 = some true := rfl
theorem fl51 : tys.fields 51 = some [(0, 9), (1, 3), (2, 9), (3, 3)] := rfl
attribute [go_sem] ty51 sz51 ag51 fl51
theorem ty52 : tys.ty 52 = some ⟨.struct [(0, 9), (1, 3), (2, 9), (3, 3)], 4, 48, [.d (.v (.string ByteArray.empty)), .d (.v (.int .i64 0)), .d (.v (.string ByteArray.empty)), .d (.v (.int .i64 0))]⟩ := rfl
theorem sz52 : tys.size 52 = some 4 := rfl
theorem ag52 : tys.agg 52 = some true := rfl
theorem fl52 : tys.fields 52 = some [(0, 9), (1, 3), (2, 9), (3, 3)] := rfl
attribute [go_sem] ty52 sz52 ag52 fl52
theorem ty53 : tys.ty 53 = some ⟨.other, 1, 8, [.d (.v .nilFunc)]⟩ := rfl
theorem sz53 : tys.size 53 = some 1 := rfl
theorem ag53 : tys.agg 53 = some false := rfl
attribute [go_sem] ty53 sz53 ag53
theorem ty54 : tys.ty 54 = some ⟨.other, 1, 8, [.d (.v .nilFunc)]⟩ := rfl
theorem sz54 : tys.size 54 = some 1 := rfl
theorem ag54 : tys.agg 54 = some false := rfl
attribute [go_sem] ty54 sz54 ag54
theorem ty55 : tys.ty 55 = some ⟨.slice 59, 1, 24, [.nils 2]⟩ := rfl
theorem sz55 : tys.size 55 = some 1 := rfl
theorem ag55 : tys.agg 55 = some false := rfl
theorem el55 : tys.elem 55 = some 59 := rfl
attribute [go_sem] ty55 sz55 ag55 el55
theorem ty56 : tys.ty 56 = some ⟨.struct [(0, 3), (1, 55)], 2, 32, [.d (.v (.int .i64 0)), .nils 2]⟩ := rfl
theorem sz56 : tys.size 56 = some 2 := rfl
theorem ag56 : tys.agg 56 = some true := rfl
theorem fl56 : tys.fields 56 = some [(0, 3), (1, 55)] := rfl
attribute [go_sem] ty56 sz56 ag56 fl56
theorem ty57 : tys.ty 57 = some ⟨.struct [(0, 3), (1, 55)], 2, 32, [.d (.v (.int .i64 0)), .nils 2]⟩ := rfl
theorem sz57 : tys.size 57 = some 2 := rfl
theorem ag57 : tys.agg 57 = some true := rfl
theorem fl57 : tys.fields 57 = some [(0, 3), (1, 55)] := rfl
attribute [go_sem] ty57 sz57 ag57 fl57
theorem ty58 : tys.ty 58 = some ⟨.struct [(0, 9), (1, 48)], 2, 40, [.d (.v (.string ByteArray.empty)), .nils 4]⟩ := rfl
theorem sz58 : tys.size 58 = some 2 := rfl
theorem ag58 : tys.agg 58 = some true := rfl
theorem fl58 : tys.fields 58 = some [(0, 9), (1, 48)] := rfl
attribute [go_sem] ty58 sz58 ag58 fl58
theorem ty59 : tys.ty 59 = some ⟨.struct [(0, 9), (1, 48)], 2, 40, [.d (.v (.string ByteArray.empty)), .nils 4]⟩ := rfl
theorem sz59 : tys.size 59 = some 2 := rfl
theorem ag59 : tys.agg 59 = some true := rfl
theorem fl59 : tys.fields 59 = some [(0, 9), (1, 48)] := rfl
attribute [go_sem] ty59 sz59 ag59 fl59
theorem ty60 : tys.ty 60 = some ⟨.other, 1, 8, [.d (.v .nilFunc)]⟩ := rfl
theorem sz60 : tys.size 60 = some 1 := rfl
theorem ag60 : tys.agg 60 = some false := rfl
attribute [go_sem] ty60 sz60 ag60
theorem ty61 : tys.ty 61 = some ⟨.other, 1, 8, [.d (.v .nilFunc)]⟩ := rfl
theorem sz61 : tys.size 61 = some 1 := rfl
theorem ag61 : tys.agg 61 = some false := rfl
attribute [go_sem] ty61 sz61 ag61
theorem ty62 : tys.ty 62 = some ⟨.slice 3, 1, 24, [.nils 1]⟩ := rfl
theorem sz62 : tys.size 62 = some 1 := rfl
theorem ag62 : tys.agg 62 = some false := rfl
theorem el62 : tys.elem 62 = some 3 := rfl
attribute [go_sem] ty62 sz62 ag62 el62
theorem ty63 : tys.ty 63 = some ⟨.other, 1, 8, [.d (.v .nilFunc)]⟩ := rfl
theorem sz63 : tys.size 63 = some 1 := rfl
theorem ag63 : tys.agg 63 = some false := rfl
attribute [go_sem] ty63 sz63 ag63
theorem ty64 : tys.ty 64 = some ⟨.other, 1, 8, [.d (.v .nilFunc)]⟩ := rfl
theorem sz64 : tys.size 64 = some 1 := rfl
theorem ag64 : tys.agg 64 = some false := rfl
attribute [go_sem] ty64 sz64 ag64
theorem ty65 : tys.ty 65 = some ⟨.other, 1, 8, [.d (.v .nilFunc)]⟩ := rfl
theorem sz65 : tys.size 65 = some 1 := rfl
theorem ag65 : tys.agg 65 = some false := rfl
attribute [go_sem] ty65 sz65 ag65
theorem ty66 : tys.ty 66 = some ⟨.other, 1, 8, [.d (.v .nilFunc)]⟩ := rfl
theorem sz66 : tys.size 66 = some 1 := rfl
theorem ag66 : tys.agg 66 = some false := rfl
attribute [go_sem] ty66 sz66 ag66
theorem ty67 : tys.ty 67 = some ⟨.other, 1, 8, [.d (.v .nilFunc)]⟩ := rfl
theorem sz67 : tys.size 67 = some 1 := rfl
theorem ag67 : tys.agg 67 = some false := rfl
attribute [go_sem] ty67 sz67 ag67
theorem ty68 : tys.ty 68 = some ⟨.other, 1, 8, [.d (.v .nilFunc)]⟩ := rfl
theorem sz68 : tys.size 68 = some 1 := rfl
theorem ag68 : tys.agg 68 = some false := rfl
attribute [go_sem] ty68 sz68 ag68
theorem ty69 : tys.ty 69 = some ⟨.other, 1, 8, [.d (.v .nilFunc)]⟩ := rfl
theorem sz69 : tys.size 69 = some 1 := rfl
theorem ag69 : tys.agg 69 = some false := rfl
attribute [go_sem] ty69 sz69 ag69
theorem ty70 : tys.ty 70 = some ⟨.ptr, 1, 8, [.d (.v (.pointer none))]⟩ := rfl
theorem sz70 : tys.size 70 = some 1 := rfl
theorem ag70 : tys.agg 70 = some false := rfl
attribute [go_sem] ty70 sz70 ag70
theorem ty71 : tys.ty 71 = some ⟨.struct [(0, 41), (1, 26), (5, 3), (6, 3)], 7, 120, [.nils 4, .nils 2, .d (.v (.int .i64 0)), .nils 3, .nils 2, .d (.v (.int .i64 0)), .d (.v (.int .i64 0))]⟩ := rfl
theorem sz71 : tys.size 71 = some 7 := rfl
theorem ag71 : tys.agg 71 = some true := rfl
theorem fl71 : tys.fields 71 = some [(0, 41), (1, 26), (5, 3), (6, 3)] := rfl
attribute [go_sem] ty71 sz71 ag71 fl71
theorem ty72 : tys.ty 72 = some ⟨.struct [(0, 41), (1, 26), (5, 3), (6, 3)], 7, 120, [.nils 4, .nils 2, .d (.v (.int .i64 0)), .nils 3, .nils 2, .d (.v (.int .i64 0)), .d (.v (.int .i64 0))]⟩ := rfl
theorem sz72 : tys.size 72 = some 7 := rfl
theorem ag72 : tys.agg 72 = some true := rfl
theorem fl72 : tys.fields 72 = some [(0, 41), (1, 26), (5, 3), (6, 3)] := rfl
attribute [go_sem] ty72 sz72 ag72 fl72
theorem ty74 : tys.ty 74 = some ⟨.other, 1, 8, [.d (.v .nilFunc)]⟩ := rfl
theorem sz74 : tys.size 74 = some 1 := rfl
theorem ag74 : tys.agg 74 = some false := rfl
attribute [go_sem] ty74 sz74 ag74
theorem ty75 : tys.ty 75 = some ⟨.other, 1, 8, [.d (.v .nilFunc)]⟩ := rfl
theorem sz75 : tys.size 75 = some 1 := rfl
theorem ag75 : tys.agg 75 = some false := rfl
attribute [go_sem] ty75 sz75 ag75
theorem ty76 : tys.ty 76 = some ⟨.other, 1, 8, [.d (.v .nilFunc)]⟩ := rfl
theorem sz76 : tys.size 76 = some 1 := rfl
theorem ag76 : tys.agg 76 = some false := rfl
attribute [go_sem] ty76 sz76 ag76
theorem ty77 : tys.ty 77 = some ⟨.other, 1, 8, [.d (.v .nilFunc)]⟩ := rfl
theorem sz77 : tys.size 77 = some 1 := rfl
theorem ag77 : tys.agg 77 = some false := rfl
attribute [go_sem] ty77 sz77 ag77
theorem ty78 : tys.ty 78 = some ⟨.struct [(0, 9), (1, 3), (2, 48), (3, 3)], 4, 56, [.d (.v (.string ByteArray.empty)), .d (.v (.int .i64 0)), .nils 4, .d (.v (.int .i64 0))]⟩ := rfl
theorem sz78 : tys.size 78 = some 4 := rfl
theorem ag78 : tys.agg 78 = some true := rfl
theorem fl78 : tys.fields 78 = some [(0, 9), (1, 3), (2, 48), (3, 3)] := rfl
attribute [go_sem] ty78 sz78 ag78 fl78
theorem ty79 : tys.ty 79 = some ⟨.struct [(0, 9), (1, 3), (2, 48), (3, 3)], 4, 56, [.d (.v (.string ByteArray.empty)), .d (.v (.int .i64 0)), .nils 4, .d (.v (.int .i64 0))]⟩ := rfl
theorem sz79 : tys.size 79 = some 4 := rfl
theorem ag79 : tys.agg 79 = some true := rfl
theorem fl79 : tys.fields 79 = some [(0, 9), (1, 3), (2, 48), (3, 3)] := rfl
attribute [go_sem] ty79 sz79 ag79 fl79
theorem ty80 : tys.ty 80 = some ⟨.other, 1, 8, [.d (.v .nilFunc)]⟩ := rfl
theorem sz80 : tys.size 80 = some 1 := rfl
theorem ag80 : tys.agg 80 = some false := rfl
attribute [go_sem] ty80 sz80 ag80
theorem ty81 : tys.ty 81 = some ⟨.other, 1, 8, [.d (.v .nilFunc)]⟩ := rfl
theorem sz81 : tys.size 81 = some 1 := rfl
theorem ag81 : tys.agg 81 = some false := rfl
attribute [go_sem] ty81 sz81 ag81
theorem ty82 : tys.ty 82 = some ⟨.other, 1, 8, [.d (.v .nilFunc)]⟩ := rfl
theorem sz82 : tys.size 82 = some 1 := rfl
theorem ag82 : tys.agg 82 = some false := rfl
attribute [go_sem] ty82 sz82 ag82
theorem ty84 : tys.ty 84 = some ⟨.other, 1, 8, [.d (.v .nilFunc)]⟩ := rfl
theorem sz84 : tys.size 84 = some 1 := rfl
theorem ag84 : tys.agg 84 = some false := rfl
attribute [go_sem] ty84 sz84 ag84
theorem ty86 : tys.ty 86 = some ⟨.other, 1, 8, [.d (.v .nilFunc)]⟩ := rfl
theorem sz86 : tys.size 86 = some 1 := rfl
theorem ag86 : tys.agg 86 = some false := rfl
attribute [go_sem] ty86 sz86 ag86
theorem ty87 : tys.ty 87 = some ⟨.other, 1, 8, [.d (.v .nilFunc)]⟩ := rfl
theorem sz87 : tys.size 87 = some 1 := rfl
theorem ag87 : tys.agg 87 = some false := rfl
attribute [go_sem] ty87 sz87 ag87
theorem ty88 : tys.ty 88 = some ⟨.other, 1, 8, [.d (.v .nilFunc)]⟩ := rfl
theorem sz88 : tys.size 88 = some 1 := rfl
theorem ag88 : tys.agg 88 = some false := rfl
attribute [go_sem] ty88 sz88 ag88
theorem ty89 : tys.ty 89 = some ⟨.other, 1, 8, [.d (.v .nilFunc)]⟩ := rfl
theorem sz89 : tys.size 89 = some 1 := rfl
theorem ag89 : tys.agg 89 = some false := rfl
attribute [go_sem] ty89 sz89 ag89
theorem ty90 : tys.ty 90 = some ⟨.other, 1, 8, [.d (.v .nilFunc)]⟩ := rfl
theorem sz90 : tys.size 90 = some 1 := rfl
theorem ag90 : tys.agg 90 = some false := rfl
attribute [go_sem] ty90 sz90 ag90
theorem ty92 : tys.ty 92 = some ⟨.other, 1, 8, [.d (.v .nilFunc)]⟩ := rfl
theorem sz92 : tys.size 92 = some 1 := rfl
theorem ag92 : tys.agg 92 = some false := rfl
attribute [go_sem] ty92 sz92 ag92
theorem ty93 : tys.ty 93 = some ⟨.other, 1, 8, [.d (.v .nilFunc)]⟩ := rfl
theorem sz93 : tys.size 93 = some 1 := rfl
theorem ag93 : tys.agg 93 = some false := rfl
attribute [go_sem] ty93 sz93 ag93
theorem ty94 : tys.ty 94 = some ⟨.other, 1, 8, [.d (.v .nilFunc)]⟩ := rfl
theorem sz94 : tys.size 94 = some 1 := rfl
theorem ag94 : tys.agg 94 = some false := rfl
attribute [go_sem] ty94 sz94 ag94
theorem ty95 : tys.ty 95 = some ⟨.other, 1, 8, [.d (.v .nilFunc)]⟩ := rfl
theorem sz95 : tys.size 95 = some 1 := rfl
theorem ag95 : tys.agg 95 = some false := rfl
attribute [go_sem] ty95 sz95 ag95
theorem ty96 : tys.ty 96 = some ⟨.other, 1, 8, [.d (.v .nilFunc)]⟩ := rfl
theorem sz96 : tys.size 96 = some 1 := rfl
theorem ag96 : tys.agg 96 = some false := rfl
attribute [go_sem] ty96 sz96 ag96
theorem ty97 : tys.ty 97 = some ⟨.other, 1, 8, [.d (.v .nilFunc)]⟩ := rfl
theorem sz97 : tys.size 97 = some 1 := rfl
theorem ag97 : tys.agg 97 = some false := rfl
attribute [go_sem] ty97 sz97 ag97
theorem ty98 : tys.ty 98 = some ⟨.other, 1, 8, [.d (.v .nilFunc)]⟩ := rfl
theorem sz98 : tys.size 98 = some 1 := rfl
theorem ag98 : tys.agg 98 = some false := rfl
attribute [go_sem] ty98 sz98 ag98
theorem ty99 : tys.ty 99 = some ⟨.other, 1, 8, [.d (.v .nilFunc)]⟩ := rfl
theorem sz99 : tys.size 99 = some 1 := rfl
theorem ag99 : tys.agg 99 = some false := rfl
attribute [go_sem] ty99 sz99 ag99
theorem ty100 : tys.ty 100 = some ⟨.other, 1, 8, [.d (.v .nilFunc)]⟩ := rfl
theorem sz100 : tys.size 100 = some 1 := rfl
theorem ag100 : tys.agg 100 = some false := rfl
attribute [go_sem] ty100 sz100 ag100
theorem ty101 : tys.ty 101 = some ⟨.other, 1, 8, [.d (.v .nilFunc)]⟩ := rfl
theorem sz101 : tys.size 101 = some 1 := rfl
theorem ag101 : tys.agg 101 = some false := rfl
attribute [go_sem] ty101 sz101 ag101
theorem ty102 : tys.ty 102 = some ⟨.other, 1, 8, [.d (.v .nilFunc)]⟩ := rfl
theorem sz102 : tys.size 102 = some 1 := rfl
theorem ag102 : tys.agg 102 = some false := rfl
attribute [go_sem] ty102 sz102 ag102
theorem ty103 : tys.ty 103 = some ⟨.struct [(0, 3), (1, 3), (2, 3)], 3, 24, [.d (.v (.int .i64 0)), .d (.v (.int .i64 0)), .d (.v (.int .i64 0))]⟩ := rfl
theorem sz103 : tys.size 103 = some 3 := rfl
theorem ag103 : tys.agg 103 = some true := rfl
theorem fl103 : tys.fields 103 = some [(0, 3), (1, 3), (2, 3)] := rfl
attribute [go_sem] ty103 sz103 ag103 fl103
theorem ty104 : tys.ty 104 = some ⟨.struct [(0, 3), (1, 3), (2, 3)], 3, 24, [.d (.v (.int .i64 0)), .d (.v (.int .i64 0)), .d (.v (.int .i64 0))]⟩ := rfl
theorem sz104 : tys.size 104 = some 3 := rfl
theorem ag104 : tys.agg 104 = some true := rfl
theorem fl104 : tys.fields 104 = some [(0, 3), (1, 3), (2, 3)] := rfl
attribute [go_sem] ty104 sz104 ag104 fl104
theorem ty105 : tys.ty 105 = some ⟨.other, 1, 8, [.d (.v .nilFunc)]⟩ := rfl
theorem sz105 : tys.size 105 = some 1 := rfl
theorem ag105 : tys.agg 105 = some false := rfl
attribute [go_sem] ty105 sz105 ag105
theorem ty107 : tys.ty 107 = some ⟨.other, 1, 8, [.d (.v .nilFunc)]⟩ := rfl
theorem sz107 : tys.size 107 = some 1 := rfl
theorem ag107 : tys.agg 107 = some false := rfl
attribute [go_sem] ty107 sz107 ag107
theorem ty108 : tys.ty 108 = some ⟨.other, 1, 8, [.d (.v .nilFunc)]⟩ := rfl
theorem sz108 : tys.size 108 = some 1 := rfl
theorem ag108 : tys.agg 108 = some false := rfl
attribute [go_sem] ty108 sz108 ag108
theorem ty109 : tys.ty 109 = some ⟨.other, 1, 8, [.d (.v .nilFunc)]⟩ := rfl
theorem sz109 : tys.size 109 = some 1 := rfl
theorem ag109 : tys.agg 109 = some false := rfl
attribute [go_sem] ty109 sz109 ag109
theorem ty110 : tys.ty 110 = some ⟨.struct [(0, 9), (1, 3)], 2, 24, [.d (.v (.string ByteArray.empty)), .d (.v (.int .i64 0))]⟩ := rfl
theorem sz110 : tys.size 110 = some 2 := rfl
theorem ag110 : tys.agg 110 = some true := rfl
theorem fl110 : tys.fields 110 = some [(0, 9), (1, 3)] := rfl
attribute [go_sem] ty110 sz110 ag110 fl110
theorem ty111 : tys.ty 111 = some ⟨.struct [(0, 9), (1, 3)], 2, 24, [.d (.v (.string ByteArray.empty)), .d (.v (.int .i64 0))]⟩ := rfl
theorem sz111 : tys.size 111 = some 2 := rfl
theorem ag111 : tys.agg 111 = some true := rfl
theorem fl111 : tys.fields 111 = some [(0, 9), (1, 3)] := rfl
attribute [go_sem] ty111 sz111 ag111 fl111
theorem ty112 : tys.ty 112 = some ⟨.other, 1, 8, [.d (.v .nilFunc)]⟩ := rfl
theorem sz112 : tys.size 112 = some 1 := rfl
theorem ag112 : tys.agg 112 = some false := rfl
attribute [go_sem] ty112 sz112 ag112
theorem ty113 : tys.ty 113 = some ⟨.other, 1, 8, [.d (.v .nilFunc)]⟩ := rfl
theorem sz113 : tys.size 113 = some 1 := rfl
theorem ag113 : tys.agg 113 = some false := rfl
attribute [go_sem] ty113 sz113 ag113
theorem ty114 : tys.ty 114 = some ⟨.other, 1, 8, [.d (.v .nilFunc)]⟩ := rfl
theorem sz114 : tys.size 114 = some 1 := rfl
theorem ag114 : tys.agg 114 = some false := rfl
attribute [go_sem] ty114 sz114 ag114
theorem ty115 : tys.ty 115 = some ⟨.other, 1, 8, [.d (.v .nilFunc)]⟩ := rfl
theorem sz115 : tys.size 115 = some 1 := rfl
theorem ag115 : tys.agg 115 = some false := rfl
attribute [go_sem] ty115 sz115 ag115
theorem ty116 : tys.ty 116 = some ⟨.other, 1, 8, [.d (.v .nilFunc)]⟩ := rfl
theorem sz116 : tys.size 116 = some 1 := rfl
theorem ag116 : tys.agg 116 = some false := rfl
attribute [go_sem] ty116 sz116 ag116
theorem ty118 : tys.ty 118 = some ⟨.other, 1, 8, [.d (.v .nilFunc)]⟩ := rfl
theorem sz118 : tys.size 118 = some 1 := rfl
theorem ag118 : tys.agg 118 = some false := rfl
attribute [go_sem] ty118 sz118 ag118
theorem ty119 : tys.ty 119 = some ⟨.other, 1, 8, [.d (.v .nilFunc)]⟩ := rfl
theorem sz119 : tys.size 119 = some 1 := rfl
theorem ag119 : tys.agg 119 = some false := rfl
attribute [go_sem] ty119 sz119 ag119
theorem ty120 : tys.ty 120 = some ⟨.other, 1, 8, [.d (.v .nilFunc)]⟩ := rfl
theorem sz120 : tys.size 120 = some 1 := rfl
theorem ag120 : tys.agg 120 = some false := rfl
attribute [go_sem] ty120 sz120 ag120
theorem ty121 : tys.ty 121 = some ⟨.other, 1, 8, [.d (.v .nilFunc)]⟩ := rfl
theorem sz121 : tys.size 121 = some 1 := rfl
theorem ag121 : tys.agg 121 = some false := rfl
attribute [go_sem] ty121 sz121 ag121
theorem ty122 : tys.ty 122 = some ⟨.other, 1, 8, [.d (.v .nilFunc)]⟩ := rfl
theorem sz122 : tys.size 122 = some 1 := rfl
theorem ag122 : tys.agg 122 = some false := rfl
attribute [go_sem] ty122 sz122 ag122
theorem ty123 : tys.ty 123 = some ⟨.other, 1, 8, [.d (.v .nilFunc)]⟩ := rfl
theorem sz123 : tys.size 123 = some 1 := rfl
theorem ag123 : tys.agg 123 = some false := rfl
attribute [go_sem] ty123 sz123 ag123
theorem ty124 : tys.ty 124 = some ⟨.other, 1, 8, [.d (.v .nilFunc)]⟩ := rfl
theorem sz124 : tys.size 124 = some 1 := rfl
theorem ag124 : tys.agg 124 = some false := rfl
attribute [go_sem] ty124 sz124 ag124
theorem ty125 : tys.ty 125 = some ⟨.struct [(0, 48), (1, 3), (2, 33)], 3, 40, [.nils 4, .d (.v (.int .i64 0)), .d (.v (.int .i64 0))]⟩ := rfl
theorem sz125 : tys.size 125 = some 3 := rfl
theorem ag125 : tys.agg 125 = some true := rfl
theorem fl125 : tys.fields 125 = some [(0, 48), (1, 3), (2, 33)] := rfl
attribute [go_sem] ty125 sz125 ag125 fl125
theorem ty126 : tys.ty 126 = some ⟨.struct [(0, 48), (1, 3), (2, 33)], 3, 40, [.nils 4, .d (.v (.int .i64 0)), .d (.v (.int .i64 0))]⟩ := rfl
theorem sz126 : tys.size 126 = some 3 := rfl
theorem ag126 : tys.agg 126 = some true := rfl
theorem fl126 : tys.fields 126 = some [(0, 48), (1, 3), (2, 33)] := rfl
attribute [go_sem] ty126 sz126 ag126 fl126
theorem ty127 : tys.ty 127 = some ⟨.other, 1, 8, [.d (.v .nilFunc)]⟩ := rfl
theorem sz127 : tys.size 127 = some 1 := rfl
theorem ag127 : tys.agg 127 = some false := rfl
attribute [go_sem] ty127 sz127 ag127
theorem ty128 : tys.ty 128 = some ⟨.other, 1, 8, [.d (.v .nilFunc)]⟩ := rfl
theorem sz128 : tys.size 128 = some 1 := rfl
theorem ag128 : tys.agg 128 = some false := rfl
attribute [go_sem] ty128 sz128 ag128
theorem ty130 : tys.ty 130 = some ⟨.other, 1, 8, [.d (.v .nilFunc)]⟩ := rfl
theorem sz130 : tys.size 130 = some 1 := rfl
theorem ag130 : tys.agg 130 = some false := rfl
attribute [go_sem] ty130 sz130 ag130
theorem ty131 : tys.ty 131 = some ⟨.other, 1, 8, [.d (.v .nilFunc)]⟩ := rfl
theorem sz131 : tys.size 131 = some 1 := rfl
theorem ag131 : tys.agg 131 = some false := rfl
attribute [go_sem] ty131 sz131 ag131
theorem ty132 : tys.ty 132 = some ⟨.other, 1, 8, [.d (.v .nilFunc)]⟩ := rfl
theorem sz132 : tys.size 132 = some 1 := rfl
theorem ag132 : tys.agg 132 = some false := rfl
attribute [go_sem] ty132 sz132 ag132
theorem ty133 : tys.ty 133 = some ⟨.struct [(0, 3), (1, 48), (2, 3), (3, 9)], 4, 56, [.d (.v (.int .i64 0)), .nils 4, .d (.v (.int .i64 0)), .d (.v (.string ByteArray.empty))]⟩ := rfl
theorem sz133 : tys.size 133 = some 4 := rfl
theorem ag133 : tys.agg 133 = some true := rfl
theorem fl133 : tys.fields 133 = some [(0, 3), (1, 48), (2, 3), (3, 9)] := rfl
attribute [go_sem] ty133 sz133 ag133 fl133
theorem ty134 : tys.ty 134 = some ⟨.struct [(0, 3), (1, 48), (2, 3), (3, 9)], 4, 56, [.d (.v (.int .i64 0)), .nils 4, .d (.v (.int .i64 0)), .d (.v (.string ByteArray.empty))]⟩ := rfl
theorem sz134 : tys.size 134 = some 4 := rfl
theorem ag134 : tys.agg 134 = some true := rfl
theorem fl134 : tys.fields 134 = some [(0, 3), (1, 48), (2, 3), (3, 9)] := rfl
attribute [go_sem] ty134 sz134 ag134 fl134
theorem ty136 : tys.ty 136 = some ⟨.other, 1, 8, [.d (.v .nilFunc)]⟩ := rfl
theorem sz136 : tys.size 136 = some 1 := rfl
theorem ag136 : tys.agg 136 = some false := rfl
attribute [go_sem] ty136 sz136 ag136
theorem ty137 : tys.ty 137 = some ⟨.other, 1, 8, [.d (.v .nilFunc)]⟩ := rfl
theorem sz137 : tys.size 137 = some 1 := rfl
theorem ag137 : tys.agg 137 = some false := rfl
attribute [go_sem] ty137 sz137 ag137
theorem ty138 : tys.ty 138 = some ⟨.other, 1, 8, [.d (.v .nilFunc)]⟩ := rfl
theorem sz138 : tys.size 138 = some 1 := rfl
theorem ag138 : tys.agg 138 = some false := rfl
attribute [go_sem] ty138 sz138 ag138
theorem ty139 : tys.ty 139 = some ⟨.other, 1, 8, [.d (.v .nilFunc)]⟩ := rfl
theorem sz139 : tys.size 139 = some 1 := rfl
theorem ag139 : tys.agg 139 = some false := rfl
attribute [go_sem] ty139 sz139 ag139
theorem ty140 : tys.ty 140 = some ⟨.other, 1, 8, [.d (.v .nilFunc)]⟩ := rfl
theorem sz140 : tys.size 140 = some 1 := rfl
theorem ag140 : tys.agg 140 = some false := rfl
attribute [go_sem] ty140 sz140 ag140
theorem ty141 : tys.ty 141 = some ⟨.other, 1, 8, [.d (.v .nilFunc)]⟩ := rfl
theorem sz141 : tys.size 141 = some 1 := rfl
theorem ag141 : tys.agg 141 = some false := rfl
attribute [go_sem] ty141 sz141 ag141
theorem ty142 : tys.ty 142 = some ⟨.other, 1, 8, [.d (.v .nilFunc)]⟩ := rfl
theorem sz142 : tys.size 142 = some 1 := rfl
theorem ag142 : tys.agg 142 = some false := rfl
attribute [go_sem] ty142 sz142 ag142
theorem ty143 : tys.ty 143 = some ⟨.other, 1, 8, [.d (.v .nilFunc)]⟩ := rfl
theorem sz143 : tys.size 143 = some 1 := rfl
theorem ag143 : tys.agg 143 = some false := rfl
attribute [go_sem] ty143 sz143 ag143
theorem ty144 : tys.ty 144 = some ⟨.other, 1, 8, [.d (.v .nilFunc)]⟩ := rfl
theorem sz144 : tys.size 144 = some 1 := rfl
theorem ag144 : tys.agg 144 = some false := rfl
attribute [go_sem] ty144 sz144 ag144
theorem ty145 : tys.ty 145 = some ⟨.other, 1, 8, [.d (.v .nilFunc)]⟩ := rfl
theorem sz145 : tys.size 145 = some 1 := rfl
theorem ag145 : tys.agg 145 = some false := rfl
attribute [go_sem] ty145 sz145 ag145
theorem ty146 : tys.ty 146 = some ⟨.other, 1, 8, [.d (.v .nilFunc)]⟩ := rfl
theorem sz146 : tys.size 146 = some 1 := rfl
theorem ag146 : tys.agg 146 = some false := rfl
attribute [go_sem] ty146 sz146 ag146
theorem ty147 : tys.ty 147 = some ⟨.other, 1, 8, [.d (.v .nilFunc)]⟩ := rfl
theorem sz147 : tys.size 147 = some 1 := rfl
theorem ag147 : tys.agg 147 = some false := rfl
attribute [go_sem] ty147 sz147 ag147
theorem ty148 : tys.ty 148 = some ⟨.other, 1, 8, [.d (.v .nilFunc)]⟩ := rfl
theorem sz148 : tys.size 148 = some 1 := rfl
theorem ag148 : tys.agg 148 = some false := rfl
attribute [go_sem] ty148 sz148 ag148
theorem ty149 : tys.ty 149 = some ⟨.other, 1, 8, [.d (.v .nilFunc)]⟩ := rfl
theorem sz149 : tys.size 149 = some 1 := rfl
theorem ag149 : tys.agg 149 = some false := rfl
attribute [go_sem] ty149 sz149 ag149
theorem ty150 : tys.ty 150 = some ⟨.other, 1, 8, [.d (.v .nilFunc)]⟩ := rfl
theorem sz150 : tys.size 150 = some 1 := rfl
theorem ag150 : tys.agg 150 = some false := rfl
attribute [go_sem] ty150 sz150 ag150
theorem ty151 : tys.ty 151 = some ⟨.other, 1, 8, [.d (.v .nilFunc)]⟩ := rfl
theorem sz151 : tys.size 151 = some 1 := rfl
theorem ag151 : tys.agg 151 = some false := rfl
attribute [go_sem] ty151 sz151 ag151
theorem ty152 : tys.ty 152 = some ⟨.other, 1, 8, [.d (.v .nilFunc)]⟩ := rfl
theorem sz152 : tys.size 152 = some 1 := rfl
theorem ag152 : tys.agg 152 = some false := rfl
attribute [go_sem] ty152 sz152 ag152
theorem ty153 : tys.ty 153 = some ⟨(.int .u64), 1, 8, [.d (.v (.int .u64 0))]⟩ := rfl
theorem sz153 : tys.size 153 = some 1 := rfl
theorem ag153 : tys.agg 153 = some false := rfl
attribute [go_sem] ty153 sz153 ag153
theorem ty154 : tys.ty 154 = some ⟨.other, 1, 8, [.d (.v .nilFunc)]⟩ := rfl
theorem sz154 : tys.size 154 = some 1 := rfl
theorem ag154 : tys.agg 154 = some false := rfl
attribute [go_sem] ty154 sz154 ag154
theorem ty155 : tys.ty 155 = some ⟨.other, 1, 8, [.d (.v .nilFunc)]⟩ := rfl
theorem sz155 : tys.size 155 = some 1 := rfl
theorem ag155 : tys.agg 155 = some false := rfl
attribute [go_sem] ty155 sz155 ag155
theorem ty156 : tys.ty 156 = some ⟨.other, 1, 8, [.d (.v .nilFunc)]⟩ := rfl
theorem sz156 : tys.size 156 = some 1 := rfl
theorem ag156 : tys.agg 156 = some false := rfl
attribute [go_sem] ty156 sz156 ag156
theorem ty157 : tys.ty 157 = some ⟨.other, 1, 8, [.d (.v .nilFunc)]⟩ := rfl
theorem sz157 : tys.size 157 = some 1 := rfl
theorem ag157 : tys.agg 157 = some false := rfl
attribute [go_sem] ty157 sz157 ag157
theorem ty158 : tys.ty 158 = some ⟨.other, 1, 8, [.d (.v .nilFunc)]⟩ := rfl
theorem sz158 : tys.size 158 = some 1 := rfl
theorem ag158 : tys.agg 158 = some false := rfl
attribute [go_sem] ty158 sz158 ag158
theorem ty159 : tys.ty 159 = some ⟨.other, 1, 8, [.d (.v .nilFunc)]⟩ := rfl
theorem sz159 : tys.size 159 = some 1 := rfl
theorem ag159 : tys.agg 159 = some false := rfl
attribute [go_sem] ty159 sz159 ag159
theorem ty160 : tys.ty 160 = some ⟨.slice 9, 1, 24, [.nils 1]⟩ := rfl
theorem sz160 : tys.size 160 = some 1 := rfl
theorem ag160 : tys.agg 160 = some false := rfl
theorem el160 : tys.elem 160 = some 9 := rfl
attribute [go_sem] ty160 sz160 ag160 el160
theorem ty161 : tys.ty 161 = some ⟨.other, 1, 8, [.d (.v .nilFunc)]⟩ := rfl
theorem sz161 : tys.size 161 = some 1 := rfl
theorem ag161 : tys.agg 161 = some false := rfl
attribute [go_sem] ty161 sz161 ag161
theorem ty162 : tys.ty 162 = some ⟨.other, 1, 8, [.d (.v .nilFunc)]⟩ := rfl
theorem sz162 : tys.size 162 = some 1 := rfl
theorem ag162 : tys.agg 162 = some false := rfl
attribute [go_sem] ty162 sz162 ag162
theorem ty164 : tys.ty 164 = some ⟨.other, 1, 8, [.d (.v .nilFunc)]⟩ := rfl
theorem sz164 : tys.size 164 = some 1 := rfl
theorem ag164 : tys.agg 164 = some false := rfl
attribute [go_sem] ty164 sz164 ag164
theorem ty165 : tys.ty 165 = some ⟨.other, 1, 8, [.d (.v .nilFunc)]⟩ := rfl
theorem sz165 : tys.size 165 = some 1 := rfl
theorem ag165 : tys.agg 165 = some false := rfl
attribute [go_sem] ty165 sz165 ag165
theorem ty166 : tys.ty 166 = some ⟨.other, 1, 8, [.d (.v .nilFunc)]⟩ := rfl
theorem sz166 : tys.size 166 = some 1 := rfl
theorem ag166 : tys.agg 166 = some false := rfl
attribute [go_sem] ty166 sz166 ag166
theorem ty167 : tys.ty 167 = some ⟨.other, 1, 8, [.d (.v .nilFunc)]⟩ := rfl
theorem sz167 : tys.size 167 = some 1 := rfl
theorem ag167 : tys.agg 167 = some false := rfl
attribute [go_sem] ty167 sz167 ag167
theorem ty168 : tys.ty 168 = some ⟨.other, 1, 8, [.d (.v .nilFunc)]⟩ := rfl
theorem sz168 : tys.size 168 = some 1 := rfl
theorem ag168 : tys.agg 168 = some false := rfl
attribute [go_sem] ty168 sz168 ag168
theorem ty169 : tys.ty 169 = some ⟨.other, 1, 8, [.d (.v .nilFunc)]⟩ := rfl
theorem sz169 : tys.size 169 = some 1 := rfl
theorem ag169 : tys.agg 169 = some false := rfl
attribute [go_sem] ty169 sz169 ag169
theorem ty170 : tys.ty 170 = some ⟨.slice 28, 1, 24, [.nils 1]⟩ := rfl
theorem sz170 : tys.size 170 = some 1 := rfl
theorem ag170 : tys.agg 170 = some false := rfl
theorem el170 : tys.elem 170 = some 28 := rfl
attribute [go_sem] ty170 sz170 ag170 el170
theorem ty171 : tys.ty 171 = some ⟨.other, 1, 8, [.d (.v .nilFunc)]⟩ := rfl
theorem sz171 : tys.size 171 = some 1 := rfl
theorem ag171 : tys.agg 171 = some false := rfl
attribute [go_sem] ty171 sz171 ag171
theorem ty172 : tys.ty 172 = some ⟨.other, 1, 8, [.d (.v .nilFunc)]⟩ := rfl
theorem sz172 : tys.size 172 = some 1 := rfl
theorem ag172 : tys.agg 172 = some false := rfl
attribute [go_sem] ty172 sz172 ag172
theorem ty173 : tys.ty 173 = some ⟨.other, 1, 8, [.d (.v .nilFunc)]⟩ := rfl
theorem sz173 : tys.size 173 = some 1 := rfl
theorem ag173 : tys.agg 173 = some false := rfl
attribute [go_sem] ty173 sz173 ag173
theorem ty174 : tys.ty 174 = some ⟨.other, 1, 8, [.d (.v .nilFunc)]⟩ := rfl
theorem sz174 : tys.size 174 = some 1 := rfl
theorem ag174 : tys.agg 174 = some false := rfl
attribute [go_sem] ty174 sz174 ag174
theorem ty175 : tys.ty 175 = some ⟨.other, 1, 8, [.d (.v .nilFunc)]⟩ := rfl
theorem sz175 : tys.size 175 = some 1 := rfl
theorem ag175 : tys.agg 175 = some false := rfl
attribute [go_sem] ty175 sz175 ag175
theorem ty176 : tys.ty 176 = some ⟨.other, 1, 8, [.d (.v .nilFunc)]⟩ := rfl
theorem sz176 : tys.size 176 = some 1 := rfl
theorem ag176 : tys.agg 176 = some false := rfl
attribute [go_sem] ty176 sz176 ag176
theorem ty177 : tys.ty 177 = some ⟨.other, 1, 8, [.d (.v .nilFunc)]⟩ := rfl
theorem sz177 : tys.size 177 = some 1 := rfl
theorem ag177 : tys.agg 177 = some false := rfl
attribute [go_sem] ty177 sz177 ag177
theorem ty178 : tys.ty 178 = some ⟨(.int .i64), 1, 8, [.d (.v (.int .i64 0))]⟩ := rfl
theorem sz178 : tys.size 178 = some 1 := rfl
theorem ag178 : tys.agg 178 = some false := rfl
attribute [go_sem] ty178 sz178 ag178
theorem ty180 : tys.ty 180 = some ⟨.other, 1, 8, [.d (.v .nilFunc)]⟩ := rfl
theorem sz180 : tys.size 180 = some 1 := rfl
theorem ag180 : tys.agg 180 = some false := rfl
attribute [go_sem] ty180 sz180 ag180
theorem ty181 : tys.ty 181 = some ⟨.other, 1, 8, [.d (.v .nilFunc)]⟩ := rfl
theorem sz181 : tys.size 181 = some 1 := rfl
theorem ag181 : tys.agg 181 = some false := rfl
attribute [go_sem] ty181 sz181 ag181
theorem ty182 : tys.ty 182 = some ⟨.other, 1, 8, [.d (.v .nilFunc)]⟩ := rfl
theorem sz182 : tys.size 182 = some 1 := rfl
theorem ag182 : tys.agg 182 = some false := rfl
attribute [go_sem] ty182 sz182 ag182
theorem ty183 : tys.ty 183 = some ⟨.other, 1, 8, [.d (.v .nilFunc)]⟩ := rfl
theorem sz183 : tys.size 183 = some 1 := rfl
theorem ag183 : tys.agg 183 = some false := rfl
attribute [go_sem] ty183 sz183 ag183
theorem ty184 : tys.ty 184 = some ⟨.other, 1, 8, [.d (.v .nilFunc)]⟩ := rfl
theorem sz184 : tys.size 184 = some 1 := rfl
theorem ag184 : tys.agg 184 = some false := rfl
attribute [go_sem] ty184 sz184 ag184
theorem ty185 : tys.ty 185 = some ⟨.other, 1, 8, [.d (.v .nilFunc)]⟩ := rfl
theorem sz185 : tys.size 185 = some 1 := rfl
theorem ag185 : tys.agg 185 = some false := rfl
attribute [go_sem] ty185 sz185 ag185
theorem ty186 : tys.ty 186 = some ⟨(.int .u32), 1, 4, [.d (.v (.int .u32 0))]⟩ := rfl
theorem sz186 : tys.size 186 = some 1 := rfl
theorem ag186 : tys.agg 186 = some false := rfl
attribute [go_sem] ty186 sz186 ag186
theorem ty187 : tys.ty 187 = some ⟨.other, 1, 8, [.d (.v .nilFunc)]⟩ := rfl
theorem sz187 : tys.size 187 = some 1 := rfl
theorem ag187 : tys.agg 187 = some false := rfl
attribute [go_sem] ty187 sz187 ag187
theorem ty188 : tys.ty 188 = some ⟨(.int .u64), 1, 8, [.d (.v (.int .u64 0))]⟩ := rfl
theorem sz188 : tys.size 188 = some 1 := rfl
theorem ag188 : tys.agg 188 = some false := rfl
attribute [go_sem] ty188 sz188 ag188
theorem ty189 : tys.ty 189 = some ⟨.other, 1, 8, [.d (.v .nilFunc)]⟩ := rfl
theorem sz189 : tys.size 189 = some 1 := rfl
theorem ag189 : tys.agg 189 = some false := rfl
attribute [go_sem] ty189 sz189 ag189
theorem ty190 : tys.ty 190 = some ⟨.other, 1, 8, [.d (.v .nilFunc)]⟩ := rfl
theorem sz190 : tys.size 190 = some 1 := rfl
theorem ag190 : tys.agg 190 = some false := rfl
attribute [go_sem] ty190 sz190 ag190
theorem ty191 : tys.ty 191 = some ⟨.other, 1, 8, [.d (.v .nilFunc)]⟩ := rfl
theorem sz191 : tys.size 191 = some 1 := rfl
theorem ag191 : tys.agg 191 = some false := rfl
attribute [go_sem] ty191 sz191 ag191
theorem ty192 : tys.ty 192 = some ⟨.other, 1, 8, [.d (.v .nilFunc)]⟩ := rfl
theorem sz192 : tys.size 192 = some 1 := rfl
theorem ag192 : tys.agg 192 = some false := rfl
attribute [go_sem] ty192 sz192 ag192
theorem ty193 : tys.ty 193 = some ⟨.other, 1, 8, [.d (.v .nilFunc)]⟩ := rfl
theorem sz193 : tys.size 193 = some 1 := rfl
theorem ag193 : tys.agg 193 = some false := rfl
attribute [go_sem] ty193 sz193 ag193
theorem ty194 : tys.ty 194 = some ⟨.other, 1, 8, [.d (.v .nilFunc)]⟩ := rfl
theorem sz194 : tys.size 194 = some 1 := rfl
theorem ag194 : tys.agg 194 = some false := rfl
attribute [go_sem] ty194 sz194 ag194
theorem ty195 : tys.ty 195 = some ⟨.other, 1, 8, [.d (.v .nilFunc)]⟩ := rfl
theorem sz195 : tys.size 195 = some 1 := rfl
theorem ag195 : tys.agg 195 = some false := rfl
attribute [go_sem] ty195 sz195 ag195
theorem ty196 : tys.ty 196 = some ⟨.other, 1, 8, [.d (.v .nilFunc)]⟩ := rfl
theorem sz196 : tys.size 196 = some 1 := rfl
theorem ag196 : tys.agg 196 = some false := rfl
attribute [go_sem] ty196 sz196 ag196
theorem ty197 : tys.ty 197 = some ⟨.other, 1, 8, [.d (.v .nilFunc)]⟩ := rfl
theorem sz197 : tys.size 197 = some 1 := rfl
theorem ag197 : tys.agg 197 = some false := rfl
attribute [go_sem] ty197 sz197 ag197
theorem ty198 : tys.ty 198 = some ⟨.other, 1, 8, [.d (.v .nilFunc)]⟩ := rfl
theorem sz198 : tys.size 198 = some 1 := rfl
theorem ag198 : tys.agg 198 = some false := rfl
attribute [go_sem] ty198 sz198 ag198
theorem ty199 : tys.ty 199 = some ⟨(.int .u64), 1, 8, [.d (.v (.int .u64 0))]⟩ := rfl
theorem sz199 : tys.size 199 = some 1 := rfl
theorem ag199 : tys.agg 199 = some false := rfl
attribute [go_sem] ty199 sz199 ag199
theorem ty200 : tys.ty 200 = some ⟨.other, 1, 8, [.d (.v .nilFunc)]⟩ := rfl
theorem sz200 : tys.size 200 = some 1 := rfl
theorem ag200 : tys.agg 200 = some false := rfl
attribute [go_sem] ty200 sz200 ag200
theorem ty201 : tys.ty 201 = some ⟨.other, 1, 8, [.d (.v .nilFunc)]⟩ := rfl
theorem sz201 : tys.size 201 = some 1 := rfl
theorem ag201 : tys.agg 201 = some false := rfl
attribute [go_sem] ty201 sz201 ag201
theorem ty202 : tys.ty 202 = some ⟨.other, 1, 8, [.d (.v .nilFunc)]⟩ := rfl
theorem sz202 : tys.size 202 = some 1 := rfl
theorem ag202 : tys.agg 202 = some false := rfl
attribute [go_sem] ty202 sz202 ag202
theorem ty203 : tys.ty 203 = some ⟨.ptr, 1, 8, [.d (.v (.pointer none))]⟩ := rfl
theorem sz203 : tys.size 203 = some 1 := rfl
theorem ag203 : tys.agg 203 = some false := rfl
attribute [go_sem] ty203 sz203 ag203
theorem ty204 : tys.ty 204 = some ⟨.other, 1, 8, [.d (.v .nilFunc)]⟩ := rfl
theorem sz204 : tys.size 204 = some 1 := rfl
theorem ag204 : tys.agg 204 = some false := rfl
attribute [go_sem] ty204 sz204 ag204
theorem ty205 : tys.ty 205 = some ⟨.other, 1, 8, [.d (.v .nilFunc)]⟩ := rfl
theorem sz205 : tys.size 205 = some 1 := rfl
theorem ag205 : tys.agg 205 = some false := rfl
attribute [go_sem] ty205 sz205 ag205
theorem ty206 : tys.ty 206 = some ⟨.other, 1, 8, [.d (.v .nilFunc)]⟩ := rfl
theorem sz206 : tys.size 206 = some 1 := rfl
theorem ag206 : tys.agg 206 = some false := rfl
attribute [go_sem] ty206 sz206 ag206
theorem ty207 : tys.ty 207 = some ⟨.other, 1, 8, [.d (.v .nilFunc)]⟩ := rfl
theorem sz207 : tys.size 207 = some 1 := rfl
theorem ag207 : tys.agg 207 = some false := rfl
attribute [go_sem] ty207 sz207 ag207
theorem ty209 : tys.ty 209 = some ⟨.other, 1, 8, [.d (.v .nilFunc)]⟩ := rfl
theorem sz209 : tys.size 209 = some 1 := rfl
theorem ag209 : tys.agg 209 = some false := rfl
attribute [go_sem] ty209 sz209 ag209
theorem ty211 : tys.ty 211 = some ⟨.other, 1, 8, [.d (.v .nilFunc)]⟩ := rfl
theorem sz211 : tys.size 211 = some 1 := rfl
theorem ag211 : tys.agg 211 = some false := rfl
attribute [go_sem] ty211 sz211 ag211
theorem ty212 : tys.ty 212 = some ⟨.ptr, 1, 8, [.d (.v (.pointer none))]⟩ := rfl
theorem sz212 : tys.size 212 = some 1 := rfl
theorem ag212 : tys.agg 212 = some false := rfl
attribute [go_sem] ty212 sz212 ag212
theorem ty214 : tys.ty 214 = some ⟨.other, 1, 8, [.d (.v .nilFunc)]⟩ := rfl
theorem sz214 : tys.size 214 = some 1 := rfl
theorem ag214 : tys.agg 214 = some false := rfl
attribute [go_sem] ty214 sz214 ag214
theorem ty216 : tys.ty 216 = some ⟨.struct [(0, 5), (1, 5)], 2, 2, [.d (.v (.int .u8 0)), .d (.v (.int .u8 0))]⟩ := rfl
theorem sz216 : tys.size 216 = some 2 := rfl
theorem ag216 : tys.agg 216 = some true := rfl
theorem fl216 : tys.fields 216 = some [(0, 5), (1, 5)] := rfl
attribute [go_sem] ty216 sz216 ag216 fl216
theorem ty217 : tys.ty 217 = some ⟨.struct [(0, 5), (1, 5)], 2, 2, [.d (.v (.int .u8 0)), .d (.v (.int .u8 0))]⟩ := rfl
theorem sz217 : tys.size 217 = some 2 := rfl
theorem ag217 : tys.agg 217 = some true := rfl
theorem fl217 : tys.fields 217 = some [(0, 5), (1, 5)] := rfl
attribute [go_sem] ty217 sz217 ag217 fl217
theorem ty219 : tys.ty 219 = some ⟨.other, 1, 8, [.d (.v .nilFunc)]⟩ := rfl
theorem sz219 : tys.size 219 = some 1 := rfl
theorem ag219 : tys.agg 219 = some false := rfl
attribute [go_sem] ty219 sz219 ag219
theorem ty225 : tys.ty 225 = some ⟨.other, 1, 8, [.d (.v .nilFunc)]⟩ := rfl
theorem sz225 : tys.size 225 = some 1 := rfl
theorem ag225 : tys.agg 225 = some false := rfl
attribute [go_sem] ty225 sz225 ag225
theorem ty228 : tys.ty 228 = some ⟨.other, 1, 8, [.d (.v .nilFunc)]⟩ := rfl
theorem sz228 : tys.size 228 = some 1 := rfl
theorem ag228 : tys.agg 228 = some false := rfl
attribute [go_sem] ty228 sz228 ag228
theorem ty229 : tys.ty 229 = some ⟨.ptr, 1, 8, [.d (.v (.pointer none))]⟩ := rfl
theorem sz229 : tys.size 229 = some 1 := rfl
theorem ag229 : tys.agg 229 = some false := rfl
attribute [go_sem] ty229 sz229 ag229
theorem ex0 : tys.ext 0 = none := rfl
theorem ex1 : tys.ext 1 = none := rfl
theorem ex2 : tys.ext 2 = none := rfl
theorem ex3 : tys.ext 3 = none := rfl
theorem ex4 : tys.ext 4 = none := rfl
theorem ex5 : tys.ext 5 = none := rfl
theorem ex6 : tys.ext 6 = none := rfl
theorem ex7 : tys.ext 7 = none := rfl
theorem ex8 : tys.ext 8 = none := rfl
theorem ex9 : tys.ext 9 = none := rfl
theorem ex10 : tys.ext 10 = none := rfl
theorem ex11 : tys.ext 11 = none := rfl
theorem ex12 : tys.ext 12 = none := rfl
theorem ex13 : tys.ext 13 = none := rfl
theorem ex14 : tys.ext 14 = none := rfl
theorem ex15 : tys.ext 15 = none := rfl
theorem ex16 : tys.ext 16 = none := rfl
theorem ex17 : tys.ext 17 = none := rfl
theorem ex18 : tys.ext 18 = none := rfl
theorem ex19 : tys.ext 19 = none := rfl
theorem ex20 : tys.ext 20 = none := rfl
theorem ex21 : tys.ext 21 = none := rfl
theorem ex22 : tys.ext 22 = none := rfl
theorem ex23 : tys.ext 23 = none := rfl
theorem ex24 : tys.ext 24 = none := rfl
theorem ex25 : tys.ext 25 = none := rfl
theorem ex26 : tys.ext 26 = none := rfl
theorem ex27 : tys.ext 27 = none := rfl
theorem ex28 : tys.ext 28 = none := rfl
theorem ex29 : tys.ext 29 = none := rfl
theorem ex30 : tys.ext 30 = none := rfl
theorem ex31 : tys.ext 31 = none := rfl
theorem ex32 : tys.ext 32 = none := rfl
theorem ex33 : tys.ext 33 = none := rfl
theorem ex34 : tys.ext 34 = none := rfl
theorem ex35 : tys.ext 35 = none := rfl
theorem ex36 : tys.ext 36 = none := rfl
theorem ex37 : tys.ext 37 = none := rfl
theorem ex38 : tys.ext 38 = none := rfl
theorem ex39 : tys.ext 39 = none := rfl
theorem ex40 : tys.ext 40 = none := rfl
theorem ex41 : tys.ext 41 = none := rfl
theorem ex42 : tys.ext 42 = none := rfl
theorem ex43 : tys.ext 43 = none := rfl
theorem ex44 : tys.ext 44 = none := rfl
theorem ex45 : tys.ext 45 = none := rfl
theorem ex46 : tys.ext 46 = none := rfl
theorem ex47 : tys.ext 47 = none := rfl
theorem ex48 : tys.ext 48 = none := rfl
theorem ex49 : tys.ext 49 = none := rfl
theorem ex50 : tys.ext 50 = none := rfl
theorem ex51 : tys.ext 51 = none := rfl
theorem ex52 : tys.ext 52 = none := rfl
theorem ex53 : tys.ext 53 = none := rfl
theorem ex54 : tys.ext 54 = none := rfl
theorem ex55 : tys.ext 55 = none := rfl
theorem ex56 : tys.ext 56 = none := rfl
theorem ex57 : tys.ext 57 = none := rfl
theorem ex58 : tys.ext 58 = none := rfl
theorem ex59 : tys.ext 59 = none := rfl
theorem ex60 : tys.ext 60 = none := rfl
theorem ex61 : tys.ext 61 = none := rfl
theorem ex62 : tys.ext 62 = none := rfl
theorem ex63 : tys.ext 63 = none := rfl
theorem ex64 : tys.ext 64 = none := rfl
theorem ex65 : tys.ext 65 = none := rfl
theorem ex66 : tys.ext 66 = none := rfl
theorem ex67 : tys.ext 67 = none := rfl
theorem ex68 : tys.ext 68 = none := rfl
theorem ex69 : tys.ext 69 = none := rfl
theorem ex70 : tys.ext 70 = none := rfl
theorem ex71 : tys.ext 71 = none := rfl
theorem ex72 : tys.ext 72 = none := rfl
theorem ex73 : tys.ext 73 = none := rfl
theorem ex74 : tys.ext 74 = none := rfl
theorem ex75 : tys.ext 75 = none := rfl
theorem ex76 : tys.ext 76 = none := rfl
theorem ex77 : tys.ext 77 = none := rfl
theorem ex78 : tys.ext 78 = none := rfl
theorem ex79 : tys.ext 79 = none := rfl
theorem ex80 : tys.ext 80 = none := rfl
theorem ex81 : tys.ext 81 = none := rfl
theorem ex82 : tys.ext 82 = none := rfl
theorem ex83 : tys.ext 83 = none := rfl
theorem ex84 : tys.ext 84 = none := rfl
theorem ex85 : tys.ext 85 = none := rfl
theorem ex86 : tys.ext 86 = none := rfl
theorem ex87 : tys.ext 87 = none := rfl
theorem ex88 : tys.ext 88 = none := rfl
theorem ex89 : tys.ext 89 = none := rfl
theorem ex90 : tys.ext 90 = none := rfl
theorem ex91 : tys.ext 91 = none := rfl
theorem ex92 : tys.ext 92 = none := rfl
theorem ex93 : tys.ext 93 = none := rfl
theorem ex94 : tys.ext 94 = none := rfl
theorem ex95 : tys.ext 95 = none := rfl
theorem ex96 : tys.ext 96 = none := rfl
theorem ex97 : tys.ext 97 = none := rfl
theorem ex98 : tys.ext 98 = none := rfl
theorem ex99 : tys.ext 99 = none := rfl
theorem ex100 : tys.ext 100 = none := rfl
theorem ex101 : tys.ext 101 = none := rfl
theorem ex102 : tys.ext 102 = none := rfl
theorem ex103 : tys.ext 103 = none := rfl
theorem ex104 : tys.ext 104 = none := rfl
theorem ex105 : tys.ext 105 = none := rfl
theorem ex106 : tys.ext 106 = none := rfl
theorem ex107 : tys.ext 107 = none := rfl
theorem ex108 : tys.ext 108 = none := rfl
theorem ex109 : tys.ext 109 = none := rfl
theorem ex110 : tys.ext 110 = none := rfl
theorem ex111 : tys.ext 111 = none := rfl
theorem ex112 : tys.ext 112 = none := rfl
theorem ex113 : tys.ext 113 = none := rfl
theorem ex114 : tys.ext 114 = none := rfl
theorem ex115 : tys.ext 115 = none := rfl
theorem ex116 : tys.ext 116 = none := rfl
theorem ex117 : tys.ext 117 = none := rfl
theorem ex118 : tys.ext 118 = none := rfl
theorem ex119 : tys.ext 119 = none := rfl
theorem ex120 : tys.ext 120 = none := rfl
theorem ex121 : tys.ext 121 = none := rfl
theorem ex122 : tys.ext 122 = none := rfl
theorem ex123 : tys.ext 123 = none := rfl
theorem ex124 : tys.ext 124 = none := rfl
theorem ex125 : tys.ext 125 = none := rfl
theorem ex126 : tys.ext 126 = none := rfl
theorem ex127 : tys.ext 127 = none := rfl
theorem ex128 : tys.ext 128 = none := rfl
theorem ex129 : tys.ext 129 = none := rfl
theorem ex130 : tys.ext 130 = none := rfl
theorem ex131 : tys.ext 131 = none := rfl
theorem ex132 : tys.ext 132 = none := rfl
theorem ex133 : tys.ext 133 = none := rfl
theorem ex134 : tys.ext 134 = none := rfl
theorem ex135 : tys.ext 135 = none := rfl
theorem ex136 : tys.ext 136 = none := rfl
theorem ex137 : tys.ext 137 = none := rfl
theorem ex138 : tys.ext 138 = none := rfl
theorem ex139 : tys.ext 139 = none := rfl
theorem ex140 : tys.ext 140 = none := rfl
theorem ex141 : tys.ext 141 = none := rfl
theorem ex142 : tys.ext 142 = some (.overlaps 39 4) := rfl
theorem ex143 : tys.ext 143 = none := rfl
theorem ex144 : tys.ext 144 = none := rfl
theorem ex145 : tys.ext 145 = none := rfl
theorem ex146 : tys.ext 146 = none := rfl
theorem ex147 : tys.ext 147 = none := rfl
theorem ex148 : tys.ext 148 = none := rfl
theorem ex149 : tys.ext 149 = none := rfl
theorem ex150 : tys.ext 150 = none := rfl
theorem ex151 : tys.ext 151 = none := rfl
theorem ex152 : tys.ext 152 = none := rfl
theorem ex153 : tys.ext 153 = none := rfl
theorem ex154 : tys.ext 154 = none := rfl
theorem ex155 : tys.ext 155 = none := rfl
theorem ex156 : tys.ext 156 = none := rfl
theorem ex157 : tys.ext 157 = none := rfl
theorem ex158 : tys.ext 158 = none := rfl
theorem ex159 : tys.ext 159 = none := rfl
theorem ex160 : tys.ext 160 = none := rfl
theorem ex161 : tys.ext 161 = none := rfl
theorem ex162 : tys.ext 162 = none := rfl
theorem ex163 : tys.ext 163 = none := rfl
theorem ex164 : tys.ext 164 = none := rfl
theorem ex165 : tys.ext 165 = none := rfl
theorem ex166 : tys.ext 166 = none := rfl
theorem ex167 : tys.ext 167 = none := rfl
theorem ex168 : tys.ext 168 = none := rfl
theorem ex169 : tys.ext 169 = none := rfl
theorem ex170 : tys.ext 170 = none := rfl
theorem ex171 : tys.ext 171 = none := rfl
theorem ex172 : tys.ext 172 = none := rfl
theorem ex173 : tys.ext 173 = none := rfl
theorem ex174 : tys.ext 174 = none := rfl
theorem ex175 : tys.ext 175 = none := rfl
theorem ex176 : tys.ext 176 = none := rfl
theorem ex177 : tys.ext 177 = none := rfl
theorem ex178 : tys.ext 178 = none := rfl
theorem ex179 : tys.ext 179 = none := rfl
theorem ex180 : tys.ext 180 = none := rfl
theorem ex181 : tys.ext 181 = some (.countString) := rfl
theorem ex182 : tys.ext 182 = none := rfl
theorem ex183 : tys.ext 183 = none := rfl
theorem ex184 : tys.ext 184 = none := rfl
theorem ex185 : tys.ext 185 = none := rfl
theorem ex186 : tys.ext 186 = none := rfl
theorem ex187 : tys.ext 187 = none := rfl
theorem ex188 : tys.ext 188 = none := rfl
theorem ex189 : tys.ext 189 = none := rfl
theorem ex190 : tys.ext 190 = some (.cmpString) := rfl
theorem ex191 : tys.ext 191 = none := rfl
theorem ex192 : tys.ext 192 = none := rfl
theorem ex193 : tys.ext 193 = none := rfl
theorem ex194 : tys.ext 194 = none := rfl
theorem ex195 : tys.ext 195 = none := rfl
theorem ex196 : tys.ext 196 = none := rfl
theorem ex197 : tys.ext 197 = none := rfl
theorem ex198 : tys.ext 198 = none := rfl
theorem ex199 : tys.ext 199 = none := rfl
theorem ex200 : tys.ext 200 = none := rfl
theorem ex201 : tys.ext 201 = none := rfl
theorem ex202 : tys.ext 202 = none := rfl
theorem ex203 : tys.ext 203 = none := rfl
theorem ex204 : tys.ext 204 = none := rfl
theorem ex205 : tys.ext 205 = none := rfl
theorem ex206 : tys.ext 206 = some (.indexByteString) := rfl
theorem ex207 : tys.ext 207 = none := rfl
theorem ex208 : tys.ext 208 = none := rfl
theorem ex209 : tys.ext 209 = none := rfl
theorem ex210 : tys.ext 210 = none := rfl
theorem ex211 : tys.ext 211 = none := rfl
theorem ex212 : tys.ext 212 = none := rfl
theorem ex213 : tys.ext 213 = none := rfl
theorem ex214 : tys.ext 214 = none := rfl
theorem ex215 : tys.ext 215 = none := rfl
theorem ex216 : tys.ext 216 = none := rfl
theorem ex217 : tys.ext 217 = none := rfl
theorem ex218 : tys.ext 218 = none := rfl
theorem ex219 : tys.ext 219 = none := rfl
theorem ex220 : tys.ext 220 = none := rfl
theorem ex221 : tys.ext 221 = none := rfl
theorem ex222 : tys.ext 222 = none := rfl
theorem ex223 : tys.ext 223 = none := rfl
theorem ex224 : tys.ext 224 = none := rfl
theorem ex225 : tys.ext 225 = none := rfl
theorem ex226 : tys.ext 226 = none := rfl
theorem ex227 : tys.ext 227 = none := rfl
theorem ex228 : tys.ext 228 = none := rfl
theorem ex229 : tys.ext 229 = none := rfl
theorem ex230 : tys.ext 230 = none := rfl
theorem ex231 : tys.ext 231 = none := rfl
theorem ex232 : tys.ext 232 = none := rfl
attribute [go_sem] ex0 ex1 ex2 ex3 ex4 ex5 ex6 ex7 ex8 ex9 ex10 ex11 ex12 ex13 ex14 ex15 ex16 ex17 ex18 ex19 ex20 ex21 ex22 ex23 ex24 ex25 ex26 ex27 ex28 ex29 ex30 ex31 ex32 ex33 ex34 ex35 ex36 ex37 ex38 ex39 ex40 ex41 ex42 ex43 ex44 ex45 ex46 ex47 ex48 ex49 ex50 ex51 ex52 ex53 ex54 ex55 ex56 ex57 ex58 ex59 ex60 ex61 ex62 ex63 ex64 ex65 ex66 ex67 ex68 ex69 ex70 ex71 ex72 ex73 ex74 ex75 ex76 ex77 ex78 ex79 ex80 ex81 ex82 ex83 ex84 ex85 ex86 ex87 ex88 ex89 ex90 ex91 ex92 ex93 ex94 ex95 ex96 ex97 ex98 ex99 ex100 ex101 ex102 ex103 ex104 ex105 ex106 ex107 ex108 ex109 ex110 ex111 ex112 ex113 ex114 ex115 ex116 ex117 ex118 ex119 ex120 ex121 ex122 ex123 ex124 ex125 ex126 ex127 ex128 ex129 ex130 ex131 ex132 ex133 ex134 ex135 ex136 ex137 ex138 ex139 ex140 ex141 ex142 ex143 ex144 ex145 ex146 ex147 ex148 ex149 ex150 ex151 ex152 ex153 ex154 ex155 ex156 ex157 ex158 ex159 ex160 ex161 ex162 ex163 ex164 ex165 ex166 ex167 ex168 ex169 ex170 ex171 ex172 ex173 ex174 ex175 ex176 ex177 ex178 ex179 ex180 ex181 ex182 ex183 ex184 ex185 ex186 ex187 ex188 ex189 ex190 ex191 ex192 ex193 ex194 ex195 ex196 ex197 ex198 ex199 ex200 ex201 ex202 ex203 ex204 ex205 ex206 ex207 ex208 ex209 ex210 ex211 ex212 ex213 ex214 ex215 ex216 ex217 ex218 ex219 ex220 ex221 ex222 ex223 ex224 ex225 ex226 ex227 ex228 ex229 ex230 ex231 ex232
end Go.Proofs.YtolpobgfcokoaaaGreatDoor
