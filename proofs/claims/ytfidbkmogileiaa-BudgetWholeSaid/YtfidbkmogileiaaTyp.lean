/- The types of this seat's program, as the machine reads them; printed by wip/tools/gentyp.py. -/
import Derived.Test.YtfidbkmogileiaaEngY
import Derived.Test.YtfidbkmogileiaaRows
namespace Go.Proofs.Ytfidbkmogileiaa
open Go.Eng
set_option maxRecDepth 20000
def tyTable : List (TypeId × TI) := [
  (1, ⟨.other, 1, 8, [.d (.v .nilFunc)]⟩),
  (2, ⟨(.int .i64), 1, 8, [.d (.v (.int .i64 0))]⟩),
  (3, ⟨(.int .i64), 1, 8, [.d (.v (.int .i64 0))]⟩),
  (4, ⟨.bool, 1, 1, [.d (.v (.bool false))]⟩),
  (5, ⟨(.int .u8), 1, 1, [.d (.v (.int .u8 0))]⟩),
  (9, ⟨.str, 1, 16, [.d (.v (.string ByteArray.empty))]⟩),
  (12, ⟨(.int .u64), 1, 8, [.d (.v (.int .u64 0))]⟩),
  (15, ⟨.ptr, 1, 8, [.d (.v (.pointer none))]⟩),
  (16, ⟨.ptr, 1, 8, [.d (.v (.pointer none))]⟩),
  (17, ⟨.ptr, 1, 8, [.d (.v (.pointer none))]⟩),
  (21, ⟨(.int .i32), 1, 4, [.d (.v (.int .i32 0))]⟩),
  (22, ⟨.slice 40, 1, 24, [.nils 4]⟩),
  (23, ⟨.other, 1, 8, [.d (.v .nilFunc)]⟩),
  (24, ⟨.other, 1, 8, [.d (.v .nilFunc)]⟩),
  (25, ⟨.slice 9, 1, 24, [.nils 1]⟩),
  (26, ⟨(.int .u64), 1, 8, [.d (.v (.int .u64 0))]⟩),
  (27, ⟨.struct [(0, 9), (1, 4), (2, 25), (3, 26), (4, 3), (5, 3), (6, 3)], 7, 80, [.d (.v (.string ByteArray.empty)), .d (.v (.bool false)), .nils 1, .d (.v (.int .u64 0)), .d (.v (.int .i64 0)), .d (.v (.int .i64 0)), .d (.v (.int .i64 0))]⟩),
  (28, ⟨.struct [(0, 9), (1, 4), (2, 25), (3, 26), (4, 3), (5, 3), (6, 3)], 7, 80, [.d (.v (.string ByteArray.empty)), .d (.v (.bool false)), .nils 1, .d (.v (.int .u64 0)), .d (.v (.int .i64 0)), .d (.v (.int .i64 0)), .d (.v (.int .i64 0))]⟩),
  (29, ⟨(.int .i64), 1, 8, [.d (.v (.int .i64 0))]⟩),
  (30, ⟨.other, 1, 8, [.d (.v .nilFunc)]⟩),
  (31, ⟨.other, 1, 8, [.d (.v .nilFunc)]⟩),
  (32, ⟨.other, 1, 8, [.d (.v .nilFunc)]⟩),
  (34, ⟨.other, 1, 8, [.d (.v .nilFunc)]⟩),
  (35, ⟨.other, 1, 8, [.d (.v .nilFunc)]⟩),
  (36, ⟨.slice 5, 1, 24, [.nils 1]⟩),
  (37, ⟨.other, 1, 8, [.d (.v .nilFunc)]⟩),
  (38, ⟨.other, 1, 8, [.d (.v .nilFunc)]⟩),
  (39, ⟨.struct [(0, 3), (1, 3), (2, 3), (3, 3)], 4, 32, [.d (.v (.int .i64 0)), .d (.v (.int .i64 0)), .d (.v (.int .i64 0)), .d (.v (.int .i64 0))]⟩),
  (40, ⟨.struct [(0, 3), (1, 3), (2, 3), (3, 3)], 4, 32, [.d (.v (.int .i64 0)), .d (.v (.int .i64 0)), .d (.v (.int .i64 0)), .d (.v (.int .i64 0))]⟩),
  (41, ⟨.slice 28, 1, 24, [.nils 7]⟩),
  (42, ⟨.slice 3, 1, 24, [.nils 1]⟩),
  (43, ⟨.other, 1, 8, [.d (.v .nilFunc)]⟩),
  (44, ⟨.other, 1, 8, [.d (.v .nilFunc)]⟩),
  (45, ⟨.other, 1, 8, [.d (.v .nilFunc)]⟩),
  (46, ⟨.other, 1, 8, [.d (.v .nilFunc)]⟩),
  (47, ⟨.other, 1, 8, [.d (.v .nilFunc)]⟩),
  (48, ⟨.struct [(0, 3), (1, 3)], 2, 16, [.d (.v (.int .i64 0)), .d (.v (.int .i64 0))]⟩),
  (49, ⟨.struct [(0, 3), (1, 3)], 2, 16, [.d (.v (.int .i64 0)), .d (.v (.int .i64 0))]⟩),
  (50, ⟨.other, 1, 8, [.d (.v .nilFunc)]⟩),
  (51, ⟨.struct [(0, 3), (1, 3), (2, 49), (4, 3)], 5, 40, [.d (.v (.int .i64 0)), .d (.v (.int .i64 0)), .d (.v (.int .i64 0)), .d (.v (.int .i64 0)), .d (.v (.int .i64 0))]⟩),
  (52, ⟨.struct [(0, 3), (1, 3), (2, 49), (4, 3)], 5, 40, [.d (.v (.int .i64 0)), .d (.v (.int .i64 0)), .d (.v (.int .i64 0)), .d (.v (.int .i64 0)), .d (.v (.int .i64 0))]⟩),
  (54, ⟨.other, 1, 8, [.d (.v .nilFunc)]⟩),
  (55, ⟨.other, 1, 8, [.d (.v .nilFunc)]⟩),
  (56, ⟨.other, 1, 8, [.d (.v .nilFunc)]⟩),
  (57, ⟨.other, 1, 8, [.d (.v .nilFunc)]⟩),
  (58, ⟨.other, 1, 8, [.d (.v .nilFunc)]⟩),
  (59, ⟨.other, 1, 8, [.d (.v .nilFunc)]⟩),
  (60, ⟨.other, 1, 8, [.d (.v .nilFunc)]⟩),
  (61, ⟨.other, 1, 8, [.d (.v .nilFunc)]⟩),
  (62, ⟨.other, 1, 8, [.d (.v .nilFunc)]⟩),
  (63, ⟨.other, 1, 8, [.d (.v .nilFunc)]⟩),
  (64, ⟨.ptr, 1, 8, [.d (.v (.pointer none))]⟩),
  (65, ⟨.other, 1, 8, [.d (.v .nilFunc)]⟩),
  (66, ⟨.other, 1, 8, [.d (.v .nilFunc)]⟩),
  (68, ⟨.other, 1, 8, [.d (.v .nilFunc)]⟩),
  (69, ⟨.other, 1, 8, [.d (.v .nilFunc)]⟩),
  (70, ⟨.other, 1, 8, [.d (.v .nilFunc)]⟩),
  (71, ⟨.other, 1, 8, [.d (.v .nilFunc)]⟩),
  (72, ⟨.other, 1, 8, [.d (.v .nilFunc)]⟩),
  (73, ⟨.other, 1, 8, [.d (.v .nilFunc)]⟩),
  (74, ⟨(.int .u64), 1, 8, [.d (.v (.int .u64 0))]⟩),
  (75, ⟨.other, 1, 8, [.d (.v .nilFunc)]⟩),
  (76, ⟨.other, 1, 8, [.d (.v .nilFunc)]⟩),
  (77, ⟨(.int .i64), 1, 8, [.d (.v (.int .i64 0))]⟩),
  (79, ⟨.other, 1, 8, [.d (.v .nilFunc)]⟩),
  (80, ⟨.other, 1, 8, [.d (.v .nilFunc)]⟩),
  (81, ⟨.other, 1, 8, [.d (.v .nilFunc)]⟩),
  (82, ⟨.other, 1, 8, [.d (.v .nilFunc)]⟩),
  (83, ⟨.other, 1, 8, [.d (.v .nilFunc)]⟩),
  (84, ⟨.other, 1, 8, [.d (.v .nilFunc)]⟩),
  (85, ⟨(.int .u32), 1, 4, [.d (.v (.int .u32 0))]⟩),
  (86, ⟨.other, 1, 8, [.d (.v .nilFunc)]⟩),
  (87, ⟨(.int .u64), 1, 8, [.d (.v (.int .u64 0))]⟩),
  (88, ⟨.other, 1, 8, [.d (.v .nilFunc)]⟩),
  (89, ⟨.other, 1, 8, [.d (.v .nilFunc)]⟩),
  (90, ⟨.other, 1, 8, [.d (.v .nilFunc)]⟩),
  (91, ⟨.ptr, 1, 8, [.d (.v (.pointer none))]⟩),
  (92, ⟨.other, 1, 8, [.d (.v .nilFunc)]⟩),
  (93, ⟨.other, 1, 8, [.d (.v .nilFunc)]⟩),
  (94, ⟨.ptr, 1, 8, [.d (.v (.pointer none))]⟩),
  (96, ⟨.other, 1, 8, [.d (.v .nilFunc)]⟩),
  (97, ⟨.other, 1, 8, [.d (.v .nilFunc)]⟩),
  (103, ⟨.other, 1, 8, [.d (.v .nilFunc)]⟩),
  (106, ⟨.other, 1, 8, [.d (.v .nilFunc)]⟩),
  (107, ⟨.ptr, 1, 8, [.d (.v (.pointer none))]⟩)]
theorem ext50 : ExtOk Try.prog 50 (.overlaps 22 4) := ⟨Try.f50, Try.func50, by kernel_rfl, by kernel_rfl, by kernel_rfl, by kernel_rfl⟩
def extTable : List (FuncId × Ext) := [(50, .overlaps 22 4)]
theorem extTable_ok : ExtAll Try.prog extTable := ⟨ext50, trivial⟩
theorem tyTable_ok : tyCheckAll Try.prog tyTable = true := by kernel_rfl
theorem mixed : Try.prog.follows .mixedOrders = true := by kernel_rfl
def tys : Ctx := ⟨fun t => tyL tyTable t, fun f => extL extTable f⟩
theorem sitOk {ro : Option Nat} {pin : Pin} : SitOk ⟨Try.prog, tys, ro, pin⟩ := ⟨ctxOk_of tyTable_ok extTable_ok, mixed⟩
/-- A contract, from what the body asks. -/
theorem meets {f : FuncId} {fn : Func} {code : Code} {args : List (Bool × List CV)} {res : Res} {nt : Nat} {rl : List ResultVar} (hf : Try.prog.funcs[f]? = some fn) (hb : fn.body = some code) (hname : (fn.name == "runtime.NumGoroutine") = false) (hnt : fn.ntmps = nt) (hrs : fn.results = rl.toArray) (hlen : decide (args.length ≤ nt) = true)
    (h : vc ⟨Try.prog, tys, none, ⟨0, []⟩⟩ code (RetS tys rl res) (initSt nt args)) : Meets Try.prog f args res := by
  subst hnt
  refine meets_of_body (E := ⟨Try.prog, tys, none, ⟨0, []⟩⟩) sitOk rfl hf hb hname (of_decide_eq_true hlen) ?_
  rw [hrs]; exact awp_mono (awp_vc sitOk h) fun e st h => by simpa using RetS.retQ e st h
theorem tysOk : CtxOk Try.prog tys := ctxOk_of tyTable_ok extTable_ok
theorem own : ownKnob Try.prog.godebug = none := by kernel_rfl
theorem laidOut : laidOutB Try.prog = true := by kernel_rfl
/-- The like, where objects are frozen as it ends. -/
theorem meetsF {f : FuncId} {fn : Func} {code : Code} {args : List (Bool × List CV)} {res : Res} {nt : Nat} {rl : List ResultVar} (hf : Try.prog.funcs[f]? = some fn) (hb : fn.body = some code) (hname : (fn.name == "runtime.NumGoroutine") = false) (hnt : fn.ntmps = nt) (hrs : fn.results = rl.toArray) (hlen : decide (args.length ≤ nt) = true)
    (h : vc ⟨Try.prog, tys, none, ⟨0, []⟩⟩ code (RetQ tys rl res) (initSt nt args)) : Meets Try.prog f args res := by
  subst hnt
  refine meets_of_body (E := ⟨Try.prog, tys, none, ⟨0, []⟩⟩) sitOk rfl hf hb hname (of_decide_eq_true hlen) ?_
  rw [hrs]; exact awp_mono (awp_vc sitOk h) fun e st h => by simpa using h
/-- A call by a walk over the caller's objects. -/
theorem callW {ro : Option Nat} {pin : Pin} {R : Reg} {acc : List Ft} {st : St} {j : Nat} {f : FuncId} {fn : Func} {code : Code} {A : List (Bool × List AV)} {cv : Option (List (Bool × List CV))} {K : Kop} {KH : AT → List (Nat × Option AObj) → Nat → Prop} {nt : Nat} {rl : List ResultVar} (hd : R.draw = false) (hf : Try.prog.funcs[f]? = some fn) (hb : fn.body = some code) (hname : (fn.name == "runtime.NumGoroutine") = false) (hnt : fn.ntmps = nt) (hrs : fn.results = rl.toArray) (hlen : decide (A.length ≤ nt) = true)
    (h : vc ⟨Try.prog, tys, none, ⟨R.N + 8 * j, []⟩⟩ code (retH tys rl KH) ⟨nt, initEnv 0 A, st.objs, R.N + 8 * j⟩) : VCall ⟨Try.prog, tys, ro, pin⟩ R acc st j (some (f, A)) cv K KH := by
  subst hnt
  refine callH hd (hcall_of_body sitOk hf hb hname (of_decide_eq_true hlen) ?_)
  rw [hrs]; exact awp_vc sitOk h
theorem callWd {ro : Option Nat} {pin : Pin} {R : Reg} {acc : List Ft} {st : St} {j : Nat} {f : FuncId} {fn : Func} {code : Code} {A : List (Bool × List AV)} {cv : Option (List (Bool × List CV))} {K : Kop} {KH : AT → List (Nat × Option AObj) → Nat → Prop} {nt : Nat} {rl : List ResultVar} (hd : drawF R.ops acc.reverse = true) (hc : cutOk R.ops j = true) (hf : Try.prog.funcs[f]? = some fn) (hb : fn.body = some code) (hname : (fn.name == "runtime.NumGoroutine") = false) (hnt : fn.ntmps = nt) (hrs : fn.results = rl.toArray) (hlen : decide (A.length ≤ nt) = true)
    (h : vc ⟨Try.prog, tys, none, ⟨R.N + 8 * j, []⟩⟩ code (retH tys rl KH) ⟨nt, initEnv 0 A, st.objs, R.N + 8 * j⟩) : VCall ⟨Try.prog, tys, ro, pin⟩ R acc st j (some (f, A)) cv K KH := by
  subst hnt
  refine callHd hd hc (hcall_of_body sitOk hf hb hname (of_decide_eq_true hlen) ?_)
  rw [hrs]; exact awp_vc sitOk h
/-- The like, by a walk that is not yet rewriting. -/
theorem meetsA {f : FuncId} {fn : Func} {code : Code} {args : List (Bool × List CV)} {res : Res} {nt : Nat} {rl : List ResultVar} (hf : Try.prog.funcs[f]? = some fn) (hb : fn.body = some code) (hname : (fn.name == "runtime.NumGoroutine") = false) (hnt : fn.ntmps = nt) (hrs : fn.results = rl.toArray) (hlen : decide (args.length ≤ nt) = true)
    (h : AWp ⟨Try.prog, tys, none, ⟨0, []⟩⟩ code (RetS tys rl res) (initSt nt args)) : Meets Try.prog f args res := by
  subst hnt
  refine meets_of_body (E := ⟨Try.prog, tys, none, ⟨0, []⟩⟩) sitOk rfl hf hb hname (of_decide_eq_true hlen) ?_
  rw [hrs]; exact awp_mono h fun e st h => by simpa using RetS.retQ e st h
theorem ty1 : tys.ty 1 = some ⟨.other, 1, 8, [.d (.v .nilFunc)]⟩ := rfl
theorem sz1 : tys.size 1 = some 1 := rfl
theorem ag1 : tys.agg 1 = some false := rfl
attribute [go_sem] ty1 sz1 ag1
theorem ty2 : tys.ty 2 = some ⟨(.int .i64), 1, 8, [.d (.v (.int .i64 0))]⟩ := rfl
theorem sz2 : tys.size 2 = some 1 := rfl
theorem ag2 : tys.agg 2 = some false := rfl
attribute [go_sem] ty2 sz2 ag2
theorem ty3 : tys.ty 3 = some ⟨(.int .i64), 1, 8, [.d (.v (.int .i64 0))]⟩ := rfl
theorem sz3 : tys.size 3 = some 1 := rfl
theorem ag3 : tys.agg 3 = some false := rfl
attribute [go_sem] ty3 sz3 ag3
theorem ty4 : tys.ty 4 = some ⟨.bool, 1, 1, [.d (.v (.bool false))]⟩ := rfl
theorem sz4 : tys.size 4 = some 1 := rfl
theorem ag4 : tys.agg 4 = some false := rfl
attribute [go_sem] ty4 sz4 ag4
theorem ty5 : tys.ty 5 = some ⟨(.int .u8), 1, 1, [.d (.v (.int .u8 0))]⟩ := rfl
theorem sz5 : tys.size 5 = some 1 := rfl
theorem ag5 : tys.agg 5 = some false := rfl
attribute [go_sem] ty5 sz5 ag5
theorem ty9 : tys.ty 9 = some ⟨.str, 1, 16, [.d (.v (.string ByteArray.empty))]⟩ := rfl
theorem sz9 : tys.size 9 = some 1 := rfl
theorem ag9 : tys.agg 9 = some false := rfl
attribute [go_sem] ty9 sz9 ag9
theorem ty12 : tys.ty 12 = some ⟨(.int .u64), 1, 8, [.d (.v (.int .u64 0))]⟩ := rfl
theorem sz12 : tys.size 12 = some 1 := rfl
theorem ag12 : tys.agg 12 = some false := rfl
attribute [go_sem] ty12 sz12 ag12
theorem ty15 : tys.ty 15 = some ⟨.ptr, 1, 8, [.d (.v (.pointer none))]⟩ := rfl
theorem sz15 : tys.size 15 = some 1 := rfl
theorem ag15 : tys.agg 15 = some false := rfl
attribute [go_sem] ty15 sz15 ag15
theorem ty16 : tys.ty 16 = some ⟨.ptr, 1, 8, [.d (.v (.pointer none))]⟩ := rfl
theorem sz16 : tys.size 16 = some 1 := rfl
theorem ag16 : tys.agg 16 = some false := rfl
attribute [go_sem] ty16 sz16 ag16
theorem ty17 : tys.ty 17 = some ⟨.ptr, 1, 8, [.d (.v (.pointer none))]⟩ := rfl
theorem sz17 : tys.size 17 = some 1 := rfl
theorem ag17 : tys.agg 17 = some false := rfl
attribute [go_sem] ty17 sz17 ag17
theorem ty21 : tys.ty 21 = some ⟨(.int .i32), 1, 4, [.d (.v (.int .i32 0))]⟩ := rfl
theorem sz21 : tys.size 21 = some 1 := rfl
theorem ag21 : tys.agg 21 = some false := rfl
attribute [go_sem] ty21 sz21 ag21
theorem ty22 : tys.ty 22 = some ⟨.slice 40, 1, 24, [.nils 4]⟩ := rfl
theorem sz22 : tys.size 22 = some 1 := rfl
theorem ag22 : tys.agg 22 = some false := rfl
theorem el22 : tys.elem 22 = some 40 := rfl
attribute [go_sem] ty22 sz22 ag22 el22
theorem ty23 : tys.ty 23 = some ⟨.other, 1, 8, [.d (.v .nilFunc)]⟩ := rfl
theorem sz23 : tys.size 23 = some 1 := rfl
theorem ag23 : tys.agg 23 = some false := rfl
attribute [go_sem] ty23 sz23 ag23
theorem ty24 : tys.ty 24 = some ⟨.other, 1, 8, [.d (.v .nilFunc)]⟩ := rfl
theorem sz24 : tys.size 24 = some 1 := rfl
theorem ag24 : tys.agg 24 = some false := rfl
attribute [go_sem] ty24 sz24 ag24
theorem ty25 : tys.ty 25 = some ⟨.slice 9, 1, 24, [.nils 1]⟩ := rfl
theorem sz25 : tys.size 25 = some 1 := rfl
theorem ag25 : tys.agg 25 = some false := rfl
theorem el25 : tys.elem 25 = some 9 := rfl
attribute [go_sem] ty25 sz25 ag25 el25
theorem ty26 : tys.ty 26 = some ⟨(.int .u64), 1, 8, [.d (.v (.int .u64 0))]⟩ := rfl
theorem sz26 : tys.size 26 = some 1 := rfl
theorem ag26 : tys.agg 26 = some false := rfl
attribute [go_sem] ty26 sz26 ag26
theorem ty27 : tys.ty 27 = some ⟨.struct [(0, 9), (1, 4), (2, 25), (3, 26), (4, 3), (5, 3), (6, 3)], 7, 80, [.d (.v (.string ByteArray.empty)), .d (.v (.bool false)), .nils 1, .d (.v (.int .u64 0)), .d (.v (.int .i64 0)), .d (.v (.int .i64 0)), .d (.v (.int .i64 0))]⟩ := rfl
theorem sz27 : tys.size 27 = some 7 := rfl
theorem ag27 : tys.agg 27 = some true := rfl
theorem fl27 : tys.fields 27 = some [(0, 9), (1, 4), (2, 25), (3, 26), (4, 3), (5, 3), (6, 3)] := rfl
attribute [go_sem] ty27 sz27 ag27 fl27
theorem ty28 : tys.ty 28 = some ⟨.struct [(0, 9), (1, 4), (2, 25), (3, 26), (4, 3), (5, 3), (6, 3)], 7, 80, [.d (.v (.string ByteArray.empty)), .d (.v (.bool false)), .nils 1, .d (.v (.int .u64 0)), .d (.v (.int .i64 0)), .d (.v (.int .i64 0)), .d (.v (.int .i64 0))]⟩ := rfl
theorem sz28 : tys.size 28 = some 7 := rfl
theorem ag28 : tys.agg 28 = some true := rfl
theorem fl28 : tys.fields 28 = some [(0, 9), (1, 4), (2, 25), (3, 26), (4, 3), (5, 3), (6, 3)] := rfl
attribute [go_sem] ty28 sz28 ag28 fl28
theorem ty29 : tys.ty 29 = some ⟨(.int .i64), 1, 8, [.d (.v (.int .i64 0))]⟩ := rfl
theorem sz29 : tys.size 29 = some 1 := rfl
theorem ag29 : tys.agg 29 = some false := rfl
attribute [go_sem] ty29 sz29 ag29
theorem ty30 : tys.ty 30 = some ⟨.other, 1, 8, [.d (.v .nilFunc)]⟩ := rfl
theorem sz30 : tys.size 30 = some 1 := rfl
theorem ag30 : tys.agg 30 = some false := rfl
attribute [go_sem] ty30 sz30 ag30
theorem ty31 : tys.ty 31 = some ⟨.other, 1, 8, [.d (.v .nilFunc)]⟩ := rfl
theorem sz31 : tys.size 31 = some 1 := rfl
theorem ag31 : tys.agg 31 = some false := rfl
attribute [go_sem] ty31 sz31 ag31
theorem ty32 : tys.ty 32 = some ⟨.other, 1, 8, [.d (.v .nilFunc)]⟩ := rfl
theorem sz32 : tys.size 32 = some 1 := rfl
theorem ag32 : tys.agg 32 = some false := rfl
attribute [go_sem] ty32 sz32 ag32
theorem ty34 : tys.ty 34 = some ⟨.other, 1, 8, [.d (.v .nilFunc)]⟩ := rfl
theorem sz34 : tys.size 34 = some 1 := rfl
theorem ag34 : tys.agg 34 = some false := rfl
attribute [go_sem] ty34 sz34 ag34
theorem ty35 : tys.ty 35 = some ⟨.other, 1, 8, [.d (.v .nilFunc)]⟩ := rfl
theorem sz35 : tys.size 35 = some 1 := rfl
theorem ag35 : tys.agg 35 = some false := rfl
attribute [go_sem] ty35 sz35 ag35
theorem ty36 : tys.ty 36 = some ⟨.slice 5, 1, 24, [.nils 1]⟩ := rfl
theorem sz36 : tys.size 36 = some 1 := rfl
theorem ag36 : tys.agg 36 = some false := rfl
theorem el36 : tys.elem 36 = some 5 := rfl
attribute [go_sem] ty36 sz36 ag36 el36
theorem ty37 : tys.ty 37 = some ⟨.other, 1, 8, [.d (.v .nilFunc)]⟩ := rfl
theorem sz37 : tys.size 37 = some 1 := rfl
theorem ag37 : tys.agg 37 = some false := rfl
attribute [go_sem] ty37 sz37 ag37
theorem ty38 : tys.ty 38 = some ⟨.other, 1, 8, [.d (.v .nilFunc)]⟩ := rfl
theorem sz38 : tys.size 38 = some 1 := rfl
theorem ag38 : tys.agg 38 = some false := rfl
attribute [go_sem] ty38 sz38 ag38
theorem ty39 : tys.ty 39 = some ⟨.struct [(0, 3), (1, 3), (2, 3), (3, 3)], 4, 32, [.d (.v (.int .i64 0)), .d (.v (.int .i64 0)), .d (.v (.int .i64 0)), .d (.v (.int .i64 0))]⟩ := rfl
theorem sz39 : tys.size 39 = some 4 := rfl
theorem ag39 : tys.agg 39 = some true := rfl
theorem fl39 : tys.fields 39 = some [(0, 3), (1, 3), (2, 3), (3, 3)] := rfl
attribute [go_sem] ty39 sz39 ag39 fl39
theorem ty40 : tys.ty 40 = some ⟨.struct [(0, 3), (1, 3), (2, 3), (3, 3)], 4, 32, [.d (.v (.int .i64 0)), .d (.v (.int .i64 0)), .d (.v (.int .i64 0)), .d (.v (.int .i64 0))]⟩ := rfl
theorem sz40 : tys.size 40 = some 4 := rfl
theorem ag40 : tys.agg 40 = some true := rfl
theorem fl40 : tys.fields 40 = some [(0, 3), (1, 3), (2, 3), (3, 3)] := rfl
attribute [go_sem] ty40 sz40 ag40 fl40
theorem ty41 : tys.ty 41 = some ⟨.slice 28, 1, 24, [.nils 7]⟩ := rfl
theorem sz41 : tys.size 41 = some 1 := rfl
theorem ag41 : tys.agg 41 = some false := rfl
theorem el41 : tys.elem 41 = some 28 := rfl
attribute [go_sem] ty41 sz41 ag41 el41
theorem ty42 : tys.ty 42 = some ⟨.slice 3, 1, 24, [.nils 1]⟩ := rfl
theorem sz42 : tys.size 42 = some 1 := rfl
theorem ag42 : tys.agg 42 = some false := rfl
theorem el42 : tys.elem 42 = some 3 := rfl
attribute [go_sem] ty42 sz42 ag42 el42
theorem ty43 : tys.ty 43 = some ⟨.other, 1, 8, [.d (.v .nilFunc)]⟩ := rfl
theorem sz43 : tys.size 43 = some 1 := rfl
theorem ag43 : tys.agg 43 = some false := rfl
attribute [go_sem] ty43 sz43 ag43
theorem ty44 : tys.ty 44 = some ⟨.other, 1, 8, [.d (.v .nilFunc)]⟩ := rfl
theorem sz44 : tys.size 44 = some 1 := rfl
theorem ag44 : tys.agg 44 = some false := rfl
attribute [go_sem] ty44 sz44 ag44
theorem ty45 : tys.ty 45 = some ⟨.other, 1, 8, [.d (.v .nilFunc)]⟩ := rfl
theorem sz45 : tys.size 45 = some 1 := rfl
theorem ag45 : tys.agg 45 = some false := rfl
attribute [go_sem] ty45 sz45 ag45
theorem ty46 : tys.ty 46 = some ⟨.other, 1, 8, [.d (.v .nilFunc)]⟩ := rfl
theorem sz46 : tys.size 46 = some 1 := rfl
theorem ag46 : tys.agg 46 = some false := rfl
attribute [go_sem] ty46 sz46 ag46
theorem ty47 : tys.ty 47 = some ⟨.other, 1, 8, [.d (.v .nilFunc)]⟩ := rfl
theorem sz47 : tys.size 47 = some 1 := rfl
theorem ag47 : tys.agg 47 = some false := rfl
attribute [go_sem] ty47 sz47 ag47
theorem ty48 : tys.ty 48 = some ⟨.struct [(0, 3), (1, 3)], 2, 16, [.d (.v (.int .i64 0)), .d (.v (.int .i64 0))]⟩ := rfl
theorem sz48 : tys.size 48 = some 2 := rfl
theorem ag48 : tys.agg 48 = some true := rfl
theorem fl48 : tys.fields 48 = some [(0, 3), (1, 3)] := rfl
attribute [go_sem] ty48 sz48 ag48 fl48
theorem ty49 : tys.ty 49 = some ⟨.struct [(0, 3), (1, 3)], 2, 16, [.d (.v (.int .i64 0)), .d (.v (.int .i64 0))]⟩ := rfl
theorem sz49 : tys.size 49 = some 2 := rfl
theorem ag49 : tys.agg 49 = some true := rfl
theorem fl49 : tys.fields 49 = some [(0, 3), (1, 3)] := rfl
attribute [go_sem] ty49 sz49 ag49 fl49
theorem ty50 : tys.ty 50 = some ⟨.other, 1, 8, [.d (.v .nilFunc)]⟩ := rfl
theorem sz50 : tys.size 50 = some 1 := rfl
theorem ag50 : tys.agg 50 = some false := rfl
attribute [go_sem] ty50 sz50 ag50
theorem ty51 : tys.ty 51 = some ⟨.struct [(0, 3), (1, 3), (2, 49), (4, 3)], 5, 40, [.d (.v (.int .i64 0)), .d (.v (.int .i64 0)), .d (.v (.int .i64 0)), .d (.v (.int .i64 0)), .d (.v (.int .i64 0))]⟩ := rfl
theorem sz51 : tys.size 51 = some 5 := rfl
theorem ag51 : tys.agg 51 = some true := rfl
theorem fl51 : tys.fields 51 = some [(0, 3), (1, 3), (2, 49), (4, 3)] := rfl
attribute [go_sem] ty51 sz51 ag51 fl51
theorem ty52 : tys.ty 52 = some ⟨.struct [(0, 3), (1, 3), (2, 49), (4, 3)], 5, 40, [.d (.v (.int .i64 0)), .d (.v (.int .i64 0)), .d (.v (.int .i64 0)), .d (.v (.int .i64 0)), .d (.v (.int .i64 0))]⟩ := rfl
theorem sz52 : tys.size 52 = some 5 := rfl
theorem ag52 : tys.agg 52 = some true := rfl
theorem fl52 : tys.fields 52 = some [(0, 3), (1, 3), (2, 49), (4, 3)] := rfl
attribute [go_sem] ty52 sz52 ag52 fl52
theorem ty54 : tys.ty 54 = some ⟨.other, 1, 8, [.d (.v .nilFunc)]⟩ := rfl
theorem sz54 : tys.size 54 = some 1 := rfl
theorem ag54 : tys.agg 54 = some false := rfl
attribute [go_sem] ty54 sz54 ag54
theorem ty55 : tys.ty 55 = some ⟨.other, 1, 8, [.d (.v .nilFunc)]⟩ := rfl
theorem sz55 : tys.size 55 = some 1 := rfl
theorem ag55 : tys.agg 55 = some false := rfl
attribute [go_sem] ty55 sz55 ag55
theorem ty56 : tys.ty 56 = some ⟨.other, 1, 8, [.d (.v .nilFunc)]⟩ := rfl
theorem sz56 : tys.size 56 = some 1 := rfl
theorem ag56 : tys.agg 56 = some false := rfl
attribute [go_sem] ty56 sz56 ag56
theorem ty57 : tys.ty 57 = some ⟨.other, 1, 8, [.d (.v .nilFunc)]⟩ := rfl
theorem sz57 : tys.size 57 = some 1 := rfl
theorem ag57 : tys.agg 57 = some false := rfl
attribute [go_sem] ty57 sz57 ag57
theorem ty58 : tys.ty 58 = some ⟨.other, 1, 8, [.d (.v .nilFunc)]⟩ := rfl
theorem sz58 : tys.size 58 = some 1 := rfl
theorem ag58 : tys.agg 58 = some false := rfl
attribute [go_sem] ty58 sz58 ag58
theorem ty59 : tys.ty 59 = some ⟨.other, 1, 8, [.d (.v .nilFunc)]⟩ := rfl
theorem sz59 : tys.size 59 = some 1 := rfl
theorem ag59 : tys.agg 59 = some false := rfl
attribute [go_sem] ty59 sz59 ag59
theorem ty60 : tys.ty 60 = some ⟨.other, 1, 8, [.d (.v .nilFunc)]⟩ := rfl
theorem sz60 : tys.size 60 = some 1 := rfl
theorem ag60 : tys.agg 60 = some false := rfl
attribute [go_sem] ty60 sz60 ag60
theorem ty61 : tys.ty 61 = some ⟨.other, 1, 8, [.d (.v .nilFunc)]⟩ := rfl
theorem sz61 : tys.size 61 = some 1 := rfl
theorem ag61 : tys.agg 61 = some false := rfl
attribute [go_sem] ty61 sz61 ag61
theorem ty62 : tys.ty 62 = some ⟨.other, 1, 8, [.d (.v .nilFunc)]⟩ := rfl
theorem sz62 : tys.size 62 = some 1 := rfl
theorem ag62 : tys.agg 62 = some false := rfl
attribute [go_sem] ty62 sz62 ag62
theorem ty63 : tys.ty 63 = some ⟨.other, 1, 8, [.d (.v .nilFunc)]⟩ := rfl
theorem sz63 : tys.size 63 = some 1 := rfl
theorem ag63 : tys.agg 63 = some false := rfl
attribute [go_sem] ty63 sz63 ag63
theorem ty64 : tys.ty 64 = some ⟨.ptr, 1, 8, [.d (.v (.pointer none))]⟩ := rfl
theorem sz64 : tys.size 64 = some 1 := rfl
theorem ag64 : tys.agg 64 = some false := rfl
attribute [go_sem] ty64 sz64 ag64
theorem ty65 : tys.ty 65 = some ⟨.other, 1, 8, [.d (.v .nilFunc)]⟩ := rfl
theorem sz65 : tys.size 65 = some 1 := rfl
theorem ag65 : tys.agg 65 = some false := rfl
attribute [go_sem] ty65 sz65 ag65
theorem ty66 : tys.ty 66 = some ⟨.other, 1, 8, [.d (.v .nilFunc)]⟩ := rfl
theorem sz66 : tys.size 66 = some 1 := rfl
theorem ag66 : tys.agg 66 = some false := rfl
attribute [go_sem] ty66 sz66 ag66
theorem ty68 : tys.ty 68 = some ⟨.other, 1, 8, [.d (.v .nilFunc)]⟩ := rfl
theorem sz68 : tys.size 68 = some 1 := rfl
theorem ag68 : tys.agg 68 = some false := rfl
attribute [go_sem] ty68 sz68 ag68
theorem ty69 : tys.ty 69 = some ⟨.other, 1, 8, [.d (.v .nilFunc)]⟩ := rfl
theorem sz69 : tys.size 69 = some 1 := rfl
theorem ag69 : tys.agg 69 = some false := rfl
attribute [go_sem] ty69 sz69 ag69
theorem ty70 : tys.ty 70 = some ⟨.other, 1, 8, [.d (.v .nilFunc)]⟩ := rfl
theorem sz70 : tys.size 70 = some 1 := rfl
theorem ag70 : tys.agg 70 = some false := rfl
attribute [go_sem] ty70 sz70 ag70
theorem ty71 : tys.ty 71 = some ⟨.other, 1, 8, [.d (.v .nilFunc)]⟩ := rfl
theorem sz71 : tys.size 71 = some 1 := rfl
theorem ag71 : tys.agg 71 = some false := rfl
attribute [go_sem] ty71 sz71 ag71
theorem ty72 : tys.ty 72 = some ⟨.other, 1, 8, [.d (.v .nilFunc)]⟩ := rfl
theorem sz72 : tys.size 72 = some 1 := rfl
theorem ag72 : tys.agg 72 = some false := rfl
attribute [go_sem] ty72 sz72 ag72
theorem ty73 : tys.ty 73 = some ⟨.other, 1, 8, [.d (.v .nilFunc)]⟩ := rfl
theorem sz73 : tys.size 73 = some 1 := rfl
theorem ag73 : tys.agg 73 = some false := rfl
attribute [go_sem] ty73 sz73 ag73
theorem ty74 : tys.ty 74 = some ⟨(.int .u64), 1, 8, [.d (.v (.int .u64 0))]⟩ := rfl
theorem sz74 : tys.size 74 = some 1 := rfl
theorem ag74 : tys.agg 74 = some false := rfl
attribute [go_sem] ty74 sz74 ag74
theorem ty75 : tys.ty 75 = some ⟨.other, 1, 8, [.d (.v .nilFunc)]⟩ := rfl
theorem sz75 : tys.size 75 = some 1 := rfl
theorem ag75 : tys.agg 75 = some false := rfl
attribute [go_sem] ty75 sz75 ag75
theorem ty76 : tys.ty 76 = some ⟨.other, 1, 8, [.d (.v .nilFunc)]⟩ := rfl
theorem sz76 : tys.size 76 = some 1 := rfl
theorem ag76 : tys.agg 76 = some false := rfl
attribute [go_sem] ty76 sz76 ag76
theorem ty77 : tys.ty 77 = some ⟨(.int .i64), 1, 8, [.d (.v (.int .i64 0))]⟩ := rfl
theorem sz77 : tys.size 77 = some 1 := rfl
theorem ag77 : tys.agg 77 = some false := rfl
attribute [go_sem] ty77 sz77 ag77
theorem ty79 : tys.ty 79 = some ⟨.other, 1, 8, [.d (.v .nilFunc)]⟩ := rfl
theorem sz79 : tys.size 79 = some 1 := rfl
theorem ag79 : tys.agg 79 = some false := rfl
attribute [go_sem] ty79 sz79 ag79
theorem ty80 : tys.ty 80 = some ⟨.other, 1, 8, [.d (.v .nilFunc)]⟩ := rfl
theorem sz80 : tys.size 80 = some 1 := rfl
theorem ag80 : tys.agg 80 = some false := rfl
attribute [go_sem] ty80 sz80 ag80
theorem ty81 : tys.ty 81 = some ⟨.other, 1, 8, [.d (.v .nilFunc)]⟩ := rfl
theorem sz81 : tys.size 81 = some 1 := rfl
theorem ag81 : tys.agg 81 = some false := rfl
attribute [go_sem] ty81 sz81 ag81
theorem ty82 : tys.ty 82 = some ⟨.other, 1, 8, [.d (.v .nilFunc)]⟩ := rfl
theorem sz82 : tys.size 82 = some 1 := rfl
theorem ag82 : tys.agg 82 = some false := rfl
attribute [go_sem] ty82 sz82 ag82
theorem ty83 : tys.ty 83 = some ⟨.other, 1, 8, [.d (.v .nilFunc)]⟩ := rfl
theorem sz83 : tys.size 83 = some 1 := rfl
theorem ag83 : tys.agg 83 = some false := rfl
attribute [go_sem] ty83 sz83 ag83
theorem ty84 : tys.ty 84 = some ⟨.other, 1, 8, [.d (.v .nilFunc)]⟩ := rfl
theorem sz84 : tys.size 84 = some 1 := rfl
theorem ag84 : tys.agg 84 = some false := rfl
attribute [go_sem] ty84 sz84 ag84
theorem ty85 : tys.ty 85 = some ⟨(.int .u32), 1, 4, [.d (.v (.int .u32 0))]⟩ := rfl
theorem sz85 : tys.size 85 = some 1 := rfl
theorem ag85 : tys.agg 85 = some false := rfl
attribute [go_sem] ty85 sz85 ag85
theorem ty86 : tys.ty 86 = some ⟨.other, 1, 8, [.d (.v .nilFunc)]⟩ := rfl
theorem sz86 : tys.size 86 = some 1 := rfl
theorem ag86 : tys.agg 86 = some false := rfl
attribute [go_sem] ty86 sz86 ag86
theorem ty87 : tys.ty 87 = some ⟨(.int .u64), 1, 8, [.d (.v (.int .u64 0))]⟩ := rfl
theorem sz87 : tys.size 87 = some 1 := rfl
theorem ag87 : tys.agg 87 = some false := rfl
attribute [go_sem] ty87 sz87 ag87
theorem ty88 : tys.ty 88 = some ⟨.other, 1, 8, [.d (.v .nilFunc)]⟩ := rfl
theorem sz88 : tys.size 88 = some 1 := rfl
theorem ag88 : tys.agg 88 = some false := rfl
attribute [go_sem] ty88 sz88 ag88
theorem ty89 : tys.ty 89 = some ⟨.other, 1, 8, [.d (.v .nilFunc)]⟩ := rfl
theorem sz89 : tys.size 89 = some 1 := rfl
theorem ag89 : tys.agg 89 = some false := rfl
attribute [go_sem] ty89 sz89 ag89
theorem ty90 : tys.ty 90 = some ⟨.other, 1, 8, [.d (.v .nilFunc)]⟩ := rfl
theorem sz90 : tys.size 90 = some 1 := rfl
theorem ag90 : tys.agg 90 = some false := rfl
attribute [go_sem] ty90 sz90 ag90
theorem ty91 : tys.ty 91 = some ⟨.ptr, 1, 8, [.d (.v (.pointer none))]⟩ := rfl
theorem sz91 : tys.size 91 = some 1 := rfl
theorem ag91 : tys.agg 91 = some false := rfl
attribute [go_sem] ty91 sz91 ag91
theorem ty92 : tys.ty 92 = some ⟨.other, 1, 8, [.d (.v .nilFunc)]⟩ := rfl
theorem sz92 : tys.size 92 = some 1 := rfl
theorem ag92 : tys.agg 92 = some false := rfl
attribute [go_sem] ty92 sz92 ag92
theorem ty93 : tys.ty 93 = some ⟨.other, 1, 8, [.d (.v .nilFunc)]⟩ := rfl
theorem sz93 : tys.size 93 = some 1 := rfl
theorem ag93 : tys.agg 93 = some false := rfl
attribute [go_sem] ty93 sz93 ag93
theorem ty94 : tys.ty 94 = some ⟨.ptr, 1, 8, [.d (.v (.pointer none))]⟩ := rfl
theorem sz94 : tys.size 94 = some 1 := rfl
theorem ag94 : tys.agg 94 = some false := rfl
attribute [go_sem] ty94 sz94 ag94
theorem ty96 : tys.ty 96 = some ⟨.other, 1, 8, [.d (.v .nilFunc)]⟩ := rfl
theorem sz96 : tys.size 96 = some 1 := rfl
theorem ag96 : tys.agg 96 = some false := rfl
attribute [go_sem] ty96 sz96 ag96
theorem ty97 : tys.ty 97 = some ⟨.other, 1, 8, [.d (.v .nilFunc)]⟩ := rfl
theorem sz97 : tys.size 97 = some 1 := rfl
theorem ag97 : tys.agg 97 = some false := rfl
attribute [go_sem] ty97 sz97 ag97
theorem ty103 : tys.ty 103 = some ⟨.other, 1, 8, [.d (.v .nilFunc)]⟩ := rfl
theorem sz103 : tys.size 103 = some 1 := rfl
theorem ag103 : tys.agg 103 = some false := rfl
attribute [go_sem] ty103 sz103 ag103
theorem ty106 : tys.ty 106 = some ⟨.other, 1, 8, [.d (.v .nilFunc)]⟩ := rfl
theorem sz106 : tys.size 106 = some 1 := rfl
theorem ag106 : tys.agg 106 = some false := rfl
attribute [go_sem] ty106 sz106 ag106
theorem ty107 : tys.ty 107 = some ⟨.ptr, 1, 8, [.d (.v (.pointer none))]⟩ := rfl
theorem sz107 : tys.size 107 = some 1 := rfl
theorem ag107 : tys.agg 107 = some false := rfl
attribute [go_sem] ty107 sz107 ag107
theorem ex0 : tys.ext 0 = none := rfl
theorem ex1 : tys.ext 1 = none := rfl
theorem ex2 : tys.ext 2 = none := rfl
theorem ex3 : tys.ext 3 = none := rfl
theorem ex4 : tys.ext 4 = none := rfl
theorem ex5 : tys.ext 5 = none := rfl
theorem ex6 : tys.ext 6 = none := rfl
theorem ex7 : tys.ext 7 = none := rfl
theorem ex8 : tys.ext 8 = none := rfl
theorem ex9 : tys.ext 9 = none := rfl
theorem ex10 : tys.ext 10 = none := rfl
theorem ex11 : tys.ext 11 = none := rfl
theorem ex12 : tys.ext 12 = none := rfl
theorem ex13 : tys.ext 13 = none := rfl
theorem ex14 : tys.ext 14 = none := rfl
theorem ex15 : tys.ext 15 = none := rfl
theorem ex16 : tys.ext 16 = none := rfl
theorem ex17 : tys.ext 17 = none := rfl
theorem ex18 : tys.ext 18 = none := rfl
theorem ex19 : tys.ext 19 = none := rfl
theorem ex20 : tys.ext 20 = none := rfl
theorem ex21 : tys.ext 21 = none := rfl
theorem ex22 : tys.ext 22 = none := rfl
theorem ex23 : tys.ext 23 = none := rfl
theorem ex24 : tys.ext 24 = none := rfl
theorem ex25 : tys.ext 25 = none := rfl
theorem ex26 : tys.ext 26 = none := rfl
theorem ex27 : tys.ext 27 = none := rfl
theorem ex28 : tys.ext 28 = none := rfl
theorem ex29 : tys.ext 29 = none := rfl
theorem ex30 : tys.ext 30 = none := rfl
theorem ex31 : tys.ext 31 = none := rfl
theorem ex32 : tys.ext 32 = none := rfl
theorem ex33 : tys.ext 33 = none := rfl
theorem ex34 : tys.ext 34 = none := rfl
theorem ex35 : tys.ext 35 = none := rfl
theorem ex36 : tys.ext 36 = none := rfl
theorem ex37 : tys.ext 37 = none := rfl
theorem ex38 : tys.ext 38 = none := rfl
theorem ex39 : tys.ext 39 = none := rfl
theorem ex40 : tys.ext 40 = none := rfl
theorem ex41 : tys.ext 41 = none := rfl
theorem ex42 : tys.ext 42 = none := rfl
theorem ex43 : tys.ext 43 = none := rfl
theorem ex44 : tys.ext 44 = none := rfl
theorem ex45 : tys.ext 45 = none := rfl
theorem ex46 : tys.ext 46 = none := rfl
theorem ex47 : tys.ext 47 = none := rfl
theorem ex48 : tys.ext 48 = none := rfl
theorem ex49 : tys.ext 49 = none := rfl
theorem ex50 : tys.ext 50 = some (.overlaps 22 4) := rfl
theorem ex51 : tys.ext 51 = none := rfl
theorem ex52 : tys.ext 52 = none := rfl
theorem ex53 : tys.ext 53 = none := rfl
theorem ex54 : tys.ext 54 = none := rfl
theorem ex55 : tys.ext 55 = none := rfl
theorem ex56 : tys.ext 56 = none := rfl
theorem ex57 : tys.ext 57 = none := rfl
theorem ex58 : tys.ext 58 = none := rfl
theorem ex59 : tys.ext 59 = none := rfl
theorem ex60 : tys.ext 60 = none := rfl
theorem ex61 : tys.ext 61 = none := rfl
theorem ex62 : tys.ext 62 = none := rfl
theorem ex63 : tys.ext 63 = none := rfl
theorem ex64 : tys.ext 64 = none := rfl
theorem ex65 : tys.ext 65 = none := rfl
theorem ex66 : tys.ext 66 = none := rfl
theorem ex67 : tys.ext 67 = none := rfl
theorem ex68 : tys.ext 68 = none := rfl
theorem ex69 : tys.ext 69 = none := rfl
theorem ex70 : tys.ext 70 = none := rfl
theorem ex71 : tys.ext 71 = none := rfl
theorem ex72 : tys.ext 72 = none := rfl
theorem ex73 : tys.ext 73 = none := rfl
theorem ex74 : tys.ext 74 = none := rfl
theorem ex75 : tys.ext 75 = none := rfl
theorem ex76 : tys.ext 76 = none := rfl
theorem ex77 : tys.ext 77 = none := rfl
theorem ex78 : tys.ext 78 = none := rfl
theorem ex79 : tys.ext 79 = none := rfl
theorem ex80 : tys.ext 80 = none := rfl
theorem ex81 : tys.ext 81 = none := rfl
theorem ex82 : tys.ext 82 = none := rfl
theorem ex83 : tys.ext 83 = none := rfl
theorem ex84 : tys.ext 84 = none := rfl
theorem ex85 : tys.ext 85 = none := rfl
theorem ex86 : tys.ext 86 = none := rfl
theorem ex87 : tys.ext 87 = none := rfl
attribute [go_sem] ex0 ex1 ex2 ex3 ex4 ex5 ex6 ex7 ex8 ex9 ex10 ex11 ex12 ex13 ex14 ex15 ex16 ex17 ex18 ex19 ex20 ex21 ex22 ex23 ex24 ex25 ex26 ex27 ex28 ex29 ex30 ex31 ex32 ex33 ex34 ex35 ex36 ex37 ex38 ex39 ex40 ex41 ex42 ex43 ex44 ex45 ex46 ex47 ex48 ex49 ex50 ex51 ex52 ex53 ex54 ex55 ex56 ex57 ex58 ex59 ex60 ex61 ex62 ex63 ex64 ex65 ex66 ex67 ex68 ex69 ex70 ex71 ex72 ex73 ex74 ex75 ex76 ex77 ex78 ex79 ex80 ex81 ex82 ex83 ex84 ex85 ex86 ex87
end Go.Proofs.Ytfidbkmogileiaa
