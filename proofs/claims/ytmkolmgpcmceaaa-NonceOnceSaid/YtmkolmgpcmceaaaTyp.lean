/- The types of this seat's program, as the machine reads them; printed by wip/tools/gentyp.py. -/
import Derived.Test.YtmkolmgpcmceaaaEngW
import Derived.Test.YtmkolmgpcmceaaaRows
namespace Go.Proofs.Ytmkolmgpcmceaaa
open Go.Eng
def tyTable : List (TypeId × TI) := [
  (1, ⟨.other, 1, 8, [.d (.v .nilFunc)]⟩),
  (2, ⟨(.int .i64), 1, 8, [.d (.v (.int .i64 0))]⟩),
  (3, ⟨(.int .i64), 1, 8, [.d (.v (.int .i64 0))]⟩),
  (4, ⟨.bool, 1, 1, [.d (.v (.bool false))]⟩),
  (12, ⟨(.int .u64), 1, 8, [.d (.v (.int .u64 0))]⟩),
  (15, ⟨.other, 1, 8, [.d (.v (.pointer none))]⟩),
  (16, ⟨.other, 1, 8, [.d (.v (.pointer none))]⟩),
  (17, ⟨.other, 1, 8, [.d (.v (.pointer none))]⟩),
  (22, ⟨.slice 41, 1, 24, [.nils 2]⟩),
  (23, ⟨.struct [(0, 3), (1, 22)], 2, 32, [.d (.v (.int .i64 0)), .nils 2]⟩),
  (24, ⟨.struct [(0, 3), (1, 22)], 2, 32, [.d (.v (.int .i64 0)), .nils 2]⟩),
  (25, ⟨.other, 1, 8, [.d (.v .nilFunc)]⟩),
  (26, ⟨.other, 1, 8, [.d (.v .nilFunc)]⟩),
  (27, ⟨(.int .i64), 1, 8, [.d (.v (.int .i64 0))]⟩),
  (28, ⟨.other, 1, 8, [.d (.v .nilFunc)]⟩),
  (29, ⟨.other, 1, 8, [.d (.v .nilFunc)]⟩),
  (30, ⟨.other, 1, 8, [.d (.v .nilFunc)]⟩),
  (31, ⟨.other, 1, 8, [.d (.v .nilFunc)]⟩),
  (33, ⟨.other, 1, 8, [.d (.v .nilFunc)]⟩),
  (35, ⟨.other, 1, 8, [.d (.v .nilFunc)]⟩),
  (36, ⟨.other, 1, 8, [.d (.v .nilFunc)]⟩),
  (37, ⟨.slice 39, 1, 24, [.nils 3]⟩),
  (38, ⟨.struct [(0, 3), (1, 3), (2, 3)], 3, 24, [.d (.v (.int .i64 0)), .d (.v (.int .i64 0)), .d (.v (.int .i64 0))]⟩),
  (39, ⟨.struct [(0, 3), (1, 3), (2, 3)], 3, 24, [.d (.v (.int .i64 0)), .d (.v (.int .i64 0)), .d (.v (.int .i64 0))]⟩),
  (40, ⟨.struct [(0, 3), (1, 3)], 2, 16, [.d (.v (.int .i64 0)), .d (.v (.int .i64 0))]⟩),
  (41, ⟨.struct [(0, 3), (1, 3)], 2, 16, [.d (.v (.int .i64 0)), .d (.v (.int .i64 0))]⟩),
  (42, ⟨.other, 1, 8, [.d (.v .nilFunc)]⟩),
  (43, ⟨.other, 1, 8, [.d (.v .nilFunc)]⟩),
  (44, ⟨.other, 1, 8, [.d (.v .nilFunc)]⟩),
  (45, ⟨.other, 1, 8, [.d (.v .nilFunc)]⟩),
  (46, ⟨.other, 1, 8, [.d (.v .nilFunc)]⟩),
  (47, ⟨.other, 1, 8, [.d (.v .nilFunc)]⟩),
  (48, ⟨.other, 1, 8, [.d (.v .nilFunc)]⟩),
  (49, ⟨.other, 1, 8, [.d (.v .nilFunc)]⟩),
  (50, ⟨.other, 1, 8, [.d (.v .nilFunc)]⟩),
  (52, ⟨.other, 1, 8, [.d (.v .nilFunc)]⟩),
  (53, ⟨.other, 1, 8, [.d (.v .nilFunc)]⟩),
  (54, ⟨.other, 1, 8, [.d (.v .nilFunc)]⟩),
  (55, ⟨.other, 1, 8, [.d (.v .nilFunc)]⟩),
  (56, ⟨(.int .u64), 1, 8, [.d (.v (.int .u64 0))]⟩),
  (57, ⟨.other, 1, 8, [.d (.v .nilFunc)]⟩),
  (63, ⟨.other, 1, 8, [.d (.v .nilFunc)]⟩),
  (64, ⟨(.int .u32), 1, 4, [.d (.v (.int .u32 0))]⟩),
  (67, ⟨.other, 1, 8, [.d (.v .nilFunc)]⟩),
  (68, ⟨.other, 1, 8, [.d (.v (.pointer none))]⟩)]
theorem tyTable_ok : tyCheckAll Try.prog tyTable = true := by kernel_rfl
theorem mixed : Try.prog.follows .mixedOrders = true := by kernel_rfl
def tys : Ctx := ⟨fun t => tyL tyTable t⟩
theorem sitOk {ro : Option Nat} {pin : Nat} : SitOk ⟨Try.prog, tys, ro, pin⟩ := ⟨ctxOk_of tyTable_ok, mixed⟩
/-- A contract, from what the body asks. -/
theorem meets {f : FuncId} {fn : Func} {code : Code} {args : List (Bool × List CV)} {res : Res} {nt : Nat} {rl : List ResultVar} (hf : Try.prog.funcs[f]? = some fn) (hb : fn.body = some code) (hname : (fn.name == "runtime.NumGoroutine") = false) (hnt : fn.ntmps = nt) (hrs : fn.results = rl.toArray) (hlen : decide (args.length ≤ nt) = true)
    (h : vc ⟨Try.prog, tys, none, 0⟩ code (RetS tys rl res) (initSt nt args)) : Meets Try.prog f args res := by
  subst hnt
  refine meets_of_body (E := ⟨Try.prog, tys, none, 0⟩) sitOk rfl hf hb hname (of_decide_eq_true hlen) ?_
  rw [hrs]; exact awp_mono (awp_vc sitOk h) fun e st h => by simpa using RetS.retQ e st h
theorem tysOk : CtxOk Try.prog tys := ctxOk_of tyTable_ok
theorem own : ownKnob Try.prog.godebug = none := by kernel_rfl
theorem laidOut : laidOutB Try.prog = true := by kernel_rfl
/-- The like, where objects are frozen as it ends. -/
theorem meetsF {f : FuncId} {fn : Func} {code : Code} {args : List (Bool × List CV)} {res : Res} {nt : Nat} {rl : List ResultVar} (hf : Try.prog.funcs[f]? = some fn) (hb : fn.body = some code) (hname : (fn.name == "runtime.NumGoroutine") = false) (hnt : fn.ntmps = nt) (hrs : fn.results = rl.toArray) (hlen : decide (args.length ≤ nt) = true)
    (h : vc ⟨Try.prog, tys, none, 0⟩ code (RetQ tys rl res) (initSt nt args)) : Meets Try.prog f args res := by
  subst hnt
  refine meets_of_body (E := ⟨Try.prog, tys, none, 0⟩) sitOk rfl hf hb hname (of_decide_eq_true hlen) ?_
  rw [hrs]; exact awp_mono (awp_vc sitOk h) fun e st h => by simpa using h
theorem ty1 : tys.ty 1 = some ⟨.other, 1, 8, [.d (.v .nilFunc)]⟩ := rfl
theorem sz1 : tys.size 1 = some 1 := rfl
theorem ag1 : tys.agg 1 = some false := rfl
attribute [go_sem] ty1 sz1 ag1
theorem ty2 : tys.ty 2 = some ⟨(.int .i64), 1, 8, [.d (.v (.int .i64 0))]⟩ := rfl
theorem sz2 : tys.size 2 = some 1 := rfl
theorem ag2 : tys.agg 2 = some false := rfl
attribute [go_sem] ty2 sz2 ag2
theorem ty3 : tys.ty 3 = some ⟨(.int .i64), 1, 8, [.d (.v (.int .i64 0))]⟩ := rfl
theorem sz3 : tys.size 3 = some 1 := rfl
theorem ag3 : tys.agg 3 = some false := rfl
attribute [go_sem] ty3 sz3 ag3
theorem ty4 : tys.ty 4 = some ⟨.bool, 1, 1, [.d (.v (.bool false))]⟩ := rfl
theorem sz4 : tys.size 4 = some 1 := rfl
theorem ag4 : tys.agg 4 = some false := rfl
attribute [go_sem] ty4 sz4 ag4
theorem ty12 : tys.ty 12 = some ⟨(.int .u64), 1, 8, [.d (.v (.int .u64 0))]⟩ := rfl
theorem sz12 : tys.size 12 = some 1 := rfl
theorem ag12 : tys.agg 12 = some false := rfl
attribute [go_sem] ty12 sz12 ag12
theorem ty15 : tys.ty 15 = some ⟨.other, 1, 8, [.d (.v (.pointer none))]⟩ := rfl
theorem sz15 : tys.size 15 = some 1 := rfl
theorem ag15 : tys.agg 15 = some false := rfl
attribute [go_sem] ty15 sz15 ag15
theorem ty16 : tys.ty 16 = some ⟨.other, 1, 8, [.d (.v (.pointer none))]⟩ := rfl
theorem sz16 : tys.size 16 = some 1 := rfl
theorem ag16 : tys.agg 16 = some false := rfl
attribute [go_sem] ty16 sz16 ag16
theorem ty17 : tys.ty 17 = some ⟨.other, 1, 8, [.d (.v (.pointer none))]⟩ := rfl
theorem sz17 : tys.size 17 = some 1 := rfl
theorem ag17 : tys.agg 17 = some false := rfl
attribute [go_sem] ty17 sz17 ag17
theorem ty22 : tys.ty 22 = some ⟨.slice 41, 1, 24, [.nils 2]⟩ := rfl
theorem sz22 : tys.size 22 = some 1 := rfl
theorem ag22 : tys.agg 22 = some false := rfl
theorem el22 : tys.elem 22 = some 41 := rfl
attribute [go_sem] ty22 sz22 ag22 el22
theorem ty23 : tys.ty 23 = some ⟨.struct [(0, 3), (1, 22)], 2, 32, [.d (.v (.int .i64 0)), .nils 2]⟩ := rfl
theorem sz23 : tys.size 23 = some 2 := rfl
theorem ag23 : tys.agg 23 = some true := rfl
theorem fl23 : tys.fields 23 = some [(0, 3), (1, 22)] := rfl
attribute [go_sem] ty23 sz23 ag23 fl23
theorem ty24 : tys.ty 24 = some ⟨.struct [(0, 3), (1, 22)], 2, 32, [.d (.v (.int .i64 0)), .nils 2]⟩ := rfl
theorem sz24 : tys.size 24 = some 2 := rfl
theorem ag24 : tys.agg 24 = some true := rfl
theorem fl24 : tys.fields 24 = some [(0, 3), (1, 22)] := rfl
attribute [go_sem] ty24 sz24 ag24 fl24
theorem ty25 : tys.ty 25 = some ⟨.other, 1, 8, [.d (.v .nilFunc)]⟩ := rfl
theorem sz25 : tys.size 25 = some 1 := rfl
theorem ag25 : tys.agg 25 = some false := rfl
attribute [go_sem] ty25 sz25 ag25
theorem ty26 : tys.ty 26 = some ⟨.other, 1, 8, [.d (.v .nilFunc)]⟩ := rfl
theorem sz26 : tys.size 26 = some 1 := rfl
theorem ag26 : tys.agg 26 = some false := rfl
attribute [go_sem] ty26 sz26 ag26
theorem ty27 : tys.ty 27 = some ⟨(.int .i64), 1, 8, [.d (.v (.int .i64 0))]⟩ := rfl
theorem sz27 : tys.size 27 = some 1 := rfl
theorem ag27 : tys.agg 27 = some false := rfl
attribute [go_sem] ty27 sz27 ag27
theorem ty28 : tys.ty 28 = some ⟨.other, 1, 8, [.d (.v .nilFunc)]⟩ := rfl
theorem sz28 : tys.size 28 = some 1 := rfl
theorem ag28 : tys.agg 28 = some false := rfl
attribute [go_sem] ty28 sz28 ag28
theorem ty29 : tys.ty 29 = some ⟨.other, 1, 8, [.d (.v .nilFunc)]⟩ := rfl
theorem sz29 : tys.size 29 = some 1 := rfl
theorem ag29 : tys.agg 29 = some false := rfl
attribute [go_sem] ty29 sz29 ag29
theorem ty30 : tys.ty 30 = some ⟨.other, 1, 8, [.d (.v .nilFunc)]⟩ := rfl
theorem sz30 : tys.size 30 = some 1 := rfl
theorem ag30 : tys.agg 30 = some false := rfl
attribute [go_sem] ty30 sz30 ag30
theorem ty31 : tys.ty 31 = some ⟨.other, 1, 8, [.d (.v .nilFunc)]⟩ := rfl
theorem sz31 : tys.size 31 = some 1 := rfl
theorem ag31 : tys.agg 31 = some false := rfl
attribute [go_sem] ty31 sz31 ag31
theorem ty33 : tys.ty 33 = some ⟨.other, 1, 8, [.d (.v .nilFunc)]⟩ := rfl
theorem sz33 : tys.size 33 = some 1 := rfl
theorem ag33 : tys.agg 33 = some false := rfl
attribute [go_sem] ty33 sz33 ag33
theorem ty35 : tys.ty 35 = some ⟨.other, 1, 8, [.d (.v .nilFunc)]⟩ := rfl
theorem sz35 : tys.size 35 = some 1 := rfl
theorem ag35 : tys.agg 35 = some false := rfl
attribute [go_sem] ty35 sz35 ag35
theorem ty36 : tys.ty 36 = some ⟨.other, 1, 8, [.d (.v .nilFunc)]⟩ := rfl
theorem sz36 : tys.size 36 = some 1 := rfl
theorem ag36 : tys.agg 36 = some false := rfl
attribute [go_sem] ty36 sz36 ag36
theorem ty37 : tys.ty 37 = some ⟨.slice 39, 1, 24, [.nils 3]⟩ := rfl
theorem sz37 : tys.size 37 = some 1 := rfl
theorem ag37 : tys.agg 37 = some false := rfl
theorem el37 : tys.elem 37 = some 39 := rfl
attribute [go_sem] ty37 sz37 ag37 el37
theorem ty38 : tys.ty 38 = some ⟨.struct [(0, 3), (1, 3), (2, 3)], 3, 24, [.d (.v (.int .i64 0)), .d (.v (.int .i64 0)), .d (.v (.int .i64 0))]⟩ := rfl
theorem sz38 : tys.size 38 = some 3 := rfl
theorem ag38 : tys.agg 38 = some true := rfl
theorem fl38 : tys.fields 38 = some [(0, 3), (1, 3), (2, 3)] := rfl
attribute [go_sem] ty38 sz38 ag38 fl38
theorem ty39 : tys.ty 39 = some ⟨.struct [(0, 3), (1, 3), (2, 3)], 3, 24, [.d (.v (.int .i64 0)), .d (.v (.int .i64 0)), .d (.v (.int .i64 0))]⟩ := rfl
theorem sz39 : tys.size 39 = some 3 := rfl
theorem ag39 : tys.agg 39 = some true := rfl
theorem fl39 : tys.fields 39 = some [(0, 3), (1, 3), (2, 3)] := rfl
attribute [go_sem] ty39 sz39 ag39 fl39
theorem ty40 : tys.ty 40 = some ⟨.struct [(0, 3), (1, 3)], 2, 16, [.d (.v (.int .i64 0)), .d (.v (.int .i64 0))]⟩ := rfl
theorem sz40 : tys.size 40 = some 2 := rfl
theorem ag40 : tys.agg 40 = some true := rfl
theorem fl40 : tys.fields 40 = some [(0, 3), (1, 3)] := rfl
attribute [go_sem] ty40 sz40 ag40 fl40
theorem ty41 : tys.ty 41 = some ⟨.struct [(0, 3), (1, 3)], 2, 16, [.d (.v (.int .i64 0)), .d (.v (.int .i64 0))]⟩ := rfl
theorem sz41 : tys.size 41 = some 2 := rfl
theorem ag41 : tys.agg 41 = some true := rfl
theorem fl41 : tys.fields 41 = some [(0, 3), (1, 3)] := rfl
attribute [go_sem] ty41 sz41 ag41 fl41
theorem ty42 : tys.ty 42 = some ⟨.other, 1, 8, [.d (.v .nilFunc)]⟩ := rfl
theorem sz42 : tys.size 42 = some 1 := rfl
theorem ag42 : tys.agg 42 = some false := rfl
attribute [go_sem] ty42 sz42 ag42
theorem ty43 : tys.ty 43 = some ⟨.other, 1, 8, [.d (.v .nilFunc)]⟩ := rfl
theorem sz43 : tys.size 43 = some 1 := rfl
theorem ag43 : tys.agg 43 = some false := rfl
attribute [go_sem] ty43 sz43 ag43
theorem ty44 : tys.ty 44 = some ⟨.other, 1, 8, [.d (.v .nilFunc)]⟩ := rfl
theorem sz44 : tys.size 44 = some 1 := rfl
theorem ag44 : tys.agg 44 = some false := rfl
attribute [go_sem] ty44 sz44 ag44
theorem ty45 : tys.ty 45 = some ⟨.other, 1, 8, [.d (.v .nilFunc)]⟩ := rfl
theorem sz45 : tys.size 45 = some 1 := rfl
theorem ag45 : tys.agg 45 = some false := rfl
attribute [go_sem] ty45 sz45 ag45
theorem ty46 : tys.ty 46 = some ⟨.other, 1, 8, [.d (.v .nilFunc)]⟩ := rfl
theorem sz46 : tys.size 46 = some 1 := rfl
theorem ag46 : tys.agg 46 = some false := rfl
attribute [go_sem] ty46 sz46 ag46
theorem ty47 : tys.ty 47 = some ⟨.other, 1, 8, [.d (.v .nilFunc)]⟩ := rfl
theorem sz47 : tys.size 47 = some 1 := rfl
theorem ag47 : tys.agg 47 = some false := rfl
attribute [go_sem] ty47 sz47 ag47
theorem ty48 : tys.ty 48 = some ⟨.other, 1, 8, [.d (.v .nilFunc)]⟩ := rfl
theorem sz48 : tys.size 48 = some 1 := rfl
theorem ag48 : tys.agg 48 = some false := rfl
attribute [go_sem] ty48 sz48 ag48
theorem ty49 : tys.ty 49 = some ⟨.other, 1, 8, [.d (.v .nilFunc)]⟩ := rfl
theorem sz49 : tys.size 49 = some 1 := rfl
theorem ag49 : tys.agg 49 = some false := rfl
attribute [go_sem] ty49 sz49 ag49
theorem ty50 : tys.ty 50 = some ⟨.other, 1, 8, [.d (.v .nilFunc)]⟩ := rfl
theorem sz50 : tys.size 50 = some 1 := rfl
theorem ag50 : tys.agg 50 = some false := rfl
attribute [go_sem] ty50 sz50 ag50
theorem ty52 : tys.ty 52 = some ⟨.other, 1, 8, [.d (.v .nilFunc)]⟩ := rfl
theorem sz52 : tys.size 52 = some 1 := rfl
theorem ag52 : tys.agg 52 = some false := rfl
attribute [go_sem] ty52 sz52 ag52
theorem ty53 : tys.ty 53 = some ⟨.other, 1, 8, [.d (.v .nilFunc)]⟩ := rfl
theorem sz53 : tys.size 53 = some 1 := rfl
theorem ag53 : tys.agg 53 = some false := rfl
attribute [go_sem] ty53 sz53 ag53
theorem ty54 : tys.ty 54 = some ⟨.other, 1, 8, [.d (.v .nilFunc)]⟩ := rfl
theorem sz54 : tys.size 54 = some 1 := rfl
theorem ag54 : tys.agg 54 = some false := rfl
attribute [go_sem] ty54 sz54 ag54
theorem ty55 : tys.ty 55 = some ⟨.other, 1, 8, [.d (.v .nilFunc)]⟩ := rfl
theorem sz55 : tys.size 55 = some 1 := rfl
theorem ag55 : tys.agg 55 = some false := rfl
attribute [go_sem] ty55 sz55 ag55
theorem ty56 : tys.ty 56 = some ⟨(.int .u64), 1, 8, [.d (.v (.int .u64 0))]⟩ := rfl
theorem sz56 : tys.size 56 = some 1 := rfl
theorem ag56 : tys.agg 56 = some false := rfl
attribute [go_sem] ty56 sz56 ag56
theorem ty57 : tys.ty 57 = some ⟨.other, 1, 8, [.d (.v .nilFunc)]⟩ := rfl
theorem sz57 : tys.size 57 = some 1 := rfl
theorem ag57 : tys.agg 57 = some false := rfl
attribute [go_sem] ty57 sz57 ag57
theorem ty63 : tys.ty 63 = some ⟨.other, 1, 8, [.d (.v .nilFunc)]⟩ := rfl
theorem sz63 : tys.size 63 = some 1 := rfl
theorem ag63 : tys.agg 63 = some false := rfl
attribute [go_sem] ty63 sz63 ag63
theorem ty64 : tys.ty 64 = some ⟨(.int .u32), 1, 4, [.d (.v (.int .u32 0))]⟩ := rfl
theorem sz64 : tys.size 64 = some 1 := rfl
theorem ag64 : tys.agg 64 = some false := rfl
attribute [go_sem] ty64 sz64 ag64
theorem ty67 : tys.ty 67 = some ⟨.other, 1, 8, [.d (.v .nilFunc)]⟩ := rfl
theorem sz67 : tys.size 67 = some 1 := rfl
theorem ag67 : tys.agg 67 = some false := rfl
attribute [go_sem] ty67 sz67 ag67
theorem ty68 : tys.ty 68 = some ⟨.other, 1, 8, [.d (.v (.pointer none))]⟩ := rfl
theorem sz68 : tys.size 68 = some 1 := rfl
theorem ag68 : tys.agg 68 = some false := rfl
attribute [go_sem] ty68 sz68 ag68
end Go.Proofs.Ytmkolmgpcmceaaa
