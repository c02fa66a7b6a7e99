
/- The runner over this program: what it looks up; the functions whose answers are known; rule.Parse. rule.Parse of the text that `up` parses. -/
import Derived.Test.YtijfncaphfaijaaGreatDoorUA
import Derived.Test.YtijfncaphfaijaaGreatDoorEngR2
namespace Go.Proofs.YtijfncaphfaijaaGreatDoor
open Go.Eng
set_option linter.unusedSimpArgs false
set_option maxRecDepth 100000

noncomputable def fnOf (f : FuncId) : Option FnI := match Tryz.prog.funcs[f]? with
  | some fn => match fn.name == "runtime.NumGoroutine" with
    | true => none
    | false => match fn.body with
      | some c => some ⟨fn.ntmps, fn.results.toList, c⟩
      | none => none
  | none => none
theorem fnOf_ok : ∀ f F, fnOf f = some F → ∃ fn, Tryz.prog.funcs[f]? = some fn ∧ fn.body = some F.code ∧ (fn.name == "runtime.NumGoroutine") = false ∧ fn.ntmps = F.nt ∧ fn.results.toList = F.rs := by
  intro f F h
  unfold fnOf at h
  split at h
  · rename_i fn hf
    split at h
    · cases h
    · rename_i hn
      split at h
      · rename_i c hc
        cases h
        exact ⟨fn, hf, hc, hn, rfl, rfl⟩
      · cases h
  · cases h

/-- Functions that are walked over the caller's objects. -/
def walks : List FuncId := [148, 191, 101, 126, 68, 75, 76, 128, 146, 92, 73, 118, 72]
noncomputable def Xof (tbl : FuncId → List (Bool × List CV) → Option Res) : RCtx := ⟨tys, fnOf, tbl, fun f => walks.contains f⟩
theorem Xof_ok {tbl : FuncId → List (Bool × List CV) → Option Res} (h : ∀ f args res, tbl f args = some res → Meets Tryz.prog f args res) : RCtxOk Tryz.prog (Xof tbl) := ⟨tysOk, mixed, fnOf_ok, h⟩

noncomputable def X0 : RCtx := Xof fun _ _ => none
theorem X0_ok : RCtxOk Tryz.prog X0 := Xof_ok fun _ _ _ h => by cases h

theorem lzQ : LzOk 2305843009213691579 3 := ⟨by decide, by decide, by decide, by decide, by decide, meets_run X0_ok 40 (by kernel_rfl)⟩
theorem lzR : LzOk 1152921504606845789 4 := ⟨by decide, by decide, by decide, by decide, by decide, meets_run X0_ok 40 (by kernel_rfl)⟩
theorem lzR1 : LzOk 1152921504606845788 4 := ⟨by decide, by decide, by decide, by decide, by decide, meets_run X0_ok 40 (by kernel_rfl)⟩

def w64 : Nat := 18446744073709551616
/-- What the field's and the rings' operations answer. -/
def tbA (f : FuncId) (args : List (Bool × List CV)) : Option Res := match args with
  | [(false, [.d (.v (.int .u64 (.ofNat a)))])] => if f = 216 ∧ a < w64 then some (rOne (vU64 (p17 a : Nat))) else none
  | [(false, [.d (.v (.int .u64 (.ofNat a)))]), (false, [.d (.v (.int .u64 (.ofNat b)))])] =>
    if a < w64 ∧ b < w64 then (if f = 238 then some (rOne (vU64 (a % 2305843009213693951 * (b % 2305843009213693951) % 2305843009213693951 : Nat)))
      else if f = 180 then some (rOne (vU64 ((a % 2305843009213693951 + b % 2305843009213693951) % 2305843009213693951 : Nat)))
      else if f = 133 then some (rTup [(false, [vU64 (a * b / 18446744073709551616 : Nat)]), (false, [vU64 (a * b % 18446744073709551616 : Nat)])]) else none) else none
  | [(false, [.d (.v (.int .u64 (.ofNat m)))]), (false, [.d (.v (.int .u64 (.ofNat a)))]), (false, [.d (.v (.int .u64 (.ofNat b)))])] =>
    if f = 93 then (if (m = 2305843009213691579 ∨ m = 1152921504606845789) ∧ a < w64 ∧ b < w64 then some (rOne (vU64 (a * b % m : Nat))) else none)
    else if f = 135 then (if (b = 1152921504606845789 ∨ b = 1152921504606845788) ∧ m < b ∧ a < w64 then some (rTup [(false, [vU64 ((m * 18446744073709551616 + a) / b : Nat)]), (false, [vU64 ((m * 18446744073709551616 + a) % b : Nat)])]) else none)
    else none
  | _ => none
theorem tbA_ok (f : FuncId) (args : List (Bool × List CV)) (res : Res) (h : tbA f args = some res) : Meets Tryz.prog f args res := by
  unfold tbA at h
  split at h
  · rename_i a
    split at h
    · rename_i hf
      cases h
      rw [hf.1]
      exact seventeen_ok a hf.2
    · cases h
  · rename_i a b
    split at h
    · rename_i hab
      split at h
      · rename_i e; cases h; subst e; exact fmul_ok a b hab.1 hab.2
      · split at h
        · rename_i e; cases h; subst e; exact fadd_ok a b hab.1 hab.2
        · split at h
          · rename_i e; cases h; subst e; exact mul64_ok a b hab.1 hab.2
          · cases h
    · cases h
  · rename_i m a b
    split at h
    · rename_i e
      subst e
      split at h
      · rename_i hab
        cases h
        rcases hab.1 with rfl | rfl
        · exact rmul_ok lzQ a b hab.2.1 hab.2.2
        · exact rmul_ok lzR a b hab.2.1 hab.2.2
      · cases h
    · split at h
      · rename_i e
        subst e
        split at h
        · rename_i hab
          cases h
          rcases hab.1 with rfl | rfl
          · exact div64_ok lzR m a hab.2.2 hab.2.1
          · exact div64_ok lzR1 m a hab.2.2 hab.2.1
        · cases h
      · cases h
  · cases h
noncomputable def XA : RCtx := Xof tbA
theorem XA_ok : RCtxOk Tryz.prog XA := Xof_ok tbA_ok
end Go.Proofs.YtijfncaphfaijaaGreatDoor
namespace Go.Proofs.YtijfncaphfaijaaGreatDoor
open Go.Eng
set_option linter.unusedSimpArgs false
set_option maxRecDepth 100000

def bsA (l : List Int) : Bool × List CV := (false, [.d (.vec 1 (l.map fun b => [.v (.int .u8 b)]))])
def seqA : Code → Code
  | .seq a _ => a
  | c => c
def seqB : Code → Code
  | .seq _ b => b
  | c => c
def blkC : Code → Code
  | .block _ b => b
  | c => c
def thnC : Code → Code
  | .cond _ a _ => a
  | c => c
def elsC : Code → Code
  | .cond _ _ b => b
  | c => c
def regI : Code → Nat
  | .region i _ _ => i
  | .block i _ => i
  | _ => 0
def regO (k : Nat) : Code → Oper
  | .region _ ops _ => ops.getD k default
  | _ => default
def binT : Oper → TypeId × TypeId
  | ⟨_, .binOp _ t _ _ t2, _, _, _, _⟩ => (t, t2)
  | _ => (0, 0)
noncomputable def cP : Code := (Option.getD Tryz.f24.body Code.skip)
noncomputable def cG : Code := (Option.getD Tryz.f71.body Code.skip)
noncomputable def rP : Code := seqA (seqB (seqB cP))
noncomputable def o3 : Oper := regO 0 (seqA (blkC (seqB cG)))
noncomputable def o4 : Oper := regO 0 (thnC (seqB (blkC (seqB cG))))
noncomputable def mkP : Oper := regO 0 rP
noncomputable def dfP : Oper := regO 1 rP
noncomputable def rcG : Oper := regO 0 (seqA cG)

def textP : Bool × List CV := bsA [97, 108, 108, 111, 119, 32, 119, 101, 98, 32, 123, 32, 42, 46, 97, 59, 32, 108, 105, 102, 101, 32, 57, 59, 32, 125]
def ansP : Res := ⟨true, [(false, [.own 7 74 [[.v (.string ⟨#[119, 101, 98]⟩), .v (.bool true), .vec 1 [[.v (.string ⟨#[42, 46, 97]⟩)]], .v (.int .u64 0), .v (.int .i64 9), .v (.int .i64 0), .v (.int .i64 0)]]]), (false, [.d (.v (.int .i64 0))]), (false, [.d (.v (.int .i64 0))])]⟩

theorem bodyP : Tryz.f24.body = some (.seq (seqA cP) (.seq (seqA (seqB cP)) (.seq (.region (regI rP) #[mkP, dferOp 9 dfP.type dfP.pos dfP.after] false) (seqB (seqB (seqB cP)))))) := by kernel_rfl
theorem bodyG : Tryz.f71.body = some (.seq (.region (regI (seqA cG)) #[recOp 6 rcG.type rcG.pos rcG.after] false) (.block (regI (seqB cG)) (.seq (.region (regI (seqA (blkC (seqB cG)))) #[nilOp 8 6 (binT o3).1 (binT o3).2 o3.type o3.pos o3.after] false)
    (.cond (.tmp 8) (.region (regI (thnC (seqB (blkC (seqB cG))))) #[asgOp 3 6 o4.type o4.pos o4.after] false) (elsC (seqB (blkC (seqB cG)))))))) := by kernel_rfl

theorem parse_run : rDefer XA (runC XA 80) 27 [.cell 2 67, .cell 3 3, .cell 4 31] (seqA cP) (seqA (seqB cP)) (seqB (seqB (seqB cP))) mkP 9 71 16 [textP] = some ansP := by kernel_rfl

theorem parse_ok : Meets Tryz.prog 24 [textP] ansP :=
  meets_rDefer XA_ok 80 (fn := Tryz.f24) (fg := Tryz.f71) Tryz.func24 bodyP (by kernel_rfl) (by kernel_rfl) (by kernel_rfl) (by kernel_rfl) Tryz.func71 bodyG (by kernel_rfl) (by kernel_rfl) (by kernel_rfl) (by kernel_rfl) (by kernel_rfl) parse_run
end Go.Proofs.YtijfncaphfaijaaGreatDoor
