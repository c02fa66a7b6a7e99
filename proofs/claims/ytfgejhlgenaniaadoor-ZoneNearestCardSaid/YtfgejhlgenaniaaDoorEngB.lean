/- The abstract machine: its state, what each operation does to it, a region's run. -/
import Derived.Test.YtfgejhlgenaniaaDoorEngA
import Derived.Lib.Bytealg
import Derived.Lib.Overlaps
namespace Go.Eng

/-- What is handed over at a call, cell by cell: data; an own row. -/
inductive CV where
  | d (x : D)
  | own (k : Nat) (ety : TypeId) (rows : List (List D))

/-- A result: one value, or several. -/
structure Res where
  tup : Bool
  cs : List (Bool × List CV)

inductive TDesc where
  | int (k : IntKind) | bool | str | ptr | other
  | slice (elem : TypeId)
  | struct (fs : List (Nat × TypeId))

structure TI where
  desc : TDesc
  size : Nat
  bytes : Nat
  zero : List AV

/-- Functions without a body that are known. -/
inductive Ext where
  | overlaps (t r : TypeId)
  | cmpString | countString | indexByteString

/-- What is known ahead of a walk: types; functions without a body. -/
structure Ctx where
  ty : TypeId → Option TI
  ext : FuncId → Option Ext

structure St where
  nt : Nat
  env : List (Nat × AT)
  objs : List (Nat × Option AObj)
  next : Nat

def getO : List (Nat × Option AObj) → Nat → Option AObj
  | [], _ => none
  | (k, x) :: r, o => if o = k then x else getO r o

structure AOut where
  out : AT
  upd : List (Nat × Option AObj)
  touch : List Nat

def pureOut (t : AT) : AOut := ⟨t, [], []⟩

def Ctx.size (Γ : Ctx) (t : TypeId) : Option Nat := (Γ.ty t).map (·.size)
def Ctx.elem (Γ : Ctx) (t : TypeId) : Option TypeId := match Γ.ty t with
  | some ti => match ti.desc with
    | .slice e => some e
    | _ => none
  | none => none
def Ctx.fields (Γ : Ctx) (t : TypeId) : Option (List (Nat × TypeId)) := match Γ.ty t with
  | some ti => match ti.desc with
    | .struct fs => some fs
    | _ => none
  | none => none
def Ctx.agg (Γ : Ctx) (t : TypeId) : Option Bool := match Γ.ty t with
  | some ti => match ti.desc with
    | .struct _ => some true
    | _ => some false
  | none => none

def constT (Γ : Ctx) (t : TypeId) (v : Value) : AT := match v with
  | .slice none 0 0 => match Γ.elem t with
    | some e => match Γ.size e with
      | some k => .cs false [.nils k]
      | none => .junk
    | none => .junk
  | .int k n => .cs false [.d (.v (.int k n))]
  | .bool b => .cs false [.d (.v (.bool b))]
  | .string s => .cs false [.d (.v (.string s))]
  | .pointer none => .cs false [.d (.v (.pointer none))]
  | .nilFunc => .cs false [.d (.v .nilFunc)]
  | _ => .junk

def aval (Γ : Ctx) (env : Nat → AT) (t : TypeId) : Operand → AT
  | .tmp n => env n
  | .const v => constT Γ t v
  | .func f => .cs false [.d (.fn f [])]
  | .global _ => .junk

def AT.bool? : AT → Option Bool
  | .cs false [.d (.v (.bool b))] => some b
  | _ => none
def AT.int? : AT → Option Int
  | .cs false [.d (.v (.int _ n))] => some n
  | _ => none
def AT.one? : AT → Option AV
  | .cs false [x] => some x
  | _ => none
def AT.cells? : AT → Option (List AV)
  | .cs _ xs => some xs
  | _ => none

def unD : AV → D
  | .d x => x
  | _ => default

/-- What is captured, as data, nothing being turned. -/
def capsD (ob : Nat → Option AObj) : List CapV → Option (List D)
  | [] => some []
  | .d x :: r => (capsD ob r).map (x :: ·)
  | .ptr o off :: r => match ob o, capsD ob r with
    | some (.var cells false), some ds => some (.pt ((cells.drop off).map unD) :: ds)
    | _, _ => none

/-- A cell as data, nothing being turned. -/
def avD (ob : Nat → Option AObj) : AV → Option D
  | .d x => some x
  | .nils k => some (.vec k [])
  | .own o => match ob o with
    | some (.row k _ rows false) => some (.vec k rows)
    | _ => none
  | .ptr o off => match ob o with
    | some (.var cells false) => some (.pt ((cells.drop off).map unD))
    | _ => none
  | .clo f ks => (capsD ob ks).map (.fn f)
  | .eptr .. | .win .. | .wx .. | .yld _ | .vsl .. => none

def capT : CapV → List Nat
  | .d _ => []
  | .ptr o _ => [o]

def avT : AV → List Nat
  | .d _ | .nils _ => []
  | .own o | .ptr o _ | .eptr o .. | .win o .. | .wx o .. | .yld o | .vsl o _ => [o]
  | .clo _ caps => caps.flatMap capT

def allD (ob : Nat → Option AObj) : List AV → Option (List D)
  | [] => some []
  | x :: xs => match avD ob x, allD ob xs with
    | some d, some ds => some (d :: ds)
    | _, _ => none

/-- A cell as it is handed to a callee: an own row is used up (eat), or lent. -/
def avArg (eat : Bool) (ob : Nat → Option AObj) : AV → Option CV
  | .own o => match ob o with
    | some (.row k e rows true) => some (if eat then .own k e rows else .d (.vec k rows))
    | some (.row k _ rows false) => some (.d (.vec k rows))
    | _ => none
  | x => (avD ob x).map .d

def allArg (eat : Bool) (ob : Nat → Option AObj) : List AV → Option (List CV)
  | [] => some []
  | x :: xs => match avArg eat ob x, allArg eat ob xs with
    | some d, some ds => some (d :: ds)
    | _, _ => none

/-- The own rows among cells that may still be written. -/
def livesOf (ob : Nat → Option AObj) : List AV → List Nat
  | [] => []
  | .own o :: xs => match ob o with
    | some (.row _ _ _ true) => o :: livesOf ob xs
    | _ => livesOf ob xs
  | _ :: xs => livesOf ob xs

def splice {α : Type} (cs : List α) (off : Nat) (ys : List α) : List α := cs.take off ++ ys ++ cs.drop (off + ys.length)

def valEq : Value → Value → Option Bool
  | .int k a, .int k' b => if k = k' then some (a == b) else none
  | .bool a, .bool b => some (a == b)
  | .string a, .string b => some (a.toList == b.toList)
  | _, _ => none

def scal2 (op : BinOp) (x y : Value) : Option Value := match x, y with
  | .int k a, .int k' b => if k = k' then (match op with
      | .add => some (.int k (k.wrap (a + b)))
      | .sub => some (.int k (k.wrap (a - b)))
      | .mul => some (.int k (k.wrap (a * b)))
      | .eql => some (.bool (a == b))
      | .neq => some (.bool (a != b))
      | .lss => some (.bool (decide (a < b)))
      | .leq => some (.bool (decide (a ≤ b)))
      | .gtr => some (.bool (decide (b < a)))
      | .geq => some (.bool (decide (b ≤ a)))
      | .quo => if b = 0 then none else some (.int k (k.wrap (a.tdiv b)))
      | .rem => if b = 0 then none else some (.int k (a.tmod b))
      | .shr => if b < 0 then none else some (.int k (a.fdiv (2 ^ (min b.toNat k.bits))))
      | .shl => if b < 0 then none else some (.int k (k.wrap (a * 2 ^ (min b.toNat k.bits))))
      | _ => none) else none
  | .string a, .string b => match op with
      | .add => if a.size + b.size ≤ 9223372036854775807 then some (.string (a ++ b)) else none
      | .eql => some (.bool (a.toList == b.toList))
      | .neq => some (.bool (!(a.toList == b.toList)))
      | .lss => some (.bool (Op.bytesLess a.toList b.toList))
      | .leq => some (.bool (Op.bytesLess a.toList b.toList || a.toList == b.toList))
      | .gtr => some (.bool (!(Op.bytesLess a.toList b.toList || a.toList == b.toList)))
      | .geq => some (.bool (!Op.bytesLess a.toList b.toList))
      | _ => none
  | _, _ => none

/-- The flat fields of a struct whose fields are scalars, each of one cell, in order. -/
def flatScal (Γ : Ctx) : Nat → List (Nat × TypeId) → Bool
  | _, [] => true
  | i, (off, t) :: r => off == i && (match Γ.ty t with
      | some ti => (match ti.desc with
        | .int _ | .bool | .str => ti.size == 1
        | _ => false)
      | none => false) && flatScal Γ (i + 1) r

def kindFits (Γ : Ctx) (t : TypeId) (v : Value) : Bool := match Γ.ty t with
  | some ti => match ti.desc, v with
    | .int _, .int _ _ => true
    | .bool, .bool _ => true
    | .str, .string _ => true
    | _, _ => false
  | none => false

def cellsEq (Γ : Ctx) : List (Nat × TypeId) → List AV → List AV → Option Bool
  | [], [], [] => some true
  | (_, t) :: fs, .d (.v a) :: xs, .d (.v b) :: ys => if kindFits Γ t a && kindFits Γ t b then
      match valEq a b, cellsEq Γ fs xs ys with
      | some e, some r => some (e && r)
      | _, _ => none
    else none
  | _, _, _ => none

/-- A pointer against nil. -/
def isPtr : AV → Option Bool
  | .ptr .. | .eptr .. | .d (.pt _) => some true
  | .d (.v (.pointer none)) => some false
  | _ => none

/-- A pointer against nil. -/
def ptrNil (Γ : Ctx) (op : BinOp) (t : TypeId) (x : AV) : Option AT := match isPtr x, (match Γ.ty t with | some ti => ti.desc | none => .other) with
  | some b, .ptr => match op with
    | .eql => some (.cs false [.d (.v (.bool (!b)))])
    | .neq => some (.cs false [.d (.v (.bool b))])
    | _ => none
  | _, _ => none

def binA (Γ : Ctx) (op : BinOp) (t : TypeId) (x y : AT) : Option AT := match x, y with
  | .cs false [p], .cs false [.d (.v (.pointer none))] => ptrNil Γ op t p
  | .cs false [.d (.v a)], .cs false [.d (.v b)] => match a, b with
    | .bool p, .bool q => match op, Γ.ty t with
      | .eql, some ti => match ti.desc with
        | .bool => some (.cs false [.d (.v (.bool (p == q)))])
        | _ => none
      | .neq, some ti => match ti.desc with
        | .bool => some (.cs false [.d (.v (.bool (!(p == q))))])
        | _ => none
      | _, _ => none
    | _, _ => (scal2 op a b).map fun v => .cs false [.d (.v v)]
  | .cs true xs, .cs true ys => match Γ.fields t with
    | some fs => if flatScal Γ 0 fs then match op, cellsEq Γ fs xs ys with
      | .eql, some b => some (.cs false [.d (.v (.bool b))])
      | .neq, some b => some (.cs false [.d (.v (.bool (!b)))])
      | _, _ => none
      else none
    | none => none
  | _, _ => none

def loadC (Γ : Ctx) (t : TypeId) (cells : List AV) : Option AT := match Γ.agg t, Γ.size t with
  | some true, some k => if k ≤ cells.length then some (.cs true (cells.take k)) else none
  | some false, some _ => match cells with
    | x :: _ => some (.cs false [x])
    | [] => none
  | _, _ => none

def fillA (Γ : Ctx) (ev : TypeId → Operand → AT) (fs : List (Nat × TypeId)) : List AV → List (Nat × Operand) → Option (List AV)
  | cells, [] => some cells
  | cells, (i, x) :: rest => match fs[i]? with
    | some (off, t) => match Γ.size t, (ev t x).cells? with
      | some k, some ys => if ys.length = k ∧ off + k ≤ cells.length then fillA Γ ev fs (splice cells off ys) rest else none
      | _, _ => none
    | none => none

def fillRows (ob : Nat → Option AObj) (ev : TypeId → Operand → AT) (e : TypeId) (k : Nat) : List (List D) → List (Nat × Operand) → Option (List (List D) × List Nat)
  | rows, [] => some (rows, [])
  | rows, (i, x) :: rest => match (ev e x).cells? with
    | some ys => match allD ob ys with
      | some ds => if ds.length = k ∧ i < rows.length then (fillRows ob ev e k (rows.set i ds) rest).map fun r => (r.1, ys.flatMap avT ++ r.2) else none
      | none => none
    | none => none

def partA (Γ : Ctx) (t : TypeId) (cells : List AV) (off : Nat) : Option AT := match Γ.agg t, Γ.size t with
  | some true, some k => if off + k ≤ cells.length then some (.cs true ((cells.drop off).take k)) else none
  | some false, some _ => match cells[off]? with
    | some x => some (.cs false [x])
    | none => none
  | _, _ => none

def optInt (ev : TypeId → Operand → AT) (d : Nat) : Option Operand → Option Int
  | none => some d
  | some x => (ev 0 x).int?

/-- The rows of a slice that is read. -/
def rowsOf (ob : Nat → Option AObj) : AV → Option (Nat × List (List D) × List Nat)
  | .d (.vec k rows) => some (k, rows, [])
  | .nils k => some (k, [], [])
  | .own o => match ob o with
    | some (.row k _ rows _) => some (k, rows, [o])
    | _ => none
  | .win o k lo n => match ob o with
    | some (.row k' _ rows _) => if k = k' ∧ lo + n ≤ rows.length then some (k, (rows.drop lo).take n, [o]) else none
    | _ => none
  | .wx o k lo n => match ob o with
    | some (.row k' _ rows _) => if k = k' ∧ lo + n ≤ rows.length then some (k, (rows.drop lo).take n, [o]) else none
    | _ => none
  | _ => none

def resAVs : Nat → List CV → List AV × List (Nat × Option AObj)
  | _, [] => ([], [])
  | n, .d x :: r => (.d x :: (resAVs n r).1, (resAVs n r).2)
  | n, .own k e rows :: r => (.own n :: (resAVs (n + 1) r).1, (n, some (.row k e rows true)) :: (resAVs (n + 1) r).2)

def ownsIn : List CV → Nat
  | [] => 0
  | .d _ :: r => ownsIn r
  | .own .. :: r => ownsIn r + 1

def resComps : Nat → List (Bool × List CV) → List (Bool × List AV) × List (Nat × Option AObj)
  | _, [] => ([], [])
  | n, (g, cs) :: r => ((g, (resAVs n cs).1) :: (resComps (n + ownsIn cs) r).1, (resAVs n cs).2 ++ (resComps (n + ownsIn cs) r).2)

def CV.scalar : CV → Bool
  | .d (.v _) => true
  | _ => false

def Res.scalar (r : Res) : Bool := r.cs.all fun c => c.2.all CV.scalar

def Res.out (r : Res) (n : Nat) : Option (AT × List (Nat × Option AObj)) :=
  if r.tup then some (.tup (resComps n r.cs).1, (resComps n r.cs).2)
  else match r.cs with
    | [(g, cs)] => some (.cs g (resAVs n cs).1, (resAVs n cs).2)
    | _ => none

def argsOf (ev : TypeId → Operand → AT) : List Operand → List TypeId → Option (List (Bool × List AV))
  | [], _ => some []
  | x :: xs, ts => match ev (ts.headD 0) x, argsOf ev xs ts.tail with
    | .cs g ys, some r => some ((g, ys) :: r)
    | _, _ => none

/-- The arguments of a call, each with whether its own rows are used up. -/
def convArgs (ob : Nat → Option AObj) : List Bool → List (Bool × List AV) → Option (List (Bool × List CV))
  | _, [] => some []
  | es, (g, ys) :: r => match allArg (es.headD false) ob ys, convArgs ob es.tail r with
    | some cs, some r' => some ((g, cs) :: r')
    | _, _ => none

def eatenOf (ob : Nat → Option AObj) : List Bool → List (Bool × List AV) → List Nat
  | _, [] => []
  | es, (_, ys) :: r => (match es.headD false with | true => livesOf ob ys | false => []) ++ eatenOf ob es.tail r

def lentOf (ob : Nat → Option AObj) : List Bool → List (Bool × List AV) → List Nat
  | _, [] => []
  | es, (_, ys) :: r => (match es.headD false with | true => [] | false => livesOf ob ys) ++ lentOf ob es.tail r

def frz (ob : Nat → Option AObj) (o : Nat) : Nat × Option AObj := (o, match ob o with
  | some (.row k e rows _) => some (.row k e rows false)
  | x => x)

/-- What a call does to the caller's objects: what is used up is gone; what is lent is still from then on, unless the answer holds no memory. -/
def callUpd (ob : Nat → Option AObj) (es : List Bool) (args : List (Bool × List AV)) (sc : Bool) : List (Nat × Option AObj) :=
  (eatenOf ob es args).map (fun o => (o, none)) ++ (match sc with | true => [] | false => (lentOf ob es args).map (frz ob))

def callOk (ob : Nat → Option AObj) (es : List Bool) (args : List (Bool × List AV)) (n : Nat) : Bool :=
  decide (n ≤ 8) && decide (eatenOf ob es args).Nodup && (lentOf ob es args).all (fun o => !(eatenOf ob es args).contains o)

def callTouch (args : List (Bool × List AV)) : List Nat := args.flatMap fun a => a.2.flatMap avT

/-- What is captured where some of it is no data: pointers to own variables beside data. -/
def capsOf (ob : Nat → Option AObj) : List AV → Option (List CapV)
  | [] => some []
  | .ptr o off :: xs => (capsOf ob xs).map fun r => .ptr o off :: r
  | x :: xs => match avD ob x, capsOf ob xs with
    | some d, some ds => some (.d d :: ds)
    | _, _ => none

def onesOf (ev : TypeId → Operand → AT) : List Operand → Option (List AV)
  | [] => some []
  | x :: xs => match (ev 0 x).one?, onesOf ev xs with
    | some y, some ys => some (y :: ys)
    | _, _ => none

def foldInts (f : Int → Int → Int) (k : IntKind) : Int → List AT → Option Int
  | a, [] => some a
  | a, .cs false [.d (.v (.int k' b))] :: r => if k' = k then foldInts f k (f a b) r else none
  | _, _ => none

/-- The row that is appended to. -/
def headOf (ob : Nat → Option AObj) (e : TypeId) : AV → Option (Nat × List (List D) × List Nat)
  | .nils k => some (k, [], [])
  | .own o => match ob o with
    | some (.row k ety rows true) => if ety = e then some (k, rows, [o]) else none
    | _ => none
  | _ => none

def appendA (Γ : Ctx) (N : Nat) (ob : Nat → Option AObj) (t t2 : TypeId) (s x : AV) : Option AOut :=
  match Γ.elem t, (if t = t2 then some () else none) with
  | some e, some _ => match Γ.ty e with
    | some ti =>
      match rowsOf ob x with
      | some (k2, rows2, tx) =>
        match headOf ob e s with
        | some (k, rows, ts) =>
          if k = k2 ∧ k = ti.size ∧ ti.zero.length = ti.size ∧ 0 < k ∧ rows.length + rows2.length ≤ 9223372036854775807 ∧ (rows.length + rows2.length) * ti.bytes ≤ 140737488355328 ∧ (∀ o ∈ ts, o ∉ tx) then
            some ⟨.cs false [.own N], (N, some (.row k e (rows ++ rows2) true)) :: ts.map (fun o => (o, none)), ts ++ tx⟩
          else none
        | none => none
      | none => none
    | none => none
  | _, _ => none

/-- An append to a window of an own row that has the room: in place. -/
def appendW (Γ : Ctx) (ob : Nat → Option AObj) (t t2 : TypeId) (oo k lo n : Nat) (x : AV) : Option AOut :=
  match Γ.elem t, (if t = t2 then some () else none) with
  | some e, some _ => match Γ.size e with
    | some sz => match rowsOf ob x, ob oo with
      | some (k2, rows2, tx), some (.row k3 ety rows true) => if k = k2 ∧ k = k3 ∧ k = sz ∧ ety = e ∧ lo + n + rows2.length ≤ rows.length then
          some ⟨.cs false [.win oo k lo (n + rows2.length)], [(oo, some (.row k ety (splice rows (lo + n) rows2) true))], oo :: tx⟩
        else none
      | _, _ => none
    | none => none
  | _, _ => none

/-- A window is made zero. -/
def clearW (Γ : Ctx) (ob : Nat → Option AObj) (t : TypeId) (oo k lo n : Nat) : Option AOut :=
  match Γ.elem t with
  | some e => match Γ.ty e with
    | some ti => match allD ob ti.zero, ob oo with
      | some z, some (.row k3 ety rows true) => if k = k3 ∧ k = ti.size ∧ z.length = ti.size ∧ lo + n ≤ rows.length then
          some ⟨.tup [], [(oo, some (.row k ety (splice rows lo (List.replicate n z)) true))], oo :: ti.zero.flatMap avT⟩
        else none
      | _, _ => none
    | none => none
  | none => none

def sliceA (Γ : Ctx) (ob : Nat → Option AObj) (ev : TypeId → Operand → AT) (t : TypeId) (x : AV) (lo hi mx : Option Operand) : Option AOut :=
  match x with
  | .d (.v (.string s)) => match Γ.ty t with
    | some ti => match ti.desc, optInt ev 0 lo, optInt ev s.size hi, mx with
      | .str, some l, some h, none => if 0 ≤ l ∧ l ≤ h ∧ h ≤ s.size then some (pureOut (.cs false [.d (.v (.string (s.extract l.toNat h.toNat)))])) else none
      | _, _, _, _ => none
    | none => none
  | x => match Γ.elem t with
    | some e => match Γ.size e, rowsOf ob x with
      | some k, some (_, rows0, tc) => match mx with
        | some m => match optInt ev 0 lo, (ev 0 m).int?, (match hi with | some h => (ev 0 h).int? | none => none) with
          | some l, some m, some h => if l = 0 ∧ m = 0 ∧ h = 0 then some ⟨.cs false [.nils k], [], tc⟩
            else if 0 ≤ l ∧ l ≤ h ∧ h ≤ m ∧ m ≤ rows0.length then some ⟨.junk, [], tc⟩ else none
          | _, _, _ => none
        | none => match avD ob x with
          | some (.vec k3 rows3) => match optInt ev 0 lo, optInt ev rows3.length hi with
            | some l, some h => if k = k3 ∧ 0 ≤ l ∧ l ≤ h ∧ h ≤ rows3.length then some ⟨.cs false [.d (.vec k ((rows3.take h.toNat).drop l.toNat))], [], avT x⟩ else none
            | _, _ => none
          | some _ => none
          | none => match x with
            | .own oo => match ob oo, optInt ev 0 lo, optInt ev rows0.length hi with
              | some (.row k3 _ _ _), some l, some h => if k = k3 ∧ 0 ≤ l ∧ l ≤ h ∧ h ≤ rows0.length then some ⟨.cs false [.win oo k l.toNat (h.toNat - l.toNat)], [], [oo]⟩ else none
              | _, _, _ => none
            | .win oo k3 lo0 n0 => match ob oo, optInt ev 0 lo, optInt ev n0 hi with
              | some (.row _ _ rows3 _), some l, some h => if k = k3 ∧ 0 ≤ l ∧ l ≤ h ∧ lo0 + h ≤ rows3.length then some ⟨.cs false [.win oo k (lo0 + l.toNat) (h.toNat - l.toNat)], [], [oo]⟩ else none
              | _, _, _ => none
            | _ => none
      | _, _ => none
    | none => none

def aop0 (Γ : Ctx) (N : Nat) (ev : TypeId → Operand → AT) (ob : Nat → Option AObj) (o : Oper) : Option AOut :=
  match o.op with
  | .move x | .assign x => some (pureOut (ev o.type x))
  | .pick c a b => (ev 0 c).bool?.map fun q => pureOut (if q then ev o.type a else ev o.type b)
  | .alloc e => (Γ.ty e).map fun ti => ⟨.cs false [.ptr N 0], [(N, some (.var ti.zero true))], []⟩
  | .box e x => (ev e x).cells?.map fun ys => ⟨.cs false [.ptr N 0], [(N, some (.var ys true))], []⟩
  | .build t parts => match Γ.ty t, Γ.fields t with
    | some ti, some fs => (fillA Γ ev fs ti.zero parts.toList).map fun cells => pureOut (.cs true cells)
    | _, _ => none
  | .buildSlice t len parts => match Γ.elem t with
    | some e => match Γ.ty e with
      | some ti => match allD ob ti.zero with
        | some z => if z.length = ti.size ∧ 0 < ti.size ∧ len * ti.size ≤ 16777216 ∧ len ≤ 9223372036854775807 then
            (fillRows ob ev e ti.size (List.replicate len z) parts.toList).map fun r => ⟨.cs false [.own N], [(N, some (.row ti.size e r.1 true))], ti.zero.flatMap avT ++ r.2⟩
          else none
        | none => none
      | none => none
    | none => none
  | .load t a => match (ev 0 a).one? with
    | some (.ptr oo off) => match ob oo with
      | some (.var cells _) => (loadC Γ t (cells.drop off)).map fun r => ⟨r, [], [oo]⟩
      | _ => none
    | some (.d (.pt cells)) => (loadC Γ t (cells.map .d)).map pureOut
    | some (.eptr oo k i j) => match ob oo with
      | some (.row k' _ rows _) => if k = k' then match rows[i]? with
          | some r => (loadC Γ t ((r.drop j).map .d)).map fun r => ⟨r, [], [oo]⟩
          | none => none
        else none
      | _ => none
    | _ => none
  | .store t a x => match (ev 0 a).one?, (ev t x).cells?, Γ.size t with
    | some (.ptr oo off), some ys, some k => match ob oo with
      | some (.var cells true) => if ys.length = k ∧ off + k ≤ cells.length then some ⟨.undef, [(oo, some (.var (splice cells off ys) true))], [oo]⟩ else none
      | _ => none
    | some (.eptr oo kk i j), some ys, some k => match ob oo, allD ob ys with
      | some (.row k' e rows true), some ds => if kk = k' ∧ ds.length = k ∧ j + k ≤ kk then match rows[i]? with
          | some r => some ⟨.undef, [(oo, some (.row kk e (rows.set i (splice r j ds)) true))], oo :: ys.flatMap avT⟩
          | none => none
        else none
      | _, _ => none
    | _, _, _ => none
  | .nilCheck x => match (ev 0 x).one? with
    | some (.ptr a b) => some (pureOut (.cs false [.ptr a b]))
    | some (.eptr a b c d) => some (pureOut (.cs false [.eptr a b c d]))
    | some (.d (.pt c)) => some (pureOut (.cs false [.d (.pt c)]))
    | some (.d (.fn f c)) => some (pureOut (.cs false [.d (.fn f c)]))
    | _ => none
  | .binOp op t x y _ => (binA Γ op t (ev t x) (ev t y)).map pureOut
  | .unOp op t x => match op, ev t x with
    | .not, .cs false [.d (.v (.bool b))] => some (pureOut (.cs false [.d (.v (.bool (!b)))]))
    | .neg, .cs false [.d (.v (.int k n))] => some (pureOut (.cs false [.d (.v (.int k (k.wrap (0 - n))))]))
    | _, _ => none
  | .convert s t x => match ev s x, Γ.ty s, Γ.ty t with
    | .cs false [.d (.v (.string b))], some si, some ti => match si.desc, ti.desc with
      | .str, .str => some (pureOut (.cs false [.d (.v (.string b))]))
      | _, _ => none
    | .cs false [.d (.v (.int _ n))], some si, some ti => match si.desc, ti.desc with
      | .int _, .int k => some (pureOut (.cs false [.d (.v (.int k (k.wrap n)))]))
      | _, _ => none
    | _, _, _ => none
  | .makeFunc (.func f) first captured => if first.size = 0 then
      match onesOf ev captured.toList with
      | some cs => match allD ob cs with
        | some ds => some ⟨.cs false [.d (.fn f ds)], [], cs.flatMap avT⟩
        | none => match capsOf ob cs with
          | some ks => some ⟨.cs false [.clo f ks], [], cs.flatMap avT⟩
          | none => none
      | none => none
    else none
  | .slice t x lo hi mx => match (ev t x).one? with
    | some v => sliceA Γ ob ev t v lo hi mx
    | none => none
  | .fieldAddr t x i => match (ev 0 x).one?, Γ.fields t with
    | some v, some fs => match fs[i]? with
      | some (off, ft) => match Γ.size ft with
        | some k => if k = 0 then none else match v with
          | .ptr oo f => some (pureOut (.cs false [.ptr oo (f + off)]))
          | .d (.pt cells) => some (pureOut (.cs false [.d (.pt (cells.drop off))]))
          | .eptr oo k i j => some (pureOut (.cs false [.eptr oo k i (j + off)]))
          | _ => none
        | none => none
      | none => none
    | _, _ => none
  | .field t x i => match ev t x, Γ.fields t with
    | .cs true cells, some fs => match fs[i]? with
      | some (off, ft) => (partA Γ ft cells off).map pureOut
      | none => none
    | _, _ => none
  | .indexAddr t x i => match (ev t x).one?, (ev 0 i).int?, Γ.elem t with
    | some v, some n, some e => match Γ.size e with
      | some k => match v with
        | .d (.vec k' rows) => if k = k' ∧ 0 < k ∧ 0 ≤ n then match rows[n.toNat]? with
            | some r => some (pureOut (.cs false [.d (.pt r)]))
            | none => none
          else none
        | .own oo => match ob oo with
          | some (.row k' _ rows _) => if k = k' ∧ 0 ≤ n ∧ n < rows.length then some ⟨.cs false [.eptr oo k n.toNat 0], [], [oo]⟩ else none
          | _ => none
        | _ => none
      | none => none
    | _, _, _ => none
  | .index t x i => match ev t x, (ev 0 i).int?, Γ.ty t with
    | .cs false [.d (.v (.string s))], some n, some ti => match ti.desc with
      | .str => if 0 ≤ n then (s[n.toNat]?).map fun b => pureOut (.cs false [.d (.v (.int .u8 b.toNat))]) else none
      | _ => none
    | _, _, _ => none
  | .extract t i => match ev 0 t with
    | .tup ts => match ts[i]? with
      | some (g, xs) => some (pureOut (.cs g xs))
      | none => none
    | _ => none
  | .call c => match c.callee with
    | .builtin .len => match c.args.toList, c.argTypes.toList with
      | [x], [t] => match (ev t x).one?, Γ.ty t with
        | some v, some ti => match ti.desc with
          | .str => match v with
            | .d (.v (.string s)) => some (pureOut (.cs false [.d (.v (.int .i64 s.size))]))
            | _ => none
          | .slice _ => (rowsOf ob v).map fun r => ⟨.cs false [.d (.v (.int .i64 r.2.1.length))], [], r.2.2⟩
          | _ => none
        | _, _ => none
      | _, _ => none
    | .builtin .append => match c.args.toList, c.argTypes.toList with
      | [s, x], [t, t2] => match (ev t s).one?, (ev t2 x).one? with
        | some (.win oo k lo n), some vx => appendW Γ ob t t2 oo k lo n vx
        | some vs, some vx => appendA Γ N ob t t2 vs vx
        | _, _ => none
      | _, _ => none
    | .builtin .clear => match c.args.toList, c.argTypes.toList with
      | [s], [t] => match (ev t s).one? with
        | some (.win oo k lo n) => clearW Γ ob t oo k lo n
        | _ => none
      | _, _ => none
    | .builtin .max => match c.args.toList.map (ev o.type) with
      | .cs false [.d (.v (.int k a))] :: r => (foldInts (fun x y => if x < y then y else x) k a r).map fun n => pureOut (.cs false [.d (.v (.int k n))])
      | _ => none
    | .builtin .min => match c.args.toList.map (ev o.type) with
      | .cs false [.d (.v (.int k a))] :: r => (foldInts (fun x y => if y < x then y else x) k a r).map fun n => pureOut (.cs false [.d (.v (.int k n))])
      | _ => none
    | _ => none
  | _ => none

/-! ### Headers of rows with all their room; functions without a body -/

def isWx : AV → Bool
  | .wx .. => true
  | _ => false

def wxT : AT → Bool
  | .cs false [.wx ..] => true
  | _ => false

def vslT : AT → Bool
  | .cs false [.vsl ..] => true
  | _ => false

def isOther : TDesc → Bool
  | .other => true
  | _ => false

/-- A type of slices of function values. -/
def fnsT (Γ : Ctx) (t : TypeId) : Bool := match Γ.elem t with
  | some e => match Γ.ty e with
    | some ti => isOther ti.desc
    | none => false
  | none => false

def fillV (ev : TypeId → Operand → AT) (e : TypeId) : List AV → List (Nat × Operand) → Option (List AV)
  | cells, [] => some cells
  | cells, (i, x) :: rest => match (ev e x).cells? with
    | some ys => match ys with
      | [y] => if i < cells.length then fillV ev e (cells.set i y) rest else none
      | _ => none
    | none => none

def buildV (Γ : Ctx) (N : Nat) (ev : TypeId → Operand → AT) (t : TypeId) (len : Nat) (parts : List (Nat × Operand)) : Option AOut := match Γ.elem t with
  | some e => match Γ.ty e with
    | some ti => match ti.zero with
      | [z] => if ti.size = 1 ∧ 0 < len ∧ len ≤ 16777216 then (fillV ev e (List.replicate len z) parts).map fun cells => ⟨.cs false [.vsl N len], [(N, some (.var cells true))], []⟩ else none
      | _ => none
    | none => none
  | none => none

def idxV (Γ : Ctx) (t : TypeId) (oo n : Nat) (i : Int) : Option AOut := match Γ.elem t with
  | some e => match Γ.size e with
    | some k => if k = 1 ∧ 0 ≤ i ∧ i < n then some ⟨.cs false [.ptr oo i.toNat], [], [oo]⟩ else none
    | none => none
  | none => none

def itOf : Option AObj → Option (ByteArray × Nat)
  | some (.it s pos) => some (s, pos)
  | _ => none

def rangeA (Γ : Ctx) (N : Nat) (t : TypeId) : AT → Option AOut
  | .cs false [.d (.v (.string s))] => match Γ.ty t with
    | some ti => match ti.desc with
      | .str => some ⟨.cs false [.ptr N 0], [(N, some (.it s 0))], []⟩
      | _ => none
    | none => none
  | _ => none

def nextIt (oo : Nat) (s : ByteArray) (pos : Nat) : AOut := if pos < s.size then
    ⟨.tup [(false, [.d (.v (.bool true))]), (false, [.d (.v (.int .i64 pos))]), (false, [.d (.v (.int .i32 (Utf8.decode s pos).1))])], [(oo, some (.it s (pos + (Utf8.decode s pos).2)))], [oo]⟩
  else ⟨.tup [(false, [.d (.v (.bool false))])], [], [oo]⟩

def nextA (ob : Nat → Option AObj) (str : Bool) : AT → Option AOut
  | .cs false [.ptr oo off] => match itOf (ob oo) with
    | some (s, pos) => if off = 0 ∧ str = true then some (nextIt oo s pos) else none
    | none => none
  | _ => none

/-- Is it an operation that is told here? -/
def isX (Γ : Ctx) (ev : TypeId → Operand → AT) (o : Oper) : Bool := match o.op with
  | .slice t x _ _ _ => wxT (ev t x)
  | .range .. => true
  | .next .. => true
  | .buildSlice t _ _ => fnsT Γ t
  | .indexAddr t x _ => vslT (ev t x)
  | .call c => match c.callee with
    | .builtin .cap => true
    | .builtin .len => match c.args.toList, c.argTypes.toList with
      | [x], [t] => vslT (ev t x)
      | _, _ => false
    | .builtin .copy => true
    | .builtin .append => match c.args.toList, c.argTypes.toList with
      | s :: _, t :: _ => wxT (ev t s)
      | _, _ => false
    | .value (.func f) => (Γ.ext f).isSome
    | _ => false
  | _ => false

/-- A function without a body, of scalars. -/
def extS : Ext → List AV → Option AT
  | .cmpString, [.d (.v (.string a)), .d (.v (.string b))] => some (.cs false [.d (.v (.int .i64 (Lib.compareBytes a.data.toList b.data.toList)))])
  | .countString, [.d (.v (.string s)), .d (.v (.int .u8 c))] => some (.cs false [.d (.v (.int .i64 (Lib.countByte s.data.toList c.toNat.toUInt8 : Nat)))])
  | .indexByteString, [.d (.v (.string s)), .d (.v (.int .u8 c))] => some (.cs false [.d (.v (.int .i64 (Lib.indexByte s.data.toList c.toNat.toUInt8)))])
  | _, _ => none

/-- Two own rows do not overlap. -/
def overA (Γ : Ctx) (ob : Nat → Option AObj) (t : TypeId) (o1 o2 lo n : Nat) : Option AOut := match Γ.elem t with
  | some e => match Γ.size e, ob o1, ob o2 with
    | some _, some (.row ..), some (.row _ _ rows _) => if o1 ≠ o2 ∧ lo + n ≤ rows.length then some ⟨.cs false [.d (.v (.bool false))], [], [o1, o2]⟩ else none
    | _, _, _ => none
  | none => none

def extA (Γ : Ctx) (ob : Nat → Option AObj) (e : Ext) (xs : List AV) : Option AOut := match e, xs with
  | .overlaps t _, [.own o1, .wx o2 _ lo n] => overA Γ ob t o1 o2 lo n
  | e, xs => (extS e xs).map pureOut

def sliceX (Γ : Ctx) (ob : Nat → Option AObj) (ev : TypeId → Operand → AT) (t : TypeId) (oo k lo0 n0 : Nat) (lo hi : Option Operand) : Option AOut := match Γ.elem t with
  | some e => match ob oo, Γ.size e, optInt ev 0 lo, optInt ev n0 hi with
    | some (.row _ _ rows _), some sz, some l, some h => if k = sz ∧ 0 ≤ l ∧ l ≤ h ∧ lo0 + h ≤ rows.length ∧ lo0 + n0 ≤ rows.length then some ⟨.cs false [.wx oo k (lo0 + l.toNat) (h.toNat - l.toNat)], [], [oo]⟩ else none
    | _, _, _, _ => none
  | none => none

def isInt : TDesc → Bool
  | .int _ => true
  | _ => false

/-- What is appended: rows; so many zero rows. -/
def newRows (Γ : Ctx) (ob : Nat → Option AObj) (ev : TypeId → Operand → AT) (t t2 : TypeId) (e : TI) (x : Operand) : Option (Nat × List (List D) × List Nat) :=
  if t = t2 then match (ev t2 x).one? with
    | some v => rowsOf ob v
    | none => none
  else match Γ.ty t2 with
    | some ti2 => match isInt ti2.desc, ev t2 x, allD (fun _ => none) e.zero with
      | true, .cs false [.d (.v (.int .i64 m))], some z => if 0 ≤ m ∧ m ≤ 9223372036854775807 ∧ z.length = e.size then some (e.size, List.replicate m.toNat z, []) else none
      | _, _, _ => none
    | none => none

def appendX (Γ : Ctx) (N : Nat) (ob : Nat → Option AObj) (ev : TypeId → Operand → AT) (t t2 : TypeId) (x : Operand) (oo k lo n : Nat) : Option AOut := match Γ.elem t with
  | some e => match Γ.ty e with
    | some ti => match newRows Γ ob ev t t2 ti x, ob oo with
      | some (k2, rows2, tx), some (.row k3 ety rows true) => if k = k2 ∧ k = k3 ∧ k = ti.size ∧ ti.zero.length = ti.size ∧ 0 < k ∧ ety = e ∧ lo + n ≤ rows.length ∧ n + rows2.length ≤ 9223372036854775807 ∧ (n + rows2.length) * ti.bytes ≤ 140737488355328 then
          (if lo + n + rows2.length ≤ rows.length then (if t = t2 then some ⟨.cs false [.wx oo k lo (n + rows2.length)], [(oo, some (.row k ety (splice rows (lo + n) rows2) true))], oo :: tx⟩ else none)
          else some ⟨.cs false [.own N], [(N, some (.row k e ((rows.drop lo).take n ++ rows2) true))], oo :: tx⟩)
        else none
      | _, _ => none
    | none => none
  | none => none

/-- Where a header's rows lie. -/
def dstOf (ob : Nat → Option AObj) : AV → Option (Nat × Nat × Nat × Nat)
  | .own o => match ob o with
    | some (.row k _ rows _) => some (o, k, 0, rows.length)
    | _ => none
  | .win o k lo n => some (o, k, lo, n)
  | .wx o k lo n => some (o, k, lo, n)
  | _ => none

def copyX (Γ : Ctx) (ob : Nat → Option AObj) (t t2 : TypeId) (x y : AV) : Option AOut := match Γ.elem t with
  | some e => match Γ.size e, dstOf ob x, rowsOf ob y with
    | some sz, some (oo, k, lo, n), some (k2, rows2, tx) => match ob oo with
      | some (.row k3 ety rows true) => if k = k2 ∧ k = k3 ∧ k = sz ∧ t = t2 ∧ lo + n ≤ rows.length then
          some ⟨.cs false [.d (.v (.int .i64 (min rows2.length n : Nat)))], [(oo, some (.row k ety (splice rows lo (rows2.take (min rows2.length n))) true))], oo :: tx⟩
        else none
      | _ => none
    | _, _, _ => none
  | none => none

def capX (ob : Nat → Option AObj) : AV → Option AOut
  | .wx o _ lo _ => match ob o with
    | some (.row _ _ rows _) => some ⟨.cs false [.d (.v (.int .i64 (rows.length - lo : Nat)))], [], [o]⟩
    | _ => none
  | _ => none

def aopX (Γ : Ctx) (N : Nat) (ev : TypeId → Operand → AT) (ob : Nat → Option AObj) (o : Oper) : Option AOut := match o.op with
  | .slice t x lo hi none => match ev t x with
    | .cs false [.wx oo k lo0 n0] => sliceX Γ ob ev t oo k lo0 n0 lo hi
    | _ => none
  | .range t x => rangeA Γ N t (ev t x)
  | .next x str => nextA ob str (ev 0 x)
  | .buildSlice t len parts => buildV Γ N ev t len parts.toList
  | .indexAddr t x i => match ev t x, (ev 0 i).int? with
    | .cs false [.vsl oo n], some m => idxV Γ t oo n m
    | _, _ => none
  | .call c => match c.callee with
    | .builtin .len => match c.args.toList, c.argTypes.toList with
      | [x], [t] => match ev t x, Γ.elem t with
        | .cs false [.vsl oo n], some _ => some ⟨.cs false [.d (.v (.int .i64 n))], [], [oo]⟩
        | _, _ => none
      | _, _ => none
    | .builtin .cap => match c.args.toList, c.argTypes.toList with
      | [x], [t] => match ev t x, Γ.elem t with
        | .cs false [v], some _ => capX ob v
        | _, _ => none
      | _, _ => none
    | .builtin .copy => match c.args.toList, c.argTypes.toList with
      | [x, y], [t, t2] => match ev t x, ev t2 y with
        | .cs false [v], .cs false [u] => copyX Γ ob t t2 v u
        | _, _ => none
      | _, _ => none
    | .builtin .append => match c.args.toList, c.argTypes.toList with
      | [s, x], [t, t2] => match ev t s with
        | .cs false [.wx oo k lo n] => appendX Γ N ob ev t t2 x oo k lo n
        | _ => none
      | _, _ => none
    | .value (.func f) => match Γ.ext f, onesOf ev c.args.toList with
      | some e, some xs => extA Γ ob e xs
      | _, _ => none
    | _ => none
  | _ => none

def aop (Γ : Ctx) (N : Nat) (ev : TypeId → Operand → AT) (ob : Nat → Option AObj) (o : Oper) : Option AOut :=
  if isX Γ ev o then aopX Γ N ev ob o else aop0 Γ N ev ob o

def opTemps (x : Operand) : List Nat := match x with
  | .tmp t => [t]
  | _ => []

/-- What a step looks at (temporaries, objects), and what it does. -/
structure Acc where
  rt : List Nat
  ro : List Nat
  dst : Option Tmp
  out : AT
  upd : List (Nat × Option AObj)

def guardT (ops : Array Oper) (o : Oper) : List Nat := match o.guard with
  | none => []
  | some (j, _) => match (ops[j]?).bind (·.dst) with
    | none => []
    | some t => [t]

def guardA (ops : Array Oper) (env : Nat → AT) (o : Oper) : Option Bool := match o.guard with
  | none => some true
  | some (j, want) => match (ops[j]?).bind (·.dst) with
    | none => some false
    | some t => match env t with
      | .cs false [.d (.v (.bool b))] => some (b == want)
      | .undef => some false
      | _ => none

def dstOk (nt : Nat) : Option Tmp → Bool
  | none => true
  | some d => decide (d < nt)

def putE (env : List (Nat × AT)) (dst : Option Tmp) (t : AT) : List (Nat × AT) := match dst with
  | none => env
  | some d => (d, t) :: env

def St.apply (st : St) (x : Acc) : St := { st with env := putE st.env x.dst x.out, objs := x.upd ++ st.objs }

def capA : CapV → Bool × List AV
  | .d x => (false, [.d x])
  | .ptr o off => (false, [.ptr o off])

/-- The function that a call goes to, and all that it is handed. -/
def callArgs (ev : TypeId → Operand → AT) (o : Oper) : Option (FuncId × List (Bool × List AV)) := match o.op with
  | .call c => match c.callee with
    | .value fx => match (ev 0 fx).one?, argsOf ev c.args.toList c.argTypes.toList with
      | some (.d (.fn f caps)), some args => some (f, args ++ caps.map fun d => (false, [.d d]))
      | some (.clo f caps), some args => some (f, args ++ caps.map capA)
      | _, _ => none
    | _ => none
  | _ => none

end Go.Eng
