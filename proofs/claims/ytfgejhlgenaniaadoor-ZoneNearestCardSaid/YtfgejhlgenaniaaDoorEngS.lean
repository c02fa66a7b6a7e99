/- Verification conditions: what a stretch of code asks, told by equations that rewriting runs through. -/
import Derived.Test.YtfgejhlgenaniaaDoorEngR
namespace Go.Eng

/-- If there is such a thing, then K of it. -/
def vo {α : Type} (x : Option α) (K : α → Prop) : Prop := ∃ r, x = some r ∧ K r
theorem vo_some {α : Type} (r : α) (K : α → Prop) : vo (some r) K = K r := by simp [vo]
theorem vo_none {α : Type} (K : α → Prop) : vo none K = False := by simp [vo]
theorem vo_congr {α : Type} {x x' : Option α} {K : α → Prop} (h : x = x') : vo x K = vo x' K := by rw [h]

/-- Row i of some, then K of it. -/
def vget {α : Type} (l : List α) (i : Nat) (K : α → Prop) : Prop := i < l.length ∧ ∀ x, l[i]? = some x → K x
theorem vget_map {α β : Type} (f : α → β) (l : List α) (i : Nat) (K : β → Prop) : vget (l.map f) i K = (i < l.length ∧ ∀ x, l[i]? = some x → K (f x)) := by
  simp only [vget, List.length_map, List.getElem?_map, Option.map_eq_some_iff, eq_iff_iff]
  exact and_congr_right fun _ => ⟨fun h x hx => h _ ⟨x, hx, rfl⟩, fun h y ⟨x, hx, e⟩ => e ▸ h x hx⟩
theorem vget_zero {α : Type} (x : α) (l : List α) (K : α → Prop) : vget (x :: l) 0 K = K x := by simp [vget]
theorem vget_succ {α : Type} (x : α) (l : List α) (i : Nat) (K : α → Prop) : vget (x :: l) (i + 1) K = vget l i K := by simp [vget]
theorem vget_nil {α : Type} (i : Nat) (K : α → Prop) : vget [] i K = False := by simp [vget]
theorem vget_congr {α : Type} {l l' : List α} {i i' : Nat} {K : α → Prop} (h : l = l') (hi : i = i') : vget l i K = vget l' i' K := by rw [h, hi]
theorem vget_elim {α : Type} {l : List α} {i : Nat} {K : α → Prop} (h : vget l i K) : ∃ x, l[i]? = some x ∧ K x :=
  ⟨_, List.getElem?_eq_getElem h.1, h.2 _ (List.getElem?_eq_getElem h.1)⟩

/-- Byte i of a string, then K of it. -/
def vbyte (s : ByteArray) (i : Nat) (K : UInt8 → Prop) : Prop := i < s.size ∧ ∀ b, s[i]? = some b → K b
theorem vbyte_congr {l l' : ByteArray} {i i' : Nat} {K : UInt8 → Prop} (h : l = l') (hi : i = i') : vbyte l i K = vbyte l' i' K := by rw [h, hi]

def vcond (b : Option Bool) (A B : Prop) : Prop := vo b fun b => (b = true → A) ∧ (b = false → B)
theorem vcond_some (b : Bool) (A B : Prop) : vcond (some b) A B = ((b = true → A) ∧ (b = false → B)) := by simp [vcond, vo]
theorem vcond_true (A B : Prop) : vcond (some true) A B = A := by simp [vcond, vo]
theorem vcond_false (A B : Prop) : vcond (some false) A B = B := by simp [vcond, vo]
theorem vcond_none (A B : Prop) : vcond none A B = False := by simp [vcond, vo]
theorem vcond_congr {b b' : Option Bool} {A B : Prop} (h : b = b') : vcond b A B = vcond b' A B := by rw [h]

def vsw (b : Bool) (A B : Prop) : Prop := (b = true → A) ∧ (b = false → B)
theorem vsw_true' (A B : Prop) : vsw true A B = A := by simp [vsw]
theorem vsw_false' (A B : Prop) : vsw false A B = B := by simp [vsw]

abbrev Kop := AT → List (Nat × Option AObj) → List Nat → Prop

def varOf : Option AObj → Option (List AV × Bool)
  | some (.var cells l) => some (cells, l)
  | _ => none
def rowOf : Option AObj → Option (Nat × TypeId × List (List D) × Bool)
  | some (.row k e rows l) => some (k, e, rows, l)
  | _ => none

/-- The own rows among some cells that may still be written: they are frozen where they are handed on as data. -/
def fzOf (ob : Nat → Option AObj) (xs : List AV) : List Nat := livesOf ob xs

def partsC (ev : TypeId → Operand → AT) (e : TypeId) : List (Nat × Operand) → List AV
  | [] => []
  | (_, x) :: r => (match (ev e x).cells? with | some ys => ys | none => []) ++ partsC ev e r

def frzL (objs : List (Nat × Option AObj)) (fz : List Nat) : List (Nat × Option AObj) := fz.map (frz (getO objs))

def vload (Γ : Ctx) (objs : List (Nat × Option AObj)) (t : TypeId) (K : Kop) : AV → Prop
  | .ptr oo off => vo (varOf (getO objs oo)) fun cl => vo (loadC Γ t (cl.1.drop off)) fun r => K r [] [oo]
  | .d (.pt cells) => vo (loadC Γ t (cells.map .d)) fun r => K r [] []
  | .eptr oo k i j => vo (rowOf (getO objs oo)) fun q => k = q.1 ∧ vget q.2.2.1 i fun r => vo (loadC Γ t ((r.drop j).map .d)) fun r => K r [] [oo]
  | _ => False

def vstore (objs : List (Nat × Option AObj)) (k : Nat) (ys : List AV) (K : Kop) : AV → Prop
  | .ptr oo off => vo (varOf (getO objs oo)) fun cl => (cl.2 = true ∧ ys.length = k ∧ off + k ≤ cl.1.length) ∧ K .undef [(oo, some (.var (splice cl.1 off ys) true))] [oo]
  | .eptr oo kk i j => vo (rowOf (getO (frzL objs (fzOf (getO objs) ys) ++ objs) oo)) fun q => (q.2.2.2 = true ∧ kk = q.1) ∧ vo (allD (getO (frzL objs (fzOf (getO objs) ys) ++ objs)) ys) fun ds => (ds.length = k ∧ j + k ≤ kk) ∧
      vget q.2.2.1 i fun r => K .undef ((oo, some (.row kk q.2.1 (q.2.2.1.set i (splice r j ds)) true)) :: frzL objs (fzOf (getO objs) ys)) (fzOf (getO objs) ys ++ (oo :: ys.flatMap avT))
  | _ => False

def vbin (Γ : Ctx) (op : BinOp) (t : TypeId) (x y : AT) (K : Kop) : Prop := match op with
  | .quo => vo x.int? fun _ => vo y.int? fun b => b ≠ 0 ∧ vo (binA Γ op t x y) fun r => K r [] []
  | .rem => vo x.int? fun _ => vo y.int? fun b => b ≠ 0 ∧ vo (binA Γ op t x y) fun r => K r [] []
  | _ => vo (binA Γ op t x y) fun r => K r [] []

def vidxA (objs : List (Nat × Option AObj)) (k : Nat) (n : Int) (K : Kop) : AV → Prop
  | .d (.vec k' rows) => (k = k' ∧ 0 < k ∧ 0 ≤ n) ∧ vget rows n.toNat fun r => K (.cs false [.d (.pt r)]) [] []
  | .own oo => vo (rowOf (getO objs oo)) fun q => (k = q.1 ∧ 0 ≤ n ∧ n < q.2.2.1.length) ∧ K (.cs false [.eptr oo k n.toNat 0]) [] [oo]
  | _ => False

def vsliceN (objs : List (Nat × Option AObj)) (ev : TypeId → Operand → AT) (k : Nat) (lo hi : Option Operand) (K : Kop) : AV → Prop
  | .d (.vec k3 rows) => vo (optInt ev 0 lo) fun l => vo (optInt ev rows.length hi) fun h => (k = k3 ∧ 0 ≤ l ∧ l ≤ h ∧ h ≤ rows.length) ∧ K (.cs false [.d (.vec k ((rows.take h.toNat).drop l.toNat))]) [] []
  | .nils k3 => vo (optInt ev 0 lo) fun l => vo (optInt ev 0 hi) fun h => (k = k3 ∧ 0 ≤ l ∧ l ≤ h ∧ h ≤ 0) ∧ K (.cs false [.d (.vec k [])]) [] []
  | .own oo => vo (rowOf (getO objs oo)) fun p => vo (optInt ev 0 lo) fun l => vo (optInt ev p.2.2.1.length hi) fun h => (k = p.1 ∧ 0 ≤ l ∧ l ≤ h ∧ h ≤ p.2.2.1.length) ∧
      vsw p.2.2.2 (K (.cs false [.win oo k l.toNat (h.toNat - l.toNat)]) [] [oo]) (K (.cs false [.d (.vec k ((p.2.2.1.take h.toNat).drop l.toNat))]) [] [oo])
  | .win oo k3 lo0 n0 => vo (rowOf (getO objs oo)) fun p => vo (optInt ev 0 lo) fun l => vo (optInt ev n0 hi) fun h => (k = k3 ∧ 0 ≤ l ∧ l ≤ h ∧ lo0 + h ≤ p.2.2.1.length) ∧
      K (.cs false [.win oo k (lo0 + l.toNat) (h.toNat - l.toNat)]) [] [oo]
  | _ => False

def vslice (Γ : Ctx) (objs : List (Nat × Option AObj)) (ev : TypeId → Operand → AT) (t : TypeId) (lo hi mx : Option Operand) (K : Kop) : AV → Prop
  | .d (.v (.string s)) => vo (Γ.ty t) fun ti => vo (optInt ev 0 lo) fun l => vo (optInt ev s.size hi) fun h => (ti.desc = .str ∧ mx = none ∧ 0 ≤ l ∧ l ≤ h ∧ h ≤ s.size) ∧ K (.cs false [.d (.v (.string (s.extract l.toNat h.toNat)))]) [] []
  | x => vo (Γ.elem t) fun e => vo (Γ.size e) fun k => vo (rowsOf (getO objs) x) fun q => match mx with
    | some m => vo (optInt ev 0 lo) fun l => vo (ev 0 m).int? fun m => vo (hi.bind fun h => (ev 0 h).int?) fun h =>
        (l = 0 ∧ m = 0 ∧ h = 0 → K (.cs false [.nils k]) [] q.2.2) ∧ (¬(l = 0 ∧ m = 0 ∧ h = 0) → (0 ≤ l ∧ l ≤ h ∧ h ≤ m ∧ m ≤ q.2.1.length) ∧ K .junk [] q.2.2)
    | none => vsliceN objs ev k lo hi K x

def vappend (Γ : Ctx) (N : Nat) (objs : List (Nat × Option AObj)) (t t2 : TypeId) (x : AV) (K : Kop) : AV → Prop
  | .win oo k lo n => vo (Γ.elem t) fun e => vo (Γ.size e) fun sz => vo (rowsOf (getO objs) x) fun q => vo (rowOf (getO objs oo)) fun p =>
      (t = t2 ∧ p.2.2.2 = true ∧ k = q.1 ∧ k = p.1 ∧ k = sz ∧ p.2.1 = e ∧ lo + n + q.2.1.length ≤ p.2.2.1.length) ∧ K (.cs false [.win oo k lo (n + q.2.1.length)]) [(oo, some (.row k p.2.1 (splice p.2.2.1 (lo + n) q.2.1) true))] (oo :: q.2.2)
  | s => vo (Γ.elem t) fun e => vo (Γ.ty e) fun ti => vo (rowsOf (getO objs) x) fun q => vo (headOf (getO objs) e s) fun p =>
      (t = t2 ∧ p.1 = q.1 ∧ p.1 = ti.size ∧ ti.zero.length = ti.size ∧ 0 < p.1 ∧ p.2.1.length + q.2.1.length ≤ 9223372036854775807 ∧ (p.2.1.length + q.2.1.length) * ti.bytes ≤ 140737488355328 ∧ (p.2.2.all fun o => !q.2.2.contains o) = true) ∧
        K (.cs false [.own N]) ((N, some (.row p.1 e (p.2.1 ++ q.2.1) true)) :: p.2.2.map (fun o => (o, none))) (p.2.2 ++ q.2.2)

def isSlice : TDesc → Bool
  | .slice _ => true
  | _ => false

def vbuiltin (Γ : Ctx) (N : Nat) (objs : List (Nat × Option AObj)) (ev : TypeId → Operand → AT) (ty : TypeId) (K : Kop) : Builtin → List Operand → List TypeId → Prop
  | .len, [x], [t] => (match ev t x with
      | .cs false [.vsl oo n] => vo (Γ.elem t) fun _ => K (.cs false [.d (.v (.int .i64 n))]) [] [oo]
      | vx => vo vx.one? fun v => vo (Γ.ty t) fun ti => (match v with
        | .d (.v (.string s)) => ti.desc = .str ∧ K (.cs false [.d (.v (.int .i64 s.size))]) [] []
        | v => isSlice ti.desc = true ∧ vo (rowsOf (getO objs) v) fun q => K (.cs false [.d (.v (.int .i64 q.2.1.length))]) [] q.2.2))
  | .append, [s, x], [t, t2] => (match ev t s with
      | .cs false [.wx oo k lo n] => vo (appendX Γ N (getO objs) ev t t2 x oo k lo n) fun r => K r.out r.upd r.touch
      | vs => vo vs.one? fun vs => vo (ev t2 x).one? fun vx => vappend Γ N objs t t2 vx K vs)
  | .cap, [x], [t] => (match ev t x with
      | .cs false [v] => vo (Γ.elem t) fun _ => vo (capX (getO objs) v) fun r => K r.out r.upd r.touch
      | _ => False)
  | .copy, [x, y], [t, t2] => (match ev t x, ev t2 y with
      | .cs false [v], .cs false [u] => vo (copyX Γ (getO objs) t t2 v u) fun r => K r.out r.upd r.touch
      | _, _ => False)
  | .clear, [s], [t] => vo (ev t s).one? fun v => (match v with
      | .win oo k lo n => vo (clearW Γ (getO objs) t oo k lo n) fun r => K r.out r.upd r.touch
      | _ => False)
  | .max, xs, _ => (match xs.map (ev ty) with
      | .cs false [.d (.v (.int k a))] :: r => vo (foldInts (fun x y => if x < y then y else x) k a r) fun n => K (.cs false [.d (.v (.int k n))]) [] []
      | _ => False)
  | .min, xs, _ => (match xs.map (ev ty) with
      | .cs false [.d (.v (.int k a))] :: r => vo (foldInts (fun x y => if y < x then y else x) k a r) fun n => K (.cs false [.d (.v (.int k n))]) [] []
      | _ => False)
  | _, _, _ => False

/-- What an operation asks, and what comes of it. -/
def vop (Γ : Ctx) (N : Nat) (objs : List (Nat × Option AObj)) (ev : TypeId → Operand → AT) (ty : TypeId) (K : Kop) : Op → Prop
  | .move x => K (ev ty x) [] []
  | .assign x => K (ev ty x) [] []
  | .pick c a b => vcond (ev 0 c).bool? (K (ev ty a) [] []) (K (ev ty b) [] [])
  | .alloc e => vo (Γ.ty e) fun ti => K (.cs false [.ptr N 0]) [(N, some (.var ti.zero true))] []
  | .box e x => vo (ev e x).cells? fun ys => K (.cs false [.ptr N 0]) [(N, some (.var ys true))] []
  | .build t parts => vo (Γ.ty t) fun ti => vo (Γ.fields t) fun fs => vo (fillA Γ ev fs ti.zero parts.toList) fun cells => K (.cs true cells) [] []
  | .buildSlice t len parts => vsw (fnsT Γ t) (vo (buildV Γ N ev t len parts.toList) fun r => K r.out r.upd r.touch) (vo (Γ.elem t) fun e => vo (Γ.ty e) fun ti =>
      vo (allD (getO (frzL objs (fzOf (getO objs) (partsC ev e parts.toList)) ++ objs)) ti.zero) fun z => (z.length = ti.size ∧ 0 < ti.size ∧ len * ti.size ≤ 16777216 ∧ len ≤ 9223372036854775807) ∧
        vo (fillRows (getO (frzL objs (fzOf (getO objs) (partsC ev e parts.toList)) ++ objs)) ev e ti.size (List.replicate len z) parts.toList) fun r =>
          K (.cs false [.own N]) ((N, some (.row ti.size e r.1 true)) :: frzL objs (fzOf (getO objs) (partsC ev e parts.toList))) (fzOf (getO objs) (partsC ev e parts.toList) ++ (ti.zero.flatMap avT ++ r.2)))
  | .range t x => vo (rangeA Γ N t (ev t x)) fun r => K r.out r.upd r.touch
  | .next x str => (match ev 0 x with
      | .cs false [.ptr oo off] => vo (itOf (getO objs oo)) fun q => (off = 0 ∧ str = true) ∧
          (q.2 < q.1.size → K (.tup [(false, [.d (.v (.bool true))]), (false, [.d (.v (.int .i64 q.2))]), (false, [.d (.v (.int .i32 (Utf8.decode q.1 q.2).1))])]) [(oo, some (.it q.1 (q.2 + (Utf8.decode q.1 q.2).2)))] [oo]) ∧
          (q.1.size ≤ q.2 → K (.tup [(false, [.d (.v (.bool false))])]) [] [oo])
      | _ => False)
  | .load t a => vo (ev 0 a).one? fun v => vload Γ objs t K v
  | .store t a x => vo (ev 0 a).one? fun v => vo (ev t x).cells? fun ys => vo (Γ.size t) fun k => vstore objs k ys K v
  | .nilCheck x => vo (ev 0 x).one? fun v => (match v with
      | .ptr a b => K (.cs false [.ptr a b]) [] []
      | .eptr a b c d => K (.cs false [.eptr a b c d]) [] []
      | .d (.pt c) => K (.cs false [.d (.pt c)]) [] []
      | .d (.fn f c) => K (.cs false [.d (.fn f c)]) [] []
      | _ => False)
  | .binOp op t x y _ => vbin Γ op t (ev t x) (ev t y) K
  | .unOp op t x => (match op, ev t x with
      | .not, .cs false [.d (.v (.bool b))] => K (.cs false [.d (.v (.bool (!b)))]) [] []
      | .neg, .cs false [.d (.v (.int k n))] => K (.cs false [.d (.v (.int k (k.wrap (0 - n))))]) [] []
      | _, _ => False)
  | .convert s t x => (match ev s x with
      | .cs false [.d (.v (.string b))] => vo (Γ.ty s) fun si => vo (Γ.ty t) fun ti => (si.desc = .str ∧ ti.desc = .str) ∧ K (.cs false [.d (.v (.string b))]) [] []
      | .cs false [.d (.v (.int _ n))] => vo (Γ.ty s) fun si => vo (Γ.ty t) fun ti => (match si.desc, ti.desc with
          | .int _, .int k => K (.cs false [.d (.v (.int k (k.wrap n)))]) [] []
          | _, _ => False)
      | _ => False)
  | .makeFunc fn first captured => (match fn with
      | .func f => first.size = 0 ∧ vo (onesOf ev captured.toList) fun cs => (match allD (getO objs) cs with
          | some ds => K (.cs false [.d (.fn f ds)]) [] (cs.flatMap avT)
          | none => vo (capsOf (getO objs) cs) fun ks => K (.cs false [.clo f ks]) [] (cs.flatMap avT))
      | _ => False)
  | .slice t x lo hi mx => (match ev t x with
      | .cs false [.wx oo k lo0 n0] => (match mx with
          | none => vo (sliceX Γ (getO objs) ev t oo k lo0 n0 lo hi) fun r => K r.out r.upd r.touch
          | _ => False)
      | v => vo v.one? fun v => vslice Γ objs ev t lo hi mx K v)
  | .fieldAddr t x i => vo (ev 0 x).one? fun v => vo (Γ.fields t) fun fs => vo fs[i]? fun p => vo (Γ.size p.2) fun k => k ≠ 0 ∧ (match v with
      | .ptr oo f => K (.cs false [.ptr oo (f + p.1)]) [] []
      | .d (.pt cells) => K (.cs false [.d (.pt (cells.drop p.1))]) [] []
      | .eptr oo k i j => K (.cs false [.eptr oo k i (j + p.1)]) [] []
      | _ => False)
  | .field t x i => (match ev t x with
      | .cs true cells => vo (Γ.fields t) fun fs => vo fs[i]? fun p => vo (partA Γ p.2 cells p.1) fun r => K r [] []
      | _ => False)
  | .indexAddr t x i => (match ev t x with
      | .cs false [.vsl oo n] => vo (ev 0 i).int? fun m => vo (idxV Γ t oo n m) fun r => K r.out r.upd r.touch
      | vx => vo vx.one? fun v => vo (ev 0 i).int? fun n => vo (Γ.elem t) fun e => vo (Γ.size e) fun k => vidxA objs k n K v)
  | .index t x i => (match ev t x with
      | .cs false [.d (.v (.string s))] => vo (ev 0 i).int? fun n => vo (Γ.ty t) fun ti => (ti.desc = .str ∧ 0 ≤ n) ∧ vbyte s n.toNat fun b => K (.cs false [.d (.v (.int .u8 b.toNat))]) [] []
      | _ => False)
  | .extract t i => (match ev 0 t with
      | .tup ts => vo ts[i]? fun p => K (.cs p.1 p.2) [] []
      | _ => False)
  | .call c => (match c.callee with
      | .builtin b => vbuiltin Γ N objs ev ty K b c.args.toList c.argTypes.toList
      | .value (.func f) => vo (Γ.ext f) fun e => vo (onesOf ev c.args.toList) fun xs => vo (extA Γ (getO objs) e xs) fun r => K r.out r.upd r.touch
      | _ => False)
  | _ => False

section
variable {Γ : Ctx} {N : Nat} {objs : List (Nat × Option AObj)} {ev : TypeId → Operand → AT} {K : Kop}

theorem getO_frzL (fz : List Nat) : getO (frzL objs fz ++ objs) = updO (fz.map (frz (getO objs))) (getO objs) := getO_upd _ _

theorem aop_plain {Γ : Ctx} {N : Nat} {ev : TypeId → Operand → AT} {ob : Nat → Option AObj} {o : Oper} (h : isX Γ ev o = false) : aop Γ N ev ob o = aop0 Γ N ev ob o := by simp [aop, h]
theorem aop_X {Γ : Ctx} {N : Nat} {ev : TypeId → Operand → AT} {ob : Nat → Option AObj} {o : Oper} (h : isX Γ ev o = true) : aop Γ N ev ob o = aopX Γ N ev ob o := by simp [aop, h]
theorem vslT_false {t : AT} (h : ∀ oo n, t = .cs false [.vsl oo n] → False) : vslT t = false := by
  unfold vslT
  split
  · exact (h _ _ rfl).elim
  · rfl
theorem wxT_false {t : AT} (h : ∀ oo k lo n, t = .cs false [.wx oo k lo n] → False) : wxT t = false := by
  unfold wxT
  split
  · exact (h _ _ _ _ rfl).elim
  · rfl

/-- What it asks is enough: the operation goes, some rows being frozen first. -/
theorem vop_sound {o : Oper} (h : vop Γ N objs ev o.type K o.op) : ∃ fz r, (∀ n ∈ fz, ∃ k e rows, getO objs n = some (.row k e rows true)) ∧ aop Γ N ev (updO (fz.map (frz (getO objs))) (getO objs)) o = some r ∧ K r.out (r.upd ++ fz.map (frz (getO objs))) (fz ++ r.touch) := by
  have plain0 : (∃ r, aop Γ N ev (getO objs) o = some r ∧ K r.out r.upd r.touch) → ∃ fz r, (∀ n ∈ fz, ∃ k e rows, getO objs n = some (.row k e rows true)) ∧ aop Γ N ev (updO (fz.map (frz (getO objs))) (getO objs)) o = some r ∧ K r.out (r.upd ++ fz.map (frz (getO objs))) (fz ++ r.touch) :=
    fun ⟨r, h1, h2⟩ => ⟨[], r, by simp, by simpa [updO] using h1, by simpa using h2⟩
  have plain : isX Γ ev o = false → (∃ r, aop0 Γ N ev (getO objs) o = some r ∧ K r.out r.upd r.touch) → ∃ fz r, (∀ n ∈ fz, ∃ k e rows, getO objs n = some (.row k e rows true)) ∧ aop Γ N ev (updO (fz.map (frz (getO objs))) (getO objs)) o = some r ∧ K r.out (r.upd ++ fz.map (frz (getO objs))) (fz ++ r.touch) :=
    fun hx ⟨r, h1, h2⟩ => plain0 ⟨r, by rw [aop_plain hx]; exact h1, h2⟩
  have rowO : ∀ {n : Nat} {ob : Nat → Option AObj} {q : Nat × TypeId × List (List D) × Bool}, rowOf (ob n) = some q → ob n = some (.row q.1 q.2.1 q.2.2.1 q.2.2.2) := by
    intro n ob q hq
    unfold rowOf at hq
    split at hq
    · rename_i e; cases hq; exact e
    · cases hq
  have varO : ∀ {n : Nat} {q : List AV × Bool}, varOf (getO objs n) = some q → getO objs n = some (.var q.1 q.2) := by
    intro n q hq
    unfold varOf at hq
    split at hq
    · rename_i e; cases hq; exact e
    · cases hq
  cases ho : o.op with
  | move x => rw [ho] at h; exact plain (by simp only [isX, ho]) ⟨pureOut (ev o.type x), by simp [aop0, ho], h⟩
  | assign x => rw [ho] at h; exact plain (by simp only [isX, ho]) ⟨pureOut (ev o.type x), by simp [aop0, ho], h⟩
  | pick c a b =>
    rw [ho] at h
    obtain ⟨q, hq, h1, h2⟩ := h
    cases q with
    | true => exact plain (by simp only [isX, ho]) ⟨_, by simp only [aop0, ho, hq, Option.map_some]; rfl, h1 rfl⟩
    | false => exact plain (by simp only [isX, ho]) ⟨_, by simp only [aop0, ho, hq, Option.map_some]; rfl, h2 rfl⟩
  | alloc e =>
    rw [ho] at h
    obtain ⟨ti, hti, h1⟩ := h
    exact plain (by simp only [isX, ho]) ⟨_, by simp only [aop0, ho, hti, Option.map_some]; rfl, h1⟩
  | box e x =>
    rw [ho] at h
    obtain ⟨ti, hti, h1⟩ := h
    exact plain (by simp only [isX, ho]) ⟨_, by simp only [aop0, ho, hti, Option.map_some]; rfl, h1⟩
  | build t parts =>
    rw [ho] at h
    obtain ⟨ti, hti, fs, hfs, cells, hc, h1⟩ := h
    exact plain (by simp only [isX, ho]) ⟨_, by simp only [aop0, ho, hti, hfs, hc, Option.map_some]; rfl, h1⟩
  | buildSlice t len parts =>
    rw [ho] at h
    obtain ⟨hx1, hx2⟩ := h
    cases hfn : fnsT Γ t with
    | true =>
      obtain ⟨r, hr, h1⟩ := hx1 hfn
      exact plain0 ⟨r, by rw [aop_X (by simp only [isX, ho, hfn])]; simp only [aopX, ho]; exact hr, h1⟩
    | false =>
    obtain ⟨e, he, ti, hti, z, hz, hc, r, hr, h1⟩ := hx2 hfn
    rw [getO_frzL] at hz hr
    exact ⟨fzOf (getO objs) (partsC ev e parts.toList), _, fun n hn => mem_lives hn, by rw [aop_plain (by simp only [isX, ho, hfn])]; simp only [aop0, ho, he, hti, hz]; rw [if_pos hc, hr]; rfl, by simpa [frzL] using h1⟩
  | load t a =>
    rw [ho] at h
    obtain ⟨v, hv, h1⟩ := h
    cases v with
    | ptr oo off =>
      obtain ⟨q, hq, r, hr, h2⟩ := h1
      exact plain (by simp only [isX, ho]) ⟨_, by simp only [aop0, ho, hv, varO hq, hr, Option.map_some]; rfl, h2⟩
    | d y =>
      cases y with
      | pt cells =>
        obtain ⟨r, hr, h2⟩ := h1
        exact plain (by simp only [isX, ho]) ⟨_, by simp only [aop0, ho, hv, hr, Option.map_some]; rfl, h2⟩
      | _ => exact h1.elim
    | eptr oo k i j =>
      obtain ⟨q, hq, hk, h2⟩ := h1
      obtain ⟨r, hr, r2, hr2, h3⟩ := vget_elim h2
      exact plain (by simp only [isX, ho]) ⟨⟨r2, [], [oo]⟩, by simp only [aop0, ho, hv, rowO hq]; rw [if_pos hk, hr]; simp only [hr2, Option.map_some], h3⟩
    | _ => exact h1.elim
  | store t a x =>
    rw [ho] at h
    obtain ⟨v, hv, ys, hys, k, hk, h1⟩ := h
    cases v with
    | ptr oo off =>
      obtain ⟨q, hq, ⟨hc1, hc2, hc3⟩, h2⟩ := h1
      have hq' := varO hq
      rw [hc1] at hq'
      exact plain (by simp only [isX, ho]) ⟨⟨.undef, [(oo, some (.var (splice q.1 off ys) true))], [oo]⟩, by simp only [aop0, ho, hv, hys, hk, hq']; rw [if_pos ⟨hc2, hc3⟩], h2⟩
    | eptr oo kk i j =>
      obtain ⟨q, hq, ⟨hc1, hc2⟩, ds, hds, hc3, h2⟩ := h1
      obtain ⟨r, hr, h3⟩ := vget_elim h2
      rw [getO_frzL] at hds
      have hq' := rowO (ob := getO (frzL objs (fzOf (getO objs) ys) ++ objs)) hq
      rw [getO_frzL, hc1] at hq'
      refine ⟨fzOf (getO objs) ys, ⟨.undef, [(oo, some (.row kk q.2.1 (q.2.2.1.set i (splice r j ds)) true))], oo :: ys.flatMap avT⟩, fun n hn => mem_lives hn, ?_, by simpa [frzL] using h3⟩
      rw [aop_plain (by simp only [isX, ho])]
      simp only [aop0, ho, hv, hys, hk, hq', hds]
      rw [if_pos ⟨hc2, hc3⟩, hr]
    | _ => exact h1.elim
  | nilCheck x =>
    rw [ho] at h
    obtain ⟨v, hv, h1⟩ := h
    split at h1 <;> first
      | exact plain (by simp only [isX, ho]) ⟨_, by simp only [aop0, ho, hv]; rfl, h1⟩
      | exact h1.elim
  | binOp op t x y t2 =>
    rw [ho] at h
    have key : (∃ r, binA Γ op t (ev t x) (ev t y) = some r ∧ K r [] []) → ∃ r, aop0 Γ N ev (getO objs) o = some r ∧ K r.out r.upd r.touch := fun ⟨r, h1, h2⟩ => ⟨pureOut r, by simp only [aop0, ho, h1, Option.map_some], h2⟩
    refine plain (by simp only [isX, ho]) (key ?_)
    simp only [vop, vbin] at h
    split at h
    · obtain ⟨_, _, _, _, _, h1⟩ := h; exact h1
    · obtain ⟨_, _, _, _, _, h1⟩ := h; exact h1
    · exact h
  | unOp op t x =>
    rw [ho] at h
    simp only [vop] at h
    split at h
    · rename_i e; exact plain (by simp only [isX, ho]) ⟨_, by simp only [aop0, ho, e]; rfl, h⟩
    · rename_i e; exact plain (by simp only [isX, ho]) ⟨_, by simp only [aop0, ho, e]; rfl, h⟩
    · exact h.elim
  | convert s t x =>
    rw [ho] at h
    simp only [vop] at h
    split at h
    · rename_i b e
      obtain ⟨si, hsi, ti, hti, ⟨h1, h2⟩, h3⟩ := h
      exact plain (by simp only [isX, ho]) ⟨_, by simp only [aop0, ho, e, hsi, hti, h1, h2]; rfl, h3⟩
    · rename_i k0 n e
      obtain ⟨si, hsi, ti, hti, h3⟩ := h
      split at h3
      · rename_i h1 h2; exact plain (by simp only [isX, ho]) ⟨_, by simp only [aop0, ho, e, hsi, hti, h1, h2]; rfl, h3⟩
      · exact h3.elim
    · exact h.elim
  | makeFunc fn first captured =>
    rw [ho] at h
    simp only [vop] at h
    split at h
    · obtain ⟨h0, cs, hcs, h1⟩ := h
      split at h1
      · rename_i ds hds
        exact plain (by simp only [isX, ho]) ⟨_, by simp only [aop0, ho]; rw [if_pos h0, hcs]; simp only [hds]; rfl, h1⟩
      · rename_i hds
        obtain ⟨ks, hks, h2⟩ := h1
        exact plain (by simp only [isX, ho]) ⟨_, by simp only [aop0, ho]; rw [if_pos h0, hcs]; simp only [hds, hks]; rfl, h2⟩
    · exact h.elim
  | slice t x lo hi mx =>
    rw [ho] at h
    simp only [vop] at h
    split at h
    · rename_i oo k lo0 n0 e
      split at h
      · obtain ⟨r, hr, h1⟩ := h
        exact plain0 ⟨r, by rw [aop_X (by simp only [isX, ho, e, wxT])]; simp only [aopX, ho, e]; exact hr, h1⟩
      · exact h.elim
    rename_i hnx
    obtain ⟨v, hv, h1⟩ := h
    refine plain (by simp only [isX, ho]; exact wxT_false hnx) ?_
    have gen : (∃ r, sliceA Γ (getO objs) ev t v lo hi mx = some r ∧ K r.out r.upd r.touch) → ∃ r, aop0 Γ N ev (getO objs) o = some r ∧ K r.out r.upd r.touch := fun ⟨r, e, hk⟩ => ⟨r, by simp only [aop0, ho, hv, e], hk⟩
    refine gen ?_
    unfold vslice at h1
    split at h1
    · rename_i s
      obtain ⟨ti, hti, l, hl, h', hh, ⟨c1, rfl, c2⟩, hk⟩ := h1
      exact ⟨_, by simp only [sliceA, hti, c1, hl, hh]; rw [if_pos c2], hk⟩
    · rename_i hns
      obtain ⟨e, he, k, hk0, q, hq, h2⟩ := h1
      have start : ∀ r, (match mx with
        | some m => match optInt ev 0 lo, (ev 0 m).int?, (match hi with | some h => (ev 0 h).int? | none => none) with
          | some l, some m, some h => if l = 0 ∧ m = 0 ∧ h = 0 then some ⟨.cs false [.nils k], [], q.2.2⟩
            else if 0 ≤ l ∧ l ≤ h ∧ h ≤ m ∧ m ≤ q.2.1.length then some ⟨.junk, [], q.2.2⟩ else none
          | _, _, _ => none
        | none => match avD (getO objs) v with
          | some (.vec k3 rows3) => match optInt ev 0 lo, optInt ev rows3.length hi with
            | some l, some h => if k = k3 ∧ 0 ≤ l ∧ l ≤ h ∧ h ≤ rows3.length then some ⟨.cs false [.d (.vec k ((rows3.take h.toNat).drop l.toNat))], [], avT v⟩ else none
            | _, _ => none
          | some _ => none
          | none => match v with
            | .own oo => match getO objs oo, optInt ev 0 lo, optInt ev q.2.1.length hi with
              | some (.row k3 _ _ _), some l, some h => if k = k3 ∧ 0 ≤ l ∧ l ≤ h ∧ h ≤ q.2.1.length then some ⟨.cs false [.win oo k l.toNat (h.toNat - l.toNat)], [], [oo]⟩ else none
              | _, _, _ => none
            | .win oo k3 lo0 n0 => match getO objs oo, optInt ev 0 lo, optInt ev n0 hi with
              | some (.row _ _ rows3 _), some l, some h => if k = k3 ∧ 0 ≤ l ∧ l ≤ h ∧ lo0 + h ≤ rows3.length then some ⟨.cs false [.win oo k (lo0 + l.toNat) (h.toNat - l.toNat)], [], [oo]⟩ else none
              | _, _, _ => none
            | _ => none) = some r → sliceA Γ (getO objs) ev t v lo hi mx = some r := fun r hr => by
        unfold sliceA
        split
        · exact absurd rfl (hns _)
        · simp only [he, hk0, hq]
          exact hr
      cases mx with
      | some m =>
        simp only at h2
        obtain ⟨l, hl, m', hm, h', hh, c1, c2⟩ := h2
        obtain ⟨hi', rfl⟩ : ∃ hi', hi = some hi' := by cases hi <;> simp at hh ⊢
        simp only [Option.bind_some] at hh
        by_cases hz : l = 0 ∧ m' = 0 ∧ h' = 0
        · exact ⟨_, start _ (by simp only [hl, hm, hh]; rw [if_pos hz]), c1 hz⟩
        · obtain ⟨c3, c4⟩ := c2 hz
          exact ⟨_, start _ (by simp only [hl, hm, hh]; rw [if_neg hz, if_pos c3]), c4⟩
      | none =>
        simp only at h2
        unfold vsliceN at h2
        split at h2
        · rename_i k3 rows
          obtain ⟨l, hl, h', hh, c1, c2⟩ := h2
          exact ⟨_, start _ (by simp only [avD, hl, hh]; rw [if_pos c1]), by simpa [avT] using c2⟩
        · rename_i k3
          obtain ⟨l, hl, h', hh, c1, c2⟩ := h2
          exact ⟨_, start _ (by simp only [avD, List.length_nil, hl, hh]; rw [if_pos (by simpa using c1)]), by simpa [avT] using c2⟩
        · rename_i oo
          obtain ⟨p, hp, l, hl, h', hh, c1, c2⟩ := h2
          have hp' := rowO (ob := getO objs) hp
          have hq' : q = (p.1, p.2.2.1, [oo]) := by
            simp only [rowsOf, hp', Option.some.injEq] at hq
            exact hq.symm
          subst hq'
          cases hlv : p.2.2.2 with
          | true =>
            rw [hlv] at hp' c2
            rw [vsw_true'] at c2
            exact ⟨⟨.cs false [.win oo k l.toNat (h'.toNat - l.toNat)], [], [oo]⟩, start _ (by simp only [avD, hp', hl, hh]; rw [if_pos c1]), c2⟩
          | false =>
            rw [hlv] at hp' c2
            rw [vsw_false'] at c2
            exact ⟨⟨.cs false [.d (.vec k ((p.2.2.1.take h'.toNat).drop l.toNat))], [], [oo]⟩, start _ (by simp only [avD, hp', hl, hh]; rw [if_pos c1]; rfl), c2⟩
        · rename_i oo k3 lo0 n0
          obtain ⟨p, hp, l, hl, h', hh, c1, c2⟩ := h2
          have hp' := rowO (ob := getO objs) hp
          exact ⟨⟨.cs false [.win oo k (lo0 + l.toNat) (h'.toNat - l.toNat)], [], [oo]⟩, start _ (by simp only [avD, hp', hl, hh]; rw [if_pos c1]), c2⟩
        · exact h2.elim
  | fieldAddr t x i =>
    rw [ho] at h
    obtain ⟨v, hv, fs, hfs, p, hp, k, hk, hk0, h1⟩ := h
    split at h1 <;> first
      | exact plain (by simp only [isX, ho]) ⟨_, by simp only [aop0, ho, hv, hfs, hp, hk]; rw [if_neg hk0], h1⟩
      | exact h1.elim
  | field t x i =>
    rw [ho] at h
    simp only [vop] at h
    split at h
    · rename_i cells e
      obtain ⟨fs, hfs, p, hp, r, hr, h1⟩ := h
      exact plain (by simp only [isX, ho]) ⟨_, by simp only [aop0, ho, e, hfs, hp, hr, Option.map_some]; rfl, h1⟩
    · exact h.elim
  | indexAddr t x i =>
    rw [ho] at h
    simp only [vop] at h
    split at h
    · rename_i oo n e
      obtain ⟨m, hm, r, hr, h1⟩ := h
      exact plain0 ⟨r, by rw [aop_X (by simp only [isX, ho, e, vslT])]; simp only [aopX, ho, e, hm]; exact hr, h1⟩
    rename_i hnv
    have plain := plain (by simp only [isX, ho]; exact vslT_false hnv)
    obtain ⟨v, hv, n, hn, e, he, k, hk, h1⟩ := h
    cases v with
    | d y =>
      cases y with
      | vec k' rows =>
        obtain ⟨hc, h2⟩ := h1
        obtain ⟨r, hr, h3⟩ := vget_elim h2
        exact plain ⟨_, by simp only [aop0, ho, hv, hn, he, hk]; rw [if_pos hc, hr], h3⟩
      | _ => exact h1.elim
    | own oo =>
      obtain ⟨q, hq, hc, h2⟩ := h1
      exact plain ⟨⟨.cs false [.eptr oo k n.toNat 0], [], [oo]⟩, by simp only [aop0, ho, hv, hn, he, hk, rowO hq]; rw [if_pos hc], h2⟩
    | _ => exact h1.elim
  | index t x i =>
    rw [ho] at h
    simp only [vop] at h
    split at h
    · rename_i s e
      obtain ⟨n, hn, ti, hti, ⟨c1, c2⟩, c3, h2⟩ := h
      obtain ⟨b, hb⟩ : ∃ b, s[n.toNat]? = some b := ⟨s[n.toNat], by simp [getElem?_pos, c3]⟩
      exact plain (by simp only [isX, ho]) ⟨_, by simp only [aop0, ho, e, hn, hti, c1]; rw [if_pos c2, hb]; rfl, h2 b hb⟩
    · exact h.elim
  | range t x =>
    rw [ho] at h
    obtain ⟨r, hr, h1⟩ := h
    exact plain0 ⟨r, by rw [aop_X (by simp only [isX, ho])]; simp only [aopX, ho]; exact hr, h1⟩
  | next x str =>
    rw [ho] at h
    simp only [vop] at h
    split at h
    · rename_i oo off e
      obtain ⟨q, hq, hc, h1, h2⟩ := h
      refine plain0 ⟨nextIt oo q.1 q.2, by rw [aop_X (by simp only [isX, ho])]; simp only [aopX, ho, nextA, e, hq]; rw [if_pos hc], ?_⟩
      unfold nextIt
      split
      · rename_i hlt; exact h1 hlt
      · rename_i hlt; exact h2 (by omega)
    · exact h.elim
  | extract t i =>
    rw [ho] at h
    simp only [vop] at h
    split at h
    · rename_i ts e
      obtain ⟨p, hp, h1⟩ := h
      exact plain (by simp only [isX, ho]) ⟨_, by simp only [aop0, ho, e, hp]; rfl, h1⟩
    · exact h.elim
  | call cl =>
    rw [ho] at h
    simp only [vop] at h
    split at h
    · rename_i b hb
      unfold vbuiltin at h
      split at h
      · rename_i x t e1 e2
        split at h
        · rename_i oo n e3
          obtain ⟨e, he, hk⟩ := h
          exact plain0 ⟨_, by rw [aop_X (by simp only [isX, ho, hb, e1, e2, e3, vslT])]; simp only [aopX, ho, hb, e1, e2, e3, he]; rfl, hk⟩
        rename_i hnv
        refine plain (by simp only [isX, ho, hb, e1, e2]; exact vslT_false hnv) ?_
        obtain ⟨v, hv, ti, hti, h1⟩ := h
        split at h1
        · obtain ⟨c1, hk⟩ := h1
          exact ⟨_, by simp only [aop0, ho, hb, e1, e2, hv, hti, c1]; rfl, hk⟩
        · rename_i hno
          obtain ⟨c0, q, hq, hk⟩ := h1
          obtain ⟨e, c1⟩ : ∃ e, ti.desc = .slice e := by
            unfold isSlice at c0
            split at c0
            · exact ⟨_, by assumption⟩
            · cases c0
          exact ⟨_, by simp only [aop0, ho, hb, e1, e2, hv, hti, c1, hq, Option.map_some]; rfl, hk⟩
      · rename_i s x t t2 e1 e2
        split at h
        · rename_i oo k lo n e3
          obtain ⟨r, hr, h1⟩ := h
          exact plain0 ⟨r, by rw [aop_X (by simp only [isX, ho, hb, e1, e2, e3, wxT])]; simp only [aopX, ho, hb, e1, e2, e3]; exact hr, h1⟩
        rename_i hnx
        refine plain (by simp only [isX, ho, hb, e1, e2]; exact wxT_false hnx) ?_
        obtain ⟨vs, hvs, vx, hvx, h1⟩ := h
        unfold vappend at h1
        split at h1
        · rename_i oo k lo n
          obtain ⟨e, he, sz, hsz, q, hq, p, hp, ⟨rfl, c1, c2, c3, c4, c5, c6⟩, hk⟩ := h1
          have hp' := rowO (ob := getO objs) hp
          rw [c1] at hp'
          exact ⟨⟨.cs false [.win oo k lo (n + q.2.1.length)], [(oo, some (.row k p.2.1 (splice p.2.2.1 (lo + n) q.2.1) true))], oo :: q.2.2⟩, by simp only [aop0, ho, hb, e1, e2, hvs, hvx, appendW, he, hsz, if_true, hq, hp']; rw [if_pos ⟨c2, c3, c4, c5, c6⟩], hk⟩
        · rename_i hnw
          obtain ⟨e, he, ti, hti, q, hq, p, hp, ⟨rfl, c1, c2, c3, c4, c5, c6, c7⟩, hk⟩ := h1
          have c7' : ∀ o ∈ p.2.2, o ∉ q.2.2 := by simpa using c7
          have hA : appendA Γ N (getO objs) t t vs vx = some ⟨.cs false [.own N], (N, some (.row p.1 e (p.2.1 ++ q.2.1) true)) :: p.2.2.map (fun o => (o, none)), p.2.2 ++ q.2.2⟩ := by
            simp only [appendA, he, hti, if_true, hq, hp]
            rw [if_pos ⟨c1, c2, c3, c4, c5, c6, c7'⟩]
          refine ⟨⟨.cs false [.own N], (N, some (.row p.1 e (p.2.1 ++ q.2.1) true)) :: p.2.2.map (fun o => (o, none)), p.2.2 ++ q.2.2⟩, ?_, hk⟩
          simp only [aop0, ho, hb, e1, e2, hvs, hvx]
          cases vs with
          | win oo k lo n => exact absurd rfl (hnw oo k lo n)
          | _ => exact hA
      · rename_i x t e1 e2
        split at h
        · rename_i v e3
          obtain ⟨e, he, r, hr, h1⟩ := h
          exact plain0 ⟨r, by rw [aop_X (by simp only [isX, ho, hb])]; simp only [aopX, ho, hb, e1, e2, e3, he]; exact hr, h1⟩
        · exact h.elim
      · rename_i x y t t2 e1 e2
        split at h
        · rename_i v u e3 e4
          obtain ⟨r, hr, h1⟩ := h
          exact plain0 ⟨r, by rw [aop_X (by simp only [isX, ho, hb])]; simp only [aopX, ho, hb, e1, e2, e3, e4]; exact hr, h1⟩
        · exact h.elim
      · rename_i s t e1 e2
        refine plain (by simp only [isX, ho, hb]) ?_
        obtain ⟨v, hv, h1⟩ := h
        split at h1
        · obtain ⟨r, e, hk⟩ := h1
          exact ⟨r, by simp only [aop0, ho, hb, e1, e2, hv, e], hk⟩
        · exact h1.elim
      · refine plain (by simp only [isX, ho, hb]) ?_
        split at h
        · rename_i e
          obtain ⟨n, hn, hk⟩ := h
          exact ⟨_, by simp only [aop0, ho, hb, e, hn, Option.map_some]; rfl, hk⟩
        · exact h.elim
      · refine plain (by simp only [isX, ho, hb]) ?_
        split at h
        · rename_i e
          obtain ⟨n, hn, hk⟩ := h
          exact ⟨_, by simp only [aop0, ho, hb, e, hn, Option.map_some]; rfl, hk⟩
        · exact h.elim
      · exact h.elim
    · rename_i f hb
      obtain ⟨e, he, xs, hxs, r, hr, h1⟩ := h
      exact plain0 ⟨r, by rw [aop_X (by simp only [isX, ho, hb, he, Option.isSome_some])]; simp only [aopX, ho, hb, he, hxs]; exact hr, h1⟩
    · exact h.elim
  | _ => rw [ho] at h; exact h.elim

end
end Go.Eng
