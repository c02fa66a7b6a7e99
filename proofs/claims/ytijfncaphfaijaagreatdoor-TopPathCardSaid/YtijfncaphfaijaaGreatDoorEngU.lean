/- Loops by lists; forgetting by lists. Verification conditions: what a stretch of code asks, told by equations that rewriting runs through. Regions, calls and control, told by equations; all is sound. What rewriting runs through: the set go_sem holds all that tells what code asks. -/
import Derived.Test.YtijfncaphfaijaaGreatDoorEngZ2
import Derived.KernelRfl
namespace Go.Eng

def weakE (σ : Nat → Nat) (n : Nat) (env : List (Nat × AT)) : List (Nat × AT) → Prop
  | [] => True
  | p :: r => (getE env p.1 = p.2.ren σ ∧ p.2.below n) ∧ weakE σ n env r

def weakO (σ : Nat → Nat) (n : Nat) (objs : List (Nat × Option AObj)) : List (Nat × Option AObj) → Prop
  | [] => True
  | (o, some x) :: r => (o < n ∧ getO objs (σ o) = some (x.ren σ) ∧ x.below n) ∧ weakO σ n objs r
  | (_, none) :: _ => False

theorem weak_of {pin : Pin} {σ : List (Nat × Nat)} {st st' : St} (hp : (decide (pin.n ≤ st'.next) && σ.all fun p => decide (pin.n ≤ p.1) || pin.free.contains p.1) = true) (h0 : st.nt = st'.nt) (h1 : weakE (look σ) st'.next st.env st'.env) (h2 : weakO (look σ) st'.next st.objs st'.objs)
    (h3 : (st'.objs.map fun p => look σ p.1).Nodup ∨ ∀ n, look σ n = n) : Weak pin (look σ) st st' := by
  simp only [Bool.and_eq_true, decide_eq_true_eq] at hp
  refine ⟨fun o ho => ⟨?_, Nat.lt_of_lt_of_le ho.1 hp.1⟩, h0, ?_, ?_, ?_⟩
  · have h4 := hp.2
    clear h1 h2 h3 hp h0
    induction σ with
    | nil => rfl
    | cons q r ih =>
      simp only [List.all_cons, Bool.and_eq_true, Bool.or_eq_true, decide_eq_true_eq, List.contains_iff_mem] at h4
      simp only [look]
      rw [if_neg fun e => by
        rcases h4.1 with h5 | h5
        · have := ho.1; omega
        · exact ho.2 (e ▸ h5)]
      exact ih h4.2
  · intro p hp
    generalize st'.env = l at h1 hp
    induction l with
    | nil => cases hp
    | cons q r ih =>
      rcases List.mem_cons.1 hp with rfl | hp
      · exact h1.1
      · exact ih h1.2 hp
  · clear h3
    generalize st'.objs = l at h2
    induction l with
    | nil => intro p hp; cases hp
    | cons q r ih =>
      intro p hp
      obtain ⟨o, x⟩ := q
      cases x with
      | none => exact h2.elim
      | some x =>
        rcases List.mem_cons.1 hp with rfl | hp
        · exact ⟨h2.1.1, fun y hy => by cases hy; exact h2.1.2⟩
        · exact ih h2.2 p hp
  · rcases h3 with h3 | h3
    · clear h2
      generalize st'.objs = l at h3
      induction l with
      | nil => intro p hp; cases hp
      | cons q r ih =>
        intro p hp p' hp' he
        simp only [List.map_cons, List.nodup_cons, List.mem_map, not_exists, not_and] at h3
        rcases List.mem_cons.1 hp with rfl | hp <;> rcases List.mem_cons.1 hp' with rfl | hp'
        · rfl
        · exact absurd he.symm (h3.1 p' hp')
        · exact absurd he (h3.1 p (by assumption))
        · exact ih h3.2 p hp p' hp' he
    · intro p _ q _ he
      rw [h3, h3] at he
      exact he

/-- The round hands on a state of the loop's, by a letter for which the number is less. -/
def Again {ι : Type} (E : Sit) (I : ι → St) (m : ι → Nat) (i : ι) (st' : St) : Prop := ∃ j, m j < m i ∧ ∀ (c : Base) (a : Act) (w : World), OkB E c → RelE c st' st'.next a w → RelE c (I j) (I j).next a w

theorem awp_for {E : Sit} {Q : Exit → St → Prop} {st : St} {x : Code} {ι : Type} (I : ι → St) (m : ι → Nat) (i : ι) (σ0 : List (Nat × Nat)) (hi : Weak E.pin (look σ0) st (I i))
    (round : ∀ i, AWp E x (thenQ (Again E I m i) Q) (I i)) : AWp E (.loop x) Q st :=
  awp_loop I m i (fun _ _ _ ho h => h.weak ho hi) fun i => awp_mono (round i) fun e st' h => by
    cases e with
    | normal =>
      obtain ⟨j, h1, h2⟩ := h
      exact ⟨j, h1, h2⟩
    | _ => exact h

theorem splice_cc {α : Type} (x y : α) (xs ys : List α) : splice (x :: xs) 0 (y :: ys) = y :: splice xs 0 ys := by simp [splice]
theorem splice_cs {α : Type} (x : α) (xs ys : List α) (n : Nat) : splice (x :: xs) (n + 1) ys = x :: splice xs n ys := by
  simp [splice, Nat.add_right_comm]

theorem wrap64 {n : Int} (h1 : -9223372036854775808 ≤ n) (h2 : n ≤ 9223372036854775807) : IntKind.i64.wrap n = n := by
  simp [IntKind.wrap, IntKind.signed, IntKind.bits]
  omega


end Go.Eng
namespace Go.Eng

/-- If there is such a thing, then K of it. -/
def vo {α : Type} (x : Option α) (K : α → Prop) : Prop := ∃ r, x = some r ∧ K r
theorem vo_some {α : Type} (r : α) (K : α → Prop) : vo (some r) K = K r := by simp [vo]
theorem vo_none {α : Type} (K : α → Prop) : vo none K = False := by simp [vo]
theorem vo_congr {α : Type} {x x' : Option α} {K : α → Prop} (h : x = x') : vo x K = vo x' K := by rw [h]

/-- Row i of some, then K of it. -/
def vget {α : Type} (l : List α) (i : Nat) (K : α → Prop) : Prop := i < l.length ∧ ∀ x, l[i]? = some x → K x
theorem vget_map {α β : Type} (f : α → β) (l : List α) (i : Nat) (K : β → Prop) : vget (l.map f) i K = (i < l.length ∧ ∀ x, l[i]? = some x → K (f x)) := by
  simp only [vget, List.length_map, List.getElem?_map, Option.map_eq_some_iff, eq_iff_iff]
  exact and_congr_right fun _ => ⟨fun h x hx => h _ ⟨x, hx, rfl⟩, fun h y ⟨x, hx, e⟩ => e ▸ h x hx⟩
theorem vget_zero {α : Type} (x : α) (l : List α) (K : α → Prop) : vget (x :: l) 0 K = K x := by simp [vget]
theorem vget_succ {α : Type} (x : α) (l : List α) (i : Nat) (K : α → Prop) : vget (x :: l) (i + 1) K = vget l i K := by simp [vget]
theorem vget_nil {α : Type} (i : Nat) (K : α → Prop) : vget [] i K = False := by simp [vget]
theorem vget_congr {α : Type} {l l' : List α} {i i' : Nat} {K : α → Prop} (h : l = l') (hi : i = i') : vget l i K = vget l' i' K := by rw [h, hi]
theorem vget_elim {α : Type} {l : List α} {i : Nat} {K : α → Prop} (h : vget l i K) : ∃ x, l[i]? = some x ∧ K x :=
  ⟨_, List.getElem?_eq_getElem h.1, h.2 _ (List.getElem?_eq_getElem h.1)⟩

/-- Byte i of a string, then K of it. -/
def vbyte (s : ByteArray) (i : Nat) (K : UInt8 → Prop) : Prop := i < s.size ∧ ∀ b, s[i]? = some b → K b
theorem vbyte_congr {l l' : ByteArray} {i i' : Nat} {K : UInt8 → Prop} (h : l = l') (hi : i = i') : vbyte l i K = vbyte l' i' K := by rw [h, hi]

def vcond (b : Option Bool) (A B : Prop) : Prop := vo b fun b => (b = true → A) ∧ (b = false → B)
theorem vcond_some (b : Bool) (A B : Prop) : vcond (some b) A B = ((b = true → A) ∧ (b = false → B)) := by simp [vcond, vo]
theorem vcond_true (A B : Prop) : vcond (some true) A B = A := by simp [vcond, vo]
theorem vcond_false (A B : Prop) : vcond (some false) A B = B := by simp [vcond, vo]
theorem vcond_none (A B : Prop) : vcond none A B = False := by simp [vcond, vo]
theorem vcond_congr {b b' : Option Bool} {A B : Prop} (h : b = b') : vcond b A B = vcond b' A B := by rw [h]

def vsw (b : Bool) (A B : Prop) : Prop := (b = true → A) ∧ (b = false → B)
theorem vsw_true' (A B : Prop) : vsw true A B = A := by simp [vsw]
theorem vsw_false' (A B : Prop) : vsw false A B = B := by simp [vsw]

abbrev Kop := AT → List (Nat × Option AObj) → List Nat → Prop

def varOf : Option AObj → Option (List AV × Bool)
  | some (.var cells l) => some (cells, l)
  | _ => none
def rowOf : Option AObj → Option (Nat × TypeId × List (List D) × Bool)
  | some (.row k e rows l) => some (k, e, rows, l)
  | _ => none

/-- The own rows among some cells that may still be written: they are frozen where they are handed on as data. -/
def fzOf (ob : Nat → Option AObj) (xs : List AV) : List Nat := livesOf ob xs

def partsC (ev : TypeId → Operand → AT) (e : TypeId) : List (Nat × Operand) → List AV
  | [] => []
  | (_, x) :: r => (match (ev e x).cells? with | some ys => ys | none => []) ++ partsC ev e r

def frzL (objs : List (Nat × Option AObj)) (fz : List Nat) : List (Nat × Option AObj) := fz.map (frz (getO objs))

def vload (Γ : Ctx) (objs : List (Nat × Option AObj)) (t : TypeId) (K : Kop) : AV → Prop
  | .ptr oo off => vo (varOf (getO objs oo)) fun cl => vo (loadC Γ t (cl.1.drop off)) fun r => K r [] [oo]
  | .d (.pt cells) => vo (loadC Γ t (cells.map .d)) fun r => K r [] []
  | .eptr oo k i j => vo (rowOf (getO objs oo)) fun q => k = q.1 ∧ vget q.2.2.1 i fun r => vo (loadC Γ t ((r.drop j).map .d)) fun r => K r [] [oo]
  | _ => False

def vstore (objs : List (Nat × Option AObj)) (k : Nat) (ys : List AV) (K : Kop) : AV → Prop
  | .ptr oo off => vo (varOf (getO objs oo)) fun cl => (cl.2 = true ∧ ys.length = k ∧ off + k ≤ cl.1.length) ∧ K .undef [(oo, some (.var (splice cl.1 off ys) true))] [oo]
  | .eptr oo kk i j => vo (rowOf (getO (frzL objs (fzOf (getO objs) ys) ++ objs) oo)) fun q => (q.2.2.2 = true ∧ kk = q.1) ∧ vo (allD (getO (frzL objs (fzOf (getO objs) ys) ++ objs)) ys) fun ds => (ds.length = k ∧ j + k ≤ kk) ∧
      vget q.2.2.1 i fun r => K .undef ((oo, some (.row kk q.2.1 (q.2.2.1.set i (splice r j ds)) true)) :: frzL objs (fzOf (getO objs) ys)) (fzOf (getO objs) ys ++ (oo :: ys.flatMap avT))
  | _ => False

def vbin (Γ : Ctx) (op : BinOp) (t : TypeId) (x y : AT) (K : Kop) : Prop := match op with
  | .quo => vo x.int? fun _ => vo y.int? fun b => b ≠ 0 ∧ vo (binA Γ op t x y) fun r => K r [] []
  | .rem => vo x.int? fun _ => vo y.int? fun b => b ≠ 0 ∧ vo (binA Γ op t x y) fun r => K r [] []
  | _ => vo (binA Γ op t x y) fun r => K r [] []

def vidxA (objs : List (Nat × Option AObj)) (k : Nat) (n : Int) (K : Kop) : AV → Prop
  | .d (.vec k' rows) => (k = k' ∧ 0 < k ∧ 0 ≤ n) ∧ vget rows n.toNat fun r => K (.cs false [.d (.pt r)]) [] []
  | .own oo => vo (rowOf (getO objs oo)) fun q => (k = q.1 ∧ 0 ≤ n ∧ n < q.2.2.1.length) ∧ K (.cs false [.eptr oo k n.toNat 0]) [] [oo]
  | _ => False

def vsliceN (objs : List (Nat × Option AObj)) (ev : TypeId → Operand → AT) (k : Nat) (lo hi : Option Operand) (K : Kop) : AV → Prop
  | .d (.vec k3 rows) => vo (optInt ev 0 lo) fun l => vo (optInt ev rows.length hi) fun h => (k = k3 ∧ 0 ≤ l ∧ l ≤ h ∧ h ≤ rows.length) ∧ K (.cs false [.d (.vec k ((rows.take h.toNat).drop l.toNat))]) [] []
  | .nils k3 => vo (optInt ev 0 lo) fun l => vo (optInt ev 0 hi) fun h => (k = k3 ∧ 0 ≤ l ∧ l ≤ h ∧ h ≤ 0) ∧ K (.cs false [.d (.vec k [])]) [] []
  | .own oo => vo (rowOf (getO objs oo)) fun p => vo (optInt ev 0 lo) fun l => vo (optInt ev p.2.2.1.length hi) fun h => (k = p.1 ∧ 0 ≤ l ∧ l ≤ h ∧ h ≤ p.2.2.1.length) ∧
      vsw p.2.2.2 (K (.cs false [.win oo k l.toNat (h.toNat - l.toNat)]) [] [oo]) (K (.cs false [.d (.vec k ((p.2.2.1.take h.toNat).drop l.toNat))]) [] [oo])
  | .win oo k3 lo0 n0 => vo (rowOf (getO objs oo)) fun p => vo (optInt ev 0 lo) fun l => vo (optInt ev n0 hi) fun h => (k = k3 ∧ 0 ≤ l ∧ l ≤ h ∧ lo0 + h ≤ p.2.2.1.length) ∧
      K (.cs false [.win oo k (lo0 + l.toNat) (h.toNat - l.toNat)]) [] [oo]
  | _ => False

def vslice (Γ : Ctx) (objs : List (Nat × Option AObj)) (ev : TypeId → Operand → AT) (t : TypeId) (lo hi mx : Option Operand) (K : Kop) : AV → Prop
  | .d (.v (.string s)) => vo (Γ.ty t) fun ti => vo (optInt ev 0 lo) fun l => vo (optInt ev s.size hi) fun h => (ti.desc = .str ∧ mx = none ∧ 0 ≤ l ∧ l ≤ h ∧ h ≤ s.size) ∧ K (.cs false [.d (.v (.string (s.extract l.toNat h.toNat)))]) [] []
  | x => vo (Γ.elem t) fun e => vo (Γ.size e) fun k => vo (rowsOf (getO objs) x) fun q => match mx with
    | some m => vo (optInt ev 0 lo) fun l => vo (ev 0 m).int? fun m => vo (hi.bind fun h => (ev 0 h).int?) fun h =>
        (l = 0 ∧ m = 0 ∧ h = 0 → K (.cs false [.nils k]) [] q.2.2) ∧ (¬(l = 0 ∧ m = 0 ∧ h = 0) → (0 ≤ l ∧ l ≤ h ∧ h ≤ m ∧ m ≤ q.2.1.length) ∧ K (sl3 k l.toNat h.toNat m.toNat x) [] q.2.2)
    | none => vsliceN objs ev k lo hi K x

def vappend (Γ : Ctx) (N : Nat) (objs : List (Nat × Option AObj)) (t t2 : TypeId) (x : AV) (K : Kop) : AV → Prop
  | .win oo k lo n => vo (Γ.elem t) fun e => vo (Γ.size e) fun sz => vo (rowsOf (getO objs) x) fun q => vo (rowOf (getO objs oo)) fun p =>
      (t = t2 ∧ p.2.2.2 = true ∧ k = q.1 ∧ k = p.1 ∧ k = sz ∧ p.2.1 = e ∧ lo + n + q.2.1.length ≤ p.2.2.1.length) ∧ K (.cs false [.win oo k lo (n + q.2.1.length)]) [(oo, some (.row k p.2.1 (splice p.2.2.1 (lo + n) q.2.1) true))] (oo :: q.2.2)
  | s => vo (Γ.elem t) fun e => vo (Γ.ty e) fun ti => vo (rowsOf (getO objs) x) fun q => vo (headOf (getO objs) e s) fun p =>
      (t = t2 ∧ p.1 = q.1 ∧ p.1 = ti.size ∧ ti.zero.length = ti.size ∧ 0 < p.1 ∧ p.2.1.length + q.2.1.length ≤ 9223372036854775807 ∧ (p.2.1.length + q.2.1.length) * ti.bytes ≤ 140737488355328 ∧ (p.2.2.all fun o => !q.2.2.contains o) = true) ∧
        K (.cs false [.own N]) ((N, some (.row p.1 e (p.2.1 ++ q.2.1) true)) :: p.2.2.map (fun o => (o, none))) (p.2.2 ++ q.2.2)

def isSlice : TDesc → Bool
  | .slice _ => true
  | _ => false

def vbuiltin (Γ : Ctx) (N : Nat) (objs : List (Nat × Option AObj)) (ev : TypeId → Operand → AT) (ty : TypeId) (K : Kop) : Builtin → List Operand → List TypeId → Prop
  | .len, [x], [t] => (match ev t x with
      | .cs false [.vsl oo n] => vo (Γ.elem t) fun _ => K (.cs false [.d (.v (.int .i64 n))]) [] [oo]
      | vx => vo vx.one? fun v => vo (Γ.ty t) fun ti => (match v with
        | .d (.v (.string s)) => ti.desc = .str ∧ K (.cs false [.d (.v (.int .i64 s.size))]) [] []
        | v => isSlice ti.desc = true ∧ vo (rowsOf (getO objs) v) fun q => K (.cs false [.d (.v (.int .i64 q.2.1.length))]) [] q.2.2))
  | .append, [s, x], [t, t2] => (match ev t s with
      | .cs false [.wx oo k lo n] => vo (appendX Γ N (getO objs) ev t t2 x oo k lo n) fun r => K r.out r.upd r.touch
      | vs => vo vs.one? fun vs => vo (ev t2 x).one? fun vx => (match vx with
        | .d (.v (.string str)) => vo (appendS Γ N (getO objs) t t2 vs str) fun r => K r.out r.upd r.touch
        | vx => vappend Γ N objs t t2 vx K vs))
  | .cap, [x], [t] => (match ev t x with
      | .cs false [v] => vo (Γ.elem t) fun _ => vo (capX (getO objs) v) fun r => K r.out r.upd r.touch
      | _ => False)
  | .copy, [x, y], [t, t2] => (match ev t x, ev t2 y with
      | .cs false [v], .cs false [u] => vo (copyX Γ (getO objs) t t2 v u) fun r => K r.out r.upd r.touch
      | _, _ => False)
  | .clear, [s], [t] => vo (ev t s).one? fun v => (match v with
      | .win oo k lo n => vo (clearW Γ (getO objs) t oo k lo n) fun r => K r.out r.upd r.touch
      | _ => False)
  | .max, xs, _ => (match xs.map (ev ty) with
      | .cs false [.d (.v (.int k a))] :: r => vo (foldInts (fun x y => if x < y then y else x) k a r) fun n => K (.cs false [.d (.v (.int k n))]) [] []
      | _ => False)
  | .min, xs, _ => (match xs.map (ev ty) with
      | .cs false [.d (.v (.int k a))] :: r => vo (foldInts (fun x y => if y < x then y else x) k a r) fun n => K (.cs false [.d (.v (.int k n))]) [] []
      | _ => False)
  | _, _, _ => False

/-- What an operation asks, and what comes of it. -/
def vop (Γ : Ctx) (N : Nat) (objs : List (Nat × Option AObj)) (ev : TypeId → Operand → AT) (ty : TypeId) (K : Kop) : Op → Prop
  | .move x => K (ev ty x) [] []
  | .assign x => K (ev ty x) [] []
  | .pick c a b => vcond (ev 0 c).bool? (K (ev ty a) [] []) (K (ev ty b) [] [])
  | .alloc e => vo (Γ.ty e) fun ti => K (.cs false [.ptr N 0]) [(N, some (.var ti.zero true))] []
  | .box e x => vo (ev e x).cells? fun ys => K (.cs false [.ptr N 0]) [(N, some (.var ys true))] []
  | .build t parts => vsw (arrOf Γ t).isSome (vo (buildP Γ ev t parts.toList) fun r => K r.out r.upd r.touch) (vo (Γ.ty t) fun ti => vo (Γ.fields t) fun fs => vo (fillA Γ ev fs ti.zero parts.toList) fun cells => K (.cs true cells) [] [])
  | .buildSlice t len parts => vsw (fnsT Γ t) (vo (buildV Γ N ev t len parts.toList) fun r => K r.out r.upd r.touch) (vo (Γ.elem t) fun e => vo (Γ.ty e) fun ti =>
      vo (allD (getO (frzL objs (fzOf (getO objs) (partsC ev e parts.toList)) ++ objs)) ti.zero) fun z => (z.length = ti.size ∧ 0 < ti.size ∧ len * ti.size ≤ 16777216 ∧ len ≤ 9223372036854775807) ∧
        vo (fillRows (getO (frzL objs (fzOf (getO objs) (partsC ev e parts.toList)) ++ objs)) ev e ti.size (List.replicate len z) parts.toList) fun r =>
          K (.cs false [.own N]) ((N, some (.row ti.size e r.1 true)) :: frzL objs (fzOf (getO objs) (partsC ev e parts.toList))) (fzOf (getO objs) (partsC ev e parts.toList) ++ (ti.zero.flatMap avT ++ r.2)))
  | .range t x => vo (rangeA Γ N t (ev t x)) fun r => K r.out r.upd r.touch
  | .next x str => (match ev 0 x with
      | .cs false [.ptr oo off] => vo (itOf (getO objs oo)) fun q => (off = 0 ∧ str = true) ∧
          (q.2 < q.1.size → K (.tup [(false, [.d (.v (.bool true))]), (false, [.d (.v (.int .i64 q.2))]), (false, [.d (.v (.int .i32 (Utf8.decode q.1 q.2).1))])]) [(oo, some (.it q.1 (q.2 + (Utf8.decode q.1 q.2).2)))] [oo]) ∧
          (q.1.size ≤ q.2 → K (.tup [(false, [.d (.v (.bool false))])]) [] [oo])
      | _ => False)
  | .load t a => vo (ev 0 a).one? fun v => vload Γ objs t K v
  | .store t a x => vo (ev 0 a).one? fun v => vo (ev t x).cells? fun ys => vo (Γ.size t) fun k => vstore objs k ys K v
  | .nilCheck x => vo (ev 0 x).one? fun v => (match v with
      | .ptr a b => K (.cs false [.ptr a b]) [] []
      | .eptr a b c d => K (.cs false [.eptr a b c d]) [] []
      | .d (.pt c) => K (.cs false [.d (.pt c)]) [] []
      | .d (.fn f c) => K (.cs false [.d (.fn f c)]) [] []
      | _ => False)
  | .binOp op t x y _ => vbin Γ op t (ev t x) (ev t y) K
  | .unOp op t x => (match op, ev t x with
      | .not, .cs false [.d (.v (.bool b))] => K (.cs false [.d (.v (.bool (!b)))]) [] []
      | .neg, .cs false [.d (.v (.int k n))] => K (.cs false [.d (.v (.int k (k.wrap (0 - n))))]) [] []
      | _, _ => False)
  | .convert s t x => (match ev s x with
      | .cs false [.d (.v (.string b))] => vo (Γ.ty s) fun si => vo (Γ.ty t) fun ti => (si.desc = .str ∧ ti.desc = .str) ∧ K (.cs false [.d (.v (.string b))]) [] []
      | .cs false [.d (.v (.int _ n))] => vo (Γ.ty s) fun si => vo (Γ.ty t) fun ti => (match si.desc, ti.desc with
          | .int _, .int k => K (.cs false [.d (.v (.int k (k.wrap n)))]) [] []
          | _, _ => False)
      | _ => False)
  | .makeFunc fn first captured => (match fn with
      | .func f => first.size = 0 ∧ vo (onesOf ev captured.toList) fun cs => (match allD (getO objs) cs with
          | some ds => K (.cs false [.d (.fn f ds)]) [] (cs.flatMap avT)
          | none => vo (capsOf (getO objs) cs) fun ks => K (.cs false [.clo f ks]) [] (cs.flatMap avT))
      | _ => False)
  | .slice t x lo hi mx => (match ev t x with
      | .cs false [.wx oo k lo0 n0] => (match mx with
          | none => vo (sliceX Γ (getO objs) ev t oo k lo0 n0 lo hi) fun r => K r.out r.upd r.touch
          | _ => False)
      | .cs false [.ptr oo off] => (match mx with
          | none => vo (arrS Γ (getO objs) ev t oo off lo hi) fun r => K r.out r.upd r.touch
          | _ => False)
      | v => vo v.one? fun v => vslice Γ objs ev t lo hi mx K v)
  | .sliceToArrayPointer t x => (match ev 0 x with
      | .cs false [.d (.vec 1 rows)] => vo (ptA Γ t rows) fun r => K r.out r.upd r.touch
      | _ => False)
  | .fieldAddr t x i => vo (ev 0 x).one? fun v => vo (Γ.fields t) fun fs => vo fs[i]? fun p => vo (Γ.size p.2) fun k => k ≠ 0 ∧ (match v with
      | .ptr oo f => K (.cs false [.ptr oo (f + p.1)]) [] []
      | .d (.pt cells) => K (.cs false [.d (.pt (cells.drop p.1))]) [] []
      | .eptr oo k i j => K (.cs false [.eptr oo k i (j + p.1)]) [] []
      | _ => False)
  | .field t x i => (match ev t x with
      | .cs true cells => vo (Γ.fields t) fun fs => vo fs[i]? fun p => vo (partA Γ p.2 cells p.1) fun r => K r [] []
      | _ => False)
  | .indexAddr t x i => (match ev t x with
      | .cs false [.vsl oo n] => vo (ev 0 i).int? fun m => vo (idxV Γ t oo n m) fun r => K r.out r.upd r.touch
      | .cs false [.ptr oo off] => vo (ev 0 i).int? fun m => vo (idxP Γ t oo off m) fun r => K r.out r.upd r.touch
      | vx => vo vx.one? fun v => vo (ev 0 i).int? fun n => vo (Γ.elem t) fun e => vo (Γ.size e) fun k => vidxA objs k n K v)
  | .index t x i => (match ev t x with
      | .cs false [.d (.v (.string s))] => vo (ev 0 i).int? fun n => vo (Γ.ty t) fun ti => (ti.desc = .str ∧ 0 ≤ n) ∧ vbyte s n.toNat fun b => K (.cs false [.d (.v (.int .u8 b.toNat))]) [] []
      | _ => False)
  | .extract t i => (match ev 0 t with
      | .tup ts => vo ts[i]? fun p => K (.cs p.1 p.2) [] []
      | _ => False)
  | .call c => (match c.callee with
      | .builtin b => vbuiltin Γ N objs ev ty K b c.args.toList c.argTypes.toList
      | .value (.func f) => vo (Γ.ext f) fun e => vo (onesOf ev c.args.toList) fun xs => vo (extA Γ (getO objs) e xs) fun r => K r.out r.upd r.touch
      | _ => False)
  | .makeSlice t x y => vo (mkA Γ N (getO objs) t (ev 0 x) (ev 0 y)) fun r => K r.out r.upd r.touch
  | _ => False

section
variable {Γ : Ctx} {N : Nat} {objs : List (Nat × Option AObj)} {ev : TypeId → Operand → AT} {K : Kop}

theorem getO_frzL (fz : List Nat) : getO (frzL objs fz ++ objs) = updO (fz.map (frz (getO objs))) (getO objs) := getO_upd _ _

theorem aop_plain {Γ : Ctx} {N : Nat} {ev : TypeId → Operand → AT} {ob : Nat → Option AObj} {o : Oper} (h : isX Γ ev o = false) : aop Γ N ev ob o = aop0 Γ N ev ob o := by simp [aop, h]
theorem aop_X {Γ : Ctx} {N : Nat} {ev : TypeId → Operand → AT} {ob : Nat → Option AObj} {o : Oper} (h : isX Γ ev o = true) : aop Γ N ev ob o = aopX Γ N ev ob o := by simp [aop, h]
theorem sliT_false {t : AT} (h : ∀ oo k lo n, t = .cs false [.wx oo k lo n] → False) (h' : ∀ oo n, t = .cs false [.ptr oo n] → False) : sliT t = false := by
  unfold sliT
  split
  · exact (h _ _ _ _ rfl).elim
  · exact (h' _ _ rfl).elim
  · rfl
theorem idxT_false {t : AT} (h : ∀ oo n, t = .cs false [.vsl oo n] → False) (h' : ∀ oo n, t = .cs false [.ptr oo n] → False) : idxT t = false := by
  unfold idxT
  split
  · exact (h _ _ rfl).elim
  · exact (h' _ _ rfl).elim
  · rfl
theorem vslT_false {t : AT} (h : ∀ oo n, t = .cs false [.vsl oo n] → False) : vslT t = false := by
  unfold vslT
  split
  · exact (h _ _ rfl).elim
  · rfl
theorem wxT_false {t : AT} (h : ∀ oo k lo n, t = .cs false [.wx oo k lo n] → False) : wxT t = false := by
  unfold wxT
  split
  · exact (h _ _ _ _ rfl).elim
  · rfl

/-- What it asks is enough: the operation goes, some rows being frozen first. -/
theorem vop_sound0 {o : Oper} (h : vop Γ N objs ev o.type K o.op) (hns : ∀ t x y, o.op ≠ .makeSlice t x y) : ∃ fz r, (∀ n ∈ fz, ∃ k e rows, getO objs n = some (.row k e rows true)) ∧ aop Γ N ev (updO (fz.map (frz (getO objs))) (getO objs)) o = some r ∧ K r.out (r.upd ++ fz.map (frz (getO objs))) (fz ++ r.touch) := by
  have plain0 : (∃ r, aop Γ N ev (getO objs) o = some r ∧ K r.out r.upd r.touch) → ∃ fz r, (∀ n ∈ fz, ∃ k e rows, getO objs n = some (.row k e rows true)) ∧ aop Γ N ev (updO (fz.map (frz (getO objs))) (getO objs)) o = some r ∧ K r.out (r.upd ++ fz.map (frz (getO objs))) (fz ++ r.touch) :=
    fun ⟨r, h1, h2⟩ => ⟨[], r, by simp, by simpa [updO] using h1, by simpa using h2⟩
  have plain : isX Γ ev o = false → (∃ r, aop0 Γ N ev (getO objs) o = some r ∧ K r.out r.upd r.touch) → ∃ fz r, (∀ n ∈ fz, ∃ k e rows, getO objs n = some (.row k e rows true)) ∧ aop Γ N ev (updO (fz.map (frz (getO objs))) (getO objs)) o = some r ∧ K r.out (r.upd ++ fz.map (frz (getO objs))) (fz ++ r.touch) :=
    fun hx ⟨r, h1, h2⟩ => plain0 ⟨r, by rw [aop_plain hx]; exact h1, h2⟩
  have rowO : ∀ {n : Nat} {ob : Nat → Option AObj} {q : Nat × TypeId × List (List D) × Bool}, rowOf (ob n) = some q → ob n = some (.row q.1 q.2.1 q.2.2.1 q.2.2.2) := by
    intro n ob q hq
    unfold rowOf at hq
    split at hq
    · rename_i e; cases hq; exact e
    · cases hq
  have varO : ∀ {n : Nat} {q : List AV × Bool}, varOf (getO objs n) = some q → getO objs n = some (.var q.1 q.2) := by
    intro n q hq
    unfold varOf at hq
    split at hq
    · rename_i e; cases hq; exact e
    · cases hq
  cases ho : o.op with
  | move x => rw [ho] at h; exact plain (by simp only [isX, ho]) ⟨pureOut (ev o.type x), by simp [aop0, ho], h⟩
  | assign x => rw [ho] at h; exact plain (by simp only [isX, ho]) ⟨pureOut (ev o.type x), by simp [aop0, ho], h⟩
  | pick c a b =>
    rw [ho] at h
    obtain ⟨q, hq, h1, h2⟩ := h
    cases q with
    | true => exact plain (by simp only [isX, ho]) ⟨_, by simp only [aop0, ho, hq, Option.map_some]; rfl, h1 rfl⟩
    | false => exact plain (by simp only [isX, ho]) ⟨_, by simp only [aop0, ho, hq, Option.map_some]; rfl, h2 rfl⟩
  | alloc e =>
    rw [ho] at h
    obtain ⟨ti, hti, h1⟩ := h
    exact plain (by simp only [isX, ho]) ⟨_, by simp only [aop0, ho, hti, Option.map_some]; rfl, h1⟩
  | box e x =>
    rw [ho] at h
    obtain ⟨ti, hti, h1⟩ := h
    exact plain (by simp only [isX, ho]) ⟨_, by simp only [aop0, ho, hti, Option.map_some]; rfl, h1⟩
  | build t parts =>
    rw [ho] at h
    obtain ⟨hx1, hx2⟩ := h
    cases har : (arrOf Γ t).isSome with
    | true =>
      obtain ⟨r, hr, h1⟩ := hx1 har
      exact plain0 ⟨r, by rw [aop_X (by simp only [isX, ho, har])]; simp only [aopX, ho]; exact hr, h1⟩
    | false =>
      obtain ⟨ti, hti, fs, hfs, cells, hc, h1⟩ := hx2 har
      exact plain (by simp only [isX, ho, har]) ⟨_, by simp only [aop0, ho, hti, hfs, hc, Option.map_some]; rfl, h1⟩
  | buildSlice t len parts =>
    rw [ho] at h
    obtain ⟨hx1, hx2⟩ := h
    cases hfn : fnsT Γ t with
    | true =>
      obtain ⟨r, hr, h1⟩ := hx1 hfn
      exact plain0 ⟨r, by rw [aop_X (by simp only [isX, ho, hfn])]; simp only [aopX, ho]; exact hr, h1⟩
    | false =>
    obtain ⟨e, he, ti, hti, z, hz, hc, r, hr, h1⟩ := hx2 hfn
    rw [getO_frzL] at hz hr
    exact ⟨fzOf (getO objs) (partsC ev e parts.toList), _, fun n hn => mem_lives hn, by rw [aop_plain (by simp only [isX, ho, hfn])]; simp only [aop0, ho, he, hti, hz]; rw [if_pos hc, hr]; rfl, by simpa [frzL] using h1⟩
  | load t a =>
    rw [ho] at h
    obtain ⟨v, hv, h1⟩ := h
    cases v with
    | ptr oo off =>
      obtain ⟨q, hq, r, hr, h2⟩ := h1
      exact plain (by simp only [isX, ho]) ⟨_, by simp only [aop0, ho, hv, varO hq, hr, Option.map_some]; rfl, h2⟩
    | d y =>
      cases y with
      | pt cells =>
        obtain ⟨r, hr, h2⟩ := h1
        exact plain (by simp only [isX, ho]) ⟨_, by simp only [aop0, ho, hv, hr, Option.map_some]; rfl, h2⟩
      | _ => exact h1.elim
    | eptr oo k i j =>
      obtain ⟨q, hq, hk, h2⟩ := h1
      obtain ⟨r, hr, r2, hr2, h3⟩ := vget_elim h2
      exact plain (by simp only [isX, ho]) ⟨⟨r2, [], [oo]⟩, by simp only [aop0, ho, hv, rowO hq]; rw [if_pos hk, hr]; simp only [hr2, Option.map_some], h3⟩
    | _ => exact h1.elim
  | store t a x =>
    rw [ho] at h
    obtain ⟨v, hv, ys, hys, k, hk, h1⟩ := h
    cases v with
    | ptr oo off =>
      obtain ⟨q, hq, ⟨hc1, hc2, hc3⟩, h2⟩ := h1
      have hq' := varO hq
      rw [hc1] at hq'
      exact plain (by simp only [isX, ho]) ⟨⟨.undef, [(oo, some (.var (splice q.1 off ys) true))], [oo]⟩, by simp only [aop0, ho, hv, hys, hk, hq']; rw [if_pos ⟨hc2, hc3⟩], h2⟩
    | eptr oo kk i j =>
      obtain ⟨q, hq, ⟨hc1, hc2⟩, ds, hds, hc3, h2⟩ := h1
      obtain ⟨r, hr, h3⟩ := vget_elim h2
      rw [getO_frzL] at hds
      have hq' := rowO (ob := getO (frzL objs (fzOf (getO objs) ys) ++ objs)) hq
      rw [getO_frzL, hc1] at hq'
      refine ⟨fzOf (getO objs) ys, ⟨.undef, [(oo, some (.row kk q.2.1 (q.2.2.1.set i (splice r j ds)) true))], oo :: ys.flatMap avT⟩, fun n hn => mem_lives hn, ?_, by simpa [frzL] using h3⟩
      rw [aop_plain (by simp only [isX, ho])]
      simp only [aop0, ho, hv, hys, hk, hq', hds]
      rw [if_pos ⟨hc2, hc3⟩, hr]
    | _ => exact h1.elim
  | nilCheck x =>
    rw [ho] at h
    obtain ⟨v, hv, h1⟩ := h
    split at h1 <;> first
      | exact plain (by simp only [isX, ho]) ⟨_, by simp only [aop0, ho, hv]; rfl, h1⟩
      | exact h1.elim
  | binOp op t x y t2 =>
    rw [ho] at h
    have key : (∃ r, binA Γ op t (ev t x) (ev t y) = some r ∧ K r [] []) → ∃ r, aop0 Γ N ev (getO objs) o = some r ∧ K r.out r.upd r.touch := fun ⟨r, h1, h2⟩ => ⟨pureOut r, by simp only [aop0, ho, h1, Option.map_some], h2⟩
    refine plain (by simp only [isX, ho]) (key ?_)
    simp only [vop, vbin] at h
    split at h
    · obtain ⟨_, _, _, _, _, h1⟩ := h; exact h1
    · obtain ⟨_, _, _, _, _, h1⟩ := h; exact h1
    · exact h
  | unOp op t x =>
    rw [ho] at h
    simp only [vop] at h
    split at h
    · rename_i e; exact plain (by simp only [isX, ho]) ⟨_, by simp only [aop0, ho, e]; rfl, h⟩
    · rename_i e; exact plain (by simp only [isX, ho]) ⟨_, by simp only [aop0, ho, e]; rfl, h⟩
    · exact h.elim
  | convert s t x =>
    rw [ho] at h
    simp only [vop] at h
    split at h
    · rename_i b e
      obtain ⟨si, hsi, ti, hti, ⟨h1, h2⟩, h3⟩ := h
      exact plain (by simp only [isX, ho]) ⟨_, by simp only [aop0, ho, e, hsi, hti, h1, h2]; rfl, h3⟩
    · rename_i k0 n e
      obtain ⟨si, hsi, ti, hti, h3⟩ := h
      split at h3
      · rename_i h1 h2; exact plain (by simp only [isX, ho]) ⟨_, by simp only [aop0, ho, e, hsi, hti, h1, h2]; rfl, h3⟩
      · exact h3.elim
    · exact h.elim
  | makeFunc fn first captured =>
    rw [ho] at h
    simp only [vop] at h
    split at h
    · obtain ⟨h0, cs, hcs, h1⟩ := h
      split at h1
      · rename_i ds hds
        exact plain (by simp only [isX, ho]) ⟨_, by simp only [aop0, ho]; rw [if_pos h0, hcs]; simp only [hds]; rfl, h1⟩
      · rename_i hds
        obtain ⟨ks, hks, h2⟩ := h1
        exact plain (by simp only [isX, ho]) ⟨_, by simp only [aop0, ho]; rw [if_pos h0, hcs]; simp only [hds, hks]; rfl, h2⟩
    · exact h.elim
  | slice t x lo hi mx =>
    rw [ho] at h
    simp only [vop] at h
    split at h
    · rename_i oo k lo0 n0 e
      split at h
      · obtain ⟨r, hr, h1⟩ := h
        exact plain0 ⟨r, by rw [aop_X (by simp only [isX, ho, e, sliT])]; simp only [aopX, ho, e]; exact hr, h1⟩
      · exact h.elim
    · rename_i oo off e
      split at h
      · obtain ⟨r, hr, h1⟩ := h
        exact plain0 ⟨r, by rw [aop_X (by simp only [isX, ho, e, sliT])]; simp only [aopX, ho, e]; exact hr, h1⟩
      · exact h.elim
    rename_i hnx hnp
    obtain ⟨v, hv, h1⟩ := h
    refine plain (by simp only [isX, ho]; exact sliT_false hnx hnp) ?_
    have gen : (∃ r, sliceA Γ (getO objs) ev t v lo hi mx = some r ∧ K r.out r.upd r.touch) → ∃ r, aop0 Γ N ev (getO objs) o = some r ∧ K r.out r.upd r.touch := fun ⟨r, e, hk⟩ => ⟨r, by simp only [aop0, ho, hv, e], hk⟩
    refine gen ?_
    unfold vslice at h1
    split at h1
    · rename_i s
      obtain ⟨ti, hti, l, hl, h', hh, ⟨c1, rfl, c2⟩, hk⟩ := h1
      exact ⟨_, by simp only [sliceA, hti, c1, hl, hh]; rw [if_pos c2], hk⟩
    · rename_i hns
      obtain ⟨e, he, k, hk0, q, hq, h2⟩ := h1
      have start : ∀ r, (match mx with
        | some m => match optInt ev 0 lo, (ev 0 m).int?, (match hi with | some h => (ev 0 h).int? | none => none) with
          | some l, some m, some h => if l = 0 ∧ m = 0 ∧ h = 0 then some ⟨.cs false [.nils k], [], q.2.2⟩
            else if 0 ≤ l ∧ l ≤ h ∧ h ≤ m ∧ m ≤ q.2.1.length then some ⟨sl3 k l.toNat h.toNat m.toNat v, [], q.2.2⟩ else none
          | _, _, _ => none
        | none => match avD (getO objs) v with
          | some (.vec k3 rows3) => match optInt ev 0 lo, optInt ev rows3.length hi with
            | some l, some h => if k = k3 ∧ 0 ≤ l ∧ l ≤ h ∧ h ≤ rows3.length then some ⟨.cs false [.d (.vec k ((rows3.take h.toNat).drop l.toNat))], [], avT v⟩ else none
            | _, _ => none
          | some _ => none
          | none => match v with
            | .own oo => match getO objs oo, optInt ev 0 lo, optInt ev q.2.1.length hi with
              | some (.row k3 _ _ _), some l, some h => if k = k3 ∧ 0 ≤ l ∧ l ≤ h ∧ h ≤ q.2.1.length then some ⟨.cs false [.win oo k l.toNat (h.toNat - l.toNat)], [], [oo]⟩ else none
              | _, _, _ => none
            | .win oo k3 lo0 n0 => match getO objs oo, optInt ev 0 lo, optInt ev n0 hi with
              | some (.row _ _ rows3 _), some l, some h => if k = k3 ∧ 0 ≤ l ∧ l ≤ h ∧ lo0 + h ≤ rows3.length then some ⟨.cs false [.win oo k (lo0 + l.toNat) (h.toNat - l.toNat)], [], [oo]⟩ else none
              | _, _, _ => none
            | _ => none) = some r → sliceA Γ (getO objs) ev t v lo hi mx = some r := fun r hr => by
        unfold sliceA
        split
        · exact absurd rfl (hns _)
        · simp only [he, hk0, hq]
          exact hr
      cases mx with
      | some m =>
        simp only at h2
        obtain ⟨l, hl, m', hm, h', hh, c1, c2⟩ := h2
        obtain ⟨hi', rfl⟩ : ∃ hi', hi = some hi' := by cases hi <;> simp at hh ⊢
        simp only [Option.bind_some] at hh
        by_cases hz : l = 0 ∧ m' = 0 ∧ h' = 0
        · exact ⟨_, start _ (by simp only [hl, hm, hh]; rw [if_pos hz]), c1 hz⟩
        · obtain ⟨c3, c4⟩ := c2 hz
          exact ⟨_, start _ (by simp only [hl, hm, hh]; rw [if_neg hz, if_pos c3]), c4⟩
      | none =>
        simp only at h2
        unfold vsliceN at h2
        split at h2
        · rename_i k3 rows
          obtain ⟨l, hl, h', hh, c1, c2⟩ := h2
          exact ⟨_, start _ (by simp only [avD, hl, hh]; rw [if_pos c1]), by simpa [avT] using c2⟩
        · rename_i k3
          obtain ⟨l, hl, h', hh, c1, c2⟩ := h2
          exact ⟨_, start _ (by simp only [avD, List.length_nil, hl, hh]; rw [if_pos (by simpa using c1)]), by simpa [avT] using c2⟩
        · rename_i oo
          obtain ⟨p, hp, l, hl, h', hh, c1, c2⟩ := h2
          have hp' := rowO (ob := getO objs) hp
          have hq' : q = (p.1, p.2.2.1, [oo]) := by
            simp only [rowsOf, hp', Option.some.injEq] at hq
            exact hq.symm
          subst hq'
          cases hlv : p.2.2.2 with
          | true =>
            rw [hlv] at hp' c2
            rw [vsw_true'] at c2
            exact ⟨⟨.cs false [.win oo k l.toNat (h'.toNat - l.toNat)], [], [oo]⟩, start _ (by simp only [avD, hp', hl, hh]; rw [if_pos c1]), c2⟩
          | false =>
            rw [hlv] at hp' c2
            rw [vsw_false'] at c2
            exact ⟨⟨.cs false [.d (.vec k ((p.2.2.1.take h'.toNat).drop l.toNat))], [], [oo]⟩, start _ (by simp only [avD, hp', hl, hh]; rw [if_pos c1]; rfl), c2⟩
        · rename_i oo k3 lo0 n0
          obtain ⟨p, hp, l, hl, h', hh, c1, c2⟩ := h2
          have hp' := rowO (ob := getO objs) hp
          exact ⟨⟨.cs false [.win oo k (lo0 + l.toNat) (h'.toNat - l.toNat)], [], [oo]⟩, start _ (by simp only [avD, hp', hl, hh]; rw [if_pos c1]), c2⟩
        · exact h2.elim
  | fieldAddr t x i =>
    rw [ho] at h
    obtain ⟨v, hv, fs, hfs, p, hp, k, hk, hk0, h1⟩ := h
    split at h1 <;> first
      | exact plain (by simp only [isX, ho]) ⟨_, by simp only [aop0, ho, hv, hfs, hp, hk]; rw [if_neg hk0], h1⟩
      | exact h1.elim
  | field t x i =>
    rw [ho] at h
    simp only [vop] at h
    split at h
    · rename_i cells e
      obtain ⟨fs, hfs, p, hp, r, hr, h1⟩ := h
      exact plain (by simp only [isX, ho]) ⟨_, by simp only [aop0, ho, e, hfs, hp, hr, Option.map_some]; rfl, h1⟩
    · exact h.elim
  | sliceToArrayPointer t x =>
    rw [ho] at h
    simp only [vop] at h
    split at h
    · rename_i rows e
      obtain ⟨r, hr, h1⟩ := h
      exact plain0 ⟨r, by rw [aop_X (by simp only [isX, ho])]; simp only [aopX, ho, e]; exact hr, h1⟩
    · exact h.elim
  | indexAddr t x i =>
    rw [ho] at h
    simp only [vop] at h
    split at h
    · rename_i oo n e
      obtain ⟨m, hm, r, hr, h1⟩ := h
      exact plain0 ⟨r, by rw [aop_X (by simp only [isX, ho, e, idxT])]; simp only [aopX, ho, e, hm]; exact hr, h1⟩
    · rename_i oo n e
      obtain ⟨m, hm, r, hr, h1⟩ := h
      exact plain0 ⟨r, by rw [aop_X (by simp only [isX, ho, e, idxT])]; simp only [aopX, ho, e, hm]; exact hr, h1⟩
    rename_i hnv hnp
    have plain := plain (by simp only [isX, ho]; exact idxT_false hnv hnp)
    obtain ⟨v, hv, n, hn, e, he, k, hk, h1⟩ := h
    cases v with
    | d y =>
      cases y with
      | vec k' rows =>
        obtain ⟨hc, h2⟩ := h1
        obtain ⟨r, hr, h3⟩ := vget_elim h2
        exact plain ⟨_, by simp only [aop0, ho, hv, hn, he, hk]; rw [if_pos hc, hr], h3⟩
      | _ => exact h1.elim
    | own oo =>
      obtain ⟨q, hq, hc, h2⟩ := h1
      exact plain ⟨⟨.cs false [.eptr oo k n.toNat 0], [], [oo]⟩, by simp only [aop0, ho, hv, hn, he, hk, rowO hq]; rw [if_pos hc], h2⟩
    | _ => exact h1.elim
  | index t x i =>
    rw [ho] at h
    simp only [vop] at h
    split at h
    · rename_i s e
      obtain ⟨n, hn, ti, hti, ⟨c1, c2⟩, c3, h2⟩ := h
      obtain ⟨b, hb⟩ : ∃ b, s[n.toNat]? = some b := ⟨s[n.toNat], by simp [getElem?_pos, c3]⟩
      exact plain (by simp only [isX, ho]) ⟨_, by simp only [aop0, ho, e, hn, hti, c1]; rw [if_pos c2, hb]; rfl, h2 b hb⟩
    · exact h.elim
  | range t x =>
    rw [ho] at h
    obtain ⟨r, hr, h1⟩ := h
    exact plain0 ⟨r, by rw [aop_X (by simp only [isX, ho])]; simp only [aopX, ho]; exact hr, h1⟩
  | next x str =>
    rw [ho] at h
    simp only [vop] at h
    split at h
    · rename_i oo off e
      obtain ⟨q, hq, hc, h1, h2⟩ := h
      refine plain0 ⟨nextIt oo q.1 q.2, by rw [aop_X (by simp only [isX, ho])]; simp only [aopX, ho, nextA, e, hq]; rw [if_pos hc], ?_⟩
      unfold nextIt
      split
      · rename_i hlt; exact h1 hlt
      · rename_i hlt; exact h2 (by omega)
    · exact h.elim
  | extract t i =>
    rw [ho] at h
    simp only [vop] at h
    split at h
    · rename_i ts e
      obtain ⟨p, hp, h1⟩ := h
      exact plain (by simp only [isX, ho]) ⟨_, by simp only [aop0, ho, e, hp]; rfl, h1⟩
    · exact h.elim
  | call cl =>
    rw [ho] at h
    simp only [vop] at h
    split at h
    · rename_i b hb
      unfold vbuiltin at h
      split at h
      · rename_i x t e1 e2
        split at h
        · rename_i oo n e3
          obtain ⟨e, he, hk⟩ := h
          exact plain0 ⟨_, by rw [aop_X (by simp only [isX, ho, hb, e1, e2, e3, vslT])]; simp only [aopX, ho, hb, e1, e2, e3, he]; rfl, hk⟩
        rename_i hnv
        refine plain (by simp only [isX, ho, hb, e1, e2]; exact vslT_false hnv) ?_
        obtain ⟨v, hv, ti, hti, h1⟩ := h
        split at h1
        · obtain ⟨c1, hk⟩ := h1
          exact ⟨_, by simp only [aop0, ho, hb, e1, e2, hv, hti, c1]; rfl, hk⟩
        · rename_i hno
          obtain ⟨c0, q, hq, hk⟩ := h1
          obtain ⟨e, c1⟩ : ∃ e, ti.desc = .slice e := by
            unfold isSlice at c0
            split at c0
            · exact ⟨_, by assumption⟩
            · cases c0
          exact ⟨_, by simp only [aop0, ho, hb, e1, e2, hv, hti, c1, hq, Option.map_some]; rfl, hk⟩
      · rename_i s x t t2 e1 e2
        split at h
        · rename_i oo k lo n e3
          obtain ⟨r, hr, h1⟩ := h
          exact plain0 ⟨r, by rw [aop_X (by simp only [isX, ho, hb, e1, e2, e3, wxT])]; simp only [aopX, ho, hb, e1, e2, e3]; exact hr, h1⟩
        rename_i hnx
        refine plain (by simp only [isX, ho, hb, e1, e2]; exact wxT_false hnx) ?_
        obtain ⟨vs, hvs, vx, hvx, h1⟩ := h
        split at h1
        · rename_i str
          obtain ⟨r, hr, hk⟩ := h1
          refine ⟨r, ?_, hk⟩
          simp only [aop0, ho, hb, e1, e2, hvs, hvx]
          cases vs with
          | win oo k lo n =>
            exfalso
            unfold appendS at hr
            split at hr
            · split at hr
              · unfold appendA at hr
                split at hr
                · split at hr
                  · split at hr
                    · split at hr
                      · rename_i hh
                        cases hh
                      · cases hr
                    · cases hr
                  · cases hr
                · cases hr
              · cases hr
            · cases hr
          | _ => exact hr
        rename_i hnstr
        unfold vappend at h1
        split at h1
        · rename_i oo k lo n
          obtain ⟨e, he, sz, hsz, q, hq, p, hp, ⟨rfl, c1, c2, c3, c4, c5, c6⟩, hk⟩ := h1
          have hp' := rowO (ob := getO objs) hp
          rw [c1] at hp'
          exact ⟨⟨.cs false [.win oo k lo (n + q.2.1.length)], [(oo, some (.row k p.2.1 (splice p.2.2.1 (lo + n) q.2.1) true))], oo :: q.2.2⟩, by simp only [aop0, ho, hb, e1, e2, hvs, hvx, appendW, he, hsz, if_true, hq, hp']; rw [if_pos ⟨c2, c3, c4, c5, c6⟩], hk⟩
        · rename_i hnw
          obtain ⟨e, he, ti, hti, q, hq, p, hp, ⟨rfl, c1, c2, c3, c4, c5, c6, c7⟩, hk⟩ := h1
          have c7' : ∀ o ∈ p.2.2, o ∉ q.2.2 := by simpa using c7
          have hA : appendA Γ N (getO objs) t t vs vx = some ⟨.cs false [.own N], (N, some (.row p.1 e (p.2.1 ++ q.2.1) true)) :: p.2.2.map (fun o => (o, none)), p.2.2 ++ q.2.2⟩ := by
            simp only [appendA, he, hti, if_true, hq, hp]
            rw [if_pos ⟨c1, c2, c3, c4, c5, c6, c7'⟩]
          refine ⟨⟨.cs false [.own N], (N, some (.row p.1 e (p.2.1 ++ q.2.1) true)) :: p.2.2.map (fun o => (o, none)), p.2.2 ++ q.2.2⟩, ?_, hk⟩
          simp only [aop0, ho, hb, e1, e2, hvs, hvx]
          cases vs with
          | win oo k lo n => exact absurd rfl (hnw oo k lo n)
          | _ =>
            unfold appendV
            split
            · exact absurd rfl (hnstr _)
            · exact hA
      · rename_i x t e1 e2
        split at h
        · rename_i v e3
          obtain ⟨e, he, r, hr, h1⟩ := h
          exact plain0 ⟨r, by rw [aop_X (by simp only [isX, ho, hb])]; simp only [aopX, ho, hb, e1, e2, e3, he]; exact hr, h1⟩
        · exact h.elim
      · rename_i x y t t2 e1 e2
        split at h
        · rename_i v u e3 e4
          obtain ⟨r, hr, h1⟩ := h
          exact plain0 ⟨r, by rw [aop_X (by simp only [isX, ho, hb])]; simp only [aopX, ho, hb, e1, e2, e3, e4]; exact hr, h1⟩
        · exact h.elim
      · rename_i s t e1 e2
        refine plain (by simp only [isX, ho, hb]) ?_
        obtain ⟨v, hv, h1⟩ := h
        split at h1
        · obtain ⟨r, e, hk⟩ := h1
          exact ⟨r, by simp only [aop0, ho, hb, e1, e2, hv, e], hk⟩
        · exact h1.elim
      · refine plain (by simp only [isX, ho, hb]) ?_
        split at h
        · rename_i e
          obtain ⟨n, hn, hk⟩ := h
          exact ⟨_, by simp only [aop0, ho, hb, e, hn, Option.map_some]; rfl, hk⟩
        · exact h.elim
      · refine plain (by simp only [isX, ho, hb]) ?_
        split at h
        · rename_i e
          obtain ⟨n, hn, hk⟩ := h
          exact ⟨_, by simp only [aop0, ho, hb, e, hn, Option.map_some]; rfl, hk⟩
        · exact h.elim
      · exact h.elim
    · rename_i f hb
      obtain ⟨e, he, xs, hxs, r, hr, h1⟩ := h
      exact plain0 ⟨r, by rw [aop_X (by simp only [isX, ho, hb, he, Option.isSome_some])]; simp only [aopX, ho, hb, he, hxs]; exact hr, h1⟩
    · exact h.elim
  | makeSlice t x y => exact absurd ho (hns t x y)
  | _ => rw [ho] at h; exact h.elim

theorem vop_sound {o : Oper} (h : vop Γ N objs ev o.type K o.op) : ∃ fz r, (∀ n ∈ fz, ∃ k e rows, getO objs n = some (.row k e rows true)) ∧ aopW Γ N ev (updO (fz.map (frz (getO objs))) (getO objs)) o r ∧ K r.out (r.upd ++ fz.map (frz (getO objs))) (fz ++ r.touch) := by
  have lift : (∃ fz r, (∀ n ∈ fz, ∃ k e rows, getO objs n = some (.row k e rows true)) ∧ aop Γ N ev (updO (fz.map (frz (getO objs))) (getO objs)) o = some r ∧ K r.out (r.upd ++ fz.map (frz (getO objs))) (fz ++ r.touch)) →
      ∃ fz r, (∀ n ∈ fz, ∃ k e rows, getO objs n = some (.row k e rows true)) ∧ aopW Γ N ev (updO (fz.map (frz (getO objs))) (getO objs)) o r ∧ K r.out (r.upd ++ fz.map (frz (getO objs))) (fz ++ r.touch) := fun ⟨fz, r, h1, h2, h3⟩ => ⟨fz, r, h1, .inl h2, h3⟩
  cases ho : o.op with
  | makeSlice t x y =>
    rw [ho] at h
    obtain ⟨r, h1, h2⟩ := h
    exact ⟨[], r, by simp, .inr (by simpa [aopY, ho, updO] using h1), by simpa using h2⟩
  | _ =>
  refine lift (vop_sound0 h ?_)
  intro t x y e
  rw [ho] at e
  cases e

end
end Go.Eng
namespace Go.Eng

/-- What a step has to do with others. -/
structure Ft where
  rt : List Nat
  ro : List Nat
  dst : Option Tmp
  keys : List Nat

def Acc.ft (x : Acc) : Ft := ⟨x.rt, x.ro, x.dst, x.upd.map (·.1)⟩

def clashF (x y : Ft) : Bool := clash ⟨x.rt, x.ro, x.dst, .junk, x.keys.map fun k => (k, none)⟩ ⟨y.rt, y.ro, y.dst, .junk, y.keys.map fun k => (k, none)⟩

theorem clash_ft (x y : Acc) : clashF x.ft y.ft = clash x y := by
  have h : ∀ z : Acc, (z.ft.keys.map fun k => ((k, none) : Nat × Option AObj)).map (·.1) = z.upd.map (·.1) := fun z => by
    simp [Acc.ft, Function.comp_def]
  simp only [clashF, clash, h]
  rfl

def pairsF (masks : List Nat) (xs : List Ft) : Bool :=
  (List.range xs.length).all fun j => (List.range j).all fun i => match xs[i]?, xs[j]? with
    | some x, some y => !(clashF x y) || (masks.getD j 0).testBit i
    | _, _ => true

def drawF (ops : List Oper) (xs : List Ft) : Bool := backOk 0 ops && pairsF (masksFrom [] ops) xs

structure Reg where
  ops : List Oper
  N : Nat
  draw : Bool
  Q : Exit → St → Prop

theorem vsw_true (A B : Prop) : vsw true A B = A := by simp [vsw]
theorem vsw_false (A B : Prop) : vsw false A B = B := by simp [vsw]
theorem vsw_congr {b b' : Bool} {A B : Prop} (h : b = b') : vsw b A B = vsw b' A B := by rw [h]

abbrev boolT (b : Bool) : AT := .cs false [.d (.v (.bool b))]

/-- What a guard's temporary tells: from then on it is known. -/
def vgd (t : Nat) (env : List (Nat × AT)) (want : Bool) (no yes : List (Nat × AT) → Prop) : AT → Prop
  | .cs false [.d (.v (.bool b))] => vsw (b == want) (yes ((t, boolT want) :: env)) (no ((t, boolT !want) :: env))
  | .undef => no env
  | _ => False

theorem vgd_elim {t : Nat} {env : List (Nat × AT)} {y : AT} {want : Bool} {no yes : List (Nat × AT) → Prop} (h : vgd t env want no yes y) : (∃ b, y = .cs false [.d (.v (.bool b))] ∧ vsw (b == want) (yes ((t, boolT want) :: env)) (no ((t, boolT !want) :: env))) ∨ (y = .undef ∧ no env) := by
  cases y with
  | undef => exact .inr ⟨rfl, h⟩
  | junk => exact h.elim
  | tup ts => exact h.elim
  | cs g xs =>
    unfold vgd at h
    split at h
    · rename_i b e; exact .inl ⟨b, e, h⟩
    · rename_i e; cases e
    · exact h.elim

def vguardT (env : List (Nat × AT)) (want : Bool) (no yes : List (Nat × AT) → Prop) : Option Tmp → Prop
  | none => no env
  | some t => vgd t env want no yes (getE env t)

def vguard (ops : List Oper) (env : List (Nat × AT)) (no yes : List (Nat × AT) → Prop) : Option (Nat × Bool) → Prop
  | none => yes env
  | some (j, want) => vguardT env want no yes ((ops[j]?).bind (·.dst))

def convOf (objs : List (Nat × Option AObj)) : Option (FuncId × List (Bool × List AV)) → Option (List (Bool × List CV))
  | some (_, A) => convArgs (getO objs) [] A
  | none => none

def padFt : Ft := ⟨[], [], none, []⟩
/-- What stands for the operations ahead of a cut. -/
def pads (n : Nat) : List Ft := List.replicate n padFt
/-- May a call be walked here? In a drawn region: if all before it precede it, and it precedes all behind it. -/
def CutOk (R : Reg) (j : Nat) (acc : List Ft) : Prop := R.draw = false ∨ (drawF R.ops acc.reverse = true ∧ cutOk R.ops j = true)

/-- A call: by its contract, or by a walk over the caller's objects. -/
def VCall (E : Sit) (R : Reg) (acc : List Ft) (st : St) (j : Nat) (ca : Option (FuncId × List (Bool × List AV))) (cv : Option (List (Bool × List CV))) (K : Kop) (KH : AT → List (Nat × Option AObj) → Nat → Prop) : Prop :=
  cv = convOf st.objs ca → ∃ f A, ca = some (f, A) ∧ ((∃ es cargs res t news, convArgs (getO st.objs) es A = some cargs ∧ Meets E.P f cargs res ∧ res.out (R.N + 8 * j) = some (t, news) ∧ callOk (getO st.objs) es A news.length = true ∧
      K t (news ++ callUpd (getO st.objs) es A res.scalar) (callTouch A)) ∨ (CutOk R j acc ∧ HCall E f A st.objs (R.N + 8 * j) KH) ∨
    ∃ keep os os' t, (∀ p ∈ os, getO st.objs p.1 = some p.2) ∧ MeetsO E.P f A os os' t ∧ okO A os os' t = true ∧ K t (someO (turnedK keep os os')) (os.map (·.1)))

/-- A round of a loop over a function. -/
def YCall (E : Sit) (_draw : Bool) (n : Nat) (A : List (Bool × List AV)) (objs : List (Nat × Option AObj)) (next : Nat) (c : Prop) (K : AT → List (Nat × Option AObj) → Nat → Prop) : Prop :=
  c ∧ HYield E n A objs next K

def vyld (y : Option (Nat × List (Bool × List AV))) (Y : Nat → List (Bool × List AV) → Prop) (B : Prop) : Prop := match y with
  | none => B
  | some p => Y p.1 p.2

def isCall (Γ : Ctx) (o : Op) : Bool := match o with
  | .call c => match c.callee with
    | .value (.func f) => (Γ.ext f).isNone
    | .value _ => true
    | _ => false
  | _ => false

/-- Operations that are told as the runner does them. -/
def isArr2 : AT → Bool
  | .cs true _ => true
  | .cs false [.d (.v .nilIface)] => true
  | _ => false
def isAggT : AT → Bool
  | .cs true _ => true
  | _ => false
def isPtT : AT → Bool
  | .cs false [.d (.pt _)] => true
  | _ => false
def isPtE : AT → Bool
  | .cs false [.d (.pt _)] => true
  | .cs false [.eptr ..] => true
  | .cs false [.win ..] => true
  | _ => false
def isArrI (Γ : Ctx) (t : TypeId) : Bool := match Γ.ty t with
  | some ti => match ti.desc with
    | .arr .. => true
    | .iface => true
    | _ => false
  | none => false
def wantC (Γ : Ctx) (t : TypeId) : AT → Bool
  | .cs false [.d (.v (.string _))] => !isStr Γ t
  | .cs false [.d (.v _)] => false
  | .cs false [_] => true
  | _ => false
def isNilT : AT → Bool
  | .cs false [.nils _] => true
  | _ => false
def isOwnT : AT → Bool
  | .cs false [.own _] => true
  | _ => false
def isCvT : AT → Bool
  | .cs false [.d (.cvec _ _)] => true
  | _ => false
def isTmpO : Option Operand → Bool
  | some (.tmp _) => true
  | _ => false
def isIntY (Γ : Ctx) (t : TypeId) : Bool := match Γ.ty t with
  | some ti => isInt ti.desc
  | none => false
def wantB (Γ : Ctx) (ev : TypeId → Operand → AT) : Callee → List Operand → List TypeId → Bool
  | .builtin .cap, [x], [t] => isNilT (ev t x)
  | .builtin .append, [s, _], [t, t2] => isCvT (ev t s) || (isNilT (ev t s) && isIntY Γ t2)
  | _, _, _ => false
def wantY (Γ : Ctx) (ev : TypeId → Operand → AT) : Op → Bool
  | .makeFunc _ first _ => first.size != 0
  | .convert s t x => wantC Γ t (ev s x)
  | .slice t x lo hi mx => (mx.isNone && isPtT (ev t x)) || (mx.isNone && lo.isNone && hi.isSome && isNilT (ev t x)) || (isTmpO mx && lo.isNone && isOwnT (ev t x))
  | .call c => wantB Γ ev c.callee c.args.toList c.argTypes.toList
  | .indexAddr t x _ => isPtE (ev t x)
  | .binOp _ t x _ _ => isArr2 (ev t x) && isArrI Γ t
  | .makeMap .. => true
  | .index t x _ => isAggT (ev t x)
  | .lookup .. => true
  | .mapUpdate .. => true
  | _ => false
def vopY (Γ : Ctx) (N : Nat) (objs : List (Nat × Option AObj)) (ev : TypeId → Operand → AT) (ty : TypeId) (K : Kop) (op : Op) : Prop :=
  vsw (wantY Γ ev op) (vo (aopY Γ N ev (getO objs) ⟨none, op, ty, "", #[], none⟩) fun r => K r.out r.upd r.touch) (vop Γ N objs ev ty K op)
theorem aopY_op {Γ : Ctx} {N : Nat} {ev : TypeId → Operand → AT} {ob : Nat → Option AObj} {o o' : Oper} (h : o.op = o'.op) : aopY Γ N ev ob o = aopY Γ N ev ob o' := by
  unfold aopY
  rw [h]
theorem vopY_sound {Γ : Ctx} {N : Nat} {objs : List (Nat × Option AObj)} {ev : TypeId → Operand → AT} {K : Kop} {o : Oper} (h : vopY Γ N objs ev o.type K o.op) : ∃ fz r, (∀ n ∈ fz, ∃ k e rows, getO objs n = some (.row k e rows true)) ∧ aopW Γ N ev (updO (fz.map (frz (getO objs))) (getO objs)) o r ∧ K r.out (r.upd ++ fz.map (frz (getO objs))) (fz ++ r.touch) := by
  unfold vopY at h
  cases hw : wantY Γ ev o.op with
  | false => rw [hw, vsw_false] at h; exact vop_sound h
  | true =>
    rw [hw, vsw_true] at h
    obtain ⟨r, h1, h2⟩ := h
    have h3 := (aopY_op (Γ := Γ) (N := N) (ev := ev) (ob := getO objs) (o := o) (o' := ⟨none, o.op, o.type, "", #[], none⟩) rfl).trans h1
    exact ⟨[], r, by simp, .inr (by simpa [updO] using h3), by simpa using h2⟩

/-- The drawn order does not matter. -/
def DrawOk (R : Reg) (acc : List Ft) : Prop := R.draw = true → drawF R.ops acc.reverse = true
theorem DrawOk.plain {ops : List Oper} {N : Nat} {Q : Exit → St → Prop} {acc : List Ft} : DrawOk ⟨ops, N, false, Q⟩ acc = True := by simp [DrawOk]
theorem DrawOk.yes {R : Reg} {acc : List Ft} (h : drawF R.ops acc.reverse = true) : DrawOk R acc := fun _ => h

/-- A compare with nil: both ways. -/
def vnilq (Γ : Ctx) (draw : Bool) (objs : List (Nat × Option AObj)) (ev : TypeId → Operand → AT) (K : Bool → Prop) (B : Prop) : Option (TypeId × Operand × Bool) → Prop
  | none => B
  | some (t, x, want) => draw = false ∧ vo (Γ.elem t) fun _ => vo (ev t x).one? fun v => vo (rowsOf (getO objs) v) fun q => 0 < q.1 ∧ ∀ b, (q.2.1 ≠ [] → b = false) → K (b == want)

def vrun (E : Sit) : Reg → Nat → List Ft → List Oper → St → Prop
  | R, j, acc, [], st => DrawOk R acc ∧ R.Q .normal ⟨st.nt, st.env, st.objs, R.N + 8 * j⟩
  | R, j, acc, o :: rest, st => dstOk st.nt o.dst = true ∧ vguard R.ops st.env
      (fun env => vrun E R (j + 1) (⟨guardT R.ops.toArray o, [], o.dst, []⟩ :: acc) rest ⟨st.nt, putE env o.dst .undef, st.objs, st.next⟩)
      (fun env => vnilq E.Γ R.draw st.objs (aval E.Γ (getE env)) (fun b => vrun E R (j + 1) acc rest ⟨st.nt, putE env o.dst (.cs false [.d (.v (.bool b))]), st.objs, st.next⟩) (vsw (isCall E.Γ o.op)
        (vyld (yieldA (aval E.Γ (getE env)) o) (fun n A => YCall E R.draw n A st.objs (R.N + 8 * j) (CutOk R j acc) (fun t objs' next' => vrun E ⟨R.ops, next', R.draw, R.Q⟩ (j + 1) (pads (j + 1)) rest ⟨st.nt, putE env o.dst t, objs', st.next⟩))
        (VCall E R acc ⟨st.nt, env, st.objs, st.next⟩ j (callArgs (aval E.Γ (getE env)) o) (convOf st.objs (callArgs (aval E.Γ (getE env)) o)) (fun out upd touch =>
            vrun E R (j + 1) (⟨guardT R.ops.toArray o ++ o.op.operands.toList.flatMap opTemps, touch, o.dst, upd.map (·.1)⟩ :: acc) rest ⟨st.nt, putE env o.dst out, upd ++ st.objs, st.next⟩)
            (fun t objs' next' => vrun E ⟨R.ops, next', R.draw, R.Q⟩ (j + 1) (pads (j + 1)) rest ⟨st.nt, putE env o.dst t, objs', st.next⟩)))
        (vopY E.Γ (R.N + 8 * j) st.objs (aval E.Γ (getE env)) o.type (fun out upd touch =>
            vrun E R (j + 1) (⟨guardT R.ops.toArray o ++ o.op.operands.toList.flatMap opTemps, touch, o.dst, upd.map (·.1)⟩ :: acc) rest ⟨st.nt, putE env o.dst out, upd ++ st.objs, st.next⟩) o.op)) (nilq o.op))
      o.guard

/-! ### Regions by any predicate that steps -/

/-- A call by a walk; a round of a loop. -/
def Outs (E : Sit) (next : Nat) (o : Oper) (env : List (Nat × AT)) (objs : List (Nat × Option AObj)) (K : AT → List (Nat × Option AObj) → Nat → Prop) : Prop :=
  (∃ f A, callArgs (aval E.Γ (getE env)) o = some (f, A) ∧ HCall E f A objs next K) ∨ ∃ n A, yieldA (aval E.Γ (getE env)) o = some (n, A) ∧ HYield E n A objs next K

/-- What an operation may do: a step; a call by a walk, or a round; a compare with nil. -/
def DoesV (V : Reg → Nat → List Ft → List Oper → St → Prop) (E : Sit) (R : Reg) (j : Nat) (acc : List Ft) (o : Oper) (rest : List Oper) (st : St) (env : List (Nat × AT)) : Prop :=
  (∃ x, AStepF E.P E.Γ R.ops.toArray R.N st.nt j o (getE env) (getO st.objs) x ∧ V R (j + 1) (x.ft :: acc) rest ((⟨st.nt, env, st.objs, st.next⟩ : St).apply x)) ∨
    (CutOk R j acc ∧ guardA R.ops.toArray (getE env) o = some true ∧ dstOk st.nt o.dst = true ∧ Outs E (R.N + 8 * j) o env st.objs fun t objs' next' => V ⟨R.ops, next', R.draw, R.Q⟩ (j + 1) (pads (j + 1)) rest ⟨st.nt, putE env o.dst t, objs', st.next⟩) ∨
    (R.draw = false ∧ guardA R.ops.toArray (getE env) o = some true ∧ dstOk st.nt o.dst = true ∧
      (∃ t x want e v q, nilq o.op = some (t, x, want) ∧ E.Γ.elem t = some e ∧ (aval E.Γ (getE env) t x).one? = some v ∧ rowsOf (getO st.objs) v = some q ∧ 0 < q.1 ∧
        ∀ b, (q.2.1 ≠ [] → b = false) → V R (j + 1) acc rest ⟨st.nt, putE env o.dst (.cs false [.d (.v (.bool (b == want)))]), st.objs, st.next⟩))

structure StepsV (V : Reg → Nat → List Ft → List Oper → St → Prop) (E : Sit) : Prop where
  nil : ∀ R j acc st, V R j acc [] st → DrawOk R acc ∧ R.Q .normal ⟨st.nt, st.env, st.objs, R.N + 8 * j⟩
  cons : ∀ R j acc o rest st, V R j acc (o :: rest) st → ∃ env, getE env = getE st.env ∧ DoesV V E R j acc o rest st env

/-- The steps that o may take from here; what has to be known behind it. -/
theorem vstep_sound {E : Sit} {R : Reg} {j : Nat} {acc : List Ft} {o : Oper} {rest : List Oper} {st : St} (h : vrun E R j acc (o :: rest) st) :
    ∃ env, getE env = getE st.env ∧ DoesV (vrun E) E R j acc o rest st env := by
  simp only [vrun] at h
  obtain ⟨hd, h⟩ := h
  have no : ∀ env, getE env = getE st.env → guardA R.ops.toArray (getE env) o = some false → vrun E R (j + 1) (⟨guardT R.ops.toArray o, [], o.dst, []⟩ :: acc) rest ⟨st.nt, putE env o.dst .undef, st.objs, st.next⟩ →
      ∃ env, getE env = getE st.env ∧ DoesV (vrun E) E R j acc o rest st env :=
    fun env he hg hv => ⟨env, he, .inl ⟨⟨guardT R.ops.toArray o, [], o.dst, .undef, []⟩, ⟨hd, .inl ⟨hg, rfl⟩⟩, hv⟩⟩
  have yes := fun (env : List (Nat × AT)) (he : getE env = getE st.env) (hg : guardA R.ops.toArray (getE env) o = some true) (hv : vnilq E.Γ R.draw st.objs (aval E.Γ (getE env)) (fun b => vrun E R (j + 1) acc rest ⟨st.nt, putE env o.dst (.cs false [.d (.v (.bool b))]), st.objs, st.next⟩) (vsw (isCall E.Γ o.op)
        (vyld (yieldA (aval E.Γ (getE env)) o) (fun n A => YCall E R.draw n A st.objs (R.N + 8 * j) (CutOk R j acc) (fun t objs' next' => vrun E ⟨R.ops, next', R.draw, R.Q⟩ (j + 1) (pads (j + 1)) rest ⟨st.nt, putE env o.dst t, objs', st.next⟩))
        (VCall E R acc ⟨st.nt, env, st.objs, st.next⟩ j (callArgs (aval E.Γ (getE env)) o) (convOf st.objs (callArgs (aval E.Γ (getE env)) o)) (fun out upd touch =>
            vrun E R (j + 1) (⟨guardT R.ops.toArray o ++ o.op.operands.toList.flatMap opTemps, touch, o.dst, upd.map (·.1)⟩ :: acc) rest ⟨st.nt, putE env o.dst out, upd ++ st.objs, st.next⟩)
            (fun t objs' next' => vrun E ⟨R.ops, next', R.draw, R.Q⟩ (j + 1) (pads (j + 1)) rest ⟨st.nt, putE env o.dst t, objs', st.next⟩)))
        (vopY E.Γ (R.N + 8 * j) st.objs (aval E.Γ (getE env)) o.type (fun out upd touch =>
            vrun E R (j + 1) (⟨guardT R.ops.toArray o ++ o.op.operands.toList.flatMap opTemps, touch, o.dst, upd.map (·.1)⟩ :: acc) rest ⟨st.nt, putE env o.dst out, upd ++ st.objs, st.next⟩) o.op)) (nilq o.op)) =>
    show ∃ env, getE env = getE st.env ∧ DoesV (vrun E) E R j acc o rest st env from by
      refine ⟨env, he, ?_⟩
      cases hq : nilq o.op with
      | some p =>
        obtain ⟨t, x, want⟩ := p
        rw [hq] at hv
        obtain ⟨h0, e, h1, v, h2, q, h3, h4, h5⟩ := hv
        exact .inr (.inr ⟨h0, hg, hd, t, x, want, e, v, q, hq, h1, h2, h3, h4, h5⟩)
      | none =>
      rw [hq] at hv
      simp only [vnilq] at hv
      cases hc : isCall E.Γ o.op with
      | false =>
        rw [hc, vsw_false] at hv
        obtain ⟨fz, r, h1, h2, h3⟩ := vopY_sound hv
        exact .inl ⟨⟨guardT R.ops.toArray o ++ o.op.operands.toList.flatMap opTemps, fz ++ r.touch, o.dst, r.out, r.upd ++ fz.map (frz (getO st.objs))⟩, ⟨hd, .inr ⟨hg, .inl ⟨fz, r, h1, h2, rfl⟩⟩⟩, h3⟩
      | true =>
        rw [hc, vsw_true] at hv
        cases hy : yieldA (aval E.Γ (getE env)) o with
        | some p =>
          obtain ⟨n, A⟩ := p
          rw [hy] at hv
          exact .inr (.inl ⟨hv.1, hg, hd, .inr ⟨n, A, hy, hv.2⟩⟩)
        | none =>
        rw [hy] at hv
        obtain ⟨f, A, hca, h1⟩ := hv rfl
        rcases h1 with ⟨es, cargs, res, t, news, h2, h3, h4, h5, h6⟩ | ⟨h2, h3⟩ | ⟨keep, os, os', t, h2, h3, h4, h5⟩
        · exact .inl ⟨⟨guardT R.ops.toArray o ++ o.op.operands.toList.flatMap opTemps, callTouch A, o.dst, t, news ++ callUpd (getO st.objs) es A res.scalar⟩, ⟨hd, .inr ⟨hg, .inr (.inl ⟨f, A, es, cargs, res, t, news, hca, h2, h3, h4, h5, rfl⟩)⟩⟩, h6⟩
        · exact .inr (.inl ⟨h2, hg, hd, .inl ⟨f, A, hca, h3⟩⟩)
        · exact .inl ⟨(⟨guardT R.ops.toArray o ++ o.op.operands.toList.flatMap opTemps, os.map (fun p : Nat × AObj => p.1), o.dst, t, someO (turnedK keep os os')⟩ : Acc), ⟨hd, .inr ⟨hg, .inr (.inr ⟨keep, f, A, os, os', t, hca, h2, h3, h4, rfl⟩)⟩⟩, h5⟩
  cases hgd : o.guard with
  | none =>
    rw [hgd] at h
    exact yes st.env rfl (by simp [guardA, hgd]) h
  | some p =>
    obtain ⟨g, want⟩ := p
    rw [hgd] at h
    simp only [vguard] at h
    cases ht : (R.ops[g]?).bind (·.dst) with
    | none =>
      rw [ht] at h
      exact no st.env rfl (by simp [guardA, hgd, ht]) h
    | some t =>
      rw [ht] at h
      simp only [vguardT] at h
      rcases vgd_elim h with ⟨b, he, h1⟩ | ⟨he, h1⟩
      · have same : ∀ q, b = q → getE ((t, boolT q) :: st.env) = getE st.env := fun q hq => by
          funext n
          simp only [getE]
          split
          · rename_i e; rw [e, he, hq]
          · rfl
        cases hb : b == want with
        | true =>
          have hbw : b = want := by simpa using hb
          refine yes _ (same want hbw) ?_ (h1.1 hb)
          rw [same want hbw]
          simp [guardA, hgd, ht, he, hbw]
        | false =>
          have hbw : b = !want := by cases b <;> cases want <;> simp_all
          refine no _ (same (!want) hbw) ?_ (h1.2 hb)
          rw [same (!want) hbw]
          simp [guardA, hgd, ht, he, hb]
      · exact no st.env rfl (by simp [guardA, hgd, ht, he]) h1

theorem runS_env {E : Sit} {l : List Oper} {N j : Nat} {Q : Exit → St → Prop} {st : St} {env : List (Nat × AT)} (he : getE env = getE st.env) (h : RunS E l N j Q ⟨st.nt, env, st.objs, st.next⟩) : RunS E l N j Q st := by
  intro c a w hc hr
  refine h c a w hc ?_
  unfold RelE at hr ⊢
  simp only [he]
  exact hr

theorem drawF_eq (ops : List Oper) (xs : List Acc) : drawF ops (xs.map Acc.ft) = drawOk ops xs := by
  unfold drawF drawOk
  congr 1
  unfold pairsF pairsOk
  simp only [List.length_map, List.getElem?_map]
  congr 1
  funext j
  congr 1
  funext i
  cases h1 : xs[i]? <;> cases h2 : xs[j]? <;> simp [clash_ft]

theorem runE_env {E : Sit} {l : List Oper} {N j : Nat} {Q : Exit → St → Prop} {st : St} {env : List (Nat × AT)} (he : getE env = getE st.env) (h : SegE E l N j Q ⟨st.nt, env, st.objs, st.next⟩) : SegE E l N j Q st := by
  intro c a w listed fuel hc hr
  refine h c a w listed fuel hc ?_
  unfold RelE at hr ⊢
  simp only [he]
  exact hr
theorem v_plain {V : Reg → Nat → List Ft → List Oper → St → Prop} {E : Sit} (hE : SitOk E) (hV : StepsV V E) : ∀ (rest : List Oper) (R : Reg) (j : Nat) (acc : List Ft) (st : St), (∀ i, rest[i]? = R.ops[j + i]?) → R.draw = false → V R j acc rest st → RunS E R.ops R.N j R.Q st
  | [], R, j, acc, st, hl, _, h => by
    have h := hV.nil _ _ _ _ h
    refine runS_end ?_ h.2
    have := hl 0
    simp only [List.getElem?_nil, Nat.add_zero] at this
    exact List.getElem?_eq_none_iff.1 this.symm
  | o :: rest, R, j, acc, st, hl, hdr, h => by
    have ho : R.ops[j]? = some o := by simpa using (hl 0).symm
    have hl' : ∀ i, rest[i]? = R.ops[j + 1 + i]? := fun i => by have := hl (i + 1); simpa [Nat.add_assoc, Nat.add_comm 1 i] using this
    obtain ⟨env, he, hs⟩ := hV.cons _ _ _ _ _ _ h
    refine runS_env he ?_
    rcases hs with ⟨x, h1, h2⟩ | ⟨_, hg, hd, ⟨f, A, hca, h1⟩ | ⟨n, A, hy, h1⟩⟩ | ⟨_, hg, hd, t, x, want, e, v, q, hq, h1, h2, h3, h4, h5⟩
    · exact runS_step hE ho h1 (v_plain hE hV rest R (j + 1) _ _ hl' hdr h2)
    · refine runS_hcall (st := ⟨st.nt, env, st.objs, st.next⟩) ho hg hd hca (h1.mono fun t objs' next' hv => ⟨next', by omega, ?_⟩)
      exact v_plain hE hV rest ⟨R.ops, next', R.draw, R.Q⟩ (j + 1) _ _ hl' hdr hv
    · refine runS_yield (st := ⟨st.nt, env, st.objs, st.next⟩) ho hg hd hy (h1.mono fun t objs' next' hv => ⟨next', by omega, ?_⟩)
      exact v_plain hE hV rest ⟨R.ops, next', R.draw, R.Q⟩ (j + 1) _ _ hl' hdr hv
    · exact runS_nilq (st := ⟨st.nt, env, st.objs, st.next⟩) hE ho hg hd hq h1 h2 h3 h4 fun b hb => v_plain hE hV rest R (j + 1) acc _ hl' hdr (h5 b hb)

theorem v_seg {V : Reg → Nat → List Ft → List Oper → St → Prop} {E : Sit} (hV : StepsV V E) : ∀ (rest : List Oper) (R : Reg) (j : Nat) (acc : List Ft) (st : St), (∀ i, rest[i]? = R.ops[j + i]?) → j ≤ R.ops.length → R.draw = true → V R j acc rest st →
    ∃ e st' xs, j ≤ e ∧ e ≤ R.ops.length ∧ ARun E.P E.Γ R.ops.toArray R.N j (rest.take (e - j)) st st' xs ∧ drawF R.ops (acc.reverse ++ xs.map Acc.ft) = true ∧
      ((e = R.ops.length ∧ R.Q .normal ⟨st'.nt, st'.env, st'.objs, R.N + 8 * e⟩) ∨ (e < R.ops.length ∧ cutOk R.ops e = true ∧ ∃ o env, R.ops[e]? = some o ∧ getE env = getE st'.env ∧ guardA R.ops.toArray (getE env) o = some true ∧ dstOk st'.nt o.dst = true ∧
        Outs E (R.N + 8 * e) o env st'.objs fun t objs' next' => V ⟨R.ops, next', R.draw, R.Q⟩ (e + 1) (pads (e + 1)) (R.ops.drop (e + 1)) ⟨st'.nt, putE env o.dst t, objs', st'.next⟩))
  | [], R, j, acc, st, hl, hjl, hdr, h => by
    have h := hV.nil _ _ _ _ h
    have hlen : j = R.ops.length := by
      have := hl 0
      simp only [List.getElem?_nil, Nat.add_zero] at this
      have := List.getElem?_eq_none_iff.1 this.symm
      omega
    exact ⟨j, st, [], Nat.le_refl _, hjl, by simpa using ARun.nil, by simpa using h.1 hdr, .inl ⟨hlen, by simpa using h.2⟩⟩
  | o :: rest, R, j, acc, st, hl, hjl, hdr, h => by
    have hl' : ∀ i, rest[i]? = R.ops[j + 1 + i]? := fun i => by have := hl (i + 1); simpa [Nat.add_assoc, Nat.add_comm 1 i] using this
    have ho : R.ops[j]? = some o := by simpa using (hl 0).symm
    have hj : j < R.ops.length := (List.getElem?_eq_some_iff.1 ho).1
    obtain ⟨env, he, hs⟩ := hV.cons _ _ _ _ _ _ h
    rcases hs with ⟨x, h1, h2⟩ | ⟨hc, hg, hd, h1⟩ | ⟨h1, _⟩
    · obtain ⟨e, st', xs, h3, h4, h5, h6, h7⟩ := v_seg hV rest R (j + 1) _ _ hl' hj hdr h2
      refine ⟨e, st', x :: xs, by omega, h4, ?_, by simpa using h6, h7⟩
      rw [show e - j = (e - (j + 1)) + 1 by omega, List.take_succ_cons]
      exact .env he (.cons (st := ⟨st.nt, env, st.objs, st.next⟩) h1 h5)
    · rcases hc with hc | ⟨hc1, hc2⟩
      · rw [hdr] at hc; cases hc
      · refine ⟨j, st, [], Nat.le_refl _, hjl, by simpa using ARun.nil, by simpa using hc1, .inr ⟨hj, hc2, o, env, ho, he, hg, hd, ?_⟩⟩
        have hrest : rest = R.ops.drop (j + 1) := List.ext_getElem? fun i => by rw [hl', List.getElem?_drop]
        rw [← hrest]
        exact h1
    · rw [hdr] at h1; cases h1

theorem v_segE {V : Reg → Nat → List Ft → List Oper → St → Prop} {E : Sit} (hE : SitOk E) (hV : StepsV V E) : ∀ (k : Nat) (R : Reg) (j : Nat) (st : St), R.ops.length - j ≤ k → j ≤ R.ops.length → R.draw = true → V R j (pads j) (R.ops.drop j) st → SegE E R.ops R.N j R.Q st := by
  intro k
  induction k with
  | zero =>
    intro R j st hk hj hdr h
    have hjl : j = R.ops.length := by omega
    have hd : R.ops.drop j = [] := List.drop_eq_nil_of_le (by omega)
    rw [hd] at h
    have h := hV.nil _ _ _ _ h
    refine segE_end hE hj (by rw [hd]; exact .nil) ?_ (by rw [← hjl]; exact h.2)
    have h1 := h.1 hdr
    rw [← drawF_eq]
    simpa [pads, padFt, padA, Acc.ft] using h1
  | succ k ih =>
    intro R j st hk hj hdr h
    obtain ⟨e, st', xs, h1, h2, h3, h4, h5⟩ := v_seg hV _ R j (pads j) st (fun i => by rw [List.getElem?_drop]) hj hdr h
    have h4' : drawOk R.ops (List.replicate j padA ++ xs) = true := by
      rw [← drawF_eq]
      simpa [pads, padFt, padA, Acc.ft] using h4
    rcases h5 with ⟨h6, h7⟩ | ⟨h6, h7, o, env, ho, he, hg, hd, hout⟩
    · subst h6
      exact segE_end hE hj (by rw [List.take_of_length_le (by simp)] at h3; exact h3) h4' h7
    · have he' : getE st'.env = getE env := he.symm
      rcases hout with ⟨f, A, hca, hcall⟩ | ⟨n, A, hy, hcall⟩
      · refine segE_call hE h1 h6 h3 h4' h7 ho (by rw [he']; exact hg) hd (by rw [he']; exact hca) (hcall.mono fun t objs' next' hv => ?_)
        refine runE_env (env := putE env o.dst t) ?_ (ih ⟨R.ops, next', R.draw, R.Q⟩ (e + 1) _ (by simp only; omega) h6 hdr hv)
        rw [getE_put, getE_put, he']
      · refine segE_yield hE h1 h6 h3 h4' h7 ho (by rw [he']; exact hg) hd (by rw [he']; exact hy) (hcall.mono fun t objs' next' hv => ?_)
        refine runE_env (env := putE env o.dst t) ?_ (ih ⟨R.ops, next', R.draw, R.Q⟩ (e + 1) _ (by simp only; omega) h6 hdr hv)
        rw [getE_put, getE_put, he']

theorem v_region {V : Reg → Nat → List Ft → List Oper → St → Prop} {E : Sit} (hE : SitOk E) (hV : StepsV V E) {id : Nat} {ops : Array Oper} {draw : Bool} {Q : Exit → St → Prop} {st : St} (h : V ⟨ops.toList, st.next, draw, Q⟩ 0 [] ops.toList st) : AWp E (.region id ops draw) Q st := by
  cases draw with
  | false => exact awp_runS (v_plain hE hV _ ⟨ops.toList, st.next, false, Q⟩ 0 [] st (fun i => by simp) rfl h)
  | true => exact awp_seg hE (v_segE hE hV _ ⟨ops.toList, st.next, true, Q⟩ 0 st (Nat.le_refl _) (Nat.zero_le _) rfl h)

theorem vrun_steps (E : Sit) : StepsV (vrun E) E := ⟨fun _ _ _ _ h => h, fun _ _ _ _ _ _ h => vstep_sound h⟩

def noGotoQ (Q : Exit → St → Prop) : Exit → St → Prop
  | .goto _, _ => False
  | e, st => Q e st

/-- What code asks. -/
def vc (E : Sit) : Code → (Exit → St → Prop) → St → Prop
  | .skip, Q, st => Q .normal st
  | .region _ ops draw, Q, st => vrun E ⟨ops.toList, st.next, draw, Q⟩ 0 [] ops.toList st
  | .seq a b, Q, st => vc E a (thenQ (vc E b Q) Q) st
  | .cond x a b, Q, st => vcond (aval E.Γ (getE st.env) 0 x).bool? (vc E a Q st) (vc E b Q st)
  | .block id c, Q, st => vc E c (blockQ id Q) st
  | .exit id, Q, st => Q (.exit id) st
  | .label _, Q, st => Q .normal st
  | .ret, Q, st => Q .ret st
  | .scope c, Q, st => vc E c (noGotoQ Q) st
  | c, Q, st => AWp E c Q st

theorem stepR_scope {P : Program} {b : Frame} {a : Act} {k : List Item} {cs : List Frame} {w : World} {c : Code} : step P (lone (b.atR a (.code (.scope c) :: k)) cs w) = .next (lone (b.atR a (.code c :: .inScope c :: k)) cs w) :=
  step_lone_go (by simp [stepG, stepG.exec, Frame.atR])
theorem stepR_inScope {P : Program} {b : Frame} {a : Act} {k : List Item} {cs : List Frame} {w : World} {c : Code} : step P (lone (b.atR a (.inScope c :: k)) cs w) = .next (lone (b.atR a k) cs w) :=
  step_lone_go (by simp [stepG, stepG.exec, Frame.atR])

theorem awp_scope {E : Sit} {c : Code} {Q : Exit → St → Prop} {st : St} (h : AWp E c (noGotoQ Q) st) : AWp E (.scope c) Q st := by
  intro cb a w hc hr b k cs hro hb hroom
  have h0 : (lone (b.atR a (.code (.scope c) :: k)) cs w).fenced E.P (wf E.ro) := fenced_calm hb hroom rfl
  obtain ⟨e, a₁, w₁, ⟨st', hq1, hq⟩, harr⟩ := h cb a w hc hr b (.inScope c :: k) cs hro hb hroom
  cases e with
  | normal => exact ⟨.normal, a₁, w₁, ⟨st', hq1, hq⟩, .head h0 stepR_scope (StepsIn.trans harr (.one (fenced_calm hb hroom rfl) stepR_inScope))⟩
  | exit id =>
    refine ⟨.exit id, a₁, w₁, ⟨st', hq1, hq⟩, ?_⟩
    have h1 := harr.1
    have h2 := harr.2
    refine ⟨fun k' hk => .head h0 stepR_scope (h1 k' (by simp [exitTo, hk])), fun hn hk => ?_⟩
    obtain ⟨k1, hk1, hs⟩ := h2 hn (by simpa [exitTo] using hk)
    exact ⟨k1, hk1, .head h0 stepR_scope hs⟩
  | goto l => exact hq.elim
  | ret => exact ⟨_, a₁, w₁, ⟨st', hq1, hq⟩, .of_steps (.one h0 stepR_scope) (.pass (x := .inLoop c) rfl (fun _ _ => .inl (by simp)) (by
      refine ⟨fun hn => ?_, fun hn => ?_⟩
      · exact harr.1 hn
      · obtain ⟨k1, hs⟩ := harr.2 hn
        exact ⟨k1, hs⟩))⟩
  | panic ch => exact ⟨_, a₁, w₁, ⟨st', hq1, hq⟩, .of_steps (.one h0 stepR_scope) harr⟩
  | outgrown => exact ⟨_, a₁, w₁, ⟨st', hq1, hq⟩, .of_steps (.one h0 stepR_scope) harr⟩

theorem vc_sound {E : Sit} (hE : SitOk E) : ∀ (c : Code) (Q : Exit → St → Prop) (st : St), vc E c Q st → AWp E c Q st
  | .skip, Q, st, h => awp_skip h
  | .region id ops draw, Q, st, h => v_region hE (vrun_steps E) h
  | .seq a b, Q, st, h => awp_seq (awp_mono (vc_sound hE a _ st h) fun e st' h1 => by
      cases e with
      | normal => exact vc_sound hE b Q st' h1
      | _ => exact h1)
  | .cond x a b, Q, st, h => by
    obtain ⟨q, hq, h1, h2⟩ := h
    exact awp_cond hq (fun e => vc_sound hE a Q st (h1 e)) (fun e => vc_sound hE b Q st (h2 e))
  | .block id c, Q, st, h => awp_block (vc_sound hE c _ st h)
  | .exit id, Q, st, h => awp_exit h
  | .label _, Q, st, h => awp_label h
  | .ret, Q, st, h => awp_ret h
  | .scope c, Q, st, h => awp_scope (vc_sound hE c _ st h)
  | .loop c, Q, st, h => h
  | .rangeFunc .., Q, st, h => h
  | .goto _, Q, st, h => h
  | .refuse _, Q, st, h => h

/-- Rounds of a loop, one by one. -/
def vcR (E : Sit) (x : Code) (Q : Exit → St → Prop) : Nat → St → Prop
  | 0, _ => False
  | m + 1, st => vc E x (thenQ (vcR E x Q m) Q) st
theorem vcR_sound {E : Sit} (hE : SitOk E) {x : Code} {Q : Exit → St → Prop} : ∀ (m : Nat) (st : St), vcR E x Q m st → AWpR E x Q m st
  | 0, _, h => h
  | m + 1, st, h => awp_mono (vc_sound hE _ _ st h) fun e st' h1 => by
      cases e with
      | normal => exact vcR_sound hE m st' h1
      | _ => exact h1

theorem awp_vc {E : Sit} (hE : SitOk E) {c : Code} {Q : Exit → St → Prop} {st : St} (h : vc E c Q st) : AWp E c Q st := vc_sound hE c Q st h

/-- What is handed back is what is said, as it stands. -/
def RetS (Γ : Ctx) (rs : List ResultVar) (res : Res) : Exit → St → Prop
  | .ret, st | .normal, st => vo (resAll Γ st rs) fun comps => FitsR (getO st.objs) comps res.cs ∧ (idsR comps res.cs).Nodup ∧ res.tup = !(rs.length == 1)
  | _, _ => False

theorem RetS.retQ {Γ : Ctx} {rs : List ResultVar} {res : Res} (e : Exit) (st : St) (h : RetS Γ rs res e st) : RetQ Γ rs res e st := by
  cases e with
  | ret => obtain ⟨comps, h1, h2⟩ := h; exact ⟨[], st, rfl, comps, h1, h2⟩
  | normal => obtain ⟨comps, h1, h2⟩ := h; exact ⟨[], st, rfl, comps, h1, h2⟩
  | _ => exact h.elim

/-- A contract at a call: own rows are lent. -/
theorem callP {E : Sit} {R : Reg} {acc : List Ft} {st : St} {j : Nat} {f : FuncId} {A : List (Bool × List AV)} {cargs : List (Bool × List CV)} {K : Kop} {KH : AT → List (Nat × Option AObj) → Nat → Prop} {res : Res} (hm : Meets E.P f cargs res)
    (h : vo (res.out (R.N + 8 * j)) fun q => callOk (getO st.objs) [] A q.2.length = true ∧ K q.1 (q.2 ++ callUpd (getO st.objs) [] A res.scalar) (callTouch A)) : VCall E R acc st j (some (f, A)) (some cargs) K KH := by
  intro hcv
  obtain ⟨q, h1, h2, h3⟩ := h
  exact ⟨f, A, rfl, .inl ⟨[], cargs, res, q.1, q.2, hcv.symm, hm, h1, h2, h3⟩⟩

/-- A contract at a call: the own rows of some arguments are used up. -/
theorem callE (es : List Bool) {E : Sit} {R : Reg} {acc : List Ft} {st : St} {j : Nat} {f : FuncId} {A : List (Bool × List AV)} {cv : Option (List (Bool × List CV))} {K : Kop} {KH : AT → List (Nat × Option AObj) → Nat → Prop}
    (h : vo (convArgs (getO st.objs) es A) fun cargs => ∃ res, Meets E.P f cargs res ∧ vo (res.out (R.N + 8 * j)) fun q => callOk (getO st.objs) es A q.2.length = true ∧ K q.1 (q.2 ++ callUpd (getO st.objs) es A res.scalar) (callTouch A)) : VCall E R acc st j (some (f, A)) cv K KH := by
  intro _
  obtain ⟨cargs, h0, res, hm, q, h1, h2, h3⟩ := h
  exact ⟨f, A, rfl, .inl ⟨es, cargs, res, q.1, q.2, h0, hm, h1, h2, h3⟩⟩

/-- A call by a walk. -/
theorem callH {E : Sit} {R : Reg} {acc : List Ft} {st : St} {j : Nat} {f : FuncId} {A : List (Bool × List AV)} {cv : Option (List (Bool × List CV))} {K : Kop} {KH : AT → List (Nat × Option AObj) → Nat → Prop} (hd : R.draw = false)
    (h : HCall E f A st.objs (R.N + 8 * j) KH) : VCall E R acc st j (some (f, A)) cv K KH :=
  fun _ => ⟨f, A, rfl, .inr (.inl ⟨.inl hd, h⟩)⟩
/-- A call by a walk, in a drawn region. -/
theorem callHd {E : Sit} {R : Reg} {acc : List Ft} {st : St} {j : Nat} {f : FuncId} {A : List (Bool × List AV)} {cv : Option (List (Bool × List CV))} {K : Kop} {KH : AT → List (Nat × Option AObj) → Nat → Prop} (hd : drawF R.ops acc.reverse = true) (hc : cutOk R.ops j = true)
    (h : HCall E f A st.objs (R.N + 8 * j) KH) : VCall E R acc st j (some (f, A)) cv K KH :=
  fun _ => ⟨f, A, rfl, .inr (.inl ⟨.inr ⟨hd, hc⟩, h⟩)⟩

/-- Objects as they stand. -/
def hasO (objs : List (Nat × Option AObj)) : List (Nat × AObj) → Prop
  | [] => True
  | p :: r => getO objs p.1 = some p.2 ∧ hasO objs r
theorem hasO_mem {objs : List (Nat × Option AObj)} : ∀ {os : List (Nat × AObj)}, hasO objs os → ∀ p ∈ os, getO objs p.1 = some p.2
  | [], _, p, hp => by cases hp
  | q :: r, h, p, hp => by
    rcases List.mem_cons.1 hp with rfl | hp
    · exact h.1
    · exact hasO_mem h.2 p hp
theorem turnedK_all (os os' : List (Nat × AObj)) : turnedK (fun _ => true) os os' = os' := by
  unfold turnedK
  exact List.filter_eq_self.2 fun p _ => by simp
/-- A call that turns some objects. -/
theorem callO {E : Sit} {R : Reg} {acc : List Ft} {st : St} {j : Nat} {f : FuncId} {A : List (Bool × List AV)} {cv : Option (List (Bool × List CV))} {K : Kop} {KH : AT → List (Nat × Option AObj) → Nat → Prop} {os os' : List (Nat × AObj)} {t : AT}
    (hm : MeetsO E.P f A os os' t) (hok : okO A os os' t = true) (h : hasO st.objs os ∧ K t (someO os') (os.map (·.1))) : VCall E R acc st j (some (f, A)) cv K KH :=
  fun _ => ⟨f, A, rfl, .inr (.inr ⟨fun _ => true, os, os', t, hasO_mem h.1, hm, hok, by rw [turnedK_all]; exact h.2⟩)⟩
theorem meetsO_of_hcall {E : Sit} {f : FuncId} {A : List (Bool × List AV)} {os os' : List (Nat × AObj)} {t : AT} (next : Nat) (hlt : (os.all fun p => decide (p.1 < next)) = true)
    (h : HCall E f A (someO os) next fun t1 objs _ => t1 = t ∧ hasO objs os') : MeetsO E.P f A os os' t := by
  have hkey : ∀ n, n ∈ os.map (·.1) → n < next := fun n hn => by
    obtain ⟨p, hp, rfl⟩ := List.mem_map.1 hn
    simpa using List.all_eq_true.1 hlt p hp
  refine ⟨h.1, fun c ρ S w vals hrel hdom hR hall => (h.2 c ρ S w vals (fun o hh h3 => ⟨hkey o (hdom o hh (by rw [← hR]; exact h3)), by simp⟩) hrel (fun n hn => ?_) hall).mono ?_⟩
  · cases hp : ρ n with
    | none => rfl
    | some h3 => exact absurd (hkey n (hdom n _ hp)) (by omega)
  · rintro e w' ⟨v, t3, objs2, next2, ρ', S', rfl, q1, _, q2, rfl, q3⟩
    exact ⟨v, objs2, ρ', S', rfl, q1, q2, hasO_mem q3⟩

end Go.Eng
namespace Go.Eng
universe u

/-- What rewriting does not go into. -/
structure Hold {α : Sort u} (p : α) : Type where

def hold {α : Sort u} (p : α) : Hold p := ⟨⟩

def voH {α : Type} (x : Option α) {K : α → Prop} (_ : Hold K) : Prop := vo x K
def vgetH {α : Type} (l : List α) (i : Nat) {K : α → Prop} (_ : Hold K) : Prop := vget l i K
def vbyteH (s : ByteArray) (i : Nat) {K : UInt8 → Prop} (_ : Hold K) : Prop := vbyte s i K
def vcondH (b : Option Bool) {A B : Prop} (_ : Hold (And A B)) : Prop := vcond b A B
def vswH (b : Bool) {A B : Prop} (_ : Hold (And A B)) : Prop := vsw b A B
def vgdH (x : AT) {p : Nat × List (Nat × AT) × Bool × (List (Nat × AT) → Prop) × (List (Nat × AT) → Prop)} (_ : Hold p) : Prop := vgd p.1 p.2.1 p.2.2.1 p.2.2.2.1 p.2.2.2.2 x
def vguardTH (x : Option Tmp) {p : List (Nat × AT) × Bool × (List (Nat × AT) → Prop) × (List (Nat × AT) → Prop)} (_ : Hold p) : Prop := vguardT p.1 p.2.1 p.2.2.1 p.2.2.2 x
def vrunH (E : Sit) (j : Nat) (st : St) {p : Reg × List Ft × List Oper} (_ : Hold p) : Prop := vrun E p.1 j p.2.1 p.2.2 st
def vcH (E : Sit) (st : St) {p : Code × (Exit → St → Prop)} (_ : Hold p) : Prop := vc E p.1 p.2 st
def AWpH (E : Sit) (st : St) {p : Code × (Exit → St → Prop)} (_ : Hold p) : Prop := AWp E p.1 p.2 st
def VCallH (E : Sit) (N j : Nat) (draw : Bool) (st : St) (ca : Option (FuncId × List (Bool × List AV))) (cv : Option (List (Bool × List CV))) {p : List Oper × List Ft × (Exit → St → Prop) × Kop × (AT → List (Nat × Option AObj) → Nat → Prop)} (_ : Hold p) : Prop :=
  VCall E ⟨p.1, N, draw, p.2.2.1⟩ p.2.1 st j ca cv p.2.2.2.1 p.2.2.2.2

def vnilqH (Γ : Ctx) (draw : Bool) (objs : List (Nat × Option AObj)) (q : Option (TypeId × Operand × Bool)) {p : (TypeId → Operand → AT) × (Bool → Prop) × Prop} (_ : Hold p) : Prop := vnilq Γ draw objs p.1 p.2.1 p.2.2 q
def vcRH (E : Sit) (m : Nat) (st : St) {p : Code × (Exit → St → Prop)} (_ : Hold p) : Prop := vcR E p.1 p.2 m st
theorem vcR_hold (E : Sit) (x : Code) (Q : Exit → St → Prop) (m : Nat) (st : St) : vcR E x Q m st = vcRH E m st (hold (x, Q)) := rfl
/-- One round more. -/
theorem vround {E : Sit} {m : Nat} {st : St} {x : Code} {Q : Exit → St → Prop} {h : Hold (x, Q)} (hk : vc E x (thenQ (vcR E x Q m) Q) st) : vcRH E (m + 1) st h := hk
/-- A loop, round by round: m rounds at most. -/
theorem vrounds (m : Nat) {E : Sit} (hE : SitOk E) {st : St} {x : Code} {Q : Exit → St → Prop} {h : Hold (Code.loop x, Q)} (hk : vcR E x Q m st) : AWpH E st h :=
  awp_rounds m (vcR_sound hE m st hk)
/-- The first of two stretches; then the walk stops. -/
theorem vstep {E : Sit} (hE : SitOk E) {st : St} {a b : Code} {Q : Exit → St → Prop} (hk : vc E a (thenQ (AWp E b Q) Q) st) : AWp E (.seq a b) Q st :=
  awp_seq (awp_vc hE hk)
/-- An object is frozen; the walk goes on. -/
theorem vfz {E : Sit} (hE : SitOk E) (o : Nat) {st : St} {x : Code} {Q : Exit → St → Prop} (hk : vo (st.freeze o) fun st' => vc E x Q st') : AWp E x Q st :=
  let ⟨_, hs, hk⟩ := hk; awp_freeze o hs (awp_vc hE hk)
theorem vnilq_hold (Γ : Ctx) (draw : Bool) (objs : List (Nat × Option AObj)) (ev : TypeId → Operand → AT) (K : Bool → Prop) (B : Prop) (q : Option (TypeId × Operand × Bool)) : vnilq Γ draw objs ev K B q = vnilqH Γ draw objs q (hold (ev, K, B)) := rfl
theorem vnilqH_none (Γ : Ctx) (draw : Bool) (objs : List (Nat × Option AObj)) {ev : TypeId → Operand → AT} {K : Bool → Prop} {B : Prop} (h : Hold (ev, K, B)) : vnilqH Γ draw objs none h = B := rfl
theorem vnilqH_some (Γ : Ctx) (objs : List (Nat × Option AObj)) (t : TypeId) (x : Operand) (want : Bool) {ev : TypeId → Operand → AT} {K : Bool → Prop} {B : Prop} (h : Hold (ev, K, B)) :
    vnilqH Γ false objs (some (t, x, want)) h = vo (Γ.elem t) fun _ => vo (ev t x).one? fun v => vo (rowsOf (getO objs) v) fun q => 0 < q.1 ∧ ∀ b, (q.2.1 ≠ [] → b = false) → K (b == want) := by simp [vnilqH, vnilq]

def YCallH (E : Sit) (draw : Bool) (n : Nat) (A : List (Bool × List AV)) (objs : List (Nat × Option AObj)) (next : Nat) {p : Prop × (AT → List (Nat × Option AObj) → Nat → Prop)} (_ : Hold p) : Prop := YCall E draw n A objs next p.1 p.2
theorem YCall_hold (E : Sit) (draw : Bool) (n : Nat) (A : List (Bool × List AV)) (objs : List (Nat × Option AObj)) (next : Nat) (c : Prop) (K : AT → List (Nat × Option AObj) → Nat → Prop) : YCall E draw n A objs next c K = YCallH E draw n A objs next (hold (c, K)) := rfl
def vyldH (y : Option (Nat × List (Bool × List AV))) {p : (Nat → List (Bool × List AV) → Prop) × Prop} (_ : Hold p) : Prop := vyld y p.1 p.2
theorem vyld_hold (y : Option (Nat × List (Bool × List AV))) (Y : Nat → List (Bool × List AV) → Prop) (B : Prop) : vyld y Y B = vyldH y (hold (Y, B)) := rfl
theorem vyldH_none {Y : Nat → List (Bool × List AV) → Prop} {B : Prop} (h : Hold (Y, B)) : vyldH none h = B := rfl
theorem vyldH_some (n : Nat) (A : List (Bool × List AV)) {Y : Nat → List (Bool × List AV) → Prop} {B : Prop} (h : Hold (Y, B)) : vyldH (some (n, A)) h = Y n A := rfl

def DrawH (draw : Bool) {p : List Oper × List Ft} (_ : Hold p) : Prop := draw = true → drawF p.1 p.2.reverse = true
theorem DrawOk_hold (ops : List Oper) (N : Nat) (draw : Bool) (Q : Exit → St → Prop) (acc : List Ft) : DrawOk ⟨ops, N, draw, Q⟩ acc = DrawH draw (hold (ops, acc)) := rfl
theorem DrawH_false {p : List Oper × List Ft} (h : Hold p) : DrawH false h = True := by simp [DrawH]
/-- The order of a drawn region does not matter: the kernel looks. -/
theorem drawn {p : List Oper × List Ft} {h : Hold p} (e : drawF p.1 p.2.reverse = true) : DrawH true h := fun _ => e

theorem vo_hold {α : Type} (x : Option α) (K : α → Prop) : vo x K = voH x (hold K) := rfl
theorem vget_hold {α : Type} (l : List α) (i : Nat) (K : α → Prop) : vget l i K = vgetH l i (hold K) := rfl
theorem vbyte_hold (s : ByteArray) (i : Nat) (K : UInt8 → Prop) : vbyte s i K = vbyteH s i (hold K) := rfl
theorem vcond_hold (b : Option Bool) (A B : Prop) : vcond b A B = vcondH b (hold (And A B)) := rfl
theorem vsw_hold (b : Bool) (A B : Prop) : vsw b A B = vswH b (hold (And A B)) := rfl
theorem vgd_hold (t : Nat) (env : List (Nat × AT)) (w : Bool) (A B : List (Nat × AT) → Prop) (x : AT) : vgd t env w A B x = vgdH x (hold (t, env, w, A, B)) := rfl
theorem vguardT_hold (env : List (Nat × AT)) (w : Bool) (A B : List (Nat × AT) → Prop) (x : Option Tmp) : vguardT env w A B x = vguardTH x (hold (env, w, A, B)) := rfl
theorem vrun_hold (E : Sit) (R : Reg) (j : Nat) (acc : List Ft) (l : List Oper) (st : St) : vrun E R j acc l st = vrunH E j st (hold (R, acc, l)) := rfl
theorem vc_hold (E : Sit) (c : Code) (Q : Exit → St → Prop) (st : St) : vc E c Q st = vcH E st (hold (c, Q)) := rfl
theorem AWp_hold (E : Sit) (c : Code) (Q : Exit → St → Prop) (st : St) : AWp E c Q st = AWpH E st (hold (c, Q)) := rfl
theorem VCall_hold (E : Sit) (ops : List Oper) (N : Nat) (draw : Bool) (Q : Exit → St → Prop) (acc : List Ft) (st : St) (j : Nat) (ca : Option (FuncId × List (Bool × List AV))) (cv : Option (List (Bool × List CV))) (K : Kop) (KH : AT → List (Nat × Option AObj) → Nat → Prop) :
    VCall E ⟨ops, N, draw, Q⟩ acc st j ca cv K KH = VCallH E N j draw st ca cv (hold (ops, acc, Q, K, KH)) := rfl
theorem vguard_none (ops : List Oper) (env : List (Nat × AT)) (A B : List (Nat × AT) → Prop) : vguard ops env A B none = B env := rfl
theorem vguard_some (ops : List Oper) (env : List (Nat × AT)) (A B : List (Nat × AT) → Prop) (j : Nat) (w : Bool) : vguard ops env A B (some (j, w)) = vguardT env w A B ((ops[j]?).bind (·.dst)) := rfl

theorem voH_some {α : Type} (r : α) {K : α → Prop} (h : Hold K) : voH (some r) h = K r := by simp [voH, vo]
theorem voH_none {α : Type} {K : α → Prop} (h : Hold K) : voH none h = False := by simp [voH, vo]
theorem vgetH_map {α β : Type} (f : α → β) (l : List α) (i : Nat) {K : β → Prop} (h : Hold K) : vgetH (l.map f) i h = (i < l.length ∧ ∀ x, l[i]? = some x → K (f x)) := vget_map f l i K
theorem vgetH_zero {α : Type} (x : α) (l : List α) {K : α → Prop} (h : Hold K) : vgetH (x :: l) 0 h = K x := vget_zero x l K
theorem vgetH_succ {α : Type} (x : α) (l : List α) (i : Nat) {K : α → Prop} (h : Hold K) : vgetH (x :: l) (i + 1) h = vgetH l i (hold K) := vget_succ x l i K
theorem vgetH_nil {α : Type} (i : Nat) {K : α → Prop} (h : Hold K) : vgetH [] i h = False := vget_nil i K
theorem vcondH_some (b : Bool) {A B : Prop} (h : Hold (And A B)) : vcondH (some b) h = ((b = true → A) ∧ (b = false → B)) := vcond_some b A B
theorem vcondH_true {A B : Prop} (h : Hold (And A B)) : vcondH (some true) h = A := vcond_true A B
theorem vcondH_false {A B : Prop} (h : Hold (And A B)) : vcondH (some false) h = B := vcond_false A B
theorem vcondH_none {A B : Prop} (h : Hold (And A B)) : vcondH none h = False := vcond_none A B
theorem vswH_true {A B : Prop} (h : Hold (And A B)) : vswH true h = A := vsw_true A B
theorem vswH_false {A B : Prop} (h : Hold (And A B)) : vswH false h = B := vsw_false A B
theorem vswH_var (b : Bool) {A B : Prop} (h : Hold (And A B)) : vswH b h = ((b = true → A) ∧ (b = false → B)) := rfl
theorem vguardTH_none {env : List (Nat × AT)} {w : Bool} {A B : List (Nat × AT) → Prop} (h : Hold (env, w, A, B)) : vguardTH none h = A env := rfl
theorem vguardTH_some (t : Nat) {env : List (Nat × AT)} {w : Bool} {A B : List (Nat × AT) → Prop} (h : Hold (env, w, A, B)) : vguardTH (some t) h = vgd t env w A B (getE env t) := rfl
theorem vgdH_bool (b : Bool) {t : Nat} {env : List (Nat × AT)} {w : Bool} {A B : List (Nat × AT) → Prop} (h : Hold (t, env, w, A, B)) : vgdH (.cs false [.d (.v (.bool b))]) h = vsw (b == w) (B ((t, .cs false [.d (.v (.bool w))]) :: env)) (A ((t, .cs false [.d (.v (.bool !w))]) :: env)) := rfl
theorem vgdH_undef {t : Nat} {env : List (Nat × AT)} {w : Bool} {A B : List (Nat × AT) → Prop} (h : Hold (t, env, w, A, B)) : vgdH .undef h = A env := rfl

theorem vcH_region (E : Sit) (id : Nat) (l : List Oper) (draw : Bool) (Q : Exit → St → Prop) (st : St) (h : Hold (Code.region id l.toArray draw, Q)) : vcH E st h = vrun E ⟨l, st.next, draw, Q⟩ 0 [] l st := rfl
theorem vcH_skip (E : Sit) (Q : Exit → St → Prop) (st : St) (h : Hold (Code.skip, Q)) : vcH E st h = Q .normal st := rfl
theorem vcH_seq (E : Sit) (a b : Code) (Q : Exit → St → Prop) (st : St) (h : Hold (Code.seq a b, Q)) : vcH E st h = vc E a (thenQ (vc E b Q) Q) st := rfl
theorem vcH_cond (E : Sit) (x : Operand) (a b : Code) (Q : Exit → St → Prop) (st : St) (h : Hold (Code.cond x a b, Q)) : vcH E st h = vcond (aval E.Γ (getE st.env) 0 x).bool? (vc E a Q st) (vc E b Q st) := rfl
theorem vcH_block (E : Sit) (id : Nat) (c : Code) (Q : Exit → St → Prop) (st : St) (h : Hold (Code.block id c, Q)) : vcH E st h = vc E c (blockQ id Q) st := rfl
theorem vcH_exit (E : Sit) (id : Nat) (Q : Exit → St → Prop) (st : St) (h : Hold (Code.exit id, Q)) : vcH E st h = Q (.exit id) st := rfl
theorem vcH_label (E : Sit) (id : Nat) (Q : Exit → St → Prop) (st : St) (h : Hold (Code.label id, Q)) : vcH E st h = Q .normal st := rfl
theorem vcH_ret (E : Sit) (Q : Exit → St → Prop) (st : St) (h : Hold (Code.ret, Q)) : vcH E st h = Q .ret st := rfl
theorem vcH_scope (E : Sit) (c : Code) (Q : Exit → St → Prop) (st : St) (h : Hold (Code.scope c, Q)) : vcH E st h = vc E c (noGotoQ Q) st := rfl
theorem vcH_loop (E : Sit) (c : Code) (Q : Exit → St → Prop) (st : St) (h : Hold (Code.loop c, Q)) : vcH E st h = AWp E (.loop c) Q st := rfl
theorem vcH_rangeFunc (E : Sit) (f : Operand) (ps : Array Tmp) (a b : Code) (Q : Exit → St → Prop) (st : St) (h : Hold (Code.rangeFunc f ps a b, Q)) : vcH E st h = AWp E (.rangeFunc f ps a b) Q st := rfl

theorem vrunH_nil (E : Sit) (R : Reg) (j : Nat) (acc : List Ft) (st : St) (h : Hold (R, acc, ([] : List Oper))) : vrunH E j st h = (DrawOk R acc ∧ R.Q .normal ⟨st.nt, st.env, st.objs, R.N + 8 * j⟩) := by simp only [vrunH, vrun]
theorem vrunH_cons (E : Sit) (ops : List Oper) (N : Nat) (draw : Bool) (Q : Exit → St → Prop) (j : Nat) (acc : List Ft) (dst : Option Tmp) (op : Op) (ty : TypeId) (pos : String) (af : Array Edge) (g : Option (Nat × Bool)) (rest : List Oper) (nt : Nat) (env : List (Nat × AT)) (objs : List (Nat × Option AObj)) (next : Nat)
    (h : Hold ((⟨ops, N, draw, Q⟩ : Reg), acc, (⟨dst, op, ty, pos, af, g⟩ : Oper) :: rest)) :
    vrunH E j ⟨nt, env, objs, next⟩ h = (dstOk nt dst = true ∧ vguard ops env
      (fun env => vrun E ⟨ops, N, draw, Q⟩ (j + 1) (⟨guardT ops.toArray ⟨dst, op, ty, pos, af, g⟩, [], dst, []⟩ :: acc) rest ⟨nt, putE env dst .undef, objs, next⟩)
      (fun env => vnilq E.Γ draw objs (aval E.Γ (getE env)) (fun b => vrun E ⟨ops, N, draw, Q⟩ (j + 1) acc rest ⟨nt, putE env dst (.cs false [.d (.v (.bool b))]), objs, next⟩) (vsw (isCall E.Γ op)
        (vyld (yieldA (aval E.Γ (getE env)) ⟨dst, op, ty, pos, af, g⟩) (fun n A => YCall E draw n A objs (N + 8 * j) (CutOk ⟨ops, N, draw, Q⟩ j acc) (fun t objs' next' => vrun E ⟨ops, next', draw, Q⟩ (j + 1) (pads (j + 1)) rest ⟨nt, putE env dst t, objs', next⟩))
        (VCall E ⟨ops, N, draw, Q⟩ acc ⟨nt, env, objs, next⟩ j (callArgs (aval E.Γ (getE env)) ⟨dst, op, ty, pos, af, g⟩) (convOf objs (callArgs (aval E.Γ (getE env)) ⟨dst, op, ty, pos, af, g⟩)) (fun out upd touch =>
            vrun E ⟨ops, N, draw, Q⟩ (j + 1) (⟨guardT ops.toArray ⟨dst, op, ty, pos, af, g⟩ ++ op.operands.toList.flatMap opTemps, touch, dst, upd.map (·.1)⟩ :: acc) rest ⟨nt, putE env dst out, upd ++ objs, next⟩)
            (fun t objs' next' => vrun E ⟨ops, next', draw, Q⟩ (j + 1) (pads (j + 1)) rest ⟨nt, putE env dst t, objs', next⟩)))
        (vopY E.Γ (N + 8 * j) objs (aval E.Γ (getE env)) ty (fun out upd touch =>
            vrun E ⟨ops, N, draw, Q⟩ (j + 1) (⟨guardT ops.toArray ⟨dst, op, ty, pos, af, g⟩ ++ op.operands.toList.flatMap opTemps, touch, dst, upd.map (·.1)⟩ :: acc) rest ⟨nt, putE env dst out, upd ++ objs, next⟩) op)) (nilq op))
      g) := by simp only [vrunH, vrun]

theorem getE_put1 (env : List (Nat × AT)) (d t : Nat) (x : AT) : getE (putE env (some d) x) t = if t = d then x else getE env t := rfl
theorem putE_some (env : List (Nat × AT)) (d : Nat) (x : AT) : putE env (some d) x = (d, x) :: env := rfl
theorem putE_none (env : List (Nat × AT)) (x : AT) : putE env none x = env := rfl

theorem voH_iteN {α : Type} {c : Prop} [Decidable c] (x : Option α) {K : α → Prop} (h : Hold K) : voH (if c then x else none) h = (c ∧ voH x h) := by
  by_cases hc : c <;> simp [voH, vo, hc]
theorem voH_iteB {α : Type} {c : Prop} [Decidable c] (x y : Option α) {K : α → Prop} (h : Hold K) : voH (if c then x else y) h = ((c → voH x h) ∧ (¬ c → voH y h)) := by
  by_cases hc : c <;> simp [voH, vo, hc]
theorem voH_ite {α : Type} {c : Prop} [Decidable c] (a : α) {K : α → Prop} (h : Hold K) : voH (if c then some a else none) h = (c ∧ K a) := by
  by_cases hc : c <;> simp [voH, vo, hc]

theorem convArgs_caps (ob : Nat → Option AObj) : ∀ caps : List D, convArgs ob [] (caps.map fun d => (false, [.d d])) = some (caps.map fun d => (false, [.d d]))
  | [] => rfl
  | x :: r => by
    have ih := convArgs_caps ob r
    simp only [List.map_cons, convArgs, List.headD_nil, List.tail_nil, ih]
    rfl
theorem eatenOf_caps (ob : Nat → Option AObj) : ∀ caps : List D, eatenOf ob [] (caps.map fun d => (false, [.d d])) = []
  | [] => rfl
  | x :: r => by
    have ih := eatenOf_caps ob r
    simp only [List.map_cons, eatenOf, List.headD_nil, List.tail_nil, ih]
    rfl
theorem lentOf_caps (ob : Nat → Option AObj) : ∀ caps : List D, lentOf ob [] (caps.map fun d => (false, [.d d])) = []
  | [] => rfl
  | x :: r => by
    have ih := lentOf_caps ob r
    simp only [List.map_cons, lentOf, List.headD_nil, List.tail_nil, ih]
    rfl
theorem touch_caps : ∀ caps : List D, (caps.map fun d => ((false, [AV.d d]) : Bool × List AV)).flatMap (fun a => a.2.flatMap avT) = []
  | [] => rfl
  | x :: r => by
    have ih := touch_caps r
    simp only [List.map_cons, List.flatMap_cons, ih]
    rfl

attribute [go_sem low] voH_iteB
theorem isU8_ty (Γ : Ctx) (t : TypeId) : isU8 Γ t = (match Γ.ty t with
  | some ti => (match ti.desc with
    | .slice e => (match Γ.ty e with
      | some ti => (match ti.desc with
        | .int .u8 => true
        | _ => false)
      | none => false)
    | _ => false)
  | none => false) := by
  unfold isU8 Ctx.elem
  cases Γ.ty t with
  | none => rfl
  | some ti =>
    simp only
    cases ti.desc <;> rfl
attribute [go_sem] exists_eq_left' exists_eq_left voH_ite voH_iteN convArgs_caps eatenOf_caps lentOf_caps touch_caps List.size_toArray
attribute [go_sem ↓] vcR_hold vnilq_hold vyld_hold YCall_hold vo_hold vget_hold vbyte_hold vcond_hold vsw_hold vgd_hold vguardT_hold vrun_hold vc_hold AWp_hold VCall_hold DrawOk_hold vguard_none vguard_some
attribute [go_sem] yieldA vyldH_none vyldH_some parE setLp AObj.lp.injEq nilq vnilqH_none vnilqH_some beq_true beq_false vcH_region vcH_skip vcH_seq vcH_cond vcH_block vcH_exit vcH_label vcH_ret vcH_scope vcH_loop vcH_rangeFunc vrunH_nil vrunH_cons voH_some voH_none vgetH_map vgetH_zero vgetH_succ vgetH_nil vcondH_none vguardTH_none vguardTH_some vgdH_bool vgdH_undef
attribute [go_sem low] vswH_var vcondH_some
attribute [go_sem high] vcondH_true vcondH_false vswH_true vswH_false
attribute [go_sem] fnsT isOther buildV fillV idxV idxP arrOf dOnly headsD arrS ptA buildP sl3 appendS appendA itOf rangeA
attribute [go_sem] Option.isSome_some Option.isSome_none Option.isNone_some Option.isNone_none isPtr ptrNil isWx extS overA extA sliceX isInt newRows appendX dstOf copyX capX isSlice vop vopY wantY wantC isArrI isArr2 isPtT isPtE aopY isU8_ty isStr strY keepY bytY convY winI ptS ptI epI isIface isConstO eqY binY bdY aggOf clipY nilSl headY appY callY isNilT isOwnT isCvT isTmpO isIntY wantB vload vstore vbin vidxA vslice vsliceN vappend vbuiltin varOf rowOf fzOf partsC frzL convOf isCall thenQ blockQ noGotoQ DrawH_false
attribute [go_sem] getE getO putE_some putE_none aval constT AT.bool? AT.int? AT.one? AT.cells? unD avD capT avT allD avArg allArg livesOf valEq scal2 flatScal kindFits cellsEq isPtr binA loadC fillA fillRows partA capsD optInt rowsOf resAVs ownsIn resComps CV.scalar Res.scalar Res.out argsOf convArgs eatenOf lentOf frz callUpd callOk callTouch capsOf onesOf foldInts headOf sliceA clearW pureOut capA callArgs dstOk initEnv splice_cc splice_cs splice_nil
attribute [go_sem] RetS resOf resAll FitsOwn FitsC idsC FitsR idsR initSt
attribute [go_sem] List.nil_append List.singleton_append List.cons_append List.append_nil List.map_nil List.map_cons List.flatMap_nil List.flatMap_cons List.length_cons List.length_nil List.length_map List.take_zero List.take_succ_cons List.take_nil List.drop_zero List.drop_succ_cons List.drop_nil List.getElem?_cons_zero List.getElem?_cons_succ List.getElem?_nil List.headD_cons List.headD_nil List.tail_cons List.tail_nil List.replicate_zero List.replicate_succ List.all_nil List.all_cons List.contains_nil List.contains_cons List.set_cons_zero List.set_cons_succ List.nodup_nil List.nodup_cons List.not_mem_nil List.mem_cons
attribute [go_sem] Option.map_some Option.map_none Option.bind_some Option.bind_none Option.some.injEq Int.toNat_natCast Int.toNat_zero Int.natCast_zero Nat.zero_add Nat.add_zero Nat.sub_zero Nat.le_refl Int.le_refl
attribute [go_sem] and_true true_and and_false false_and and_self or_false false_or not_false_eq_true not_true_eq_false true_implies false_implies implies_true eq_self ne_eq Bool.not_true Bool.not_false Bool.and_true Bool.true_and Bool.and_false Bool.false_and Bool.or_true Bool.true_or Bool.or_false Bool.false_or Bool.not_eq_true Bool.false_eq_true Bool.true_eq_false beq_self_eq_true decide_eq_true_eq decide_eq_false_iff_not decide_true decide_false beq_iff_eq beq_eq_false_iff_ne bne_iff_ne bne_eq_false_iff_eq Bool.not_eq_true' Bool.not_eq_false' Bool.and_eq_true Bool.or_eq_true Bool.and_eq_false_imp beq_true beq_false Int.not_lt Int.not_le Prod.mk.injEq List.cons.injEq
attribute [go_sem] AT.cs.injEq AT.tup.injEq AV.d.injEq D.v.injEq D.vec.injEq D.pt.injEq D.fn.injEq Value.int.injEq Value.bool.injEq Value.string.injEq AObj.row.injEq AObj.var.injEq

/-- What is handed back, as it stands. -/
theorem ret0 {Γ : Ctx} {rs : List ResultVar} {res : Res} {st : St} (h : vo (resAll Γ st rs) fun comps => FitsR (getO st.objs) comps res.cs ∧ (idsR comps res.cs).Nodup ∧ res.tup = !(rs.length == 1)) : RetQ Γ rs res .ret st :=
  let ⟨comps, h1, h2⟩ := h; ⟨[], st, rfl, comps, h1, h2⟩
theorem ret0n {Γ : Ctx} {rs : List ResultVar} {res : Res} {st : St} (h : RetQ Γ rs res .ret st) : RetQ Γ rs res .normal st := h
/-- What is handed back, some objects being frozen first. -/
theorem retF (fz : List Nat) {Γ : Ctx} {rs : List ResultVar} {res : Res} {st : St} (h : vo (st.freezeL fz) fun st => vo (resAll Γ st rs) fun comps => FitsR (getO st.objs) comps res.cs ∧ (idsR comps res.cs).Nodup ∧ res.tup = !(rs.length == 1)) : RetQ Γ rs res .ret st :=
  let ⟨st', h0, comps, h1, h2⟩ := h; ⟨fz, st', h0, comps, h1, h2⟩
attribute [go_sem] isAggT idxY St.freezeL St.freeze hasO someO mapK mkM lookM updM keyK AT.v? AT.mp?

end Go.Eng
