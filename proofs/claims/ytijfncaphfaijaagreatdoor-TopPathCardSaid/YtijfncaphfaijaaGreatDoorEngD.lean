/- Data, cells and what it means that they read so in a world: the ground of the abstract machine. The abstract machine: its state, what each operation does to it, a region's run. The relation between the machine's state and the model's, and how a step hands it on. What is asked of the context; what a contract is; the plain operations. -/
import Derived.WalkKit
import Derived.Lib.Bytealg
import Derived.Lib.Overlaps
namespace Go.Eng

/-- Pure data, one cell each: a scalar; a list of rows of k cells (a slice); read-only cells behind a pointer; a function value with what it captured; a method bound to what it is called of; the like of one struct; a slice that has no more room. -/
inductive D where
  | v (x : Value)
  | vec (k : Nat) (rows : List (List D))
  | pt (cells : List D)
  | fn (f : FuncId) (caps : List D)
  | bd (f : FuncId) (firsts : List D)
  | ba (f : FuncId) (cells : List D)
  | cvec (k : Nat) (rows : List (List D))

instance : Inhabited D := ⟨.v undef⟩

/-- The datum d reads in the world w, out of the blocks of S alone, as the value. -/
inductive Rep (w : World) (S : Nat → Prop) : D → Value → Prop where
  | v (x : Value) (h1 : x.oneCell' = true) : Rep w S (.v x) x
  | vec (k : Nat) (rows : List (List D)) (A : Option Addr) (c : Nat) (u : Nat → Nat → Value)
      (hc : rows.length ≤ c) (hm : c ≤ maxLen) (hk : ∀ r ∈ rows, r.length = k)
      (hcell : ∀ i j, i < rows.length → j < k → ∃ a : Addr, A = some a ∧ S a.block ∧ w.cell? (a.add (i * k + j)) = some (u i j))
      (hrep : ∀ (i j : Nat) (r : List D) (d : D), rows[i]? = some r → r[j]? = some d → Rep w S d (u i j)) : Rep w S (.vec k rows) (.slice A rows.length c)
  | pt (cells : List D) (a : Addr) (u : Nat → Value)
      (hcell : ∀ j, j < cells.length → S a.block ∧ w.cell? (a.add j) = some (u j))
      (hrep : ∀ (j : Nat) (d : D), cells[j]? = some d → Rep w S d (u j)) : Rep w S (.pt cells) (.pointer (some a))
  | fn (f : FuncId) (caps : List D) (vs : Array Value) (hl : vs.size = caps.length)
      (hrep : ∀ (j : Nat) (d : D) (u : Value), caps[j]? = some d → vs[j]? = some u → Rep w S d u) : Rep w S (.fn f caps) (.func (.func f) #[] vs)
  | bd (f : FuncId) (firsts : List D) (vs : Array Value) (hl : vs.size = firsts.length)
      (hrep : ∀ (j : Nat) (d : D) (u : Value), firsts[j]? = some d → vs[j]? = some u → Rep w S d u) : Rep w S (.bd f firsts) (.func (.func f) vs #[])
  | ba (f : FuncId) (cells : List D) (us : List Value) (hl : us.length = cells.length)
      (hrep : ∀ (j : Nat) (d : D) (u : Value), cells[j]? = some d → us[j]? = some u → Rep w S d u) : Rep w S (.ba f cells) (.func (.func f) #[.agg us.toArray] #[])
  | cvec (k : Nat) (rows : List (List D)) (A : Option Addr) (u : Nat → Nat → Value)
      (hm : rows.length ≤ maxLen) (hk : ∀ r ∈ rows, r.length = k)
      (hcell : ∀ i j, i < rows.length → j < k → ∃ a : Addr, A = some a ∧ S a.block ∧ w.cell? (a.add (i * k + j)) = some (u i j))
      (hrep : ∀ (i j : Nat) (r : List D) (d : D), rows[i]? = some r → r[j]? = some d → Rep w S d (u i j)) : Rep w S (.cvec k rows) (.slice A rows.length rows.length)

/-- The blocks of S are the same in both worlds. -/
def Keeps (S : Nat → Prop) (w w' : World) : Prop := ∀ b, S b → w'.heap[b]? = w.heap[b]?

theorem Keeps.refl (S : Nat → Prop) (w : World) : Keeps S w w := fun _ _ => rfl
theorem Keeps.trans {S S' : Nat → Prop} {w w' w'' : World} (h : Keeps S w w') (hs : ∀ b, S b → S' b) (h' : Keeps S' w' w'') : Keeps S w w'' :=
  fun b hb => (h' b (hs b hb)).trans (h b hb)

theorem cell_keeps {S : Nat → Prop} {w w' : World} (h : Keeps S w w') {a : Addr} (hb : S a.block) : w'.cell? a = w.cell? a :=
  World.cell?_of_block (w := w) (h _ hb)

theorem block_add (a : Addr) (n : Nat) : (a.add n).block = a.block := by unfold Addr.add; split <;> rfl
theorem add_add (a : Addr) (i j : Nat) : (a.add i).add j = a.add (i + j) := by
  unfold Addr.add
  by_cases hi : i = 0 <;> by_cases hj : j = 0 <;> simp [hi, hj, Nat.add_assoc]
theorem add_zero (a : Addr) : a.add 0 = a := rfl
theorem add_lit (g i : Nat) : (⟨g, 0, none⟩ : Addr).add i = ⟨g, i, none⟩ := by unfold Addr.add; split <;> simp_all
theorem add_lit' (g o i : Nat) : (⟨g, o, none⟩ : Addr).add i = ⟨g, o + i, none⟩ := by unfold Addr.add; split <;> simp_all

theorem Rep.mono {w w' : World} {S S' : Nat → Prop} (hS : ∀ b, S b → S' b) (hw : Keeps S w w') {d : D} {v : Value} (h : Rep w S d v) : Rep w' S' d v := by
  induction h with
  | v x h1 => exact .v x h1
  | vec k rows A c u hc hm hk hcell _ ih =>
    refine .vec k rows A c u hc hm hk (fun i j hi hj => ?_) ih
    obtain ⟨a, ha, hb, hcl⟩ := hcell i j hi hj
    exact ⟨a, ha, hS _ hb, by rw [cell_keeps hw (by rw [block_add]; exact hb)]; exact hcl⟩
  | pt cells a u hcell _ ih =>
    refine .pt cells a u (fun j hj => ?_) ih
    obtain ⟨hb, hcl⟩ := hcell j hj
    exact ⟨hS _ hb, by rw [cell_keeps hw (by rw [block_add]; exact hb)]; exact hcl⟩
  | fn f caps vs hl _ ih => exact .fn f caps vs hl ih
  | bd f fs vs hl _ ih => exact .bd f fs vs hl ih
  | ba f fs vs hl _ ih => exact .ba f fs vs hl ih
  | cvec k rows A u hm hk hcell _ ih =>
    refine .cvec k rows A u hm hk (fun i j hi hj => ?_) ih
    obtain ⟨a, ha, hb, hcl⟩ := hcell i j hi hj
    exact ⟨a, ha, hS _ hb, by rw [cell_keeps hw (by rw [block_add]; exact hb)]; exact hcl⟩

theorem Rep.one {w : World} {S : Nat → Prop} {d : D} {v : Value} (h : Rep w S d v) : v.oneCell' = true := by
  cases h with
  | v _ h1 => exact h1
  | vec => rfl
  | pt => rfl
  | fn => rfl
  | bd => rfl
  | ba => rfl
  | cvec => rfl

/-- The laid variables that the code reads: the block of each, its cells. -/
def layTab : List (Nat × List D) := [(0, [.v (.int .i64 1), .fn 285 [], .v (.int .i64 2), .fn 69 [], .v (.int .i64 4), .fn 286 [], .v (.int .i64 12), .fn 287 [], .v (.int .i64 48), .fn 290 []])]

def layL : List (Nat × List D) → Nat → Option (List D)
  | [], _ => none
  | (k, x) :: r, n => if n = k then some x else layL r n

theorem layL_mem : ∀ {l : List (Nat × List D)} {n : Nat} {x : List D}, layL l n = some x → (n, x) ∈ l
  | [], _, _, h => by cases h
  | (k, y) :: r, n, x, h => by
    simp only [layL] at h
    split at h
    · rename_i e
      cases h
      subst e
      exact List.mem_cons_self ..
    · exact List.mem_cons_of_mem _ (layL_mem h)

/-- They lie as they were laid. -/
def LayOk (w : World) (S : Nat → Prop) : Prop := ∀ p ∈ layTab, Rep w S (.pt p.2) (.pointer (some ⟨p.1, 0, none⟩))

theorem LayOk.mono {w w' : World} {S S' : Nat → Prop} (hS : ∀ b, S b → S' b) (hw : Keeps S w w') (h : LayOk w S) : LayOk w' S' := fun p hp => (h p hp).mono hS hw

theorem cells_one {v : Value} (h : v.oneCell' = true) : v.cells = #[v] := by
  cases v <;> simp [Value.oneCell'] at h <;> rfl

/-- What a function value has captured: data; a pointer into an own variable. -/
inductive CapV where
  | d (x : D)
  | ptr (o off : Nat)

/-- What a cell of the machine holds: data; a slice of no length and no capacity; a pointer into an own variable; the header of an own row; a pointer into one; the header of n rows of one, from row lo on; the like of a row whose rows are all that it has room for; a function value with what it captured; what a loop over a function hands that function; a map; the header of a variable's cells, as a slice of cells of any kind. -/
inductive AV where
  | d (x : D)
  | nils (k : Nat)
  | ptr (o off : Nat)
  | own (o : Nat)
  | eptr (o k i j : Nat)
  | win (o k lo n : Nat)
  | wx (o k lo n : Nat)
  | clo (f : FuncId) (caps : List CapV)
  | yld (o : Nat)
  | mph (o : Nat)
  | vsl (o n : Nat)

/-- What a temporary holds. -/
inductive AT where
  | junk
  | undef
  | cs (agg : Bool) (xs : List AV)
  | tup (ts : List (Bool × List AV))

def getE : List (Nat × AT) → Nat → AT
  | [], _ => .junk
  | (k, x) :: r, n => if n = k then x else getE r n

/-- Where a loop over a function stands: between rounds; in one; a round has left it by a jump. -/
inductive LSt where
  | ready
  | busy
  | done (c : Code)

/-- The record of a loop over a function: the temporaries as the loop began, which of them a round is handed, the round's code. -/
structure Lp where
  nt : Nat
  env : List (Nat × AT)
  ps : Array Tmp
  assign : Code
  body : Code
  st : LSt

/-- An own object: a variable of some cells; a row of rows of k cells (live: it may still be written); the record of a loop over a function; where a range over a string stands; a map of truths: its keys. -/
inductive AObj where
  | var (cells : List AV) (live : Bool)
  | row (k : Nat) (ety : TypeId) (rows : List (List D)) (live : Bool)
  | lp (L : Lp)
  | it (s : ByteArray) (pos : Nat)
  | ms (kd : Option IntKind) (ks : List Value)

def AObj.live : AObj → Bool
  | .var _ l => l
  | .row _ _ _ l => l
  | .lp _ => true
  | .it .. => true
  | .ms .. => true

/-- A key of that kind: an integer, or a string. -/
def keyK : Option IntKind → Value → Bool
  | some q, .int q' _ => q == q'
  | none, .string _ => true
  | _, _ => false

inductive All2 {α β : Type} (R : α → β → Prop) : List α → List β → Prop where
  | nil : All2 R [] []
  | cons {x y xs ys} (h : R x y) (t : All2 R xs ys) : All2 R (x :: xs) (y :: ys)

theorem All2.len {α β : Type} {R : α → β → Prop} {xs : List α} {ys : List β} (h : All2 R xs ys) : xs.length = ys.length := by
  induction h with
  | nil => rfl
  | cons _ _ ih => simp [ih]

theorem All2.mono {α β : Type} {R R' : α → β → Prop} (hr : ∀ x y, R x y → R' x y) {xs : List α} {ys : List β} (h : All2 R xs ys) : All2 R' xs ys := by
  induction h with
  | nil => exact .nil
  | cons h _ ih => exact .cons (hr _ _ h) ih

theorem All2.mem_right {α β : Type} {R : α → β → Prop} {xs : List α} {ys : List β} (h : All2 R xs ys) : ∀ y ∈ ys, ∃ x ∈ xs, R x y := by
  induction h with
  | nil => simp
  | cons h _ ih =>
    intro y hy
    rcases List.mem_cons.1 hy with rfl | hy
    · exact ⟨_, List.mem_cons_self .., h⟩
    · obtain ⟨x, hx, hr⟩ := ih y hy
      exact ⟨x, List.mem_cons_of_mem _ hx, hr⟩

theorem All2.get {α β : Type} {R : α → β → Prop} {xs : List α} {ys : List β} (h : All2 R xs ys) : ∀ {i : Nat} {x : α}, xs[i]? = some x → ∃ y, ys[i]? = some y ∧ R x y := by
  induction h with
  | nil => intro i x hx; simp at hx
  | cons h _ ih =>
    intro i x hx
    cases i with
    | zero => simp at hx; subst hx; exact ⟨_, rfl, h⟩
    | succ i => simpa using ih (by simpa using hx)

theorem All2.take {α β : Type} {R : α → β → Prop} {xs : List α} {ys : List β} (h : All2 R xs ys) (n : Nat) : All2 R (xs.take n) (ys.take n) := by
  induction h generalizing n with
  | nil => simpa using All2.nil
  | cons h _ ih =>
    cases n with
    | zero => exact .nil
    | succ n => exact .cons h (ih n)

theorem All2.drop {α β : Type} {R : α → β → Prop} {xs : List α} {ys : List β} (h : All2 R xs ys) (n : Nat) : All2 R (xs.drop n) (ys.drop n) := by
  induction h generalizing n with
  | nil => simpa using All2.nil
  | cons h t ih =>
    cases n with
    | zero => exact .cons h t
    | succ n => exact ih n

theorem All2.set {α β : Type} {R : α → β → Prop} {xs : List α} {ys : List β} (h : All2 R xs ys) {n : Nat} {x : α} {y : β} (hr : R x y) : All2 R (xs.set n x) (ys.set n y) := by
  induction h generalizing n with
  | nil => exact .nil
  | cons h t ih =>
    cases n with
    | zero => exact .cons hr t
    | succ n => exact .cons h (ih)

theorem All2.append {α β : Type} {R : α → β → Prop} {xs xs' : List α} {ys ys' : List β} (h : All2 R xs ys) (h' : All2 R xs' ys') : All2 R (xs ++ xs') (ys ++ ys') := by
  induction h with
  | nil => exact h'
  | cons h _ ih => exact .cons h ih

/-- From the places: what All2 says of each. -/
theorem All2.of_get {α β : Type} {R : α → β → Prop} : ∀ {xs : List α} {ys : List β}, xs.length = ys.length → (∀ (i : Nat) (x : α) (y : β), xs[i]? = some x → ys[i]? = some y → R x y) → All2 R xs ys
  | [], [], _, _ => .nil
  | [], _ :: _, h, _ => by simp at h
  | _ :: _, [], h, _ => by simp at h
  | x :: xs, y :: ys, hl, h => .cons (h 0 x y rfl rfl) (All2.of_get (by simpa using hl) fun i a b ha hb => h (i + 1) a b (by simpa using ha) (by simpa using hb))

/-- The number of the block that a header stands for; a slice of no capacity has none. -/
def blkOf : Value → Option Nat
  | .pointer (some a) => some a.block
  | .slice (some a) _ c => if c = 0 then none else some a.block
  | _ => none

/-- Where the own objects lie: the header of each that there is. -/
abbrev Where := Nat → Option Value

def RepCap (ρ : Where) (w : World) (S : Nat → Prop) : CapV → Value → Prop
  | .d x, u => Rep w S x u
  | .ptr o off, u => ∃ g, ρ o = some (.pointer (some ⟨g, 0, none⟩)) ∧ u = .pointer (some ⟨g, off, none⟩)

def RepAV (ρ : Where) (w : World) (S : Nat → Prop) : AV → Value → Prop
  | .d x, u => Rep w S x u
  | .nils _, u => ∃ A, u = .slice A 0 0
  | .ptr o off, u => ∃ g, ρ o = some (.pointer (some ⟨g, 0, none⟩)) ∧ u = .pointer (some ⟨g, off, none⟩)
  | .own o, u => ρ o = some u ∧ ∃ A n c, u = .slice A n c
  | .eptr o k i j, u => ∃ g n c, ρ o = some (.slice (some ⟨g, 0, none⟩) n c) ∧ u = .pointer (some ⟨g, i * k + j, none⟩)
  | .win o k lo n, u => ∃ A m c A', ρ o = some (.slice A m c) ∧ u = .slice A' n (c - lo) ∧ (lo < c → A' = A.map (·.add (lo * k)))
  | .wx o k lo n, u => ∃ A c A', ρ o = some (.slice A c c) ∧ u = .slice A' n (c - lo) ∧ (lo < c → A' = A.map (·.add (lo * k)))
  | .clo f caps, u => ∃ vs : List Value, u = .func (.func f) #[] vs.toArray ∧ All2 (RepCap ρ w S) caps vs
  | .yld o, u => ∃ g, ρ o = some (.pointer (some ⟨g, 0, none⟩)) ∧ u = .func (.yield g) #[] #[]
  | .mph o, u => ∃ g, ρ o = some (.pointer (some ⟨g, 0, none⟩)) ∧ u = .map (some g)
  | .vsl o n, u => ∃ g, ρ o = some (.pointer (some ⟨g, 0, none⟩)) ∧ u = .slice (some ⟨g, 0, none⟩) n n

def RepC (ρ : Where) (w : World) (S : Nat → Prop) (g : Bool) (xs : List AV) (v : Value) : Prop :=
  if g then ∃ us : List Value, v = .agg us.toArray ∧ All2 (RepAV ρ w S) xs us
  else ∃ x, xs = [x] ∧ RepAV ρ w S x v

def RepT (ρ : Where) (w : World) (S : Nat → Prop) : AT → Value → Prop
  | .junk, _ => True
  | .undef, v => v = Go.undef
  | .cs g xs, v => RepC ρ w S g xs v
  | .tup ts, v => ∃ vs : List Value, v = .tuple vs.toArray ∧ All2 (fun t u => RepC ρ w S t.1 t.2 u) ts vs

/-- Each cell reads as some datum. -/
def Spare (w : World) (S : Nat → Prop) (cur : Array Value) : Prop := ∀ u ∈ cur.toList, ∃ d, Rep w S d u

theorem Spare.mono {w w' : World} {S S' : Nat → Prop} {cur : Array Value} (h : Spare w S cur) (hS : ∀ b, S b → S' b) (hw : Keeps S w w') : Spare w' S' cur :=
  fun u hu => let ⟨d, hd⟩ := h u hu; ⟨d, hd.mono hS hw⟩

/-- A row of cells in memory, of which only the first are known. -/
structure RowBlk (w : World) (S : Nat → Prop) (k : Nat) (ety : TypeId) (rows : List (List D)) (g c : Nat) : Prop where
  cap : rows.length ≤ c
  max : c ≤ maxLen
  pos : 0 < k
  blk : ∃ cur : Array Value, w.heap[g]? = some (.cells cur ety (0, 0)) ∧ cur.size = c * k ∧
    Spare w S cur ∧ ∀ (i j : Nat) (r : List D) (d : D), rows[i]? = some r → r[j]? = some d → ∃ u, cur[i * k + j]? = some u ∧ Rep w S d u

def LSt.state : LSt → LoopState
  | .ready => .ready
  | .busy => .busy
  | .done _ => .done
def LSt.pending : LSt → Option Code
  | .done c => some c
  | _ => none

/-- The record of a loop, in memory. -/
def LpRep (ρ : Where) (w : World) (S : Nat → Prop) (g : Nat) (L : Lp) : Prop :=
  ∃ fn tmps D, w.heap[g]? = some (.loop { state := L.st.state, pending := L.st.pending, fn := fn, tmps := tmps, params := L.ps, assign := L.assign, body := L.body, defers := D }) ∧
    tmps.size = L.nt ∧ ∀ t, RepT ρ w S (getE L.env t) (tmps.getD t Go.undef)

def ObjRep (ρ : Where) (w : World) (S : Nat → Prop) (h : Value) : AObj → Prop
  | .var cells live => ∃ g cur ety, h = .pointer (some ⟨g, 0, none⟩) ∧ w.heap[g]? = some (.cells cur ety (0, 0)) ∧ All2 (RepAV ρ w S) cells cur.toList ∧
      (live = true → ¬ S g) ∧ (live = false → S g ∧ ∀ x ∈ cells, ∃ y, x = .d y)
  | .row k ety rows live => (∀ r ∈ rows, r.length = k) ∧ ((rows = [] ∧ ∃ A, h = .slice A 0 0) ∨
      ∃ g c, 0 < c ∧ h = .slice (some ⟨g, 0, none⟩) rows.length c ∧ RowBlk w S k ety rows g c ∧ (live = true → ¬ S g) ∧ (live = false → S g))
  | .lp L => ∃ g, h = .pointer (some ⟨g, 0, none⟩) ∧ LpRep ρ w S g L ∧ ¬ S g
  | .it s pos => ∃ g, h = .pointer (some ⟨g, 0, none⟩) ∧ w.heap[g]? = some (.stringIter s pos) ∧ ¬ S g
  | .ms kd ks => ∃ g, h = .pointer (some ⟨g, 0, none⟩) ∧ (∃ es clock, w.heap[g]? = some (.map es clock) ∧ (∀ e ∈ es.toList, e.val = .bool true ∧ e.key ∈ ks) ∧ ∀ k ∈ ks, keyK kd k = true ∧ ∃ e ∈ es.toList, e.key = k) ∧ ¬ S g

theorem RepAV.one {ρ : Where} {w : World} {S : Nat → Prop} {x : AV} {u : Value} (h : RepAV ρ w S x u) : u.oneCell' = true := by
  cases x with
  | d x => exact Rep.one h
  | nils _ => obtain ⟨A, rfl⟩ := h; rfl
  | ptr o off => obtain ⟨g, _, rfl⟩ := h; rfl
  | own o => obtain ⟨_, A, n, c, rfl⟩ := h; rfl
  | eptr o k i j => obtain ⟨g, n, c, _, rfl⟩ := h; rfl
  | win o k lo n => obtain ⟨A, m, c, A', _, rfl, _⟩ := h; rfl
  | wx o k lo n => obtain ⟨A, c, A', _, rfl, _⟩ := h; rfl
  | clo f caps => obtain ⟨vs, rfl, _⟩ := h; rfl
  | yld o => obtain ⟨g, _, rfl⟩ := h; rfl
  | mph o => obtain ⟨g, _, rfl⟩ := h; rfl
  | vsl o n => obtain ⟨g, _, rfl⟩ := h; rfl

/-- More objects are known, more blocks are still, none of the still ones has turned. -/
structure Grows (ρ ρ' : Where) (w w' : World) (S S' : Nat → Prop) : Prop where
  rho : ∀ o h, ρ o = some h → ρ' o = some h
  sub : ∀ b, S b → S' b
  keeps : Keeps S w w'

theorem Grows.refl (ρ : Where) (w : World) (S : Nat → Prop) : Grows ρ ρ w w S S := ⟨fun _ _ h => h, fun _ h => h, Keeps.refl _ _⟩

theorem RepCap.grows {ρ ρ' : Where} {w w' : World} {S S' : Nat → Prop} (g : Grows ρ ρ' w w' S S') {x : CapV} {u : Value} (h : RepCap ρ w S x u) : RepCap ρ' w' S' x u := by
  cases x with
  | d x => exact Rep.mono g.sub g.keeps h
  | ptr o off => obtain ⟨b, h1, h2⟩ := h; exact ⟨b, g.rho _ _ h1, h2⟩

theorem RepAV.grows {ρ ρ' : Where} {w w' : World} {S S' : Nat → Prop} (g : Grows ρ ρ' w w' S S') {x : AV} {u : Value} (h : RepAV ρ w S x u) : RepAV ρ' w' S' x u := by
  cases x with
  | d x => exact Rep.mono g.sub g.keeps h
  | nils _ => exact h
  | ptr o off => obtain ⟨b, h1, h2⟩ := h; exact ⟨b, g.rho _ _ h1, h2⟩
  | own o => obtain ⟨h1, h2⟩ := h; exact ⟨g.rho _ _ h1, h2⟩
  | eptr o k i j => obtain ⟨b, n, c, h1, h2⟩ := h; exact ⟨b, n, c, g.rho _ _ h1, h2⟩
  | win o k lo n => obtain ⟨A, m, c, A', h1, h2⟩ := h; exact ⟨A, m, c, A', g.rho _ _ h1, h2⟩
  | wx o k lo n => obtain ⟨A, c, A', h1, h2⟩ := h; exact ⟨A, c, A', g.rho _ _ h1, h2⟩
  | clo f caps => obtain ⟨vs, h1, h2⟩ := h; exact ⟨vs, h1, h2.mono fun _ _ => RepCap.grows g⟩
  | yld o => obtain ⟨b, h1, h2⟩ := h; exact ⟨b, g.rho _ _ h1, h2⟩
  | mph o => obtain ⟨b, h1, h2⟩ := h; exact ⟨b, g.rho _ _ h1, h2⟩
  | vsl o n => obtain ⟨b, h1, h2⟩ := h; exact ⟨b, g.rho _ _ h1, h2⟩

theorem RepC.grows {ρ ρ' : Where} {w w' : World} {S S' : Nat → Prop} (g : Grows ρ ρ' w w' S S') {b : Bool} {xs : List AV} {u : Value} (h : RepC ρ w S b xs u) : RepC ρ' w' S' b xs u := by
  unfold RepC at *
  split
  · rename_i hb
    rw [if_pos hb] at h
    obtain ⟨us, h1, h2⟩ := h
    exact ⟨us, h1, h2.mono fun _ _ => RepAV.grows g⟩
  · rename_i hb
    rw [if_neg hb] at h
    obtain ⟨x, h1, h2⟩ := h
    exact ⟨x, h1, h2.grows g⟩

theorem RepT.grows {ρ ρ' : Where} {w w' : World} {S S' : Nat → Prop} (g : Grows ρ ρ' w w' S S') {t : AT} {u : Value} (h : RepT ρ w S t u) : RepT ρ' w' S' t u := by
  cases t with
  | junk => trivial
  | undef => exact h
  | cs b xs => exact RepC.grows g h
  | tup ts =>
    obtain ⟨vs, h1, h2⟩ := h
    exact ⟨vs, h1, h2.mono fun _ _ => RepC.grows g⟩

/-- An object stays as it reads where its block is as it was and no more still than it was. -/
theorem ObjRep.grows {ρ ρ' : Where} {w w' : World} {S S' : Nat → Prop} (g : Grows ρ ρ' w w' S S') {h : Value} {x : AObj} (hx : ObjRep ρ w S h x)
    (hb : ∀ b, blkOf h = some b → w'.heap[b]? = w.heap[b]? ∧ (S' b → S b)) : ObjRep ρ' w' S' h x := by
  cases x with
  | var cells live =>
    obtain ⟨b, cur, ety, rfl, h1, h2, h3, h4⟩ := hx
    obtain ⟨e1, e2⟩ := hb b rfl
    exact ⟨b, cur, ety, rfl, e1.trans h1, h2.mono fun _ _ => RepAV.grows g, fun hl hs => h3 hl (e2 hs), fun hl => ⟨g.sub _ (h4 hl).1, (h4 hl).2⟩⟩
  | row k ety rows live =>
    obtain ⟨h0, h1⟩ := hx
    refine ⟨h0, ?_⟩
    rcases h1 with h1 | ⟨b, c, hc, rfl, ⟨r1, r2, r3, cur, r4, r5, r7, r6⟩, h3, h4⟩
    · exact .inl h1
    · obtain ⟨e1, e2⟩ := hb b (by simp [blkOf]; omega)
      refine .inr ⟨b, c, hc, rfl, ⟨r1, r2, r3, cur, e1.trans r4, r5, r7.mono g.sub g.keeps, fun i j r d hr hd => ?_⟩, fun hl hs => h3 hl (e2 hs), fun hl => g.sub _ (h4 hl)⟩
      obtain ⟨u, hu, hru⟩ := r6 i j r d hr hd
      exact ⟨u, hu, hru.mono g.sub g.keeps⟩
  | lp L =>
    obtain ⟨b, rfl, ⟨fn, tmps, D, h1, h2, h3⟩, h4⟩ := hx
    obtain ⟨e1, e2⟩ := hb b rfl
    exact ⟨b, rfl, ⟨fn, tmps, D, e1.trans h1, h2, fun t => (h3 t).grows g⟩, fun hs => h4 (e2 hs)⟩
  | it s pos =>
    obtain ⟨b, rfl, h1, h4⟩ := hx
    obtain ⟨e1, e2⟩ := hb b rfl
    exact ⟨b, rfl, e1.trans h1, fun hs => h4 (e2 hs)⟩
  | ms kd ks =>
    obtain ⟨b, rfl, ⟨es, clock, h1, h2⟩, h4⟩ := hx
    obtain ⟨e1, e2⟩ := hb b rfl
    exact ⟨b, rfl, ⟨es, clock, e1.trans h1, h2⟩, fun hs => h4 (e2 hs)⟩

end Go.Eng
namespace Go.Eng

/-- What is handed over at a call, cell by cell: data; an own row. -/
inductive CV where
  | d (x : D)
  | own (k : Nat) (ety : TypeId) (rows : List (List D))

/-- A result: one value, or several. -/
structure Res where
  tup : Bool
  cs : List (Bool × List CV)

inductive TDesc where
  | int (k : IntKind) | bool | str | ptr | other
  | slice (elem : TypeId)
  | struct (fs : List (Nat × TypeId))
  | arr (len : Nat) (elem : TypeId)
  | iface
  | map (key : TypeId)

structure TI where
  desc : TDesc
  size : Nat
  bytes : Nat
  zero : List AV

/-- Functions without a body that are known. -/
inductive Ext where
  | overlaps (t r : TypeId)
  | cmpString | countString | indexByteString | add64

/-- What is known ahead of a walk: types; functions without a body. -/
structure Ctx where
  ty : TypeId → Option TI
  ext : FuncId → Option Ext

structure St where
  nt : Nat
  env : List (Nat × AT)
  objs : List (Nat × Option AObj)
  next : Nat

def getO : List (Nat × Option AObj) → Nat → Option AObj
  | [], _ => none
  | (k, x) :: r, o => if o = k then x else getO r o

structure AOut where
  out : AT
  upd : List (Nat × Option AObj)
  touch : List Nat

def pureOut (t : AT) : AOut := ⟨t, [], []⟩

def Ctx.size (Γ : Ctx) (t : TypeId) : Option Nat := (Γ.ty t).map (·.size)
def Ctx.elem (Γ : Ctx) (t : TypeId) : Option TypeId := match Γ.ty t with
  | some ti => match ti.desc with
    | .slice e => some e
    | _ => none
  | none => none
def Ctx.fields (Γ : Ctx) (t : TypeId) : Option (List (Nat × TypeId)) := match Γ.ty t with
  | some ti => match ti.desc with
    | .struct fs => some fs
    | _ => none
  | none => none
def Ctx.agg (Γ : Ctx) (t : TypeId) : Option Bool := match Γ.ty t with
  | some ti => match ti.desc with
    | .struct _ => some true
    | .arr .. => some true
    | _ => some false
  | none => none

def constT (Γ : Ctx) (t : TypeId) (v : Value) : AT := match v with
  | .slice none 0 0 => match Γ.elem t with
    | some e => match Γ.size e with
      | some k => .cs false [.nils k]
      | none => .junk
    | none => .junk
  | .int k n => .cs false [.d (.v (.int k n))]
  | .bool b => .cs false [.d (.v (.bool b))]
  | .string s => .cs false [.d (.v (.string s))]
  | .pointer none => .cs false [.d (.v (.pointer none))]
  | .nilFunc => .cs false [.d (.v .nilFunc)]
  | .nilIface => .cs false [.d (.v .nilIface)]
  | _ => .junk

def aval (Γ : Ctx) (env : Nat → AT) (t : TypeId) : Operand → AT
  | .tmp n => env n
  | .const v => constT Γ t v
  | .func f => .cs false [.d (.fn f [])]
  | .global g => match layL layTab g with
    | some cells => .cs false [.d (.pt cells)]
    | none => .junk

def AT.bool? : AT → Option Bool
  | .cs false [.d (.v (.bool b))] => some b
  | _ => none
def AT.int? : AT → Option Int
  | .cs false [.d (.v (.int _ n))] => some n
  | _ => none
def AT.one? : AT → Option AV
  | .cs false [x] => some x
  | _ => none
def AT.cells? : AT → Option (List AV)
  | .cs _ xs => some xs
  | _ => none

def unD : AV → D
  | .d x => x
  | _ => default

/-- What is captured, as data, nothing being turned. -/
def capsD (ob : Nat → Option AObj) : List CapV → Option (List D)
  | [] => some []
  | .d x :: r => (capsD ob r).map (x :: ·)
  | .ptr o off :: r => match ob o, capsD ob r with
    | some (.var cells false), some ds => some (.pt ((cells.drop off).map unD) :: ds)
    | _, _ => none

/-- A cell as data, nothing being turned. -/
def avD (ob : Nat → Option AObj) : AV → Option D
  | .d x => some x
  | .nils k => some (.vec k [])
  | .own o => match ob o with
    | some (.row k _ rows false) => some (.vec k rows)
    | _ => none
  | .ptr o off => match ob o with
    | some (.var cells false) => some (.pt ((cells.drop off).map unD))
    | _ => none
  | .clo f ks => (capsD ob ks).map (.fn f)
  | .eptr .. | .win .. | .wx .. | .yld _ | .mph _ | .vsl .. => none

def capT : CapV → List Nat
  | .d _ => []
  | .ptr o _ => [o]

def avT : AV → List Nat
  | .d _ | .nils _ => []
  | .own o | .ptr o _ | .eptr o .. | .win o .. | .wx o .. | .yld o | .mph o | .vsl o _ => [o]
  | .clo _ caps => caps.flatMap capT

def allD (ob : Nat → Option AObj) : List AV → Option (List D)
  | [] => some []
  | x :: xs => match avD ob x, allD ob xs with
    | some d, some ds => some (d :: ds)
    | _, _ => none

/-- A cell as it is handed to a callee: an own row is used up (eat), or lent. -/
def avArg (eat : Bool) (ob : Nat → Option AObj) : AV → Option CV
  | .own o => match ob o with
    | some (.row k e rows true) => some (if eat then .own k e rows else .d (.vec k rows))
    | some (.row k _ rows false) => some (.d (.vec k rows))
    | _ => none
  | x => (avD ob x).map .d

def allArg (eat : Bool) (ob : Nat → Option AObj) : List AV → Option (List CV)
  | [] => some []
  | x :: xs => match avArg eat ob x, allArg eat ob xs with
    | some d, some ds => some (d :: ds)
    | _, _ => none

/-- The own rows among cells that may still be written. -/
def livesOf (ob : Nat → Option AObj) : List AV → List Nat
  | [] => []
  | .own o :: xs => match ob o with
    | some (.row _ _ _ true) => o :: livesOf ob xs
    | _ => livesOf ob xs
  | _ :: xs => livesOf ob xs

def splice {α : Type} (cs : List α) (off : Nat) (ys : List α) : List α := cs.take off ++ ys ++ cs.drop (off + ys.length)

def valEq : Value → Value → Option Bool
  | .int k a, .int k' b => if k = k' then some (a == b) else none
  | .bool a, .bool b => some (a == b)
  | .string a, .string b => some (a.toList == b.toList)
  | _, _ => none

/-- Bitwise operations. -/
def bAnd (k : IntKind) (a b : Int) : Int := k.wrap (BitVec.ofInt k.bits a &&& BitVec.ofInt k.bits b).toNat
def bOr (k : IntKind) (a b : Int) : Int := k.wrap (BitVec.ofInt k.bits a ||| BitVec.ofInt k.bits b).toNat
def bXor (k : IntKind) (a b : Int) : Int := k.wrap (BitVec.ofInt k.bits a ^^^ BitVec.ofInt k.bits b).toNat
def bAndNot (k : IntKind) (a b : Int) : Int := k.wrap (BitVec.ofInt k.bits a &&& ~~~BitVec.ofInt k.bits b).toNat

def scal2 (op : BinOp) (x y : Value) : Option Value := match x, y with
  | .int k a, .int k' b => if k = k' then (match op with
      | .add => some (.int k (k.wrap (a + b)))
      | .sub => some (.int k (k.wrap (a - b)))
      | .mul => some (.int k (k.wrap (a * b)))
      | .eql => some (.bool (a == b))
      | .neq => some (.bool (a != b))
      | .lss => some (.bool (decide (a < b)))
      | .leq => some (.bool (decide (a ≤ b)))
      | .gtr => some (.bool (decide (b < a)))
      | .geq => some (.bool (decide (b ≤ a)))
      | .quo => if b = 0 then none else some (.int k (k.wrap (a.tdiv b)))
      | .rem => if b = 0 then none else some (.int k (a.tmod b))
      | .shr => if b < 0 then none else some (.int k (a.fdiv (2 ^ (min b.toNat k.bits))))
      | .shl => if b < 0 then none else some (.int k (k.wrap (a * 2 ^ (min b.toNat k.bits))))
      | .and => some (.int k (bAnd k a b))
      | .or => some (.int k (bOr k a b))
      | .xor => some (.int k (bXor k a b))
      | .andNot => some (.int k (bAndNot k a b))) else (match op with
      | .shr => if b < 0 then none else some (.int k (a.fdiv (2 ^ (min b.toNat k.bits))))
      | .shl => if b < 0 then none else some (.int k (k.wrap (a * 2 ^ (min b.toNat k.bits))))
      | _ => none)
  | .string a, .string b => match op with
      | .add => if a.size + b.size ≤ 9223372036854775807 then some (.string (a ++ b)) else none
      | .eql => some (.bool (a.toList == b.toList))
      | .neq => some (.bool (!(a.toList == b.toList)))
      | .lss => some (.bool (Op.bytesLess a.toList b.toList))
      | .leq => some (.bool (Op.bytesLess a.toList b.toList || a.toList == b.toList))
      | .gtr => some (.bool (!(Op.bytesLess a.toList b.toList || a.toList == b.toList)))
      | .geq => some (.bool (!Op.bytesLess a.toList b.toList))
      | _ => none
  | _, _ => none

/-- The flat fields of a struct whose fields are scalars, each of one cell, in order. -/
def flatScal (Γ : Ctx) : Nat → List (Nat × TypeId) → Bool
  | _, [] => true
  | i, (off, t) :: r => off == i && (match Γ.ty t with
      | some ti => (match ti.desc with
        | .int _ | .bool | .str => ti.size == 1
        | _ => false)
      | none => false) && flatScal Γ (i + 1) r

def kindFits (Γ : Ctx) (t : TypeId) (v : Value) : Bool := match Γ.ty t with
  | some ti => match ti.desc, v with
    | .int _, .int _ _ => true
    | .bool, .bool _ => true
    | .str, .string _ => true
    | _, _ => false
  | none => false

def cellsEq (Γ : Ctx) : List (Nat × TypeId) → List AV → List AV → Option Bool
  | [], [], [] => some true
  | (_, t) :: fs, .d (.v a) :: xs, .d (.v b) :: ys => if kindFits Γ t a && kindFits Γ t b then
      match valEq a b, cellsEq Γ fs xs ys with
      | some e, some r => some (e && r)
      | _, _ => none
    else none
  | _, _, _ => none

/-- A pointer against nil. -/
def isPtr : AV → Option Bool
  | .ptr .. | .eptr .. | .d (.pt _) => some true
  | .d (.v (.pointer none)) => some false
  | _ => none

/-- A pointer against nil. -/
def ptrNil (Γ : Ctx) (op : BinOp) (t : TypeId) (x : AV) : Option AT := match isPtr x, (match Γ.ty t with | some ti => ti.desc | none => .other) with
  | some b, .ptr => match op with
    | .eql => some (.cs false [.d (.v (.bool (!b)))])
    | .neq => some (.cs false [.d (.v (.bool b))])
    | _ => none
  | _, _ => none

def binA (Γ : Ctx) (op : BinOp) (t : TypeId) (x y : AT) : Option AT := match x, y with
  | .cs false [p], .cs false [.d (.v (.pointer none))] => ptrNil Γ op t p
  | .cs false [.d (.v a)], .cs false [.d (.v b)] => match a, b with
    | .bool p, .bool q => match op, Γ.ty t with
      | .eql, some ti => match ti.desc with
        | .bool => some (.cs false [.d (.v (.bool (p == q)))])
        | _ => none
      | .neq, some ti => match ti.desc with
        | .bool => some (.cs false [.d (.v (.bool (!(p == q))))])
        | _ => none
      | _, _ => none
    | _, _ => (scal2 op a b).map fun v => .cs false [.d (.v v)]
  | .cs true xs, .cs true ys => match Γ.fields t with
    | some fs => if flatScal Γ 0 fs then match op, cellsEq Γ fs xs ys with
      | .eql, some b => some (.cs false [.d (.v (.bool b))])
      | .neq, some b => some (.cs false [.d (.v (.bool (!b)))])
      | _, _ => none
      else none
    | none => none
  | _, _ => none

def loadC (Γ : Ctx) (t : TypeId) (cells : List AV) : Option AT := match Γ.agg t, Γ.size t with
  | some true, some k => if k ≤ cells.length then some (.cs true (cells.take k)) else none
  | some false, some _ => match cells with
    | x :: _ => some (.cs false [x])
    | [] => none
  | _, _ => none

def fillA (Γ : Ctx) (ev : TypeId → Operand → AT) (fs : List (Nat × TypeId)) : List AV → List (Nat × Operand) → Option (List AV)
  | cells, [] => some cells
  | cells, (i, x) :: rest => match fs[i]? with
    | some (off, t) => match Γ.size t, (ev t x).cells? with
      | some k, some ys => if ys.length = k ∧ off + k ≤ cells.length then fillA Γ ev fs (splice cells off ys) rest else none
      | _, _ => none
    | none => none

def fillRows (ob : Nat → Option AObj) (ev : TypeId → Operand → AT) (e : TypeId) (k : Nat) : List (List D) → List (Nat × Operand) → Option (List (List D) × List Nat)
  | rows, [] => some (rows, [])
  | rows, (i, x) :: rest => match (ev e x).cells? with
    | some ys => match allD ob ys with
      | some ds => if ds.length = k ∧ i < rows.length then (fillRows ob ev e k (rows.set i ds) rest).map fun r => (r.1, ys.flatMap avT ++ r.2) else none
      | none => none
    | none => none

def partA (Γ : Ctx) (t : TypeId) (cells : List AV) (off : Nat) : Option AT := match Γ.agg t, Γ.size t with
  | some true, some k => if off + k ≤ cells.length then some (.cs true ((cells.drop off).take k)) else none
  | some false, some _ => match cells[off]? with
    | some x => some (.cs false [x])
    | none => none
  | _, _ => none

def optInt (ev : TypeId → Operand → AT) (d : Nat) : Option Operand → Option Int
  | none => some d
  | some x => (ev 0 x).int?

/-- The rows of a slice that is read. -/
def rowsOf (ob : Nat → Option AObj) : AV → Option (Nat × List (List D) × List Nat)
  | .d (.vec k rows) => some (k, rows, [])
  | .nils k => some (k, [], [])
  | .own o => match ob o with
    | some (.row k _ rows _) => some (k, rows, [o])
    | _ => none
  | .win o k lo n => match ob o with
    | some (.row k' _ rows _) => if k = k' ∧ lo + n ≤ rows.length then some (k, (rows.drop lo).take n, [o]) else none
    | _ => none
  | .wx o k lo n => match ob o with
    | some (.row k' _ rows _) => if k = k' ∧ lo + n ≤ rows.length then some (k, (rows.drop lo).take n, [o]) else none
    | _ => none
  | _ => none

def resAVs : Nat → List CV → List AV × List (Nat × Option AObj)
  | _, [] => ([], [])
  | n, .d x :: r => (.d x :: (resAVs n r).1, (resAVs n r).2)
  | n, .own k e rows :: r => (.own n :: (resAVs (n + 1) r).1, (n, some (.row k e rows true)) :: (resAVs (n + 1) r).2)

def ownsIn : List CV → Nat
  | [] => 0
  | .d _ :: r => ownsIn r
  | .own .. :: r => ownsIn r + 1

def resComps : Nat → List (Bool × List CV) → List (Bool × List AV) × List (Nat × Option AObj)
  | _, [] => ([], [])
  | n, (g, cs) :: r => ((g, (resAVs n cs).1) :: (resComps (n + ownsIn cs) r).1, (resAVs n cs).2 ++ (resComps (n + ownsIn cs) r).2)

def CV.scalar : CV → Bool
  | .d (.v _) => true
  | _ => false

def Res.scalar (r : Res) : Bool := r.cs.all fun c => c.2.all CV.scalar

def Res.out (r : Res) (n : Nat) : Option (AT × List (Nat × Option AObj)) :=
  if r.tup then some (.tup (resComps n r.cs).1, (resComps n r.cs).2)
  else match r.cs with
    | [(g, cs)] => some (.cs g (resAVs n cs).1, (resAVs n cs).2)
    | _ => none

def argsOf (ev : TypeId → Operand → AT) : List Operand → List TypeId → Option (List (Bool × List AV))
  | [], _ => some []
  | x :: xs, ts => match ev (ts.headD 0) x, argsOf ev xs ts.tail with
    | .cs g ys, some r => some ((g, ys) :: r)
    | _, _ => none

/-- The arguments of a call, each with whether its own rows are used up. -/
def convArgs (ob : Nat → Option AObj) : List Bool → List (Bool × List AV) → Option (List (Bool × List CV))
  | _, [] => some []
  | es, (g, ys) :: r => match allArg (es.headD false) ob ys, convArgs ob es.tail r with
    | some cs, some r' => some ((g, cs) :: r')
    | _, _ => none

def eatenOf (ob : Nat → Option AObj) : List Bool → List (Bool × List AV) → List Nat
  | _, [] => []
  | es, (_, ys) :: r => (match es.headD false with | true => livesOf ob ys | false => []) ++ eatenOf ob es.tail r

def lentOf (ob : Nat → Option AObj) : List Bool → List (Bool × List AV) → List Nat
  | _, [] => []
  | es, (_, ys) :: r => (match es.headD false with | true => [] | false => livesOf ob ys) ++ lentOf ob es.tail r

def frz (ob : Nat → Option AObj) (o : Nat) : Nat × Option AObj := (o, match ob o with
  | some (.row k e rows _) => some (.row k e rows false)
  | x => x)

/-- What a call does to the caller's objects: what is used up is gone; what is lent is still from then on, unless the answer holds no memory. -/
def callUpd (ob : Nat → Option AObj) (es : List Bool) (args : List (Bool × List AV)) (sc : Bool) : List (Nat × Option AObj) :=
  (eatenOf ob es args).map (fun o => (o, none)) ++ (match sc with | true => [] | false => (lentOf ob es args).map (frz ob))

def callOk (ob : Nat → Option AObj) (es : List Bool) (args : List (Bool × List AV)) (n : Nat) : Bool :=
  decide (n ≤ 8) && decide (eatenOf ob es args).Nodup && (lentOf ob es args).all (fun o => !(eatenOf ob es args).contains o)

def callTouch (args : List (Bool × List AV)) : List Nat := args.flatMap fun a => a.2.flatMap avT

/-- What is captured where some of it is no data: pointers to own variables beside data. -/
def capsOf (ob : Nat → Option AObj) : List AV → Option (List CapV)
  | [] => some []
  | .ptr o off :: xs => (capsOf ob xs).map fun r => .ptr o off :: r
  | x :: xs => match avD ob x, capsOf ob xs with
    | some d, some ds => some (.d d :: ds)
    | _, _ => none

def onesOf (ev : TypeId → Operand → AT) : List Operand → Option (List AV)
  | [] => some []
  | x :: xs => match (ev 0 x).one?, onesOf ev xs with
    | some y, some ys => some (y :: ys)
    | _, _ => none

def foldInts (f : Int → Int → Int) (k : IntKind) : Int → List AT → Option Int
  | a, [] => some a
  | a, .cs false [.d (.v (.int k' b))] :: r => if k' = k then foldInts f k (f a b) r else none
  | _, _ => none

/-- The row that is appended to. -/
def headOf (ob : Nat → Option AObj) (e : TypeId) : AV → Option (Nat × List (List D) × List Nat)
  | .nils k => some (k, [], [])
  | .own o => match ob o with
    | some (.row k ety rows true) => if ety = e then some (k, rows, [o]) else none
    | _ => none
  | _ => none

def appendA (Γ : Ctx) (N : Nat) (ob : Nat → Option AObj) (t t2 : TypeId) (s x : AV) : Option AOut :=
  match Γ.elem t, (if t = t2 then some () else none) with
  | some e, some _ => match Γ.ty e with
    | some ti =>
      match rowsOf ob x with
      | some (k2, rows2, tx) =>
        match headOf ob e s with
        | some (k, rows, ts) =>
          if k = k2 ∧ k = ti.size ∧ ti.zero.length = ti.size ∧ 0 < k ∧ rows.length + rows2.length ≤ 9223372036854775807 ∧ (rows.length + rows2.length) * ti.bytes ≤ 140737488355328 ∧ (∀ o ∈ ts, o ∉ tx) then
            some ⟨.cs false [.own N], (N, some (.row k e (rows ++ rows2) true)) :: ts.map (fun o => (o, none)), ts ++ tx⟩
          else none
        | none => none
      | none => none
    | none => none
  | _, _ => none

/-- A string's bytes, as rows. -/
def strRows (s : ByteArray) : List (List D) := s.data.toList.map fun b => [.v (.int .u8 b.toNat)]

/-- A string's bytes appended. -/
def appendS (Γ : Ctx) (N : Nat) (ob : Nat → Option AObj) (t t2 : TypeId) (s : AV) (str : ByteArray) : Option AOut := match Γ.ty t2 with
  | some ti2 => match ti2.desc with
    | .str => appendA Γ N ob t t s (.d (.vec 1 (strRows str)))
    | _ => none
  | none => none

def appendV (Γ : Ctx) (N : Nat) (ob : Nat → Option AObj) (t t2 : TypeId) (s x : AV) : Option AOut := match x with
  | .d (.v (.string str)) => appendS Γ N ob t t2 s str
  | x => appendA Γ N ob t t2 s x

/-- An append to a window of an own row that has the room: in place. -/
def appendW (Γ : Ctx) (ob : Nat → Option AObj) (t t2 : TypeId) (oo k lo n : Nat) (x : AV) : Option AOut :=
  match Γ.elem t, (if t = t2 then some () else none) with
  | some e, some _ => match Γ.size e with
    | some sz => match rowsOf ob x, ob oo with
      | some (k2, rows2, tx), some (.row k3 ety rows true) => if k = k2 ∧ k = k3 ∧ k = sz ∧ ety = e ∧ lo + n + rows2.length ≤ rows.length then
          some ⟨.cs false [.win oo k lo (n + rows2.length)], [(oo, some (.row k ety (splice rows (lo + n) rows2) true))], oo :: tx⟩
        else none
      | _, _ => none
    | none => none
  | _, _ => none

/-- A window is made zero. -/
def clearW (Γ : Ctx) (ob : Nat → Option AObj) (t : TypeId) (oo k lo n : Nat) : Option AOut :=
  match Γ.elem t with
  | some e => match Γ.ty e with
    | some ti => match allD ob ti.zero, ob oo with
      | some z, some (.row k3 ety rows true) => if k = k3 ∧ k = ti.size ∧ z.length = ti.size ∧ lo + n ≤ rows.length then
          some ⟨.tup [], [(oo, some (.row k ety (splice rows lo (List.replicate n z)) true))], oo :: ti.zero.flatMap avT⟩
        else none
      | _, _ => none
    | none => none
  | none => none

/-- Part of a slice of data, its room cut off. -/
def sl3 (k l h m : Nat) (x : AV) : AT := match x with
  | .d (.vec k3 rows3) => if k3 = k ∧ l < m then .cs false [.d (.vec k ((rows3.take h).drop l))] else .junk
  | _ => .junk

def sliceA (Γ : Ctx) (ob : Nat → Option AObj) (ev : TypeId → Operand → AT) (t : TypeId) (x : AV) (lo hi mx : Option Operand) : Option AOut :=
  match x with
  | .d (.v (.string s)) => match Γ.ty t with
    | some ti => match ti.desc, optInt ev 0 lo, optInt ev s.size hi, mx with
      | .str, some l, some h, none => if 0 ≤ l ∧ l ≤ h ∧ h ≤ s.size then some (pureOut (.cs false [.d (.v (.string (s.extract l.toNat h.toNat)))])) else none
      | _, _, _, _ => none
    | none => none
  | x => match Γ.elem t with
    | some e => match Γ.size e, rowsOf ob x with
      | some k, some (_, rows0, tc) => match mx with
        | some m => match optInt ev 0 lo, (ev 0 m).int?, (match hi with | some h => (ev 0 h).int? | none => none) with
          | some l, some m, some h => if l = 0 ∧ m = 0 ∧ h = 0 then some ⟨.cs false [.nils k], [], tc⟩
            else if 0 ≤ l ∧ l ≤ h ∧ h ≤ m ∧ m ≤ rows0.length then some ⟨sl3 k l.toNat h.toNat m.toNat x, [], tc⟩ else none
          | _, _, _ => none
        | none => match avD ob x with
          | some (.vec k3 rows3) => match optInt ev 0 lo, optInt ev rows3.length hi with
            | some l, some h => if k = k3 ∧ 0 ≤ l ∧ l ≤ h ∧ h ≤ rows3.length then some ⟨.cs false [.d (.vec k ((rows3.take h.toNat).drop l.toNat))], [], avT x⟩ else none
            | _, _ => none
          | some _ => none
          | none => match x with
            | .own oo => match ob oo, optInt ev 0 lo, optInt ev rows0.length hi with
              | some (.row k3 _ _ _), some l, some h => if k = k3 ∧ 0 ≤ l ∧ l ≤ h ∧ h ≤ rows0.length then some ⟨.cs false [.win oo k l.toNat (h.toNat - l.toNat)], [], [oo]⟩ else none
              | _, _, _ => none
            | .win oo k3 lo0 n0 => match ob oo, optInt ev 0 lo, optInt ev n0 hi with
              | some (.row _ _ rows3 _), some l, some h => if k = k3 ∧ 0 ≤ l ∧ l ≤ h ∧ lo0 + h ≤ rows3.length then some ⟨.cs false [.win oo k (lo0 + l.toNat) (h.toNat - l.toNat)], [], [oo]⟩ else none
              | _, _, _ => none
            | _ => none
      | _, _ => none
    | none => none

def aop0 (Γ : Ctx) (N : Nat) (ev : TypeId → Operand → AT) (ob : Nat → Option AObj) (o : Oper) : Option AOut :=
  match o.op with
  | .move x | .assign x => some (pureOut (ev o.type x))
  | .pick c a b => (ev 0 c).bool?.map fun q => pureOut (if q then ev o.type a else ev o.type b)
  | .alloc e => (Γ.ty e).map fun ti => ⟨.cs false [.ptr N 0], [(N, some (.var ti.zero true))], []⟩
  | .box e x => (ev e x).cells?.map fun ys => ⟨.cs false [.ptr N 0], [(N, some (.var ys true))], []⟩
  | .build t parts => match Γ.ty t, Γ.fields t with
    | some ti, some fs => (fillA Γ ev fs ti.zero parts.toList).map fun cells => pureOut (.cs true cells)
    | _, _ => none
  | .buildSlice t len parts => match Γ.elem t with
    | some e => match Γ.ty e with
      | some ti => match allD ob ti.zero with
        | some z => if z.length = ti.size ∧ 0 < ti.size ∧ len * ti.size ≤ 16777216 ∧ len ≤ 9223372036854775807 then
            (fillRows ob ev e ti.size (List.replicate len z) parts.toList).map fun r => ⟨.cs false [.own N], [(N, some (.row ti.size e r.1 true))], ti.zero.flatMap avT ++ r.2⟩
          else none
        | none => none
      | none => none
    | none => none
  | .load t a => match (ev 0 a).one? with
    | some (.ptr oo off) => match ob oo with
      | some (.var cells _) => (loadC Γ t (cells.drop off)).map fun r => ⟨r, [], [oo]⟩
      | _ => none
    | some (.d (.pt cells)) => (loadC Γ t (cells.map .d)).map pureOut
    | some (.eptr oo k i j) => match ob oo with
      | some (.row k' _ rows _) => if k = k' then match rows[i]? with
          | some r => (loadC Γ t ((r.drop j).map .d)).map fun r => ⟨r, [], [oo]⟩
          | none => none
        else none
      | _ => none
    | _ => none
  | .store t a x => match (ev 0 a).one?, (ev t x).cells?, Γ.size t with
    | some (.ptr oo off), some ys, some k => match ob oo with
      | some (.var cells true) => if ys.length = k ∧ off + k ≤ cells.length then some ⟨.undef, [(oo, some (.var (splice cells off ys) true))], [oo]⟩ else none
      | _ => none
    | some (.eptr oo kk i j), some ys, some k => match ob oo, allD ob ys with
      | some (.row k' e rows true), some ds => if kk = k' ∧ ds.length = k ∧ j + k ≤ kk then match rows[i]? with
          | some r => some ⟨.undef, [(oo, some (.row kk e (rows.set i (splice r j ds)) true))], oo :: ys.flatMap avT⟩
          | none => none
        else none
      | _, _ => none
    | _, _, _ => none
  | .nilCheck x => match (ev 0 x).one? with
    | some (.ptr a b) => some (pureOut (.cs false [.ptr a b]))
    | some (.eptr a b c d) => some (pureOut (.cs false [.eptr a b c d]))
    | some (.d (.pt c)) => some (pureOut (.cs false [.d (.pt c)]))
    | some (.d (.fn f c)) => some (pureOut (.cs false [.d (.fn f c)]))
    | _ => none
  | .binOp op t x y _ => (binA Γ op t (ev t x) (ev t y)).map pureOut
  | .unOp op t x => match op, ev t x with
    | .not, .cs false [.d (.v (.bool b))] => some (pureOut (.cs false [.d (.v (.bool (!b)))]))
    | .neg, .cs false [.d (.v (.int k n))] => some (pureOut (.cs false [.d (.v (.int k (k.wrap (0 - n))))]))
    | _, _ => none
  | .convert s t x => match ev s x, Γ.ty s, Γ.ty t with
    | .cs false [.d (.v (.string b))], some si, some ti => match si.desc, ti.desc with
      | .str, .str => some (pureOut (.cs false [.d (.v (.string b))]))
      | _, _ => none
    | .cs false [.d (.v (.int _ n))], some si, some ti => match si.desc, ti.desc with
      | .int _, .int k => some (pureOut (.cs false [.d (.v (.int k (k.wrap n)))]))
      | _, _ => none
    | _, _, _ => none
  | .makeFunc (.func f) first captured => if first.size = 0 then
      match onesOf ev captured.toList with
      | some cs => match allD ob cs with
        | some ds => some ⟨.cs false [.d (.fn f ds)], [], cs.flatMap avT⟩
        | none => match capsOf ob cs with
          | some ks => some ⟨.cs false [.clo f ks], [], cs.flatMap avT⟩
          | none => none
      | none => none
    else none
  | .slice t x lo hi mx => match (ev t x).one? with
    | some v => sliceA Γ ob ev t v lo hi mx
    | none => none
  | .fieldAddr t x i => match (ev 0 x).one?, Γ.fields t with
    | some v, some fs => match fs[i]? with
      | some (off, ft) => match Γ.size ft with
        | some k => if k = 0 then none else match v with
          | .ptr oo f => some (pureOut (.cs false [.ptr oo (f + off)]))
          | .d (.pt cells) => some (pureOut (.cs false [.d (.pt (cells.drop off))]))
          | .eptr oo k i j => some (pureOut (.cs false [.eptr oo k i (j + off)]))
          | _ => none
        | none => none
      | none => none
    | _, _ => none
  | .field t x i => match ev t x, Γ.fields t with
    | .cs true cells, some fs => match fs[i]? with
      | some (off, ft) => (partA Γ ft cells off).map pureOut
      | none => none
    | _, _ => none
  | .indexAddr t x i => match (ev t x).one?, (ev 0 i).int?, Γ.elem t with
    | some v, some n, some e => match Γ.size e with
      | some k => match v with
        | .d (.vec k' rows) => if k = k' ∧ 0 < k ∧ 0 ≤ n then match rows[n.toNat]? with
            | some r => some (pureOut (.cs false [.d (.pt r)]))
            | none => none
          else none
        | .own oo => match ob oo with
          | some (.row k' _ rows _) => if k = k' ∧ 0 ≤ n ∧ n < rows.length then some ⟨.cs false [.eptr oo k n.toNat 0], [], [oo]⟩ else none
          | _ => none
        | _ => none
      | none => none
    | _, _, _ => none
  | .index t x i => match ev t x, (ev 0 i).int?, Γ.ty t with
    | .cs false [.d (.v (.string s))], some n, some ti => match ti.desc with
      | .str => if 0 ≤ n then (s[n.toNat]?).map fun b => pureOut (.cs false [.d (.v (.int .u8 b.toNat))]) else none
      | _ => none
    | _, _, _ => none
  | .extract t i => match ev 0 t with
    | .tup ts => match ts[i]? with
      | some (g, xs) => some (pureOut (.cs g xs))
      | none => none
    | _ => none
  | .call c => match c.callee with
    | .builtin .len => match c.args.toList, c.argTypes.toList with
      | [x], [t] => match (ev t x).one?, Γ.ty t with
        | some v, some ti => match ti.desc with
          | .str => match v with
            | .d (.v (.string s)) => some (pureOut (.cs false [.d (.v (.int .i64 s.size))]))
            | _ => none
          | .slice _ => (rowsOf ob v).map fun r => ⟨.cs false [.d (.v (.int .i64 r.2.1.length))], [], r.2.2⟩
          | _ => none
        | _, _ => none
      | _, _ => none
    | .builtin .append => match c.args.toList, c.argTypes.toList with
      | [s, x], [t, t2] => match (ev t s).one?, (ev t2 x).one? with
        | some (.win oo k lo n), some vx => appendW Γ ob t t2 oo k lo n vx
        | some vs, some vx => appendV Γ N ob t t2 vs vx
        | _, _ => none
      | _, _ => none
    | .builtin .clear => match c.args.toList, c.argTypes.toList with
      | [s], [t] => match (ev t s).one? with
        | some (.win oo k lo n) => clearW Γ ob t oo k lo n
        | _ => none
      | _, _ => none
    | .builtin .max => match c.args.toList.map (ev o.type) with
      | .cs false [.d (.v (.int k a))] :: r => (foldInts (fun x y => if x < y then y else x) k a r).map fun n => pureOut (.cs false [.d (.v (.int k n))])
      | _ => none
    | .builtin .min => match c.args.toList.map (ev o.type) with
      | .cs false [.d (.v (.int k a))] :: r => (foldInts (fun x y => if y < x then y else x) k a r).map fun n => pureOut (.cs false [.d (.v (.int k n))])
      | _ => none
    | _ => none
  | _ => none

/-! ### Headers of rows with all their room; functions without a body -/

def isWx : AV → Bool
  | .wx .. => true
  | _ => false

def wxT : AT → Bool
  | .cs false [.wx ..] => true
  | _ => false

def vslT : AT → Bool
  | .cs false [.vsl ..] => true
  | _ => false

def isOther : TDesc → Bool
  | .other => true
  | _ => false

/-- What an index goes into that is no slice of data: a slice of function values; an array behind a pointer. -/
def idxT : AT → Bool
  | .cs false [.vsl ..] => true
  | .cs false [.ptr ..] => true
  | _ => false

def sliT : AT → Bool
  | .cs false [.wx ..] => true
  | .cs false [.ptr ..] => true
  | _ => false

def arrOf (Γ : Ctx) (t : TypeId) : Option (Nat × TypeId) := match Γ.ty t with
  | some ti => match ti.desc with
    | .arr n e => some (n, e)
    | _ => none
  | none => none

/-- A type of slices of function values. -/
def fnsT (Γ : Ctx) (t : TypeId) : Bool := match Γ.elem t with
  | some e => match Γ.ty e with
    | some ti => isOther ti.desc
    | none => false
  | none => false

def fillV (ev : TypeId → Operand → AT) (e : TypeId) : List AV → List (Nat × Operand) → Option (List AV)
  | cells, [] => some cells
  | cells, (i, x) :: rest => match (ev e x).cells? with
    | some ys => match ys with
      | [y] => if i < cells.length then fillV ev e (cells.set i y) rest else none
      | _ => none
    | none => none

def buildV (Γ : Ctx) (N : Nat) (ev : TypeId → Operand → AT) (t : TypeId) (len : Nat) (parts : List (Nat × Operand)) : Option AOut := match Γ.elem t with
  | some e => match Γ.ty e with
    | some ti => match ti.zero with
      | [z] => if ti.size = 1 ∧ 0 < len ∧ len ≤ 16777216 then (fillV ev e (List.replicate len z) parts).map fun cells => ⟨.cs false [.vsl N len], [(N, some (.var cells true))], []⟩ else none
      | _ => none
    | none => none
  | none => none

/-- An array literal, its elements of one cell each. -/
def buildP (Γ : Ctx) (ev : TypeId → Operand → AT) (t : TypeId) (parts : List (Nat × Operand)) : Option AOut := match arrOf Γ t, Γ.ty t with
  | some (_, e), some ti => match Γ.size e with
    | some k => if k = 1 then (fillV ev e ti.zero parts).map fun cells => ⟨.cs true cells, [], []⟩ else none
    | none => none
  | _, _ => none

def idxV (Γ : Ctx) (t : TypeId) (oo n : Nat) (i : Int) : Option AOut := match Γ.elem t with
  | some e => match Γ.size e with
    | some k => if k = 1 ∧ 0 ≤ i ∧ i < n then some ⟨.cs false [.ptr oo i.toNat], [], [oo]⟩ else none
    | none => none
  | none => none

/-- An element of an array in a variable. -/
def idxP (Γ : Ctx) (t : TypeId) (oo off : Nat) (i : Int) : Option AOut := match arrOf Γ t with
  | some (n, e) => match Γ.size e with
    | some k => if 0 ≤ i ∧ i < n then some ⟨.cs false [.ptr oo (off + i.toNat * k)], [], []⟩ else none
    | none => none
  | none => none

/-- Cells that are data alone. -/
def dOnly : List AV → Option (List D)
  | [] => some []
  | .d x :: r => (dOnly r).map (x :: ·)
  | _ => none

/-- Rows of one cell. -/
def headsD : List (List D) → Option (List D)
  | [] => some []
  | [d] :: r => (headsD r).map (d :: ·)
  | _ => none

/-- A slice of an array in a variable: it is written no more. -/
def arrS (Γ : Ctx) (ob : Nat → Option AObj) (ev : TypeId → Operand → AT) (t : TypeId) (oo off : Nat) (lo hi : Option Operand) : Option AOut := match arrOf Γ t with
  | some (n, e) => match Γ.size e, ob oo, optInt ev 0 lo, optInt ev n hi with
    | some k, some (.var cells _), some l, some h => match dOnly cells with
      | some ds => if k = 1 ∧ off = 0 ∧ ds.length = n ∧ 0 ≤ l ∧ l ≤ h ∧ h ≤ n ∧ l < n ∧ n ≤ 9223372036854775807 then
          some ⟨.cs false [.d (.vec 1 (((ds.map fun d => [d]).take h.toNat).drop l.toNat))], [(oo, some (.var cells false))], [oo]⟩ else none
      | none => none
    | _, _, _, _ => none
  | none => none

/-- The array that a slice begins with. -/
def ptA (Γ : Ctx) (t : TypeId) (rows : List (List D)) : Option AOut := match arrOf Γ t with
  | some (n, _) => match headsD rows with
    | some ds => if 0 < n ∧ n ≤ ds.length then some ⟨.cs false [.d (.pt (ds.take n))], [], []⟩ else none
    | none => none
  | none => none

def itOf : Option AObj → Option (ByteArray × Nat)
  | some (.it s pos) => some (s, pos)
  | _ => none

def rangeA (Γ : Ctx) (N : Nat) (t : TypeId) : AT → Option AOut
  | .cs false [.d (.v (.string s))] => match Γ.ty t with
    | some ti => match ti.desc with
      | .str => some ⟨.cs false [.ptr N 0], [(N, some (.it s 0))], []⟩
      | _ => none
    | none => none
  | _ => none

def nextIt (oo : Nat) (s : ByteArray) (pos : Nat) : AOut := if pos < s.size then
    ⟨.tup [(false, [.d (.v (.bool true))]), (false, [.d (.v (.int .i64 pos))]), (false, [.d (.v (.int .i32 (Utf8.decode s pos).1))])], [(oo, some (.it s (pos + (Utf8.decode s pos).2)))], [oo]⟩
  else ⟨.tup [(false, [.d (.v (.bool false))])], [], [oo]⟩

def nextA (ob : Nat → Option AObj) (str : Bool) : AT → Option AOut
  | .cs false [.ptr oo off] => match itOf (ob oo) with
    | some (s, pos) => if off = 0 ∧ str = true then some (nextIt oo s pos) else none
    | none => none
  | _ => none

/-- Is it an operation that is told here? -/
def isX (Γ : Ctx) (ev : TypeId → Operand → AT) (o : Oper) : Bool := match o.op with
  | .slice t x _ _ _ => sliT (ev t x)
  | .sliceToArrayPointer .. => true
  | .build t _ => (arrOf Γ t).isSome
  | .range .. => true
  | .next .. => true
  | .buildSlice t _ _ => fnsT Γ t
  | .indexAddr t x _ => idxT (ev t x)
  | .call c => match c.callee with
    | .builtin .cap => true
    | .builtin .len => match c.args.toList, c.argTypes.toList with
      | [x], [t] => vslT (ev t x)
      | _, _ => false
    | .builtin .copy => true
    | .builtin .append => match c.args.toList, c.argTypes.toList with
      | s :: _, t :: _ => wxT (ev t s)
      | _, _ => false
    | .value (.func f) => (Γ.ext f).isSome
    | _ => false
  | _ => false

/-- A function without a body, of scalars. -/
def extS : Ext → List AV → Option AT
  | .cmpString, [.d (.v (.string a)), .d (.v (.string b))] => some (.cs false [.d (.v (.int .i64 (Lib.compareBytes a.data.toList b.data.toList)))])
  | .countString, [.d (.v (.string s)), .d (.v (.int .u8 c))] => some (.cs false [.d (.v (.int .i64 (Lib.countByte s.data.toList c.toNat.toUInt8 : Nat)))])
  | .indexByteString, [.d (.v (.string s)), .d (.v (.int .u8 c))] => some (.cs false [.d (.v (.int .i64 (Lib.indexByte s.data.toList c.toNat.toUInt8)))])
  | .add64, [.d (.v (.int .u64 a)), .d (.v (.int .u64 b)), .d (.v (.int .u64 c))] => if 0 ≤ a ∧ 0 ≤ b ∧ 0 ≤ c ∧ c ≤ 1 then
      some (.tup [(false, [.d (.v (.int .u64 ((a + b + c) % 18446744073709551616)))]), (false, [.d (.v (.int .u64 ((a + b + c) / 18446744073709551616)))])]) else none
  | _, _ => none

/-- Two own rows do not overlap. -/
def overA (Γ : Ctx) (ob : Nat → Option AObj) (t : TypeId) (o1 o2 lo n : Nat) : Option AOut := match Γ.elem t with
  | some e => match Γ.size e, ob o1, ob o2 with
    | some _, some (.row ..), some (.row _ _ rows _) => if o1 ≠ o2 ∧ lo + n ≤ rows.length then some ⟨.cs false [.d (.v (.bool false))], [], [o1, o2]⟩ else none
    | _, _, _ => none
  | none => none

def extA (Γ : Ctx) (ob : Nat → Option AObj) (e : Ext) (xs : List AV) : Option AOut := match e, xs with
  | .overlaps t _, [.own o1, .wx o2 _ lo n] => overA Γ ob t o1 o2 lo n
  | e, xs => (extS e xs).map pureOut

def sliceX (Γ : Ctx) (ob : Nat → Option AObj) (ev : TypeId → Operand → AT) (t : TypeId) (oo k lo0 n0 : Nat) (lo hi : Option Operand) : Option AOut := match Γ.elem t with
  | some e => match ob oo, Γ.size e, optInt ev 0 lo, optInt ev n0 hi with
    | some (.row _ _ rows _), some sz, some l, some h => if k = sz ∧ 0 ≤ l ∧ l ≤ h ∧ lo0 + h ≤ rows.length ∧ lo0 + n0 ≤ rows.length then some ⟨.cs false [.wx oo k (lo0 + l.toNat) (h.toNat - l.toNat)], [], [oo]⟩ else none
    | _, _, _, _ => none
  | none => none

def isInt : TDesc → Bool
  | .int _ => true
  | _ => false

/-- What is appended: rows; so many zero rows. -/
def newRows (Γ : Ctx) (ob : Nat → Option AObj) (ev : TypeId → Operand → AT) (t t2 : TypeId) (e : TI) (x : Operand) : Option (Nat × List (List D) × List Nat) :=
  if t = t2 then match (ev t2 x).one? with
    | some v => rowsOf ob v
    | none => none
  else match Γ.ty t2 with
    | some ti2 => match isInt ti2.desc, ev t2 x, allD (fun _ => none) e.zero with
      | true, .cs false [.d (.v (.int .i64 m))], some z => if 0 ≤ m ∧ m ≤ 9223372036854775807 ∧ z.length = e.size then some (e.size, List.replicate m.toNat z, []) else none
      | _, _, _ => none
    | none => none

def appendX (Γ : Ctx) (N : Nat) (ob : Nat → Option AObj) (ev : TypeId → Operand → AT) (t t2 : TypeId) (x : Operand) (oo k lo n : Nat) : Option AOut := match Γ.elem t with
  | some e => match Γ.ty e with
    | some ti => match newRows Γ ob ev t t2 ti x, ob oo with
      | some (k2, rows2, tx), some (.row k3 ety rows true) => if k = k2 ∧ k = k3 ∧ k = ti.size ∧ ti.zero.length = ti.size ∧ 0 < k ∧ ety = e ∧ lo + n ≤ rows.length ∧ n + rows2.length ≤ 9223372036854775807 ∧ (n + rows2.length) * ti.bytes ≤ 140737488355328 then
          (if lo + n + rows2.length ≤ rows.length then (if t = t2 then some ⟨.cs false [.wx oo k lo (n + rows2.length)], [(oo, some (.row k ety (splice rows (lo + n) rows2) true))], oo :: tx⟩ else none)
          else some ⟨.cs false [.own N], [(N, some (.row k e ((rows.drop lo).take n ++ rows2) true))], oo :: tx⟩)
        else none
      | _, _ => none
    | none => none
  | none => none

/-- Where a header's rows lie. -/
def dstOf (ob : Nat → Option AObj) : AV → Option (Nat × Nat × Nat × Nat)
  | .own o => match ob o with
    | some (.row k _ rows _) => some (o, k, 0, rows.length)
    | _ => none
  | .win o k lo n => some (o, k, lo, n)
  | .wx o k lo n => some (o, k, lo, n)
  | _ => none

def copyX (Γ : Ctx) (ob : Nat → Option AObj) (t t2 : TypeId) (x y : AV) : Option AOut := match Γ.elem t with
  | some e => match Γ.size e, dstOf ob x, rowsOf ob y with
    | some sz, some (oo, k, lo, n), some (k2, rows2, tx) => match ob oo with
      | some (.row k3 ety rows true) => if k = k2 ∧ k = k3 ∧ k = sz ∧ t = t2 ∧ lo + n ≤ rows.length then
          some ⟨.cs false [.d (.v (.int .i64 (min rows2.length n : Nat)))], [(oo, some (.row k ety (splice rows lo (rows2.take (min rows2.length n))) true))], oo :: tx⟩
        else none
      | _ => none
    | _, _, _ => none
  | none => none

def capX (ob : Nat → Option AObj) : AV → Option AOut
  | .wx o _ lo _ => match ob o with
    | some (.row _ _ rows _) => some ⟨.cs false [.d (.v (.int .i64 (rows.length - lo : Nat)))], [], [o]⟩
    | _ => none
  | _ => none

def aopX (Γ : Ctx) (N : Nat) (ev : TypeId → Operand → AT) (ob : Nat → Option AObj) (o : Oper) : Option AOut := match o.op with
  | .slice t x lo hi none => match ev t x with
    | .cs false [.wx oo k lo0 n0] => sliceX Γ ob ev t oo k lo0 n0 lo hi
    | .cs false [.ptr oo off] => arrS Γ ob ev t oo off lo hi
    | _ => none
  | .build t parts => buildP Γ ev t parts.toList
  | .sliceToArrayPointer t x => match ev 0 x with
    | .cs false [.d (.vec 1 rows)] => ptA Γ t rows
    | _ => none
  | .range t x => rangeA Γ N t (ev t x)
  | .next x str => nextA ob str (ev 0 x)
  | .buildSlice t len parts => buildV Γ N ev t len parts.toList
  | .indexAddr t x i => match ev t x, (ev 0 i).int? with
    | .cs false [.vsl oo n], some m => idxV Γ t oo n m
    | .cs false [.ptr oo off], some m => idxP Γ t oo off m
    | _, _ => none
  | .call c => match c.callee with
    | .builtin .len => match c.args.toList, c.argTypes.toList with
      | [x], [t] => match ev t x, Γ.elem t with
        | .cs false [.vsl oo n], some _ => some ⟨.cs false [.d (.v (.int .i64 n))], [], [oo]⟩
        | _, _ => none
      | _, _ => none
    | .builtin .cap => match c.args.toList, c.argTypes.toList with
      | [x], [t] => match ev t x, Γ.elem t with
        | .cs false [v], some _ => capX ob v
        | _, _ => none
      | _, _ => none
    | .builtin .copy => match c.args.toList, c.argTypes.toList with
      | [x, y], [t, t2] => match ev t x, ev t2 y with
        | .cs false [v], .cs false [u] => copyX Γ ob t t2 v u
        | _, _ => none
      | _, _ => none
    | .builtin .append => match c.args.toList, c.argTypes.toList with
      | [s, x], [t, t2] => match ev t s with
        | .cs false [.wx oo k lo n] => appendX Γ N ob ev t t2 x oo k lo n
        | _ => none
      | _, _ => none
    | .value (.func f) => match Γ.ext f, onesOf ev c.args.toList with
      | some e, some xs => extA Γ ob e xs
      | _, _ => none
    | _ => none
  | _ => none

def aop (Γ : Ctx) (N : Nat) (ev : TypeId → Operand → AT) (ob : Nat → Option AObj) (o : Oper) : Option AOut :=
  if isX Γ ev o then aopX Γ N ev ob o else aop0 Γ N ev ob o

def opTemps (x : Operand) : List Nat := match x with
  | .tmp t => [t]
  | _ => []

/-- What a step looks at (temporaries, objects), and what it does. -/
structure Acc where
  rt : List Nat
  ro : List Nat
  dst : Option Tmp
  out : AT
  upd : List (Nat × Option AObj)

def guardT (ops : Array Oper) (o : Oper) : List Nat := match o.guard with
  | none => []
  | some (j, _) => match (ops[j]?).bind (·.dst) with
    | none => []
    | some t => [t]

def guardA (ops : Array Oper) (env : Nat → AT) (o : Oper) : Option Bool := match o.guard with
  | none => some true
  | some (j, want) => match (ops[j]?).bind (·.dst) with
    | none => some false
    | some t => match env t with
      | .cs false [.d (.v (.bool b))] => some (b == want)
      | .undef => some false
      | _ => none

def dstOk (nt : Nat) : Option Tmp → Bool
  | none => true
  | some d => decide (d < nt)

def putE (env : List (Nat × AT)) (dst : Option Tmp) (t : AT) : List (Nat × AT) := match dst with
  | none => env
  | some d => (d, t) :: env

def St.apply (st : St) (x : Acc) : St := { st with env := putE st.env x.dst x.out, objs := x.upd ++ st.objs }

def capA : CapV → Bool × List AV
  | .d x => (false, [.d x])
  | .ptr o off => (false, [.ptr o off])

/-- The function that a call goes to, and all that it is handed. -/
def callArgs (ev : TypeId → Operand → AT) (o : Oper) : Option (FuncId × List (Bool × List AV)) := match o.op with
  | .call c => match c.callee with
    | .value fx => match (ev 0 fx).one?, argsOf ev c.args.toList c.argTypes.toList with
      | some (.d (.fn f caps)), some args => some (f, args ++ caps.map fun d => (false, [.d d]))
      | some (.clo f caps), some args => some (f, args ++ caps.map capA)
      | some (.d (.bd f fs)), some args => some (f, fs.map (fun d => (false, [.d d])) ++ args)
      | some (.d (.ba f cs)), some args => some (f, (true, cs.map AV.d) :: args)
      | _, _ => none
    | _ => none
  | _ => none

end Go.Eng
namespace Go.Eng

/-- How a stretch of code was entered: the world, the blocks that are still, the blocks that it may turn, where objects lie that keep their place; what was deferred before. -/
structure Base where
  W : World
  S : Nat → Prop
  B : Nat → Prop
  R : Where
  T : List Deferred

/-- The mark that a range over a function leaves among the deferred calls. -/
def markOf (D : Nat) : Deferred := { target := .collected D, args := #[] }

/-- The deferred calls are marks, each of a block that holds no call, ahead of what was deferred before. -/
def Marks (c : Base) (S : Nat → Prop) (a : Act) (w : World) : Prop :=
  ∃ Ds : List Nat, a.defers = Ds.map markOf ++ c.T ∧ Ds.Nodup ∧ ∀ D ∈ Ds, S D ∧ c.W.heap.size ≤ D ∧ w.heap[D]? = some (.deferred (some []))

structure Rel (c : Base) (nt : Nat) (env : Nat → AT) (ob : Nat → Option AObj) (ρ : Where) (S : Nat → Prop) (a : Act) (w : World) : Prop where
  defers : Marks c S a w
  size : a.tmps.size = nt
  env : ∀ t, RepT ρ w S (env t) (a.tmps.getD t Go.undef)
  obj : ∀ o x, ob o = some x → ∃ h, ρ o = some h ∧ ObjRep ρ w S h x
  sep : ∀ o o' x x' h h' b, ob o = some x → ob o' = some x' → ρ o = some h → ρ o' = some h' → blkOf h = some b → blkOf h' = some b → o = o'
  place : ∀ o x h b, ob o = some x → ρ o = some h → blkOf h = some b → (c.W.heap.size ≤ b ∨ c.B b) ∨ S b
  os : w.os = c.W.os
  tape : w.tape = c.W.tape
  output : w.output = c.W.output
  hsize : c.W.heap.size ≤ w.heap.size
  same : ∀ b, b < c.W.heap.size → ¬ c.B b → w.heap[b]? = c.W.heap[b]?
  lim : ∀ b, S b → b < w.heap.size
  sub : ∀ b, c.S b → S b
  foot : ∀ b, S b → c.S b ∨ c.B b ∨ c.W.heap.size ≤ b
  pin : ∀ o h, c.R o = some h → ρ o = some h
  clim : ∀ b, c.S b → b < c.W.heap.size
  lay : LayOk w S

def putF (env : Nat → AT) (dst : Option Tmp) (t : AT) : Nat → AT := fun n => if dst = some n then t else env n

def updO : List (Nat × Option AObj) → (Nat → Option AObj) → Nat → Option AObj
  | [], ob, o => ob o
  | (k, x) :: r, ob, o => if o = k then x else updO r ob o

theorem getE_put (env : List (Nat × AT)) (dst : Option Tmp) (t : AT) : getE (putE env dst t) = putF (getE env) dst t := by
  funext n
  cases dst with
  | none => simp [putE, putF]
  | some d =>
    simp only [putE, putF, getE, Option.some.injEq]
    by_cases h : n = d
    · simp [h]
    · simp [h, Ne.symm h]

theorem getO_upd : ∀ (upd objs : List (Nat × Option AObj)), getO (upd ++ objs) = updO upd (getO objs)
  | [], objs => rfl
  | (k, x) :: r, objs => by
    funext o
    simp only [List.cons_append, getO, updO, getO_upd r objs]

theorem put_get (a : Act) (dst : Option Tmp) (v : Value) (t : Nat) (h : dstOk a.tmps.size dst = true) :
    (a.put dst v).tmps.getD t Go.undef = if dst = some t then v else a.tmps.getD t Go.undef := by
  cases dst with
  | none => simp [Act.put]
  | some d =>
    simp only [dstOk, decide_eq_true_eq] at h
    simp only [Act.put, Array.getD_eq_getD_getElem?, Array.getElem?_setIfInBounds, Option.some.injEq]
    by_cases hd : d = t
    · subst hd; simp [h]
    · simp [hd]

theorem put_size (a : Act) (dst : Option Tmp) (v : Value) : (a.put dst v).tmps.size = a.tmps.size := by
  cases dst <;> simp [Act.put]

theorem put_defers (a : Act) (dst : Option Tmp) (v : Value) : (a.put dst v).defers = a.defers := by
  cases dst <;> simp [Act.put]

section
variable {c : Base} {nt : Nat} {env : Nat → AT} {ob : Nat → Option AObj} {ρ : Where} {S : Nat → Prop} {a : Act} {w : World}

/-- One step, whatever it does: what was known stays known, what is new is told. -/
theorem Rel.step (hr : Rel c nt env ob ρ S a w) {ρ' : Where} {S' : Nat → Prop} {w' : World} {ob' : Nat → Option AObj} {dst : Option Tmp} {v : Value} {out : AT}
    (hd : dstOk nt dst = true) (hg : Grows ρ ρ' w w' S S') (hv : RepT ρ' w' S' out v)
    (hobj : ∀ o x, ob' o = some x →
      (ob o = some x ∧ ∀ h b, ρ o = some h → blkOf h = some b → w'.heap[b]? = w.heap[b]? ∧ (S' b → S b)) ∨
      (∃ h, ρ' o = some h ∧ ObjRep ρ' w' S' h x ∧ ∀ b, blkOf h = some b → ((c.W.heap.size ≤ b ∨ c.B b) ∨ S' b) ∧
        ∀ o2 x2 h2, ob' o2 = some x2 → ρ' o2 = some h2 → blkOf h2 = some b → o2 = o))
    (hos : w'.os = w.os) (htape : w'.tape = w.tape) (hout : w'.output = w.output) (hsz : w.heap.size ≤ w'.heap.size)
    (hsame : ∀ b, b < c.W.heap.size → ¬ c.B b → w'.heap[b]? = w.heap[b]?)
    (hlim : ∀ b, S' b → b < w'.heap.size) (hfoot : ∀ b, S' b → c.S b ∨ c.B b ∨ c.W.heap.size ≤ b) :
    Rel c nt (putF env dst out) ob' ρ' S' (a.put dst v) w' where
  defers := by
    obtain ⟨Ds, h1, h2, h3⟩ := hr.defers
    exact ⟨Ds, by rw [put_defers]; exact h1, h2, fun D hD => ⟨hg.sub _ (h3 D hD).1, (h3 D hD).2.1, (hg.keeps _ (h3 D hD).1).trans (h3 D hD).2.2⟩⟩
  size := by rw [put_size]; exact hr.size
  env t := by
    rw [put_get a dst v t (by rw [hr.size]; exact hd)]
    unfold putF
    split
    · exact hv
    · exact (hr.env t).grows hg
  obj o x hx := by
    rcases hobj o x hx with ⟨h1, h2⟩ | ⟨h, h1, h2, _⟩
    · obtain ⟨h, e1, e2⟩ := hr.obj o x h1
      exact ⟨h, hg.rho _ _ e1, e2.grows hg fun b hb => h2 h b e1 hb⟩
    · exact ⟨h, h1, h2⟩
  sep o o' x x' h h' b hx hx' hh hh' hb hb' := by
    rcases hobj o x hx with ⟨h1, _⟩ | ⟨k, k1, _, k3⟩
    · rcases hobj o' x' hx' with ⟨h1', _⟩ | ⟨k', k1', _, k3'⟩
      · obtain ⟨y, y1, _⟩ := hr.obj o x h1
        obtain ⟨y', y1', _⟩ := hr.obj o' x' h1'
        have e := hg.rho _ _ y1; rw [hh] at e; cases e
        have e' := hg.rho _ _ y1'; rw [hh'] at e'; cases e'
        exact hr.sep o o' x x' _ _ b h1 h1' y1 y1' hb hb'
      · rw [hh'] at k1'; cases k1'
        exact (k3' b hb').2 o x h hx hh hb
    · rw [hh] at k1; cases k1
      exact ((k3 b hb).2 o' x' h' hx' hh' hb').symm
  place o x h b hx hh hb := by
    rcases hobj o x hx with ⟨h1, _⟩ | ⟨k, k1, _, k3⟩
    · obtain ⟨y, y1, _⟩ := hr.obj o x h1
      have e := hg.rho _ _ y1; rw [hh] at e; cases e
      exact (hr.place o x h b h1 y1 hb).imp_right (hg.sub b)
    · rw [hh] at k1; cases k1
      exact (k3 b hb).1
  os := hos.trans hr.os
  tape := htape.trans hr.tape
  output := hout.trans hr.output
  hsize := Nat.le_trans hr.hsize hsz
  same b hb hn := (hsame b hb hn).trans (hr.same b hb hn)
  lim := hlim
  sub b hb := hg.sub b (hr.sub b hb)
  foot := hfoot
  pin o h hp := hg.rho _ _ (hr.pin o h hp)
  clim := hr.clim
  lay := hr.lay.mono hg.sub hg.keeps

/-- A step that yields a value and touches nothing. -/
theorem Rel.value (hr : Rel c nt env ob ρ S a w) {dst : Option Tmp} {v : Value} {out : AT} (hd : dstOk nt dst = true) (hv : RepT ρ w S out v) :
    Rel c nt (putF env dst out) ob ρ S (a.put dst v) w :=
  hr.step hd (Grows.refl _ _ _) hv (fun _ _ hx => .inl ⟨hx, fun _ _ _ _ => ⟨rfl, id⟩⟩) rfl rfl rfl (Nat.le_refl _) (fun _ _ _ => rfl) hr.lim hr.foot

theorem blk_lt (hr : Rel c nt env ob ρ S a w) {o : Nat} {x : AObj} {h : Value} {b : Nat} (hx : ob o = some x) (hh : ρ o = some h) (hb : blkOf h = some b) : b < w.heap.size := by
  obtain ⟨h', h1, h2⟩ := hr.obj o x hx
  rw [hh] at h1; cases h1
  have key : ∀ y, w.heap[b]? = some y → b < w.heap.size := fun y hy => (Array.getElem?_eq_some_iff.1 hy).1
  cases x with
  | var cells live =>
    obtain ⟨g, cur, ety, rfl, h3, _⟩ := h2
    simp [blkOf] at hb; subst hb
    exact key _ h3
  | row k ety rows live =>
    rcases h2.2 with ⟨_, A, rfl⟩ | ⟨g, cc, _, rfl, ⟨_, _, _, cur, h3, _⟩, _⟩
    · cases A <;> simp [blkOf] at hb
    · simp only [blkOf] at hb
      split at hb
      · cases hb
      · cases hb; exact key _ h3
  | lp L =>
    obtain ⟨g, rfl, ⟨_, _, _, h3, _⟩, _⟩ := h2
    simp [blkOf] at hb; subst hb
    exact key _ h3
  | it s pos =>
    obtain ⟨g, rfl, h3, _⟩ := h2
    simp [blkOf] at hb; subst hb
    exact key _ h3
  | ms kd ks =>
    obtain ⟨g, rfl, ⟨_, _, h3, _⟩, _⟩ := h2
    simp [blkOf] at hb; subst hb
    exact key _ h3

/-- A new block, one new object that lies in it. -/
theorem Rel.newAt (hr : Rel c nt env ob ρ S a w) {N : Nat} {x : AObj} {h v : Value} {out : AT} {dst : Option Tmp} {o : Obj} (hd : dstOk nt dst = true) (hN : ρ N = none)
    (hb : blkOf h = some w.heap.size ∨ blkOf h = none)
    (hx : ∀ ρ' : Where, ρ' N = some h → Grows ρ ρ' w (w.alloc o) S S → ObjRep ρ' (w.alloc o) S h x)
    (hv : ∀ ρ' : Where, ρ' N = some h → RepT ρ' (w.alloc o) S out v) :
    ∃ ρ', (∀ n, n ≠ N → ρ' n = ρ n) ∧ ρ' N = some h ∧ Rel c nt (putF env dst out) (updO [(N, some x)] ob) ρ' S (a.put dst v) (w.alloc o) := by
  have hne : ∀ n y, ob n = some y → n ≠ N := by
    rintro n y hy rfl
    obtain ⟨h', h1, _⟩ := hr.obj n y hy
    rw [hN] at h1; cases h1
  let ρ' : Where := fun n => if n = N then some h else ρ n
  have e1 : ρ' N = some h := by simp [ρ']
  have e2 : ∀ n, n ≠ N → ρ' n = ρ n := fun n hn => by simp [ρ', hn]
  have hk : Keeps S w (w.alloc o) := fun b hb => RowKit.Below.heap_alloc w o b (hr.lim b hb)
  have hg : Grows ρ ρ' w (w.alloc o) S S := ⟨fun n y hy => by
    rw [e2 n (fun e => by subst e; rw [hN] at hy; cases hy)]; exact hy, fun _ h => h, hk⟩
  refine ⟨ρ', e2, e1, hr.step hd hg (hv ρ' e1) (fun n y hy => ?_) rfl rfl rfl (by simp) (fun b hb _ => RowKit.Below.heap_alloc w o b (by have := hr.hsize; omega))
    (fun b hb => by have := hr.lim b hb; simp; omega) hr.foot⟩
  simp only [updO] at hy
  split at hy
  · rename_i hn
    subst hn
    cases hy
    refine .inr ⟨h, e1, hx ρ' e1 hg, fun b hbb => ?_⟩
    rcases hb with hb | hb <;> rw [hbb] at hb <;> cases hb
    refine ⟨.inl (.inl (by have := hr.hsize; omega)), fun o2 x2 h2 hx2 hh2 hb2 => ?_⟩
    simp only [updO] at hx2
    split at hx2
    · assumption
    · rename_i hne2
      rw [e2 o2 hne2] at hh2
      exact absurd (blk_lt hr hx2 hh2 hb2) (by omega)
  · refine .inl ⟨hy, fun h' b hh hb' => ⟨RowKit.Below.heap_alloc w o b (blk_lt hr hy hh hb'), id⟩⟩

theorem Rel.new (hr : Rel c nt env ob ρ S a w) {N : Nat} {x : AObj} {h v : Value} {out : AT} {dst : Option Tmp} {o : Obj} (hd : dstOk nt dst = true) (hN : ρ N = none)
    (hb : blkOf h = some w.heap.size ∨ blkOf h = none)
    (hx : ∀ ρ' : Where, ρ' N = some h → Grows ρ ρ' w (w.alloc o) S S → ObjRep ρ' (w.alloc o) S h x)
    (hv : ∀ ρ' : Where, ρ' N = some h → RepT ρ' (w.alloc o) S out v) :
    ∃ ρ', (∀ n, n ≠ N → ρ' n = ρ n) ∧ Rel c nt (putF env dst out) (updO [(N, some x)] ob) ρ' S (a.put dst v) (w.alloc o) :=
  let ⟨ρ', h1, _, h2⟩ := hr.newAt hd hN hb hx hv; ⟨ρ', h1, h2⟩

end

end Go.Eng
namespace Go.Eng

def zeroRep : AV → Value → Prop
  | .nils _, v => v = .slice none 0 0
  | .d (.v y), v => v = y ∧ y.oneCell' = true
  | _, _ => False

def DescOk (P : Program) (t : TypeId) : TDesc → Prop
  | .int k => P.underlying t = some (.int k)
  | .bool => P.underlying t = some .bool
  | .str => P.underlying t = some .string
  | .ptr => P.underlying t = some (.pointer (P.pointee t))
  | .other => ∃ d, P.underlying t = some d ∧ (∀ fs, d ≠ .struct fs) ∧ (∀ n e, d ≠ .array n e)
  | .slice e => P.underlying t = some (.slice e)
  | .arr n e => P.underlying t = some (.array n e) ∧ P.eqGuardType P.depth t = false
  | .iface => P.underlying t = some (.interface (P.methodsAt t))
  | .map k => ∃ e i, P.underlying t = some (.map k e) ∧ P.info? e = some i ∧ i.zero = some (.bool false)
  | .struct fs => ∃ flds : Array Field, P.underlying t = some (.struct flds) ∧ fs = flds.toList.map (fun f => (f.offset, f.type)) ∧ (∀ f ∈ flds.toList, f.name ≠ "_") ∧
      P.eqGuardType P.depth t = false ∧ P.stoodInHeld t = false ∧ ∀ f ∈ flds.toList, (P.info? f.type).isSome = true

structure TyOk (P : Program) (t : TypeId) (ti : TI) : Prop where
  info : ∃ i z, P.info? t = some i ∧ i.size = ti.size ∧ i.bytes = ti.bytes ∧ i.zero = some z ∧ All2 zeroRep ti.zero z.cells.toList
  desc : DescOk P t ti.desc

inductive CVs (w : World) (S : Nat → Prop) : List CV → List Value → List Nat → Prop where
  | nil : CVs w S [] [] []
  | d {x u cs us bs} (h : Rep w S x u) (t : CVs w S cs us bs) : CVs w S (.d x :: cs) (u :: us) bs
  | ownNil {k e A cs us bs} (t : CVs w S cs us bs) : CVs w S (.own k e [] :: cs) (.slice A 0 0 :: us) bs
  | own {k e rows g c cs us bs} (hc : 0 < c) (hk : ∀ r ∈ rows, r.length = k) (h : RowBlk w S k e rows g c) (hs : ¬ S g) (t : CVs w S cs us bs) :
      CVs w S (.own k e rows :: cs) (.slice (some ⟨g, 0, none⟩) rows.length c :: us) (g :: bs)

inductive Comps (w : World) (S : Nat → Prop) : List (Bool × List CV) → List Value → List Nat → Prop where
  | nil : Comps w S [] [] []
  | one {x u bs r vs bs'} (h : CVs w S [x] [u] bs) (t : Comps w S r vs bs') : Comps w S ((false, [x]) :: r) (u :: vs) (bs ++ bs')
  | agg {cs us bs r vs bs'} (h : CVs w S cs us bs) (t : Comps w S r vs bs') : Comps w S ((true, cs) :: r) (.agg us.toArray :: vs) (bs ++ bs')

def ResRep (w : World) (S : Nat → Prop) (r : Res) (v : Value) (bs : List Nat) : Prop :=
  if r.tup then ∃ vs : List Value, v = .tuple vs.toArray ∧ Comps w S r.cs vs bs else Comps w S r.cs [v] bs

/-- What a call leaves of memory: nothing old has turned but what it was let use up. -/
structure Foot (w w' : World) (S S' : Nat → Prop) (bs bs' : List Nat) : Prop where
  os : w'.os = w.os
  tape : w'.tape = w.tape
  output : w'.output = w.output
  hsize : w.heap.size ≤ w'.heap.size
  same : ∀ b, b < w.heap.size → b ∉ bs → w'.heap[b]? = w.heap[b]?
  sub : ∀ b, S b → S' b
  lim : ∀ b, S' b → b < w'.heap.size
  foot : ∀ b, S' b → S b ∨ b ∈ bs ∨ w.heap.size ≤ b
  own : ∀ b ∈ bs', ¬ S' b ∧ (b ∈ bs ∨ w.heap.size ≤ b) ∧ b < w'.heap.size

def Enterable (P : Program) (f : FuncId) : Prop := ∀ vals w, (callFunc f vals).run P w = .ok (.enter f vals) w

/-- THE CONTRACT: given these arguments, wherever they lie, the function answers that. -/
def Meets (P : Program) (f : FuncId) (args : List (Bool × List CV)) (res : Res) : Prop :=
  Enterable P f ∧ ∀ (w : World) (S : Nat → Prop) (vals : List Value) (bs : List Nat), (∀ b, S b → b < w.heap.size) → LayOk w S → Comps w S args vals bs → bs.Nodup →
    Calls P f vals.toArray w fun e w' => ∃ v S' bs', e = .returned v ∧ ResRep w' S' res v bs' ∧ bs'.Nodup ∧ Foot w w' S S' bs bs'

def Ext.sem : Ext → Array Value → Sem Value
  | .overlaps t r => Extern.SlicesOverlaps.overlaps #[t, t] #[r]
  | .cmpString => Extern.BytealgCompare.compare
  | .countString => Extern.BytealgCount.count
  | .add64 => add64Entry
  | .indexByteString => Extern.BytealgIndexByte.indexByte

/-- The function f has no body; the model tells it so. -/
def ExtOk (P : Program) (f : FuncId) (e : Ext) : Prop :=
  ∃ fn, P.funcs[f]? = some fn ∧ (fn.name == "runtime.NumGoroutine") = false ∧ fn.body.isNone = true ∧ Extern.findNext fn = none ∧ Extern.find fn = some e.sem

structure CtxOk (P : Program) (Γ : Ctx) : Prop where
  ty : ∀ t ti, Γ.ty t = some ti → TyOk P t ti
  ext : ∀ f e, Γ.ext f = some e → ExtOk P f e

section runs
variable {P : Program} {Γ : Ctx} (hΓ : CtxOk P Γ)
include hΓ

theorem run_typeInfo' {t : TypeId} {ti : TI} (h : Γ.ty t = some ti) (w : World) : ∃ i z, (typeInfo t).run P w = .ok i w ∧ P.info? t = some i ∧ i.size = ti.size ∧ i.bytes = ti.bytes ∧ i.zero = some z ∧ All2 zeroRep ti.zero z.cells.toList := by
  obtain ⟨i, z, h1, h2⟩ := (hΓ.ty t ti h).info
  exact ⟨i, z, by simp [typeInfo, h1], h1, h2⟩

theorem run_sizeOf' {t : TypeId} {k : Nat} (h : Γ.size t = some k) (w : World) : (sizeOf t).run P w = .ok k w := by
  unfold Ctx.size at h
  cases hti : Γ.ty t with
  | none => rw [hti] at h; cases h
  | some ti =>
    rw [hti] at h; cases h
    obtain ⟨i, z, h1, _, h2, _⟩ := run_typeInfo' hΓ hti w
    simp [sizeOf, h1, h2]

theorem und_elem {t e : TypeId} (h : Γ.elem t = some e) : P.underlying t = some (.slice e) := by
  unfold Ctx.elem at h
  split at h
  · rename_i ti hti
    have hd := (hΓ.ty t ti hti).desc
    split at h
    · rename_i e' he
      rw [he] at hd
      cases h
      exact hd
    · cases h
  · cases h

theorem und_fields {t : TypeId} {fs : List (Nat × TypeId)} (h : Γ.fields t = some fs) : ∃ flds : Array Field, P.underlying t = some (.struct flds) ∧ fs = flds.toList.map (fun f => (f.offset, f.type)) ∧
    (∀ f ∈ flds.toList, f.name ≠ "_") ∧ P.eqGuardType P.depth t = false ∧ P.stoodInHeld t = false ∧ ∀ f ∈ flds.toList, (P.info? f.type).isSome = true := by
  unfold Ctx.fields at h
  split at h
  · rename_i ti hti
    have hd := (hΓ.ty t ti hti).desc
    split at h
    · rename_i e' he
      rw [he] at hd
      cases h
      exact hd
    · cases h
  · cases h

theorem und_some {t : TypeId} {ti : TI} (h : Γ.ty t = some ti) : ∃ d, P.underlying t = some d := by
  have hd := (hΓ.ty t ti h).desc
  cases hdd : ti.desc <;> rw [hdd] at hd
  · exact ⟨_, hd⟩
  · exact ⟨_, hd⟩
  · exact ⟨_, hd⟩
  · exact ⟨_, hd⟩
  · obtain ⟨d, hk, _⟩ := hd; exact ⟨_, hk⟩
  · exact ⟨_, hd⟩
  · obtain ⟨d, hk, _⟩ := hd; exact ⟨_, hk⟩
  · exact ⟨_, hd.1⟩
  · exact ⟨_, hd⟩
  · obtain ⟨e, i, h1, _⟩ := hd; exact ⟨_, h1⟩

theorem run_isAgg' {t : TypeId} {b : Bool} (h : Γ.agg t = some b) (w : World) : (isAgg t).run P w = .ok b w := by
  unfold Ctx.agg at h
  split at h
  · rename_i ti hti
    have hd := (hΓ.ty t ti hti).desc
    cases hdd : ti.desc <;> rw [hdd] at hd h <;> cases h
    · have hk : P.underlying t = some (.int _) := hd; simp [isAgg, run_underlying hk]
    · have hk : P.underlying t = some .bool := hd; simp [isAgg, run_underlying hk]
    · have hk : P.underlying t = some .string := hd; simp [isAgg, run_underlying hk]
    · have hk : P.underlying t = some (.pointer _) := hd; simp [isAgg, run_underlying hk]
    · obtain ⟨d, hk, h1, h2⟩ := hd
      simp only [isAgg, Sem.run_bind, run_underlying hk, Result.andThen_ok]
      cases d <;> first | rfl | exact absurd rfl (h1 _) | exact absurd rfl (h2 _ _)
    · have hk : P.underlying t = some (.slice _) := hd; simp [isAgg, run_underlying hk]
    · obtain ⟨d, hk, _⟩ := hd; simp [isAgg, run_underlying hk]
    · have hk : P.underlying t = some (.array _ _) := hd.1; simp [isAgg, run_underlying hk]
    · have hk : P.underlying t = some (.interface _) := hd; simp [isAgg, run_underlying hk]
    · obtain ⟨e, i, hk, _⟩ := hd; simp [isAgg, run_underlying hk]
  · cases h

end runs

section
variable {P : Program} {Γ : Ctx} {c : Base} {nt : Nat} {env : Nat → AT} {ob : Nat → Option AObj} {ρ : Where} {S : Nat → Prop} {a : Act} {w : World}

theorem eval_rep (hr : Rel c nt env ob ρ S a w) (t : TypeId) (x : Operand) : RepT ρ w S (aval Γ env t x) (a.eval x) := by
  cases x with
  | tmp n => exact hr.env n
  | const v =>
    simp only [aval, Act.eval, constT]
    split
    · split
      · split
        · exact ⟨_, rfl, none, rfl⟩
        · trivial
      · trivial
    · exact ⟨_, rfl, .v _ rfl⟩
    · exact ⟨_, rfl, .v _ rfl⟩
    · exact ⟨_, rfl, .v _ rfl⟩
    · exact ⟨_, rfl, .v _ rfl⟩
    · exact ⟨_, rfl, .v _ rfl⟩
    · exact ⟨_, rfl, .v _ rfl⟩
    · trivial
  | global g =>
    simp only [aval]
    cases h : layL layTab g with
    | none => trivial
    | some cells => exact ⟨_, rfl, hr.lay _ (layL_mem h)⟩
  | func f => exact ⟨_, rfl, .fn f [] #[] rfl (fun j d u h => by simp at h)⟩

theorem wp_value {o : Oper} {v : Value} {w' : World} {K : Act → World → Prop} {Q : Exit → Act → World → Prop} (h : (execOp a.eval o).run P w = .ok (.value v) w') (hk : K (a.put o.dst v) w') : o.wp P a w K Q := by
  unfold Oper.wp; rw [h]; exact hk
theorem wp_skip' {o : Oper} {w' : World} {K : Act → World → Prop} {Q : Exit → Act → World → Prop} (h : (execOp a.eval o).run P w = .ok .skip w') (hk : K (a.put o.dst undef) w') : o.wp P a w K Q := by
  unfold Oper.wp; rw [h]; exact hk

/-- What is shown of each operation: from related states it goes to related states; new objects bear the region's own numbers. -/
def Goes (P : Program) (c : Base) (nt N : Nat) (env : Nat → AT) (ob : Nat → Option AObj) (ρ : Where) (a : Act) (w : World) (o : Oper) (r : AOut) : Prop :=
  ∀ Q : Exit → Act → World → Prop, o.wp P a w (fun a' w' => ∃ ρ' S', Rel c nt (putF env o.dst r.out) (updO r.upd ob) ρ' S' a' w' ∧ ∀ n, n < N ∨ N + 8 ≤ n → ρ' n = ρ n) Q

theorem goes_value (hr : Rel c nt env ob ρ S a w) {N : Nat} {o : Oper} {v : Value} {out : AT} {tc : List Nat} (hd : dstOk nt o.dst = true) (h : (execOp a.eval o).run P w = .ok (.value v) w)
    (hv : RepT ρ w S out v) : Goes P c nt N env ob ρ a w o ⟨out, [], tc⟩ :=
  fun _ => wp_value h ⟨ρ, S, hr.value hd hv, fun _ _ => rfl⟩

theorem one_rep {t : AT} {x : AV} {v : Value} (h : RepT ρ w S t v) (hx : t.one? = some x) : RepAV ρ w S x v := by
  unfold AT.one? at hx
  split at hx
  · cases hx
    obtain ⟨y, h1, h2⟩ := h
    cases h1; exact h2
  · cases hx

theorem cells_rep {t : AT} {xs : List AV} {v : Value} (h : RepT ρ w S t v) (hx : t.cells? = some xs) : All2 (RepAV ρ w S) xs v.cells.toList := by
  unfold AT.cells? at hx
  split at hx
  · rename_i g ys
    cases hx
    cases g with
    | true => obtain ⟨us, rfl, h2⟩ := h; exact h2
    | false =>
      obtain ⟨y, rfl, h2⟩ := h
      rw [cells_one h2.one]
      exact .cons h2 .nil
  · cases hx

theorem bool_rep {t : AT} {b : Bool} {v : Value} (h : RepT ρ w S t v) (hx : t.bool? = some b) : v = .bool b := by
  unfold AT.bool? at hx
  split at hx
  · cases hx
    obtain ⟨y, h1, h2⟩ := h
    cases h1; cases h2; rfl
  · cases hx

theorem int_rep {t : AT} {n : Int} {v : Value} (h : RepT ρ w S t v) (hx : t.int? = some n) : ∃ k, v = .int k n := by
  unfold AT.int? at hx
  split at hx
  · cases hx
    obtain ⟨y, h1, h2⟩ := h
    cases h1; cases h2; exact ⟨_, rfl⟩
  · cases hx

theorem v_rep {t : Value} {v : Value} (h : RepT ρ w S (.cs false [.d (.v t)]) v) : v = t := by
  obtain ⟨y, h1, h2⟩ := h
  cases h1; cases h2; rfl

theorem rep_int (k : IntKind) (n : Int) : RepT ρ w S (.cs false [.d (.v (.int k n))]) (.int k n) := ⟨_, rfl, .v _ rfl⟩
theorem rep_bool (b : Bool) : RepT ρ w S (.cs false [.d (.v (.bool b))]) (.bool b) := ⟨_, rfl, .v _ rfl⟩
theorem rep_string (b : ByteArray) : RepT ρ w S (.cs false [.d (.v (.string b))]) (.string b) := ⟨_, rfl, .v _ rfl⟩

theorem zero_rep {xs : List AV} {us : List Value} (h : All2 zeroRep xs us) : All2 (RepAV ρ w S) xs us :=
  h.mono fun x u hx => by
    cases x with
    | nils k => exact ⟨none, hx⟩
    | d y =>
      cases y with
      | v z => obtain ⟨rfl, h1⟩ := hx; exact .v _ h1
      | _ => exact hx.elim
    | _ => exact hx.elim

theorem zero_spare {xs : List AV} {us : List Value} (h : All2 zeroRep xs us) : ∀ u ∈ us, ∃ d, Rep w S d u := fun u hu => by
  obtain ⟨x, _, hx⟩ := h.mem_right u hu
  cases x with
  | nils k => exact ⟨.vec k [], by rw [show u = .slice none 0 0 from hx]; exact .vec k [] none 0 (fun _ _ => Go.undef) (Nat.le_refl _) (by simp [maxLen]) (by simp) (fun i j hi _ => absurd hi (by simp)) (fun i j r d hi _ => by simp at hi)⟩
  | d y =>
    cases y with
    | v z => obtain ⟨rfl, h1⟩ := hx; exact ⟨_, .v _ h1⟩
    | _ => exact hx.elim
  | _ => exact hx.elim

theorem zeroCells_rep {z : Array Value} (h : ∀ u ∈ z.toList, ∃ d, Rep w S d u) (h0 : 0 < z.size) (n : Nat) : ∀ u ∈ (Builtin.zeroCells z n).toList, ∃ d, Rep w S d u := fun u hu => by
  simp only [Builtin.zeroCells, Array.toList_map, List.mem_map] at hu
  obtain ⟨i, _, rfl⟩ := hu
  have hm : i % z.size < z.size := Nat.mod_lt _ h0
  refine h _ ?_
  simp only [getElem!_def, Array.getElem?_eq_getElem hm]
  exact Array.getElem_mem_toList hm

/-! ### Operations that only reckon -/

variable {N : Nat} {o : Oper} {r : AOut}

theorem sound_move (hr : Rel c nt env ob ρ S a w) (hd : dstOk nt o.dst = true) {x : Operand} (ho : o.op = .move x ∨ o.op = .assign x) (h : aop0 Γ N (aval Γ env) ob o = some r) : Goes P c nt N env ob ρ a w o r := by
  have hrun : (execOp a.eval o).run P w = .ok (.value (a.eval x)) w := by
    rcases ho with ho | ho <;> simp [execOp, ho]
  have hout : r = pureOut (aval Γ env o.type x) := by
    rcases ho with ho | ho <;> (simp only [aop0, ho] at h; cases h; rfl)
  subst hout
  exact goes_value hr hd hrun (eval_rep hr o.type x)

theorem sound_pick (hr : Rel c nt env ob ρ S a w) (hd : dstOk nt o.dst = true) {x y z : Operand} (ho : o.op = .pick x y z) (h : aop0 Γ N (aval Γ env) ob o = some r) : Goes P c nt N env ob ρ a w o r := by
  simp only [aop0, ho, Option.map_eq_some_iff] at h
  obtain ⟨q, hq, rfl⟩ := h
  have hc := bool_rep (eval_rep hr 0 x) hq
  refine goes_value hr hd (v := if q then a.eval y else a.eval z) ?_ ?_
  · simp only [execOp, ho, hc, asBool]
    cases q <;> simp
  · cases q
    · exact eval_rep hr o.type z
    · exact eval_rep hr o.type y

theorem sound_unOp (hr : Rel c nt env ob ρ S a w) (hd : dstOk nt o.dst = true) {op : UnOp} {t : TypeId} {x : Operand} (ho : o.op = .unOp op t x) (h : aop0 Γ N (aval Γ env) ob o = some r) : Goes P c nt N env ob ρ a w o r := by
  simp only [aop0, ho] at h
  have hx := eval_rep (Γ := Γ) hr t x
  split at h
  · rename_i e
    cases h
    rw [e] at hx
    have := v_rep hx
    exact goes_value hr hd (v := .bool _) (by simp [execOp, ho, this, Op.unary]) (rep_bool _)
  · rename_i e
    cases h
    rw [e] at hx
    have := v_rep hx
    exact goes_value hr hd (v := .int _ _) (by simp [execOp, ho, this, Op.unary, Op.intArith]) (rep_int _ _)
  · cases h

theorem scal2_run {op : BinOp} {t : TypeId} {u v z : Value} {x y : Operand} (h : scal2 op u v = some z) :
    z.oneCell' = true ∧ (do eqGuard op t x y u v; binOp op t u v : Sem Value).run P w = .ok z w := by
  unfold scal2 at h
  split at h
  · split at h
    · rename_i hk
      subst hk
      split at h <;> first
        | (cases h; refine ⟨rfl, ?_⟩; simp [binOp, Op.intArith, Op.intCmp, Op.intBits, bAnd, bOr, bXor, bAndNot, eqGuard_at_int]; done)
        | (split at h
           · cases h
           · rename_i hb
             cases h
             refine ⟨rfl, ?_⟩
             simp [binOp, Op.intDiv, Op.shift, eqGuard_at_int, hb])
        | cases h
    · split at h
      · split at h
        · cases h
        · rename_i hb
          cases h
          refine ⟨rfl, ?_⟩
          simp [binOp, Op.shift, eqGuard_at_int, hb]
      · split at h
        · cases h
        · rename_i hb
          cases h
          refine ⟨rfl, ?_⟩
          simp [binOp, Op.shift, eqGuard_at_int, hb]
      · cases h
  · split at h <;> first
      | (cases h; refine ⟨rfl, ?_⟩; simp [binOp, Op.stringOp, eqGuard_at_string]; done)
      | (split at h
         · rename_i hb
           cases h
           refine ⟨rfl, ?_⟩
           simp [binOp, Op.stringOp, eqGuard_at_string]
           omega
         · cases h)
      | cases h
  · cases h

end
end Go.Eng
