/- Data, cells and what it means that they read so in a world: the ground of the abstract machine. -/
import Derived.WalkKit
namespace Go.Eng

/-- Pure data, one cell each: a scalar; a list of rows of k cells (a slice); read-only cells behind a pointer; a function value with what it captured. -/
inductive D where
  | v (x : Value)
  | vec (k : Nat) (rows : List (List D))
  | pt (cells : List D)
  | fn (f : FuncId) (caps : List D)

instance : Inhabited D := ⟨.v undef⟩

/-- The datum d reads in the world w, out of the blocks of S alone, as the value. -/
inductive Rep (w : World) (S : Nat → Prop) : D → Value → Prop where
  | v (x : Value) (h1 : x.oneCell' = true) : Rep w S (.v x) x
  | vec (k : Nat) (rows : List (List D)) (A : Option Addr) (c : Nat) (u : Nat → Nat → Value)
      (hc : rows.length ≤ c) (hm : c ≤ maxLen) (hk : ∀ r ∈ rows, r.length = k)
      (hcell : ∀ i j, i < rows.length → j < k → ∃ a : Addr, A = some a ∧ S a.block ∧ w.cell? (a.add (i * k + j)) = some (u i j))
      (hrep : ∀ (i j : Nat) (r : List D) (d : D), rows[i]? = some r → r[j]? = some d → Rep w S d (u i j)) : Rep w S (.vec k rows) (.slice A rows.length c)
  | pt (cells : List D) (a : Addr) (u : Nat → Value)
      (hcell : ∀ j, j < cells.length → S a.block ∧ w.cell? (a.add j) = some (u j))
      (hrep : ∀ (j : Nat) (d : D), cells[j]? = some d → Rep w S d (u j)) : Rep w S (.pt cells) (.pointer (some a))
  | fn (f : FuncId) (caps : List D) (vs : Array Value) (hl : vs.size = caps.length)
      (hrep : ∀ (j : Nat) (d : D) (u : Value), caps[j]? = some d → vs[j]? = some u → Rep w S d u) : Rep w S (.fn f caps) (.func (.func f) #[] vs)

/-- The blocks of S are the same in both worlds. -/
def Keeps (S : Nat → Prop) (w w' : World) : Prop := ∀ b, S b → w'.heap[b]? = w.heap[b]?

theorem Keeps.refl (S : Nat → Prop) (w : World) : Keeps S w w := fun _ _ => rfl
theorem Keeps.trans {S S' : Nat → Prop} {w w' w'' : World} (h : Keeps S w w') (hs : ∀ b, S b → S' b) (h' : Keeps S' w' w'') : Keeps S w w'' :=
  fun b hb => (h' b (hs b hb)).trans (h b hb)

theorem cell_keeps {S : Nat → Prop} {w w' : World} (h : Keeps S w w') {a : Addr} (hb : S a.block) : w'.cell? a = w.cell? a :=
  World.cell?_of_block (w := w) (h _ hb)

theorem block_add (a : Addr) (n : Nat) : (a.add n).block = a.block := by unfold Addr.add; split <;> rfl
theorem add_add (a : Addr) (i j : Nat) : (a.add i).add j = a.add (i + j) := by
  unfold Addr.add
  by_cases hi : i = 0 <;> by_cases hj : j = 0 <;> simp [hi, hj, Nat.add_assoc]
theorem add_zero (a : Addr) : a.add 0 = a := rfl
theorem add_lit (g i : Nat) : (⟨g, 0, none⟩ : Addr).add i = ⟨g, i, none⟩ := by unfold Addr.add; split <;> simp_all
theorem add_lit' (g o i : Nat) : (⟨g, o, none⟩ : Addr).add i = ⟨g, o + i, none⟩ := by unfold Addr.add; split <;> simp_all

theorem Rep.mono {w w' : World} {S S' : Nat → Prop} (hS : ∀ b, S b → S' b) (hw : Keeps S w w') {d : D} {v : Value} (h : Rep w S d v) : Rep w' S' d v := by
  induction h with
  | v x h1 => exact .v x h1
  | vec k rows A c u hc hm hk hcell _ ih =>
    refine .vec k rows A c u hc hm hk (fun i j hi hj => ?_) ih
    obtain ⟨a, ha, hb, hcl⟩ := hcell i j hi hj
    exact ⟨a, ha, hS _ hb, by rw [cell_keeps hw (by rw [block_add]; exact hb)]; exact hcl⟩
  | pt cells a u hcell _ ih =>
    refine .pt cells a u (fun j hj => ?_) ih
    obtain ⟨hb, hcl⟩ := hcell j hj
    exact ⟨hS _ hb, by rw [cell_keeps hw (by rw [block_add]; exact hb)]; exact hcl⟩
  | fn f caps vs hl _ ih => exact .fn f caps vs hl ih

theorem Rep.one {w : World} {S : Nat → Prop} {d : D} {v : Value} (h : Rep w S d v) : v.oneCell' = true := by
  cases h with
  | v _ h1 => exact h1
  | vec => rfl
  | pt => rfl
  | fn => rfl

theorem cells_one {v : Value} (h : v.oneCell' = true) : v.cells = #[v] := by
  cases v <;> simp [Value.oneCell'] at h <;> rfl

/-- What a function value has captured: data; a pointer into an own variable. -/
inductive CapV where
  | d (x : D)
  | ptr (o off : Nat)

/-- What a cell of the machine holds: data; a slice of no length and no capacity; a pointer into an own variable; the header of an own row; a pointer into one; the header of n rows of one, from row lo on; the like of a row whose rows are all that it has room for; a function value with what it captured; what a loop over a function hands that function; the header of a variable's cells, as a slice of cells of any kind. -/
inductive AV where
  | d (x : D)
  | nils (k : Nat)
  | ptr (o off : Nat)
  | own (o : Nat)
  | eptr (o k i j : Nat)
  | win (o k lo n : Nat)
  | wx (o k lo n : Nat)
  | clo (f : FuncId) (caps : List CapV)
  | yld (o : Nat)
  | vsl (o n : Nat)

/-- What a temporary holds. -/
inductive AT where
  | junk
  | undef
  | cs (agg : Bool) (xs : List AV)
  | tup (ts : List (Bool × List AV))

def getE : List (Nat × AT) → Nat → AT
  | [], _ => .junk
  | (k, x) :: r, n => if n = k then x else getE r n

/-- Where a loop over a function stands: between rounds; in one; a round has left it by a jump. -/
inductive LSt where
  | ready
  | busy
  | done (c : Code)

/-- The record of a loop over a function: the temporaries as the loop began, which of them a round is handed, the round's code. -/
structure Lp where
  nt : Nat
  env : List (Nat × AT)
  ps : Array Tmp
  assign : Code
  body : Code
  st : LSt

/-- An own object: a variable of some cells; a row of rows of k cells (live: it may still be written); the record of a loop over a function; where a range over a string stands. -/
inductive AObj where
  | var (cells : List AV) (live : Bool)
  | row (k : Nat) (ety : TypeId) (rows : List (List D)) (live : Bool)
  | lp (L : Lp)
  | it (s : ByteArray) (pos : Nat)

def AObj.live : AObj → Bool
  | .var _ l => l
  | .row _ _ _ l => l
  | .lp _ => true
  | .it .. => true

inductive All2 {α β : Type} (R : α → β → Prop) : List α → List β → Prop where
  | nil : All2 R [] []
  | cons {x y xs ys} (h : R x y) (t : All2 R xs ys) : All2 R (x :: xs) (y :: ys)

theorem All2.len {α β : Type} {R : α → β → Prop} {xs : List α} {ys : List β} (h : All2 R xs ys) : xs.length = ys.length := by
  induction h with
  | nil => rfl
  | cons _ _ ih => simp [ih]

theorem All2.mono {α β : Type} {R R' : α → β → Prop} (hr : ∀ x y, R x y → R' x y) {xs : List α} {ys : List β} (h : All2 R xs ys) : All2 R' xs ys := by
  induction h with
  | nil => exact .nil
  | cons h _ ih => exact .cons (hr _ _ h) ih

theorem All2.mem_right {α β : Type} {R : α → β → Prop} {xs : List α} {ys : List β} (h : All2 R xs ys) : ∀ y ∈ ys, ∃ x ∈ xs, R x y := by
  induction h with
  | nil => simp
  | cons h _ ih =>
    intro y hy
    rcases List.mem_cons.1 hy with rfl | hy
    · exact ⟨_, List.mem_cons_self .., h⟩
    · obtain ⟨x, hx, hr⟩ := ih y hy
      exact ⟨x, List.mem_cons_of_mem _ hx, hr⟩

theorem All2.get {α β : Type} {R : α → β → Prop} {xs : List α} {ys : List β} (h : All2 R xs ys) : ∀ {i : Nat} {x : α}, xs[i]? = some x → ∃ y, ys[i]? = some y ∧ R x y := by
  induction h with
  | nil => intro i x hx; simp at hx
  | cons h _ ih =>
    intro i x hx
    cases i with
    | zero => simp at hx; subst hx; exact ⟨_, rfl, h⟩
    | succ i => simpa using ih (by simpa using hx)

theorem All2.take {α β : Type} {R : α → β → Prop} {xs : List α} {ys : List β} (h : All2 R xs ys) (n : Nat) : All2 R (xs.take n) (ys.take n) := by
  induction h generalizing n with
  | nil => simpa using All2.nil
  | cons h _ ih =>
    cases n with
    | zero => exact .nil
    | succ n => exact .cons h (ih n)

theorem All2.drop {α β : Type} {R : α → β → Prop} {xs : List α} {ys : List β} (h : All2 R xs ys) (n : Nat) : All2 R (xs.drop n) (ys.drop n) := by
  induction h generalizing n with
  | nil => simpa using All2.nil
  | cons h t ih =>
    cases n with
    | zero => exact .cons h t
    | succ n => exact ih n

theorem All2.set {α β : Type} {R : α → β → Prop} {xs : List α} {ys : List β} (h : All2 R xs ys) {n : Nat} {x : α} {y : β} (hr : R x y) : All2 R (xs.set n x) (ys.set n y) := by
  induction h generalizing n with
  | nil => exact .nil
  | cons h t ih =>
    cases n with
    | zero => exact .cons hr t
    | succ n => exact .cons h (ih)

theorem All2.append {α β : Type} {R : α → β → Prop} {xs xs' : List α} {ys ys' : List β} (h : All2 R xs ys) (h' : All2 R xs' ys') : All2 R (xs ++ xs') (ys ++ ys') := by
  induction h with
  | nil => exact h'
  | cons h _ ih => exact .cons h ih

/-- From the places: what All2 says of each. -/
theorem All2.of_get {α β : Type} {R : α → β → Prop} : ∀ {xs : List α} {ys : List β}, xs.length = ys.length → (∀ (i : Nat) (x : α) (y : β), xs[i]? = some x → ys[i]? = some y → R x y) → All2 R xs ys
  | [], [], _, _ => .nil
  | [], _ :: _, h, _ => by simp at h
  | _ :: _, [], h, _ => by simp at h
  | x :: xs, y :: ys, hl, h => .cons (h 0 x y rfl rfl) (All2.of_get (by simpa using hl) fun i a b ha hb => h (i + 1) a b (by simpa using ha) (by simpa using hb))

/-- The number of the block that a header stands for; a slice of no capacity has none. -/
def blkOf : Value → Option Nat
  | .pointer (some a) => some a.block
  | .slice (some a) _ c => if c = 0 then none else some a.block
  | _ => none

/-- Where the own objects lie: the header of each that there is. -/
abbrev Where := Nat → Option Value

def RepCap (ρ : Where) (w : World) (S : Nat → Prop) : CapV → Value → Prop
  | .d x, u => Rep w S x u
  | .ptr o off, u => ∃ g, ρ o = some (.pointer (some ⟨g, 0, none⟩)) ∧ u = .pointer (some ⟨g, off, none⟩)

def RepAV (ρ : Where) (w : World) (S : Nat → Prop) : AV → Value → Prop
  | .d x, u => Rep w S x u
  | .nils _, u => ∃ A, u = .slice A 0 0
  | .ptr o off, u => ∃ g, ρ o = some (.pointer (some ⟨g, 0, none⟩)) ∧ u = .pointer (some ⟨g, off, none⟩)
  | .own o, u => ρ o = some u ∧ ∃ A n c, u = .slice A n c
  | .eptr o k i j, u => ∃ g n c, ρ o = some (.slice (some ⟨g, 0, none⟩) n c) ∧ u = .pointer (some ⟨g, i * k + j, none⟩)
  | .win o k lo n, u => ∃ A m c A', ρ o = some (.slice A m c) ∧ u = .slice A' n (c - lo) ∧ (lo < c → A' = A.map (·.add (lo * k)))
  | .wx o k lo n, u => ∃ A c A', ρ o = some (.slice A c c) ∧ u = .slice A' n (c - lo) ∧ (lo < c → A' = A.map (·.add (lo * k)))
  | .clo f caps, u => ∃ vs : List Value, u = .func (.func f) #[] vs.toArray ∧ All2 (RepCap ρ w S) caps vs
  | .yld o, u => ∃ g, ρ o = some (.pointer (some ⟨g, 0, none⟩)) ∧ u = .func (.yield g) #[] #[]
  | .vsl o n, u => ∃ g, ρ o = some (.pointer (some ⟨g, 0, none⟩)) ∧ u = .slice (some ⟨g, 0, none⟩) n n

def RepC (ρ : Where) (w : World) (S : Nat → Prop) (g : Bool) (xs : List AV) (v : Value) : Prop :=
  if g then ∃ us : List Value, v = .agg us.toArray ∧ All2 (RepAV ρ w S) xs us
  else ∃ x, xs = [x] ∧ RepAV ρ w S x v

def RepT (ρ : Where) (w : World) (S : Nat → Prop) : AT → Value → Prop
  | .junk, _ => True
  | .undef, v => v = Go.undef
  | .cs g xs, v => RepC ρ w S g xs v
  | .tup ts, v => ∃ vs : List Value, v = .tuple vs.toArray ∧ All2 (fun t u => RepC ρ w S t.1 t.2 u) ts vs

/-- Each cell reads as some datum. -/
def Spare (w : World) (S : Nat → Prop) (cur : Array Value) : Prop := ∀ u ∈ cur.toList, ∃ d, Rep w S d u

theorem Spare.mono {w w' : World} {S S' : Nat → Prop} {cur : Array Value} (h : Spare w S cur) (hS : ∀ b, S b → S' b) (hw : Keeps S w w') : Spare w' S' cur :=
  fun u hu => let ⟨d, hd⟩ := h u hu; ⟨d, hd.mono hS hw⟩

/-- A row of cells in memory, of which only the first are known. -/
structure RowBlk (w : World) (S : Nat → Prop) (k : Nat) (ety : TypeId) (rows : List (List D)) (g c : Nat) : Prop where
  cap : rows.length ≤ c
  max : c ≤ maxLen
  pos : 0 < k
  blk : ∃ cur : Array Value, w.heap[g]? = some (.cells cur ety (0, 0)) ∧ cur.size = c * k ∧
    Spare w S cur ∧ ∀ (i j : Nat) (r : List D) (d : D), rows[i]? = some r → r[j]? = some d → ∃ u, cur[i * k + j]? = some u ∧ Rep w S d u

def LSt.state : LSt → LoopState
  | .ready => .ready
  | .busy => .busy
  | .done _ => .done
def LSt.pending : LSt → Option Code
  | .done c => some c
  | _ => none

/-- The record of a loop, in memory. -/
def LpRep (ρ : Where) (w : World) (S : Nat → Prop) (g : Nat) (L : Lp) : Prop :=
  ∃ fn tmps D, w.heap[g]? = some (.loop { state := L.st.state, pending := L.st.pending, fn := fn, tmps := tmps, params := L.ps, assign := L.assign, body := L.body, defers := D }) ∧
    tmps.size = L.nt ∧ ∀ t, RepT ρ w S (getE L.env t) (tmps.getD t Go.undef)

def ObjRep (ρ : Where) (w : World) (S : Nat → Prop) (h : Value) : AObj → Prop
  | .var cells live => ∃ g cur ety, h = .pointer (some ⟨g, 0, none⟩) ∧ w.heap[g]? = some (.cells cur ety (0, 0)) ∧ All2 (RepAV ρ w S) cells cur.toList ∧
      (live = true → ¬ S g) ∧ (live = false → S g ∧ ∀ x ∈ cells, ∃ y, x = .d y)
  | .row k ety rows live => (∀ r ∈ rows, r.length = k) ∧ ((rows = [] ∧ ∃ A, h = .slice A 0 0) ∨
      ∃ g c, 0 < c ∧ h = .slice (some ⟨g, 0, none⟩) rows.length c ∧ RowBlk w S k ety rows g c ∧ (live = true → ¬ S g) ∧ (live = false → S g))
  | .lp L => ∃ g, h = .pointer (some ⟨g, 0, none⟩) ∧ LpRep ρ w S g L ∧ ¬ S g
  | .it s pos => ∃ g, h = .pointer (some ⟨g, 0, none⟩) ∧ w.heap[g]? = some (.stringIter s pos) ∧ ¬ S g

theorem RepAV.one {ρ : Where} {w : World} {S : Nat → Prop} {x : AV} {u : Value} (h : RepAV ρ w S x u) : u.oneCell' = true := by
  cases x with
  | d x => exact Rep.one h
  | nils _ => obtain ⟨A, rfl⟩ := h; rfl
  | ptr o off => obtain ⟨g, _, rfl⟩ := h; rfl
  | own o => obtain ⟨_, A, n, c, rfl⟩ := h; rfl
  | eptr o k i j => obtain ⟨g, n, c, _, rfl⟩ := h; rfl
  | win o k lo n => obtain ⟨A, m, c, A', _, rfl, _⟩ := h; rfl
  | wx o k lo n => obtain ⟨A, c, A', _, rfl, _⟩ := h; rfl
  | clo f caps => obtain ⟨vs, rfl, _⟩ := h; rfl
  | yld o => obtain ⟨g, _, rfl⟩ := h; rfl
  | vsl o n => obtain ⟨g, _, rfl⟩ := h; rfl

/-- More objects are known, more blocks are still, none of the still ones has turned. -/
structure Grows (ρ ρ' : Where) (w w' : World) (S S' : Nat → Prop) : Prop where
  rho : ∀ o h, ρ o = some h → ρ' o = some h
  sub : ∀ b, S b → S' b
  keeps : Keeps S w w'

theorem Grows.refl (ρ : Where) (w : World) (S : Nat → Prop) : Grows ρ ρ w w S S := ⟨fun _ _ h => h, fun _ h => h, Keeps.refl _ _⟩

theorem RepCap.grows {ρ ρ' : Where} {w w' : World} {S S' : Nat → Prop} (g : Grows ρ ρ' w w' S S') {x : CapV} {u : Value} (h : RepCap ρ w S x u) : RepCap ρ' w' S' x u := by
  cases x with
  | d x => exact Rep.mono g.sub g.keeps h
  | ptr o off => obtain ⟨b, h1, h2⟩ := h; exact ⟨b, g.rho _ _ h1, h2⟩

theorem RepAV.grows {ρ ρ' : Where} {w w' : World} {S S' : Nat → Prop} (g : Grows ρ ρ' w w' S S') {x : AV} {u : Value} (h : RepAV ρ w S x u) : RepAV ρ' w' S' x u := by
  cases x with
  | d x => exact Rep.mono g.sub g.keeps h
  | nils _ => exact h
  | ptr o off => obtain ⟨b, h1, h2⟩ := h; exact ⟨b, g.rho _ _ h1, h2⟩
  | own o => obtain ⟨h1, h2⟩ := h; exact ⟨g.rho _ _ h1, h2⟩
  | eptr o k i j => obtain ⟨b, n, c, h1, h2⟩ := h; exact ⟨b, n, c, g.rho _ _ h1, h2⟩
  | win o k lo n => obtain ⟨A, m, c, A', h1, h2⟩ := h; exact ⟨A, m, c, A', g.rho _ _ h1, h2⟩
  | wx o k lo n => obtain ⟨A, c, A', h1, h2⟩ := h; exact ⟨A, c, A', g.rho _ _ h1, h2⟩
  | clo f caps => obtain ⟨vs, h1, h2⟩ := h; exact ⟨vs, h1, h2.mono fun _ _ => RepCap.grows g⟩
  | yld o => obtain ⟨b, h1, h2⟩ := h; exact ⟨b, g.rho _ _ h1, h2⟩
  | vsl o n => obtain ⟨b, h1, h2⟩ := h; exact ⟨b, g.rho _ _ h1, h2⟩

theorem RepC.grows {ρ ρ' : Where} {w w' : World} {S S' : Nat → Prop} (g : Grows ρ ρ' w w' S S') {b : Bool} {xs : List AV} {u : Value} (h : RepC ρ w S b xs u) : RepC ρ' w' S' b xs u := by
  unfold RepC at *
  split
  · rename_i hb
    rw [if_pos hb] at h
    obtain ⟨us, h1, h2⟩ := h
    exact ⟨us, h1, h2.mono fun _ _ => RepAV.grows g⟩
  · rename_i hb
    rw [if_neg hb] at h
    obtain ⟨x, h1, h2⟩ := h
    exact ⟨x, h1, h2.grows g⟩

theorem RepT.grows {ρ ρ' : Where} {w w' : World} {S S' : Nat → Prop} (g : Grows ρ ρ' w w' S S') {t : AT} {u : Value} (h : RepT ρ w S t u) : RepT ρ' w' S' t u := by
  cases t with
  | junk => trivial
  | undef => exact h
  | cs b xs => exact RepC.grows g h
  | tup ts =>
    obtain ⟨vs, h1, h2⟩ := h
    exact ⟨vs, h1, h2.mono fun _ _ => RepC.grows g⟩

/-- An object stays as it reads where its block is as it was and no more still than it was. -/
theorem ObjRep.grows {ρ ρ' : Where} {w w' : World} {S S' : Nat → Prop} (g : Grows ρ ρ' w w' S S') {h : Value} {x : AObj} (hx : ObjRep ρ w S h x)
    (hb : ∀ b, blkOf h = some b → w'.heap[b]? = w.heap[b]? ∧ (S' b → S b)) : ObjRep ρ' w' S' h x := by
  cases x with
  | var cells live =>
    obtain ⟨b, cur, ety, rfl, h1, h2, h3, h4⟩ := hx
    obtain ⟨e1, e2⟩ := hb b rfl
    exact ⟨b, cur, ety, rfl, e1.trans h1, h2.mono fun _ _ => RepAV.grows g, fun hl hs => h3 hl (e2 hs), fun hl => ⟨g.sub _ (h4 hl).1, (h4 hl).2⟩⟩
  | row k ety rows live =>
    obtain ⟨h0, h1⟩ := hx
    refine ⟨h0, ?_⟩
    rcases h1 with h1 | ⟨b, c, hc, rfl, ⟨r1, r2, r3, cur, r4, r5, r7, r6⟩, h3, h4⟩
    · exact .inl h1
    · obtain ⟨e1, e2⟩ := hb b (by simp [blkOf]; omega)
      refine .inr ⟨b, c, hc, rfl, ⟨r1, r2, r3, cur, e1.trans r4, r5, r7.mono g.sub g.keeps, fun i j r d hr hd => ?_⟩, fun hl hs => h3 hl (e2 hs), fun hl => g.sub _ (h4 hl)⟩
      obtain ⟨u, hu, hru⟩ := r6 i j r d hr hd
      exact ⟨u, hu, hru.mono g.sub g.keeps⟩
  | lp L =>
    obtain ⟨b, rfl, ⟨fn, tmps, D, h1, h2, h3⟩, h4⟩ := hx
    obtain ⟨e1, e2⟩ := hb b rfl
    exact ⟨b, rfl, ⟨fn, tmps, D, e1.trans h1, h2, fun t => (h3 t).grows g⟩, fun hs => h4 (e2 hs)⟩
  | it s pos =>
    obtain ⟨b, rfl, h1, h4⟩ := hx
    obtain ⟨e1, e2⟩ := hb b rfl
    exact ⟨b, rfl, e1.trans h1, fun hs => h4 (e2 hs)⟩

end Go.Eng
