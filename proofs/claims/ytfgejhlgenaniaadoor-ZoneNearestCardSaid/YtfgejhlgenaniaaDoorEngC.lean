/- The relation between the machine's state and the model's, and how a step hands it on. -/
import Derived.Test.YtfgejhlgenaniaaDoorEngB
namespace Go.Eng

/-- How a stretch of code was entered: the world, the blocks that are still, the blocks that it may turn, where objects lie that keep their place. -/
structure Base where
  W : World
  S : Nat → Prop
  B : Nat → Prop
  R : Where

/-- The mark that a range over a function leaves among the deferred calls. -/
def markOf (D : Nat) : Deferred := { target := .collected D, args := #[] }

/-- The deferred calls are marks alone, each of a block that holds no call. -/
def Marks (c : Base) (S : Nat → Prop) (a : Act) (w : World) : Prop :=
  ∃ Ds : List Nat, a.defers = Ds.map markOf ∧ Ds.Nodup ∧ ∀ D ∈ Ds, S D ∧ c.W.heap.size ≤ D ∧ w.heap[D]? = some (.deferred (some []))

structure Rel (c : Base) (nt : Nat) (env : Nat → AT) (ob : Nat → Option AObj) (ρ : Where) (S : Nat → Prop) (a : Act) (w : World) : Prop where
  defers : Marks c S a w
  size : a.tmps.size = nt
  env : ∀ t, RepT ρ w S (env t) (a.tmps.getD t Go.undef)
  obj : ∀ o x, ob o = some x → ∃ h, ρ o = some h ∧ ObjRep ρ w S h x
  sep : ∀ o o' x x' h h' b, ob o = some x → ob o' = some x' → ρ o = some h → ρ o' = some h' → blkOf h = some b → blkOf h' = some b → o = o'
  place : ∀ o x h b, ob o = some x → ρ o = some h → blkOf h = some b → (c.W.heap.size ≤ b ∨ c.B b) ∨ S b
  os : w.os = c.W.os
  tape : w.tape = c.W.tape
  output : w.output = c.W.output
  hsize : c.W.heap.size ≤ w.heap.size
  same : ∀ b, b < c.W.heap.size → ¬ c.B b → w.heap[b]? = c.W.heap[b]?
  lim : ∀ b, S b → b < w.heap.size
  sub : ∀ b, c.S b → S b
  foot : ∀ b, S b → c.S b ∨ c.B b ∨ c.W.heap.size ≤ b
  pin : ∀ o h, c.R o = some h → ρ o = some h
  clim : ∀ b, c.S b → b < c.W.heap.size

def putF (env : Nat → AT) (dst : Option Tmp) (t : AT) : Nat → AT := fun n => if dst = some n then t else env n

def updO : List (Nat × Option AObj) → (Nat → Option AObj) → Nat → Option AObj
  | [], ob, o => ob o
  | (k, x) :: r, ob, o => if o = k then x else updO r ob o

theorem getE_put (env : List (Nat × AT)) (dst : Option Tmp) (t : AT) : getE (putE env dst t) = putF (getE env) dst t := by
  funext n
  cases dst with
  | none => simp [putE, putF]
  | some d =>
    simp only [putE, putF, getE, Option.some.injEq]
    by_cases h : n = d
    · simp [h]
    · simp [h, Ne.symm h]

theorem getO_upd : ∀ (upd objs : List (Nat × Option AObj)), getO (upd ++ objs) = updO upd (getO objs)
  | [], objs => rfl
  | (k, x) :: r, objs => by
    funext o
    simp only [List.cons_append, getO, updO, getO_upd r objs]

theorem put_get (a : Act) (dst : Option Tmp) (v : Value) (t : Nat) (h : dstOk a.tmps.size dst = true) :
    (a.put dst v).tmps.getD t Go.undef = if dst = some t then v else a.tmps.getD t Go.undef := by
  cases dst with
  | none => simp [Act.put]
  | some d =>
    simp only [dstOk, decide_eq_true_eq] at h
    simp only [Act.put, Array.getD_eq_getD_getElem?, Array.getElem?_setIfInBounds, Option.some.injEq]
    by_cases hd : d = t
    · subst hd; simp [h]
    · simp [hd]

theorem put_size (a : Act) (dst : Option Tmp) (v : Value) : (a.put dst v).tmps.size = a.tmps.size := by
  cases dst <;> simp [Act.put]

theorem put_defers (a : Act) (dst : Option Tmp) (v : Value) : (a.put dst v).defers = a.defers := by
  cases dst <;> simp [Act.put]

section
variable {c : Base} {nt : Nat} {env : Nat → AT} {ob : Nat → Option AObj} {ρ : Where} {S : Nat → Prop} {a : Act} {w : World}

/-- One step, whatever it does: what was known stays known, what is new is told. -/
theorem Rel.step (hr : Rel c nt env ob ρ S a w) {ρ' : Where} {S' : Nat → Prop} {w' : World} {ob' : Nat → Option AObj} {dst : Option Tmp} {v : Value} {out : AT}
    (hd : dstOk nt dst = true) (hg : Grows ρ ρ' w w' S S') (hv : RepT ρ' w' S' out v)
    (hobj : ∀ o x, ob' o = some x →
      (ob o = some x ∧ ∀ h b, ρ o = some h → blkOf h = some b → w'.heap[b]? = w.heap[b]? ∧ (S' b → S b)) ∨
      (∃ h, ρ' o = some h ∧ ObjRep ρ' w' S' h x ∧ ∀ b, blkOf h = some b → ((c.W.heap.size ≤ b ∨ c.B b) ∨ S' b) ∧
        ∀ o2 x2 h2, ob' o2 = some x2 → ρ' o2 = some h2 → blkOf h2 = some b → o2 = o))
    (hos : w'.os = w.os) (htape : w'.tape = w.tape) (hout : w'.output = w.output) (hsz : w.heap.size ≤ w'.heap.size)
    (hsame : ∀ b, b < c.W.heap.size → ¬ c.B b → w'.heap[b]? = w.heap[b]?)
    (hlim : ∀ b, S' b → b < w'.heap.size) (hfoot : ∀ b, S' b → c.S b ∨ c.B b ∨ c.W.heap.size ≤ b) :
    Rel c nt (putF env dst out) ob' ρ' S' (a.put dst v) w' where
  defers := by
    obtain ⟨Ds, h1, h2, h3⟩ := hr.defers
    exact ⟨Ds, by rw [put_defers]; exact h1, h2, fun D hD => ⟨hg.sub _ (h3 D hD).1, (h3 D hD).2.1, (hg.keeps _ (h3 D hD).1).trans (h3 D hD).2.2⟩⟩
  size := by rw [put_size]; exact hr.size
  env t := by
    rw [put_get a dst v t (by rw [hr.size]; exact hd)]
    unfold putF
    split
    · exact hv
    · exact (hr.env t).grows hg
  obj o x hx := by
    rcases hobj o x hx with ⟨h1, h2⟩ | ⟨h, h1, h2, _⟩
    · obtain ⟨h, e1, e2⟩ := hr.obj o x h1
      exact ⟨h, hg.rho _ _ e1, e2.grows hg fun b hb => h2 h b e1 hb⟩
    · exact ⟨h, h1, h2⟩
  sep o o' x x' h h' b hx hx' hh hh' hb hb' := by
    rcases hobj o x hx with ⟨h1, _⟩ | ⟨k, k1, _, k3⟩
    · rcases hobj o' x' hx' with ⟨h1', _⟩ | ⟨k', k1', _, k3'⟩
      · obtain ⟨y, y1, _⟩ := hr.obj o x h1
        obtain ⟨y', y1', _⟩ := hr.obj o' x' h1'
        have e := hg.rho _ _ y1; rw [hh] at e; cases e
        have e' := hg.rho _ _ y1'; rw [hh'] at e'; cases e'
        exact hr.sep o o' x x' _ _ b h1 h1' y1 y1' hb hb'
      · rw [hh'] at k1'; cases k1'
        exact (k3' b hb').2 o x h hx hh hb
    · rw [hh] at k1; cases k1
      exact ((k3 b hb).2 o' x' h' hx' hh' hb').symm
  place o x h b hx hh hb := by
    rcases hobj o x hx with ⟨h1, _⟩ | ⟨k, k1, _, k3⟩
    · obtain ⟨y, y1, _⟩ := hr.obj o x h1
      have e := hg.rho _ _ y1; rw [hh] at e; cases e
      exact (hr.place o x h b h1 y1 hb).imp_right (hg.sub b)
    · rw [hh] at k1; cases k1
      exact (k3 b hb).1
  os := hos.trans hr.os
  tape := htape.trans hr.tape
  output := hout.trans hr.output
  hsize := Nat.le_trans hr.hsize hsz
  same b hb hn := (hsame b hb hn).trans (hr.same b hb hn)
  lim := hlim
  sub b hb := hg.sub b (hr.sub b hb)
  foot := hfoot
  pin o h hp := hg.rho _ _ (hr.pin o h hp)
  clim := hr.clim

/-- A step that yields a value and touches nothing. -/
theorem Rel.value (hr : Rel c nt env ob ρ S a w) {dst : Option Tmp} {v : Value} {out : AT} (hd : dstOk nt dst = true) (hv : RepT ρ w S out v) :
    Rel c nt (putF env dst out) ob ρ S (a.put dst v) w :=
  hr.step hd (Grows.refl _ _ _) hv (fun _ _ hx => .inl ⟨hx, fun _ _ _ _ => ⟨rfl, id⟩⟩) rfl rfl rfl (Nat.le_refl _) (fun _ _ _ => rfl) hr.lim hr.foot

theorem blk_lt (hr : Rel c nt env ob ρ S a w) {o : Nat} {x : AObj} {h : Value} {b : Nat} (hx : ob o = some x) (hh : ρ o = some h) (hb : blkOf h = some b) : b < w.heap.size := by
  obtain ⟨h', h1, h2⟩ := hr.obj o x hx
  rw [hh] at h1; cases h1
  have key : ∀ y, w.heap[b]? = some y → b < w.heap.size := fun y hy => (Array.getElem?_eq_some_iff.1 hy).1
  cases x with
  | var cells live =>
    obtain ⟨g, cur, ety, rfl, h3, _⟩ := h2
    simp [blkOf] at hb; subst hb
    exact key _ h3
  | row k ety rows live =>
    rcases h2.2 with ⟨_, A, rfl⟩ | ⟨g, cc, _, rfl, ⟨_, _, _, cur, h3, _⟩, _⟩
    · cases A <;> simp [blkOf] at hb
    · simp only [blkOf] at hb
      split at hb
      · cases hb
      · cases hb; exact key _ h3
  | lp L =>
    obtain ⟨g, rfl, ⟨_, _, _, h3, _⟩, _⟩ := h2
    simp [blkOf] at hb; subst hb
    exact key _ h3
  | it s pos =>
    obtain ⟨g, rfl, h3, _⟩ := h2
    simp [blkOf] at hb; subst hb
    exact key _ h3

/-- A new block, one new object that lies in it. -/
theorem Rel.newAt (hr : Rel c nt env ob ρ S a w) {N : Nat} {x : AObj} {h v : Value} {out : AT} {dst : Option Tmp} {o : Obj} (hd : dstOk nt dst = true) (hN : ρ N = none)
    (hb : blkOf h = some w.heap.size ∨ blkOf h = none)
    (hx : ∀ ρ' : Where, ρ' N = some h → Grows ρ ρ' w (w.alloc o) S S → ObjRep ρ' (w.alloc o) S h x)
    (hv : ∀ ρ' : Where, ρ' N = some h → RepT ρ' (w.alloc o) S out v) :
    ∃ ρ', (∀ n, n ≠ N → ρ' n = ρ n) ∧ ρ' N = some h ∧ Rel c nt (putF env dst out) (updO [(N, some x)] ob) ρ' S (a.put dst v) (w.alloc o) := by
  have hne : ∀ n y, ob n = some y → n ≠ N := by
    rintro n y hy rfl
    obtain ⟨h', h1, _⟩ := hr.obj n y hy
    rw [hN] at h1; cases h1
  let ρ' : Where := fun n => if n = N then some h else ρ n
  have e1 : ρ' N = some h := by simp [ρ']
  have e2 : ∀ n, n ≠ N → ρ' n = ρ n := fun n hn => by simp [ρ', hn]
  have hk : Keeps S w (w.alloc o) := fun b hb => RowKit.Below.heap_alloc w o b (hr.lim b hb)
  have hg : Grows ρ ρ' w (w.alloc o) S S := ⟨fun n y hy => by
    rw [e2 n (fun e => by subst e; rw [hN] at hy; cases hy)]; exact hy, fun _ h => h, hk⟩
  refine ⟨ρ', e2, e1, hr.step hd hg (hv ρ' e1) (fun n y hy => ?_) rfl rfl rfl (by simp) (fun b hb _ => RowKit.Below.heap_alloc w o b (by have := hr.hsize; omega))
    (fun b hb => by have := hr.lim b hb; simp; omega) hr.foot⟩
  simp only [updO] at hy
  split at hy
  · rename_i hn
    subst hn
    cases hy
    refine .inr ⟨h, e1, hx ρ' e1 hg, fun b hbb => ?_⟩
    rcases hb with hb | hb <;> rw [hbb] at hb <;> cases hb
    refine ⟨.inl (.inl (by have := hr.hsize; omega)), fun o2 x2 h2 hx2 hh2 hb2 => ?_⟩
    simp only [updO] at hx2
    split at hx2
    · assumption
    · rename_i hne2
      rw [e2 o2 hne2] at hh2
      exact absurd (blk_lt hr hx2 hh2 hb2) (by omega)
  · refine .inl ⟨hy, fun h' b hh hb' => ⟨RowKit.Below.heap_alloc w o b (blk_lt hr hy hh hb'), id⟩⟩

theorem Rel.new (hr : Rel c nt env ob ρ S a w) {N : Nat} {x : AObj} {h v : Value} {out : AT} {dst : Option Tmp} {o : Obj} (hd : dstOk nt dst = true) (hN : ρ N = none)
    (hb : blkOf h = some w.heap.size ∨ blkOf h = none)
    (hx : ∀ ρ' : Where, ρ' N = some h → Grows ρ ρ' w (w.alloc o) S S → ObjRep ρ' (w.alloc o) S h x)
    (hv : ∀ ρ' : Where, ρ' N = some h → RepT ρ' (w.alloc o) S out v) :
    ∃ ρ', (∀ n, n ≠ N → ρ' n = ρ n) ∧ Rel c nt (putF env dst out) (updO [(N, some x)] ob) ρ' S (a.put dst v) (w.alloc o) :=
  let ⟨ρ', h1, _, h2⟩ := hr.newAt hd hN hb hx hv; ⟨ρ', h1, h2⟩

end

end Go.Eng
