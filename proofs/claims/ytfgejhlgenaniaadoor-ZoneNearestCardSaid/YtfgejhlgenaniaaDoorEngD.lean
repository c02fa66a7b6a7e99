/- What is asked of the context; what a contract is; the plain operations. -/
import Derived.Test.YtfgejhlgenaniaaDoorEngC
namespace Go.Eng

def zeroRep : AV → Value → Prop
  | .nils _, v => v = .slice none 0 0
  | .d (.v y), v => v = y ∧ y.oneCell' = true
  | _, _ => False

def DescOk (P : Program) (t : TypeId) : TDesc → Prop
  | .int k => P.underlying t = some (.int k)
  | .bool => P.underlying t = some .bool
  | .str => P.underlying t = some .string
  | .ptr => P.underlying t = some (.pointer (P.pointee t))
  | .other => ∃ d, P.underlying t = some d ∧ (∀ fs, d ≠ .struct fs) ∧ (∀ n e, d ≠ .array n e)
  | .slice e => P.underlying t = some (.slice e)
  | .struct fs => ∃ flds : Array Field, P.underlying t = some (.struct flds) ∧ fs = flds.toList.map (fun f => (f.offset, f.type)) ∧ (∀ f ∈ flds.toList, f.name ≠ "_") ∧
      P.eqGuardType P.depth t = false ∧ P.stoodInHeld t = false ∧ ∀ f ∈ flds.toList, (P.info? f.type).isSome = true

structure TyOk (P : Program) (t : TypeId) (ti : TI) : Prop where
  info : ∃ i z, P.info? t = some i ∧ i.size = ti.size ∧ i.bytes = ti.bytes ∧ i.zero = some z ∧ All2 zeroRep ti.zero z.cells.toList
  desc : DescOk P t ti.desc

inductive CVs (w : World) (S : Nat → Prop) : List CV → List Value → List Nat → Prop where
  | nil : CVs w S [] [] []
  | d {x u cs us bs} (h : Rep w S x u) (t : CVs w S cs us bs) : CVs w S (.d x :: cs) (u :: us) bs
  | ownNil {k e A cs us bs} (t : CVs w S cs us bs) : CVs w S (.own k e [] :: cs) (.slice A 0 0 :: us) bs
  | own {k e rows g c cs us bs} (hc : 0 < c) (hk : ∀ r ∈ rows, r.length = k) (h : RowBlk w S k e rows g c) (hs : ¬ S g) (t : CVs w S cs us bs) :
      CVs w S (.own k e rows :: cs) (.slice (some ⟨g, 0, none⟩) rows.length c :: us) (g :: bs)

inductive Comps (w : World) (S : Nat → Prop) : List (Bool × List CV) → List Value → List Nat → Prop where
  | nil : Comps w S [] [] []
  | one {x u bs r vs bs'} (h : CVs w S [x] [u] bs) (t : Comps w S r vs bs') : Comps w S ((false, [x]) :: r) (u :: vs) (bs ++ bs')
  | agg {cs us bs r vs bs'} (h : CVs w S cs us bs) (t : Comps w S r vs bs') : Comps w S ((true, cs) :: r) (.agg us.toArray :: vs) (bs ++ bs')

def ResRep (w : World) (S : Nat → Prop) (r : Res) (v : Value) (bs : List Nat) : Prop :=
  if r.tup then ∃ vs : List Value, v = .tuple vs.toArray ∧ Comps w S r.cs vs bs else Comps w S r.cs [v] bs

/-- What a call leaves of memory: nothing old has turned but what it was let use up. -/
structure Foot (w w' : World) (S S' : Nat → Prop) (bs bs' : List Nat) : Prop where
  os : w'.os = w.os
  tape : w'.tape = w.tape
  output : w'.output = w.output
  hsize : w.heap.size ≤ w'.heap.size
  same : ∀ b, b < w.heap.size → b ∉ bs → w'.heap[b]? = w.heap[b]?
  sub : ∀ b, S b → S' b
  lim : ∀ b, S' b → b < w'.heap.size
  foot : ∀ b, S' b → S b ∨ b ∈ bs ∨ w.heap.size ≤ b
  own : ∀ b ∈ bs', ¬ S' b ∧ (b ∈ bs ∨ w.heap.size ≤ b) ∧ b < w'.heap.size

def Enterable (P : Program) (f : FuncId) : Prop := ∀ vals w, (callFunc f vals).run P w = .ok (.enter f vals) w

/-- THE CONTRACT: given these arguments, wherever they lie, the function answers that. -/
def Meets (P : Program) (f : FuncId) (args : List (Bool × List CV)) (res : Res) : Prop :=
  Enterable P f ∧ ∀ (w : World) (S : Nat → Prop) (vals : List Value) (bs : List Nat), (∀ b, S b → b < w.heap.size) → Comps w S args vals bs → bs.Nodup →
    Calls P f vals.toArray w fun e w' => ∃ v S' bs', e = .returned v ∧ ResRep w' S' res v bs' ∧ bs'.Nodup ∧ Foot w w' S S' bs bs'

def Ext.sem : Ext → Array Value → Sem Value
  | .overlaps t r => Extern.SlicesOverlaps.overlaps #[t, t] #[r]
  | .cmpString => Extern.BytealgCompare.compare
  | .countString => Extern.BytealgCount.count
  | .indexByteString => Extern.BytealgIndexByte.indexByte

/-- The function f has no body; the model tells it so. -/
def ExtOk (P : Program) (f : FuncId) (e : Ext) : Prop :=
  ∃ fn, P.funcs[f]? = some fn ∧ (fn.name == "runtime.NumGoroutine") = false ∧ fn.body.isNone = true ∧ Extern.findNext fn = none ∧ Extern.find fn = some e.sem

structure CtxOk (P : Program) (Γ : Ctx) : Prop where
  ty : ∀ t ti, Γ.ty t = some ti → TyOk P t ti
  ext : ∀ f e, Γ.ext f = some e → ExtOk P f e

section runs
variable {P : Program} {Γ : Ctx} (hΓ : CtxOk P Γ)
include hΓ

theorem run_typeInfo' {t : TypeId} {ti : TI} (h : Γ.ty t = some ti) (w : World) : ∃ i z, (typeInfo t).run P w = .ok i w ∧ P.info? t = some i ∧ i.size = ti.size ∧ i.bytes = ti.bytes ∧ i.zero = some z ∧ All2 zeroRep ti.zero z.cells.toList := by
  obtain ⟨i, z, h1, h2⟩ := (hΓ.ty t ti h).info
  exact ⟨i, z, by simp [typeInfo, h1], h1, h2⟩

theorem run_sizeOf' {t : TypeId} {k : Nat} (h : Γ.size t = some k) (w : World) : (sizeOf t).run P w = .ok k w := by
  unfold Ctx.size at h
  cases hti : Γ.ty t with
  | none => rw [hti] at h; cases h
  | some ti =>
    rw [hti] at h; cases h
    obtain ⟨i, z, h1, _, h2, _⟩ := run_typeInfo' hΓ hti w
    simp [sizeOf, h1, h2]

theorem und_elem {t e : TypeId} (h : Γ.elem t = some e) : P.underlying t = some (.slice e) := by
  unfold Ctx.elem at h
  split at h
  · rename_i ti hti
    have hd := (hΓ.ty t ti hti).desc
    split at h
    · rename_i e' he
      rw [he] at hd
      cases h
      exact hd
    · cases h
  · cases h

theorem und_fields {t : TypeId} {fs : List (Nat × TypeId)} (h : Γ.fields t = some fs) : ∃ flds : Array Field, P.underlying t = some (.struct flds) ∧ fs = flds.toList.map (fun f => (f.offset, f.type)) ∧
    (∀ f ∈ flds.toList, f.name ≠ "_") ∧ P.eqGuardType P.depth t = false ∧ P.stoodInHeld t = false ∧ ∀ f ∈ flds.toList, (P.info? f.type).isSome = true := by
  unfold Ctx.fields at h
  split at h
  · rename_i ti hti
    have hd := (hΓ.ty t ti hti).desc
    split at h
    · rename_i e' he
      rw [he] at hd
      cases h
      exact hd
    · cases h
  · cases h

theorem und_some {t : TypeId} {ti : TI} (h : Γ.ty t = some ti) : ∃ d, P.underlying t = some d := by
  have hd := (hΓ.ty t ti h).desc
  cases hdd : ti.desc <;> rw [hdd] at hd
  · exact ⟨_, hd⟩
  · exact ⟨_, hd⟩
  · exact ⟨_, hd⟩
  · exact ⟨_, hd⟩
  · obtain ⟨d, hk, _⟩ := hd; exact ⟨_, hk⟩
  · exact ⟨_, hd⟩
  · obtain ⟨d, hk, _⟩ := hd; exact ⟨_, hk⟩

theorem run_isAgg' {t : TypeId} {b : Bool} (h : Γ.agg t = some b) (w : World) : (isAgg t).run P w = .ok b w := by
  unfold Ctx.agg at h
  split at h
  · rename_i ti hti
    have hd := (hΓ.ty t ti hti).desc
    cases hdd : ti.desc <;> rw [hdd] at hd h <;> cases h
    · have hk : P.underlying t = some (.int _) := hd; simp [isAgg, run_underlying hk]
    · have hk : P.underlying t = some .bool := hd; simp [isAgg, run_underlying hk]
    · have hk : P.underlying t = some .string := hd; simp [isAgg, run_underlying hk]
    · have hk : P.underlying t = some (.pointer _) := hd; simp [isAgg, run_underlying hk]
    · obtain ⟨d, hk, h1, h2⟩ := hd
      simp only [isAgg, Sem.run_bind, run_underlying hk, Result.andThen_ok]
      cases d <;> first | rfl | exact absurd rfl (h1 _) | exact absurd rfl (h2 _ _)
    · have hk : P.underlying t = some (.slice _) := hd; simp [isAgg, run_underlying hk]
    · obtain ⟨d, hk, _⟩ := hd; simp [isAgg, run_underlying hk]
  · cases h

end runs

section
variable {P : Program} {Γ : Ctx} {c : Base} {nt : Nat} {env : Nat → AT} {ob : Nat → Option AObj} {ρ : Where} {S : Nat → Prop} {a : Act} {w : World}

theorem eval_rep (hr : Rel c nt env ob ρ S a w) (t : TypeId) (x : Operand) : RepT ρ w S (aval Γ env t x) (a.eval x) := by
  cases x with
  | tmp n => exact hr.env n
  | const v =>
    simp only [aval, Act.eval, constT]
    split
    · split
      · split
        · exact ⟨_, rfl, none, rfl⟩
        · trivial
      · trivial
    · exact ⟨_, rfl, .v _ rfl⟩
    · exact ⟨_, rfl, .v _ rfl⟩
    · exact ⟨_, rfl, .v _ rfl⟩
    · exact ⟨_, rfl, .v _ rfl⟩
    · exact ⟨_, rfl, .v _ rfl⟩
    · trivial
  | global g => trivial
  | func f => exact ⟨_, rfl, .fn f [] #[] rfl (fun j d u h => by simp at h)⟩

theorem wp_value {o : Oper} {v : Value} {w' : World} {K : Act → World → Prop} {Q : Exit → Act → World → Prop} (h : (execOp a.eval o).run P w = .ok (.value v) w') (hk : K (a.put o.dst v) w') : o.wp P a w K Q := by
  unfold Oper.wp; rw [h]; exact hk
theorem wp_skip' {o : Oper} {w' : World} {K : Act → World → Prop} {Q : Exit → Act → World → Prop} (h : (execOp a.eval o).run P w = .ok .skip w') (hk : K (a.put o.dst undef) w') : o.wp P a w K Q := by
  unfold Oper.wp; rw [h]; exact hk

/-- What is shown of each operation: from related states it goes to related states; new objects bear the region's own numbers. -/
def Goes (P : Program) (c : Base) (nt N : Nat) (env : Nat → AT) (ob : Nat → Option AObj) (ρ : Where) (a : Act) (w : World) (o : Oper) (r : AOut) : Prop :=
  ∀ Q : Exit → Act → World → Prop, o.wp P a w (fun a' w' => ∃ ρ' S', Rel c nt (putF env o.dst r.out) (updO r.upd ob) ρ' S' a' w' ∧ ∀ n, n < N ∨ N + 8 ≤ n → ρ' n = ρ n) Q

theorem goes_value (hr : Rel c nt env ob ρ S a w) {N : Nat} {o : Oper} {v : Value} {out : AT} {tc : List Nat} (hd : dstOk nt o.dst = true) (h : (execOp a.eval o).run P w = .ok (.value v) w)
    (hv : RepT ρ w S out v) : Goes P c nt N env ob ρ a w o ⟨out, [], tc⟩ :=
  fun _ => wp_value h ⟨ρ, S, hr.value hd hv, fun _ _ => rfl⟩

theorem one_rep {t : AT} {x : AV} {v : Value} (h : RepT ρ w S t v) (hx : t.one? = some x) : RepAV ρ w S x v := by
  unfold AT.one? at hx
  split at hx
  · cases hx
    obtain ⟨y, h1, h2⟩ := h
    cases h1; exact h2
  · cases hx

theorem cells_rep {t : AT} {xs : List AV} {v : Value} (h : RepT ρ w S t v) (hx : t.cells? = some xs) : All2 (RepAV ρ w S) xs v.cells.toList := by
  unfold AT.cells? at hx
  split at hx
  · rename_i g ys
    cases hx
    cases g with
    | true => obtain ⟨us, rfl, h2⟩ := h; exact h2
    | false =>
      obtain ⟨y, rfl, h2⟩ := h
      rw [cells_one h2.one]
      exact .cons h2 .nil
  · cases hx

theorem bool_rep {t : AT} {b : Bool} {v : Value} (h : RepT ρ w S t v) (hx : t.bool? = some b) : v = .bool b := by
  unfold AT.bool? at hx
  split at hx
  · cases hx
    obtain ⟨y, h1, h2⟩ := h
    cases h1; cases h2; rfl
  · cases hx

theorem int_rep {t : AT} {n : Int} {v : Value} (h : RepT ρ w S t v) (hx : t.int? = some n) : ∃ k, v = .int k n := by
  unfold AT.int? at hx
  split at hx
  · cases hx
    obtain ⟨y, h1, h2⟩ := h
    cases h1; cases h2; exact ⟨_, rfl⟩
  · cases hx

theorem v_rep {t : Value} {v : Value} (h : RepT ρ w S (.cs false [.d (.v t)]) v) : v = t := by
  obtain ⟨y, h1, h2⟩ := h
  cases h1; cases h2; rfl

theorem rep_int (k : IntKind) (n : Int) : RepT ρ w S (.cs false [.d (.v (.int k n))]) (.int k n) := ⟨_, rfl, .v _ rfl⟩
theorem rep_bool (b : Bool) : RepT ρ w S (.cs false [.d (.v (.bool b))]) (.bool b) := ⟨_, rfl, .v _ rfl⟩
theorem rep_string (b : ByteArray) : RepT ρ w S (.cs false [.d (.v (.string b))]) (.string b) := ⟨_, rfl, .v _ rfl⟩

theorem zero_rep {xs : List AV} {us : List Value} (h : All2 zeroRep xs us) : All2 (RepAV ρ w S) xs us :=
  h.mono fun x u hx => by
    cases x with
    | nils k => exact ⟨none, hx⟩
    | d y =>
      cases y with
      | v z => obtain ⟨rfl, h1⟩ := hx; exact .v _ h1
      | _ => exact hx.elim
    | _ => exact hx.elim

theorem zero_spare {xs : List AV} {us : List Value} (h : All2 zeroRep xs us) : ∀ u ∈ us, ∃ d, Rep w S d u := fun u hu => by
  obtain ⟨x, _, hx⟩ := h.mem_right u hu
  cases x with
  | nils k => exact ⟨.vec k [], by rw [show u = .slice none 0 0 from hx]; exact .vec k [] none 0 (fun _ _ => Go.undef) (Nat.le_refl _) (by simp [maxLen]) (by simp) (fun i j hi _ => absurd hi (by simp)) (fun i j r d hi _ => by simp at hi)⟩
  | d y =>
    cases y with
    | v z => obtain ⟨rfl, h1⟩ := hx; exact ⟨_, .v _ h1⟩
    | _ => exact hx.elim
  | _ => exact hx.elim

theorem zeroCells_rep {z : Array Value} (h : ∀ u ∈ z.toList, ∃ d, Rep w S d u) (h0 : 0 < z.size) (n : Nat) : ∀ u ∈ (Builtin.zeroCells z n).toList, ∃ d, Rep w S d u := fun u hu => by
  simp only [Builtin.zeroCells, Array.toList_map, List.mem_map] at hu
  obtain ⟨i, _, rfl⟩ := hu
  have hm : i % z.size < z.size := Nat.mod_lt _ h0
  refine h _ ?_
  simp only [getElem!_def, Array.getElem?_eq_getElem hm]
  exact Array.getElem_mem_toList hm

/-! ### Operations that only reckon -/

variable {N : Nat} {o : Oper} {r : AOut}

theorem sound_move (hr : Rel c nt env ob ρ S a w) (hd : dstOk nt o.dst = true) {x : Operand} (ho : o.op = .move x ∨ o.op = .assign x) (h : aop0 Γ N (aval Γ env) ob o = some r) : Goes P c nt N env ob ρ a w o r := by
  have hrun : (execOp a.eval o).run P w = .ok (.value (a.eval x)) w := by
    rcases ho with ho | ho <;> simp [execOp, ho]
  have hout : r = pureOut (aval Γ env o.type x) := by
    rcases ho with ho | ho <;> (simp only [aop0, ho] at h; cases h; rfl)
  subst hout
  exact goes_value hr hd hrun (eval_rep hr o.type x)

theorem sound_pick (hr : Rel c nt env ob ρ S a w) (hd : dstOk nt o.dst = true) {x y z : Operand} (ho : o.op = .pick x y z) (h : aop0 Γ N (aval Γ env) ob o = some r) : Goes P c nt N env ob ρ a w o r := by
  simp only [aop0, ho, Option.map_eq_some_iff] at h
  obtain ⟨q, hq, rfl⟩ := h
  have hc := bool_rep (eval_rep hr 0 x) hq
  refine goes_value hr hd (v := if q then a.eval y else a.eval z) ?_ ?_
  · simp only [execOp, ho, hc, asBool]
    cases q <;> simp
  · cases q
    · exact eval_rep hr o.type z
    · exact eval_rep hr o.type y

theorem sound_unOp (hr : Rel c nt env ob ρ S a w) (hd : dstOk nt o.dst = true) {op : UnOp} {t : TypeId} {x : Operand} (ho : o.op = .unOp op t x) (h : aop0 Γ N (aval Γ env) ob o = some r) : Goes P c nt N env ob ρ a w o r := by
  simp only [aop0, ho] at h
  have hx := eval_rep (Γ := Γ) hr t x
  split at h
  · rename_i e
    cases h
    rw [e] at hx
    have := v_rep hx
    exact goes_value hr hd (v := .bool _) (by simp [execOp, ho, this, Op.unary]) (rep_bool _)
  · rename_i e
    cases h
    rw [e] at hx
    have := v_rep hx
    exact goes_value hr hd (v := .int _ _) (by simp [execOp, ho, this, Op.unary, Op.intArith]) (rep_int _ _)
  · cases h

theorem scal2_run {op : BinOp} {t : TypeId} {u v z : Value} {x y : Operand} (h : scal2 op u v = some z) :
    z.oneCell' = true ∧ (do eqGuard op t x y u v; binOp op t u v : Sem Value).run P w = .ok z w := by
  unfold scal2 at h
  split at h
  · split at h
    · rename_i hk
      subst hk
      split at h <;> first
        | (cases h; refine ⟨rfl, ?_⟩; simp [binOp, Op.intArith, Op.intCmp, eqGuard_at_int]; done)
        | (split at h
           · cases h
           · rename_i hb
             cases h
             refine ⟨rfl, ?_⟩
             simp [binOp, Op.intDiv, Op.shift, eqGuard_at_int, hb])
        | cases h
    · cases h
  · split at h <;> first
      | (cases h; refine ⟨rfl, ?_⟩; simp [binOp, Op.stringOp, eqGuard_at_string]; done)
      | (split at h
         · rename_i hb
           cases h
           refine ⟨rfl, ?_⟩
           simp [binOp, Op.stringOp, eqGuard_at_string]
           omega
         · cases h)
      | cases h
  · cases h

end
end Go.Eng
