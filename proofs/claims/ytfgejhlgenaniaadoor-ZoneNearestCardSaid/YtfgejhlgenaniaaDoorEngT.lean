/- Regions, calls and control, told by equations; all is sound. -/
import Derived.Test.YtfgejhlgenaniaaDoorEngS
import Derived.KernelRfl
namespace Go.Eng

/-- What a step has to do with others. -/
structure Ft where
  rt : List Nat
  ro : List Nat
  dst : Option Tmp
  keys : List Nat

def Acc.ft (x : Acc) : Ft := ⟨x.rt, x.ro, x.dst, x.upd.map (·.1)⟩

def clashF (x y : Ft) : Bool := clash ⟨x.rt, x.ro, x.dst, .junk, x.keys.map fun k => (k, none)⟩ ⟨y.rt, y.ro, y.dst, .junk, y.keys.map fun k => (k, none)⟩

theorem clash_ft (x y : Acc) : clashF x.ft y.ft = clash x y := by
  have h : ∀ z : Acc, (z.ft.keys.map fun k => ((k, none) : Nat × Option AObj)).map (·.1) = z.upd.map (·.1) := fun z => by
    simp [Acc.ft, Function.comp_def]
  simp only [clashF, clash, h]
  rfl

def pairsF (masks : List Nat) (xs : List Ft) : Bool :=
  (List.range xs.length).all fun j => (List.range j).all fun i => match xs[i]?, xs[j]? with
    | some x, some y => !(clashF x y) || (masks.getD j 0).testBit i
    | _, _ => true

def drawF (ops : List Oper) (xs : List Ft) : Bool := backOk 0 ops && pairsF (masksFrom [] ops) xs

structure Reg where
  ops : List Oper
  N : Nat
  draw : Bool
  Q : Exit → St → Prop

theorem vsw_true (A B : Prop) : vsw true A B = A := by simp [vsw]
theorem vsw_false (A B : Prop) : vsw false A B = B := by simp [vsw]
theorem vsw_congr {b b' : Bool} {A B : Prop} (h : b = b') : vsw b A B = vsw b' A B := by rw [h]

abbrev boolT (b : Bool) : AT := .cs false [.d (.v (.bool b))]

/-- What a guard's temporary tells: from then on it is known. -/
def vgd (t : Nat) (env : List (Nat × AT)) (want : Bool) (no yes : List (Nat × AT) → Prop) : AT → Prop
  | .cs false [.d (.v (.bool b))] => vsw (b == want) (yes ((t, boolT want) :: env)) (no ((t, boolT !want) :: env))
  | .undef => no env
  | _ => False

theorem vgd_elim {t : Nat} {env : List (Nat × AT)} {y : AT} {want : Bool} {no yes : List (Nat × AT) → Prop} (h : vgd t env want no yes y) : (∃ b, y = .cs false [.d (.v (.bool b))] ∧ vsw (b == want) (yes ((t, boolT want) :: env)) (no ((t, boolT !want) :: env))) ∨ (y = .undef ∧ no env) := by
  cases y with
  | undef => exact .inr ⟨rfl, h⟩
  | junk => exact h.elim
  | tup ts => exact h.elim
  | cs g xs =>
    unfold vgd at h
    split at h
    · rename_i b e; exact .inl ⟨b, e, h⟩
    · rename_i e; cases e
    · exact h.elim

def vguardT (env : List (Nat × AT)) (want : Bool) (no yes : List (Nat × AT) → Prop) : Option Tmp → Prop
  | none => no env
  | some t => vgd t env want no yes (getE env t)

def vguard (ops : List Oper) (env : List (Nat × AT)) (no yes : List (Nat × AT) → Prop) : Option (Nat × Bool) → Prop
  | none => yes env
  | some (j, want) => vguardT env want no yes ((ops[j]?).bind (·.dst))

def convOf (objs : List (Nat × Option AObj)) : Option (FuncId × List (Bool × List AV)) → Option (List (Bool × List CV))
  | some (_, A) => convArgs (getO objs) [] A
  | none => none

/-- A call: by its contract, or by a walk over the caller's objects. -/
def VCall (E : Sit) (R : Reg) (st : St) (j : Nat) (ca : Option (FuncId × List (Bool × List AV))) (cv : Option (List (Bool × List CV))) (K : Kop) (KH : AT → List (Nat × Option AObj) → Nat → Prop) : Prop :=
  cv = convOf st.objs ca → ∃ f A, ca = some (f, A) ∧ ((∃ es cargs res t news, convArgs (getO st.objs) es A = some cargs ∧ Meets E.P f cargs res ∧ res.out (R.N + 8 * j) = some (t, news) ∧ callOk (getO st.objs) es A news.length = true ∧
      K t (news ++ callUpd (getO st.objs) es A res.scalar) (callTouch A)) ∨ (R.draw = false ∧ HCall E f A st.objs (R.N + 8 * j) KH))

/-- A round of a loop over a function. -/
def YCall (E : Sit) (draw : Bool) (n : Nat) (A : List (Bool × List AV)) (objs : List (Nat × Option AObj)) (next : Nat) (K : AT → List (Nat × Option AObj) → Nat → Prop) : Prop :=
  draw = false ∧ HYield E n A objs next K

def vyld (y : Option (Nat × List (Bool × List AV))) (Y : Nat → List (Bool × List AV) → Prop) (B : Prop) : Prop := match y with
  | none => B
  | some p => Y p.1 p.2

def isCall (Γ : Ctx) (o : Op) : Bool := match o with
  | .call c => match c.callee with
    | .value (.func f) => (Γ.ext f).isNone
    | .value _ => true
    | _ => false
  | _ => false

/-- The drawn order does not matter. -/
def DrawOk (R : Reg) (acc : List Ft) : Prop := R.draw = true → drawF R.ops acc.reverse = true
theorem DrawOk.plain {ops : List Oper} {N : Nat} {Q : Exit → St → Prop} {acc : List Ft} : DrawOk ⟨ops, N, false, Q⟩ acc = True := by simp [DrawOk]
theorem DrawOk.yes {R : Reg} {acc : List Ft} (h : drawF R.ops acc.reverse = true) : DrawOk R acc := fun _ => h

/-- A compare with nil: both ways. -/
def vnilq (Γ : Ctx) (draw : Bool) (objs : List (Nat × Option AObj)) (ev : TypeId → Operand → AT) (K : Bool → Prop) (B : Prop) : Option (TypeId × Operand × Bool) → Prop
  | none => B
  | some (t, x, want) => draw = false ∧ vo (Γ.elem t) fun _ => vo (ev t x).one? fun v => vo (rowsOf (getO objs) v) fun q => 0 < q.1 ∧ ∀ b, (q.2.1 ≠ [] → b = false) → K (b == want)

def vrun (E : Sit) : Reg → Nat → List Ft → List Oper → St → Prop
  | R, j, acc, [], st => DrawOk R acc ∧ R.Q .normal ⟨st.nt, st.env, st.objs, R.N + 8 * j⟩
  | R, j, acc, o :: rest, st => dstOk st.nt o.dst = true ∧ vguard R.ops st.env
      (fun env => vrun E R (j + 1) (⟨guardT R.ops.toArray o, [], o.dst, []⟩ :: acc) rest ⟨st.nt, putE env o.dst .undef, st.objs, st.next⟩)
      (fun env => vnilq E.Γ R.draw st.objs (aval E.Γ (getE env)) (fun b => vrun E R (j + 1) acc rest ⟨st.nt, putE env o.dst (.cs false [.d (.v (.bool b))]), st.objs, st.next⟩) (vsw (isCall E.Γ o.op)
        (vyld (yieldA (aval E.Γ (getE env)) o) (fun n A => YCall E R.draw n A st.objs (R.N + 8 * j) (fun t objs' next' => vrun E ⟨R.ops, next', R.draw, R.Q⟩ (j + 1) acc rest ⟨st.nt, putE env o.dst t, objs', st.next⟩))
        (VCall E R ⟨st.nt, env, st.objs, st.next⟩ j (callArgs (aval E.Γ (getE env)) o) (convOf st.objs (callArgs (aval E.Γ (getE env)) o)) (fun out upd touch =>
            vrun E R (j + 1) (⟨guardT R.ops.toArray o ++ o.op.operands.toList.flatMap opTemps, touch, o.dst, upd.map (·.1)⟩ :: acc) rest ⟨st.nt, putE env o.dst out, upd ++ st.objs, st.next⟩)
            (fun t objs' next' => vrun E ⟨R.ops, next', R.draw, R.Q⟩ (j + 1) acc rest ⟨st.nt, putE env o.dst t, objs', st.next⟩)))
        (vop E.Γ (R.N + 8 * j) st.objs (aval E.Γ (getE env)) o.type (fun out upd touch =>
            vrun E R (j + 1) (⟨guardT R.ops.toArray o ++ o.op.operands.toList.flatMap opTemps, touch, o.dst, upd.map (·.1)⟩ :: acc) rest ⟨st.nt, putE env o.dst out, upd ++ st.objs, st.next⟩) o.op)) (nilq o.op))
      o.guard

/-- What an operation may do: a step; a call by a walk; a compare with nil. -/
def Does (E : Sit) (R : Reg) (j : Nat) (acc : List Ft) (o : Oper) (rest : List Oper) (st : St) (env : List (Nat × AT)) : Prop :=
  (∃ x, AStepF E.P E.Γ R.ops.toArray R.N st.nt j o (getE env) (getO st.objs) x ∧ vrun E R (j + 1) (x.ft :: acc) rest ((⟨st.nt, env, st.objs, st.next⟩ : St).apply x)) ∨
    (R.draw = false ∧ guardA R.ops.toArray (getE env) o = some true ∧ dstOk st.nt o.dst = true ∧ ((∃ f A, callArgs (aval E.Γ (getE env)) o = some (f, A) ∧
      HCall E f A st.objs (R.N + 8 * j) fun t objs' next' => vrun E ⟨R.ops, next', R.draw, R.Q⟩ (j + 1) acc rest ⟨st.nt, putE env o.dst t, objs', st.next⟩) ∨
      (∃ n A, yieldA (aval E.Γ (getE env)) o = some (n, A) ∧ HYield E n A st.objs (R.N + 8 * j) fun t objs' next' => vrun E ⟨R.ops, next', R.draw, R.Q⟩ (j + 1) acc rest ⟨st.nt, putE env o.dst t, objs', st.next⟩) ∨
      ∃ t x want e v q, nilq o.op = some (t, x, want) ∧ E.Γ.elem t = some e ∧ (aval E.Γ (getE env) t x).one? = some v ∧ rowsOf (getO st.objs) v = some q ∧ 0 < q.1 ∧
        ∀ b, (q.2.1 ≠ [] → b = false) → vrun E R (j + 1) acc rest ⟨st.nt, putE env o.dst (.cs false [.d (.v (.bool (b == want)))]), st.objs, st.next⟩))

/-- The steps that o may take from here; what has to be known behind it. -/
theorem vstep_sound {E : Sit} {R : Reg} {j : Nat} {acc : List Ft} {o : Oper} {rest : List Oper} {st : St} (h : vrun E R j acc (o :: rest) st) :
    ∃ env, getE env = getE st.env ∧ Does E R j acc o rest st env := by
  simp only [vrun] at h
  obtain ⟨hd, h⟩ := h
  have no : ∀ env, getE env = getE st.env → guardA R.ops.toArray (getE env) o = some false → vrun E R (j + 1) (⟨guardT R.ops.toArray o, [], o.dst, []⟩ :: acc) rest ⟨st.nt, putE env o.dst .undef, st.objs, st.next⟩ →
      ∃ env, getE env = getE st.env ∧ Does E R j acc o rest st env :=
    fun env he hg hv => ⟨env, he, .inl ⟨⟨guardT R.ops.toArray o, [], o.dst, .undef, []⟩, ⟨hd, .inl ⟨hg, rfl⟩⟩, hv⟩⟩
  have yes := fun (env : List (Nat × AT)) (he : getE env = getE st.env) (hg : guardA R.ops.toArray (getE env) o = some true) (hv : vnilq E.Γ R.draw st.objs (aval E.Γ (getE env)) (fun b => vrun E R (j + 1) acc rest ⟨st.nt, putE env o.dst (.cs false [.d (.v (.bool b))]), st.objs, st.next⟩) (vsw (isCall E.Γ o.op)
        (vyld (yieldA (aval E.Γ (getE env)) o) (fun n A => YCall E R.draw n A st.objs (R.N + 8 * j) (fun t objs' next' => vrun E ⟨R.ops, next', R.draw, R.Q⟩ (j + 1) acc rest ⟨st.nt, putE env o.dst t, objs', st.next⟩))
        (VCall E R ⟨st.nt, env, st.objs, st.next⟩ j (callArgs (aval E.Γ (getE env)) o) (convOf st.objs (callArgs (aval E.Γ (getE env)) o)) (fun out upd touch =>
            vrun E R (j + 1) (⟨guardT R.ops.toArray o ++ o.op.operands.toList.flatMap opTemps, touch, o.dst, upd.map (·.1)⟩ :: acc) rest ⟨st.nt, putE env o.dst out, upd ++ st.objs, st.next⟩)
            (fun t objs' next' => vrun E ⟨R.ops, next', R.draw, R.Q⟩ (j + 1) acc rest ⟨st.nt, putE env o.dst t, objs', st.next⟩)))
        (vop E.Γ (R.N + 8 * j) st.objs (aval E.Γ (getE env)) o.type (fun out upd touch =>
            vrun E R (j + 1) (⟨guardT R.ops.toArray o ++ o.op.operands.toList.flatMap opTemps, touch, o.dst, upd.map (·.1)⟩ :: acc) rest ⟨st.nt, putE env o.dst out, upd ++ st.objs, st.next⟩) o.op)) (nilq o.op)) =>
    show ∃ env, getE env = getE st.env ∧ Does E R j acc o rest st env from by
      refine ⟨env, he, ?_⟩
      cases hq : nilq o.op with
      | some p =>
        obtain ⟨t, x, want⟩ := p
        rw [hq] at hv
        obtain ⟨h0, e, h1, v, h2, q, h3, h4, h5⟩ := hv
        exact .inr ⟨h0, hg, hd, .inr (.inr ⟨t, x, want, e, v, q, hq, h1, h2, h3, h4, h5⟩)⟩
      | none =>
      rw [hq] at hv
      simp only [vnilq] at hv
      cases hc : isCall E.Γ o.op with
      | false =>
        rw [hc, vsw_false] at hv
        obtain ⟨fz, r, h1, h2, h3⟩ := vop_sound hv
        exact .inl ⟨⟨guardT R.ops.toArray o ++ o.op.operands.toList.flatMap opTemps, fz ++ r.touch, o.dst, r.out, r.upd ++ fz.map (frz (getO st.objs))⟩, ⟨hd, .inr ⟨hg, .inl ⟨fz, r, h1, h2, rfl⟩⟩⟩, h3⟩
      | true =>
        rw [hc, vsw_true] at hv
        cases hy : yieldA (aval E.Γ (getE env)) o with
        | some p =>
          obtain ⟨n, A⟩ := p
          rw [hy] at hv
          exact .inr ⟨hv.1, hg, hd, .inr (.inl ⟨n, A, hy, hv.2⟩)⟩
        | none =>
        rw [hy] at hv
        obtain ⟨f, A, hca, h1⟩ := hv rfl
        rcases h1 with ⟨es, cargs, res, t, news, h2, h3, h4, h5, h6⟩ | ⟨h2, h3⟩
        · exact .inl ⟨⟨guardT R.ops.toArray o ++ o.op.operands.toList.flatMap opTemps, callTouch A, o.dst, t, news ++ callUpd (getO st.objs) es A res.scalar⟩, ⟨hd, .inr ⟨hg, .inr ⟨f, A, es, cargs, res, t, news, hca, h2, h3, h4, h5, rfl⟩⟩⟩, h6⟩
        · exact .inr ⟨h2, hg, hd, .inl ⟨f, A, hca, h3⟩⟩
  cases hgd : o.guard with
  | none =>
    rw [hgd] at h
    exact yes st.env rfl (by simp [guardA, hgd]) h
  | some p =>
    obtain ⟨g, want⟩ := p
    rw [hgd] at h
    simp only [vguard] at h
    cases ht : (R.ops[g]?).bind (·.dst) with
    | none =>
      rw [ht] at h
      exact no st.env rfl (by simp [guardA, hgd, ht]) h
    | some t =>
      rw [ht] at h
      simp only [vguardT] at h
      rcases vgd_elim h with ⟨b, he, h1⟩ | ⟨he, h1⟩
      · have same : ∀ q, b = q → getE ((t, boolT q) :: st.env) = getE st.env := fun q hq => by
          funext n
          simp only [getE]
          split
          · rename_i e; rw [e, he, hq]
          · rfl
        cases hb : b == want with
        | true =>
          have hbw : b = want := by simpa using hb
          refine yes _ (same want hbw) ?_ (h1.1 hb)
          rw [same want hbw]
          simp [guardA, hgd, ht, he, hbw]
        | false =>
          have hbw : b = !want := by cases b <;> cases want <;> simp_all
          refine no _ (same (!want) hbw) ?_ (h1.2 hb)
          rw [same (!want) hbw]
          simp [guardA, hgd, ht, he, hb]
      · exact no st.env rfl (by simp [guardA, hgd, ht, he]) h1

theorem runS_env {E : Sit} {l : List Oper} {N j : Nat} {Q : Exit → St → Prop} {st : St} {env : List (Nat × AT)} (he : getE env = getE st.env) (h : RunS E l N j Q ⟨st.nt, env, st.objs, st.next⟩) : RunS E l N j Q st := by
  intro c a w hc hr
  refine h c a w hc ?_
  unfold RelE at hr ⊢
  simp only [he]
  exact hr

theorem vrun_plain {E : Sit} (hE : SitOk E) : ∀ (rest : List Oper) (R : Reg) (j : Nat) (acc : List Ft) (st : St), (∀ i, rest[i]? = R.ops[j + i]?) → R.draw = false → vrun E R j acc rest st → RunS E R.ops R.N j R.Q st
  | [], R, j, acc, st, hl, _, h => by
    simp only [vrun] at h
    refine runS_end ?_ h.2
    have := hl 0
    simp only [List.getElem?_nil, Nat.add_zero] at this
    exact List.getElem?_eq_none_iff.1 this.symm
  | o :: rest, R, j, acc, st, hl, hdr, h => by
    have ho : R.ops[j]? = some o := by simpa using (hl 0).symm
    have hl' : ∀ i, rest[i]? = R.ops[j + 1 + i]? := fun i => by have := hl (i + 1); simpa [Nat.add_assoc, Nat.add_comm 1 i] using this
    obtain ⟨env, he, hs⟩ := vstep_sound h
    refine runS_env he ?_
    rcases hs with ⟨x, h1, h2⟩ | ⟨_, hg, hd, ⟨f, A, hca, h1⟩ | ⟨n, A, hy, h1⟩ | ⟨t, x, want, e, v, q, hq, h1, h2, h3, h4, h5⟩⟩
    · exact runS_step hE ho h1 (vrun_plain hE rest R (j + 1) _ _ hl' hdr h2)
    · refine runS_hcall (st := ⟨st.nt, env, st.objs, st.next⟩) ho hg hd hca (h1.mono fun t objs' next' hv => ⟨next', by omega, ?_⟩)
      exact vrun_plain hE rest ⟨R.ops, next', R.draw, R.Q⟩ (j + 1) _ _ hl' hdr hv
    · refine runS_yield (st := ⟨st.nt, env, st.objs, st.next⟩) ho hg hd hy (h1.mono fun t objs' next' hv => ⟨next', by omega, ?_⟩)
      exact vrun_plain hE rest ⟨R.ops, next', R.draw, R.Q⟩ (j + 1) _ _ hl' hdr hv
    · exact runS_nilq (st := ⟨st.nt, env, st.objs, st.next⟩) hE ho hg hd hq h1 h2 h3 h4 fun b hb => vrun_plain hE rest R (j + 1) acc _ hl' hdr (h5 b hb)

theorem vrun_draw {E : Sit} : ∀ (rest : List Oper) (R : Reg) (j : Nat) (acc : List Ft) (st : St), (∀ i, rest[i]? = R.ops[j + i]?) → R.draw = true → vrun E R j acc rest st →
    ∃ st' xs, ARun E.P E.Γ R.ops.toArray R.N j rest st st' xs ∧ drawF R.ops (acc.reverse ++ xs.map Acc.ft) = true ∧ R.Q .normal ⟨st'.nt, st'.env, st'.objs, R.N + 8 * (j + rest.length)⟩
  | [], R, j, acc, st, hl, hdr, h => by
    simp only [vrun] at h
    exact ⟨st, [], .nil, by simpa using h.1 hdr, by simpa using h.2⟩
  | o :: rest, R, j, acc, st, hl, hdr, h => by
    have hl' : ∀ i, rest[i]? = R.ops[j + 1 + i]? := fun i => by have := hl (i + 1); simpa [Nat.add_assoc, Nat.add_comm 1 i] using this
    obtain ⟨env, he, hs⟩ := vstep_sound h
    rcases hs with ⟨x, h1, h2⟩ | ⟨h1, _⟩
    · obtain ⟨st', xs, h3, h4, h5⟩ := vrun_draw rest R (j + 1) _ _ hl' hdr h2
      refine ⟨st', x :: xs, .env he (.cons (st := ⟨st.nt, env, st.objs, st.next⟩) h1 h3), by simpa using h4, ?_⟩
      have e : j + (o :: rest).length = j + 1 + rest.length := by simp; omega
      rw [e]; exact h5
    · rw [hdr] at h1; cases h1

theorem drawF_eq (ops : List Oper) (xs : List Acc) : drawF ops (xs.map Acc.ft) = drawOk ops xs := by
  unfold drawF drawOk
  congr 1
  unfold pairsF pairsOk
  simp only [List.length_map, List.getElem?_map]
  congr 1
  funext j
  congr 1
  funext i
  cases h1 : xs[i]? <;> cases h2 : xs[j]? <;> simp [clash_ft]

def noGotoQ (Q : Exit → St → Prop) : Exit → St → Prop
  | .goto _, _ => False
  | e, st => Q e st

/-- What code asks. -/
def vc (E : Sit) : Code → (Exit → St → Prop) → St → Prop
  | .skip, Q, st => Q .normal st
  | .region _ ops draw, Q, st => vrun E ⟨ops.toList, st.next, draw, Q⟩ 0 [] ops.toList st
  | .seq a b, Q, st => vc E a (thenQ (vc E b Q) Q) st
  | .cond x a b, Q, st => vcond (aval E.Γ (getE st.env) 0 x).bool? (vc E a Q st) (vc E b Q st)
  | .block id c, Q, st => vc E c (blockQ id Q) st
  | .exit id, Q, st => Q (.exit id) st
  | .label _, Q, st => Q .normal st
  | .ret, Q, st => Q .ret st
  | .scope c, Q, st => vc E c (noGotoQ Q) st
  | c, Q, st => AWp E c Q st

theorem stepR_scope {P : Program} {b : Frame} {a : Act} {k : List Item} {cs : List Frame} {w : World} {c : Code} : step P (lone (b.atR a (.code (.scope c) :: k)) cs w) = .next (lone (b.atR a (.code c :: .inScope c :: k)) cs w) :=
  step_lone_go (by simp [stepG, stepG.exec, Frame.atR])
theorem stepR_inScope {P : Program} {b : Frame} {a : Act} {k : List Item} {cs : List Frame} {w : World} {c : Code} : step P (lone (b.atR a (.inScope c :: k)) cs w) = .next (lone (b.atR a k) cs w) :=
  step_lone_go (by simp [stepG, stepG.exec, Frame.atR])

theorem awp_scope {E : Sit} {c : Code} {Q : Exit → St → Prop} {st : St} (h : AWp E c (noGotoQ Q) st) : AWp E (.scope c) Q st := by
  intro cb a w hc hr b k cs hro hb hroom
  have h0 : (lone (b.atR a (.code (.scope c) :: k)) cs w).fenced E.P (wf E.ro) := fenced_calm hb hroom rfl
  obtain ⟨e, a₁, w₁, ⟨st', hq1, hq⟩, harr⟩ := h cb a w hc hr b (.inScope c :: k) cs hro hb hroom
  cases e with
  | normal => exact ⟨.normal, a₁, w₁, ⟨st', hq1, hq⟩, .head h0 stepR_scope (StepsIn.trans harr (.one (fenced_calm hb hroom rfl) stepR_inScope))⟩
  | exit id =>
    refine ⟨.exit id, a₁, w₁, ⟨st', hq1, hq⟩, ?_⟩
    have h1 := harr.1
    have h2 := harr.2
    refine ⟨fun k' hk => .head h0 stepR_scope (h1 k' (by simp [exitTo, hk])), fun hn hk => ?_⟩
    obtain ⟨k1, hk1, hs⟩ := h2 hn (by simpa [exitTo] using hk)
    exact ⟨k1, hk1, .head h0 stepR_scope hs⟩
  | goto l => exact hq.elim
  | ret => exact ⟨_, a₁, w₁, ⟨st', hq1, hq⟩, .of_steps (.one h0 stepR_scope) (.pass (x := .inLoop c) rfl (fun _ _ => .inl (by simp)) (by
      refine ⟨fun hn => ?_, fun hn => ?_⟩
      · exact harr.1 hn
      · obtain ⟨k1, hs⟩ := harr.2 hn
        exact ⟨k1, hs⟩))⟩
  | panic ch => exact ⟨_, a₁, w₁, ⟨st', hq1, hq⟩, .of_steps (.one h0 stepR_scope) harr⟩
  | outgrown => exact ⟨_, a₁, w₁, ⟨st', hq1, hq⟩, .of_steps (.one h0 stepR_scope) harr⟩

theorem vc_sound {E : Sit} (hE : SitOk E) : ∀ (c : Code) (Q : Exit → St → Prop) (st : St), vc E c Q st → AWp E c Q st
  | .skip, Q, st, h => awp_skip h
  | .region id ops draw, Q, st, h => by
    cases draw with
    | false => exact awp_runS (vrun_plain hE _ ⟨ops.toList, st.next, false, Q⟩ 0 [] st (fun i => by simp) rfl h)
    | true =>
      obtain ⟨st', xs, h1, h2, h3⟩ := vrun_draw _ ⟨ops.toList, st.next, true, Q⟩ 0 [] st (fun i => by simp) rfl h
      refine awp_draw hE (by simpa using h1) (by rw [← drawF_eq]; simpa using h2) (by simpa using h3)
  | .seq a b, Q, st, h => awp_seq (awp_mono (vc_sound hE a _ st h) fun e st' h1 => by
      cases e with
      | normal => exact vc_sound hE b Q st' h1
      | _ => exact h1)
  | .cond x a b, Q, st, h => by
    obtain ⟨q, hq, h1, h2⟩ := h
    exact awp_cond hq (fun e => vc_sound hE a Q st (h1 e)) (fun e => vc_sound hE b Q st (h2 e))
  | .block id c, Q, st, h => awp_block (vc_sound hE c _ st h)
  | .exit id, Q, st, h => awp_exit h
  | .label _, Q, st, h => awp_label h
  | .ret, Q, st, h => awp_ret h
  | .scope c, Q, st, h => awp_scope (vc_sound hE c _ st h)
  | .loop c, Q, st, h => h
  | .rangeFunc .., Q, st, h => h
  | .goto _, Q, st, h => h
  | .refuse _, Q, st, h => h

/-- Rounds of a loop, one by one. -/
def vcR (E : Sit) (x : Code) (Q : Exit → St → Prop) : Nat → St → Prop
  | 0, _ => False
  | m + 1, st => vc E x (thenQ (vcR E x Q m) Q) st
theorem vcR_sound {E : Sit} (hE : SitOk E) {x : Code} {Q : Exit → St → Prop} : ∀ (m : Nat) (st : St), vcR E x Q m st → AWpR E x Q m st
  | 0, _, h => h
  | m + 1, st, h => awp_mono (vc_sound hE _ _ st h) fun e st' h1 => by
      cases e with
      | normal => exact vcR_sound hE m st' h1
      | _ => exact h1

theorem awp_vc {E : Sit} (hE : SitOk E) {c : Code} {Q : Exit → St → Prop} {st : St} (h : vc E c Q st) : AWp E c Q st := vc_sound hE c Q st h

/-- What is handed back is what is said, as it stands. -/
def RetS (Γ : Ctx) (rs : List ResultVar) (res : Res) : Exit → St → Prop
  | .ret, st | .normal, st => vo (resAll Γ st rs) fun comps => FitsR (getO st.objs) comps res.cs ∧ (idsR comps res.cs).Nodup ∧ res.tup = !(rs.length == 1)
  | _, _ => False

theorem RetS.retQ {Γ : Ctx} {rs : List ResultVar} {res : Res} (e : Exit) (st : St) (h : RetS Γ rs res e st) : RetQ Γ rs res e st := by
  cases e with
  | ret => obtain ⟨comps, h1, h2⟩ := h; exact ⟨[], st, rfl, comps, h1, h2⟩
  | normal => obtain ⟨comps, h1, h2⟩ := h; exact ⟨[], st, rfl, comps, h1, h2⟩
  | _ => exact h.elim

/-- A contract at a call: own rows are lent. -/
theorem callP {E : Sit} {R : Reg} {st : St} {j : Nat} {f : FuncId} {A : List (Bool × List AV)} {cargs : List (Bool × List CV)} {K : Kop} {KH : AT → List (Nat × Option AObj) → Nat → Prop} {res : Res} (hm : Meets E.P f cargs res)
    (h : vo (res.out (R.N + 8 * j)) fun q => callOk (getO st.objs) [] A q.2.length = true ∧ K q.1 (q.2 ++ callUpd (getO st.objs) [] A res.scalar) (callTouch A)) : VCall E R st j (some (f, A)) (some cargs) K KH := by
  intro hcv
  obtain ⟨q, h1, h2, h3⟩ := h
  exact ⟨f, A, rfl, .inl ⟨[], cargs, res, q.1, q.2, hcv.symm, hm, h1, h2, h3⟩⟩

/-- A contract at a call: the own rows of some arguments are used up. -/
theorem callE (es : List Bool) {E : Sit} {R : Reg} {st : St} {j : Nat} {f : FuncId} {A : List (Bool × List AV)} {cv : Option (List (Bool × List CV))} {K : Kop} {KH : AT → List (Nat × Option AObj) → Nat → Prop}
    (h : vo (convArgs (getO st.objs) es A) fun cargs => ∃ res, Meets E.P f cargs res ∧ vo (res.out (R.N + 8 * j)) fun q => callOk (getO st.objs) es A q.2.length = true ∧ K q.1 (q.2 ++ callUpd (getO st.objs) es A res.scalar) (callTouch A)) : VCall E R st j (some (f, A)) cv K KH := by
  intro _
  obtain ⟨cargs, h0, res, hm, q, h1, h2, h3⟩ := h
  exact ⟨f, A, rfl, .inl ⟨es, cargs, res, q.1, q.2, h0, hm, h1, h2, h3⟩⟩

/-- A call by a walk. -/
theorem callH {E : Sit} {R : Reg} {st : St} {j : Nat} {f : FuncId} {A : List (Bool × List AV)} {cv : Option (List (Bool × List CV))} {K : Kop} {KH : AT → List (Nat × Option AObj) → Nat → Prop} (hd : R.draw = false)
    (h : HCall E f A st.objs (R.N + 8 * j) KH) : VCall E R st j (some (f, A)) cv K KH :=
  fun _ => ⟨f, A, rfl, .inr ⟨hd, h⟩⟩

end Go.Eng
