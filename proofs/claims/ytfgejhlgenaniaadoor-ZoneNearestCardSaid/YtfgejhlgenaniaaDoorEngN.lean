/- Control; forgetting; a function's contract from its body. -/
import Derived.Test.YtfgejhlgenaniaaDoorEngM
import Derived.LoopNIn
namespace Go.Eng

structure Pin where
  n : Nat
  free : List Nat
/-- Object o keeps its place. -/
def Pin.holds (p : Pin) (o : Nat) : Prop := o < p.n ∧ o ∉ p.free

/-- Where a walk stands: the program; the types; the round, if any; how many objects (from number 0 on), but for some, keep their places. -/
structure Sit where
  P : Program
  Γ : Ctx
  ro : Option Nat
  pin : Pin

structure SitOk (E : Sit) : Prop where
  ctx : CtxOk E.P E.Γ
  mix : E.P.follows .mixedOrders = true

/-- The base holds no more in place than the walk says. -/
def OkB (E : Sit) (c : Base) : Prop := ∀ o h, c.R o = some h → E.pin.holds o

def PostE (c : Base) (Q : Exit → St → Prop) : Exit → Act → World → Prop := fun e a' w' => ∃ st', RelE c st' st'.next a' w' ∧ Q e st'

/-- From a state st the code comes, by whatever way, to an exit and a state that Q lets. -/
def AWp (E : Sit) (code : Code) (Q : Exit → St → Prop) (st : St) : Prop :=
  ∀ (c : Base) (a : Act) (w : World), OkB E c → RelE c st st.next a w → code.wpIn (wf E.ro) 0 E.P (PostE c Q) a w

section
variable {E : Sit} {Q Q' : Exit → St → Prop} {st : St}

theorem awp_mono {code : Code} (h : AWp E code Q st) (hq : ∀ e st', Q e st' → Q' e st') : AWp E code Q' st :=
  fun c a w ho hr => wpIn_mono (h c a w ho hr) fun e _ _ ⟨st', h1, h2⟩ => ⟨st', h1, hq e st' h2⟩

theorem awp_skip (h : Q .normal st) : AWp E .skip Q st := fun _ _ _ _ hr => wpIn_skip ⟨st, hr, h⟩
theorem awp_label {l : Nat} (h : Q .normal st) : AWp E (.label l) Q st := fun _ _ _ _ hr => wpIn_label ⟨st, hr, h⟩
theorem awp_exit {id : Nat} (h : Q (.exit id) st) : AWp E (.exit id) Q st := fun _ _ _ _ hr => wpIn_exit ⟨st, hr, h⟩
theorem awp_ret (h : Q .ret st) : AWp E .ret Q st := fun _ _ _ _ hr => wpIn_ret ⟨st, hr, h⟩

def thenQ (K : St → Prop) (Q : Exit → St → Prop) : Exit → St → Prop
  | .normal, st => K st
  | e, st => Q e st

theorem awp_seq {x y : Code} (h : AWp E x (thenQ (AWp E y Q) Q) st) : AWp E (.seq x y) Q st := by
  intro c a w ho hr
  refine wpIn_seq (wpIn_mono (h c a w ho hr) fun e a' w' ⟨st', h1, h2⟩ => ?_)
  cases e with
  | normal => exact h2 c a' w' ho h1
  | _ => exact ⟨st', h1, h2⟩

def blockQ (id : Nat) (Q : Exit → St → Prop) : Exit → St → Prop
  | .exit id', st => if id' = id then Q .normal st else Q (.exit id') st
  | e, st => Q e st

theorem awp_block {id : Nat} {x : Code} (h : AWp E x (blockQ id Q) st) : AWp E (.block id x) Q st := by
  intro c a w ho hr
  refine wpIn_block (wpIn_mono (h c a w ho hr) fun e a' w' ⟨st', h1, h2⟩ => ?_)
  cases e with
  | exit id' =>
    simp only [Exit.inBlock, blockQ] at h2 ⊢
    split
    · rename_i hi; rw [if_pos hi] at h2; exact ⟨st', h1, h2⟩
    · rename_i hi; rw [if_neg hi] at h2; exact ⟨st', h1, h2⟩
  | _ => exact ⟨st', h1, h2⟩

theorem awp_cond {x : Operand} {y z : Code} {b : Bool} (hb : (aval E.Γ (getE st.env) 0 x).bool? = some b) (h1 : b = true → AWp E y Q st) (h2 : b = false → AWp E z Q st) : AWp E (.cond x y z) Q st := by
  intro c a w ho hr
  obtain ⟨ρ, S, hrel, hf⟩ := hr
  have hv := bool_rep (eval_rep (Γ := E.Γ) hrel 0 x) hb
  cases b with
  | true => exact wpIn_cond_true hv (h1 rfl c a w ho ⟨ρ, S, hrel, hf⟩)
  | false => exact wpIn_cond_false hv (h2 rfl c a w ho ⟨ρ, S, hrel, hf⟩)

theorem awp_draw (hE : SitOk E) {id : Nat} {ops : Array Oper} {st' : St} {xs : List Acc} (h : ARun E.P E.Γ ops st.next 0 ops.toList st st' xs) (hok : drawOk ops.toList xs = true) (hq : Q .normal { st' with next := st.next + 8 * ops.size }) : AWp E (.region id ops true) Q st :=
  fun _ _ _ _ hr => region_draw hE.ctx hE.mix h hok hr fun _ _ h1 => ⟨_, h1, hq⟩

/-- A loop: states, by a letter, that each round hands on; a number that goes down. -/
theorem awp_loop {x : Code} {ι : Type} (I : ι → St) (m : ι → Nat) (i : ι) (hi : ∀ c a w, OkB E c → RelE c st st.next a w → RelE c (I i) (I i).next a w)
    (round : ∀ i, AWp E x (thenQ (fun st' => ∃ j, m j < m i ∧ ∀ c a w, OkB E c → RelE c st' st'.next a w → RelE c (I j) (I j).next a w) Q) (I i)) : AWp E (.loop x) Q st := by
  intro c a w ho hr
  let Inv : Nat → Act → World → Prop := fun n a w => ∃ i, m i = n ∧ RelE c (I i) (I i).next a w
  have key : ∀ n a w, Inv n a w → (Code.loop x).wpIn (wf E.ro) 0 E.P (PostE c Q) a w := by
    intro n a w hI
    let μ : Act → World → Nat := fun a w => Classical.epsilon fun n => Inv n a w ∧ ∀ k, Inv k a w → n ≤ k
    have least : ∀ a w, (∃ n, Inv n a w) → Inv (μ a w) a w ∧ ∀ k, Inv k a w → μ a w ≤ k := by
      intro a w ⟨n, hn⟩
      refine Classical.epsilon_spec (p := fun n => Inv n a w ∧ ∀ k, Inv k a w → n ≤ k) ?_
      induction n using Nat.strongRecOn with
      | _ n ih =>
        by_cases hk : ∃ k, k < n ∧ Inv k a w
        · obtain ⟨k, h1, h2⟩ := hk
          exact ih k h1 h2
        · exact ⟨n, hn, fun k hk' => Nat.le_of_not_lt fun hlt => hk ⟨k, hlt, hk'⟩⟩
    refine wpIn_loop (fun a w => ∃ n, Inv n a w) μ ⟨n, hI⟩ (fun a w hI => ?_)
    obtain ⟨⟨i, hi, hrel⟩, _⟩ := least a w hI
    refine wpIn_mono (round i c a w ho hrel) fun e a' w' ⟨st', h1, h2⟩ => ?_
    cases e with
    | normal =>
      obtain ⟨j, hj, hw⟩ := h2
      have h3 : Inv (m j) a' w' := ⟨j, rfl, hw c a' w' ho h1⟩
      refine ⟨⟨_, h3⟩, ?_⟩
      have := (least a' w' ⟨_, h3⟩).2 _ h3
      omega
    | _ => exact ⟨st', h1, h2⟩
  exact key (m i) a w ⟨i, rfl, hi c a w ho hr⟩

/-- So many rounds at most, one by one. -/
def AWpR (E : Sit) (x : Code) (Q : Exit → St → Prop) : Nat → St → Prop
  | 0, _ => False
  | m + 1, st => AWp E x (thenQ (AWpR E x Q m) Q) st
theorem awp_rounds {x : Code} (m : Nat) (h : AWpR E x Q m st) : AWp E (.loop x) Q st := by
  intro c a w ho hr
  refine wpIn_loop_rounds m ?_
  induction m generalizing st a w with
  | zero => exact h.elim
  | succ m ih =>
    refine wpIn_mono (h c a w ho hr) fun e a' w' ⟨st', h1, h2⟩ => ?_
    cases e with
    | normal => exact ih h2 a' w' h1
    | _ => exact ⟨st', h1, h2⟩

/-- What holds of a state that says less. -/
theorem awp_weak {code : Code} {st' : St} (hw : ∀ c a w, OkB E c → RelE c st st.next a w → RelE c st' st'.next a w) (h : AWp E code Q st') : AWp E code Q st :=
  fun c a w ho hr => h c a w ho (hw c a w ho hr)

end

/-! ### Forgetting -/

def look (l : List (Nat × Nat)) (n : Nat) : Nat := match l with
  | [] => n
  | (a, b) :: r => if n = a then b else look r n

def CapV.ren (σ : Nat → Nat) : CapV → CapV
  | .ptr o off => .ptr (σ o) off
  | x => x

def AV.ren (σ : Nat → Nat) : AV → AV
  | .clo f ks => .clo f (ks.map (CapV.ren σ))
  | .ptr o off => .ptr (σ o) off
  | .own o => .own (σ o)
  | .eptr o k i j => .eptr (σ o) k i j
  | .win o k lo n => .win (σ o) k lo n
  | .wx o k lo n => .wx (σ o) k lo n
  | .yld o => .yld (σ o)
  | .vsl o n => .vsl (σ o) n
  | x => x

def AT.ren (σ : Nat → Nat) : AT → AT
  | .cs g xs => .cs g (xs.map (AV.ren σ))
  | .tup ts => .tup (ts.map fun t => (t.1, t.2.map (AV.ren σ)))
  | t => t

def AObj.ren (σ : Nat → Nat) : AObj → AObj
  | .var cells l => .var (cells.map (AV.ren σ)) l
  | .lp L => .lp { L with env := L.env.map fun p => (p.1, p.2.ren σ) }
  | x => x

def CapV.below (n : Nat) : CapV → Prop
  | .ptr o _ => o < n
  | _ => True

def AV.below (n : Nat) : AV → Prop
  | .clo _ ks => ∀ x ∈ ks, x.below n
  | .ptr o _ | .own o | .eptr o .. | .win o .. | .wx o .. | .yld o | .vsl o _ => o < n
  | _ => True

def AT.below (n : Nat) : AT → Prop
  | .cs _ xs => ∀ x ∈ xs, x.below n
  | .tup ts => ∀ t ∈ ts, ∀ x ∈ t.2, x.below n
  | _ => True

def AObj.below (n : Nat) : AObj → Prop
  | .var cells _ => ∀ x ∈ cells, x.below n
  | .lp L => ∀ p ∈ L.env, p.2.below n
  | _ => True

/-- st' says no more than st: σ tells which object of st each of its objects is; those below pin are the same. -/
structure Weak (pin : Pin) (σ : Nat → Nat) (st st' : St) : Prop where
  pin : ∀ o, pin.holds o → σ o = o ∧ o < st'.next
  nt : st.nt = st'.nt
  env : ∀ p ∈ st'.env, getE st.env p.1 = p.2.ren σ ∧ p.2.below st'.next
  objs : ∀ p ∈ st'.objs, p.1 < st'.next ∧ ∀ x, p.2 = some x → getO st.objs (σ p.1) = some (x.ren σ) ∧ x.below st'.next
  inj : ∀ p ∈ st'.objs, ∀ q ∈ st'.objs, σ p.1 = σ q.1 → p.1 = q.1

theorem getE_mem : ∀ {l : List (Nat × AT)} {t : Nat}, getE l t = .junk ∨ (t, getE l t) ∈ l
  | [], t => .inl rfl
  | (k, x) :: l, t => by
    simp only [getE]
    split
    · rename_i h
      subst h
      exact .inr (List.mem_cons_self ..)
    · rcases getE_mem (l := l) (t := t) with h | h
      · exact .inl h
      · exact .inr (List.mem_cons_of_mem _ h)

theorem getO_mem : ∀ {l : List (Nat × Option AObj)} {t : Nat} {x : AObj}, getO l t = some x → (t, some x) ∈ l
  | [], t, x, h => by simp [getO] at h
  | (k, y) :: l, t, x, h => by
    simp only [getO] at h
    split at h
    · rename_i e
      subst e; subst h
      exact List.mem_cons_self ..
    · exact List.mem_cons_of_mem _ (getO_mem h)

theorem RepCap.ren {ρ : Where} {w : World} {S : Nat → Prop} {σ : Nat → Nat} {n : Nat} {x : CapV} {u : Value} (hb : x.below n) (h : RepCap ρ w S (x.ren σ) u) : RepCap (fun o => if o < n then ρ (σ o) else none) w S x u := by
  cases x with
  | d y => exact h
  | ptr o off =>
    obtain ⟨g, h1, h2⟩ := h
    exact ⟨g, by simp only [if_pos (show o < n from hb)]; exact h1, h2⟩

theorem RepAV.ren {ρ : Where} {w : World} {S : Nat → Prop} {σ : Nat → Nat} {n : Nat} {x : AV} {u : Value} (hb : x.below n) (h : RepAV ρ w S (x.ren σ) u) : RepAV (fun o => if o < n then ρ (σ o) else none) w S x u := by
  cases x with
  | d y => exact h
  | nils k => exact h
  | ptr o off =>
    obtain ⟨g, h1, h2⟩ := h
    exact ⟨g, by simp only [if_pos (show o < n from hb)]; exact h1, h2⟩
  | own o =>
    obtain ⟨h1, h2⟩ := h
    exact ⟨by simp only [if_pos (show o < n from hb)]; exact h1, h2⟩
  | eptr o k i j =>
    obtain ⟨g, m, c, h1, h2⟩ := h
    exact ⟨g, m, c, by simp only [if_pos (show o < n from hb)]; exact h1, h2⟩
  | win o k lo m =>
    obtain ⟨A, m', c, A', h1, h2⟩ := h
    exact ⟨A, m', c, A', by simp only [if_pos (show o < n from hb)]; exact h1, h2⟩
  | wx o k lo m =>
    obtain ⟨A, c, A', h1, h2⟩ := h
    exact ⟨A, c, A', by simp only [if_pos (show o < n from hb)]; exact h1, h2⟩
  | yld o =>
    obtain ⟨g, h1, h2⟩ := h
    exact ⟨g, by simp only [if_pos (show o < n from hb)]; exact h1, h2⟩
  | vsl o m =>
    obtain ⟨g, h1, h2⟩ := h
    exact ⟨g, by simp only [if_pos (show o < n from hb)]; exact h1, h2⟩
  | clo f ks =>
    obtain ⟨vs, h1, h2⟩ := h
    refine ⟨vs, h1, ?_⟩
    clear h1
    change ∀ x ∈ ks, CapV.below n x at hb
    induction ks generalizing vs with
    | nil => cases h2; exact .nil
    | cons y ks ih =>
      cases h2 with
      | cons h3 h4 => exact .cons (h3.ren (hb y (List.mem_cons_self ..))) (ih _ h4 fun z hz => hb z (List.mem_cons_of_mem _ hz))

theorem RepAVs.ren {ρ : Where} {w : World} {S : Nat → Prop} {σ : Nat → Nat} {n : Nat} : ∀ {xs : List AV} {us : List Value}, (∀ x ∈ xs, x.below n) → All2 (RepAV ρ w S) (xs.map (AV.ren σ)) us → All2 (RepAV (fun o => if o < n then ρ (σ o) else none) w S) xs us
  | [], us, _, h => by cases h; exact .nil
  | x :: xs, us, hb, h => by
    cases h with
    | cons h1 h2 => exact .cons (h1.ren (hb x (List.mem_cons_self ..))) (RepAVs.ren (fun y hy => hb y (List.mem_cons_of_mem _ hy)) h2)

theorem RepC.ren {ρ : Where} {w : World} {S : Nat → Prop} {σ : Nat → Nat} {n : Nat} {g : Bool} {xs : List AV} {u : Value} (hb : ∀ x ∈ xs, x.below n) (h : RepC ρ w S g (xs.map (AV.ren σ)) u) : RepC (fun o => if o < n then ρ (σ o) else none) w S g xs u := by
  cases g with
  | true =>
    obtain ⟨us, h1, h2⟩ := h
    exact ⟨us, h1, RepAVs.ren hb h2⟩
  | false =>
    obtain ⟨y, h1, h2⟩ := h
    match xs, h1 with
    | [x], h1 =>
      have e : x.ren σ = y := by simpa using h1
      subst e
      exact ⟨x, rfl, h2.ren (hb x (List.mem_cons_self ..))⟩

theorem RepT.ren {ρ : Where} {w : World} {S : Nat → Prop} {σ : Nat → Nat} {n : Nat} {t : AT} {u : Value} (hb : t.below n) (h : RepT ρ w S (t.ren σ) u) : RepT (fun o => if o < n then ρ (σ o) else none) w S t u := by
  cases t with
  | junk => trivial
  | undef => exact h
  | cs g xs => exact RepC.ren hb h
  | tup ts =>
    obtain ⟨vs, e, h5⟩ := h
    refine ⟨vs, e, ?_⟩
    clear e
    induction ts generalizing vs with
    | nil => cases h5; exact .nil
    | cons t' ts ih =>
      cases h5 with
      | cons h6 h7 => exact .cons (RepC.ren (hb t' (List.mem_cons_self ..)) h6) (ih (fun q hq => hb q (List.mem_cons_of_mem _ hq)) _ h7)

theorem getE_ren {σ : Nat → Nat} {t : Nat} : ∀ {l : List (Nat × AT)}, getE (l.map fun p => (p.1, p.2.ren σ)) t = (getE l t).ren σ
  | [] => rfl
  | (k, x) :: l => by
    simp only [List.map_cons, getE]
    split
    · rfl
    · exact getE_ren

theorem RelE.weak {E : Sit} {c : Base} {st st' : St} {σ : Nat → Nat} {a : Act} {w : World} (ho : OkB E c) (hw : Weak E.pin σ st st') (h : RelE c st st.next a w) : RelE c st' st'.next a w := by
  obtain ⟨ρ, S, hr, hf⟩ := h
  have hobj : ∀ o x, getO st'.objs o = some x → o < st'.next ∧ getO st.objs (σ o) = some (x.ren σ) ∧ x.below st'.next := fun o x hx => by
    have h1 := hw.objs _ (getO_mem hx)
    exact ⟨h1.1, h1.2 x rfl⟩
  refine ⟨fun o => if o < st'.next then ρ (σ o) else none, S, ?_, fun n hn => by simp only [if_neg (by omega : ¬ n < st'.next)]⟩
  refine ⟨hr.defers, by rw [← hw.nt]; exact hr.size, fun t => ?_, fun o x hx => ?_, fun o o' x x' h h' b hx hx' hh hh' hb hb' => ?_, fun o x h b hx hh hb => ?_, hr.os, hr.tape, hr.output, hr.hsize, hr.same, hr.lim, hr.sub, hr.foot, fun o h hh => by have h1 := hw.pin o (ho o h hh); simp only [if_pos h1.2, h1.1]; exact hr.pin o h hh, hr.clim⟩
  · rcases getE_mem (l := st'.env) (t := t) with h1 | h1
    · rw [h1]; trivial
    · obtain ⟨h2, h3⟩ := hw.env _ h1
      have h4 := hr.env t
      rw [h2] at h4
      exact RepT.ren h3 h4
  · obtain ⟨h1, h2, h3⟩ := hobj o x hx
    obtain ⟨h, e1, e2⟩ := hr.obj _ _ h2
    refine ⟨h, by simp only [if_pos h1]; exact e1, ?_⟩
    cases x with
    | row k e rows l => exact e2
    | it s pos => exact e2
    | lp L =>
      obtain ⟨g, q1, ⟨fn, tmps, D, q2, q3, q4⟩, q5⟩ := e2
      refine ⟨g, q1, ⟨fn, tmps, D, q2, q3, fun t => ?_⟩, q5⟩
      rcases getE_mem (l := L.env) (t := t) with h5 | h5
      · rw [h5]; trivial
      · have h6 := q4 t
        rw [getE_ren] at h6
        exact RepT.ren (h3 _ h5) h6
    | var cells l =>
      obtain ⟨g, cur, ety, q1, q2, q3, q4, q5⟩ := e2
      refine ⟨g, cur, ety, q1, q2, RepAVs.ren h3 q3, q4, fun hl => ⟨(q5 hl).1, fun y hy => ?_⟩⟩
      obtain ⟨z, hz⟩ := (q5 hl).2 (y.ren σ) (List.mem_map.2 ⟨y, hy, rfl⟩)
      cases y <;> simp [AV.ren] at hz
      exact ⟨_, rfl⟩
  · obtain ⟨h1, h2, _⟩ := hobj o x hx
    obtain ⟨h1', h2', _⟩ := hobj o' x' hx'
    simp only [if_pos h1] at hh
    simp only [if_pos h1'] at hh'
    exact hw.inj _ (getO_mem hx) _ (getO_mem hx') (hr.sep _ _ _ _ _ _ b h2 h2' hh hh' hb hb')
  · obtain ⟨h1, h2, _⟩ := hobj o x hx
    simp only [if_pos h1] at hh
    exact hr.place _ _ _ _ h2 hh hb

/-- An own object is written no more: it may be handed on as data. -/
def St.freeze (st : St) (o : Nat) : Option St := match getO st.objs o with
  | some (.var cells _) => match allD (getO st.objs) cells with
    | some ds => some { st with objs := (o, some (.var (ds.map .d) false)) :: st.objs }
    | none => none
  | some (.row k e rows _) => some { st with objs := (o, some (.row k e rows false)) :: st.objs }
  | some (.lp _) => none
  | some (.it ..) => none
  | none => none

theorem RelE.freeze {c : Base} {st st' : St} {o : Nat} {a : Act} {w : World} (hs : st.freeze o = some st') (h : RelE c st st.next a w) : RelE c st' st'.next a w := by
  obtain ⟨ρ, S, hr, hf⟩ := h
  -- the block that becomes still
  have main : ∀ (x x' : AObj) (h : Value), getO st.objs o = some x → ρ o = some h → ObjRep ρ w S h x →
      (∀ S', (∀ b, S b → S' b) → (∀ b, blkOf h = some b → S' b) → ObjRep ρ w S' h x') → RelE c { st with objs := (o, some x') :: st.objs } st.next a w := by
    intro x x' h hx hρ hobj hx'
    let S' : Nat → Prop := fun b => S b ∨ blkOf h = some b
    refine ⟨ρ, S', ?_, hf⟩
    have h1 := hr.step (dst := none) (v := undef) (out := .junk) (ob' := updO [(o, some x')] (getO st.objs)) (w' := w) (S' := S') (ρ' := ρ) rfl ⟨fun _ _ h => h, fun _ h => .inl h, Keeps.refl _ _⟩ trivial
      (fun n y hy => by
        simp only [updO] at hy
        split at hy
        · rename_i e
          subst e
          cases hy
          refine .inr ⟨h, hρ, hx' S' (fun b hb => .inl hb) (fun b hb => .inr hb), fun b hb => ⟨(hr.place _ _ _ _ hx hρ hb).imp_right .inl, fun o2 x2 h2 hx2 hh2 hb2 => ?_⟩⟩
          simp only [updO] at hx2
          split at hx2
          · assumption
          · exact hr.sep _ _ _ _ _ _ b hx2 hx hh2 hρ hb2 hb
        · rename_i e
          refine .inl ⟨hy, fun hh b h1 h2 => ⟨rfl, fun h3 => ?_⟩⟩
          rcases h3 with h3 | h3
          · exact h3
          · exact absurd (hr.sep _ _ _ _ _ _ b hy hx h1 hρ h2 h3) e) rfl rfl rfl (Nat.le_refl _) (fun _ _ _ => rfl)
      (fun b hb => by
        rcases hb with hb | hb
        · exact hr.lim b hb
        · exact blk_lt hr hx hρ hb)
      (fun b hb => by
        rcases hb with hb | hb
        · exact hr.foot b hb
        · rcases hr.place _ _ _ _ hx hρ hb with h3 | h3
          · exact .inr h3.symm
          · exact hr.foot b h3)
    have e1 : putF (getE st.env) none .junk = getE st.env := by funext n; simp [putF]
    have e2 : getO ((o, some x') :: st.objs) = updO [(o, some x')] (getO st.objs) := getO_upd [(o, some x')] st.objs
    rw [e1, ← e2] at h1
    exact h1
  unfold St.freeze at hs
  split at hs
  · rename_i cells live hob
    split at hs
    · rename_i ds hds
      cases hs
      obtain ⟨h, h1, h2⟩ := hr.obj o _ hob
      refine main _ _ h hob h1 h2 fun S' hS hblk => ?_
      obtain ⟨g, cur, ety, rfl, q2, q3, q4, q5⟩ := h2
      have h3 := allD_rep hr hds q3
      refine ⟨g, cur, ety, rfl, q2, ?h3, (fun hl => by cases hl), fun _ => ⟨hblk g rfl, fun x hx => ?_⟩⟩
      case h3 =>
        have : All2 (RepAV ρ w S') (ds.map .d) cur.toList := by
          clear hds
          generalize cur.toList = us at h3
          induction h3 with
          | nil => exact .nil
          | cons h _ ih => exact .cons (h.mono hS (Keeps.refl _ _)) ih
        exact this
      · obtain ⟨d, _, rfl⟩ := List.mem_map.1 hx
        exact ⟨d, rfl⟩
    · cases hs
  · rename_i k e rows live hob
    cases hs
    obtain ⟨h, h1, h2⟩ := hr.obj o _ hob
    refine main _ _ h hob h1 h2 fun S' hS hblk => ?_
    obtain ⟨hk, h3⟩ := h2
    refine ⟨hk, ?_⟩
    rcases h3 with h3 | ⟨g, c', hc0, rfl, ⟨r1, r2, r3, cur, r4, r5, r7, r6⟩, _⟩
    · exact .inl h3
    · refine .inr ⟨g, c', hc0, rfl, ⟨r1, r2, r3, cur, r4, r5, r7.mono hS (Keeps.refl _ _), fun i j r d hi hj => ?_⟩, (fun hl => by cases hl), fun _ => hblk g (by simp [blkOf]; omega)⟩
      obtain ⟨u, hu, hru⟩ := r6 i j r d hi hj
      exact ⟨u, hu, hru.mono hS (Keeps.refl _ _)⟩
  · cases hs
  · cases hs
  · cases hs

theorem awp_freeze {E : Sit} {code : Code} {Q : Exit → St → Prop} {st st' : St} (o : Nat) (hs : st.freeze o = some st') (h : AWp E code Q st') : AWp E code Q st :=
  awp_weak (fun _ _ _ _ => RelE.freeze hs) h

end Go.Eng
