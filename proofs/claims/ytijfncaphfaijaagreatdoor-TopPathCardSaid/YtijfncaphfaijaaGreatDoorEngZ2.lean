/- A function's contract from its body. Types by a table; specifications by a table. A plain region's run; a call that turns the caller's objects. A range over a function: the statement. A function that defers one call of a closure, and may recover; here nothing panics. -/
import Derived.Test.YtijfncaphfaijaaGreatDoorEngN
import Derived.RangeFuncRecord
import Derived.KernelRfl
import Derived.Orders
import Derived.WalkSpells
import Derived.RangeFuncIn
import Derived.RecoverIn
namespace Go.Eng

def resOf (Γ : Ctx) (st : St) : ResultVar → Option (Bool × List AV)
  | .tmp t => match getE st.env t with
    | .cs g xs => some (g, xs)
    | _ => none
  | .cell t ty => match (getE st.env t).one? with
    | some (.ptr o off) => match getO st.objs o with
      | some (.var cells _) => match loadC Γ ty (cells.drop off) with
        | some (.cs g xs) => some (g, xs)
        | _ => none
      | _ => none
    | _ => none

def resAll (Γ : Ctx) (st : St) : List ResultVar → Option (List (Bool × List AV))
  | [] => some []
  | x :: r => match resOf Γ st x, resAll Γ st r with
    | some y, some ys => some (y :: ys)
    | _, _ => none

def FitsOwn (ob : Nat → Option AObj) (x : AV) (k : Nat) (e : TypeId) (rows : List (List D)) : Prop := match x with
  | .own o => ob o = some (.row k e rows true)
  | .nils _ => rows = []
  | .win o k' lo n => lo = 0 ∧ k' = k ∧ ∃ rows', ob o = some (.row k e rows' true) ∧ n ≤ rows'.length ∧ rows = rows'.take n
  | .wx o k' lo n => lo = 0 ∧ k' = k ∧ ∃ rows', ob o = some (.row k e rows' true) ∧ n ≤ rows'.length ∧ rows = rows'.take n
  | _ => False

def FitsC (ob : Nat → Option AObj) : List AV → List CV → Prop
  | [], [] => True
  | x :: xs, .d y :: cs => avD ob x = some y ∧ FitsC ob xs cs
  | x :: xs, .own k e rows :: cs => FitsOwn ob x k e rows ∧ FitsC ob xs cs
  | _, _ => False

def idsC : List AV → List CV → List Nat
  | .own o :: xs, .own .. :: cs => o :: idsC xs cs
  | .win o _ _ _ :: xs, .own .. :: cs => o :: idsC xs cs
  | .wx o _ _ _ :: xs, .own .. :: cs => o :: idsC xs cs
  | _ :: xs, _ :: cs => idsC xs cs
  | _, _ => []

def FitsR (ob : Nat → Option AObj) : List (Bool × List AV) → List (Bool × List CV) → Prop
  | [], [] => True
  | (g, xs) :: r, (g', cs) :: r' => g = g' ∧ FitsC ob xs cs ∧ FitsR ob r r'
  | _, _ => False

def idsR : List (Bool × List AV) → List (Bool × List CV) → List Nat
  | (_, xs) :: r, (_, cs) :: r' => idsC xs cs ++ idsR r r'
  | _, _ => []

/-- What is handed back is what is said. -/
def RetOk (Γ : Ctx) (rs : List ResultVar) (st : St) (res : Res) : Prop :=
  ∃ comps, resAll Γ st rs = some comps ∧ FitsR (getO st.objs) comps res.cs ∧ (idsR comps res.cs).Nodup ∧ res.tup = !(rs.length == 1)

/-- Objects that are still from now on, one behind the other. -/
def St.freezeL (st : St) : List Nat → Option St
  | [] => some st
  | o :: r => match st.freeze o with
    | some st' => st'.freezeL r
    | none => none

def RetQ (Γ : Ctx) (rs : List ResultVar) (res : Res) : Exit → St → Prop
  | .ret, st | .normal, st => ∃ fz st', st.freezeL fz = some st' ∧ RetOk Γ rs st' res
  | _, _ => False

def initEnv : Nat → List (Bool × List AV) → List (Nat × AT)
  | _, [] => []
  | i, (g, xs) :: r => (i, .cs g xs) :: initEnv (i + 1) r

/-- The state in which a body begins. -/
def initSt (nt : Nat) (args : List (Bool × List CV)) : St := ⟨nt, initEnv 0 (resComps 0 args).1, (resComps 0 args).2, (resComps 0 args).2.length⟩

section
variable {P : Program} {Γ : Ctx} {c : Base} {nt : Nat} {env : Nat → AT} {ob : Nat → Option AObj} {ρ : Where} {S : Nat → Prop} {a : Act} {w : World}

theorem fits_cvs (hr : Rel c nt env ob ρ S a w) : ∀ {xs : List AV} {cs : List CV} {us : List Value}, FitsC ob xs cs → All2 (RepAV ρ w S) xs us → CVs w S cs us (blks ρ (idsC xs cs)) ∧ ∀ o ∈ idsC xs cs, ∃ k e rows, ob o = some (.row k e rows true)
  | [], [], us, _, h => by
    cases h
    exact ⟨.nil, fun o ho => by simp [idsC] at ho⟩
  | x :: xs, .d y :: cs, us, hf, h => by
    cases h with
    | cons h1 h2 =>
      obtain ⟨q1, q2⟩ := hf
      obtain ⟨q3, q4⟩ := fits_cvs hr q2 h2
      have e : idsC (x :: xs) (.d y :: cs) = idsC xs cs := by cases x <;> rfl
      rw [e]
      exact ⟨.d (avD_rep hr q1 h1) q3, q4⟩
  | x :: xs, .own k e rows :: cs, us, hf, h => by
    cases h with
    | cons h1 h2 =>
      obtain ⟨q1, q2⟩ := hf
      obtain ⟨q3, q4⟩ := fits_cvs hr q2 h2
      cases x with
      | own o =>
        simp only [FitsOwn] at q1
        obtain ⟨hρ, A, n, cc, rfl⟩ := h1
        obtain ⟨hh, h3, h4⟩ := hr.obj o _ q1
        rw [hρ] at h3; cases h3
        obtain ⟨hk, h5⟩ := h4
        have ids : idsC (.own o :: xs) (.own k e rows :: cs) = o :: idsC xs cs := rfl
        rw [ids]
        refine ⟨?_, fun o' ho' => by
          rcases List.mem_cons.1 ho' with rfl | ho'
          · exact ⟨k, e, rows, q1⟩
          · exact q4 o' ho'⟩
        rcases h5 with ⟨rfl, A', he⟩ | ⟨g, c', hc0, he, hblk, hlive, _⟩
        · cases he
          have e2 : blks ρ (o :: idsC xs cs) = blks ρ (idsC xs cs) := by
            simp only [blks, List.filterMap_cons, hρ, Option.bind_some]
            cases A <;> simp [blkOf]
          rw [e2]
          exact .ownNil q3
        · have hblk2 : blkOf (.slice A n cc) = some g := by rw [he]; simp [blkOf]; omega
          have e2 : blks ρ (o :: idsC xs cs) = g :: blks ρ (idsC xs cs) := by
            simp only [blks, List.filterMap_cons, hρ, Option.bind_some, hblk2]
          rw [e2, he]
          exact .own hc0 hk hblk (hlive rfl) q3
      | nils k' =>
        simp only [FitsOwn] at q1
        subst q1
        obtain ⟨A, rfl⟩ := h1
        exact ⟨.ownNil q3, q4⟩
      | d _ => exact q1.elim
      | ptr _ _ => exact q1.elim
      | eptr _ _ _ _ => exact q1.elim
      | clo _ _ => exact q1.elim
      | yld _ => exact q1.elim
      | mph _ => exact q1.elim
      | vsl _ _ => exact q1.elim
      | win o k' lo n =>
        obtain ⟨rfl, rfl, rows', q1, hn, rfl⟩ := q1
        obtain ⟨A, m, cc, A', hρ, rfl, hA⟩ := h1
        obtain ⟨hh, h3, h4⟩ := hr.obj o _ q1
        rw [hρ] at h3; cases h3
        obtain ⟨hk, h5⟩ := h4
        have ids : idsC (.win o k' 0 n :: xs) (.own k' e (rows'.take n) :: cs) = o :: idsC xs cs := rfl
        rw [ids]
        refine ⟨?_, fun o' ho' => by
          rcases List.mem_cons.1 ho' with rfl | ho'
          · exact ⟨k', e, rows', q1⟩
          · exact q4 o' ho'⟩
        rcases h5 with ⟨rfl, A2, he⟩ | ⟨g, c', hc0, he, ⟨r1, r2, r3, cur, r4, r5, r7, r6⟩, hlive, _⟩
        · cases he
          have e2 : blks ρ (o :: idsC xs cs) = blks ρ (idsC xs cs) := by
            simp only [blks, List.filterMap_cons, hρ, Option.bind_some]
            cases A <;> simp [blkOf]
          have hn0 : n = 0 := by simpa using hn
          subst hn0
          rw [e2]
          simp only [List.take_nil]
          exact .ownNil q3
        · have hblk2 : blkOf (.slice A m cc) = some g := by rw [he]; simp [blkOf]; omega
          have e2 : blks ρ (o :: idsC xs cs) = g :: blks ρ (idsC xs cs) := by
            simp only [blks, List.filterMap_cons, hρ, Option.bind_some, hblk2]
          cases he
          have hA' := hA (by omega)
          subst hA'
          have hl : (rows'.take n).length = n := by simp; omega
          have e3 : Value.slice ((some (⟨g, 0, none⟩ : Addr)).map (·.add (0 * k'))) n (cc - 0) = .slice (some ⟨g, 0, none⟩) (rows'.take n).length cc := by
            rw [hl]; simp [add_lit]
          rw [e2, e3]
          exact .own hc0 (fun r hr => hk r (List.mem_of_mem_take hr)) ⟨by omega, r2, r3, cur, r4, r5, r7, fun i j r d hi hj => by
            rw [List.getElem?_take] at hi
            split at hi
            · exact r6 i j r d hi hj
            · cases hi⟩ (hlive rfl) q3
      | wx o k' lo n =>
        obtain ⟨rfl, rfl, rows', q1, hn, rfl⟩ := q1
        obtain ⟨A, m, A', hρ, rfl, hA⟩ := h1
        obtain ⟨hh, h3, h4⟩ := hr.obj o _ q1
        rw [hρ] at h3; cases h3
        obtain ⟨hk, h5⟩ := h4
        have ids : idsC (.wx o k' 0 n :: xs) (.own k' e (rows'.take n) :: cs) = o :: idsC xs cs := rfl
        rw [ids]
        refine ⟨?_, fun o' ho' => by
          rcases List.mem_cons.1 ho' with rfl | ho'
          · exact ⟨k', e, rows', q1⟩
          · exact q4 o' ho'⟩
        rcases h5 with ⟨rfl, A2, he⟩ | ⟨g, c', hc0, he, ⟨r1, r2, r3, cur, r4, r5, r7, r6⟩, hlive, _⟩
        · cases he
          have e2 : blks ρ (o :: idsC xs cs) = blks ρ (idsC xs cs) := by
            simp only [blks, List.filterMap_cons, hρ, Option.bind_some]
            cases A <;> simp [blkOf]
          have hn0 : n = 0 := by simpa using hn
          subst hn0
          rw [e2]
          simp only [List.take_nil]
          exact .ownNil q3
        · have hblk2 : blkOf (.slice A m m) = some g := by rw [he]; simp [blkOf]; omega
          have e2 : blks ρ (o :: idsC xs cs) = g :: blks ρ (idsC xs cs) := by
            simp only [blks, List.filterMap_cons, hρ, Option.bind_some, hblk2]
          cases he
          have hA' := hA (by omega)
          subst hA'
          have hl : (rows'.take n).length = n := by simp; omega
          have e3 : Value.slice ((some (⟨g, 0, none⟩ : Addr)).map (·.add (0 * k'))) n (rows'.length - 0) = .slice (some ⟨g, 0, none⟩) (rows'.take n).length rows'.length := by
            rw [hl]; simp [add_lit]
          rw [e2, e3]
          exact .own hc0 (fun r hr => hk r (List.mem_of_mem_take hr)) ⟨by omega, r2, r3, cur, r4, r5, r7, fun i j r d hi hj => by
            rw [List.getElem?_take] at hi
            split at hi
            · exact r6 i j r d hi hj
            · cases hi⟩ (hlive rfl) q3
  | [], .d _ :: _, _, hf, _ => hf.elim
  | [], .own .. :: _, _, hf, _ => hf.elim
  | _ :: _, [], _, hf, _ => hf.elim

theorem fitsC_len {ob : Nat → Option AObj} : ∀ {xs : List AV} {cs : List CV}, FitsC ob xs cs → xs.length = cs.length
  | [], [], _ => rfl
  | x :: xs, .d y :: cs, hf => by simp [fitsC_len hf.2]
  | x :: xs, .own k e rows :: cs, hf => by simp [fitsC_len hf.2]
  | [], .d _ :: _, hf => hf.elim
  | [], .own .. :: _, hf => hf.elim
  | _ :: _, [], hf => hf.elim

theorem fits_comps (hr : Rel c nt env ob ρ S a w) : ∀ {xs : List (Bool × List AV)} {cs : List (Bool × List CV)} {us : List Value}, FitsR ob xs cs → All2 (fun t u => RepC ρ w S t.1 t.2 u) xs us →
    Comps w S cs us (blks ρ (idsR xs cs)) ∧ ∀ o ∈ idsR xs cs, ∃ k e rows, ob o = some (.row k e rows true)
  | [], [], us, _, h => by
    cases h
    exact ⟨.nil, fun o ho => by simp [idsR] at ho⟩
  | (g, xs) :: r, (g', cs) :: r', us, hf, h => by
    cases h with
    | cons h1 h2 =>
      obtain ⟨rfl, q1, q2⟩ := hf
      obtain ⟨q3, q4⟩ := fits_comps hr q2 h2
      have ids : idsR ((g, xs) :: r) ((g, cs) :: r') = idsC xs cs ++ idsR r r' := rfl
      rw [ids, blks_append]
      cases g with
      | true =>
        obtain ⟨vs, rfl, h3⟩ := h1
        obtain ⟨q5, q6⟩ := fits_cvs hr q1 h3
        exact ⟨.agg q5 q3, fun o ho => (List.mem_append.1 ho).elim (q6 o) (q4 o)⟩
      | false =>
        obtain ⟨x, e, h3⟩ := h1
        simp only at e
        subst e
        obtain ⟨q5, q6⟩ := fits_cvs hr q1 (.cons h3 .nil)
        have hl := fitsC_len q1
        match cs, hl, q5, q6 with
        | [d], _, q5, q6 => exact ⟨.one q5 q3, fun o ho => (List.mem_append.1 ho).elim (q6 o) (q4 o)⟩
  | [], _ :: _, _, hf, _ => hf.elim
  | _ :: _, [], _, hf, _ => hf.elim

end

section
variable {P : Program} {Γ : Ctx} {c : Base} {st : St} {ρ : Where} {S : Nat → Prop} {a : Act} {w : World}

theorem resOf_run (hΓ : CtxOk P Γ) (hr : Rel c st.nt (getE st.env) (getO st.objs) ρ S a w) {x : ResultVar} {y : Bool × List AV} (h : resOf Γ st x = some y) :
    ∃ v, ((fun | .tmp t => pure (a.tmps.getD t Go.undef) | .cell p t => do loadVar t (← asAddr (a.tmps.getD p Go.undef)) : ResultVar → Sem Value) x).run P w = .ok v w ∧ RepC ρ w S y.1 y.2 v := by
  cases x with
  | tmp t =>
    have he := hr.env t
    simp only [resOf] at h
    split at h
    · rename_i g xs e
      cases h
      rw [e] at he
      exact ⟨_, rfl, he⟩
    · cases h
  | cell t ty =>
    have he := hr.env t
    simp only [resOf] at h
    split at h
    · rename_i o off e
      obtain ⟨g, hg, hu⟩ := one_rep he e
      split at h
      · rename_i cells live hob
        split at h
        · rename_i g' xs hl
          cases h
          obtain ⟨hh, h1, h2⟩ := hr.obj o _ hob
          rw [hg] at h1; cases h1
          obtain ⟨g2, cur, ety, e1, e2, e3, _⟩ := h2
          cases e1
          obtain ⟨v, h3, h4⟩ := run_loadC (ad := ⟨g, off, none⟩) hΓ (e3.drop off) (fun j u hju => by
            rw [add_lit', cell_of_row w g _ cur ety (0, 0) e2]
            simpa [List.getElem?_drop] using hju) hl
          exact ⟨v, by simp [hu, asAddr, h3], h4⟩
        · cases h
      · cases h
    · cases h

theorem resAll_run (hΓ : CtxOk P Γ) (hr : Rel c st.nt (getE st.env) (getO st.objs) ρ S a w) : ∀ {rs : List ResultVar} {ys : List (Bool × List AV)}, resAll Γ st rs = some ys →
    ∃ vs : List Value, (rs.mapM (fun | .tmp t => pure (a.tmps.getD t Go.undef) | .cell p t => do loadVar t (← asAddr (a.tmps.getD p Go.undef)) : ResultVar → Sem Value)).run P w = .ok vs w ∧ All2 (fun t u => RepC ρ w S t.1 t.2 u) ys vs
  | [], ys, h => by
    simp only [resAll, Option.some.injEq] at h
    subst h
    exact ⟨[], by simp, .nil⟩
  | x :: rs, ys, h => by
    simp only [resAll] at h
    split at h
    · rename_i y ys' h1 h2
      cases h
      obtain ⟨v, h3, h4⟩ := resOf_run hΓ hr h1
      obtain ⟨vs, h5, h6⟩ := resAll_run hΓ hr h2
      refine ⟨v :: vs, ?_, .cons h4 h6⟩
      simp only [List.mapM_cons, Sem.run_bind, h3, Result.andThen_ok, h5, Sem.run_pure]
    · cases h

end

theorem initEnv_get : ∀ (comps : List (Bool × List AV)) (i t : Nat), getE (initEnv i comps) t = if t < i then .junk else match comps[t - i]? with
    | some (g, xs) => .cs g xs
    | none => .junk
  | [], i, t => by simp [initEnv, getE]
  | (g, xs) :: r, i, t => by
    simp only [initEnv, getE, initEnv_get r (i + 1) t]
    by_cases h1 : t = i
    · subst h1
      simp
    · rw [if_neg h1]
      by_cases h2 : t < i
      · rw [if_pos (by omega), if_pos h2]
      · rw [if_neg (by omega), if_neg h2, show t - i = (t - (i + 1)) + 1 by omega]
        simp

theorem comps_len {w : World} {S : Nat → Prop} {cs : List (Bool × List CV)} {us : List Value} {bs : List Nat} (h : Comps w S cs us bs) : cs.length = us.length := by
  induction h with
  | nil => rfl
  | one _ _ ih => simp [ih]
  | agg _ _ ih => simp [ih]

theorem cvs_own {w : World} {S : Nat → Prop} {cs : List CV} {us : List Value} {bs : List Nat} (h : CVs w S cs us bs) : ∀ b ∈ bs, b < w.heap.size ∧ ¬ S b := by
  induction h with
  | nil => simp
  | d _ _ ih => exact ih
  | ownNil _ ih => exact ih
  | own _ _ hblk hs _ ih =>
    intro b hb
    rcases List.mem_cons.1 hb with rfl | hb
    · obtain ⟨cur, h1, _⟩ := hblk.blk
      exact ⟨(Array.getElem?_eq_some_iff.1 h1).1, hs⟩
    · exact ih b hb

theorem comps_own {w : World} {S : Nat → Prop} {cs : List (Bool × List CV)} {us : List Value} {bs : List Nat} (h : Comps w S cs us bs) : ∀ b ∈ bs, b < w.heap.size ∧ ¬ S b := by
  induction h with
  | nil => simp
  | one h _ ih => exact fun b hb => (List.mem_append.1 hb).elim (cvs_own h b) (ih b)
  | agg h _ ih => exact fun b hb => (List.mem_append.1 hb).elim (cvs_own h b) (ih b)

/-- Related when a body begins. -/
theorem init_rel {w : World} {S : Nat → Prop} {vals : List Value} {args : List (Bool × List CV)} {bs : List Nat} {nt : Nat} (hS : ∀ b, S b → b < w.heap.size) (hlay : LayOk w S) (hc : Comps w S args vals bs) (hnd : bs.Nodup) (hnt : args.length ≤ nt) :
    RelE ⟨w, S, (· ∈ bs), fun _ => none, []⟩ (initSt nt args) (initSt nt args).next { tmps := vals.toArray ++ Array.replicate (nt - vals.toArray.size) Go.undef, defers := [] } w := by
  have hlen := comps_len hc
  let ρ : Where := fun n => (hdrsAll args vals)[n]?
  obtain ⟨h1, h2⟩ := resComps_rep (ρ := ρ) hc 0 (fun i u hu => by simpa [ρ] using hu)
  have hblk := hdrsAll_blks hc
  have hown := comps_own hc
  have hnl := news_len hc 0
  have hobj : ∀ o x, getO (initSt nt args).objs o = some x → ∃ h, (hdrsAll args vals)[o]? = some h ∧ ObjRep ρ w S h x := fun o x hx => by
    obtain ⟨i, u, y, e1, e2, e3, e4⟩ := h2 o _ (getO_mem hx)
    cases e3
    rw [Nat.zero_add] at e1
    subst e1
    exact ⟨u, e2, e4⟩
  have hmem : ∀ (o : Nat) (h : Value) (b : Nat), (hdrsAll args vals)[o]? = some h → blkOf h = some b → b ∈ bs := fun o h b e1 e2 => by
    rw [← hblk]; exact List.mem_filterMap.2 ⟨h, List.mem_of_getElem? e1, e2⟩
  refine ⟨ρ, S, ⟨⟨[], rfl, .nil, by simp⟩, ?_, fun t => ?_, hobj, fun o o' x x' h h' b hx hx' hh hh' hb hb' => nodup_blk (by rw [hblk]; exact hnd) hh hh' hb hb', fun o x h b hx hh hb => .inl (.inr (hmem o h b hh hb)), rfl, rfl, rfl, Nat.le_refl _, fun _ _ _ => rfl, hS, fun _ h => h, fun b h => .inl h, (fun o h hh => by cases hh), hS, hlay⟩, fun n hn => ?_⟩
  · simp [initSt]; omega
  · simp only [initSt, initEnv_get]
    rw [if_neg (by omega), Nat.sub_zero]
    cases hx : (resComps 0 args).1[t]? with
    | none => trivial
    | some y =>
      obtain ⟨u, hu, hru⟩ := h1.get hx
      have htl : t < vals.length := (List.getElem?_eq_some_iff.1 hu).1
      have : (vals.toArray ++ Array.replicate (nt - vals.toArray.size) Go.undef).getD t Go.undef = u := by
        rw [Array.getD_eq_getD_getElem?, Array.getElem?_append_left (by simpa using htl)]
        simp [hu]
      rw [this]
      exact hru
  · simp only [initSt] at hn
    rw [hnl] at hn
    exact List.getElem?_eq_none hn

theorem enterable {P : Program} {f : FuncId} {fn : Func} (hf : P.funcs[f]? = some fn) (hb : fn.body.isSome = true) (hname : (fn.name == "runtime.NumGoroutine") = false) : Enterable P f := by
  intro vals w
  have h1 : ¬ fn.name = "runtime.NumGoroutine" := by simpa using hname
  have h2 : ¬ fn.body = none := by intro h; rw [h] at hb; cases hb
  simp [callFunc, hf, h1, h2]

/-! ### The end of a body: its marks are come to -/

section
variable {P : Program} {c : Base} {nt : Nat} {env : Nat → AT} {ob : Nat → Option AObj} {ρ : Where} {S : Nat → Prop} {a : Act} {w : World}

/-- A block that holds no cells may turn, and be still no more: whatever reads, reads on. -/
theorem Rep.unmark {D' : Nat} {o : Obj} (ho : ∀ cur ety fr, w.heap[D']? ≠ some (.cells cur ety fr)) {d : D} {v : Value} (h : Rep w S d v) : Rep (w.putObj D' o) (fun b => S b ∧ b ≠ D') d v := by
  have key : ∀ (ad : Addr) (u : Value), S ad.block → w.cell? ad = some u → (S ad.block ∧ ad.block ≠ D') ∧ (w.putObj D' o).cell? ad = some u := by
    intro ad u hs hc
    have hne : ad.block ≠ D' := by
      rintro rfl
      simp only [World.cell?] at hc
      cases hb : w.heap[ad.block]? with
      | none => simp at hc
      | some x =>
        cases x with
        | cells cur ety fr => exact ho _ _ _ hb
        | _ => simp at hc
    refine ⟨⟨hs, hne⟩, ?_⟩
    rw [← hc]
    exact World.cell?_of_block (w := w) (World.putObj_heap_other hne)
  induction h with
  | v x h1 => exact .v x h1
  | vec k rows A cc u hc hm hk hcell _ ih =>
    refine .vec k rows A cc u hc hm hk (fun i j hi hj => ?_) ih
    obtain ⟨ad, ha, hb, hcl⟩ := hcell i j hi hj
    obtain ⟨h1, h2⟩ := key (ad.add (i * k + j)) _ (by rw [block_add]; exact hb) hcl
    exact ⟨ad, ha, by rwa [block_add] at h1, h2⟩
  | pt cells ad u hcell _ ih =>
    refine .pt cells ad u (fun j hj => ?_) ih
    obtain ⟨hb, hcl⟩ := hcell j hj
    obtain ⟨h1, h2⟩ := key (ad.add j) _ (by rw [block_add]; exact hb) hcl
    exact ⟨by rwa [block_add] at h1, h2⟩
  | fn f caps vs hl _ ih => exact .fn f caps vs hl ih
  | bd f fs vs hl _ ih => exact .bd f fs vs hl ih
  | ba f fs vs hl _ ih => exact .ba f fs vs hl ih
  | cvec k rows A u hm hk hcell _ ih =>
    refine .cvec k rows A u hm hk (fun i j hi hj => ?_) ih
    obtain ⟨ad, ha, hb, hcl⟩ := hcell i j hi hj
    obtain ⟨h1, h2⟩ := key (ad.add (i * k + j)) _ (by rw [block_add]; exact hb) hcl
    exact ⟨ad, ha, by rwa [block_add] at h1, h2⟩

theorem RepAV.unmark {D' : Nat} {o : Obj} (ho : ∀ cur ety fr, w.heap[D']? ≠ some (.cells cur ety fr)) {x : AV} {v : Value} (h : RepAV ρ w S x v) : RepAV ρ (w.putObj D' o) (fun b => S b ∧ b ≠ D') x v := by
  cases x with
  | d y => exact Rep.unmark ho h
  | clo f ks =>
    obtain ⟨vs, h1, h2⟩ := h
    refine ⟨vs, h1, h2.mono fun k u hk => ?_⟩
    cases k with
    | d y => exact Rep.unmark ho hk
    | ptr => exact hk
  | _ => exact h

theorem RepC.unmark {D' : Nat} {o : Obj} (ho : ∀ cur ety fr, w.heap[D']? ≠ some (.cells cur ety fr)) {g : Bool} {xs : List AV} {v : Value} (h : RepC ρ w S g xs v) : RepC ρ (w.putObj D' o) (fun b => S b ∧ b ≠ D') g xs v := by
  cases g with
  | true =>
    obtain ⟨us, h1, h2⟩ := h
    exact ⟨us, h1, h2.mono fun _ _ => RepAV.unmark ho⟩
  | false =>
    obtain ⟨x, h1, h2⟩ := h
    exact ⟨x, h1, h2.unmark ho⟩

theorem RepT.unmark {D' : Nat} {o : Obj} (ho : ∀ cur ety fr, w.heap[D']? ≠ some (.cells cur ety fr)) {t : AT} {u : Value} (h : RepT ρ w S t u) : RepT ρ (w.putObj D' o) (fun b => S b ∧ b ≠ D') t u := by
  cases t with
  | junk => trivial
  | undef => exact h
  | cs g xs => exact RepC.unmark ho h
  | tup ts =>
    obtain ⟨vs, e, h2⟩ := h
    exact ⟨vs, e, h2.mono fun _ _ => RepC.unmark ho⟩

theorem Rel.unmark (hr : Rel c nt env ob ρ S a w) {D' : Nat} {Ds : List Nat} {o : Obj} (hd : a.defers = (D' :: Ds).map markOf ++ c.T) (ha : (D' :: Ds).Nodup) (hall : ∀ D ∈ D' :: Ds, S D ∧ c.W.heap.size ≤ D ∧ w.heap[D]? = some (.deferred (some []))) :
    Rel c nt env ob ρ (fun b => S b ∧ b ≠ D') { a with defers := Ds.map markOf ++ c.T } (w.putObj D' o) := by
  obtain ⟨hS, hge, hblk⟩ := hall D' (List.mem_cons_self ..)
  have ho : ∀ cur ety fr, w.heap[D']? ≠ some (.cells cur ety fr) := fun _ _ _ h => by rw [hblk] at h; cases h
  have hne : ∀ n x h b, ob n = some x → ρ n = some h → blkOf h = some b → b ≠ D' := by
    rintro n x h b hx hh hb rfl
    obtain ⟨h', h1, h2⟩ := hr.obj n x hx
    rw [hh] at h1; cases h1
    cases x with
    | var cells live =>
      obtain ⟨g, cur, ety, rfl, h3, _⟩ := h2
      simp [blkOf] at hb; subst hb
      exact ho _ _ _ h3
    | row k ety rows live =>
      rcases h2.2 with ⟨_, A, rfl⟩ | ⟨g, cc, _, rfl, ⟨_, _, _, cur, h3, _⟩, _⟩
      · cases A <;> simp [blkOf] at hb
      · simp only [blkOf] at hb
        split at hb
        · cases hb
        · cases hb; exact ho _ _ _ h3
    | lp L =>
      obtain ⟨g, rfl, ⟨_, _, _, h3, _⟩, _⟩ := h2
      simp [blkOf] at hb; subst hb
      rw [hblk] at h3; cases h3
    | it s pos =>
      obtain ⟨g, rfl, h3, _⟩ := h2
      simp [blkOf] at hb; subst hb
      rw [hblk] at h3; cases h3
    | ms kd ks =>
      obtain ⟨g, rfl, ⟨_, _, h3, _⟩, _⟩ := h2
      simp [blkOf] at hb; subst hb
      rw [hblk] at h3; cases h3
  have hsame : ∀ b, b ≠ D' → (w.putObj D' o).heap[b]? = w.heap[b]? := fun b hb => World.putObj_heap_other hb
  refine ⟨⟨Ds, rfl, (List.nodup_cons.1 ha).2, fun D hD => ?_⟩, hr.size, fun t => ?_, fun n x hx => ?_, hr.sep, fun n x h b hx hh hb => ?_, hr.os, hr.tape, hr.output, by simpa using hr.hsize, fun b h1 h2 => ?_, fun b hb => by simpa using hr.lim b hb.1,
    fun b hb => ⟨hr.sub b hb, fun e => by have := hr.clim b hb; omega⟩, fun b hb => hr.foot b hb.1, hr.pin, hr.clim, fun p hp => (hr.lay p hp).unmark ho⟩
  · obtain ⟨h1, h2, h3⟩ := hall D (List.mem_cons_of_mem _ hD)
    have : D ≠ D' := fun e => (List.nodup_cons.1 ha).1 (e ▸ hD)
    exact ⟨⟨h1, this⟩, h2, (hsame D this).trans h3⟩
  · have h1 := hr.env t
    generalize env t = y at h1
    cases y with
    | junk => trivial
    | undef => exact h1
    | cs g xs => exact RepC.unmark ho h1
    | tup ts =>
      obtain ⟨vs, e, h2⟩ := h1
      exact ⟨vs, e, h2.mono fun _ _ => RepC.unmark ho⟩
  · obtain ⟨h, h1, h2⟩ := hr.obj n x hx
    refine ⟨h, h1, ?_⟩
    have hnb := hne n x h
    cases x with
    | var cells live =>
      obtain ⟨g, cur, ety, rfl, h3, h4, h5, h6⟩ := h2
      have hg := hnb g hx h1 rfl
      exact ⟨g, cur, ety, rfl, (hsame g hg).trans h3, h4.mono fun _ _ => RepAV.unmark ho, fun hl hs => h5 hl hs.1, fun hl => ⟨⟨(h6 hl).1, hg⟩, (h6 hl).2⟩⟩
    | row k ety rows live =>
      obtain ⟨h3, h4⟩ := h2
      refine ⟨h3, ?_⟩
      rcases h4 with h4 | ⟨g, cc, hc0, rfl, ⟨r1, r2, r3, cur, r4, r5, r7, r6⟩, h5, h6⟩
      · exact .inl h4
      · have hg := hnb g hx h1 (by simp [blkOf]; omega)
        refine .inr ⟨g, cc, hc0, rfl, ⟨r1, r2, r3, cur, (hsame g hg).trans r4, r5, fun u hu => let ⟨d, hd⟩ := r7 u hu; ⟨d, hd.unmark ho⟩, fun i j r d hi hj => ?_⟩, fun hl hs => h5 hl hs.1, fun hl => ⟨h6 hl, hg⟩⟩
        obtain ⟨u, hu, hru⟩ := r6 i j r d hi hj
        exact ⟨u, hu, hru.unmark ho⟩
    | lp L =>
      obtain ⟨g, rfl, ⟨fn, tmps, D, h3, h4, h5⟩, h6⟩ := h2
      have hg := hnb g hx h1 rfl
      exact ⟨g, rfl, ⟨fn, tmps, D, (hsame g hg).trans h3, h4, fun t => (h5 t).unmark ho⟩, fun hs => h6 hs.1⟩
    | it s pos =>
      obtain ⟨g, rfl, h3, h6⟩ := h2
      have hg := hnb g hx h1 rfl
      exact ⟨g, rfl, (hsame g hg).trans h3, fun hs => h6 hs.1⟩
    | ms kd ks =>
      obtain ⟨g, rfl, ⟨es, clock, h3, h5⟩, h6⟩ := h2
      have hg := hnb g hx h1 rfl
      exact ⟨g, rfl, ⟨es, clock, (hsame g hg).trans h3, h5⟩, fun hs => h6 hs.1⟩
  · have hb' := hne n x h b hx hh hb
    exact (hr.place n x h b hx hh hb).imp_right fun hs => ⟨hs, hb'⟩
  · exact (hsame b (by omega)).trans (hr.same b h1 h2)

/-- The frame leaves: its marks are come to one by one. -/
theorem leaves_marksT {fn : Func} {R : Ending → World → Prop} {ro : Option Nat} {n : Nat} (hfin : ∀ (S : Nat → Prop) (a' : Act) (w' : World), a'.tmps = a.tmps → a'.defers = c.T → Rel c nt env ob ρ S a' w' → LeavesInM (wf ro) n P fn a'.tmps R c.T .returning w') :
    ∀ (Ds : List Nat) (S : Nat → Prop) (a' : Act) (w : World), a'.tmps = a.tmps → a'.defers = Ds.map markOf ++ c.T → Ds.Nodup → (∀ D ∈ Ds, S D ∧ c.W.heap.size ≤ D ∧ w.heap[D]? = some (.deferred (some []))) → Rel c nt env ob ρ S a' w →
      LeavesInM (wf ro) n P fn a'.tmps R a'.defers .returning w
  | [], S, a', w, ht, hd, _, _, hr => by
    have hd' : a'.defers = c.T := by simpa using hd
    rw [hd']
    exact hfin S a' w ht hd' hr
  | D' :: Ds, S, a', w, ht, hd, hnd, hall, hr => by
    have h1 := hr.unmark (o := .deferred none) hd hnd hall
    have h2 := leaves_marksT (ro := ro) (n := n) hfin Ds (fun b => S b ∧ b ≠ D') { a' with defers := Ds.map markOf ++ c.T } (w.putObj D' (.deferred none)) ht rfl (List.nodup_cons.1 hnd).2 (fun D hD => ?_) h1
    · rw [hd]
      refine ⟨by simp, .inl ⟨D', _, rfl, run_takeDeferred (hall D' (List.mem_cons_self ..)).2.2, h2⟩⟩
    · obtain ⟨g1, g2, g3⟩ := hall D (List.mem_cons_of_mem _ hD)
      have : D ≠ D' := fun e => (List.nodup_cons.1 hnd).1 (e ▸ hD)
      exact ⟨⟨g1, this⟩, g2, (World.putObj_heap_other this).trans g3⟩

theorem leaves_marks {fn : Func} {R : Ending → World → Prop} {ro : Option Nat} {n : Nat} (hT : c.T = []) (hfin : ∀ (S : Nat → Prop) (a' : Act) (w' : World), a'.tmps = a.tmps → a'.defers = [] → Rel c nt env ob ρ S a' w' → ∃ v, (results fn a'.tmps).run P w' = .ok v w' ∧ R (.returned v) w')
    (Ds : List Nat) (S : Nat → Prop) (a' : Act) (w : World) (ht : a'.tmps = a.tmps) (hd : a'.defers = Ds.map markOf ++ c.T) (hnd : Ds.Nodup) (hall : ∀ D ∈ Ds, S D ∧ c.W.heap.size ≤ D ∧ w.heap[D]? = some (.deferred (some []))) (hr : Rel c nt env ob ρ S a' w) :
    LeavesInM (wf ro) n P fn a'.tmps R a'.defers .returning w :=
  leaves_marksT (fun S a' w' h1 h2 h3 => by rw [hT] at h2 ⊢; exact hfin S a' w' h1 h2 h3) Ds S a' w ht hd hnd hall hr

end

/-- A call, from the walk of the body. -/
theorem calls_of_awp {E : Sit} (hro : E.ro = none) {f : FuncId} {fn : Func} {code : Code} (hf : E.P.funcs[f]? = some fn) (hb : fn.body = some code) {c : Base} (hc : OkB E c) (hT : c.T = []) {st0 : St} {Q : Exit → St → Prop} {vals : Array Value} {w : World} {R : Ending → World → Prop}
    (hrel : RelE c st0 st0.next { tmps := vals ++ Array.replicate (fn.ntmps - vals.size) undef, defers := [] } w) (h : AWp E code Q st0)
    (hQ : ∀ e st', Q e st' → e = .ret ∨ e = .normal)
    (hfin : ∀ (e : Exit) (st' : St), Q e st' → ∀ (ρ : Where) (S : Nat → Prop) (a' : Act) (w' : World), a'.defers = [] → Rel c st'.nt (getE st'.env) (getO st'.objs) ρ S a' w' → (∀ n, st'.next ≤ n → ρ n = none) →
      ∃ v, (results fn a'.tmps).run E.P w' = .ok v w' ∧ R (.returned v) w') : Calls E.P f vals w R := by
  refine (callsIn_wide (n := 0)).1 (callsIn_of_wp_marks (F := wf none) hf hb trivial ?_ rfl)
  have hw := h c _ w hc hrel
  rw [hro] at hw
  refine wpIn_mono hw fun e a' w' ⟨st', ⟨ρ, S, hr, hfr⟩, hq⟩ => ?_
  obtain ⟨Ds, h1, h2, h3⟩ := hr.defers
  have h4 := leaves_marks (P := E.P) (fn := fn) (R := R) (ro := none) (n := 0) (a := a') hT (fun S a2 w2 _ hd2 hr2 => hfin e st' hq ρ S a2 w2 hd2 hr2 hfr) Ds S a' w' rfl h1 h2 h3 hr
  rcases hQ e st' hq with rfl | rfl <;> exact h4

theorem RelE.freezeL {c : Base} {a : Act} {w : World} : ∀ {fz : List Nat} {st st' : St}, st.freezeL fz = some st' → RelE c st st.next a w → RelE c st' st'.next a w
  | [], st, st', h, hr => by simp only [St.freezeL, Option.some.injEq] at h; subst h; exact hr
  | o :: fz, st, st', h, hr => by
    simp only [St.freezeL] at h
    split at h
    · rename_i st1 h1
      exact RelE.freezeL h (hr.freeze h1)
    · cases h

theorem resAll_len {Γ : Ctx} {st : St} : ∀ {rs : List ResultVar} {ys : List (Bool × List AV)}, resAll Γ st rs = some ys → ys.length = rs.length
  | [], ys, h => by simp only [resAll, Option.some.injEq] at h; subst h; rfl
  | x :: rs, ys, h => by
    simp only [resAll] at h
    split at h
    · rename_i y ys' _ e
      cases h
      simp [resAll_len e]
    · cases h

/-- What the frame's results are, as one value. -/
theorem results_run {P : Program} {Γ : Ctx} (hΓ : CtxOk P Γ) {c : Base} {st : St} {ρ : Where} {S : Nat → Prop} {a : Act} {w : World} {fn : Func} {comps : List (Bool × List AV)} (hr : Rel c st.nt (getE st.env) (getO st.objs) ρ S a w) (h : resAll Γ st fn.results.toList = some comps) :
    ∃ vs : List Value, vs.length = fn.results.toList.length ∧ All2 (fun t u => RepC ρ w S t.1 t.2 u) comps vs ∧ (results fn a.tmps).run P w = .ok (if hh : vs.toArray.size = 1 then vs.toArray[0] else .tuple vs.toArray) w := by
  obtain ⟨vs, h5, h6⟩ := resAll_run hΓ hr h
  refine ⟨vs, by rw [← h6.len, resAll_len h], h6, ?_⟩
  unfold results
  rw [Array.mapM_eq_mapM_toList]
  simp only [Sem.run_bind, Sem.run_map, Sem.run_pure]
  exact congrArg (fun r => (Result.andThen (Result.andThen r (fun (a : List Value) w' => Result.ok a.toArray w')) (fun (a : Array Value) w' => Result.ok (if h : a.size = 1 then a[0] else Value.tuple a) w'))) h5

/-- The contract of a function, from how it is left. -/
theorem meets_of_calls {E : Sit} (hE : SitOk E) {f : FuncId} {fn : Func} {code : Code} {args : List (Bool × List CV)} {res : Res} (_hf : E.P.funcs[f]? = some fn) (hb : fn.body = some code) (hname : (fn.name == "runtime.NumGoroutine") = false)
    (hnt : args.length ≤ fn.ntmps)
    (h : ∀ (c : Base) (vals : Array Value) (w : World) (R : Ending → World → Prop), (∀ o h, c.R o = some h → E.pin.holds o) → c.T = [] → RelE c (initSt fn.ntmps args) (initSt fn.ntmps args).next { tmps := vals ++ Array.replicate (fn.ntmps - vals.size) undef, defers := [] } w →
      (∀ (e : Exit) (st' : St), RetQ E.Γ fn.results.toList res e st' → ∀ (ρ : Where) (S : Nat → Prop) (a' : Act) (w' : World), a'.defers = [] → Rel c st'.nt (getE st'.env) (getO st'.objs) ρ S a' w' → (∀ n, st'.next ≤ n → ρ n = none) →
        ∃ v, (results fn a'.tmps).run E.P w' = .ok v w' ∧ R (.returned v) w') → Calls E.P f vals w R) : Meets E.P f args res := by
  refine ⟨enterable _hf (by simp [hb]) hname, fun w S vals bs hS hlay hc hnd => ?_⟩
  have hrel := init_rel (nt := fn.ntmps) hS hlay hc hnd hnt
  refine h ⟨w, S, (· ∈ bs), fun _ => none, []⟩ vals.toArray w _ (fun o h hh => by cases hh) rfl (by simpa using hrel) ?_
  intro e st' hq ρ S1 a' w' hdef hr1 hfr
  have hq' : ∃ fz st2, st'.freezeL fz = some st2 ∧ RetOk E.Γ fn.results.toList st2 res := by cases e <;> first | exact hq | exact hq.elim
  obtain ⟨fz, st2, hfz, comps, h1, h2, h3, h4⟩ := hq'
  obtain ⟨ρ, S', hr, _⟩ := RelE.freezeL hfz ⟨ρ, S1, hr1, hfr⟩
  obtain ⟨vs, hvl, h6, hrun⟩ := results_run hE.ctx hr h1
  obtain ⟨h7, h8⟩ := fits_comps hr h2 h6
  refine ⟨_, hrun, _, S', blks ρ (idsR comps res.cs), rfl, ?_, blks_nodup hr h3 fun o ho => let ⟨k, e, rows, hh⟩ := h8 o ho; ⟨_, hh⟩, ?_⟩
  · unfold ResRep
    rw [h4]
    by_cases h9 : vs.length = 1
    · rw [if_neg (by rw [← hvl, h9]; simp)]
      match vs, h9, h7 with
      | [v], _, h7 => exact h7
    · rw [if_pos (by rw [← hvl]; simp [h9])]
      refine ⟨vs, ?_, h7⟩
      rw [dif_neg (by simpa using h9)]
  · refine ⟨hr.os, hr.tape, hr.output, hr.hsize, hr.same, hr.sub, hr.lim, hr.foot, fun b hb => ?_⟩
    obtain ⟨o, ho, hh, q1, q2⟩ := mem_blks.1 hb
    obtain ⟨k, e, rows, q3⟩ := h8 o ho
    have hnS : ¬ S' b := by
      obtain ⟨h', q4, q5⟩ := hr.obj _ _ q3
      rw [q1] at q4; cases q4
      rcases q5.2 with ⟨_, A', rfl⟩ | ⟨g, c', hc0, rfl, _, hlive, _⟩
      · cases A' <;> simp [blkOf] at q2
      · simp [blkOf, Nat.ne_of_gt hc0] at q2
        subst q2
        exact hlive rfl
    exact ⟨hnS, ((hr.place _ _ _ _ q3 q1 q2).resolve_right hnS).symm, blk_lt hr q3 q1 q2⟩

/-- THE CONTRACT OF A FUNCTION from its body. -/
theorem meets_of_body {E : Sit} (hE : SitOk E) (hro : E.ro = none) {f : FuncId} {fn : Func} {code : Code} {args : List (Bool × List CV)} {res : Res} (hf : E.P.funcs[f]? = some fn) (hb : fn.body = some code) (hname : (fn.name == "runtime.NumGoroutine") = false)
    (hnt : args.length ≤ fn.ntmps) (h : AWp E code (RetQ E.Γ fn.results.toList res) (initSt fn.ntmps args)) : Meets E.P f args res :=
  meets_of_calls hE hf hb hname hnt fun c vals w R hc hT hrel hfin => calls_of_awp hro hf hb hc hT hrel h (fun e st' hq => by cases e <;> first | exact .inl rfl | exact .inr rfl | exact hq.elim) hfin

end Go.Eng
namespace Go.Eng

def tyL : List (TypeId × TI) → TypeId → Option TI
  | [], _ => none
  | (k, x) :: r, t => if t = k then some x else tyL r t

def zeroB : AV → Value → Bool
  | .nils _, .slice none 0 0 => true
  | .d (.v (.int k n)), .int k' n' => k == k' && n == n'
  | .d (.v (.bool b)), .bool b' => b == b'
  | .d (.v (.string s)), .string s' => s.data.toList == s'.data.toList
  | .d (.v (.pointer none)), .pointer none => true
  | .d (.v .nilFunc), .nilFunc => true
  | .d (.v .nilIface), .nilIface => true
  | .d (.v (.map none)), .map none => true
  | _, _ => false

def zerosB : List AV → List Value → Bool
  | [], [] => true
  | x :: xs, v :: vs => zeroB x v && zerosB xs vs
  | _, _ => false

def descB (P : Program) (t : TypeId) (d : TDesc) : Bool := match d, P.underlying t with
  | .int k, some (.int k') => k == k'
  | .bool, some .bool => true
  | .str, some .string => true
  | .ptr, some (.pointer e) => e == P.pointee t
  | .other, some (.func ..) => true
  | .slice e, some (.slice e') => e == e'
  | .arr n e, some (.array n' e') => n == n' && e == e' && !P.eqGuardType P.depth t
  | .iface, some (.interface _) => true
  | .map k, some (.map k' e) => k == k' && (match P.info? e with
    | some i => (match i.zero with
      | some (.bool false) => true
      | _ => false)
    | none => false)
  | .struct fs, some (.struct flds) => fs == flds.toList.map (fun f => (f.offset, f.type)) && flds.toList.all (fun f => f.name != "_") && !P.eqGuardType P.depth t && !P.stoodInHeld t && flds.toList.all (fun f => (P.info? f.type).isSome)
  | _, _ => false

def tyCheck (P : Program) (t : TypeId) (ti : TI) : Bool := match P.info? t with
  | some i => i.size == ti.size && i.bytes == ti.bytes && (match i.zero with
    | some z => zerosB ti.zero z.cells.toList
    | none => false) && descB P t ti.desc
  | none => false

def tyCheckAll (P : Program) : List (TypeId × TI) → Bool
  | [] => true
  | (t, ti) :: r => tyCheck P t ti && tyCheckAll P r

theorem zeroB_ok {x : AV} {v : Value} (h : zeroB x v = true) : zeroRep x v := by
  unfold zeroB at h
  split at h <;> first | rfl | skip
  · simp at h; obtain ⟨rfl, rfl⟩ := h; exact ⟨rfl, rfl⟩
  · simp at h; subst h; exact ⟨rfl, rfl⟩
  · rename_i s s'
    have e : s = s' := by
      cases s with | mk a => cases s' with | mk b => simp at h; congr
    subst e
    exact ⟨rfl, rfl⟩
  · exact ⟨rfl, rfl⟩
  · exact ⟨rfl, rfl⟩
  · exact ⟨rfl, rfl⟩
  · exact ⟨rfl, rfl⟩
  · cases h

theorem zerosB_ok : ∀ {xs : List AV} {vs : List Value}, zerosB xs vs = true → All2 zeroRep xs vs
  | [], [], _ => .nil
  | x :: xs, v :: vs, h => by
    simp only [zerosB, Bool.and_eq_true] at h
    exact .cons (zeroB_ok h.1) (zerosB_ok h.2)
  | [], _ :: _, h => by cases h
  | _ :: _, [], h => by cases h

theorem descB_ok {P : Program} {t : TypeId} {d : TDesc} (h : descB P t d = true) : DescOk P t d := by
  unfold descB at h
  split at h
  · rename_i k k' hk; simp at h; subst h; exact hk
  · rename_i hk; exact hk
  · rename_i hk; exact hk
  · rename_i e hk; simp only [beq_iff_eq] at h; show P.underlying t = _; rw [hk, ← h]
  · rename_i hk; exact ⟨_, hk, fun fs e => (by cases e), fun n e e' => (by cases e')⟩
  · rename_i e e' hk; simp at h; subst h; exact hk
  · rename_i n e n' e' hk; simp at h; obtain ⟨⟨rfl, rfl⟩, h3⟩ := h; exact ⟨hk, h3⟩
  · rename_i ms hk; show P.underlying t = _; simp only [Program.methodsAt, hk]
  · rename_i k k' e hk
    simp only [Bool.and_eq_true, beq_iff_eq] at h
    obtain ⟨h1, h2⟩ := h
    subst h1
    split at h2
    · rename_i i hi
      split at h2
      · rename_i hz; exact ⟨e, i, hk, hi, hz⟩
      · cases h2
    · cases h2
  · rename_i fs flds hk
    simp only [Bool.and_eq_true, beq_iff_eq, Bool.not_eq_true', List.all_eq_true, bne_iff_ne] at h
    exact ⟨flds, hk, h.1.1.1.1, h.1.1.1.2, h.1.1.2, h.1.2, h.2⟩
  · cases h

theorem tyCheck_ok {P : Program} {t : TypeId} {ti : TI} (h : tyCheck P t ti = true) : TyOk P t ti := by
  unfold tyCheck at h
  split at h
  · rename_i i hi
    simp only [Bool.and_eq_true, beq_iff_eq] at h
    obtain ⟨⟨⟨h1, h2⟩, h3⟩, h4⟩ := h
    split at h3
    · rename_i z hz
      exact ⟨⟨i, z, hi, h1, h2, hz, zerosB_ok h3⟩, descB_ok h4⟩
    · cases h3
  · cases h

theorem tyL_ok {P : Program} : ∀ {tbl : List (TypeId × TI)}, tyCheckAll P tbl = true → ∀ t ti, tyL tbl t = some ti → TyOk P t ti
  | [], _, t, ti, h => by cases h
  | (k, x) :: r, hc, t, ti, h => by
    simp only [tyCheckAll, Bool.and_eq_true] at hc
    simp only [tyL] at h
    split at h
    · rename_i e
      subst e
      cases h
      exact tyCheck_ok hc.1
    · exact tyL_ok hc.2 t ti h

def extL : List (FuncId × Ext) → FuncId → Option Ext
  | [], _ => none
  | (k, x) :: r, t => if t = k then some x else extL r t

def ExtAll (P : Program) : List (FuncId × Ext) → Prop
  | [] => True
  | (f, e) :: r => ExtOk P f e ∧ ExtAll P r

theorem extL_ok {P : Program} : ∀ {tbl : List (FuncId × Ext)}, ExtAll P tbl → ∀ f e, extL tbl f = some e → ExtOk P f e
  | [], _, f, e, h => by cases h
  | (k, x) :: r, hc, f, e, h => by
    simp only [extL] at h
    split at h
    · rename_i hk
      subst hk
      cases h
      exact hc.1
    · exact extL_ok hc.2 f e h

theorem ctxOk_of {P : Program} {tbl : List (TypeId × TI)} {xt : List (FuncId × Ext)} (h1 : tyCheckAll P tbl = true) (h2 : ExtAll P xt) : CtxOk P ⟨fun t => tyL tbl t, fun f => extL xt f⟩ :=
  ⟨fun t ti h => tyL_ok h1 t ti h, fun f e h => extL_ok h2 f e h⟩

end Go.Eng
namespace Go.Eng

/-- A plain region from its place j on: whatever comes, the rest leads to Q. -/
def RunS (E : Sit) (l : List Oper) (N j : Nat) (Q : Exit → St → Prop) (st : St) : Prop :=
  ∀ (c : Base) (a : Act) (w : World), OkB E c → RelE c st (N + 8 * j) a w → wpOpsIn (wf E.ro) 0 E.P l.toArray (PostE c Q) (List.range' j (l.length - j)) a w

/-- A call of f, handed args, over the caller's objects (no number from next on being taken; those of fr need not keep their places): it answers, and leaves objects, as K lets. -/
def HCallF (E : Sit) (fr : List Nat) (f : FuncId) (args : List (Bool × List AV)) (objs : List (Nat × Option AObj)) (next : Nat) (K : AT → List (Nat × Option AObj) → Nat → Prop) : Prop :=
  Enterable E.P f ∧ ∀ (c : Base) (ρ : Where) (S : Nat → Prop) (w : World) (vals : List Value), (∀ o h, c.R o = some h → (⟨next, fr⟩ : Pin).holds o) → RelH c objs ρ S w → (∀ n, next ≤ n → ρ n = none) → All2 (fun t u => RepC ρ w S t.1 t.2 u) args vals →
    Calls E.P f vals.toArray w fun e w' => ∃ v t objs' next' ρ' S', e = .returned v ∧ RelH c objs' ρ' S' w' ∧ (∀ n, next' ≤ n → ρ' n = none) ∧ RepT ρ' w' S' t v ∧ K t objs' next'

abbrev HCall (E : Sit) (f : FuncId) (args : List (Bool × List AV)) (objs : List (Nat × Option AObj)) (next : Nat) (K : AT → List (Nat × Option AObj) → Nat → Prop) : Prop := HCallF E [] f args objs next K

theorem HCall.mono {E : Sit} {f : FuncId} {args : List (Bool × List AV)} {objs : List (Nat × Option AObj)} {next : Nat} {K K' : AT → List (Nat × Option AObj) → Nat → Prop} (h : HCall E f args objs next K) (hk : ∀ t o n, K t o n → K' t o n) : HCall E f args objs next K' :=
  ⟨h.1, fun c ρ S w vals h1 h2 h3 h4 => (h.2 c ρ S w vals h1 h2 h3 h4).mono fun _ _ ⟨v, t, objs', next', ρ', S', e1, e2, e3, e4, e5⟩ => ⟨v, t, objs', next', ρ', S', e1, e2, e3, e4, hk _ _ _ e5⟩⟩

section
variable {E : Sit} {Q : Exit → St → Prop} {st : St} {l : List Oper} {N j : Nat}

theorem runS_end (hj : l.length ≤ j) (h : Q .normal ⟨st.nt, st.env, st.objs, N + 8 * j⟩) : RunS E l N j Q st := by
  intro c a w _ hr
  have e : l.length - j = 0 := by omega
  rw [e]
  exact ⟨⟨st.nt, st.env, st.objs, N + 8 * j⟩, hr, h⟩

theorem runS_step (hE : SitOk E) {o : Oper} {x : Acc} (ho : l[j]? = some o) (h : AStepF E.P E.Γ l.toArray N st.nt j o (getE st.env) (getO st.objs) x) (h2 : RunS E l N (j + 1) Q (st.apply x)) : RunS E l N j Q st := by
  intro c a w hc ⟨ρ, S, h1, hf⟩
  have hj : j < l.length := (List.getElem?_eq_some_iff.1 ho).1
  obtain ⟨m, hm⟩ : ∃ m, l.length - j = m + 1 := ⟨l.length - j - 1, by omega⟩
  rw [hm, List.range'_succ, wpOpsIn_cons]
  refine astepF_sound hE.ctx h1 (by simpa using ho) (fun n h3 _ => hf n h3) h (fun a' w' ρ' S' h3 h4 => ?_)
  have := h2 c a' w' hc ⟨ρ', S', by rw [apply_env, apply_objs]; exact h3, fun n h5 => by rw [h4 n (by omega)]; exact hf n (by omega)⟩
  rwa [show l.length - (j + 1) = m by omega] at this

/-- The base of a stretch that may turn what is live, and keeps all objects in place. -/
def reBase (ob : Nat → Option AObj) (ρ : Where) (S : Nat → Prop) (w : World) (n : Nat) : Base :=
  ⟨w, S, fun b => ¬ S b ∧ ∃ o x h, ob o = some x ∧ ρ o = some h ∧ blkOf h = some b, fun o => if o < n then ρ o else none, []⟩

theorem rebase_in {c : Base} {nt : Nat} {env : Nat → AT} {ob : Nat → Option AObj} {ρ : Where} {S : Nat → Prop} {a a' : Act} {w : World} (hr : Rel c nt env ob ρ S a w) {nt' : Nat} {env' : Nat → AT} (n : Nat)
    (hd : a'.defers = []) (hs : a'.tmps.size = nt') (he : ∀ t, RepT ρ w S (env' t) (a'.tmps.getD t Go.undef)) : Rel (reBase ob ρ S w n) nt' env' ob ρ S a' w where
  defers := ⟨[], hd, .nil, by simp⟩
  size := hs
  env := he
  obj := hr.obj
  sep := hr.sep
  place o x h b hx hh hb := by
    by_cases hS : S b
    · exact .inr hS
    · exact .inl (.inr ⟨hS, o, x, h, hx, hh, hb⟩)
  os := rfl
  tape := rfl
  output := rfl
  hsize := Nat.le_refl _
  same _ _ _ := rfl
  lim := hr.lim
  sub _ h := h
  foot b h := .inl h
  pin o h hh := by
    simp only [reBase] at hh
    split at hh
    · exact hh
    · cases hh
  clim := hr.lim
  lay := hr.lay

/-- Back to the base that was. -/
theorem rebase_out {c : Base} {nt : Nat} {env : Nat → AT} {ob : Nat → Option AObj} {ρ : Where} {S : Nat → Prop} {a : Act} {w : World} (hr : Rel c nt env ob ρ S a w) {n : Nat} (hfr : ∀ o h, ρ o = some h → o < n) {nt' nt2 : Nat} {env' env2 : Nat → AT} {ob' : Nat → Option AObj} {ρ' : Where} {S' : Nat → Prop} {a' a2 : Act} {w' : World}
    (hr' : Rel (reBase ob ρ S w n) nt' env' ob' ρ' S' a' w') (hd : a2.defers = a.defers) (hs : a2.tmps.size = nt2) (he : Grows ρ ρ' w w' S S' → ∀ t, RepT ρ' w' S' (env2 t) (a2.tmps.getD t Go.undef)) : Rel c nt2 env2 ob' ρ' S' a2 w' := by
  have hpin : ∀ o h, ρ o = some h → ρ' o = some h := fun o h hh => hr'.pin o h (by simp only [reBase]; rw [if_pos (hfr o h hh)]; exact hh)
  have hkeep : Keeps S w w' := fun b hb => hr'.same b (hr.lim b hb) (fun h => h.1 hb)
  have hB : ∀ b, (reBase ob ρ S w n).B b → c.W.heap.size ≤ b ∨ c.B b := fun b ⟨hS, o, x, h, hx, hh, hb⟩ => (hr.place o x h b hx hh hb).resolve_right hS
  have hsub : ∀ b, S b → S' b := hr'.sub
  refine ⟨?_, hs, he ⟨hpin, hsub, hkeep⟩, hr'.obj, hr'.sep, fun o x h b hx hh hb => ?_, hr'.os.trans hr.os, hr'.tape.trans hr.tape, hr'.output.trans hr.output, Nat.le_trans hr.hsize hr'.hsize, fun b h1 h2 => ?_, hr'.lim, fun b hb => hsub b (hr.sub b hb), fun b hb => ?_, fun o h hh => ?_, hr.clim, hr'.lay⟩
  · obtain ⟨Ds, h1, h2, h3⟩ := hr.defers
    exact ⟨Ds, by rw [hd]; exact h1, h2, fun D hD => ⟨hsub _ (h3 D hD).1, (h3 D hD).2.1, (hkeep _ (h3 D hD).1).trans (h3 D hD).2.2⟩⟩
  · rcases hr'.place o x h b hx hh hb with (h1 | h1) | h1
    · exact .inl (.inl (Nat.le_trans hr.hsize h1))
    · exact .inl (hB b h1)
    · exact .inr h1
  · refine (hr'.same b (Nat.lt_of_lt_of_le h1 hr.hsize) fun h => ?_).trans (hr.same b h1 h2)
    rcases hB b h with h3 | h3
    · omega
    · exact h2 h3
  · rcases hr'.foot b hb with h1 | h1 | h1
    · exact hr.foot b h1
    · exact .inr (hB b h1).symm
    · exact .inr (.inr (Nat.le_trans hr.hsize h1))
  · exact hpin o h (hr.pin o h hh)

/-- An operation that is a call by a walk. -/
theorem hcall_op {o : Oper} {f : FuncId} {A : List (Bool × List AV)} {Kh : AT → List (Nat × Option AObj) → Nat → Prop} (ho : l[j]? = some o) (hg : guardA l.toArray (getE st.env) o = some true) (hd : dstOk st.nt o.dst = true) (hca : callArgs (aval E.Γ (getE st.env)) o = some (f, A))
    (h : HCall E f A st.objs (N + 8 * j) Kh) {c : Base} {a : Act} {w : World} {K : Act → World → Prop} {Qx : Exit → Act → World → Prop} (hrel0 : RelE c st (N + 8 * j) a w)
    (hK : ∀ a' w' t objs' next', RelE c ⟨st.nt, putE st.env o.dst t, objs', st.next⟩ next' a' w' → Kh t objs' next' → K a' w') : wpOpIn (wf E.ro) 0 E.P l.toArray Qx j K a w := by
  obtain ⟨ρ, S, hr, hf⟩ := hrel0
  have ho' : l.toArray[j]? = some o := by simpa using ho
  unfold wpOpIn
  simp only [ho']
  rw [if_pos (guard_wanted hr hg)]
  obtain ⟨vals, hall, hrun, cl, hcl⟩ := callArgs_run (P := E.P) hr hca
  refine Oper.wp_in (fun cl' hcl' => by rw [hcl] at hcl'; cases hcl') ?_
  unfold Oper.wp
  rw [hrun h.1]
  simp only [Oper.upon_enter]
  have hfr : ∀ o h, ρ o = some h → o < N + 8 * j := fun o h hh => by
    by_cases hlt : o < N + 8 * j
    · exact hlt
    · rw [hf o (by omega)] at hh; cases hh
  have h0 : RelH (reBase (getO st.objs) ρ S w (N + 8 * j)) st.objs ρ S w := rebase_in hr _ rfl rfl fun t => trivial
  refine (h.2 _ ρ S w vals (fun o h hh => ?_) h0 hf hall).mono ?_
  · simp only [reBase] at hh
    split at hh
    · exact ⟨by assumption, by simp⟩
    · cases hh
  · rintro e w' ⟨v, t, objs', next', ρ', S', rfl, hr', hf', hv, hk⟩
    simp only
    have hrel : Rel c st.nt (putF (getE st.env) o.dst t) (getO objs') ρ' S' (a.put o.dst v) w' := by
      refine rebase_out hr hfr hr' (put_defers _ _ _) (by rw [put_size]; exact hr.size) fun hgr t2 => ?_
      rw [put_get a o.dst v t2 (by rw [hr.size]; exact hd)]
      unfold putF
      split
      · exact hv
      · exact (hr.env t2).grows hgr
    exact hK (a.put o.dst v) w' t objs' next' ⟨ρ', S', by rw [getE_put]; exact hrel, hf'⟩ hk

theorem runS_hcall {o : Oper} {f : FuncId} {A : List (Bool × List AV)} (ho : l[j]? = some o) (hg : guardA l.toArray (getE st.env) o = some true) (hd : dstOk st.nt o.dst = true) (hca : callArgs (aval E.Γ (getE st.env)) o = some (f, A))
    (h : HCall E f A st.objs (N + 8 * j) fun t objs' next' => ∃ N', next' ≤ N' + 8 * (j + 1) ∧ RunS E l N' (j + 1) Q ⟨st.nt, putE st.env o.dst t, objs', st.next⟩) : RunS E l N j Q st := by
  intro c a w hc hr
  have hj : j < l.length := (List.getElem?_eq_some_iff.1 ho).1
  obtain ⟨m, hm⟩ : ∃ m, l.length - j = m + 1 := ⟨l.length - j - 1, by omega⟩
  rw [hm, List.range'_succ, wpOpsIn_cons]
  refine hcall_op ho hg hd hca h hr fun a' w' t objs' next' ⟨ρ', S', h1, h2⟩ ⟨N', hN', hk⟩ => ?_
  have := hk c a' w' hc ⟨ρ', S', h1, fun n hn => h2 n (by omega)⟩
  rwa [show l.length - (j + 1) = m by omega] at this

/-- A drawn region from its place j on, what is ahead of it being done and nothing else. -/
def SegE (E : Sit) (l : List Oper) (N j : Nat) (Q : Exit → St → Prop) (st : St) : Prop :=
  ∀ (c : Base) (a : Act) (w : World) (listed : Array Bool) (fuel : Nat), OkB E c → RelE c st (N + 8 * j) a w → listed.size = l.length → (∀ m, m < l.length → listed.getD m false = decide (m < j)) → (listed.toList.filter (!·)).length ≤ fuel →
    wpAnyIn (wf E.ro) 0 E.P .any l.toArray (PostE c Q) fuel listed a w
theorem segE_end {b : Nat} {st' : St} {xs : List Acc} (hE : SitOk E) (hb : b ≤ l.length) (h : ARun E.P E.Γ l.toArray N b (l.drop b) st st' xs) (hok : drawOk l (List.replicate b padA ++ xs) = true)
    (hq : Q .normal ⟨st'.nt, st'.env, st'.objs, N + 8 * l.length⟩) : SegE E l N b Q st := by
  intro c a w listed fuel _ hr hs hl hf
  refine region_seg (ops := l.toArray) (e := l.length) hE.ctx hb (by simp) (by rw [List.take_of_length_le (by simp)]; exact h) hok (fun h => absurd h (by simp)) (fun _ a' w' hr' => ?_) (fun h => absurd h (by simp)) hr (by simpa using hs) (by simpa using hl) hf
  exact ⟨⟨st'.nt, st'.env, st'.objs, N + 8 * l.length⟩, by simpa [RelE] using hr', hq⟩
theorem segE_call {b e : Nat} {st' : St} {xs : List Acc} {o : Oper} {f : FuncId} {A : List (Bool × List AV)} (hE : SitOk E) (hbe : b ≤ e) (hel : e < l.length) (h : ARun E.P E.Γ l.toArray N b ((l.drop b).take (e - b)) st st' xs) (hok : drawOk l (List.replicate b padA ++ xs) = true)
    (hcut : cutOk l e = true) (ho : l[e]? = some o) (hg : guardA l.toArray (getE st'.env) o = some true) (hd : dstOk st'.nt o.dst = true) (hca : callArgs (aval E.Γ (getE st'.env)) o = some (f, A))
    (hcall : HCall E f A st'.objs (N + 8 * e) fun t objs' next' => SegE E l next' (e + 1) Q ⟨st'.nt, putE st'.env o.dst t, objs', st'.next⟩) : SegE E l N b Q st := by
  intro c a w listed fuel hc hr hs hl hf
  refine region_seg (ops := l.toArray) (e := e) hE.ctx hbe (by simp; omega) h hok (fun _ => hcut) (fun h => absurd h (by simp; omega)) (fun _ a' w' listed' fuel' hr' hs' hl' hf' => ?_) hr (by simpa using hs) (by simpa using hl) hf
  refine hcall_op ho hg hd hca hcall hr' fun a2 w2 t objs' next' ⟨ρ', S', h1, h2⟩ hk => ?_
  have hs2 : listed'.size = l.length := by simpa using hs'
  have hle : listed'[e]? = some false := by
    have h3 := hl' e (by simpa using hel)
    rw [Array.getD_eq_getD_getElem?, Array.getElem?_eq_getElem (by omega)] at h3
    rw [Array.getElem?_eq_getElem (by omega)]
    simpa using h3
  refine hk c a2 w2 (listed'.setIfInBounds e true) fuel' hc ⟨ρ', S', h1, fun n hn => h2 n (by omega)⟩ (by simpa using hs2) (fun m hm => ?_) ?_
  · by_cases hme : m = e
    · subst hme
      simp [Array.getD_eq_getD_getElem?, hs2, hel]
    · rw [getD_set_ne false (Ne.symm hme), hl' m (by simpa using hm)]
      rw [decide_eq_decide]
      omega
  · have := count_set listed'.toList e (by rw [Array.getElem?_toList]; exact hle)
    simp only [Array.toList_setIfInBounds]
    omega
theorem awp_seg {id : Nat} {ops : Array Oper} (hE : SitOk E) (h : SegE E ops.toList st.next 0 Q st) : AWp E (.region id ops true) Q st := by
  intro c a w hc hr
  refine region_any hE.mix hr fun a' w' listed fuel h1 h2 h3 h4 => ?_
  have := h c a' w' listed fuel hc (by simpa using h1) (by simpa using h2) (by simpa using h3) h4
  simpa using this

/-- Is it a compare of a slice with nil? -/
def nilq : Op → Option (TypeId × Operand × Bool)
  | .binOp .eql t x (.const (.slice none 0 0)) _ => some (t, x, true)
  | .binOp .neq t x (.const (.slice none 0 0)) _ => some (t, x, false)
  | _ => none

theorem run_eql_nil (P : Program) (w : World) (t e : TypeId) (A : Option Addr) (n c : Nat) (h : P.underlying t = some (.slice e)) :
    (Op.equal t (.slice A n c) (.slice none 0 0)).run P w = .ok A.isNone w := by
  simp only [Op.equal, Op.maxDepth]
  exact Lib.run_equalIn_slice_nil w 9999 t e A n c 0 0 h

/-- A slice against nil: data does not tell an empty one from nil, so both ways are gone. -/
theorem runS_nilq (hE : SitOk E) {o : Oper} {t e : TypeId} {x : Operand} {v : AV} {k : Nat} {rows : List (List D)} {tc : List Nat} {want : Bool} (ho : l[j]? = some o) (hg : guardA l.toArray (getE st.env) o = some true) (hd : dstOk st.nt o.dst = true)
    (hop : nilq o.op = some (t, x, want)) (hel : E.Γ.elem t = some e) (hv : (aval E.Γ (getE st.env) t x).one? = some v) (hx : rowsOf (getO st.objs) v = some (k, rows, tc)) (hk : 0 < k)
    (h : ∀ b, (rows ≠ [] → b = false) → RunS E l N (j + 1) Q ⟨st.nt, putE st.env o.dst (.cs false [.d (.v (.bool (b == want)))]), st.objs, st.next⟩) : RunS E l N j Q st := by
  intro c a w hc ⟨ρ, S, hr, hf⟩
  have hj : j < l.length := (List.getElem?_eq_some_iff.1 ho).1
  obtain ⟨m, hm⟩ : ∃ m, l.length - j = m + 1 := ⟨l.length - j - 1, by omega⟩
  rw [hm, List.range'_succ, wpOpsIn_cons]
  have ho' : l.toArray[j]? = some o := by simpa using ho
  unfold wpOpIn
  simp only [ho']
  rw [if_pos (guard_wanted hr hg)]
  have hund := und_elem hE.ctx hel
  obtain ⟨A, cc, us, hu, hle, hflat, hcell⟩ := rows_src hr hx (one_rep (eval_rep (Γ := E.Γ) hr t x) hv)
  have hb : rows ≠ [] → A.isNone = false := by
    intro hne
    cases A with
    | some _ => rfl
    | none =>
      exfalso
      have hl := hflat.len
      have : 0 < rows.length := List.length_pos_iff.2 hne
      have h3 : 0 < us.length := by rw [hl]; exact Nat.mul_pos this hk
      obtain ⟨ad, h4, _⟩ := hcell 0 us[0] (List.getElem?_eq_getElem h3)
      cases h4
  have hne : ∀ cl, o.op ≠ .defer cl := fun cl hcl => by rw [hcl] at hop; cases hop
  have hrun : (execOp a.eval o).run E.P w = .ok (.value (.bool (A.isNone == want))) w := by
    unfold nilq at hop
    split at hop
    · rename_i t' x' t2 e1
      cases hop
      simp only [execOp, e1, hu]
      simp [Act.eval, eqGuard_at_slice, binOp, run_eql_nil E.P w t e A rows.length cc hund]
    · rename_i t' x' t2 e1
      cases hop
      simp only [execOp, e1, hu]
      simp [Act.eval, eqGuard_at_slice, binOp, run_eql_nil E.P w t e A rows.length cc hund]
    · cases hop
  refine Oper.wp_in hne (wp_value hrun ?_)
  have hrel := hr.value (dst := o.dst) (v := .bool (A.isNone == want)) (out := .cs false [.d (.v (.bool (A.isNone == want)))]) hd (rep_bool _)
  have := h A.isNone hb c (a.put o.dst (.bool (A.isNone == want))) w hc ⟨ρ, S, by rw [getE_put]; exact hrel, fun n hn => hf n (by omega)⟩
  rwa [show l.length - (j + 1) = m by omega] at this

theorem awp_runS {id : Nat} {ops : Array Oper} (h : RunS E ops.toList st.next 0 Q st) : AWp E (.region id ops false) Q st := by
  intro c a w hc hr
  refine wpIn_region ?_
  have := h c a w hc (by simpa using hr)
  rw [List.range_eq_range']
  simpa using this

end

/-- Such a call, from the walk of its body. -/
def retH (Γ : Ctx) (rs : List ResultVar) (K : AT → List (Nat × Option AObj) → Nat → Prop) : Exit → St → Prop
  | .ret, st | .normal, st => ∃ comps, resAll Γ st rs = some comps ∧ K (match comps with | [(g, xs)] => .cs g xs | _ => .tup comps) st.objs st.next
  | _, _ => False

theorem hcallF_of_body {E : Sit} (hE : SitOk E) {fr : List Nat} {f : FuncId} {fn : Func} {code : Code} {args : List (Bool × List AV)} {objs : List (Nat × Option AObj)} {next : Nat} {K : AT → List (Nat × Option AObj) → Nat → Prop} (hf : E.P.funcs[f]? = some fn) (hb : fn.body = some code) (hname : (fn.name == "runtime.NumGoroutine") = false)
    (hnt : args.length ≤ fn.ntmps) (h : AWp ⟨E.P, E.Γ, none, ⟨next, fr⟩⟩ code (retH E.Γ fn.results.toList K) ⟨fn.ntmps, initEnv 0 args, objs, next⟩) : HCallF E fr f args objs next K := by
  refine ⟨enterable hf (by simp [hb]) hname, fun c ρ S w vals hc hr hfr hall => ?_⟩
  have hlen := hall.len
  have hT : c.T = [] := by
    obtain ⟨Ds, h1, _⟩ := hr.defers
    exact (List.append_eq_nil_iff.1 h1.symm).2
  have hrel : RelE c ⟨fn.ntmps, initEnv 0 args, objs, next⟩ next { tmps := vals.toArray ++ Array.replicate (fn.ntmps - vals.toArray.size) Go.undef, defers := [] } w := by
    refine ⟨ρ, S, ⟨⟨[], by simp [hT], .nil, by simp⟩, ?_, fun t => ?_, hr.obj, hr.sep, hr.place, hr.os, hr.tape, hr.output, hr.hsize, hr.same, hr.lim, hr.sub, hr.foot, hr.pin, hr.clim, hr.lay⟩, hfr⟩
    · simp; omega
    · simp only [initEnv_get]
      rw [if_neg (by omega), Nat.sub_zero]
      cases hx : args[t]? with
      | none => trivial
      | some y =>
        obtain ⟨u, hu, hru⟩ := hall.get hx
        have htl : t < vals.length := (List.getElem?_eq_some_iff.1 hu).1
        have : (vals.toArray ++ Array.replicate (fn.ntmps - vals.toArray.size) Go.undef).getD t Go.undef = u := by
          rw [Array.getD_eq_getD_getElem?, Array.getElem?_append_left (by simpa using htl)]
          simp [hu]
        rw [this]
        exact hru
  refine calls_of_awp (E := ⟨E.P, E.Γ, none, ⟨next, fr⟩⟩) rfl hf hb hc hT hrel h (fun e st' hq => by cases e <;> first | exact .inl rfl | exact .inr rfl | exact hq.elim) ?_
  intro e st' hq ρ1 S1 a' w' hdef hr1 hfr1
  have hq' : ∃ comps, resAll E.Γ st' fn.results.toList = some comps ∧ K (match comps with | [(g, xs)] => .cs g xs | _ => .tup comps) st'.objs st'.next := by cases e <;> first | exact hq | exact hq.elim
  obtain ⟨comps, h1, h2⟩ := hq'
  obtain ⟨vs, hvl, h6, hrun⟩ := results_run (P := E.P) hE.ctx hr1 h1
  refine ⟨_, hrun, _, _, st'.objs, st'.next, ρ1, S1, rfl, ?_, hfr1, ?_, h2⟩
  · exact ⟨⟨[], by simp [hT], .nil, by simp⟩, rfl, fun _ => trivial, hr1.obj, hr1.sep, hr1.place, hr1.os, hr1.tape, hr1.output, hr1.hsize, hr1.same, hr1.lim, hr1.sub, hr1.foot, hr1.pin, hr1.clim, hr1.lay⟩
  · match comps, vs, h6 with
    | [], _, .nil => exact ⟨[], by simp, .nil⟩
    | [(g, xs)], _, .cons (y := u) h7 .nil =>
      have h8 : RepT ρ1 w' S1 (.cs g xs) u := h7
      simpa using h8
    | x :: y :: r, _, .cons (y := u) h7 (.cons (y := u2) h8 h9) =>
      refine ⟨_, ?_, .cons h7 (.cons h8 h9)⟩
      rw [dif_neg (by simp)]

theorem hcall_of_body {E : Sit} (hE : SitOk E) {f : FuncId} {fn : Func} {code : Code} {args : List (Bool × List AV)} {objs : List (Nat × Option AObj)} {next : Nat} {K : AT → List (Nat × Option AObj) → Nat → Prop} (hf : E.P.funcs[f]? = some fn) (hb : fn.body = some code) (hname : (fn.name == "runtime.NumGoroutine") = false)
    (hnt : args.length ≤ fn.ntmps) (h : AWp ⟨E.P, E.Γ, none, ⟨next, []⟩⟩ code (retH E.Γ fn.results.toList K) ⟨fn.ntmps, initEnv 0 args, objs, next⟩) : HCall E f args objs next K := hcallF_of_body hE hf hb hname hnt h

end Go.Eng
namespace Go.Eng

/-! ### What names no object of a list -/

def frC (fr : List Nat) : CapV → Bool
  | .ptr o _ => !fr.contains o
  | .d _ => true
def frA (fr : List Nat) : AV → Bool
  | .ptr o _ | .own o | .eptr o .. | .win o .. | .wx o .. | .yld o | .mph o | .vsl o _ => !fr.contains o
  | .clo _ ks => ks.all (frC fr)
  | .d _ | .nils _ => true
def frT (fr : List Nat) : AT → Bool
  | .cs _ xs => xs.all (frA fr)
  | .tup ts => ts.all fun t => t.2.all (frA fr)
  | _ => true

section
variable {ρ ρ' : Where} {w w' : World} {S S' : Nat → Prop} {fr : List Nat}

/-- Grown, but for the objects of fr. -/
structure GrowsF (fr : List Nat) (ρ ρ' : Where) (w w' : World) (S S' : Nat → Prop) : Prop where
  rho : ∀ o h, o ∉ fr → ρ o = some h → ρ' o = some h
  sub : ∀ b, S b → S' b
  keeps : Keeps S w w'

theorem notIn {o : Nat} (h : (!fr.contains o) = true) : o ∉ fr := by simpa using h

theorem RepCap.growsF (g : GrowsF fr ρ ρ' w w' S S') {x : CapV} {u : Value} (hx : frC fr x = true) (h : RepCap ρ w S x u) : RepCap ρ' w' S' x u := by
  cases x with
  | d y => exact Rep.mono g.sub g.keeps h
  | ptr o off => obtain ⟨b, h1, h2⟩ := h; exact ⟨b, g.rho _ _ (notIn hx) h1, h2⟩

theorem RepAV.growsF (g : GrowsF fr ρ ρ' w w' S S') {x : AV} {u : Value} (hx : frA fr x = true) (h : RepAV ρ w S x u) : RepAV ρ' w' S' x u := by
  cases x with
  | d y => exact Rep.mono g.sub g.keeps h
  | nils _ => exact h
  | ptr o off => obtain ⟨b, h1, h2⟩ := h; exact ⟨b, g.rho _ _ (notIn hx) h1, h2⟩
  | own o => obtain ⟨h1, h2⟩ := h; exact ⟨g.rho _ _ (notIn hx) h1, h2⟩
  | eptr o k i j => obtain ⟨b, n, c, h1, h2⟩ := h; exact ⟨b, n, c, g.rho _ _ (notIn hx) h1, h2⟩
  | win o k lo n => obtain ⟨A, m, c, A', h1, h2⟩ := h; exact ⟨A, m, c, A', g.rho _ _ (notIn hx) h1, h2⟩
  | wx o k lo n => obtain ⟨A, c, A', h1, h2⟩ := h; exact ⟨A, c, A', g.rho _ _ (notIn hx) h1, h2⟩
  | yld o => obtain ⟨b, h1, h2⟩ := h; exact ⟨b, g.rho _ _ (notIn hx) h1, h2⟩
  | mph o => obtain ⟨b, h1, h2⟩ := h; exact ⟨b, g.rho _ _ (notIn hx) h1, h2⟩
  | vsl o m => obtain ⟨b, h1, h2⟩ := h; exact ⟨b, g.rho _ _ (notIn hx) h1, h2⟩
  | clo f caps =>
    obtain ⟨vs, h1, h2⟩ := h
    refine ⟨vs, h1, ?_⟩
    clear h1
    simp only [frA, List.all_eq_true] at hx
    induction h2 with
    | nil => exact .nil
    | @cons y v ys us h3 _ ih => exact .cons (h3.growsF g (hx y (List.mem_cons_self ..))) (ih fun z hz => hx z (List.mem_cons_of_mem _ hz))

theorem RepAVs.growsF (g : GrowsF fr ρ ρ' w w' S S') : ∀ {xs : List AV} {us : List Value}, xs.all (frA fr) = true → All2 (RepAV ρ w S) xs us → All2 (RepAV ρ' w' S') xs us
  | [], _, _, h => by cases h; exact .nil
  | x :: xs, _, hx, h => by
    simp only [List.all_cons, Bool.and_eq_true] at hx
    cases h with
    | cons h1 h2 => exact .cons (h1.growsF g hx.1) (RepAVs.growsF g hx.2 h2)

theorem RepC.growsF (g : GrowsF fr ρ ρ' w w' S S') {b : Bool} {xs : List AV} {u : Value} (hx : xs.all (frA fr) = true) (h : RepC ρ w S b xs u) : RepC ρ' w' S' b xs u := by
  cases b with
  | true => obtain ⟨us, h1, h2⟩ := h; exact ⟨us, h1, RepAVs.growsF g hx h2⟩
  | false =>
    obtain ⟨x, rfl, h2⟩ := h
    exact ⟨x, rfl, h2.growsF g (by simpa using hx)⟩

theorem RepT.growsF (g : GrowsF fr ρ ρ' w w' S S') {t : AT} {u : Value} (hx : frT fr t = true) (h : RepT ρ w S t u) : RepT ρ' w' S' t u := by
  cases t with
  | junk => trivial
  | undef => exact h
  | cs b xs => exact RepC.growsF g hx h
  | tup ts =>
    obtain ⟨vs, e, h⟩ := h
    refine ⟨vs, e, ?_⟩
    clear e
    simp only [frT] at hx
    induction ts generalizing vs with
    | nil => cases h; exact .nil
    | cons t ts ih =>
      simp only [List.all_cons, Bool.and_eq_true] at hx
      cases h with
      | cons h1 h2 => exact .cons (RepC.growsF g hx.1 h1) (ih hx.2 _ h2)
end

/-! ### A stretch that keeps all in place but for some -/

def reBaseF (fr : List Nat) (ob : Nat → Option AObj) (ρ : Where) (S : Nat → Prop) (w : World) (n : Nat) : Base :=
  ⟨w, S, fun b => ¬ S b ∧ ∃ o x h, ob o = some x ∧ ρ o = some h ∧ blkOf h = some b, fun o => if o < n ∧ o ∉ fr then ρ o else none, []⟩

theorem rebaseF_in {c : Base} {nt : Nat} {env : Nat → AT} {ob : Nat → Option AObj} {ρ : Where} {S : Nat → Prop} {a a' : Act} {w : World} (hr : Rel c nt env ob ρ S a w) {nt' : Nat} {env' : Nat → AT} (fr : List Nat) (n : Nat)
    (hd : a'.defers = []) (hs : a'.tmps.size = nt') (he : ∀ t, RepT ρ w S (env' t) (a'.tmps.getD t Go.undef)) : Rel (reBaseF fr ob ρ S w n) nt' env' ob ρ S a' w :=
  have r := rebase_in hr n hd hs he
  have hp : ∀ o h, (reBaseF fr ob ρ S w n).R o = some h → ρ o = some h := fun o h hh => by
    simp only [reBaseF] at hh
    split at hh
    · exact hh
    · cases hh
  ⟨r.defers, r.size, r.env, r.obj, r.sep, r.place, r.os, r.tape, r.output, r.hsize, r.same, r.lim, r.sub, r.foot, hp, r.clim, r.lay⟩

theorem rebaseF_out {c : Base} {nt : Nat} {env : Nat → AT} {ob : Nat → Option AObj} {ρ : Where} {S : Nat → Prop} {a : Act} {w : World} (hr : Rel c nt env ob ρ S a w) {fr : List Nat} {n : Nat} (hfr : ∀ o h, ρ o = some h → o < n) (hcR : ∀ o h, c.R o = some h → o ∉ fr)
    {nt' nt2 : Nat} {env' env2 : Nat → AT} {ob' : Nat → Option AObj} {ρ' : Where} {S' : Nat → Prop} {a' a2 : Act} {w' : World}
    (hr' : Rel (reBaseF fr ob ρ S w n) nt' env' ob' ρ' S' a' w') (hd : a2.defers = a.defers) (hs : a2.tmps.size = nt2) (he : GrowsF fr ρ ρ' w w' S S' → ∀ t, RepT ρ' w' S' (env2 t) (a2.tmps.getD t Go.undef)) : Rel c nt2 env2 ob' ρ' S' a2 w' := by
  have hpin : ∀ o h, o ∉ fr → ρ o = some h → ρ' o = some h := fun o h ho hh => hr'.pin o h (by simp only [reBaseF]; rw [if_pos ⟨hfr o h hh, ho⟩]; exact hh)
  have hkeep : Keeps S w w' := fun b hb => hr'.same b (hr.lim b hb) (fun h => h.1 hb)
  have hB : ∀ b, (reBaseF fr ob ρ S w n).B b → c.W.heap.size ≤ b ∨ c.B b := fun b ⟨hS, o, x, h, hx, hh, hb⟩ => (hr.place o x h b hx hh hb).resolve_right hS
  have hsub : ∀ b, S b → S' b := hr'.sub
  refine ⟨?_, hs, he ⟨hpin, hsub, hkeep⟩, hr'.obj, hr'.sep, fun o x h b hx hh hb => ?_, hr'.os.trans hr.os, hr'.tape.trans hr.tape, hr'.output.trans hr.output, Nat.le_trans hr.hsize hr'.hsize, fun b h1 h2 => ?_, hr'.lim, fun b hb => hsub b (hr.sub b hb), fun b hb => ?_, fun o h hh => ?_, hr.clim, hr'.lay⟩
  · obtain ⟨Ds, h1, h2, h3⟩ := hr.defers
    exact ⟨Ds, by rw [hd]; exact h1, h2, fun D hD => ⟨hsub _ (h3 D hD).1, (h3 D hD).2.1, (hkeep _ (h3 D hD).1).trans (h3 D hD).2.2⟩⟩
  · rcases hr'.place o x h b hx hh hb with (h1 | h1) | h1
    · exact .inl (.inl (Nat.le_trans hr.hsize h1))
    · exact .inl (hB b h1)
    · exact .inr h1
  · refine (hr'.same b (Nat.lt_of_lt_of_le h1 hr.hsize) fun h => ?_).trans (hr.same b h1 h2)
    rcases hB b h with h3 | h3
    · omega
    · exact h2 h3
  · rcases hr'.foot b hb with h1 | h1 | h1
    · exact hr.foot b h1
    · exact .inr (hB b h1).symm
    · exact .inr (.inr (Nat.le_trans hr.hsize h1))
  · exact hpin o h (hcR o h hh) (hr.pin o h hh)

/-! ### The function that is ranged over -/

/-- A function value: the function, what it captured. -/
def calleeA : AT → Option (FuncId × List (Bool × List AV))
  | .cs false [.d (.fn f caps)] => some (f, caps.map fun d => (false, [.d d]))
  | .cs false [.clo f caps] => some (f, caps.map capA)
  | _ => none

theorem callee_rep {ρ : Where} {w : World} {S : Nat → Prop} {t : AT} {v : Value} {f : FuncId} {A : List (Bool × List AV)} (h : calleeA t = some (f, A)) (hv : RepT ρ w S t v) :
    ∃ vs : Array Value, v = .func (.func f) #[] vs ∧ All2 (fun t u => RepC ρ w S t.1 t.2 u) A vs.toList := by
  unfold calleeA at h
  split at h
  · rename_i f' caps
    simp only [Option.some.injEq, Prod.mk.injEq] at h
    obtain ⟨rfl, rfl⟩ := h
    obtain ⟨x, e, hx⟩ := hv
    cases e
    obtain ⟨vs, rfl, hvl, hvs⟩ := fn_val hx
    refine ⟨vs, rfl, All2.of_get (by simp [hvl]) fun i x y hx hy => ?_⟩
    simp only [List.getElem?_map, Option.map_eq_some_iff] at hx
    obtain ⟨d, hd, rfl⟩ := hx
    exact ⟨_, rfl, hvs i d y hd (by simpa using hy)⟩
  · rename_i f' caps
    simp only [Option.some.injEq, Prod.mk.injEq] at h
    obtain ⟨rfl, rfl⟩ := h
    obtain ⟨x, e, hx⟩ := hv
    cases e
    obtain ⟨vs, rfl, hvs⟩ := hx
    refine ⟨vs.toArray, rfl, ?_⟩
    simp only
    induction hvs with
    | nil => exact .nil
    | @cons x u xs us h1 _ ih =>
      refine .cons ?_ ih
      cases x with
      | d y => exact ⟨_, rfl, h1⟩
      | ptr oo off => exact ⟨_, rfl, h1⟩
  · cases h

/-! ### The loop's record -/

section
variable {P : Program} {c : Base} {nt : Nat} {env : Nat → AT} {ob : Nat → Option AObj} {ρ : Where} {S : Nat → Prop} {a : Act} {w : World}

/-- The block of a record turns. -/
theorem Rel.putLp (hr : Rel c nt env ob ρ S a w) {o g : Nat} {L : Lp} (hob : ob o = some (.lp L)) (hρ : ρ o = some (.pointer (some ⟨g, 0, none⟩))) (hS : ¬ S g) {b2 : Obj} {x : Option AObj}
    (hx : ∀ y, x = some y → Grows ρ ρ w (w.putObj g b2) S S → ObjRep ρ (w.putObj g b2) S (.pointer (some ⟨g, 0, none⟩)) y) : Rel c nt env (updO [(o, x)] ob) ρ S a (w.putObj g b2) := by
  have hk : Keeps S w (w.putObj g b2) := fun b hb => World.putObj_heap_other fun e => hS (e ▸ hb)
  have hg : Grows ρ ρ w (w.putObj g b2) S S := ⟨fun _ _ h => h, fun _ h => h, hk⟩
  have h1 := hr.step (dst := none) (v := undef) (out := .junk) (ob' := updO [(o, x)] ob) (w' := w.putObj g b2) (S' := S) (ρ' := ρ) rfl hg trivial
    (fun n y hy => by
      simp only [updO] at hy
      split at hy
      · rename_i e
        subst e
        refine .inr ⟨_, hρ, hx y hy hg, fun b hb => ⟨hr.place _ _ _ _ hob hρ hb, fun o2 x2 h2 hx2 hh2 hb2 => ?_⟩⟩
        simp only [updO] at hx2
        split at hx2
        · assumption
        · exact hr.sep _ _ _ _ _ _ b hx2 hob hh2 hρ hb2 hb
      · rename_i e
        refine .inl ⟨hy, fun hh b h1 h2 => ⟨World.putObj_heap_other fun eb => ?_, id⟩⟩
        subst eb
        exact absurd (hr.sep _ _ _ _ _ _ b hy hob h1 hρ h2 rfl) e) rfl rfl rfl (by simp)
    (fun b h1 h2 => World.putObj_heap_other fun eb => by
      subst eb
      rcases hr.place _ _ _ b hob hρ rfl with (h3 | h3) | h3
      · omega
      · exact h2 h3
      · exact hS h3)
    (fun b hb => by simpa using hr.lim b hb) hr.foot
  have e1 : putF env none .junk = env := by funext n; simp [putF]
  rw [e1] at h1
  exact h1

/-- What is known of a record. -/
theorem Rel.lp (hr : Rel c nt env ob ρ S a w) {o : Nat} {L : Lp} (hob : ob o = some (.lp L)) :
    ∃ g fn tmps D, ρ o = some (.pointer (some ⟨g, 0, none⟩)) ∧ w.heap[g]? = some (.loop { state := L.st.state, pending := L.st.pending, fn := fn, tmps := tmps, params := L.ps, assign := L.assign, body := L.body, defers := D }) ∧
      tmps.size = L.nt ∧ (∀ t, RepT ρ w S (getE L.env t) (tmps.getD t Go.undef)) ∧
      (∀ s : LSt, Rel c nt env (updO [(o, some (.lp { L with st := s }))] ob) ρ S a (w.putObj g (.loop { state := s.state, pending := s.pending, fn := fn, tmps := tmps, params := L.ps, assign := L.assign, body := L.body, defers := D }))) ∧
      ∀ b2 : Obj, Rel c nt env (updO [(o, none)] ob) ρ S a (w.putObj g b2) := by
  obtain ⟨h, hρ, g, rfl, ⟨fn, tmps, D, q1, q2, q3⟩, q4⟩ := hr.obj o _ hob
  have hlt : g < w.heap.size := (Array.getElem?_eq_some_iff.1 q1).1
  exact ⟨g, fn, tmps, D, hρ, q1, q2, q3, fun s => hr.putLp hob hρ q4 fun y hy hg => by
    cases hy
    exact ⟨g, rfl, ⟨fn, tmps, D, World.putObj_heap_same hlt, q2, fun t => (q3 t).grows hg⟩, q4⟩, fun b2 => hr.putLp hob hρ q4 fun y hy => by cases hy⟩

/-- A record is laid: the mark's block, the record behind it. -/
theorem Rel.newLp (hr : Rel c nt env ob ρ S a w) {N : Nat} (hN : ρ N = none) {env' : List (Nat × AT)} (hsub : ∀ t, getE env' t = .junk ∨ getE env' t = env t) (fn : FuncId) (ps : Array Tmp) (assign body : Code) :
    ∃ ρ' S', (∀ n, n ≠ N → ρ' n = ρ n) ∧ ρ' N = some (.pointer (some ⟨w.heap.size + 1, 0, none⟩)) ∧
      Grows ρ ρ' w ((w.alloc (.deferred (some []))).alloc (.loop { state := .ready, pending := none, fn, tmps := a.tmps, params := ps, assign, body, defers := w.heap.size })) S S' ∧
      Rel c nt env (updO [(N, some (.lp ⟨nt, env', ps, assign, body, .ready⟩))] ob) ρ' S' { a with defers := markOf w.heap.size :: a.defers }
        ((w.alloc (.deferred (some []))).alloc (.loop { state := .ready, pending := none, fn, tmps := a.tmps, params := ps, assign, body, defers := w.heap.size })) := by
  let w0 := w.alloc (.deferred (some []))
  let S' : Nat → Prop := fun b => S b ∨ b = w.heap.size
  have hk0 : Keeps S w w0 := fun b hb => RowKit.Below.heap_alloc w _ b (hr.lim b hb)
  have hg0 : Grows ρ ρ w w0 S S' := ⟨fun _ _ h => h, fun _ h => .inl h, hk0⟩
  have hsz := hr.hsize
  have h1 := hr.step (dst := none) (v := undef) (out := .junk) (ob' := ob) (w' := w0) (S' := S') (ρ' := ρ) rfl hg0 trivial
    (fun n y hy => .inl ⟨hy, fun hh b h1 h2 => by
      have hb := blk_lt hr hy h1 h2
      exact ⟨RowKit.Below.heap_alloc w _ b hb, fun h3 => h3.resolve_right (by omega)⟩⟩) rfl rfl rfl (by simp [w0])
    (fun b hb _ => RowKit.Below.heap_alloc w _ b (by omega))
    (fun b hb => by
      rcases hb with hb | hb
      · have := hr.lim b hb; simp [w0]; omega
      · simp [w0, hb])
    (fun b hb => by
      rcases hb with hb | hb
      · exact hr.foot b hb
      · exact .inr (.inr (by omega)))
  have e1 : putF env none .junk = env := by funext n; simp [putF]
  rw [e1] at h1
  have hD : w0.heap[w.heap.size]? = some (.deferred (some [])) := World.alloc_heap_new w _
  -- the mark
  have h2 : Rel c nt env ob ρ S' { a with defers := markOf w.heap.size :: a.defers } w0 := by
    refine ⟨?_, h1.size, h1.env, h1.obj, h1.sep, h1.place, h1.os, h1.tape, h1.output, h1.hsize, h1.same, h1.lim, h1.sub, h1.foot, h1.pin, h1.clim, h1.lay⟩
    obtain ⟨Ds, d1, d2, d3⟩ := hr.defers
    refine ⟨w.heap.size :: Ds, by simp [d1], List.nodup_cons.2 ⟨fun hm => ?_, d2⟩, fun D hm => ?_⟩
    · have := hr.lim _ (d3 _ hm).1; omega
    · rcases List.mem_cons.1 hm with rfl | hm
      · exact ⟨.inr rfl, hsz, hD⟩
      · obtain ⟨q1, q2, q3⟩ := d3 D hm
        exact ⟨.inl q1, q2, (hk0 D q1).trans q3⟩
  have hw0 : w0.heap.size = w.heap.size + 1 := by simp [w0]
  obtain ⟨ρ', r1, hN2, r2⟩ := h2.newAt (N := N) (x := .lp ⟨nt, env', ps, assign, body, .ready⟩) (h := .pointer (some ⟨w.heap.size + 1, 0, none⟩)) (v := undef) (out := .junk) (dst := none)
    (o := .loop { state := .ready, pending := none, fn, tmps := a.tmps, params := ps, assign, body, defers := w.heap.size }) rfl hN (.inl (by simp [blkOf, hw0]))
    (fun ρ' hρ' hg => by
      refine ⟨w.heap.size + 1, rfl, ⟨fn, a.tmps, w.heap.size, ?_, hr.size, fun t => ?_⟩, fun h3 => ?_⟩
      · rw [← hw0]; exact World.alloc_heap_new w0 _
      · rcases hsub t with h3 | h3
        · rw [h3]; trivial
        · rw [h3]; exact (h1.env t).grows hg
      · rcases h3 with h3 | h3
        · have := hr.lim _ h3; omega
        · omega)
    (fun _ _ => trivial)
  rw [e1] at r2
  refine ⟨ρ', S', r1, hN2, ⟨fun n h hh => ?_, fun b hb => .inl hb, fun b hb => ?_⟩, r2⟩
  · rw [r1 n fun e => by subst e; rw [hN] at hh; cases hh]; exact hh
  · have := hr.lim b hb
    exact (RowKit.Below.heap_alloc w0 _ b (by omega)).trans (hk0 b hb)

end

/-- How a loop over a function ends, by where its record stands. -/
def lpEnd : LSt → (Exit → St → Prop) → St → Prop
  | .ready, Q, st => Q .normal st
  | .done .ret, Q, st => Q .ret st
  | .done (.exit id), Q, st => Q (.exit id) st
  | _, _, _ => False

/-- What is asked when the function that was ranged over has answered. -/
def rangeK (N nt : Nat) (env' : List (Nat × AT)) (Q : Exit → St → Prop) : AT → List (Nat × Option AObj) → Nat → Prop := fun _ objs' next' =>
  ∃ L, getO objs' N = some (.lp L) ∧ lpEnd L.st Q ⟨nt, env', (N, none) :: objs', next'⟩

/-- The earlier temporaries, of which some are kept; none of these names an object of fr. -/
def keepE (fr : List Nat) (env : List (Nat × AT)) : List (Nat × AT) → Prop
  | [] => True
  | (t, x) :: r => getE env t = x ∧ frT fr x = true ∧ keepE fr env r

theorem keepE_get {fr : List Nat} {env : List (Nat × AT)} : ∀ {env' : List (Nat × AT)}, keepE fr env env' → ∀ t, getE env' t = .junk ∨ (getE env' t = getE env t ∧ frT fr (getE env' t) = true)
  | [], _, t => .inl rfl
  | (t', x) :: r, h, t => by
    obtain ⟨h1, h2, h3⟩ := h
    simp only [getE]
    split
    · rename_i e; subst e; exact .inr ⟨h1.symm, h2⟩
    · exact keepE_get h3 t

/-- 'for .. := range g': the function that g is, walked over the caller's objects and the loop's record. -/
theorem awp_range {E : Sit} (hro : E.ro = none) {g : Operand} {ps : Array Tmp} {assign body : Code} {Q : Exit → St → Prop} {st : St} (fr : List Nat) (env' : List (Nat × AT)) {f : FuncId} {A : List (Bool × List AV)}
    (hg : calleeA (aval E.Γ (getE st.env) 0 g) = some (f, A)) (hfr : (fr.all fun o => decide (o < st.next) && (decide (E.pin.n ≤ o) || E.pin.free.contains o)) = true) (hkeep : keepE fr st.env env')
    (h : HCallF E fr f ((false, [.yld st.next]) :: A) ((st.next, some (.lp ⟨st.nt, env', ps, assign, body, .ready⟩)) :: st.objs) (st.next + 8) (rangeK st.next st.nt env' Q)) :
    AWp E (.rangeFunc g ps assign body) Q st := by
  intro c a w ho ⟨ρ, S, hr, hf⟩
  have hfr' : ∀ o ∈ fr, o < st.next ∧ (E.pin.n ≤ o ∨ o ∈ E.pin.free) := fun o h1 => by
    have := List.all_eq_true.1 hfr o h1
    simpa using this
  have hsub := keepE_get hkeep
  refine wpIn_rangeFunc fun fn _ => ?_
  obtain ⟨ρ1, S1, r1, r2, r3, r4⟩ := hr.newLp (hf st.next (Nat.le_refl _)) (env' := env') (fun t => (hsub t).imp_right (·.1)) fn ps assign body
  obtain ⟨vs, hgv, hvs⟩ := callee_rep hg (eval_rep (Γ := E.Γ) hr 0 g)
  have hgv1 : ({ a with defers := markOf w.heap.size :: a.defers } : Act).eval g = .func (.func f) #[] vs := by
    cases g <;> simp_all [Act.eval]
  let l := w.heap.size + 1
  let w1 := (w.alloc (.deferred (some []))).alloc (.loop { state := .ready, pending := none, fn, tmps := a.tmps, params := ps, assign, body, defers := w.heap.size })
  let vals : List Value := .func (.yield l) #[] #[] :: vs.toList
  have hent := h.1 vals.toArray w1
  have e0 : vals.toArray = #[] ++ #[Value.func (.yield l) #[] #[]] ++ vs := by apply Array.ext'; simp [vals]
  refine ⟨l, [markOf w.heap.size], w1, { target := .fn (.func f) vs, args := #[] ++ #[.func (.yield l) #[] #[]] }, w1, f, vals.toArray, w1, ?_, ?_, fun _ _ => trivial, ?_, fun hh => by simp [Fence.wide] at hh, ?_⟩
  · have : (wf E.ro).round = none := by simp [hro]
    rw [this]
    exact run_enterLoop_outer fn a.tmps ps assign body
  · have hgv' : a.eval g = .func (.func f) #[] vs := hgv
    simp only [resolve, hgv', Deferred.ofValue, Sem.run_pure]
    simp [Act.eval]
  · rw [e0] at hent ⊢
    simp only [invoke, hent]
  · refine calls_in ?_
    have hfresh : ∀ n, st.next + 8 ≤ n → ρ1 n = none := fun n hn => by rw [r1 n (by omega)]; exact hf n (by omega)
    have hlt : ∀ o h, ρ1 o = some h → o < st.next + 8 := fun o h hh => by
      by_cases hlt : o < st.next + 8
      · exact hlt
      · rw [hfresh o (by omega)] at hh; cases hh
    have hob : updO [(st.next, some (.lp ⟨st.nt, env', ps, assign, body, .ready⟩))] (getO st.objs) = getO ((st.next, some (.lp ⟨st.nt, env', ps, assign, body, .ready⟩)) :: st.objs) := (getO_upd _ _).symm
    have h0 : RelH (reBaseF fr (getO ((st.next, some (.lp ⟨st.nt, env', ps, assign, body, .ready⟩)) :: st.objs)) ρ1 S1 w1 (st.next + 8)) ((st.next, some (.lp ⟨st.nt, env', ps, assign, body, .ready⟩)) :: st.objs) ρ1 S1 w1 := by
      have r4' := r4
      rw [hob] at r4'
      exact rebaseF_in r4' fr _ rfl rfl fun t => trivial
    have hargs : All2 (fun t u => RepC ρ1 w1 S1 t.1 t.2 u) ((false, [.yld st.next]) :: A) vals :=
      .cons ⟨_, rfl, _, r2, rfl⟩ (hvs.mono fun _ _ hh => RepC.grows r3 hh)
    refine (h.2 _ ρ1 S1 w1 vals (fun o h hh => ?_) h0 hfresh hargs).mono ?_
    · simp only [reBaseF] at hh
      split at hh
      · rename_i hc; exact ⟨hc.1, hc.2⟩
      · cases hh
    · rintro e w' ⟨v, t, objs', next', ρ2, S2, rfl, hr', hf', hv, L, hL, hend⟩
      have r4' := r4
      rw [hob] at r4'
      have hrel : Rel c st.nt (getE env') (getO objs') ρ2 S2 { a with defers := markOf w.heap.size :: a.defers } w' := by
        refine rebaseF_out r4' hlt (fun o h hh hm => ?_) hr' rfl r4'.size fun hgr t2 => ?_
        · have hp := ho o h hh
          rcases (hfr' o hm).2 with h2 | h2
          · have := hp.1; omega
          · exact hp.2 h2
        · rcases hsub t2 with h2 | ⟨h2, h3⟩
          · rw [h2]; trivial
          · have := r4'.env t2
            rw [← h2] at this
            exact RepT.growsF hgr h3 this
      obtain ⟨g2, fn2, tmps2, D2, q1, q2, q3, q4, q5, q6⟩ := hrel.lp hL
      have hNf : st.next ∉ fr := fun hm => by have := (hfr' _ hm).1; omega
      have hg2 : g2 = l := by
        have h2 := hr'.pin st.next _ (by simp only [reBaseF]; rw [if_pos ⟨by omega, hNf⟩]; exact r2)
        rw [q1] at h2
        simpa [l] using h2
      subst hg2
      have hnb : L.st.state ≠ .busy := by
        cases hs : L.st with
        | busy => rw [hs] at hend; exact hend.elim
        | _ => simp [LSt.state]
      have hel := run_endLoop (P := E.P) q2 hnb
      refine ⟨_, _, hel, ?_⟩
      have hrel2 := q6 (.loop { state := .exhausted, pending := L.st.pending, fn := fn2, tmps := tmps2, params := L.ps, assign := L.assign, body := L.body, defers := D2 })
      rw [← getO_upd] at hrel2
      have hE : RelE c ⟨st.nt, env', (st.next, none) :: objs', next'⟩ next' { a with defers := markOf w.heap.size :: a.defers } (w'.putObj l (.loop { state := .exhausted, pending := L.st.pending, fn := fn2, tmps := tmps2, params := L.ps, assign := L.assign, body := L.body, defers := D2 })) :=
        ⟨ρ2, S2, hrel2, hf'⟩
      cases hs : L.st with
      | ready => rw [hs] at hend; simp only [LSt.pending]; exact ⟨_, by rw [hs] at hE; exact hE, hend⟩
      | busy => rw [hs] at hend; exact hend.elim
      | done cc =>
        rw [hs] at hend
        simp only [LSt.pending]
        cases cc with
        | ret => exact wpIn_ret ⟨_, by rw [hs] at hE; exact hE, hend⟩
        | exit id => exact wpIn_exit ⟨_, by rw [hs] at hE; exact hE, hend⟩
        | _ => exact hend.elim

/-! ### A call of yield -/

/-- A call of what a loop hands its function: the loop's record; what it is handed. -/
def yieldA (ev : TypeId → Operand → AT) (o : Oper) : Option (Nat × List (Bool × List AV)) := match o.op with
  | .call c => match c.callee with
    | .value fx => match (ev 0 fx).one?, argsOf ev c.args.toList c.argTypes.toList with
      | some (.yld n), some args => some (n, args)
      | _, _ => none
    | _ => none
  | _ => none

/-- A round's temporaries. -/
def parE : List Tmp → List (Bool × List AV) → List (Nat × AT) → List (Nat × AT)
  | p :: ps, (g, xs) :: A, env => parE ps A ((p, .cs g xs) :: env)
  | _, _, env => env

/-- The record stands elsewhere. -/
def setLp (o : Nat) (L : Lp) (s : LSt) (objs : List (Nat × Option AObj)) : List (Nat × Option AObj) := (o, some (.lp { L with st := s })) :: objs

def roundQ (o : Nat) (K : AT → List (Nat × Option AObj) → Nat → Prop) : Exit → St → Prop
  | .normal, st => ∃ L, getO st.objs o = some (.lp L) ∧ K (.cs false [.d (.v (.bool true))]) (setLp o L .ready st.objs) st.next
  | .ret, st => ∃ L, getO st.objs o = some (.lp L) ∧ K (.cs false [.d (.v (.bool false))]) (setLp o L (.done .ret) st.objs) st.next
  | .exit id, st => ∃ L, getO st.objs o = some (.lp L) ∧ K (.cs false [.d (.v (.bool false))]) (setLp o L (.done (.exit id)) st.objs) st.next
  | _, _ => False

def beginQ (E : Sit) (o : Nat) (body : Code) (K : AT → List (Nat × Option AObj) → Nat → Prop) (st : St) : Prop :=
  ∃ L, getO st.objs o = some (.lp L) ∧ L.st = .ready ∧ AWp E body (roundQ o K) ⟨st.nt, st.env, setLp o L .busy st.objs, st.next⟩

/-- A round of the loop whose record is o, over the objects. -/
def HYield (E : Sit) (o : Nat) (A : List (Bool × List AV)) (objs : List (Nat × Option AObj)) (next : Nat) (K : AT → List (Nat × Option AObj) → Nat → Prop) : Prop :=
  ∃ L, getO objs o = some (.lp L) ∧ (decide (A.length = L.ps.size) && L.ps.toList.all fun p => decide (p < L.nt)) = true ∧
    ∀ ro, AWp ⟨E.P, E.Γ, ro, ⟨next, []⟩⟩ L.assign (thenQ (beginQ ⟨E.P, E.Γ, ro, ⟨next, []⟩⟩ o L.body K) (fun _ _ => False)) ⟨L.nt, parE L.ps.toList A L.env, objs, next⟩

theorem roundQ_mono {o : Nat} {K K' : AT → List (Nat × Option AObj) → Nat → Prop} (hk : ∀ t ob n, K t ob n → K' t ob n) : ∀ e st, roundQ o K e st → roundQ o K' e st
  | .normal, _, ⟨L, h1, h2⟩ => ⟨L, h1, hk _ _ _ h2⟩
  | .ret, _, ⟨L, h1, h2⟩ => ⟨L, h1, hk _ _ _ h2⟩
  | .exit _, _, ⟨L, h1, h2⟩ => ⟨L, h1, hk _ _ _ h2⟩
  | .goto _, _, h => h.elim
  | .panic _, _, h => h.elim
  | .outgrown, _, h => h.elim

theorem HYield.mono {E : Sit} {o : Nat} {A : List (Bool × List AV)} {objs : List (Nat × Option AObj)} {next : Nat} {K K' : AT → List (Nat × Option AObj) → Nat → Prop} (h : HYield E o A objs next K) (hk : ∀ t ob n, K t ob n → K' t ob n) : HYield E o A objs next K' := by
  obtain ⟨L, h1, h2, h3⟩ := h
  refine ⟨L, h1, h2, fun ro => awp_mono (h3 ro) fun e st h => ?_⟩
  cases e with
  | normal =>
    obtain ⟨L1, q1, q2, q3⟩ := h
    exact ⟨L1, q1, q2, awp_mono q3 (roundQ_mono hk)⟩
  | _ => exact h.elim

theorem par_rep {ρ : Where} {w : World} {S : Nat → Prop} : ∀ {ps : List Tmp} {A : List (Bool × List AV)} {vals : List Value} {env : List (Nat × AT)} {tmps : Array Value}, A.length = ps.length → (∀ p ∈ ps, p < tmps.size) → All2 (fun t u => RepC ρ w S t.1 t.2 u) A vals →
    (∀ t, RepT ρ w S (getE env t) (tmps.getD t Go.undef)) →
    ((ps.zip vals).foldl (fun tmps (x : Tmp × Value) => tmps.setIfInBounds x.1 x.2) tmps).size = tmps.size ∧
      ∀ t, RepT ρ w S (getE (parE ps A env) t) (((ps.zip vals).foldl (fun tmps (x : Tmp × Value) => tmps.setIfInBounds x.1 x.2) tmps).getD t Go.undef)
  | [], A, vals, env, tmps, hl, _, _, h => by
    cases A with
    | nil => exact ⟨rfl, h⟩
    | cons => simp at hl
  | p :: ps, A, vals, env, tmps, hl, hp, hA, h => by
    cases A with
    | nil => simp at hl
    | cons y A =>
      obtain ⟨g, xs⟩ := y
      cases hA with
      | @cons _ u _ us h1 h2 =>
        have ih := par_rep (ps := ps) (A := A) (vals := us) (env := (p, .cs g xs) :: env) (tmps := tmps.setIfInBounds p u) (by simpa using hl) (fun q hq => by simpa using hp q (List.mem_cons_of_mem _ hq)) h2 (fun t => by
          have hpl := hp p (List.mem_cons_self ..)
          simp only [getE]
          split
          · rename_i e
            subst e
            have : (tmps.setIfInBounds t u).getD t Go.undef = u := by simp [Array.getD_eq_getD_getElem?, hpl]
            rw [this]; exact h1
          · rename_i e
            have : (tmps.setIfInBounds p u).getD t Go.undef = tmps.getD t Go.undef := by
              simp only [Array.getD_eq_getD_getElem?]
              rw [Array.getElem?_setIfInBounds_ne (Ne.symm e)]
            rw [this]; exact h t)
        obtain ⟨i1, i2⟩ := ih
        refine ⟨?_, i2⟩
        simp only [List.zip_cons_cons, List.foldl_cons]
        rw [i1]; simp

theorem yield_run {P : Program} {Γ : Ctx} {c : Base} {nt : Nat} {env : Nat → AT} {ob : Nat → Option AObj} {ρ : Where} {S : Nat → Prop} {a : Act} {w : World} (hr : Rel c nt env ob ρ S a w) {o : Oper} {n : Nat} {A : List (Bool × List AV)} (h : yieldA (aval Γ env) o = some (n, A)) :
    ∃ (g : Nat) (vals : List Value), ρ n = some (.pointer (some ⟨g, 0, none⟩)) ∧ All2 (fun t u => RepC ρ w S t.1 t.2 u) A vals ∧ (∃ cl, o.op = .call cl) ∧
      ∀ (r : Loop) (w : World), w.heap[g]? = some (.loop r) → vals.length = r.params.size → (execOp a.eval o).run P w = .ok (.round g r.fn ((r.params.toList.zip vals).foldl (fun tmps (x : Tmp × Value) => tmps.setIfInBounds x.1 x.2) r.tmps) r.assign r.body) w := by
  unfold yieldA at h
  split at h
  · rename_i cl ho
    split at h
    · rename_i fx hb
      split at h
      · rename_i n' args ef eargs
        simp only [Option.some.injEq, Prod.mk.injEq] at h
        obtain ⟨rfl, rfl⟩ := h
        obtain ⟨g, hρ, hv⟩ := one_rep (eval_rep (Γ := Γ) hr 0 fx) ef
        refine ⟨g, cl.args.toList.map a.eval, hρ, args_rep hr eargs, ⟨cl, ho⟩, fun r w hg hl => ?_⟩
        have hy := run_yield (P := P) (args := cl.args.map a.eval) hg (by simpa using hl)
        have e : (r.params.zip (cl.args.map a.eval)).foldl (fun tmps (t, a) => tmps.setIfInBounds t a) r.tmps = (r.params.toList.zip (cl.args.toList.map a.eval)).foldl (fun tmps (x : Tmp × Value) => tmps.setIfInBounds x.1 x.2) r.tmps := by
          rw [← Array.foldl_toList]; simp
        rw [e] at hy
        simp only [execOp, ho, resolve, hb, hv, Deferred.ofValue, Sem.run_bind, Sem.run_pure, Result.andThen_ok, invoke]
        simpa using hy
      · cases h
    · cases h
  · cases h

/-- An operation that is a call of yield: a round of the loop. -/
theorem yield_op {E : Sit} {st : St} {l : List Oper} {N j : Nat} {o : Oper} {n : Nat} {A : List (Bool × List AV)} {Kh : AT → List (Nat × Option AObj) → Nat → Prop} (ho : l[j]? = some o) (hg : guardA l.toArray (getE st.env) o = some true) (hd : dstOk st.nt o.dst = true)
    (hy : yieldA (aval E.Γ (getE st.env)) o = some (n, A))
    (h : HYield E n A st.objs (N + 8 * j) Kh) {c : Base} {a : Act} {w : World} {K : Act → World → Prop} {Qx : Exit → Act → World → Prop} (hc : OkB E c) (hrel0 : RelE c st (N + 8 * j) a w)
    (hK : ∀ a' w' t objs' next', RelE c ⟨st.nt, putE st.env o.dst t, objs', st.next⟩ next' a' w' → Kh t objs' next' → K a' w') : wpOpIn (wf E.ro) 0 E.P l.toArray Qx j K a w := by
  obtain ⟨ρ, S, hr, hf⟩ := hrel0
  have ho' : l.toArray[j]? = some o := by simpa using ho
  unfold wpOpIn
  simp only [ho']
  rw [if_pos (guard_wanted hr hg)]
  obtain ⟨g, vals, hρ, hall, ⟨cl, hcl⟩, hrun⟩ := yield_run (P := E.P) hr hy
  obtain ⟨L, hL, hlen, hA⟩ := h
  simp only [Bool.and_eq_true, decide_eq_true_eq, List.all_eq_true] at hlen
  obtain ⟨g', fn, tmps, D, q1, q2, q3, q4, _⟩ := hr.lp hL
  have hgg : g' = g := by rw [hρ] at q1; simpa using q1.symm
  subst hgg
  have hvl := hall.len
  have hrun' := hrun _ w q2 (by simp only; omega)
  have hfr : ∀ o h, ρ o = some h → o < N + 8 * j := fun o h hh => by
    by_cases hlt : o < N + 8 * j
    · exact hlt
    · rw [hf o (by omega)] at hh; cases hh
  unfold Oper.wpIn
  refine ⟨fun _ _ => trivial, ?_⟩
  rw [Oper.semAt_eq _ _ _ (fun cl' hcl' => by rw [hcl] at hcl'; cases hcl'), hrun', Oper.uponIn_round]
  refine ⟨fun hh => by simp [Fence.wide] at hh, ?_⟩
  refine roundIn_of_wpIn trivial ?_
  obtain ⟨p1, p2⟩ := par_rep (ps := L.ps.toList) (A := A) (vals := vals) (env := L.env) (tmps := tmps) (by rw [hlen.1]; simp) (fun p hp => by rw [q3]; exact hlen.2 p hp) hall q4
  let cb := reBase (getO st.objs) ρ S w (N + 8 * j)
  have hcb : ∀ ro, OkB ⟨E.P, E.Γ, ro, ⟨N + 8 * j, []⟩⟩ cb := fun ro o h hh => by
    simp only [cb, reBase] at hh
    split at hh
    · exact ⟨by assumption, by simp⟩
    · cases hh
  have hgpin : ∀ (ρ' : Where) (S' : Nat → Prop) (nt' : Nat) (env' : Nat → AT) (ob' : Nat → Option AObj) (a' : Act) (w' : World), Rel cb nt' env' ob' ρ' S' a' w' → ρ' n = some (.pointer (some ⟨g', 0, none⟩)) := fun ρ' S' nt' env' ob' a' w' h1 => by
    refine h1.pin n _ ?_
    simp only [cb, reBase]
    rw [if_pos (hfr _ _ hρ)]; exact hρ
  have h0 : RelE cb ⟨L.nt, parE L.ps.toList A L.env, st.objs, N + 8 * j⟩ (N + 8 * j) { tmps := (L.ps.toList.zip vals).foldl (fun tmps (x : Tmp × Value) => tmps.setIfInBounds x.1 x.2) tmps, defers := [] } w :=
    ⟨ρ, S, rebase_in hr _ rfl (by rw [← q3]; exact p1) p2, hf⟩
  refine wpIn_mono (hA (some g') cb _ w (hcb _) h0) fun e a1 w1 ⟨st1, h1, h2⟩ => ?_
  cases e with
  | normal =>
    obtain ⟨L1, hL1, hst1, hbody⟩ := h2
    obtain ⟨ρ1, S1, r1, f1⟩ := h1
    obtain ⟨g1, fn1, tmps1, D1, s1, s2, s3, s4, s5, _⟩ := r1.lp hL1
    have hg1 : g1 = g' := by have := hgpin _ _ _ _ _ _ _ r1; rw [s1] at this; simpa using this
    subst hg1
    rw [hst1] at s2
    refine ⟨_, run_beginRound s2 rfl, ?_⟩
    have r2 := s5 .busy
    rw [← getO_upd] at r2
    refine wpIn_mono (hbody cb a1 _ (hcb _) ⟨ρ1, S1, r2, f1⟩) fun e2 a2 w2 ⟨st2, h3, h4⟩ => ?_
    obtain ⟨ρ2, S2, r3, f3⟩ := h3
    -- back in the caller's frame
    have back : ∀ (L2 : Lp) (s : LSt) (b : Bool) (jump : Option Code), getO st2.objs n = some (.lp L2) → s.state = (if jump.isNone then .ready else .done) → s.pending = jump → jump.isNone = b →
        Kh (.cs false [.d (.v (.bool b))]) (setLp n L2 s st2.objs) st2.next →
        ∃ v w', (Instr.endRound g1 jump).run E.P w2 = .ok v w' ∧ K (a.put o.dst v) w' := by
      intro L2 s b jump hL2 hs1 hs2 hb hk
      subst hb
      obtain ⟨g2, fn2, tmps2, D2, t1, t2, t3, t4, t5, _⟩ := r3.lp hL2
      have hg2 : g2 = g1 := by have := hgpin _ _ _ _ _ _ _ r3; rw [t1] at this; simpa using this
      subst hg2
      refine ⟨_, _, run_endRound jump t2, ?_⟩
      have r4 := t5 s
      rw [← getO_upd] at r4
      rw [hs1, hs2] at r4
      have hrel := rebase_out (nt2 := st.nt) (env2 := putF (getE st.env) o.dst (.cs false [.d (.v (.bool jump.isNone))])) (a2 := a.put o.dst (.bool jump.isNone)) hr hfr r4 (put_defers _ _ _) (by rw [put_size]; exact hr.size) (fun hgr t2 => by
        rw [put_get a o.dst _ t2 (by rw [hr.size]; exact hd)]
        unfold putF
        by_cases hdst : o.dst = some t2
        · rw [if_pos hdst, if_pos hdst]; exact rep_bool _
        · rw [if_neg hdst, if_neg hdst]; exact (hr.env t2).grows hgr)
      exact hK (a.put o.dst (.bool jump.isNone)) _ (.cs false [.d (.v (.bool jump.isNone))]) _ _ ⟨ρ2, S2, by rw [getE_put]; exact hrel, f3⟩ hk
    cases e2 with
    | normal => obtain ⟨L2, e1, e2⟩ := h4; exact back L2 .ready true none e1 rfl rfl rfl e2
    | ret => obtain ⟨L2, e1, e2⟩ := h4; exact back L2 (.done .ret) false (some .ret) e1 rfl rfl rfl e2
    | exit id => obtain ⟨L2, e1, e2⟩ := h4; exact back L2 (.done (.exit id)) false (some (.exit id)) e1 rfl rfl rfl e2
    | _ => exact h4.elim
  | _ => exact h2.elim

theorem runS_yield {E : Sit} {Q : Exit → St → Prop} {st : St} {l : List Oper} {N j : Nat} {o : Oper} {n : Nat} {A : List (Bool × List AV)} (ho : l[j]? = some o) (hg : guardA l.toArray (getE st.env) o = some true) (hd : dstOk st.nt o.dst = true)
    (hy : yieldA (aval E.Γ (getE st.env)) o = some (n, A))
    (h : HYield E n A st.objs (N + 8 * j) fun t objs' next' => ∃ N', next' ≤ N' + 8 * (j + 1) ∧ RunS E l N' (j + 1) Q ⟨st.nt, putE st.env o.dst t, objs', st.next⟩) : RunS E l N j Q st := by
  intro c a w hc hr
  have hj : j < l.length := (List.getElem?_eq_some_iff.1 ho).1
  obtain ⟨m, hm⟩ : ∃ m, l.length - j = m + 1 := ⟨l.length - j - 1, by omega⟩
  rw [hm, List.range'_succ, wpOpsIn_cons]
  refine yield_op ho hg hd hy h hc hr fun a' w' t objs' next' ⟨ρ', S', h1, h2⟩ ⟨N', hN', hk⟩ => ?_
  have := hk c a' w' hc ⟨ρ', S', h1, fun n hn => h2 n (by omega)⟩
  rwa [show l.length - (j + 1) = m by omega] at this

/-- A drawn region, cut at a call of yield. -/
theorem segE_yield {E : Sit} {Q : Exit → St → Prop} {st : St} {l : List Oper} {N : Nat} {b e : Nat} {st' : St} {xs : List Acc} {o : Oper} {n : Nat} {A : List (Bool × List AV)} (hE : SitOk E) (hbe : b ≤ e) (hel : e < l.length) (h : ARun E.P E.Γ l.toArray N b ((l.drop b).take (e - b)) st st' xs) (hok : drawOk l (List.replicate b padA ++ xs) = true)
    (hcut : cutOk l e = true) (ho : l[e]? = some o) (hg : guardA l.toArray (getE st'.env) o = some true) (hd : dstOk st'.nt o.dst = true) (hy : yieldA (aval E.Γ (getE st'.env)) o = some (n, A))
    (hcall : HYield E n A st'.objs (N + 8 * e) fun t objs' next' => SegE E l next' (e + 1) Q ⟨st'.nt, putE st'.env o.dst t, objs', st'.next⟩) : SegE E l N b Q st := by
  intro c a w listed fuel hc hr hs hl hf
  refine region_seg (ops := l.toArray) (e := e) hE.ctx hbe (by simp; omega) h hok (fun _ => hcut) (fun h => absurd h (by simp; omega)) (fun _ a' w' listed' fuel' hr' hs' hl' hf' => ?_) hr (by simpa using hs) (by simpa using hl) hf
  refine yield_op ho hg hd hy hcall hc hr' fun a2 w2 t objs' next' ⟨ρ', S', h1, h2⟩ hk => ?_
  have hs2 : listed'.size = l.length := by simpa using hs'
  have hle : listed'[e]? = some false := by
    have h3 := hl' e (by simpa using hel)
    rw [Array.getD_eq_getD_getElem?, Array.getElem?_eq_getElem (by omega)] at h3
    rw [Array.getElem?_eq_getElem (by omega)]
    simpa using h3
  refine hk c a2 w2 (listed'.setIfInBounds e true) fuel' hc ⟨ρ', S', h1, fun n hn => h2 n (by omega)⟩ (by simpa using hs2) (fun m hm => ?_) ?_
  · by_cases hme : m = e
    · subst hme
      simp [Array.getD_eq_getD_getElem?, hs2, hel]
    · rw [getD_set_ne false (Ne.symm hme), hl' m (by simpa using hm)]
      rw [decide_eq_decide]
      omega
  · have := count_set listed'.toList e (by rw [Array.getElem?_toList]; exact hle)
    simp only [Array.toList_setIfInBounds]
    omega

end Go.Eng
namespace Go.Eng

/-- Only what was deferred is another: the rest is as it was. -/
theorem Rel.tail {c : Base} {nt : Nat} {env : Nat → AT} {ob : Nat → Option AObj} {ρ : Where} {S : Nat → Prop} {a : Act} {w : World} (hr : Rel c nt env ob ρ S a w) (T ds : List Deferred) (h : ds = T) : Rel { c with T := T } nt env ob ρ S { a with defers := ds } w :=
  ⟨⟨[], by simp [h], .nil, by simp⟩, hr.size, hr.env, hr.obj, hr.sep, hr.place, hr.os, hr.tape, hr.output, hr.hsize, hr.same, hr.lim, hr.sub, hr.foot, hr.pin, hr.clim, hr.lay⟩

/-- The operation that defers. -/
def dferOp (t : Tmp) (ty : TypeId) (pos : String) (af : Array Edge) : Oper := ⟨none, .defer ⟨.value (.tmp t), #[], #[]⟩, ty, pos, af, none⟩
/-- The operation that recovers. -/
def recOp (d : Tmp) (ty : TypeId) (pos : String) (af : Array Edge) : Oper := ⟨some d, .call ⟨.builtin .recover, #[], #[]⟩, ty, pos, af, none⟩

/-- Is it nil? -/
def nilOp (q d : Tmp) (ti ti2 ty : TypeId) (pos : String) (af : Array Edge) : Oper := ⟨some q, .binOp .eql ti (.tmp d) (.const .nilIface) ti2, ty, pos, af, none⟩
def asgOp (z d : Tmp) (ty : TypeId) (pos : String) (af : Array Edge) : Oper := ⟨some z, .assign (.tmp d), ty, pos, af, none⟩

theorem calls_of_defer {E : Sit} (hE : SitOk E) (hro : E.ro = none) {f : FuncId} {fn : Func} {c0 c1 rest : Code} {id : Nat} {mk : Oper} {t : Tmp} {ty : TypeId} {pos : String} {af : Array Edge}
    (hf : E.P.funcs[f]? = some fn) (hb : fn.body = some (.seq c0 (.seq c1 (.seq (.region id #[mk, dferOp t ty pos af] false) rest))))
    {st0 s1 s2 s4 : St} {r : AOut} {g : FuncId} {caps : List CapV} {fg : Func} {celse : Code} {idg idb id3 id4 : Nat} {d q z : Tmp} {tyg ti ti2 ty3 ty4 : TypeId} {posg pos3 pos4 : String} {afg af3 af4 : Array Edge}
    (h0 : AWp E c0 (fun e st => e = .normal ∧ st = s1) st0) (h1 : AWp E c1 (fun e st => e = .normal ∧ st = s2) s1)
    (hmg : mk.guard = none) (hmd : dstOk s2.nt mk.dst = true) (hmk : aop E.Γ s2.next (aval E.Γ (getE s2.env)) (getO s2.objs) mk = some r) (hclo : getE (putE s2.env mk.dst r.out) t = .cs false [.clo g caps])
    (h3 : AWp ⟨E.P, E.Γ, none, ⟨s2.next + 16, []⟩⟩ rest (fun e st => (e = .normal ∨ e = .ret) ∧ st = s4) ⟨s2.nt, putE s2.env mk.dst r.out, r.upd ++ s2.objs, s2.next + 16⟩)
    (hg : E.P.funcs[g]? = some fg) (hgb : fg.body = some (.seq (.region idg #[recOp d tyg posg afg] false) (.block idb (.seq (.region id3 #[nilOp q d ti ti2 ty3 pos3 af3] false) (.cond (.tmp q) (.region id4 #[asgOp z d ty4 pos4 af4] false) celse))))) (hgn : (fg.name == "runtime.NumGoroutine") = false) (hgr : fg.results = #[]) (hgd : d < fg.ntmps) (hgq : q < fg.ntmps) (hgl : caps.length ≤ fg.ntmps) (hti : isIface E.Γ ti = true)
    {c : Base} (hc : OkB E c) (hT : c.T = []) {vals : Array Value} {w : World} {R : Ending → World → Prop}
    (hrel : RelE c st0 st0.next { tmps := vals ++ Array.replicate (fn.ntmps - vals.size) undef, defers := [] } w)
    (hfin : ∀ (ρ : Where) (S : Nat → Prop) (a' : Act) (w' : World), a'.defers = [] → Rel c s4.nt (getE s4.env) (getO s4.objs) ρ S a' w' → (∀ n, s4.next ≤ n → ρ n = none) →
      ∃ v, (results fn a'.tmps).run E.P w' = .ok v w' ∧ R (.returned v) w') : Calls E.P f vals w R := by
  refine (callsIn_wide (n := 0)).1 (callsIn_of_wp_marks (F := wf none) hf hb trivial ?_ rfl)
  have hw0 := h0 c _ w hc hrel
  rw [hro] at hw0
  refine wpIn_seq (wpIn_mono hw0 fun e a1 w1 ⟨st', hr1, he, hs⟩ => ?_)
  subst he; subst hs
  have hw1 := h1 c _ w1 hc hr1
  rw [hro] at hw1
  refine wpIn_seq (wpIn_mono hw1 fun e a2 w2 ⟨st', hr2, he, hs⟩ => ?_)
  subst he; subst hs
  refine wpIn_seq ?_
  refine wpIn_region ?_
  obtain ⟨ρ2, S2, hr2, hf2⟩ := hr2
  show wpOpsIn _ _ _ _ _ [0, 1] a2 w2
  rw [wpOpsIn_cons]
  have hstep : AStepF E.P E.Γ #[mk, dferOp t ty pos af] st'.next st'.nt 0 mk (getE st'.env) (getO st'.objs) ⟨guardT #[mk, dferOp t ty pos af] mk ++ mk.op.operands.toList.flatMap opTemps, [] ++ r.touch, mk.dst, r.out, r.upd ++ []⟩ :=
    ⟨hmd, .inr ⟨by simp [guardA, hmg], .inl ⟨[], r, by simp, .inl (by simpa [updO] using hmk), by simp⟩⟩⟩
  refine astepF_sound hE.ctx hr2 (ops := #[mk, dferOp t ty pos af]) (N := st'.next) (j := 0) rfl (fun n h3 _ => hf2 n (by omega)) hstep (fun a3 w3 ρ3 S3 hr3 hρ3 => ?_)
  simp only [List.append_nil] at hr3
  rw [← getE_put, ← getO_upd] at hr3
  have hf3 : ∀ n, st'.next + 16 ≤ n → ρ3 n = none := fun n hn => by rw [hρ3 n (by omega)]; exact hf2 n (by omega)
  -- the call is deferred
  have hcv := hr3.env t
  rw [hclo] at hcv
  obtain ⟨x, hx, hxr⟩ := hcv
  cases hx
  obtain ⟨vs, hv, hvs⟩ := hxr
  let dd : Deferred := { target := .fn (.func g) vs.toArray, args := #[] ++ #[] }
  let T : List Deferred := dd :: a3.defers
  let a3' : Act := { a3 with defers := T }
  rw [wpOpsIn_cons]
  unfold wpOpIn
  simp only [show (#[mk, dferOp t ty pos af] : Array Oper)[1]? = some (dferOp t ty pos af) from rfl]
  rw [if_pos (by simp [Region.wanted, dferOp])]
  have hsem : ((dferOp t ty pos af).semAt none a3.eval).run E.P w3 = .ok (.defer dd) w3 := by
    have h6 : a3.eval (.tmp t) = .func (.func g) #[] vs.toArray := hv
    simp only [Oper.semAt_none, execOp, dferOp, resolve, h6, Deferred.ofValue, Sem.run_bind, Sem.run_pure, Result.andThen_ok]
    simp [dd]
  unfold Oper.wpIn
  refine ⟨fun _ _ => trivial, ?_⟩
  rw [show (wf none).round = none from rfl, hsem, Oper.uponIn_defer]
  show wpOpsIn _ _ _ _ _ [] _ w3
  unfold wpOpsIn
  show Code.wpIn _ _ _ rest _ a3' w3
  -- the rest, upon a base of its own
  let s3 : St := ⟨st'.nt, putE st'.env mk.dst r.out, r.upd ++ st'.objs, st'.next + 16⟩
  let cR := reBase (getO s3.objs) ρ3 S3 w3 s3.next
  have hfr3 : ∀ o h, ρ3 o = some h → o < s3.next := fun o h hh => by
    by_cases hlt : o < s3.next
    · exact hlt
    · rw [hf3 o (by simpa [s3] using hlt)] at hh; cases hh
  have hbase : Rel cR s3.nt (getE s3.env) (getO s3.objs) ρ3 S3 { a3 with defers := [] } w3 := rebase_in hr3 s3.next rfl hr3.size hr3.env
  have hrT : Rel { cR with T := T } s3.nt (getE s3.env) (getO s3.objs) ρ3 S3 a3' w3 := hbase.tail T T rfl
  have hokR : OkB ⟨E.P, E.Γ, none, ⟨s3.next, []⟩⟩ { cR with T := T } := fun o h hh => by
    have hh' : (if o < s3.next then ρ3 o else none) = some h := hh
    split at hh'
    · exact ⟨by assumption, by simp⟩
    · cases hh'
  refine wpIn_mono (h3 { cR with T := T } a3' w3 hokR ⟨ρ3, S3, hrT, hf3⟩) fun e a4 w4 ⟨st4, hr4, he, hs⟩ => ?_
  subst hs
  obtain ⟨ρ4, S4, hr4, hf4⟩ := hr4
  have goal : LeavesInM (wf none) 0 E.P fn a4.tmps R a4.defers .returning w4 := by
    obtain ⟨Ds, d1, d2, d3⟩ := hr4.defers
    refine leaves_marksT (c := { cR with T := T }) (a := a4) (fun S5 a5 w5 ht5 hd5 hr5 => ?_) Ds S4 a4 w4 rfl d1 d2 d3 hr4
    -- the deferred call
    have hent := enterable (P := E.P) hg (by simp [hgb]) hgn
    have hfr4 : ∀ o h, ρ4 o = some h → o < st4.next := fun o h hh => by
      by_cases hlt : o < st4.next
      · exact hlt
      · rw [hf4 o (by omega)] at hh; cases hh
    refine ⟨by simp, .inr ⟨by simp [Fence.wide], .func g, vs.toArray, g, vs.toArray, rfl, ?_, fun _ _ => trivial, ?_⟩⟩
    · have h6 := hent vs.toArray w5
      have e6 : (vs.toArray : Array Value) = #[] ++ (#[] ++ #[]) ++ vs.toArray := by simp
      simp only [dd, invoke]
      rw [e6] at h6
      simpa using h6
    · refine callsDIn_of_wpSIn hg hgb trivial fun c₀ cs hmode => ?_
      refine wpSIn_seq (wpSIn_region ?_)
      show wpOpsSIn _ _ _ _ _ [0] _ _ _
      unfold wpOpsSIn
      simp only [show (#[recOp d tyg posg afg] : Array Oper)[0]? = some (recOp d tyg posg afg) from rfl]
      refine ⟨fun _ _ => trivial, ?_⟩
      rw [if_pos (by simp [Region.wanted, recOp])]
      have hrc : ∀ ρ' : Operand → Value, (execOp ρ' (recOp d tyg posg afg)).run E.P w5 = .ok .recover w5 := fun ρ' => by simp [execOp, recOp, resolve, invoke, builtin]
      rw [hrc]
      have hrec : recoverD (c₀ :: cs) = none := by simp [recoverD, hmode]
      simp only [hrec]
      unfold wpOpsSIn
      refine wpSIn_of_wpIn rfl ?_
      let ag : Act := ({ tmps := vs.toArray ++ Array.replicate (fg.ntmps - vs.toArray.size) undef, defers := [] } : Act).put (some d) .nilIface
      have hvl := hvs.len
      have hsize : (vs.toArray ++ Array.replicate (fg.ntmps - vs.toArray.size) undef).size = fg.ntmps := by
        simp only [Array.size_append, List.size_toArray, Array.size_replicate]
        omega
      have hagd : ag.eval (.tmp d) = .nilIface := by
        have := put_get ({ tmps := vs.toArray ++ Array.replicate (fg.ntmps - vs.toArray.size) undef, defers := [] } : Act) (some d) .nilIface d (by simp only [dstOk, decide_eq_true_eq]; rw [hsize]; exact hgd)
        rw [if_pos rfl] at this
        exact this
      have hund := isIface_ok hE.ctx hti
      let ah : Act := ag.put (some q) (.bool true)
      have hags : ag.tmps.size = fg.ntmps := by simp only [ag, put_size]; exact hsize
      have hahq : ah.eval (.tmp q) = .bool true := by
        have := put_get ag (some q) (.bool true) q (by simp only [dstOk, decide_eq_true_eq]; rw [hags]; exact hgq)
        rw [if_pos rfl] at this
        exact this
      have hrun3 : (execOp ag.eval (nilOp q d ti ti2 ty3 pos3 af3)).run E.P w5 = .ok (.value (.bool true)) w5 := by
        have hgu : (eqGuard .eql ti (.tmp d) (.const .nilIface) .nilIface .nilIface).run E.P w5 = .ok () w5 := by simp [eqGuard]
        have hcn : ag.eval (.const .nilIface) = .nilIface := rfl
        simp only [execOp, nilOp, hagd, hcn, Sem.run_bind, hgu, Result.andThen_ok, run_eql_nil_nil w5 ti hund, Sem.run_pure]
      have one : ∀ (o : Oper) (a : Act) (v : Value) (Q : Exit → Act → World → Prop), (∀ cl, o.op ≠ .defer cl) → o.guard = none → (execOp a.eval o).run E.P w5 = .ok (.value v) w5 → Q .normal (a.put o.dst v) w5 → ∀ i, Code.wpIn (wf none) 0 E.P (.region i #[o] false) Q a w5 := by
        intro o a v Q hnd hgd' hrun hq i
        refine wpIn_region ?_
        show wpOpsIn _ _ _ _ _ [0] a w5
        rw [wpOpsIn_cons]
        unfold wpOpIn
        simp only [show (#[o] : Array Oper)[0]? = some o from rfl]
        rw [if_pos (by simp [Region.wanted, hgd'])]
        refine Oper.wp_in hnd (wp_value hrun ?_)
        unfold wpOpsIn
        exact hq
      have hfinal : LeavesInM (wf none) 0 E.P fn a5.tmps R a3.defers .returning w5 := by
        have hgr3 : Rel cR st4.nt (getE st4.env) (getO st4.objs) ρ4 S5 { a5 with defers := [] } w5 := by
          have := hr5.tail [] [] rfl
          exact this
        have hback : Rel c st4.nt (getE st4.env) (getO st4.objs) ρ4 S5 { a5 with defers := a3.defers } w5 :=
          rebase_out hr3 hfr3 hgr3 rfl hr5.size fun _ t' => hr5.env t'
        obtain ⟨Ds0, q1, q2, q3⟩ := hback.defers
        refine leaves_marks (c := c) (a := { a5 with defers := a3.defers }) hT (fun S7 a7 w7 ht7 hd7 hr7 => ?_) Ds0 S5 { a5 with defers := a3.defers } w5 rfl q1 q2 q3 hback
        exact hfin ρ4 S7 a7 w7 hd7 hr7 hf4
      refine wpIn_block (wpIn_seq (one _ ag _ _ (fun cl h => by cases h) rfl hrun3 ?_ id3))
      show Code.wpIn _ _ _ _ _ ah w5
      refine wpIn_cond (t := true) hahq ?_
      have hasg : (execOp ah.eval (asgOp z d ty4 pos4 af4)).run E.P w5 = .ok (.value (ah.eval (.tmp d))) w5 := by simp [execOp, asgOp]
      refine one _ ah _ _ (fun cl h => by cases h) rfl hasg ?_ id4
      have hres : ∀ tm, (results fg tm).run E.P w5 = .ok (.tuple #[]) w5 := fun tm => by
        unfold results
        rw [hgr, Array.mapM_eq_mapM_toList]
        simp
      refine ⟨?_, .returning, ?_, .tuple #[], hres _, ?_⟩
      · simp only [put_defers, ah, ag]
      · rw [← hmode]
      · exact hfinal
  rcases he with rfl | rfl <;> exact goal

/-- THE CONTRACT OF A FUNCTION that defers a call of such a closure. -/
theorem meets_of_defer {E : Sit} (hE : SitOk E) (hro : E.ro = none) {f : FuncId} {fn : Func} {c0 c1 rest : Code} {id : Nat} {mk : Oper} {t : Tmp} {ty : TypeId} {pos : String} {af : Array Edge}
    (hf : E.P.funcs[f]? = some fn) (hb : fn.body = some (.seq c0 (.seq c1 (.seq (.region id #[mk, dferOp t ty pos af] false) rest)))) (hname : (fn.name == "runtime.NumGoroutine") = false)
    {args : List (Bool × List CV)} {res : Res} (hnt : args.length ≤ fn.ntmps)
    {s1 s2 s4 : St} {r : AOut} {g : FuncId} {caps : List CapV} {fg : Func} {celse : Code} {idg idb id3 id4 : Nat} {d q z : Tmp} {tyg ti ti2 ty3 ty4 : TypeId} {posg pos3 pos4 : String} {afg af3 af4 : Array Edge}
    (h0 : AWp E c0 (fun e st => e = .normal ∧ st = s1) (initSt fn.ntmps args)) (h1 : AWp E c1 (fun e st => e = .normal ∧ st = s2) s1)
    (hmg : mk.guard = none) (hmd : dstOk s2.nt mk.dst = true) (hmk : aop E.Γ s2.next (aval E.Γ (getE s2.env)) (getO s2.objs) mk = some r) (hclo : getE (putE s2.env mk.dst r.out) t = .cs false [.clo g caps])
    (h3 : AWp ⟨E.P, E.Γ, none, ⟨s2.next + 16, []⟩⟩ rest (fun e st => (e = .normal ∨ e = .ret) ∧ st = s4) ⟨s2.nt, putE s2.env mk.dst r.out, r.upd ++ s2.objs, s2.next + 16⟩)
    (hg : E.P.funcs[g]? = some fg) (hgb : fg.body = some (.seq (.region idg #[recOp d tyg posg afg] false) (.block idb (.seq (.region id3 #[nilOp q d ti ti2 ty3 pos3 af3] false) (.cond (.tmp q) (.region id4 #[asgOp z d ty4 pos4 af4] false) celse))))) (hgn : (fg.name == "runtime.NumGoroutine") = false) (hgr : fg.results = #[]) (hgd : d < fg.ntmps) (hgq : q < fg.ntmps) (hgl : caps.length ≤ fg.ntmps) (hti : isIface E.Γ ti = true)
    (h6 : RetQ E.Γ fn.results.toList res .ret s4) : Meets E.P f args res :=
  meets_of_calls hE hf hb hname hnt fun c vals w R hc hT hrel hfin => calls_of_defer hE hro hf hb h0 h1 hmg hmd hmk hclo h3 hg hgb hgn hgr hgd hgq hgl hti hc hT hrel fun ρ S a' w' h7 h8 h9 => hfin .ret s4 h6 ρ S a' w' h7 h8 h9

end Go.Eng
