/- A function's contract from its body. -/
import Derived.Test.YtfgejhlgenaniaaDoorEngN
import Derived.RangeFuncRecord
namespace Go.Eng

def resOf (Γ : Ctx) (st : St) : ResultVar → Option (Bool × List AV)
  | .tmp t => match getE st.env t with
    | .cs g xs => some (g, xs)
    | _ => none
  | .cell t ty => match (getE st.env t).one? with
    | some (.ptr o off) => match getO st.objs o with
      | some (.var cells _) => match loadC Γ ty (cells.drop off) with
        | some (.cs g xs) => some (g, xs)
        | _ => none
      | _ => none
    | _ => none

def resAll (Γ : Ctx) (st : St) : List ResultVar → Option (List (Bool × List AV))
  | [] => some []
  | x :: r => match resOf Γ st x, resAll Γ st r with
    | some y, some ys => some (y :: ys)
    | _, _ => none

def FitsOwn (ob : Nat → Option AObj) (x : AV) (k : Nat) (e : TypeId) (rows : List (List D)) : Prop := match x with
  | .own o => ob o = some (.row k e rows true)
  | .nils _ => rows = []
  | .win o k' lo n => lo = 0 ∧ k' = k ∧ ∃ rows', ob o = some (.row k e rows' true) ∧ n ≤ rows'.length ∧ rows = rows'.take n
  | .wx o k' lo n => lo = 0 ∧ k' = k ∧ ∃ rows', ob o = some (.row k e rows' true) ∧ n ≤ rows'.length ∧ rows = rows'.take n
  | _ => False

def FitsC (ob : Nat → Option AObj) : List AV → List CV → Prop
  | [], [] => True
  | x :: xs, .d y :: cs => avD ob x = some y ∧ FitsC ob xs cs
  | x :: xs, .own k e rows :: cs => FitsOwn ob x k e rows ∧ FitsC ob xs cs
  | _, _ => False

def idsC : List AV → List CV → List Nat
  | .own o :: xs, .own .. :: cs => o :: idsC xs cs
  | .win o _ _ _ :: xs, .own .. :: cs => o :: idsC xs cs
  | .wx o _ _ _ :: xs, .own .. :: cs => o :: idsC xs cs
  | _ :: xs, _ :: cs => idsC xs cs
  | _, _ => []

def FitsR (ob : Nat → Option AObj) : List (Bool × List AV) → List (Bool × List CV) → Prop
  | [], [] => True
  | (g, xs) :: r, (g', cs) :: r' => g = g' ∧ FitsC ob xs cs ∧ FitsR ob r r'
  | _, _ => False

def idsR : List (Bool × List AV) → List (Bool × List CV) → List Nat
  | (_, xs) :: r, (_, cs) :: r' => idsC xs cs ++ idsR r r'
  | _, _ => []

/-- What is handed back is what is said. -/
def RetOk (Γ : Ctx) (rs : List ResultVar) (st : St) (res : Res) : Prop :=
  ∃ comps, resAll Γ st rs = some comps ∧ FitsR (getO st.objs) comps res.cs ∧ (idsR comps res.cs).Nodup ∧ res.tup = !(rs.length == 1)

/-- Objects that are still from now on, one behind the other. -/
def St.freezeL (st : St) : List Nat → Option St
  | [] => some st
  | o :: r => match st.freeze o with
    | some st' => st'.freezeL r
    | none => none

def RetQ (Γ : Ctx) (rs : List ResultVar) (res : Res) : Exit → St → Prop
  | .ret, st | .normal, st => ∃ fz st', st.freezeL fz = some st' ∧ RetOk Γ rs st' res
  | _, _ => False

def initEnv : Nat → List (Bool × List AV) → List (Nat × AT)
  | _, [] => []
  | i, (g, xs) :: r => (i, .cs g xs) :: initEnv (i + 1) r

/-- The state in which a body begins. -/
def initSt (nt : Nat) (args : List (Bool × List CV)) : St := ⟨nt, initEnv 0 (resComps 0 args).1, (resComps 0 args).2, (resComps 0 args).2.length⟩

section
variable {P : Program} {Γ : Ctx} {c : Base} {nt : Nat} {env : Nat → AT} {ob : Nat → Option AObj} {ρ : Where} {S : Nat → Prop} {a : Act} {w : World}

theorem fits_cvs (hr : Rel c nt env ob ρ S a w) : ∀ {xs : List AV} {cs : List CV} {us : List Value}, FitsC ob xs cs → All2 (RepAV ρ w S) xs us → CVs w S cs us (blks ρ (idsC xs cs)) ∧ ∀ o ∈ idsC xs cs, ∃ k e rows, ob o = some (.row k e rows true)
  | [], [], us, _, h => by
    cases h
    exact ⟨.nil, fun o ho => by simp [idsC] at ho⟩
  | x :: xs, .d y :: cs, us, hf, h => by
    cases h with
    | cons h1 h2 =>
      obtain ⟨q1, q2⟩ := hf
      obtain ⟨q3, q4⟩ := fits_cvs hr q2 h2
      have e : idsC (x :: xs) (.d y :: cs) = idsC xs cs := by cases x <;> rfl
      rw [e]
      exact ⟨.d (avD_rep hr q1 h1) q3, q4⟩
  | x :: xs, .own k e rows :: cs, us, hf, h => by
    cases h with
    | cons h1 h2 =>
      obtain ⟨q1, q2⟩ := hf
      obtain ⟨q3, q4⟩ := fits_cvs hr q2 h2
      cases x with
      | own o =>
        simp only [FitsOwn] at q1
        obtain ⟨hρ, A, n, cc, rfl⟩ := h1
        obtain ⟨hh, h3, h4⟩ := hr.obj o _ q1
        rw [hρ] at h3; cases h3
        obtain ⟨hk, h5⟩ := h4
        have ids : idsC (.own o :: xs) (.own k e rows :: cs) = o :: idsC xs cs := rfl
        rw [ids]
        refine ⟨?_, fun o' ho' => by
          rcases List.mem_cons.1 ho' with rfl | ho'
          · exact ⟨k, e, rows, q1⟩
          · exact q4 o' ho'⟩
        rcases h5 with ⟨rfl, A', he⟩ | ⟨g, c', hc0, he, hblk, hlive, _⟩
        · cases he
          have e2 : blks ρ (o :: idsC xs cs) = blks ρ (idsC xs cs) := by
            simp only [blks, List.filterMap_cons, hρ, Option.bind_some]
            cases A <;> simp [blkOf]
          rw [e2]
          exact .ownNil q3
        · have hblk2 : blkOf (.slice A n cc) = some g := by rw [he]; simp [blkOf]; omega
          have e2 : blks ρ (o :: idsC xs cs) = g :: blks ρ (idsC xs cs) := by
            simp only [blks, List.filterMap_cons, hρ, Option.bind_some, hblk2]
          rw [e2, he]
          exact .own hc0 hk hblk (hlive rfl) q3
      | nils k' =>
        simp only [FitsOwn] at q1
        subst q1
        obtain ⟨A, rfl⟩ := h1
        exact ⟨.ownNil q3, q4⟩
      | d _ => exact q1.elim
      | ptr _ _ => exact q1.elim
      | eptr _ _ _ _ => exact q1.elim
      | clo _ _ => exact q1.elim
      | yld _ => exact q1.elim
      | vsl _ _ => exact q1.elim
      | win o k' lo n =>
        obtain ⟨rfl, rfl, rows', q1, hn, rfl⟩ := q1
        obtain ⟨A, m, cc, A', hρ, rfl, hA⟩ := h1
        obtain ⟨hh, h3, h4⟩ := hr.obj o _ q1
        rw [hρ] at h3; cases h3
        obtain ⟨hk, h5⟩ := h4
        have ids : idsC (.win o k' 0 n :: xs) (.own k' e (rows'.take n) :: cs) = o :: idsC xs cs := rfl
        rw [ids]
        refine ⟨?_, fun o' ho' => by
          rcases List.mem_cons.1 ho' with rfl | ho'
          · exact ⟨k', e, rows', q1⟩
          · exact q4 o' ho'⟩
        rcases h5 with ⟨rfl, A2, he⟩ | ⟨g, c', hc0, he, ⟨r1, r2, r3, cur, r4, r5, r7, r6⟩, hlive, _⟩
        · cases he
          have e2 : blks ρ (o :: idsC xs cs) = blks ρ (idsC xs cs) := by
            simp only [blks, List.filterMap_cons, hρ, Option.bind_some]
            cases A <;> simp [blkOf]
          have hn0 : n = 0 := by simpa using hn
          subst hn0
          rw [e2]
          simp only [List.take_nil]
          exact .ownNil q3
        · have hblk2 : blkOf (.slice A m cc) = some g := by rw [he]; simp [blkOf]; omega
          have e2 : blks ρ (o :: idsC xs cs) = g :: blks ρ (idsC xs cs) := by
            simp only [blks, List.filterMap_cons, hρ, Option.bind_some, hblk2]
          cases he
          have hA' := hA (by omega)
          subst hA'
          have hl : (rows'.take n).length = n := by simp; omega
          have e3 : Value.slice ((some (⟨g, 0, none⟩ : Addr)).map (·.add (0 * k'))) n (cc - 0) = .slice (some ⟨g, 0, none⟩) (rows'.take n).length cc := by
            rw [hl]; simp [add_lit]
          rw [e2, e3]
          exact .own hc0 (fun r hr => hk r (List.mem_of_mem_take hr)) ⟨by omega, r2, r3, cur, r4, r5, r7, fun i j r d hi hj => by
            rw [List.getElem?_take] at hi
            split at hi
            · exact r6 i j r d hi hj
            · cases hi⟩ (hlive rfl) q3
      | wx o k' lo n =>
        obtain ⟨rfl, rfl, rows', q1, hn, rfl⟩ := q1
        obtain ⟨A, m, A', hρ, rfl, hA⟩ := h1
        obtain ⟨hh, h3, h4⟩ := hr.obj o _ q1
        rw [hρ] at h3; cases h3
        obtain ⟨hk, h5⟩ := h4
        have ids : idsC (.wx o k' 0 n :: xs) (.own k' e (rows'.take n) :: cs) = o :: idsC xs cs := rfl
        rw [ids]
        refine ⟨?_, fun o' ho' => by
          rcases List.mem_cons.1 ho' with rfl | ho'
          · exact ⟨k', e, rows', q1⟩
          · exact q4 o' ho'⟩
        rcases h5 with ⟨rfl, A2, he⟩ | ⟨g, c', hc0, he, ⟨r1, r2, r3, cur, r4, r5, r7, r6⟩, hlive, _⟩
        · cases he
          have e2 : blks ρ (o :: idsC xs cs) = blks ρ (idsC xs cs) := by
            simp only [blks, List.filterMap_cons, hρ, Option.bind_some]
            cases A <;> simp [blkOf]
          have hn0 : n = 0 := by simpa using hn
          subst hn0
          rw [e2]
          simp only [List.take_nil]
          exact .ownNil q3
        · have hblk2 : blkOf (.slice A m m) = some g := by rw [he]; simp [blkOf]; omega
          have e2 : blks ρ (o :: idsC xs cs) = g :: blks ρ (idsC xs cs) := by
            simp only [blks, List.filterMap_cons, hρ, Option.bind_some, hblk2]
          cases he
          have hA' := hA (by omega)
          subst hA'
          have hl : (rows'.take n).length = n := by simp; omega
          have e3 : Value.slice ((some (⟨g, 0, none⟩ : Addr)).map (·.add (0 * k'))) n (rows'.length - 0) = .slice (some ⟨g, 0, none⟩) (rows'.take n).length rows'.length := by
            rw [hl]; simp [add_lit]
          rw [e2, e3]
          exact .own hc0 (fun r hr => hk r (List.mem_of_mem_take hr)) ⟨by omega, r2, r3, cur, r4, r5, r7, fun i j r d hi hj => by
            rw [List.getElem?_take] at hi
            split at hi
            · exact r6 i j r d hi hj
            · cases hi⟩ (hlive rfl) q3
  | [], .d _ :: _, _, hf, _ => hf.elim
  | [], .own .. :: _, _, hf, _ => hf.elim
  | _ :: _, [], _, hf, _ => hf.elim

theorem fitsC_len {ob : Nat → Option AObj} : ∀ {xs : List AV} {cs : List CV}, FitsC ob xs cs → xs.length = cs.length
  | [], [], _ => rfl
  | x :: xs, .d y :: cs, hf => by simp [fitsC_len hf.2]
  | x :: xs, .own k e rows :: cs, hf => by simp [fitsC_len hf.2]
  | [], .d _ :: _, hf => hf.elim
  | [], .own .. :: _, hf => hf.elim
  | _ :: _, [], hf => hf.elim

theorem fits_comps (hr : Rel c nt env ob ρ S a w) : ∀ {xs : List (Bool × List AV)} {cs : List (Bool × List CV)} {us : List Value}, FitsR ob xs cs → All2 (fun t u => RepC ρ w S t.1 t.2 u) xs us →
    Comps w S cs us (blks ρ (idsR xs cs)) ∧ ∀ o ∈ idsR xs cs, ∃ k e rows, ob o = some (.row k e rows true)
  | [], [], us, _, h => by
    cases h
    exact ⟨.nil, fun o ho => by simp [idsR] at ho⟩
  | (g, xs) :: r, (g', cs) :: r', us, hf, h => by
    cases h with
    | cons h1 h2 =>
      obtain ⟨rfl, q1, q2⟩ := hf
      obtain ⟨q3, q4⟩ := fits_comps hr q2 h2
      have ids : idsR ((g, xs) :: r) ((g, cs) :: r') = idsC xs cs ++ idsR r r' := rfl
      rw [ids, blks_append]
      cases g with
      | true =>
        obtain ⟨vs, rfl, h3⟩ := h1
        obtain ⟨q5, q6⟩ := fits_cvs hr q1 h3
        exact ⟨.agg q5 q3, fun o ho => (List.mem_append.1 ho).elim (q6 o) (q4 o)⟩
      | false =>
        obtain ⟨x, e, h3⟩ := h1
        simp only at e
        subst e
        obtain ⟨q5, q6⟩ := fits_cvs hr q1 (.cons h3 .nil)
        have hl := fitsC_len q1
        match cs, hl, q5, q6 with
        | [d], _, q5, q6 => exact ⟨.one q5 q3, fun o ho => (List.mem_append.1 ho).elim (q6 o) (q4 o)⟩
  | [], _ :: _, _, hf, _ => hf.elim
  | _ :: _, [], _, hf, _ => hf.elim

end

section
variable {P : Program} {Γ : Ctx} {c : Base} {st : St} {ρ : Where} {S : Nat → Prop} {a : Act} {w : World}

theorem resOf_run (hΓ : CtxOk P Γ) (hr : Rel c st.nt (getE st.env) (getO st.objs) ρ S a w) {x : ResultVar} {y : Bool × List AV} (h : resOf Γ st x = some y) :
    ∃ v, ((fun | .tmp t => pure (a.tmps.getD t Go.undef) | .cell p t => do loadVar t (← asAddr (a.tmps.getD p Go.undef)) : ResultVar → Sem Value) x).run P w = .ok v w ∧ RepC ρ w S y.1 y.2 v := by
  cases x with
  | tmp t =>
    have he := hr.env t
    simp only [resOf] at h
    split at h
    · rename_i g xs e
      cases h
      rw [e] at he
      exact ⟨_, rfl, he⟩
    · cases h
  | cell t ty =>
    have he := hr.env t
    simp only [resOf] at h
    split at h
    · rename_i o off e
      obtain ⟨g, hg, hu⟩ := one_rep he e
      split at h
      · rename_i cells live hob
        split at h
        · rename_i g' xs hl
          cases h
          obtain ⟨hh, h1, h2⟩ := hr.obj o _ hob
          rw [hg] at h1; cases h1
          obtain ⟨g2, cur, ety, e1, e2, e3, _⟩ := h2
          cases e1
          obtain ⟨v, h3, h4⟩ := run_loadC (ad := ⟨g, off, none⟩) hΓ (e3.drop off) (fun j u hju => by
            rw [add_lit', cell_of_row w g _ cur ety (0, 0) e2]
            simpa [List.getElem?_drop] using hju) hl
          exact ⟨v, by simp [hu, asAddr, h3], h4⟩
        · cases h
      · cases h
    · cases h

theorem resAll_run (hΓ : CtxOk P Γ) (hr : Rel c st.nt (getE st.env) (getO st.objs) ρ S a w) : ∀ {rs : List ResultVar} {ys : List (Bool × List AV)}, resAll Γ st rs = some ys →
    ∃ vs : List Value, (rs.mapM (fun | .tmp t => pure (a.tmps.getD t Go.undef) | .cell p t => do loadVar t (← asAddr (a.tmps.getD p Go.undef)) : ResultVar → Sem Value)).run P w = .ok vs w ∧ All2 (fun t u => RepC ρ w S t.1 t.2 u) ys vs
  | [], ys, h => by
    simp only [resAll, Option.some.injEq] at h
    subst h
    exact ⟨[], by simp, .nil⟩
  | x :: rs, ys, h => by
    simp only [resAll] at h
    split at h
    · rename_i y ys' h1 h2
      cases h
      obtain ⟨v, h3, h4⟩ := resOf_run hΓ hr h1
      obtain ⟨vs, h5, h6⟩ := resAll_run hΓ hr h2
      refine ⟨v :: vs, ?_, .cons h4 h6⟩
      simp only [List.mapM_cons, Sem.run_bind, h3, Result.andThen_ok, h5, Sem.run_pure]
    · cases h

end

theorem initEnv_get : ∀ (comps : List (Bool × List AV)) (i t : Nat), getE (initEnv i comps) t = if t < i then .junk else match comps[t - i]? with
    | some (g, xs) => .cs g xs
    | none => .junk
  | [], i, t => by simp [initEnv, getE]
  | (g, xs) :: r, i, t => by
    simp only [initEnv, getE, initEnv_get r (i + 1) t]
    by_cases h1 : t = i
    · subst h1
      simp
    · rw [if_neg h1]
      by_cases h2 : t < i
      · rw [if_pos (by omega), if_pos h2]
      · rw [if_neg (by omega), if_neg h2, show t - i = (t - (i + 1)) + 1 by omega]
        simp

theorem comps_len {w : World} {S : Nat → Prop} {cs : List (Bool × List CV)} {us : List Value} {bs : List Nat} (h : Comps w S cs us bs) : cs.length = us.length := by
  induction h with
  | nil => rfl
  | one _ _ ih => simp [ih]
  | agg _ _ ih => simp [ih]

theorem cvs_own {w : World} {S : Nat → Prop} {cs : List CV} {us : List Value} {bs : List Nat} (h : CVs w S cs us bs) : ∀ b ∈ bs, b < w.heap.size ∧ ¬ S b := by
  induction h with
  | nil => simp
  | d _ _ ih => exact ih
  | ownNil _ ih => exact ih
  | own _ _ hblk hs _ ih =>
    intro b hb
    rcases List.mem_cons.1 hb with rfl | hb
    · obtain ⟨cur, h1, _⟩ := hblk.blk
      exact ⟨(Array.getElem?_eq_some_iff.1 h1).1, hs⟩
    · exact ih b hb

theorem comps_own {w : World} {S : Nat → Prop} {cs : List (Bool × List CV)} {us : List Value} {bs : List Nat} (h : Comps w S cs us bs) : ∀ b ∈ bs, b < w.heap.size ∧ ¬ S b := by
  induction h with
  | nil => simp
  | one h _ ih => exact fun b hb => (List.mem_append.1 hb).elim (cvs_own h b) (ih b)
  | agg h _ ih => exact fun b hb => (List.mem_append.1 hb).elim (cvs_own h b) (ih b)

/-- Related when a body begins. -/
theorem init_rel {w : World} {S : Nat → Prop} {vals : List Value} {args : List (Bool × List CV)} {bs : List Nat} {nt : Nat} (hS : ∀ b, S b → b < w.heap.size) (hc : Comps w S args vals bs) (hnd : bs.Nodup) (hnt : args.length ≤ nt) :
    RelE ⟨w, S, (· ∈ bs), fun _ => none⟩ (initSt nt args) (initSt nt args).next { tmps := vals.toArray ++ Array.replicate (nt - vals.toArray.size) Go.undef, defers := [] } w := by
  have hlen := comps_len hc
  let ρ : Where := fun n => (hdrsAll args vals)[n]?
  obtain ⟨h1, h2⟩ := resComps_rep (ρ := ρ) hc 0 (fun i u hu => by simpa [ρ] using hu)
  have hblk := hdrsAll_blks hc
  have hown := comps_own hc
  have hnl := news_len hc 0
  have hobj : ∀ o x, getO (initSt nt args).objs o = some x → ∃ h, (hdrsAll args vals)[o]? = some h ∧ ObjRep ρ w S h x := fun o x hx => by
    obtain ⟨i, u, y, e1, e2, e3, e4⟩ := h2 o _ (getO_mem hx)
    cases e3
    rw [Nat.zero_add] at e1
    subst e1
    exact ⟨u, e2, e4⟩
  have hmem : ∀ (o : Nat) (h : Value) (b : Nat), (hdrsAll args vals)[o]? = some h → blkOf h = some b → b ∈ bs := fun o h b e1 e2 => by
    rw [← hblk]; exact List.mem_filterMap.2 ⟨h, List.mem_of_getElem? e1, e2⟩
  refine ⟨ρ, S, ⟨⟨[], rfl, .nil, by simp⟩, ?_, fun t => ?_, hobj, fun o o' x x' h h' b hx hx' hh hh' hb hb' => nodup_blk (by rw [hblk]; exact hnd) hh hh' hb hb', fun o x h b hx hh hb => .inl (.inr (hmem o h b hh hb)), rfl, rfl, rfl, Nat.le_refl _, fun _ _ _ => rfl, hS, fun _ h => h, fun b h => .inl h, (fun o h hh => by cases hh), hS⟩, fun n hn => ?_⟩
  · simp [initSt]; omega
  · simp only [initSt, initEnv_get]
    rw [if_neg (by omega), Nat.sub_zero]
    cases hx : (resComps 0 args).1[t]? with
    | none => trivial
    | some y =>
      obtain ⟨u, hu, hru⟩ := h1.get hx
      have htl : t < vals.length := (List.getElem?_eq_some_iff.1 hu).1
      have : (vals.toArray ++ Array.replicate (nt - vals.toArray.size) Go.undef).getD t Go.undef = u := by
        rw [Array.getD_eq_getD_getElem?, Array.getElem?_append_left (by simpa using htl)]
        simp [hu]
      rw [this]
      exact hru
  · simp only [initSt] at hn
    rw [hnl] at hn
    exact List.getElem?_eq_none hn

theorem enterable {P : Program} {f : FuncId} {fn : Func} (hf : P.funcs[f]? = some fn) (hb : fn.body.isSome = true) (hname : (fn.name == "runtime.NumGoroutine") = false) : Enterable P f := by
  intro vals w
  have h1 : ¬ fn.name = "runtime.NumGoroutine" := by simpa using hname
  have h2 : ¬ fn.body = none := by intro h; rw [h] at hb; cases hb
  simp [callFunc, hf, h1, h2]

/-! ### The end of a body: its marks are come to -/

section
variable {P : Program} {c : Base} {nt : Nat} {env : Nat → AT} {ob : Nat → Option AObj} {ρ : Where} {S : Nat → Prop} {a : Act} {w : World}

/-- A block that holds no cells may turn, and be still no more: whatever reads, reads on. -/
theorem Rep.unmark {D' : Nat} {o : Obj} (ho : ∀ cur ety fr, w.heap[D']? ≠ some (.cells cur ety fr)) {d : D} {v : Value} (h : Rep w S d v) : Rep (w.putObj D' o) (fun b => S b ∧ b ≠ D') d v := by
  have key : ∀ (ad : Addr) (u : Value), S ad.block → w.cell? ad = some u → (S ad.block ∧ ad.block ≠ D') ∧ (w.putObj D' o).cell? ad = some u := by
    intro ad u hs hc
    have hne : ad.block ≠ D' := by
      rintro rfl
      simp only [World.cell?] at hc
      cases hb : w.heap[ad.block]? with
      | none => simp at hc
      | some x =>
        cases x with
        | cells cur ety fr => exact ho _ _ _ hb
        | _ => simp at hc
    refine ⟨⟨hs, hne⟩, ?_⟩
    rw [← hc]
    exact World.cell?_of_block (w := w) (World.putObj_heap_other hne)
  induction h with
  | v x h1 => exact .v x h1
  | vec k rows A cc u hc hm hk hcell _ ih =>
    refine .vec k rows A cc u hc hm hk (fun i j hi hj => ?_) ih
    obtain ⟨ad, ha, hb, hcl⟩ := hcell i j hi hj
    obtain ⟨h1, h2⟩ := key (ad.add (i * k + j)) _ (by rw [block_add]; exact hb) hcl
    exact ⟨ad, ha, by rwa [block_add] at h1, h2⟩
  | pt cells ad u hcell _ ih =>
    refine .pt cells ad u (fun j hj => ?_) ih
    obtain ⟨hb, hcl⟩ := hcell j hj
    obtain ⟨h1, h2⟩ := key (ad.add j) _ (by rw [block_add]; exact hb) hcl
    exact ⟨by rwa [block_add] at h1, h2⟩
  | fn f caps vs hl _ ih => exact .fn f caps vs hl ih

theorem RepAV.unmark {D' : Nat} {o : Obj} (ho : ∀ cur ety fr, w.heap[D']? ≠ some (.cells cur ety fr)) {x : AV} {v : Value} (h : RepAV ρ w S x v) : RepAV ρ (w.putObj D' o) (fun b => S b ∧ b ≠ D') x v := by
  cases x with
  | d y => exact Rep.unmark ho h
  | clo f ks =>
    obtain ⟨vs, h1, h2⟩ := h
    refine ⟨vs, h1, h2.mono fun k u hk => ?_⟩
    cases k with
    | d y => exact Rep.unmark ho hk
    | ptr => exact hk
  | _ => exact h

theorem RepC.unmark {D' : Nat} {o : Obj} (ho : ∀ cur ety fr, w.heap[D']? ≠ some (.cells cur ety fr)) {g : Bool} {xs : List AV} {v : Value} (h : RepC ρ w S g xs v) : RepC ρ (w.putObj D' o) (fun b => S b ∧ b ≠ D') g xs v := by
  cases g with
  | true =>
    obtain ⟨us, h1, h2⟩ := h
    exact ⟨us, h1, h2.mono fun _ _ => RepAV.unmark ho⟩
  | false =>
    obtain ⟨x, h1, h2⟩ := h
    exact ⟨x, h1, h2.unmark ho⟩

theorem RepT.unmark {D' : Nat} {o : Obj} (ho : ∀ cur ety fr, w.heap[D']? ≠ some (.cells cur ety fr)) {t : AT} {u : Value} (h : RepT ρ w S t u) : RepT ρ (w.putObj D' o) (fun b => S b ∧ b ≠ D') t u := by
  cases t with
  | junk => trivial
  | undef => exact h
  | cs g xs => exact RepC.unmark ho h
  | tup ts =>
    obtain ⟨vs, e, h2⟩ := h
    exact ⟨vs, e, h2.mono fun _ _ => RepC.unmark ho⟩

theorem Rel.unmark (hr : Rel c nt env ob ρ S a w) {D' : Nat} {Ds : List Nat} {o : Obj} (hd : a.defers = (D' :: Ds).map markOf) (ha : (D' :: Ds).Nodup) (hall : ∀ D ∈ D' :: Ds, S D ∧ c.W.heap.size ≤ D ∧ w.heap[D]? = some (.deferred (some []))) :
    Rel c nt env ob ρ (fun b => S b ∧ b ≠ D') { a with defers := Ds.map markOf } (w.putObj D' o) := by
  obtain ⟨hS, hge, hblk⟩ := hall D' (List.mem_cons_self ..)
  have ho : ∀ cur ety fr, w.heap[D']? ≠ some (.cells cur ety fr) := fun _ _ _ h => by rw [hblk] at h; cases h
  have hne : ∀ n x h b, ob n = some x → ρ n = some h → blkOf h = some b → b ≠ D' := by
    rintro n x h b hx hh hb rfl
    obtain ⟨h', h1, h2⟩ := hr.obj n x hx
    rw [hh] at h1; cases h1
    cases x with
    | var cells live =>
      obtain ⟨g, cur, ety, rfl, h3, _⟩ := h2
      simp [blkOf] at hb; subst hb
      exact ho _ _ _ h3
    | row k ety rows live =>
      rcases h2.2 with ⟨_, A, rfl⟩ | ⟨g, cc, _, rfl, ⟨_, _, _, cur, h3, _⟩, _⟩
      · cases A <;> simp [blkOf] at hb
      · simp only [blkOf] at hb
        split at hb
        · cases hb
        · cases hb; exact ho _ _ _ h3
    | lp L =>
      obtain ⟨g, rfl, ⟨_, _, _, h3, _⟩, _⟩ := h2
      simp [blkOf] at hb; subst hb
      rw [hblk] at h3; cases h3
    | it s pos =>
      obtain ⟨g, rfl, h3, _⟩ := h2
      simp [blkOf] at hb; subst hb
      rw [hblk] at h3; cases h3
  have hsame : ∀ b, b ≠ D' → (w.putObj D' o).heap[b]? = w.heap[b]? := fun b hb => World.putObj_heap_other hb
  refine ⟨⟨Ds, rfl, (List.nodup_cons.1 ha).2, fun D hD => ?_⟩, hr.size, fun t => ?_, fun n x hx => ?_, hr.sep, fun n x h b hx hh hb => ?_, hr.os, hr.tape, hr.output, by simpa using hr.hsize, fun b h1 h2 => ?_, fun b hb => by simpa using hr.lim b hb.1,
    fun b hb => ⟨hr.sub b hb, fun e => by have := hr.clim b hb; omega⟩, fun b hb => hr.foot b hb.1, hr.pin, hr.clim⟩
  · obtain ⟨h1, h2, h3⟩ := hall D (List.mem_cons_of_mem _ hD)
    have : D ≠ D' := fun e => (List.nodup_cons.1 ha).1 (e ▸ hD)
    exact ⟨⟨h1, this⟩, h2, (hsame D this).trans h3⟩
  · have h1 := hr.env t
    generalize env t = y at h1
    cases y with
    | junk => trivial
    | undef => exact h1
    | cs g xs => exact RepC.unmark ho h1
    | tup ts =>
      obtain ⟨vs, e, h2⟩ := h1
      exact ⟨vs, e, h2.mono fun _ _ => RepC.unmark ho⟩
  · obtain ⟨h, h1, h2⟩ := hr.obj n x hx
    refine ⟨h, h1, ?_⟩
    have hnb := hne n x h
    cases x with
    | var cells live =>
      obtain ⟨g, cur, ety, rfl, h3, h4, h5, h6⟩ := h2
      have hg := hnb g hx h1 rfl
      exact ⟨g, cur, ety, rfl, (hsame g hg).trans h3, h4.mono fun _ _ => RepAV.unmark ho, fun hl hs => h5 hl hs.1, fun hl => ⟨⟨(h6 hl).1, hg⟩, (h6 hl).2⟩⟩
    | row k ety rows live =>
      obtain ⟨h3, h4⟩ := h2
      refine ⟨h3, ?_⟩
      rcases h4 with h4 | ⟨g, cc, hc0, rfl, ⟨r1, r2, r3, cur, r4, r5, r7, r6⟩, h5, h6⟩
      · exact .inl h4
      · have hg := hnb g hx h1 (by simp [blkOf]; omega)
        refine .inr ⟨g, cc, hc0, rfl, ⟨r1, r2, r3, cur, (hsame g hg).trans r4, r5, fun u hu => let ⟨d, hd⟩ := r7 u hu; ⟨d, hd.unmark ho⟩, fun i j r d hi hj => ?_⟩, fun hl hs => h5 hl hs.1, fun hl => ⟨h6 hl, hg⟩⟩
        obtain ⟨u, hu, hru⟩ := r6 i j r d hi hj
        exact ⟨u, hu, hru.unmark ho⟩
    | lp L =>
      obtain ⟨g, rfl, ⟨fn, tmps, D, h3, h4, h5⟩, h6⟩ := h2
      have hg := hnb g hx h1 rfl
      exact ⟨g, rfl, ⟨fn, tmps, D, (hsame g hg).trans h3, h4, fun t => (h5 t).unmark ho⟩, fun hs => h6 hs.1⟩
    | it s pos =>
      obtain ⟨g, rfl, h3, h6⟩ := h2
      have hg := hnb g hx h1 rfl
      exact ⟨g, rfl, (hsame g hg).trans h3, fun hs => h6 hs.1⟩
  · have hb' := hne n x h b hx hh hb
    exact (hr.place n x h b hx hh hb).imp_right fun hs => ⟨hs, hb'⟩
  · exact (hsame b (by omega)).trans (hr.same b h1 h2)

/-- The frame leaves: its marks are come to one by one. -/
theorem leaves_marks {fn : Func} {R : Ending → World → Prop} {ro : Option Nat} {n : Nat} (hfin : ∀ (S : Nat → Prop) (a' : Act) (w' : World), a'.tmps = a.tmps → a'.defers = [] → Rel c nt env ob ρ S a' w' → ∃ v, (results fn a'.tmps).run P w' = .ok v w' ∧ R (.returned v) w') :
    ∀ (Ds : List Nat) (S : Nat → Prop) (a' : Act) (w : World), a'.tmps = a.tmps → a'.defers = Ds.map markOf → Ds.Nodup → (∀ D ∈ Ds, S D ∧ c.W.heap.size ≤ D ∧ w.heap[D]? = some (.deferred (some []))) → Rel c nt env ob ρ S a' w →
      LeavesInM (wf ro) n P fn a'.tmps R a'.defers .returning w
  | [], S, a', w, ht, hd, _, _, hr => by
    rw [hd]
    exact hfin S a' w ht hd hr
  | D' :: Ds, S, a', w, ht, hd, hnd, hall, hr => by
    have h1 := hr.unmark (o := .deferred none) hd hnd hall
    have h2 := leaves_marks (ro := ro) (n := n) hfin Ds (fun b => S b ∧ b ≠ D') { a' with defers := Ds.map markOf } (w.putObj D' (.deferred none)) ht rfl (List.nodup_cons.1 hnd).2 (fun D hD => ?_) h1
    · rw [hd]
      refine ⟨by simp, .inl ⟨D', _, rfl, run_takeDeferred (hall D' (List.mem_cons_self ..)).2.2, h2⟩⟩
    · obtain ⟨g1, g2, g3⟩ := hall D (List.mem_cons_of_mem _ hD)
      have : D ≠ D' := fun e => (List.nodup_cons.1 hnd).1 (e ▸ hD)
      exact ⟨⟨g1, this⟩, g2, (World.putObj_heap_other this).trans g3⟩

end

/-- A call, from the walk of the body. -/
theorem calls_of_awp {E : Sit} (hro : E.ro = none) {f : FuncId} {fn : Func} {code : Code} (hf : E.P.funcs[f]? = some fn) (hb : fn.body = some code) {c : Base} (hc : OkB E c) {st0 : St} {Q : Exit → St → Prop} {vals : Array Value} {w : World} {R : Ending → World → Prop}
    (hrel : RelE c st0 st0.next { tmps := vals ++ Array.replicate (fn.ntmps - vals.size) undef, defers := [] } w) (h : AWp E code Q st0)
    (hQ : ∀ e st', Q e st' → e = .ret ∨ e = .normal)
    (hfin : ∀ (e : Exit) (st' : St), Q e st' → ∀ (ρ : Where) (S : Nat → Prop) (a' : Act) (w' : World), a'.defers = [] → Rel c st'.nt (getE st'.env) (getO st'.objs) ρ S a' w' → (∀ n, st'.next ≤ n → ρ n = none) →
      ∃ v, (results fn a'.tmps).run E.P w' = .ok v w' ∧ R (.returned v) w') : Calls E.P f vals w R := by
  refine (callsIn_wide (n := 0)).1 (callsIn_of_wp_marks (F := wf none) hf hb trivial ?_ rfl)
  have hw := h c _ w hc hrel
  rw [hro] at hw
  refine wpIn_mono hw fun e a' w' ⟨st', ⟨ρ, S, hr, hfr⟩, hq⟩ => ?_
  obtain ⟨Ds, h1, h2, h3⟩ := hr.defers
  have h4 := leaves_marks (P := E.P) (fn := fn) (R := R) (ro := none) (n := 0) (a := a') (fun S a2 w2 _ hd2 hr2 => hfin e st' hq ρ S a2 w2 hd2 hr2 hfr) Ds S a' w' rfl h1 h2 h3 hr
  rcases hQ e st' hq with rfl | rfl <;> exact h4

theorem RelE.freezeL {c : Base} {a : Act} {w : World} : ∀ {fz : List Nat} {st st' : St}, st.freezeL fz = some st' → RelE c st st.next a w → RelE c st' st'.next a w
  | [], st, st', h, hr => by simp only [St.freezeL, Option.some.injEq] at h; subst h; exact hr
  | o :: fz, st, st', h, hr => by
    simp only [St.freezeL] at h
    split at h
    · rename_i st1 h1
      exact RelE.freezeL h (hr.freeze h1)
    · cases h

theorem resAll_len {Γ : Ctx} {st : St} : ∀ {rs : List ResultVar} {ys : List (Bool × List AV)}, resAll Γ st rs = some ys → ys.length = rs.length
  | [], ys, h => by simp only [resAll, Option.some.injEq] at h; subst h; rfl
  | x :: rs, ys, h => by
    simp only [resAll] at h
    split at h
    · rename_i y ys' _ e
      cases h
      simp [resAll_len e]
    · cases h

/-- What the frame's results are, as one value. -/
theorem results_run {P : Program} {Γ : Ctx} (hΓ : CtxOk P Γ) {c : Base} {st : St} {ρ : Where} {S : Nat → Prop} {a : Act} {w : World} {fn : Func} {comps : List (Bool × List AV)} (hr : Rel c st.nt (getE st.env) (getO st.objs) ρ S a w) (h : resAll Γ st fn.results.toList = some comps) :
    ∃ vs : List Value, vs.length = fn.results.toList.length ∧ All2 (fun t u => RepC ρ w S t.1 t.2 u) comps vs ∧ (results fn a.tmps).run P w = .ok (if hh : vs.toArray.size = 1 then vs.toArray[0] else .tuple vs.toArray) w := by
  obtain ⟨vs, h5, h6⟩ := resAll_run hΓ hr h
  refine ⟨vs, by rw [← h6.len, resAll_len h], h6, ?_⟩
  unfold results
  rw [Array.mapM_eq_mapM_toList]
  simp only [Sem.run_bind, Sem.run_map, Sem.run_pure]
  exact congrArg (fun r => (Result.andThen (Result.andThen r (fun (a : List Value) w' => Result.ok a.toArray w')) (fun (a : Array Value) w' => Result.ok (if h : a.size = 1 then a[0] else Value.tuple a) w'))) h5

/-- THE CONTRACT OF A FUNCTION from its body. -/
theorem meets_of_body {E : Sit} (hE : SitOk E) (hro : E.ro = none) {f : FuncId} {fn : Func} {code : Code} {args : List (Bool × List CV)} {res : Res} (hf : E.P.funcs[f]? = some fn) (hb : fn.body = some code) (hname : (fn.name == "runtime.NumGoroutine") = false)
    (hnt : args.length ≤ fn.ntmps) (h : AWp E code (RetQ E.Γ fn.results.toList res) (initSt fn.ntmps args)) : Meets E.P f args res := by
  refine ⟨enterable hf (by simp [hb]) hname, fun w S vals bs hS hc hnd => ?_⟩
  have hrel := init_rel (nt := fn.ntmps) hS hc hnd hnt
  refine calls_of_awp hro hf hb (c := ⟨w, S, (· ∈ bs), fun _ => none⟩) (fun o h hh => by cases hh) (by simpa using hrel) h (fun e st' hq => by cases e <;> first | exact .inl rfl | exact .inr rfl | exact hq.elim) ?_
  intro e st' hq ρ S1 a' w' hdef hr1 hfr
  have hq' : ∃ fz st2, st'.freezeL fz = some st2 ∧ RetOk E.Γ fn.results.toList st2 res := by cases e <;> first | exact hq | exact hq.elim
  obtain ⟨fz, st2, hfz, comps, h1, h2, h3, h4⟩ := hq'
  obtain ⟨ρ, S', hr, _⟩ := RelE.freezeL hfz ⟨ρ, S1, hr1, hfr⟩
  obtain ⟨vs, hvl, h6, hrun⟩ := results_run hE.ctx hr h1
  obtain ⟨h7, h8⟩ := fits_comps hr h2 h6
  refine ⟨_, hrun, _, S', blks ρ (idsR comps res.cs), rfl, ?_, blks_nodup hr h3 fun o ho => let ⟨k, e, rows, hh⟩ := h8 o ho; ⟨_, hh⟩, ?_⟩
  · unfold ResRep
    rw [h4]
    by_cases h9 : vs.length = 1
    · rw [if_neg (by rw [← hvl, h9]; simp)]
      match vs, h9, h7 with
      | [v], _, h7 => exact h7
    · rw [if_pos (by rw [← hvl]; simp [h9])]
      refine ⟨vs, ?_, h7⟩
      rw [dif_neg (by simpa using h9)]
  · refine ⟨hr.os, hr.tape, hr.output, hr.hsize, hr.same, hr.sub, hr.lim, hr.foot, fun b hb => ?_⟩
    obtain ⟨o, ho, hh, q1, q2⟩ := mem_blks.1 hb
    obtain ⟨k, e, rows, q3⟩ := h8 o ho
    have hnS : ¬ S' b := by
      obtain ⟨h', q4, q5⟩ := hr.obj _ _ q3
      rw [q1] at q4; cases q4
      rcases q5.2 with ⟨_, A', rfl⟩ | ⟨g, c', hc0, rfl, _, hlive, _⟩
      · cases A' <;> simp [blkOf] at q2
      · simp [blkOf, Nat.ne_of_gt hc0] at q2
        subst q2
        exact hlive rfl
    exact ⟨hnS, ((hr.place _ _ _ _ q3 q1 q2).resolve_right hnS).symm, blk_lt hr q3 q1 q2⟩

end Go.Eng
