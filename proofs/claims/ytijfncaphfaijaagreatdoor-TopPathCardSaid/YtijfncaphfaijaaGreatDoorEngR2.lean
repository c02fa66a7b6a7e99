/- The abstract machine run as a program: what it comes to, if it comes to something, is what the code comes to. -/
import Derived.Test.YtijfncaphfaijaaGreatDoorEngY
namespace Go.Eng

/-! ### The runner -/

/-- A function's body. -/
structure FnI where
  nt : Nat
  rs : List ResultVar
  code : Code

/-- What the runner looks up: types; bodies; answers that are known; which functions are walked over the caller's objects. -/
structure RCtx where
  Γ : Ctx
  fn : FuncId → Option FnI
  tbl : FuncId → List (Bool × List CV) → Option Res
  walk : FuncId → Bool

abbrev Runner := Bool → Code → St → Option (Exit × St)

/-- Earlier entries of a key are left out. -/
def tidyE : List (Nat × AT) → List Nat → List (Nat × AT)
  | [], _ => []
  | (t, x) :: r, seen => if seen.contains t then tidyE r seen else (t, x) :: tidyE r (t :: seen)

def tidyO : List (Nat × Option AObj) → List Nat → List (Nat × Option AObj)
  | [], _ => []
  | (t, x) :: r, seen => if seen.contains t then tidyO r seen else (t, x) :: tidyO r (t :: seen)

def tidy (st : St) : St := ⟨st.nt, tidyE st.env [], tidyO st.objs [], st.next⟩

/-- The own rows that an operation makes still. -/
def fzOp (Γ : Ctx) (ob : Nat → Option AObj) (ev : TypeId → Operand → AT) : Op → List Nat
  | .store t a x => match (ev 0 a).one? with
    | some (.eptr ..) => match (ev t x).cells? with
      | some ys => livesOf ob ys
      | none => []
    | _ => []
  | .buildSlice t _ parts => if fnsT Γ t then [] else match Γ.elem t with
    | some e => livesOf ob (partsC ev e parts.toList)
    | none => []
  | _ => []

def isRet : Exit → Bool
  | .ret => true
  | .normal => true
  | _ => false

def isReady : LSt → Bool
  | .ready => true
  | _ => false

/-- May the region end here? -/
def endQ (draw : Bool) (ops : List Oper) (acc : List Ft) : Bool := match draw with
  | true => drawF ops acc.reverse
  | false => true

/-- May a call be walked here? -/
def cutQ (draw : Bool) (ops : List Oper) (acc : List Ft) (j : Nat) : Bool := match draw with
  | true => drawF ops acc.reverse && cutOk ops j
  | false => true

/-- What is handed back, cell by cell. -/
def resCV (ob : Nat → Option AObj) : List AV → Option (List CV)
  | [] => some []
  | .own o :: r => match ob o, resCV ob r with
    | some (.row k e rows true), some cs => some (.own k e rows :: cs)
    | some (.row k _ rows false), some cs => some (.d (.vec k rows) :: cs)
    | _, _ => none
  | x :: r => match avD ob x, resCV ob r with
    | some d, some cs => some (.d d :: cs)
    | _, _ => none

def resCs (ob : Nat → Option AObj) : List (Bool × List AV) → Option (List (Bool × List CV))
  | [] => some []
  | (g, xs) :: r => match resCV ob xs, resCs ob r with
    | some cs, some r' => some ((g, cs) :: r')
    | _, _ => none

/-- The variables that results point to: they are made still, if they hold data alone. -/
def fzRes (ob : Nat → Option AObj) (xs : List AV) : List Nat := (xs.flatMap avT).filter fun o => match ob o with
  | some (.var _ true) => true
  | _ => false

/-- A function run on data. -/
def rMeets (X : RCtx) (self : Runner) (f : FuncId) (args : List (Bool × List CV)) : Option Res := match X.fn f with
  | none => none
  | some F => if args.length ≤ F.nt then (match self false F.code (initSt F.nt args) with
    | some (e, st) => if isRet e = true then (match resAll X.Γ st F.rs with
      | some comps => match st.freezeL (fzRes (getO st.objs) (comps.flatMap (·.2))) with
        | some st' => match resAll X.Γ st' F.rs with
          | some comps' => match resCs (getO st'.objs) comps' with
            | some cs => if (idsR comps' cs).Nodup then some ⟨!(F.rs.length == 1), cs⟩ else none
            | none => none
          | none => none
        | none => none
      | none => none) else none
    | none => none) else none

/-- A function walked over objects. -/
def rCall (X : RCtx) (self : Runner) (f : FuncId) (args : List (Bool × List AV)) (objs : List (Nat × Option AObj)) (next : Nat) : Option (AT × List (Nat × Option AObj) × Nat) := match X.fn f with
  | none => none
  | some F => if args.length ≤ F.nt then (match self false F.code ⟨F.nt, initEnv 0 args, objs, next⟩ with
    | some (e, st) => if isRet e = true then (match resAll X.Γ st F.rs with
      | some comps => some ((match comps with | [(g, xs)] => .cs g xs | _ => .tup comps), st.objs, st.next)
      | none => none) else none
    | none => none) else none

def dedup : List Nat → List Nat → List Nat
  | _, [] => []
  | seen, n :: r => if seen.contains n then dedup seen r else n :: dedup (n :: seen) r

def keysO (ob : Nat → Option AObj) : List Nat → Option (List (Nat × AObj))
  | [] => some []
  | n :: r => match ob n, keysO ob r with
    | some x, some q => some ((n, x) :: q)
    | _, _ => none

def flatTs (ob : Nat → Option AObj) : List (Bool × List AV) → Option (List (Bool × List AV))
  | [] => some []
  | (g, xs) :: r => match allD ob xs, flatTs ob r with
    | some ds, some q => some ((g, ds.map .d) :: q)
    | _, _ => none

/-- An answer as data. -/
def flatT (ob : Nat → Option AObj) : AT → Option AT
  | .cs g xs => (allD ob xs).map fun ds => .cs g (ds.map .d)
  | .tup ts => (flatTs ob ts).map .tup
  | _ => none

def cellsT : AT → List AV
  | .cs _ xs => xs
  | .tup ts => ts.flatMap (·.2)
  | _ => []

/-- A call that turns some objects, and knows of no others. -/
def oCall (X : RCtx) (self : Runner) (f : FuncId) (A : List (Bool × List AV)) (objs : List (Nat × Option AObj)) (next : Nat) : Option (List (Nat × AObj) × List (Nat × AObj) × AT) := match keysO (getO objs) (dedup [] (callTouch A)) with
  | some os => if (os.all fun p => decide (p.1 < next)) = true then (match rCall X self f A (someO os) next with
    | some (t, objs', _) => match flatT (getO ((livesOf (getO objs') (cellsT t)).map (frz (getO objs')) ++ objs')) t, keysO (getO ((livesOf (getO objs') (cellsT t)).map (frz (getO objs')) ++ objs')) (os.map (·.1)) with
      | some t', some os' => if okO A os os' t' = true then some (os, os', t') else none
      | _, _ => none
    | none => none) else none
  | none => none

/-- A round of a loop over a function. -/
def rYield (self : Runner) (n : Nat) (A : List (Bool × List AV)) (objs : List (Nat × Option AObj)) (next : Nat) : Option (AT × List (Nat × Option AObj) × Nat) := match getO objs n with
  | some (.lp L) => if (decide (A.length = L.ps.size) && L.ps.toList.all fun p => decide (p < L.nt)) = true then (match self true L.assign ⟨L.nt, parE L.ps.toList A L.env, objs, next⟩ with
    | some (.normal, st1) => match getO st1.objs n with
      | some (.lp L1) => if isReady L1.st = true then (match self true L.body ⟨st1.nt, st1.env, setLp n L1 .busy st1.objs, st1.next⟩ with
        | some (e, st2) => match getO st2.objs n with
          | some (.lp L2) => match e with
            | .normal => some (.cs false [.d (.v (.bool true))], setLp n L2 .ready st2.objs, st2.next)
            | .ret => some (.cs false [.d (.v (.bool false))], setLp n L2 (.done .ret) st2.objs, st2.next)
            | .exit id => some (.cs false [.d (.v (.bool false))], setLp n L2 (.done (.exit id)) st2.objs, st2.next)
            | _ => none
          | _ => none
        | none => none) else none
      | _ => none
    | _ => none) else none
  | _ => none

/-- What one operation leaves: the region's base number, what was done so far, the state. -/
structure ROut where
  N : Nat
  acc : List Ft
  st : St

/-- An operation, told here or there, as it is run. -/
def aopR (Γ : Ctx) (N : Nat) (ev : TypeId → Operand → AT) (ob : Nat → Option AObj) (o : Oper) : Option AOut := match aop Γ N ev ob o with
  | some r => some r
  | none => aopY Γ N ev ob o

theorem aopR_ok {Γ : Ctx} {N : Nat} {ev : TypeId → Operand → AT} {ob : Nat → Option AObj} {o : Oper} {r : AOut} (h : aopR Γ N ev ob o = some r) : aopW Γ N ev ob o r := by
  unfold aopR at h
  split at h
  · rename_i r' e
    cases h
    exact .inl e
  · exact .inr h

/-- One operation that is wanted. -/
def rOp (X : RCtx) (self : Runner) (ops : List Oper) (opsA : Array Oper) (draw : Bool) (N j : Nat) (acc : List Ft) (o : Oper) (st : St) : Option ROut :=
  match nilq o.op with
  | some (t, x, want) => if draw then none else (match X.Γ.elem t, (aval X.Γ (getE st.env) t x).one? with
    | some _, some v => match rowsOf (getO st.objs) v with
      | some q => if 0 < q.1 ∧ q.2.1.isEmpty = false then some ⟨N, acc, ⟨st.nt, putE st.env o.dst (.cs false [.d (.v (.bool (false == want)))]), st.objs, st.next⟩⟩ else none
      | none => none
    | _, _ => none)
  | none => if isCall X.Γ o.op then
      match yieldA (aval X.Γ (getE st.env)) o with
      | some (n, A) => if cutQ draw ops acc j = false then none else (match rYield self n A st.objs (N + 8 * j) with
        | some (t, objs', next') => some ⟨next', pads (j + 1), ⟨st.nt, putE st.env o.dst t, objs', st.next⟩⟩
        | none => none)
      | none => match callArgs (aval X.Γ (getE st.env)) o with
        | none => none
        | some (f, A) => match (if X.walk f then none else (match convArgs (getO st.objs) [] A with
            | some cargs => match X.tbl f cargs with
              | some res => some (cargs, res)
              | none => (rMeets X self f cargs).map (cargs, ·)
            | none => none)) with
          | some (_, res) => match res.out (N + 8 * j) with
            | some (t, news) => if callOk (getO st.objs) [] A news.length = true then
                some ⟨N, ⟨guardT opsA o ++ o.op.operands.toList.flatMap opTemps, callTouch A, o.dst, (news ++ callUpd (getO st.objs) [] A res.scalar).map (·.1)⟩ :: acc, ⟨st.nt, putE st.env o.dst t, (news ++ callUpd (getO st.objs) [] A res.scalar) ++ st.objs, st.next⟩⟩
              else none
            | none => none
          | none => if cutQ draw ops acc j = true then (match rCall X self f A st.objs (N + 8 * j) with
              | some (t, objs', next') => some ⟨next', pads (j + 1), ⟨st.nt, putE st.env o.dst t, objs', st.next⟩⟩
              | none => none) else (match oCall X self f A st.objs (N + 8 * j) with
              | some (os, os', t) => some ⟨N, ⟨guardT opsA o ++ o.op.operands.toList.flatMap opTemps, os.map (·.1), o.dst, (someO (turned os os')).map (·.1)⟩ :: acc, ⟨st.nt, putE st.env o.dst t, someO (turned os os') ++ st.objs, st.next⟩⟩
              | none => none)
    else match aopR X.Γ (N + 8 * j) (aval X.Γ (getE st.env)) (getO ((fzOp X.Γ (getO st.objs) (aval X.Γ (getE st.env)) o.op).map (frz (getO st.objs)) ++ st.objs)) o with
      | some r => some ⟨N, ⟨guardT opsA o ++ o.op.operands.toList.flatMap opTemps, fzOp X.Γ (getO st.objs) (aval X.Γ (getE st.env)) o.op ++ r.touch, o.dst, (r.upd ++ (fzOp X.Γ (getO st.objs) (aval X.Γ (getE st.env)) o.op).map (frz (getO st.objs))).map (·.1)⟩ :: acc,
          ⟨st.nt, putE st.env o.dst r.out, (r.upd ++ (fzOp X.Γ (getO st.objs) (aval X.Γ (getE st.env)) o.op).map (frz (getO st.objs))) ++ st.objs, st.next⟩⟩
      | none => none

def rOps (X : RCtx) (self : Runner) (ops : List Oper) (opsA : Array Oper) (draw : Bool) : Nat → Nat → List Ft → List Oper → St → Option St
  | N, j, acc, [], st => if endQ draw ops acc = true then some ⟨st.nt, st.env, st.objs, N + 8 * j⟩ else none
  | N, j, acc, o :: rest, st => if dstOk st.nt o.dst = true then (match guardA opsA (getE st.env) o with
    | some true => match rOp X self ops opsA draw N j acc o st with
      | some r => rOps X self ops opsA draw r.N (j + 1) r.acc rest r.st
      | none => none
    | some false => rOps X self ops opsA draw N (j + 1) (⟨guardT opsA o, [], o.dst, []⟩ :: acc) rest ⟨st.nt, putE st.env o.dst .undef, st.objs, st.next⟩
    | none => none) else none

def rLoop (self : Code → St → Option (Exit × St)) (c : Code) : Nat → St → Option (Exit × St)
  | 0, _ => none
  | m + 1, st => match self c st with
    | some (.normal, st') => rLoop self c m (tidy st')
    | r => r

def rStep (X : RCtx) (self : Runner) (r : Bool) (code : Code) (st : St) : Option (Exit × St) := match code with
  | .skip => some (.normal, st)
  | .label _ => some (.normal, st)
  | .exit id => some (.exit id, st)
  | .ret => some (.ret, st)
  | .seq a b => match self r a st with
    | some (.normal, st') => self r b st'
    | q => q
  | .cond x a b => match (aval X.Γ (getE st.env) 0 x).bool? with
    | some true => self r a st
    | some false => self r b st
    | none => none
  | .block id c => match self r c st with
    | some (.exit id', st') => if id' = id then some (.normal, st') else some (.exit id', st')
    | q => q
  | .scope c => match self r c st with
    | some (.goto _, _) => none
    | q => q
  | .loop c => rLoop (self r) c 1000000 st
  | .region _ ops draw => match rOps X self ops.toList ops draw st.next 0 [] ops.toList st with
    | some st' => some (.normal, st')
    | none => none
  | .rangeFunc g ps assign body => if r then none else (match calleeA (aval X.Γ (getE st.env) 0 g) with
    | some (f, A) => match rCall X self f ((false, [.yld st.next]) :: A) ((st.next, some (.lp ⟨st.nt, tidyE st.env [], ps, assign, body, .ready⟩)) :: st.objs) (st.next + 8) with
      | some (_, objs', next') => match getO objs' st.next with
        | some (.lp L) => match L.st with
          | .ready => some (.normal, ⟨st.nt, tidyE st.env [], (st.next, none) :: objs', next'⟩)
          | .done .ret => some (.ret, ⟨st.nt, tidyE st.env [], (st.next, none) :: objs', next'⟩)
          | .done (.exit id) => some (.exit id, ⟨st.nt, tidyE st.env [], (st.next, none) :: objs', next'⟩)
          | _ => none
        | _ => none
      | none => none
    | none => none)
  | _ => none

/-- So deep. -/
def runC (X : RCtx) : Nat → Runner
  | 0 => fun _ _ _ => none
  | n + 1 => rStep X (runC X n)

/-! ### The runner says the truth -/

/-- What is asked of the runner's tables. -/
structure RCtxOk (P : Program) (X : RCtx) : Prop where
  ctx : CtxOk P X.Γ
  mix : P.follows .mixedOrders = true
  fn : ∀ f F, X.fn f = some F → ∃ fn, P.funcs[f]? = some fn ∧ fn.body = some F.code ∧ (fn.name == "runtime.NumGoroutine") = false ∧ fn.ntmps = F.nt ∧ fn.results.toList = F.rs
  tbl : ∀ f args res, X.tbl f args = some res → Meets P f args res

def Sound (P : Program) (X : RCtx) (self : Runner) : Prop := ∀ (ro : Option Nat) (pin : Pin) (r : Bool) (c : Code) (st : St) (e : Exit) (st' : St) (Q : Exit → St → Prop), (r = false → ro = none) → self r c st = some (e, st') → Q e st' → AWp ⟨P, X.Γ, ro, pin⟩ c Q st

section
variable {P : Program} {X : RCtx} {self : Runner}

theorem RCtxOk.sit (hX : RCtxOk P X) (ro : Option Nat) (pin : Pin) : SitOk ⟨P, X.Γ, ro, pin⟩ := ⟨hX.ctx, hX.mix⟩

theorem resCV_fits {ob : Nat → Option AObj} : ∀ {xs : List AV} {cs : List CV}, resCV ob xs = some cs → FitsC ob xs cs
  | [], cs, h => by cases h; trivial
  | x :: r, cs, h => by
    have gen : (match avD ob x, resCV ob r with | some d, some cs => some (.d d :: cs) | _, _ => none) = some cs → FitsC ob (x :: r) cs := fun h => by
      split at h
      · rename_i d cs' hd hc
        cases h
        exact ⟨hd, resCV_fits hc⟩
      · cases h
    cases x with
    | own o =>
      simp only [resCV] at h
      split at h
      · rename_i k e rows cs' ho hc
        cases h
        exact ⟨ho, resCV_fits hc⟩
      · rename_i k e rows cs' ho hc
        cases h
        exact ⟨by simp only [avD, ho], resCV_fits hc⟩
      · cases h
    | _ => exact gen (by simpa only [resCV] using h)

theorem resCs_fits {ob : Nat → Option AObj} : ∀ {xs : List (Bool × List AV)} {cs : List (Bool × List CV)}, resCs ob xs = some cs → FitsR ob xs cs
  | [], cs, h => by cases h; trivial
  | (g, xs) :: r, cs, h => by
    unfold resCs at h
    split at h
    · rename_i c r' h1 h2
      cases h
      exact ⟨rfl, resCV_fits h1, resCs_fits h2⟩
    · cases h

theorem rMeets_sound (hX : RCtxOk P X) (hs : Sound P X self) {f : FuncId} {args : List (Bool × List CV)} {res : Res} (h : rMeets X self f args = some res) : Meets P f args res := by
  unfold rMeets at h
  split at h
  · cases h
  rename_i F hF
  split at h
  case isFalse => cases h
  rename_i hnt
  split at h
  case h_2 => cases h
  rename_i e st hrun
  obtain ⟨fn, h1, h2, h3, h4, h5⟩ := hX.fn f F hF
  split at h
  case isFalse => cases h
  rename_i he
  split at h
  case h_2 => cases h
  rename_i comps hc
  split at h
  case h_2 => cases h
  rename_i st1 hfz
  split at h
  case h_2 => cases h
  rename_i comps1 hc1
  split at h
  case h_2 => cases h
  rename_i cs hcs
  split at h
  case isFalse => cases h
  rename_i hnd
  cases h
  refine meets_of_body (hX.sit none ⟨0, []⟩) rfl h1 h2 h3 (by rw [h4]; exact hnt) (hs none _ false F.code _ e st _ (fun _ => rfl) (by rw [h4]; exact hrun) ?_)
  have hret : ∃ fz st', st.freezeL fz = some st' ∧ RetOk X.Γ fn.results.toList st' ⟨!(F.rs.length == 1), cs⟩ := ⟨_, st1, hfz, comps1, by rw [h5]; exact hc1, resCs_fits hcs, hnd, by rw [h5]⟩
  cases e <;> first | exact hret | cases he

theorem rCall_sound (hX : RCtxOk P X) (hs : Sound P X self) {E : Sit} (hP : E.P = P) (hΓ : E.Γ = X.Γ) {f : FuncId} {args : List (Bool × List AV)} {objs : List (Nat × Option AObj)} {next : Nat} {t : AT} {objs' : List (Nat × Option AObj)} {next' : Nat}
    (h : rCall X self f args objs next = some (t, objs', next')) {K : AT → List (Nat × Option AObj) → Nat → Prop} (hK : K t objs' next') : HCall E f args objs next K := by
  subst hP
  unfold rCall at h
  split at h
  · cases h
  rename_i F hF
  split at h
  case isFalse => cases h
  rename_i hnt
  split at h
  case h_2 => cases h
  rename_i e st hrun
  obtain ⟨fn, h1, h2, h3, h4, h5⟩ := hX.fn f F hF
  split at h
  case isFalse => cases h
  rename_i he
  split at h
  case h_2 => cases h
  rename_i comps hc
  cases h
  have hE : SitOk E := ⟨by rw [hΓ]; exact hX.ctx, hX.mix⟩
  refine hcall_of_body hE h1 h2 h3 (by rw [h4]; exact hnt) ?_
  rw [hΓ]
  refine hs none _ false F.code _ e st _ (fun _ => rfl) (by rw [h4]; exact hrun) ?_
  cases e <;> first | exact ⟨comps, by rw [h5]; exact hc, hK⟩ | cases he

theorem keysO_ok {ob : Nat → Option AObj} : ∀ {l : List Nat} {os : List (Nat × AObj)}, keysO ob l = some os → ∀ p ∈ os, ob p.1 = some p.2
  | [], os, h => by
    simp only [keysO, Option.some.injEq] at h
    subst h
    simp
  | n :: r, os, h => by
    simp only [keysO] at h
    split at h
    · rename_i x q h1 h2
      cases h
      intro p hp
      rcases List.mem_cons.1 hp with rfl | hp
      · exact h1
      · exact keysO_ok h2 p hp
    · cases h

theorem d_rep {ρ : Where} {w : World} {S : Nat → Prop} : ∀ {ds : List D} {us : List Value}, All2 (Rep w S) ds us → All2 (RepAV ρ w S) (ds.map .d) us
  | [], _, h => by cases h; exact .nil
  | d :: ds, _, h => by
    cases h with
    | cons h1 h2 => exact .cons h1 (d_rep h2)

theorem flatC_rep {c : Base} {nt : Nat} {env : Nat → AT} {ob : Nat → Option AObj} {ρ : Where} {S : Nat → Prop} {a : Act} {w : World} (hr : Rel c nt env ob ρ S a w) {g : Bool} {xs : List AV} {ds : List D} {v : Value} (h : allD ob xs = some ds) (hv : RepC ρ w S g xs v) : RepC ρ w S g (ds.map .d) v := by
  cases g with
  | true =>
    obtain ⟨us, h1, h2⟩ := hv
    exact ⟨us, h1, d_rep (allD_rep hr h h2)⟩
  | false =>
    obtain ⟨x, rfl, h2⟩ := hv
    have h3 := allD_rep hr h (.cons h2 .nil)
    cases h3 with
    | cons h4 h5 => cases h5; exact ⟨_, rfl, h4⟩

theorem flatTs_rep {c : Base} {nt : Nat} {env : Nat → AT} {ob : Nat → Option AObj} {ρ : Where} {S : Nat → Prop} {a : Act} {w : World} (hr : Rel c nt env ob ρ S a w) : ∀ {ts ts' : List (Bool × List AV)} {vs : List Value}, flatTs ob ts = some ts' → All2 (fun t u => RepC ρ w S t.1 t.2 u) ts vs → All2 (fun t u => RepC ρ w S t.1 t.2 u) ts' vs
  | [], ts', vs, h, hv => by
    simp only [flatTs, Option.some.injEq] at h
    subst h
    exact hv
  | (g, xs) :: r, ts', vs, h, hv => by
    simp only [flatTs] at h
    split at h
    · rename_i ds q h1 h2
      cases h
      cases hv with
      | cons h3 h4 => exact .cons (flatC_rep hr h1 h3) (flatTs_rep hr h2 h4)
    · cases h

theorem flatT_rep {c : Base} {nt : Nat} {env : Nat → AT} {ob : Nat → Option AObj} {ρ : Where} {S : Nat → Prop} {a : Act} {w : World} (hr : Rel c nt env ob ρ S a w) {t t' : AT} {v : Value} (h : flatT ob t = some t') (hv : RepT ρ w S t v) : RepT ρ w S t' v := by
  cases t with
  | cs g xs =>
    simp only [flatT, Option.map_eq_some_iff] at h
    obtain ⟨ds, h1, rfl⟩ := h
    exact flatC_rep hr h1 hv
  | tup ts =>
    simp only [flatT, Option.map_eq_some_iff] at h
    obtain ⟨q, h1, rfl⟩ := h
    obtain ⟨vs, e, h2⟩ := hv
    exact ⟨vs, e, flatTs_rep hr h1 h2⟩
  | _ => cases h

theorem oCall_sound (hX : RCtxOk P X) (hs : Sound P X self) {f : FuncId} {A : List (Bool × List AV)} {objs : List (Nat × Option AObj)} {next : Nat} {os os' : List (Nat × AObj)} {t : AT} (h : oCall X self f A objs next = some (os, os', t)) :
    (∀ p ∈ os, getO objs p.1 = some p.2) ∧ MeetsO P f A os os' t ∧ okO A os os' t = true := by
  unfold oCall at h
  split at h
  case h_2 => cases h
  rename_i os1 h1
  split at h
  case isFalse => cases h
  rename_i hlt
  split at h
  case h_2 => cases h
  rename_i t1 objs' next' hc
  split at h
  case h_2 => cases h
  rename_i t2 os2 hft h2
  split at h
  case isFalse => cases h
  rename_i hok
  cases h
  refine ⟨keysO_ok h1, ?_, hok⟩
  have hcall := rCall_sound (E := ⟨P, X.Γ, none, ⟨0, []⟩⟩) hX hs rfl rfl hc (K := fun t3 objs1 _ => t3 = t1 ∧ objs1 = objs') ⟨rfl, rfl⟩
  simp only [List.all_eq_true, decide_eq_true_eq] at hlt
  have hkey : ∀ n, n ∈ os.map (·.1) → n < next := fun n hn => by
    obtain ⟨p, hp, rfl⟩ := List.mem_map.1 hn
    exact hlt p hp
  refine ⟨hcall.1, fun c ρ S w vals hrel hdom hR hall => (hcall.2 c ρ S w vals (fun o hh h3 => ⟨hkey o (hdom o hh (by rw [← hR]; exact h3)), by simp⟩) hrel (fun n hn => ?_) hall).mono ?_⟩
  · cases hp : ρ n with
    | none => rfl
    | some h3 => exact absurd (hkey n (hdom n _ hp)) (by omega)
  · rintro e w' ⟨v, t3, objs2, next2, ρ', S', rfl, q1, _, q2, rfl, rfl⟩
    let fz := livesOf (getO objs2) (cellsT t3)
    have q3 : Rel c 1 (fun n => if n = 0 then t3 else .junk) (getO objs2) ρ' S' { tmps := #[v], defers := [] } w' := by
      refine ⟨q1.defers, rfl, fun n => ?_, q1.obj, q1.sep, q1.place, q1.os, q1.tape, q1.output, q1.hsize, q1.same, q1.lim, q1.sub, q1.foot, q1.pin, q1.clim, q1.lay⟩
      split
      · rename_i e
        subst e
        exact q2
      · trivial
    obtain ⟨S2, q4⟩ := q3.freezeRows fz fun n hn => mem_lives hn
    rw [← getO_upd] at q4
    have q5 : RepT ρ' w' S2 t3 v := by
      have := q4.env 0
      rw [if_pos rfl] at this
      exact this
    refine ⟨v, fz.map (frz (getO objs2)) ++ objs2, ρ', S2, rfl, ?_, flatT_rep q4 hft q5, keysO_ok h2⟩
    exact ⟨q4.defers, rfl, fun _ => trivial, q4.obj, q4.sep, q4.place, q4.os, q4.tape, q4.output, q4.hsize, q4.same, q4.lim, q4.sub, q4.foot, q4.pin, q4.clim, q4.lay⟩

theorem rYield_sound (hs : Sound P X self) {E : Sit} (hP : E.P = P) (hΓ : E.Γ = X.Γ) {n : Nat} {A : List (Bool × List AV)} {objs : List (Nat × Option AObj)} {next : Nat} {t : AT} {objs' : List (Nat × Option AObj)} {next' : Nat}
    (h : rYield self n A objs next = some (t, objs', next')) {K : AT → List (Nat × Option AObj) → Nat → Prop} (hK : K t objs' next') : HYield E n A objs next K := by
  subst hP
  unfold rYield at h
  split at h
  case h_2 => cases h
  rename_i L hL
  split at h
  case isFalse => cases h
  rename_i hg
  split at h
  case h_2 => cases h
  rename_i st1 h1
  split at h
  case h_2 => cases h
  rename_i L1 hL1
  split at h
  case isFalse => cases h
  rename_i hst
  split at h
  case h_2 => cases h
  rename_i e st2 h2
  split at h
  case h_2 => cases h
  rename_i L2 hL2
  refine ⟨L, hL, hg, fun ro => ?_⟩
  rw [hΓ]
  refine hs ro _ true L.assign _ .normal st1 _ (fun hh => by cases hh) h1 ⟨L1, hL1, ?_, ?_⟩
  · unfold isReady at hst
    split at hst
    · assumption
    · cases hst
  · refine hs ro _ true L.body _ e st2 _ (fun hh => by cases hh) h2 ?_
    split at h
    · cases h; exact ⟨L2, hL2, hK⟩
    · cases h; exact ⟨L2, hL2, hK⟩
    · cases h; exact ⟨L2, hL2, hK⟩
    · cases h

theorem fzOp_lives {Γ : Ctx} {ob : Nat → Option AObj} {ev : TypeId → Operand → AT} {op : Op} : ∀ n ∈ fzOp Γ ob ev op, ∃ k e rows, ob n = some (.row k e rows true) := by
  intro n hn
  unfold fzOp at hn
  split at hn
  · split at hn
    · split at hn
      · exact mem_lives hn
      · simp at hn
    · simp at hn
  · split at hn
    · simp at hn
    · split at hn
      · exact mem_lives hn
      · simp at hn
  · simp at hn

theorem cutQ_ok {R : Reg} {j : Nat} {acc : List Ft} (h : cutQ R.draw R.ops acc j = true) : CutOk R j acc := by
  unfold CutOk
  cases hdr : R.draw with
  | false => exact .inl rfl
  | true =>
    rw [hdr] at h
    exact .inr (by simpa [cutQ] using h)

/-- What the rest of a region comes to. -/
def RestV (X : RCtx) (self : Runner) (R : Reg) (j : Nat) (acc : List Ft) (rest : List Oper) (st : St) : Prop := ∃ st', rOps X self R.ops R.ops.toArray R.draw R.N j acc rest st = some st' ∧ R.Q .normal st'

theorem rest_steps (hX : RCtxOk P X) (hs : Sound P X self) (ro : Option Nat) (pin : Pin) : StepsV (RestV X self) ⟨P, X.Γ, ro, pin⟩ where
  nil R j acc st h := by
    obtain ⟨st', h1, h2⟩ := h
    simp only [rOps] at h1
    split at h1
    case isFalse => cases h1
    rename_i hd
    cases h1
    refine ⟨fun hdr => ?_, h2⟩
    rw [hdr] at hd
    simpa [endQ] using hd
  cons R j acc o rest st h := by
    obtain ⟨st', h1, h2⟩ := h
    simp only [rOps] at h1
    split at h1
    case isFalse => cases h1
    rename_i hd
    refine ⟨st.env, rfl, ?_⟩
    split at h1
    case h_3 => cases h1
    · rename_i hg
      split at h1
      case h_2 => cases h1
      rename_i c hc
      unfold rOp at hc
      split at hc
      · rename_i t x want hq
        split at hc
        case isTrue => cases hc
        rename_i hdr
        split at hc
        case h_2 => cases hc
        rename_i e v he hv
        split at hc
        case h_2 => cases hc
        rename_i q hrow
        split at hc
        case isFalse => cases hc
        rename_i hk
        cases hc
        refine .inr (.inr ⟨by simpa using hdr, hg, hd, t, x, want, e, v, q, hq, he, hv, hrow, hk.1, fun b hb => ?_⟩)
        have : b = false := hb (by intro h0; rw [h0] at hk; simp at hk)
        subst this
        exact ⟨st', h1, h2⟩
      · rename_i hq
        split at hc
        · rename_i hcall
          split at hc
          · rename_i n A hy
            split at hc
            case isTrue => cases hc
            rename_i hcut
            split at hc
            case h_2 => cases hc
            rename_i t objs' next' hr
            cases hc
            exact .inr (.inl ⟨cutQ_ok (by simpa using hcut), hg, hd, .inr ⟨n, A, hy, rYield_sound hs rfl rfl hr ⟨st', h1, h2⟩⟩⟩)
          · split at hc
            · cases hc
            rename_i f A hca
            split at hc
            · rename_i p res hm
              split at hc
              case h_2 => cases hc
              rename_i t news hres
              split at hc
              case isFalse => cases hc
              rename_i hok
              cases hc
              split at hm
              · cases hm
              split at hm
              case h_2 => cases hm
              rename_i cargs hcv
              have hmeet : Meets P f cargs res := by
                split at hm
                · rename_i res' htb
                  simp only [Option.some.injEq, Prod.mk.injEq] at hm
                  obtain ⟨_, rfl⟩ := hm
                  exact hX.tbl _ _ _ htb
                · simp only [Option.map_eq_some_iff] at hm
                  obtain ⟨res', hr, e⟩ := hm
                  obtain ⟨_, rfl⟩ := Prod.mk.inj e
                  exact rMeets_sound hX hs hr
              exact .inl ⟨_, ⟨hd, .inr ⟨hg, .inr (.inl ⟨f, A, [], cargs, res, t, news, hca, hcv, hmeet, hres, hok, rfl⟩)⟩⟩, st', h1, h2⟩
            · split at hc
              case isTrue hcut =>
                split at hc
                case h_2 => cases hc
                rename_i t objs' next' hr
                cases hc
                exact .inr (.inl ⟨cutQ_ok hcut, hg, hd, .inl ⟨f, A, hca, rCall_sound hX hs rfl rfl hr ⟨st', h1, h2⟩⟩⟩)
              case isFalse =>
                split at hc
                case h_2 => cases hc
                rename_i os os' t hr
                cases hc
                obtain ⟨q1, q2, q3⟩ := oCall_sound hX hs hr
                exact .inl ⟨_, ⟨hd, .inr ⟨hg, .inr (.inr ⟨fun _ => false, f, A, os, os', t, hca, q1, q2, q3, rfl⟩)⟩⟩, st', h1, h2⟩
        · split at hc
          case h_2 => cases hc
          rename_i r hr
          cases hc
          rw [getO_upd] at hr
          exact .inl ⟨_, ⟨hd, .inr ⟨hg, .inl ⟨_, r, fzOp_lives, aopR_ok hr, rfl⟩⟩⟩, st', h1, h2⟩
    · rename_i hg
      exact .inl ⟨_, ⟨hd, .inl ⟨hg, rfl⟩⟩, st', h1, h2⟩

theorem tidyE_get : ∀ (l : List (Nat × AT)) (seen : List Nat) (t : Nat), t ∉ seen → getE (tidyE l seen) t = getE l t
  | [], _, _, _ => rfl
  | (k, x) :: r, seen, t, ht => by
    simp only [tidyE, getE]
    split
    · rename_i hk
      rw [if_neg (fun e : t = k => ht (by subst e; simpa using hk))]
      exact tidyE_get r seen t ht
    · simp only [getE]
      split
      · rfl
      · rename_i hne
        exact tidyE_get r (k :: seen) t (by simp [hne, ht])

theorem tidyO_get : ∀ (l : List (Nat × Option AObj)) (seen : List Nat) (t : Nat), t ∉ seen → getO (tidyO l seen) t = getO l t
  | [], _, _, _ => rfl
  | (k, x) :: r, seen, t, ht => by
    simp only [tidyO, getO]
    split
    · rename_i hk
      rw [if_neg (fun e : t = k => ht (by subst e; simpa using hk))]
      exact tidyO_get r seen t ht
    · simp only [getO]
      split
      · rfl
      · rename_i hne
        exact tidyO_get r (k :: seen) t (by simp [hne, ht])

theorem awp_tidy {E : Sit} {c : Code} {Q : Exit → St → Prop} {st : St} (h : AWp E c Q (tidy st)) : AWp E c Q st := awp_weak (fun cb a w _ hr => by
  obtain ⟨ρ, S, h1, h2⟩ := hr
  refine ⟨ρ, S, ?_, h2⟩
  have e1 : getE (tidyE st.env []) = getE st.env := funext fun t => tidyE_get _ _ _ (by simp)
  have e2 : getO (tidyO st.objs []) = getO st.objs := funext fun t => tidyO_get _ _ _ (by simp)
  simp only [tidy, e1, e2]
  exact h1) h

theorem frT_nil : ∀ x : AT, frT [] x = true := by
  have hA : ∀ y : AV, frA [] y = true := fun y => by
    cases y <;> simp only [frA, List.contains_nil, Bool.not_false]
    rename_i f ks
    simp only [List.all_eq_true]
    intro k _
    cases k <;> simp [frC]
  intro x
  cases x <;> simp [frT, hA]

theorem keepE_of {env : List (Nat × AT)} : ∀ {env' : List (Nat × AT)}, (∀ p ∈ env', getE env p.1 = p.2) → keepE [] env env'
  | [], _ => trivial
  | (_, x) :: _, h => ⟨h _ (List.mem_cons_self ..), frT_nil x, keepE_of fun p hp => h p (List.mem_cons_of_mem _ hp)⟩

theorem tidyE_mem : ∀ (l : List (Nat × AT)) (seen : List Nat) (p : Nat × AT), p ∈ tidyE l seen → p.1 ∉ seen ∧ getE l p.1 = p.2
  | [], _, p, hp => by cases hp
  | (k, x) :: r, seen, p, hp => by
    simp only [tidyE] at hp
    split at hp
    · rename_i hk
      obtain ⟨h1, h2⟩ := tidyE_mem r seen p hp
      refine ⟨h1, ?_⟩
      simp only [getE]
      rw [if_neg (fun e : p.1 = k => h1 (by rw [e]; simpa using hk))]
      exact h2
    · rename_i hk
      rcases List.mem_cons.1 hp with rfl | hp
      · exact ⟨by simpa using hk, by simp [getE]⟩
      · obtain ⟨h1, h2⟩ := tidyE_mem r _ p hp
        simp only [List.mem_cons, not_or] at h1
        refine ⟨h1.2, ?_⟩
        simp only [getE]
        rw [if_neg h1.1]
        exact h2

theorem rLoop_sound (hs : Sound P X self) {ro : Option Nat} {pin : Pin} {r : Bool} (hr : r = false → ro = none) {c : Code} {e : Exit} {st' : St} {Q : Exit → St → Prop} (hQ : Q e st') : ∀ (m : Nat) (st : St), rLoop (self r) c m st = some (e, st') → AWpR ⟨P, X.Γ, ro, pin⟩ c Q m st
  | 0, st, h => by cases h
  | m + 1, st, h => by
    simp only [rLoop] at h
    split at h
    · rename_i st1 h1
      refine hs ro pin r c st .normal st1 _ hr h1 ?_
      have := rLoop_sound (pin := pin) hs hr hQ m (tidy st1) h
      show AWpR _ c Q m st1
      cases m with
      | zero => exact this
      | succ m => exact awp_tidy this
    · rename_i h1
      refine hs ro pin r c st e st' _ hr h ?_
      cases e with
      | normal => exact absurd h (h1 st')
      | _ => exact hQ

theorem rStep_sound (hX : RCtxOk P X) (hs : Sound P X self) : Sound P X (rStep X self) := by
  intro ro pin r c st e st' Q hr h hQ
  unfold rStep at h
  split at h
  · cases h; exact awp_skip hQ
  · cases h; exact awp_label hQ
  · cases h; exact awp_exit hQ
  · cases h; exact awp_ret hQ
  · rename_i a b
    split at h
    · rename_i st1 h1
      exact awp_seq (hs ro pin r a st .normal st1 _ hr h1 (hs ro pin r b st1 e st' Q hr h hQ))
    · rename_i h1
      refine awp_seq (hs ro pin r a st e st' _ hr h ?_)
      cases e with
      | normal => exact absurd h (h1 st')
      | _ => exact hQ
  · rename_i x a b
    split at h
    · rename_i hb; exact awp_cond hb (fun _ => hs ro pin r a st e st' Q hr h hQ) (fun hh => by cases hh)
    · rename_i hb; exact awp_cond hb (fun hh => by cases hh) (fun _ => hs ro pin r b st e st' Q hr h hQ)
    · cases h
  · rename_i id c
    split at h
    · rename_i id' st1 h1
      refine awp_block (hs ro pin r c st (.exit id') st1 _ hr h1 ?_)
      simp only [blockQ]
      split at h
      · rename_i hi; cases h; rw [if_pos hi]; exact hQ
      · rename_i hi; cases h; rw [if_neg hi]; exact hQ
    · rename_i h1
      refine awp_block (hs ro pin r c st e st' _ hr h ?_)
      cases e with
      | exit id' => exact absurd h (h1 id' st')
      | _ => exact hQ
  · rename_i c
    split at h
    · cases h
    · rename_i h1
      refine awp_scope (hs ro pin r c st e st' _ hr h ?_)
      cases e with
      | goto l => exact absurd h (h1 l st')
      | _ => exact hQ
  · rename_i c
    exact awp_rounds _ (rLoop_sound hs hr hQ _ _ h)
  · rename_i id ops draw
    split at h
    · rename_i st1 h1
      cases h
      exact v_region (hX.sit ro pin) (rest_steps hX hs ro pin) ⟨st', by simpa using h1, hQ⟩
    · cases h
  · rename_i g ps assign body
    split at h
    case isTrue => cases h
    rename_i hrr
    split at h
    case h_2 => cases h
    rename_i f A hc
    split at h
    case h_2 => cases h
    rename_i t objs' next' hcall
    split at h
    case h_2 => cases h
    rename_i L hL
    refine awp_range (hr (by simpa using hrr)) [] (tidyE st.env []) hc (by simp) (keepE_of fun p hp => (tidyE_mem _ _ p hp).2) (rCall_sound hX hs rfl rfl hcall ⟨L, hL, ?_⟩)
    split at h
    · rename_i hst; cases h; rw [hst]; exact hQ
    · rename_i hst; cases h; rw [hst]; exact hQ
    · rename_i id hst; cases h; rw [hst]; exact hQ
    · cases h
  · cases h

theorem runC_sound (hX : RCtxOk P X) : ∀ n, Sound P X (runC X n)
  | 0 => fun _ _ _ _ _ _ _ _ _ h _ => by cases h
  | n + 1 => rStep_sound hX (runC_sound hX n)

/-- A CONTRACT BY RUNNING. -/
theorem meets_run (hX : RCtxOk P X) (n : Nat) {f : FuncId} {args : List (Bool × List CV)} {res : Res} (h : rMeets X (runC X n) f args = some res) : Meets P f args res := rMeets_sound hX (runC_sound hX n) h

/-- What a function hands back, from the state it ends in. -/
def rRes (X : RCtx) (rs : List ResultVar) (st : St) : Option Res := match resAll X.Γ st rs with
  | some comps => match st.freezeL (fzRes (getO st.objs) (comps.flatMap (·.2))) with
    | some st' => match resAll X.Γ st' rs with
      | some comps' => match resCs (getO st'.objs) comps' with
        | some cs => if (idsR comps' cs).Nodup then some ⟨!(rs.length == 1), cs⟩ else none
        | none => none
      | none => none
    | none => none
  | none => none

theorem rRes_ok {rs : List ResultVar} {st : St} {res : Res} (h : rRes X rs st = some res) : RetQ X.Γ rs res .ret st := by
  unfold rRes at h
  split at h
  case h_2 => cases h
  rename_i comps hc
  split at h
  case h_2 => cases h
  rename_i st1 hfz
  split at h
  case h_2 => cases h
  rename_i comps1 hc1
  split at h
  case h_2 => cases h
  rename_i cs hcs
  split at h
  case isFalse => cases h
  rename_i hnd
  cases h
  exact ⟨_, st1, hfz, comps1, hc1, resCs_fits hcs, hnd, rfl⟩

/-- A function that defers a call of a closure that recovers. -/
def rDefer (X : RCtx) (self : Runner) (nt : Nat) (rs : List ResultVar) (c0 c1 rest : Code) (mk : Oper) (t : Tmp) (g ntg : Nat) (args : List (Bool × List CV)) : Option Res := match self false c0 (initSt nt args) with
  | some (.normal, s1) => match self false c1 s1 with
    | some (.normal, s2) => if mk.guard.isNone = true ∧ dstOk s2.nt mk.dst = true then (match aop X.Γ s2.next (aval X.Γ (getE s2.env)) (getO s2.objs) mk with
      | some r => match getE (putE s2.env mk.dst r.out) t with
        | .cs false [.clo g' caps] => if g' = g ∧ caps.length ≤ ntg then (match self false rest ⟨s2.nt, putE s2.env mk.dst r.out, r.upd ++ s2.objs, s2.next + 16⟩ with
          | some (e, s4) => if isRet e = true then rRes X rs s4 else none
          | none => none) else none
        | _ => none
      | none => none) else none
    | _ => none
  | _ => none

theorem meets_rDefer (hX : RCtxOk P X) (n : Nat) {f : FuncId} {fn : Func} {c0 c1 rest : Code} {id : Nat} {mk : Oper} {t : Tmp} {ty : TypeId} {pos : String} {af : Array Edge}
    (hf : P.funcs[f]? = some fn) (hb : fn.body = some (.seq c0 (.seq c1 (.seq (.region id #[mk, dferOp t ty pos af] false) rest)))) (hname : (fn.name == "runtime.NumGoroutine") = false)
    {args : List (Bool × List CV)} {res : Res} {nt : Nat} (hnt0 : fn.ntmps = nt) (hnt : decide (args.length ≤ nt) = true) {rs : List ResultVar} (hrs : fn.results = rs.toArray)
    {g : FuncId} {fg : Func} {celse : Code} {idg idb id3 id4 ntg : Nat} {d q z : Tmp} {tyg ti ti2 ty3 ty4 : TypeId} {posg pos3 pos4 : String} {afg af3 af4 : Array Edge}
    (hg : P.funcs[g]? = some fg) (hgb : fg.body = some (.seq (.region idg #[recOp d tyg posg afg] false) (.block idb (.seq (.region id3 #[nilOp q d ti ti2 ty3 pos3 af3] false) (.cond (.tmp q) (.region id4 #[asgOp z d ty4 pos4 af4] false) celse))))) (hgn : (fg.name == "runtime.NumGoroutine") = false) (hgr : fg.results = #[]) (hgt : fg.ntmps = ntg) (hgd : decide (d < ntg ∧ q < ntg) = true) (hti : isIface X.Γ ti = true)
    (h : rDefer X (runC X n) nt rs c0 c1 rest mk t g ntg args = some res) : Meets P f args res := by
  have hs := runC_sound hX n
  subst hnt0
  subst hgt
  simp only [decide_eq_true_eq] at hnt hgd
  unfold rDefer at h
  split at h
  case h_2 => cases h
  rename_i s1 h0
  split at h
  case h_2 => cases h
  rename_i s2 h1
  split at h
  case isFalse => cases h
  rename_i hm
  split at h
  case h_2 => cases h
  rename_i r hmk
  split at h
  case h_2 => cases h
  rename_i g' caps hclo
  split at h
  case isFalse => cases h
  rename_i hgc
  obtain ⟨rfl, hgl⟩ := hgc
  split at h
  case h_2 => cases h
  rename_i e s4 h3
  split at h
  case isFalse => cases h
  rename_i he
  have he' : e = .normal ∨ e = .ret := by cases e <;> first | exact .inl rfl | exact .inr rfl | cases he
  refine meets_of_defer (E := ⟨P, X.Γ, none, ⟨0, []⟩⟩) (hX.sit none ⟨0, []⟩) rfl hf hb hname hnt (s1 := s1) (s2 := s2) (s4 := s4) (r := r) (caps := caps)
    (hs none _ false c0 _ .normal s1 _ (fun _ => rfl) h0 ⟨rfl, rfl⟩) (hs none _ false c1 _ .normal s2 _ (fun _ => rfl) h1 ⟨rfl, rfl⟩) (by simpa using hm.1) hm.2 hmk hclo
    (hs none _ false rest _ e s4 _ (fun _ => rfl) h3 ⟨he', rfl⟩) hg hgb hgn hgr hgd.1 hgd.2 hgl hti ?_
  rw [hrs]
  exact rRes_ok (by simpa using h)

end
end Go.Eng
