/- A plain region's run; a call that turns the caller's objects. -/
import Derived.Test.YtfgejhlgenaniaaDoorEngP
import Derived.Orders
import Derived.WalkSpells
namespace Go.Eng

/-- A plain region from its place j on: whatever comes, the rest leads to Q. -/
def RunS (E : Sit) (l : List Oper) (N j : Nat) (Q : Exit → St → Prop) (st : St) : Prop :=
  ∀ (c : Base) (a : Act) (w : World), OkB E c → RelE c st (N + 8 * j) a w → wpOpsIn (wf E.ro) 0 E.P l.toArray (PostE c Q) (List.range' j (l.length - j)) a w

/-- The caller's objects alone. -/
def RelH (c : Base) (objs : List (Nat × Option AObj)) (ρ : Where) (S : Nat → Prop) (w : World) : Prop := Rel c 0 (fun _ => .junk) (getO objs) ρ S { tmps := #[], defers := [] } w

/-- A call of f, handed args, over the caller's objects (no number from next on being taken; those of fr need not keep their places): it answers, and leaves objects, as K lets. -/
def HCallF (E : Sit) (fr : List Nat) (f : FuncId) (args : List (Bool × List AV)) (objs : List (Nat × Option AObj)) (next : Nat) (K : AT → List (Nat × Option AObj) → Nat → Prop) : Prop :=
  Enterable E.P f ∧ ∀ (c : Base) (ρ : Where) (S : Nat → Prop) (w : World) (vals : List Value), (∀ o h, c.R o = some h → (⟨next, fr⟩ : Pin).holds o) → RelH c objs ρ S w → (∀ n, next ≤ n → ρ n = none) → All2 (fun t u => RepC ρ w S t.1 t.2 u) args vals →
    Calls E.P f vals.toArray w fun e w' => ∃ v t objs' next' ρ' S', e = .returned v ∧ RelH c objs' ρ' S' w' ∧ (∀ n, next' ≤ n → ρ' n = none) ∧ RepT ρ' w' S' t v ∧ K t objs' next'

abbrev HCall (E : Sit) (f : FuncId) (args : List (Bool × List AV)) (objs : List (Nat × Option AObj)) (next : Nat) (K : AT → List (Nat × Option AObj) → Nat → Prop) : Prop := HCallF E [] f args objs next K

theorem HCall.mono {E : Sit} {f : FuncId} {args : List (Bool × List AV)} {objs : List (Nat × Option AObj)} {next : Nat} {K K' : AT → List (Nat × Option AObj) → Nat → Prop} (h : HCall E f args objs next K) (hk : ∀ t o n, K t o n → K' t o n) : HCall E f args objs next K' :=
  ⟨h.1, fun c ρ S w vals h1 h2 h3 h4 => (h.2 c ρ S w vals h1 h2 h3 h4).mono fun _ _ ⟨v, t, objs', next', ρ', S', e1, e2, e3, e4, e5⟩ => ⟨v, t, objs', next', ρ', S', e1, e2, e3, e4, hk _ _ _ e5⟩⟩

section
variable {E : Sit} {Q : Exit → St → Prop} {st : St} {l : List Oper} {N j : Nat}

theorem runS_end (hj : l.length ≤ j) (h : Q .normal ⟨st.nt, st.env, st.objs, N + 8 * j⟩) : RunS E l N j Q st := by
  intro c a w _ hr
  have e : l.length - j = 0 := by omega
  rw [e]
  exact ⟨⟨st.nt, st.env, st.objs, N + 8 * j⟩, hr, h⟩

theorem runS_step (hE : SitOk E) {o : Oper} {x : Acc} (ho : l[j]? = some o) (h : AStepF E.P E.Γ l.toArray N st.nt j o (getE st.env) (getO st.objs) x) (h2 : RunS E l N (j + 1) Q (st.apply x)) : RunS E l N j Q st := by
  intro c a w hc ⟨ρ, S, h1, hf⟩
  have hj : j < l.length := (List.getElem?_eq_some_iff.1 ho).1
  obtain ⟨m, hm⟩ : ∃ m, l.length - j = m + 1 := ⟨l.length - j - 1, by omega⟩
  rw [hm, List.range'_succ, wpOpsIn_cons]
  refine astepF_sound hE.ctx h1 (by simpa using ho) (fun n h3 _ => hf n h3) h (fun a' w' ρ' S' h3 h4 => ?_)
  have := h2 c a' w' hc ⟨ρ', S', by rw [apply_env, apply_objs]; exact h3, fun n h5 => by rw [h4 n (by omega)]; exact hf n (by omega)⟩
  rwa [show l.length - (j + 1) = m by omega] at this

/-- The base of a stretch that may turn what is live, and keeps all objects in place. -/
def reBase (ob : Nat → Option AObj) (ρ : Where) (S : Nat → Prop) (w : World) (n : Nat) : Base :=
  ⟨w, S, fun b => ¬ S b ∧ ∃ o x h, ob o = some x ∧ ρ o = some h ∧ blkOf h = some b, fun o => if o < n then ρ o else none⟩

theorem rebase_in {c : Base} {nt : Nat} {env : Nat → AT} {ob : Nat → Option AObj} {ρ : Where} {S : Nat → Prop} {a a' : Act} {w : World} (hr : Rel c nt env ob ρ S a w) {nt' : Nat} {env' : Nat → AT} (n : Nat)
    (hd : a'.defers = []) (hs : a'.tmps.size = nt') (he : ∀ t, RepT ρ w S (env' t) (a'.tmps.getD t Go.undef)) : Rel (reBase ob ρ S w n) nt' env' ob ρ S a' w where
  defers := ⟨[], hd, .nil, by simp⟩
  size := hs
  env := he
  obj := hr.obj
  sep := hr.sep
  place o x h b hx hh hb := by
    by_cases hS : S b
    · exact .inr hS
    · exact .inl (.inr ⟨hS, o, x, h, hx, hh, hb⟩)
  os := rfl
  tape := rfl
  output := rfl
  hsize := Nat.le_refl _
  same _ _ _ := rfl
  lim := hr.lim
  sub _ h := h
  foot b h := .inl h
  pin o h hh := by
    simp only [reBase] at hh
    split at hh
    · exact hh
    · cases hh
  clim := hr.lim

/-- Back to the base that was. -/
theorem rebase_out {c : Base} {nt : Nat} {env : Nat → AT} {ob : Nat → Option AObj} {ρ : Where} {S : Nat → Prop} {a : Act} {w : World} (hr : Rel c nt env ob ρ S a w) {n : Nat} (hfr : ∀ o h, ρ o = some h → o < n) {nt' nt2 : Nat} {env' env2 : Nat → AT} {ob' : Nat → Option AObj} {ρ' : Where} {S' : Nat → Prop} {a' a2 : Act} {w' : World}
    (hr' : Rel (reBase ob ρ S w n) nt' env' ob' ρ' S' a' w') (hd : a2.defers = a.defers) (hs : a2.tmps.size = nt2) (he : Grows ρ ρ' w w' S S' → ∀ t, RepT ρ' w' S' (env2 t) (a2.tmps.getD t Go.undef)) : Rel c nt2 env2 ob' ρ' S' a2 w' := by
  have hpin : ∀ o h, ρ o = some h → ρ' o = some h := fun o h hh => hr'.pin o h (by simp only [reBase]; rw [if_pos (hfr o h hh)]; exact hh)
  have hkeep : Keeps S w w' := fun b hb => hr'.same b (hr.lim b hb) (fun h => h.1 hb)
  have hB : ∀ b, (reBase ob ρ S w n).B b → c.W.heap.size ≤ b ∨ c.B b := fun b ⟨hS, o, x, h, hx, hh, hb⟩ => (hr.place o x h b hx hh hb).resolve_right hS
  have hsub : ∀ b, S b → S' b := hr'.sub
  refine ⟨?_, hs, he ⟨hpin, hsub, hkeep⟩, hr'.obj, hr'.sep, fun o x h b hx hh hb => ?_, hr'.os.trans hr.os, hr'.tape.trans hr.tape, hr'.output.trans hr.output, Nat.le_trans hr.hsize hr'.hsize, fun b h1 h2 => ?_, hr'.lim, fun b hb => hsub b (hr.sub b hb), fun b hb => ?_, fun o h hh => ?_, hr.clim⟩
  · obtain ⟨Ds, h1, h2, h3⟩ := hr.defers
    exact ⟨Ds, by rw [hd]; exact h1, h2, fun D hD => ⟨hsub _ (h3 D hD).1, (h3 D hD).2.1, (hkeep _ (h3 D hD).1).trans (h3 D hD).2.2⟩⟩
  · rcases hr'.place o x h b hx hh hb with (h1 | h1) | h1
    · exact .inl (.inl (Nat.le_trans hr.hsize h1))
    · exact .inl (hB b h1)
    · exact .inr h1
  · refine (hr'.same b (Nat.lt_of_lt_of_le h1 hr.hsize) fun h => ?_).trans (hr.same b h1 h2)
    rcases hB b h with h3 | h3
    · omega
    · exact h2 h3
  · rcases hr'.foot b hb with h1 | h1 | h1
    · exact hr.foot b h1
    · exact .inr (hB b h1).symm
    · exact .inr (.inr (Nat.le_trans hr.hsize h1))
  · exact hpin o h (hr.pin o h hh)

theorem runS_hcall {o : Oper} {f : FuncId} {A : List (Bool × List AV)} (ho : l[j]? = some o) (hg : guardA l.toArray (getE st.env) o = some true) (hd : dstOk st.nt o.dst = true) (hca : callArgs (aval E.Γ (getE st.env)) o = some (f, A))
    (h : HCall E f A st.objs (N + 8 * j) fun t objs' next' => ∃ N', next' ≤ N' + 8 * (j + 1) ∧ RunS E l N' (j + 1) Q ⟨st.nt, putE st.env o.dst t, objs', st.next⟩) : RunS E l N j Q st := by
  intro c a w hc ⟨ρ, S, hr, hf⟩
  have hj : j < l.length := (List.getElem?_eq_some_iff.1 ho).1
  obtain ⟨m, hm⟩ : ∃ m, l.length - j = m + 1 := ⟨l.length - j - 1, by omega⟩
  rw [hm, List.range'_succ, wpOpsIn_cons]
  have ho' : l.toArray[j]? = some o := by simpa using ho
  unfold wpOpIn
  simp only [ho']
  rw [if_pos (guard_wanted hr hg)]
  obtain ⟨vals, hall, hrun, cl, hcl⟩ := callArgs_run (P := E.P) hr hca
  refine Oper.wp_in (fun cl' hcl' => by rw [hcl] at hcl'; cases hcl') ?_
  unfold Oper.wp
  rw [hrun h.1]
  simp only [Oper.upon_enter]
  have hfr : ∀ o h, ρ o = some h → o < N + 8 * j := fun o h hh => by
    by_cases hlt : o < N + 8 * j
    · exact hlt
    · rw [hf o (by omega)] at hh; cases hh
  have h0 : RelH (reBase (getO st.objs) ρ S w (N + 8 * j)) st.objs ρ S w := rebase_in hr _ rfl rfl fun t => trivial
  refine (h.2 _ ρ S w vals (fun o h hh => ?_) h0 hf hall).mono ?_
  · simp only [reBase] at hh
    split at hh
    · exact ⟨by assumption, by simp⟩
    · cases hh
  · rintro e w' ⟨v, t, objs', next', ρ', S', rfl, hr', hf', hv, N', hN', hk⟩
    simp only
    have hrel : Rel c st.nt (putF (getE st.env) o.dst t) (getO objs') ρ' S' (a.put o.dst v) w' := by
      refine rebase_out hr hfr hr' (put_defers _ _ _) (by rw [put_size]; exact hr.size) fun hgr t2 => ?_
      rw [put_get a o.dst v t2 (by rw [hr.size]; exact hd)]
      unfold putF
      split
      · exact hv
      · exact (hr.env t2).grows hgr
    have := hk c (a.put o.dst v) w' hc ⟨ρ', S', by rw [getE_put]; exact hrel, fun n hn => hf' n (by omega)⟩
    rwa [show l.length - (j + 1) = m by omega] at this

/-- Is it a compare of a slice with nil? -/
def nilq : Op → Option (TypeId × Operand × Bool)
  | .binOp .eql t x (.const (.slice none 0 0)) _ => some (t, x, true)
  | .binOp .neq t x (.const (.slice none 0 0)) _ => some (t, x, false)
  | _ => none

theorem run_eql_nil (P : Program) (w : World) (t e : TypeId) (A : Option Addr) (n c : Nat) (h : P.underlying t = some (.slice e)) :
    (Op.equal t (.slice A n c) (.slice none 0 0)).run P w = .ok A.isNone w := by
  simp only [Op.equal, Op.maxDepth]
  exact Lib.run_equalIn_slice_nil w 9999 t e A n c 0 0 h

/-- A slice against nil: data does not tell an empty one from nil, so both ways are gone. -/
theorem runS_nilq (hE : SitOk E) {o : Oper} {t e : TypeId} {x : Operand} {v : AV} {k : Nat} {rows : List (List D)} {tc : List Nat} {want : Bool} (ho : l[j]? = some o) (hg : guardA l.toArray (getE st.env) o = some true) (hd : dstOk st.nt o.dst = true)
    (hop : nilq o.op = some (t, x, want)) (hel : E.Γ.elem t = some e) (hv : (aval E.Γ (getE st.env) t x).one? = some v) (hx : rowsOf (getO st.objs) v = some (k, rows, tc)) (hk : 0 < k)
    (h : ∀ b, (rows ≠ [] → b = false) → RunS E l N (j + 1) Q ⟨st.nt, putE st.env o.dst (.cs false [.d (.v (.bool (b == want)))]), st.objs, st.next⟩) : RunS E l N j Q st := by
  intro c a w hc ⟨ρ, S, hr, hf⟩
  have hj : j < l.length := (List.getElem?_eq_some_iff.1 ho).1
  obtain ⟨m, hm⟩ : ∃ m, l.length - j = m + 1 := ⟨l.length - j - 1, by omega⟩
  rw [hm, List.range'_succ, wpOpsIn_cons]
  have ho' : l.toArray[j]? = some o := by simpa using ho
  unfold wpOpIn
  simp only [ho']
  rw [if_pos (guard_wanted hr hg)]
  have hund := und_elem hE.ctx hel
  obtain ⟨A, cc, us, hu, hle, hflat, hcell⟩ := rows_src hr hx (one_rep (eval_rep (Γ := E.Γ) hr t x) hv)
  have hb : rows ≠ [] → A.isNone = false := by
    intro hne
    cases A with
    | some _ => rfl
    | none =>
      exfalso
      have hl := hflat.len
      have : 0 < rows.length := List.length_pos_iff.2 hne
      have h3 : 0 < us.length := by rw [hl]; exact Nat.mul_pos this hk
      obtain ⟨ad, h4, _⟩ := hcell 0 us[0] (List.getElem?_eq_getElem h3)
      cases h4
  have hne : ∀ cl, o.op ≠ .defer cl := fun cl hcl => by rw [hcl] at hop; cases hop
  have hrun : (execOp a.eval o).run E.P w = .ok (.value (.bool (A.isNone == want))) w := by
    unfold nilq at hop
    split at hop
    · rename_i t' x' t2 e1
      cases hop
      simp only [execOp, e1, hu]
      simp [Act.eval, eqGuard_at_slice, binOp, run_eql_nil E.P w t e A rows.length cc hund]
    · rename_i t' x' t2 e1
      cases hop
      simp only [execOp, e1, hu]
      simp [Act.eval, eqGuard_at_slice, binOp, run_eql_nil E.P w t e A rows.length cc hund]
    · cases hop
  refine Oper.wp_in hne (wp_value hrun ?_)
  have hrel := hr.value (dst := o.dst) (v := .bool (A.isNone == want)) (out := .cs false [.d (.v (.bool (A.isNone == want)))]) hd (rep_bool _)
  have := h A.isNone hb c (a.put o.dst (.bool (A.isNone == want))) w hc ⟨ρ, S, by rw [getE_put]; exact hrel, fun n hn => hf n (by omega)⟩
  rwa [show l.length - (j + 1) = m by omega] at this

theorem awp_runS {id : Nat} {ops : Array Oper} (h : RunS E ops.toList st.next 0 Q st) : AWp E (.region id ops false) Q st := by
  intro c a w hc hr
  refine wpIn_region ?_
  have := h c a w hc (by simpa using hr)
  rw [List.range_eq_range']
  simpa using this

end

/-- Such a call, from the walk of its body. -/
def retH (Γ : Ctx) (rs : List ResultVar) (K : AT → List (Nat × Option AObj) → Nat → Prop) : Exit → St → Prop
  | .ret, st | .normal, st => ∃ comps, resAll Γ st rs = some comps ∧ K (match comps with | [(g, xs)] => .cs g xs | _ => .tup comps) st.objs st.next
  | _, _ => False

theorem hcallF_of_body {E : Sit} (hE : SitOk E) {fr : List Nat} {f : FuncId} {fn : Func} {code : Code} {args : List (Bool × List AV)} {objs : List (Nat × Option AObj)} {next : Nat} {K : AT → List (Nat × Option AObj) → Nat → Prop} (hf : E.P.funcs[f]? = some fn) (hb : fn.body = some code) (hname : (fn.name == "runtime.NumGoroutine") = false)
    (hnt : args.length ≤ fn.ntmps) (h : AWp ⟨E.P, E.Γ, none, ⟨next, fr⟩⟩ code (retH E.Γ fn.results.toList K) ⟨fn.ntmps, initEnv 0 args, objs, next⟩) : HCallF E fr f args objs next K := by
  refine ⟨enterable hf (by simp [hb]) hname, fun c ρ S w vals hc hr hfr hall => ?_⟩
  have hlen := hall.len
  have hrel : RelE c ⟨fn.ntmps, initEnv 0 args, objs, next⟩ next { tmps := vals.toArray ++ Array.replicate (fn.ntmps - vals.toArray.size) Go.undef, defers := [] } w := by
    refine ⟨ρ, S, ⟨⟨[], rfl, .nil, by simp⟩, ?_, fun t => ?_, hr.obj, hr.sep, hr.place, hr.os, hr.tape, hr.output, hr.hsize, hr.same, hr.lim, hr.sub, hr.foot, hr.pin, hr.clim⟩, hfr⟩
    · simp; omega
    · simp only [initEnv_get]
      rw [if_neg (by omega), Nat.sub_zero]
      cases hx : args[t]? with
      | none => trivial
      | some y =>
        obtain ⟨u, hu, hru⟩ := hall.get hx
        have htl : t < vals.length := (List.getElem?_eq_some_iff.1 hu).1
        have : (vals.toArray ++ Array.replicate (fn.ntmps - vals.toArray.size) Go.undef).getD t Go.undef = u := by
          rw [Array.getD_eq_getD_getElem?, Array.getElem?_append_left (by simpa using htl)]
          simp [hu]
        rw [this]
        exact hru
  refine calls_of_awp (E := ⟨E.P, E.Γ, none, ⟨next, fr⟩⟩) rfl hf hb hc hrel h (fun e st' hq => by cases e <;> first | exact .inl rfl | exact .inr rfl | exact hq.elim) ?_
  intro e st' hq ρ1 S1 a' w' hdef hr1 hfr1
  have hq' : ∃ comps, resAll E.Γ st' fn.results.toList = some comps ∧ K (match comps with | [(g, xs)] => .cs g xs | _ => .tup comps) st'.objs st'.next := by cases e <;> first | exact hq | exact hq.elim
  obtain ⟨comps, h1, h2⟩ := hq'
  obtain ⟨vs, hvl, h6, hrun⟩ := results_run (P := E.P) hE.ctx hr1 h1
  refine ⟨_, hrun, _, _, st'.objs, st'.next, ρ1, S1, rfl, ?_, hfr1, ?_, h2⟩
  · exact ⟨⟨[], rfl, .nil, by simp⟩, rfl, fun _ => trivial, hr1.obj, hr1.sep, hr1.place, hr1.os, hr1.tape, hr1.output, hr1.hsize, hr1.same, hr1.lim, hr1.sub, hr1.foot, hr1.pin, hr1.clim⟩
  · match comps, vs, h6 with
    | [], _, .nil => exact ⟨[], by simp, .nil⟩
    | [(g, xs)], _, .cons (y := u) h7 .nil =>
      have h8 : RepT ρ1 w' S1 (.cs g xs) u := h7
      simpa using h8
    | x :: y :: r, _, .cons (y := u) h7 (.cons (y := u2) h8 h9) =>
      refine ⟨_, ?_, .cons h7 (.cons h8 h9)⟩
      rw [dif_neg (by simp)]

theorem hcall_of_body {E : Sit} (hE : SitOk E) {f : FuncId} {fn : Func} {code : Code} {args : List (Bool × List AV)} {objs : List (Nat × Option AObj)} {next : Nat} {K : AT → List (Nat × Option AObj) → Nat → Prop} (hf : E.P.funcs[f]? = some fn) (hb : fn.body = some code) (hname : (fn.name == "runtime.NumGoroutine") = false)
    (hnt : args.length ≤ fn.ntmps) (h : AWp ⟨E.P, E.Γ, none, ⟨next, []⟩⟩ code (retH E.Γ fn.results.toList K) ⟨fn.ntmps, initEnv 0 args, objs, next⟩) : HCall E f args objs next K := hcallF_of_body hE hf hb hname hnt h

end Go.Eng
