/- A region's run, in the order of the text and in any order that its edges let. -/
import Derived.Test.YtfgejhlgenaniaaDoorEngL
import Derived.OrdersIn
namespace Go.Eng

/-- A fence that lets all in; the round in which the code stands, if any. -/
abbrev wf (ro : Option Nat) : Fence := { Fence.wide with round := ro }

theorem rows_in {P : Program} {ro : Option Nat} {n : Nat} {row : String} {args : Array Value} {w : World} {R : Value → World → Prop} (h : Rows P row args w R) : RowsIn (wf ro) n P row args w R :=
  fun c cs _ => let ⟨v, w', r, s⟩ := h c cs; ⟨v, w', r, stepsIn_wide.2 s⟩

theorem calls_in {P : Program} {ro : Option Nat} {n : Nat} {f : FuncId} {args : Array Value} {w : World} {R : Ending → World → Prop} (h : Calls P f args w R) : CallsIn (wf ro) n P f args w R :=
  (callsIn_wide (n := n)).2 h

theorem Oper.wp_in {P : Program} {o : Oper} {a : Act} {w : World} {K : Act → World → Prop} {Q : Exit → Act → World → Prop} {ro : Option Nat} {n : Nat} (hnd : ∀ c, o.op ≠ .defer c) (h : o.wp P a w K Q) : o.wpIn (wf ro) n P a w K Q := by
  unfold Oper.wp at h
  unfold Oper.wpIn
  refine ⟨fun _ _ => trivial, ?_⟩
  rw [Oper.semAt_eq _ _ _ hnd]
  generalize (execOp a.eval o).run P w = r at *
  cases r with
  | ok x w' =>
    cases x <;> simp only [Oper.upon, Oper.uponIn] at h ⊢ <;>
      first
        | exact h
        | exact ⟨fun hh => by simp [Fence.wide] at hh, calls_in h⟩
        | exact ⟨fun hh => by simp [Fence.wide] at hh, rows_in h⟩
  | halt x w' => cases x <;> simp only [Oper.upon, Oper.uponIn] at h ⊢ <;> exact h

/-- An own row is written no more. -/
theorem Rel.freezeRow {c : Base} {nt : Nat} {env : Nat → AT} {ob : Nat → Option AObj} {ρ : Where} {S : Nat → Prop} {a : Act} {w : World} (hr : Rel c nt env ob ρ S a w) {o : Nat} {k : Nat} {e : TypeId} {rows : List (List D)} {live : Bool} (hob : ob o = some (.row k e rows live)) :
    ∃ S', Rel c nt env (updO [(o, some (.row k e rows false))] ob) ρ S' a w := by
  obtain ⟨h, hρ, h2⟩ := hr.obj o _ hob
  let S' : Nat → Prop := fun b => S b ∨ blkOf h = some b
  have hx' : ObjRep ρ w S' h (.row k e rows false) := by
    obtain ⟨hk, h3⟩ := h2
    refine ⟨hk, ?_⟩
    rcases h3 with h3 | ⟨g, c', hc0, rfl, ⟨r1, r2, r3, cur, r4, r5, r7, r6⟩, _⟩
    · exact .inl h3
    · refine .inr ⟨g, c', hc0, rfl, ⟨r1, r2, r3, cur, r4, r5, r7.mono (fun _ h => .inl h) (Keeps.refl _ _), fun i j r d hi hj => ?_⟩, (fun hl => by cases hl), fun _ => .inr (by simp [blkOf]; omega)⟩
      obtain ⟨u, hu, hru⟩ := r6 i j r d hi hj
      exact ⟨u, hu, hru.mono (fun _ h => .inl h) (Keeps.refl _ _)⟩
  refine ⟨S', ?_⟩
  have h1 := hr.step (dst := none) (v := undef) (out := .junk) (ob' := updO [(o, some (.row k e rows false))] ob) (w' := w) (S' := S') (ρ' := ρ) rfl ⟨fun _ _ h => h, fun _ h => .inl h, Keeps.refl _ _⟩ trivial
    (fun n y hy => by
      simp only [updO] at hy
      split at hy
      · rename_i e
        subst e
        cases hy
        refine .inr ⟨h, hρ, hx', fun b hb => ⟨(hr.place _ _ _ _ hob hρ hb).imp_right .inl, fun o2 x2 h2 hx2 hh2 hb2 => ?_⟩⟩
        simp only [updO] at hx2
        split at hx2
        · assumption
        · exact hr.sep _ _ _ _ _ _ b hx2 hob hh2 hρ hb2 hb
      · rename_i e
        refine .inl ⟨hy, fun hh b h1 h2 => ⟨rfl, fun h3 => ?_⟩⟩
        rcases h3 with h3 | h3
        · exact h3
        · exact absurd (hr.sep _ _ _ _ _ _ b hy hob h1 hρ h2 h3) e) rfl rfl rfl (Nat.le_refl _) (fun _ _ _ => rfl)
    (fun b hb => by
      rcases hb with hb | hb
      · exact hr.lim b hb
      · exact blk_lt hr hob hρ hb)
    (fun b hb => by
      rcases hb with hb | hb
      · exact hr.foot b hb
      · rcases hr.place _ _ _ _ hob hρ hb with h3 | h3
        · exact .inr h3.symm
        · exact hr.foot b h3)
  have e1 : putF env none .junk = env := by funext n; simp [putF]
  rw [e1] at h1
  exact h1

theorem updO_append : ∀ (l l' : List (Nat × Option AObj)) (ob : Nat → Option AObj), updO (l ++ l') ob = updO l (updO l' ob)
  | [], _, _ => rfl
  | (k, x) :: l, l', ob => by
    funext n
    simp only [List.cons_append, updO, updO_append l l' ob]

theorem updO_w : ∀ (l : List (Nat × Option AObj)) (ob : Nat → Option AObj) (n : Nat), updO l ob n = if n ∈ l.map (·.1) then updO l (fun _ => none) n else ob n
  | [], ob, n => by simp [updO]
  | (k, x) :: r, ob, n => by
    simp only [updO, List.map_cons, List.mem_cons]
    by_cases h : n = k
    · simp [h]
    · simp only [h, if_false, false_or]
      exact updO_w r ob n

theorem Rel.freezeRows {c : Base} {nt : Nat} {env : Nat → AT} {ob : Nat → Option AObj} {ρ : Where} {S : Nat → Prop} {a : Act} {w : World} (hr : Rel c nt env ob ρ S a w) : ∀ (fz : List Nat), (∀ n ∈ fz, ∃ k e rows, ob n = some (.row k e rows true)) →
    ∃ S', Rel c nt env (updO (fz.map (frz ob)) ob) ρ S' a w
  | [], _ => ⟨S, hr⟩
  | o :: fz, h => by
    obtain ⟨S1, h1⟩ := hr.freezeRows fz fun n hn => h n (List.mem_cons_of_mem _ hn)
    obtain ⟨k, e, rows, hob⟩ := h o (List.mem_cons_self ..)
    have hcur : ∃ live, updO (fz.map (frz ob)) ob o = some (.row k e rows live) := by
      rw [updO_w]
      split
      · rename_i hm
        refine ⟨false, ?_⟩
        clear h1
        induction fz with
        | nil => simp at hm
        | cons q fz ih =>
          simp only [List.map_cons, updO]
          by_cases hq : o = q
          · subst hq
            simp [frz, hob]
          · have hq' : ¬ o = (frz ob q).1 := hq
            rw [if_neg hq']
            exact ih (fun n hn => h n (by rcases List.mem_cons.1 hn with rfl | hn; exact List.mem_cons_self ..; exact List.mem_cons_of_mem _ (List.mem_cons_of_mem _ hn))) (by
              simp only [List.map_cons, List.mem_cons] at hm
              exact hm.resolve_left hq)
      · exact ⟨true, hob⟩
    obtain ⟨live, hcur⟩ := hcur
    obtain ⟨S2, h2⟩ := h1.freezeRow hcur
    refine ⟨S2, ?_⟩
    have e : (frz ob o) = (o, some (.row k e rows false)) := by simp [frz, hob]
    simp only [List.map_cons, e, updO]
    exact h2

/-- What a step may be, over functions: skipped; an operation of the machine's own; a call by a contract. -/
def AStepF (P : Program) (Γ : Ctx) (ops : Array Oper) (N nt j : Nat) (o : Oper) (env : Nat → AT) (ob : Nat → Option AObj) (x : Acc) : Prop :=
  dstOk nt o.dst = true ∧ ((guardA ops env o = some false ∧ x = ⟨guardT ops o, [], o.dst, .undef, []⟩) ∨
    (guardA ops env o = some true ∧ ((∃ fz r, (∀ n ∈ fz, ∃ k e rows, ob n = some (.row k e rows true)) ∧ aop Γ (N + 8 * j) (aval Γ env) (updO (fz.map (frz ob)) ob) o = some r ∧ x = ⟨guardT ops o ++ o.op.operands.toList.flatMap opTemps, fz ++ r.touch, o.dst, r.out, r.upd ++ fz.map (frz ob)⟩) ∨
      ∃ f A es cargs res t news, callArgs (aval Γ env) o = some (f, A) ∧ convArgs ob es A = some cargs ∧ Meets P f cargs res ∧ res.out (N + 8 * j) = some (t, news) ∧ callOk ob es A news.length = true ∧
        x = ⟨guardT ops o ++ o.op.operands.toList.flatMap opTemps, callTouch A, o.dst, t, news ++ callUpd ob es A res.scalar⟩)))

/-- A run of a list of operations, step by step. -/
inductive ARun (P : Program) (Γ : Ctx) (ops : Array Oper) (N : Nat) : Nat → List Oper → St → St → List Acc → Prop where
  | nil {j st} : ARun P Γ ops N j [] st st []
  | env {j rest st env' st' xs} (h : getE env' = getE st.env) (t : ARun P Γ ops N j rest ⟨st.nt, env', st.objs, st.next⟩ st' xs) : ARun P Γ ops N j rest st st' xs
  | cons {j o rest st st' x xs} (h : AStepF P Γ ops N st.nt j o (getE st.env) (getO st.objs) x) (t : ARun P Γ ops N (j + 1) rest (st.apply x) st' xs) : ARun P Γ ops N j (o :: rest) st st' (x :: xs)

theorem guardA_ev {ops : Array Oper} {env env' : Nat → AT} {o : Oper} (h : ∀ t ∈ guardT ops o, env' t = env t) : guardA ops env' o = guardA ops env o := by
  unfold guardA guardT at *
  split
  · rfl
  · rename_i j want hg
    simp only [hg] at h
    split
    · rfl
    · rename_i t ht
      simp only [ht] at h
      rw [h t (by simp)]

theorem astepF_frame {P : Program} {Γ : Ctx} {ops : Array Oper} {N nt j : Nat} {o : Oper} {env env' : Nat → AT} {ob ob' : Nat → Option AObj} {x : Acc} (h : AStepF P Γ ops N nt j o env ob x)
    (ht : ∀ t ∈ x.rt, env' t = env t) (hn : ∀ n ∈ x.ro, ob' n = ob n) : AStepF P Γ ops N nt j o env' ob' x := by
  obtain ⟨hd, h⟩ := h
  refine ⟨hd, ?_⟩
  rcases h with ⟨hg, rfl⟩ | ⟨hg, h⟩
  · exact .inl ⟨by rw [guardA_ev ht]; exact hg, rfl⟩
  · refine .inr ?_
    rcases h with ⟨fz, r, hfz, hr, rfl⟩ | ⟨f, A, es, cargs, res, t, news, h1, h2, h3, h4, h5, rfl⟩
    · have hz : ∀ n ∈ fz, ob' n = ob n := fun n h1 => hn n (List.mem_append.2 (.inl h1))
      have hz2 : fz.map (frz ob') = fz.map (frz ob) := List.map_congr_left fun n h1 => by simp only [frz, hz n h1]
      refine ⟨by rw [guardA_ev fun t h1 => ht t (List.mem_append.2 (.inl h1))]; exact hg, .inl ⟨fz, r, fun n h1 => by rw [hz n h1]; exact hfz n h1, ?_, by rw [hz2]⟩⟩
      rw [aop_ev (aval_env fun t h1 => ht t (List.mem_append.2 (.inr h1))), hz2]
      refine aop_ob hr fun n h1 => ?_
      rw [updO_w _ ob', updO_w _ ob, hn n (List.mem_append.2 (.inr h1))]
    · refine ⟨by rw [guardA_ev fun t h1 => ht t (List.mem_append.2 (.inl h1))]; exact hg, .inr ⟨f, A, es, cargs, res, t, news, ?_, ?_, h3, h4, ?_, ?_⟩⟩
      · rw [callArgs_ev (aval_env fun t h1 => ht t (List.mem_append.2 (.inr h1)))]; exact h1
      · rw [convArgs_ob hn]; exact h2
      · rw [callOk_ob hn]; exact h5
      · rw [callUpd_ob hn]

section
variable {P : Program} {Γ : Ctx} {c : Base} {nt : Nat} {env : Nat → AT} {ob : Nat → Option AObj} {ρ : Where} {S : Nat → Prop} {a : Act} {w : World}

theorem guard_wanted (hr : Rel c nt env ob ρ S a w) {ops : Array Oper} {o : Oper} {b : Bool} (h : guardA ops env o = some b) : Region.wanted o (yielded ops a.tmps) = b := by
  unfold guardA at h
  unfold Region.wanted
  split at h
  · rename_i hg
    cases h
    simp [hg]
  · rename_i j want hg
    simp only [hg]
    split at h
    · rename_i hd
      cases h
      simp [yielded, hd]
    · rename_i t hd
      have he := hr.env t
      split at h
      · rename_i q e
        cases h
        rw [e] at he
        have hv := v_rep he
        have hget : a.tmps[t]? = some (.bool q) := by
          rw [Array.getD_eq_getD_getElem?] at hv
          cases hx : a.tmps[t]? with
          | none => rw [hx] at hv; simp [Go.undef] at hv
          | some y => rw [hx] at hv; simpa using hv
        simp [yielded, hd, hget]
      · rename_i e
        cases h
        rw [e] at he
        have hv : a.tmps.getD t Go.undef = Go.undef := he
        rw [Array.getD_eq_getD_getElem?] at hv
        cases hx : a.tmps[t]? with
        | none => simp [yielded, hd, hx]
        | some y =>
          rw [hx] at hv
          simp only [Option.getD_some] at hv
          subst hv
          simp [yielded, hd, hx, Go.undef]
      · cases h

theorem callArgs_op {ev : TypeId → Operand → AT} {o : Oper} {q : FuncId × List (Bool × List AV)} (h : callArgs ev o = some q) : ∃ cl, o.op = .call cl := by
  unfold callArgs at h
  split at h
  · exact ⟨_, by assumption⟩
  · cases h

theorem astepF_sound (hΓ : CtxOk P Γ) (hr : Rel c nt env ob ρ S a w) {ops : Array Oper} {N j : Nat} {o : Oper} {x : Acc} {ro : Option Nat} {n : Nat} (ho : ops[j]? = some o) (hf : ∀ n, N + 8 * j ≤ n → n < N + 8 * j + 8 → ρ n = none)
    (h : AStepF P Γ ops N nt j o env ob x) {K : Act → World → Prop} {Q : Exit → Act → World → Prop}
    (hK : ∀ a' w' ρ' S', Rel c nt (putF env x.dst x.out) (updO x.upd ob) ρ' S' a' w' → (∀ n, n < N + 8 * j ∨ N + 8 * j + 8 ≤ n → ρ' n = ρ n) → K a' w') : wpOpIn (wf ro) n P ops Q j K a w := by
  unfold wpOpIn
  simp only [ho]
  obtain ⟨hd, h⟩ := h
  rcases h with ⟨hg, rfl⟩ | ⟨hg, h⟩
  · rw [if_neg (by rw [guard_wanted hr hg]; simp)]
    exact ⟨fun _ _ => trivial, hK _ _ ρ S (hr.value hd rfl) fun _ _ => rfl⟩
  · rw [if_pos (guard_wanted hr hg)]
    rcases h with ⟨fz, r, hfz, hra, rfl⟩ | ⟨f, A, es, cargs, res, t, news, h1, h2, h3, h4, h5, rfl⟩
    · obtain ⟨S1, hr1⟩ := hr.freezeRows fz hfz
      refine Oper.wp_in (fun cl hcl => ?_) (Oper.wp_mono (fun a' w' ⟨ρ', S', h1, h2⟩ => hK a' w' ρ' S' (by rw [updO_append]; exact h1) h2) (op_sound hΓ hr1 hf hd hra Q))
      simp [aop, isX, aop0, hcl] at hra
    · refine Oper.wp_in (fun cl hcl => ?_) (Oper.wp_mono (fun a' w' ⟨ρ', S', h1, h2⟩ => hK a' w' ρ' S' h1 h2) (sound_call hr hf hd h1 h2 h3 h4 h5 Q))
      obtain ⟨cl', hcl'⟩ := callArgs_op h1
      rw [hcl] at hcl'; cases hcl'

end

/-! ### The order of the text -/

/-- Related, no object having been made from number N on. -/
def RelE (c : Base) (st : St) (N : Nat) (a : Act) (w : World) : Prop :=
  ∃ ρ S, Rel c st.nt (getE st.env) (getO st.objs) ρ S a w ∧ ∀ n, N ≤ n → ρ n = none

theorem apply_env (st : St) (x : Acc) : getE (st.apply x).env = putF (getE st.env) x.dst x.out := getE_put _ _ _
theorem apply_objs (st : St) (x : Acc) : getO (st.apply x).objs = updO x.upd (getO st.objs) := getO_upd _ _

section
variable {P : Program} {Γ : Ctx} {c : Base}

end

/-! ### Any order -/

def wT (t : Nat) (x : Acc) : Option AT := if x.dst = some t then some x.out else none
def wO (n : Nat) (x : Acc) : Option (Option AObj) := if n ∈ x.upd.map (·.1) then some (updO x.upd (fun _ => none) n) else none

def val {C : Type} (wr : Acc → Option C) : Nat → List Acc → (Nat → Bool) → C → C
  | _, [], _, cur => cur
  | i, x :: xs, D, cur => val wr (i + 1) xs D (if D i then (wr x).getD cur else cur)

theorem val_agree {C : Type} {wr : Acc → Option C} {j : Nat} {D : Nat → Bool} : ∀ (xs : List Acc) (i : Nat) (cur : C), (∀ (m : Nat) (x : Acc), xs[m]? = some x → (wr x).isSome = true → i + m < j → D (i + m) = true) →
    (∀ (m : Nat) (x : Acc), xs[m]? = some x → D (i + m) = true → j ≤ i + m → wr x = none) → val wr i xs D cur = val wr i xs (fun m => decide (m < j)) cur
  | [], _, _, _, _ => rfl
  | x :: xs, i, cur, h1, h2 => by
    simp only [val]
    have e : (if D i then (wr x).getD cur else cur) = (if decide (i < j) then (wr x).getD cur else cur) := by
      cases hw : wr x with
      | none => simp
      | some y =>
        by_cases hij : i < j
        · have := h1 0 x rfl (by simp [hw]) (by simpa using hij)
          simp only [Nat.add_zero] at this
          simp [this, hij]
        · have hD : D i = false := by
            cases hD : D i with
            | false => rfl
            | true =>
              have := h2 0 x rfl (by simpa using hD) (by omega)
              rw [hw] at this; cases this
          simp [hD, hij]
    rw [e]
    exact val_agree xs (i + 1) _ (fun m y hy hw hm => by have := h1 (m + 1) y (by simpa using hy) hw (by omega); rwa [show i + (m + 1) = i + 1 + m by omega] at this)
      (fun m y hy hD hm => h2 (m + 1) y (by simpa using hy) (by rwa [show i + (m + 1) = i + 1 + m by omega]) (by omega))

theorem val_none {C : Type} {wr : Acc → Option C} {D : Nat → Bool} : ∀ (xs : List Acc) (i : Nat) (cur : C), (∀ (m : Nat) (x : Acc), xs[m]? = some x → D (i + m) = true → wr x = none) → val wr i xs D cur = cur
  | [], _, _, _ => rfl
  | x :: xs, i, cur, h => by
    simp only [val]
    have e : (if D i then (wr x).getD cur else cur) = cur := by
      cases hD : D i with
      | false => simp
      | true => rw [h 0 x rfl (by simpa using hD)]; simp
    rw [e]
    exact val_none xs (i + 1) cur fun m y hy hD => h (m + 1) y (by simpa using hy) (by rwa [show i + (m + 1) = i + 1 + m by omega])

theorem val_congr {C : Type} {wr : Acc → Option C} {D D' : Nat → Bool} : ∀ (xs : List Acc) (i : Nat) (cur : C), (∀ m, i ≤ m → D m = D' m) → val wr i xs D cur = val wr i xs D' cur
  | [], _, _, _ => rfl
  | x :: xs, i, cur, h => by
    simp only [val, h i (Nat.le_refl _)]
    exact val_congr xs (i + 1) _ fun m hm => h m (by omega)

theorem val_add {C : Type} {wr : Acc → Option C} {D D' : Nat → Bool} {j : Nat} {y : Acc} (hj : D' j = true) (hj' : D j = false) (hD : ∀ m, m ≠ j → D' m = D m) : ∀ (xs : List Acc) (i : Nat) (cur : C), i ≤ j → xs[j - i]? = some y →
    (∀ (m : Nat) (x : Acc), xs[m]? = some x → D (i + m) = true → j < i + m → wr y = none ∨ wr x = none) → val wr i xs D' cur = (wr y).getD (val wr i xs D cur)
  | [], i, _, _, hy, _ => by simp at hy
  | x :: xs, i, cur, hij, hy, h => by
    simp only [val]
    by_cases hi : i = j
    · subst hi
      have hx : x = y := by simpa using hy
      subst hx
      have hc : ∀ cur, val wr (i + 1) xs D' cur = val wr (i + 1) xs D cur := fun cur => val_congr xs (i + 1) cur fun m hm => hD m (by omega)
      simp only [hj, hj', if_true, Bool.false_eq_true, if_false, hc]
      cases hw : wr x with
      | none => simp
      | some z =>
        simp only [Option.getD_some]
        refine val_none xs (i + 1) z fun m q hq hDm => ?_
        rcases h (m + 1) q (by simpa using hq) (by rwa [show i + (m + 1) = i + 1 + m by omega]) (by omega) with h1 | h1
        · rw [hw] at h1; cases h1
        · exact h1
    · rw [hD i hi]
      refine val_add hj hj' hD xs (i + 1) _ (by omega) ?_ (fun m q hq hDm hm => h (m + 1) q (by simpa using hq) (by rwa [show i + (m + 1) = i + 1 + m by omega]) (by omega))
      rw [show j - i = (j - (i + 1)) + 1 by omega] at hy
      simpa using hy

theorem putF_w (env : Nat → AT) (x : Acc) (t : Nat) : putF env x.dst x.out t = (wT t x).getD (env t) := by
  unfold putF wT
  split <;> rfl

theorem updO_wO (ob : Nat → Option AObj) (x : Acc) (n : Nat) : updO x.upd ob n = (wO n x).getD (ob n) := by
  rw [updO_w]
  unfold wO
  split <;> rfl

/-- What step x may do to what step y, later in the text, looks at or does. -/
def clash (x y : Acc) : Bool :=
  x.dst.toList.any (fun t => y.rt.contains t || y.dst == some t) || y.dst.toList.any (fun t => x.rt.contains t) ||
  (x.upd.map (·.1)).any (fun n => y.ro.contains n || (y.upd.map (·.1)).contains n) || (y.upd.map (·.1)).any (fun n => x.ro.contains n)

/-- Which operations surely come ahead of one, as bits. -/
def maskOf (ms : List Nat) (o : Oper) : Nat := o.after.toList.foldl (fun s e => if Region.binds .any e then s ||| 2 ^ e.on ||| ms.getD e.on 0 else s) 0

def masksFrom : List Nat → List Oper → List Nat
  | ms, [] => ms
  | ms, o :: r => masksFrom (ms ++ [maskOf ms o]) r

def backOk : Nat → List Oper → Bool
  | _, [] => true
  | i, o :: r => o.after.toList.all (fun e => !Region.binds .any e || decide (e.on < i)) && backOk (i + 1) r

def pairsOk (masks : List Nat) (xs : List Acc) : Bool :=
  (List.range xs.length).all fun j => (List.range j).all fun i => match xs[i]?, xs[j]? with
    | some x, some y => !clash x y || (masks.getD j 0).testBit i
    | _, _ => true

def drawOk (ops : List Oper) (xs : List Acc) : Bool := backOk 0 ops && pairsOk (masksFrom [] ops) xs

theorem testBit_foldl (ms : List Nat) (i : Nat) : ∀ (es : List Edge) (s : Nat), (es.foldl (fun s e => if Region.binds .any e then s ||| 2 ^ e.on ||| ms.getD e.on 0 else s) s).testBit i = true →
    s.testBit i = true ∨ ∃ e ∈ es, Region.binds .any e = true ∧ (i = e.on ∨ (ms.getD e.on 0).testBit i = true)
  | [], s, h => .inl h
  | e :: es, s, h => by
    simp only [List.foldl_cons] at h
    rcases testBit_foldl ms i es _ h with h1 | ⟨e', he', h1, h2⟩
    · split at h1
      · rename_i hb
        simp only [Nat.testBit_or, Bool.or_eq_true, Nat.testBit_two_pow, decide_eq_true_eq] at h1
        rcases h1 with (h1 | h1) | h1
        · exact .inl h1
        · exact .inr ⟨e, List.mem_cons_self .., hb, .inl h1.symm⟩
        · exact .inr ⟨e, List.mem_cons_self .., hb, .inr h1⟩
      · exact .inl h1
    · exact .inr ⟨e', List.mem_cons_of_mem _ he', h1, h2⟩

theorem masks_mem {ops : List Oper} {D : Nat → Bool} (hcl : ∀ (m : Nat) (o : Oper), ops[m]? = some o → D m = true → ∀ e ∈ o.after, Region.binds .any e = true → D e.on = true) :
    ∀ (rest : List Oper) (done : List Oper) (ms : List Nat), ops = done ++ rest → ms.length = done.length →
      (∀ m o, done[m]? = some o → ∀ i, (ms.getD m 0).testBit i = true → (∀ e ∈ o.after, Region.binds .any e = true → D e.on = true) → D i = true) →
      ∀ m o, ops[m]? = some o → ∀ i, ((masksFrom ms rest).getD m 0).testBit i = true → (∀ e ∈ o.after, Region.binds .any e = true → D e.on = true) → D i = true
  | [], done, ms, h1, h2, h3, m, o, hm, i, hi, he => by
    simp only [List.append_nil] at h1
    subst h1
    exact h3 m o hm i hi he
  | q :: rest, done, ms, h1, h2, h3, m, o, hm, i, hi, he => by
    refine masks_mem hcl rest (done ++ [q]) (ms ++ [maskOf ms q]) (by simp [h1]) (by simp [h2]) (fun m o hm i hi he => ?_) m o hm i hi he
    by_cases hl : m < done.length
    · rw [List.getElem?_append_left hl] at hm
      refine h3 m o hm i ?_ he
      rw [List.getD_eq_getElem?_getD, List.getElem?_append_left (by omega)] at hi
      rw [List.getD_eq_getElem?_getD]
      exact hi
    · have hml : m = done.length := by
        have := (List.getElem?_eq_some_iff.1 hm).1
        simp at this
        omega
      subst hml
      have hq : q = o := by simpa using hm
      subst hq
      have hmask : ((ms ++ [maskOf ms q]).getD done.length 0) = maskOf ms q := by
        rw [List.getD_eq_getElem?_getD, ← h2]
        simp
      rw [hmask] at hi
      rcases testBit_foldl ms i _ 0 hi with h4 | ⟨e, h4, h5, h6⟩
      · simp at h4
      · have hDe := he e (by simpa using h4) h5
        rcases h6 with rfl | h6
        · exact hDe
        · -- the edge's own operation lies among those that are done
          have hlt : e.on < ms.length := by
            rcases Nat.lt_or_ge e.on ms.length with h7 | h7
            · exact h7
            · rw [List.getD_eq_getElem?_getD, List.getElem?_eq_none h7] at h6
              simp at h6
          have hoo : done[e.on]? = some (done[e.on]'(by omega)) := List.getElem?_eq_getElem (by omega)
          have hops : ops[e.on]? = some (done[e.on]'(by omega)) := by
            rw [h1, List.getElem?_append_left (by omega)]; exact hoo
          exact h3 e.on _ hoo i h6 fun e' he' hb' => hcl e.on _ hops hDe e' he' hb'

theorem backOk_spec : ∀ (ops : List Oper) (i : Nat), backOk i ops = true → ∀ (m : Nat) (o : Oper), ops[m]? = some o → ∀ e ∈ o.after, Region.binds .any e = true → e.on < i + m
  | [], _, _, m, o, hm => by simp at hm
  | q :: ops, i, h, m, o, hm => by
    simp only [backOk, Bool.and_eq_true, List.all_eq_true, Bool.or_eq_true, Bool.not_eq_true', decide_eq_true_eq] at h
    cases m with
    | zero =>
      simp at hm
      subst hm
      intro e he hb
      rcases h.1 e (by simpa using he) with h1 | h1
      · rw [hb] at h1; cases h1
      · simpa using h1
    | succ m =>
      intro e he hb
      have := backOk_spec ops (i + 1) h.2 m o (by simpa using hm) e he hb
      omega

theorem pairsOk_spec {masks : List Nat} {xs : List Acc} (h : pairsOk masks xs = true) {i j : Nat} {x y : Acc} (hx : xs[i]? = some x) (hy : xs[j]? = some y) (hij : i < j) (hc : clash x y = true) : (masks.getD j 0).testBit i = true := by
  unfold pairsOk at h
  rw [List.all_eq_true] at h
  have h1 := h j (List.mem_range.2 (List.getElem?_eq_some_iff.1 hy).1)
  rw [List.all_eq_true] at h1
  have h2 := h1 i (List.mem_range.2 hij)
  simp only [hx, hy, hc, Bool.not_true, Bool.false_or] at h2
  exact h2

theorem arun_spec {P : Program} {Γ : Ctx} {ops : Array Oper} {N : Nat} {rest : List Oper} {j : Nat} {st st' : St} {xs : List Acc} (h : ARun P Γ ops N j rest st st' xs) : xs.length = rest.length ∧ st'.nt = st.nt ∧ st'.next = st.next ∧
    (∀ t, getE st'.env t = val (wT t) j xs (fun _ => true) (getE st.env t)) ∧ (∀ n, getO st'.objs n = val (wO n) j xs (fun _ => true) (getO st.objs n)) ∧
    ∀ (i : Nat) (o : Oper) (x : Acc), rest[i]? = some o → xs[i]? = some x → AStepF P Γ ops N st.nt (j + i) o (fun t => val (wT t) j xs (fun m => decide (m < j + i)) (getE st.env t)) (fun n => val (wO n) j xs (fun m => decide (m < j + i)) (getO st.objs n)) x := by
  induction h with
  | nil => exact ⟨rfl, rfl, rfl, fun _ => rfl, fun _ => rfl, fun i o x hi _ => by simp at hi⟩
  | env he _ ih =>
    simp only [he] at ih
    exact ih
  | @cons j o rest st st' x ys hx _ ih =>
    obtain ⟨h1, h2, h3, h4, h5, h6⟩ := ih
    have e1 : ∀ t, getE (st.apply x).env t = (wT t x).getD (getE st.env t) := fun t => by rw [apply_env, putF_w]
    have e2 : ∀ n, getO (st.apply x).objs n = (wO n x).getD (getO st.objs n) := fun n => by rw [apply_objs, updO_wO]
    refine ⟨by simp [h1], h2, h3, fun t => ?_, fun n => ?_, fun i o' x' ho' hx' => ?_⟩
    · rw [h4, e1]; simp [val]
    · rw [h5, e2]; simp [val]
    · cases i with
      | zero =>
        simp at ho' hx'
        subst ho'; subst hx'
        have f1 : (fun t => val (wT t) j (x :: ys) (fun m => decide (m < j + 0)) (getE st.env t)) = getE st.env := funext fun t => val_none _ _ _ fun m y _ hD => by simp at hD; omega
        have f2 : (fun n => val (wO n) j (x :: ys) (fun m => decide (m < j + 0)) (getO st.objs n)) = getO st.objs := funext fun n => val_none _ _ _ fun m y _ hD => by simp at hD; omega
        rw [f1, f2]
        exact hx
      | succ i =>
        have := h6 i o' x' (by simpa using ho') (by simpa using hx')
        rw [show j + (i + 1) = j + 1 + i by omega]
        have hlt : decide (j < j + 1 + i) = true := by simp; omega
        simp only [val, hlt, if_true]
        simp only [e1, e2] at this
        exact this

section
variable {P : Program} {Γ : Ctx} {c : Base}

theorem RelE.drew {st : St} {N : Nat} {a : Act} {w : World} (h : RelE c st N a w) (k : Nat) : RelE c st N a { w with drawn := k } := by
  obtain ⟨ρ, S, hr, hf⟩ := h
  refine ⟨ρ, S, ?_, hf⟩
  have h1 := hr.step (dst := none) (v := undef) (out := .junk) (w' := { w with drawn := k }) rfl (Grows.mk (fun _ _ h => h) (fun _ h => h) (fun _ _ => rfl)) trivial (fun _ _ hx => .inl ⟨hx, fun _ _ _ _ => ⟨rfl, id⟩⟩) rfl rfl rfl (Nat.le_refl _) (fun _ _ _ => rfl) hr.lim hr.foot
  have e : putF (getE st.env) none .junk = getE st.env := by funext n; simp [putF]
  rw [e] at h1
  exact h1

theorem count_set : ∀ (l : List Bool) (i : Nat), l[i]? = some false → ((l.set i true).filter (!·)).length + 1 = (l.filter (!·)).length
  | [], i, h => by simp at h
  | b :: l, 0, h => by
    simp at h
    subst h
    simp
  | b :: l, i + 1, h => by
    have := count_set l i (by simpa using h)
    cases b <;> simp <;> omega

theorem region_draw (hΓ : CtxOk P Γ) (hm : P.follows .mixedOrders = true) {id : Nat} {ops : Array Oper} {st st' : St} {xs : List Acc} {a : Act} {w : World} {Q : Exit → Act → World → Prop} {ro : Option Nat} {n : Nat} (h : ARun P Γ ops st.next 0 ops.toList st st' xs)
    (hok : drawOk ops.toList xs = true) (hr : RelE c st st.next a w) (hq : ∀ a' w', RelE c st' (st.next + 8 * ops.size) a' w' → Q .normal a' w') : (Code.region id ops true).wpIn (wf ro) n P Q a w := by
  simp only [drawOk, Bool.and_eq_true] at hok
  obtain ⟨hback, hpairs⟩ := hok
  obtain ⟨hlen, hnt, hnx, hT, hO, hstep⟩ := arun_spec h
  obtain ⟨N, hN⟩ : ∃ N, N = st.next := ⟨_, rfl⟩
  rw [← hN] at hr hq hstep
  let eD : (Nat → Bool) → Nat → AT := fun D t => val (wT t) 0 xs D (getE st.env t)
  let oD : (Nat → Bool) → Nat → Option AObj := fun D n => val (wO n) 0 xs D (getO st.objs n)
  have hback' : ∀ (m : Nat) (o : Oper), ops[m]? = some o → ∀ e ∈ o.after, Region.binds .any e = true → e.on < m := fun m o hm e he hb => by
    have := backOk_spec ops.toList 0 hback m o (by simpa using hm) e he hb
    omega
  have main : ∀ (fuel : Nat) (listed : Array Bool) (ρ : Where) (S : Nat → Prop) (a : Act) (w : World), listed.size = ops.size → (listed.toList.filter (!·)).length ≤ fuel →
      (∀ (m : Nat) (o : Oper), ops[m]? = some o → listed.getD m false = true → ∀ e ∈ o.after, Region.binds .any e = true → listed.getD e.on false = true) →
      Rel c st.nt (eD fun m => listed.getD m false) (oD fun m => listed.getD m false) ρ S a w → (∀ n, N + 8 * ops.size ≤ n → ρ n = none) →
      (∀ m, m < ops.size → listed.getD m false = false → ∀ n, N + 8 * m ≤ n → n < N + 8 * m + 8 → ρ n = none) → wpAnyIn (wf ro) n P .any ops Q fuel listed a w := by
    intro fuel
    -- when nothing is ready, all are listed
    have allDone : ∀ (listed : Array Bool), listed.size = ops.size → Region.ready .any ops listed = [] → ∀ m, m < ops.size → listed.getD m false = true := by
      intro listed hsz hempty
      intro m
      induction m using Nat.strongRecOn with
      | _ m ih =>
        intro hm
        cases hl : listed.getD m false with
        | true => rfl
        | false =>
          exfalso
          have ho : ops[m]? = some ops[m] := Array.getElem?_eq_getElem hm
          have : m ∈ Region.ready .any ops listed := by
            rw [mem_ready]
            refine ⟨?_, _, ho, fun e he hb => ?_⟩
            · rw [Array.getD_eq_getD_getElem?, Array.getElem?_eq_getElem (by omega)] at hl ⊢
              simpa using hl
            · have := hback' m _ ho e he hb
              exact ih e.on this (by omega)
          rw [hempty] at this
          cases this
    have finish : ∀ (listed : Array Bool) (ρ : Where) (S : Nat → Prop) (a : Act) (w : World), listed.size = ops.size → (∀ m, m < ops.size → listed.getD m false = true) →
        Rel c st.nt (eD fun m => listed.getD m false) (oD fun m => listed.getD m false) ρ S a w → (∀ n, N + 8 * ops.size ≤ n → ρ n = none) → Q .normal a w := by
      intro listed ρ S a w hsz hall hrel hfr
      refine hq a w ⟨ρ, S, ?_, hfr⟩
      have hxl : ∀ (m : Nat) (x : Acc), xs[m]? = some x → m < ops.size := fun m x hx => by
        have := (List.getElem?_eq_some_iff.1 hx).1
        rw [hlen] at this
        simpa using this
      have e1 : (eD fun m => listed.getD m false) = getE st'.env := by
        funext t
        rw [hT t]
        have q1 := val_agree (wr := wT t) (j := ops.size) (D := fun m => listed.getD m false) xs 0 (getE st.env t) (fun m x hx _ _ => by simpa using hall m (hxl m x hx)) (fun m x hx _ hm => absurd (hxl m x hx) (by omega))
        have q2 := val_agree (wr := wT t) (j := ops.size) (D := fun _ => true) xs 0 (getE st.env t) (fun m x hx _ _ => rfl) (fun m x hx _ hm => absurd (hxl m x hx) (by omega))
        exact q1.trans q2.symm
      have e2 : (oD fun m => listed.getD m false) = getO st'.objs := by
        funext n
        rw [hO n]
        have q1 := val_agree (wr := wO n) (j := ops.size) (D := fun m => listed.getD m false) xs 0 (getO st.objs n) (fun m x hx _ _ => by simpa using hall m (hxl m x hx)) (fun m x hx _ hm => absurd (hxl m x hx) (by omega))
        have q2 := val_agree (wr := wO n) (j := ops.size) (D := fun _ => true) xs 0 (getO st.objs n) (fun m x hx _ _ => rfl) (fun m x hx _ hm => absurd (hxl m x hx) (by omega))
        exact q1.trans q2.symm
      rw [hnt, ← e1, ← e2]
      exact hrel
    induction fuel with
    | zero =>
      intro listed ρ S a w hsz hcnt hcl hrel hfr hfresh
      have hall : ∀ m, m < ops.size → listed.getD m false = true := by
        intro m hm
        cases hl : listed.getD m false with
        | true => rfl
        | false =>
          exfalso
          have h0 : listed[m]? = some listed[m] := Array.getElem?_eq_getElem (by omega)
          rw [Array.getD_eq_getD_getElem?, h0] at hl
          simp only [Option.getD_some] at hl
          have : false ∈ listed.toList.filter (!·) := List.mem_filter.2 ⟨by rw [← hl]; simp, rfl⟩
          have h1 : listed.toList.filter (!·) = [] := List.length_eq_zero_iff.1 (by omega)
          rw [h1] at this
          cases this
      refine ⟨?_, finish listed ρ S a w hsz hall hrel hfr⟩
      cases hrd : Region.ready .any ops listed with
      | nil => rfl
      | cons j js =>
        exfalso
        have : j ∈ Region.ready .any ops listed := by rw [hrd]; exact List.mem_cons_self ..
        obtain ⟨h1, o, h2, _⟩ := mem_ready.1 this
        have hj : j < ops.size := (Array.getElem?_eq_some_iff.1 h2).1
        have := hall j hj
        rw [Array.getD_eq_getD_getElem?, Array.getElem?_eq_getElem (by omega)] at h1 this
        simp at h1 this
        rw [h1] at this; cases this
    | succ fuel ih =>
      intro listed ρ S a w hsz hcnt hcl hrel hfr hfresh
      refine ⟨fun hempty => finish listed ρ S a w hsz (allDone listed hsz hempty) hrel hfr, fun j hj => ?_⟩
      obtain ⟨hj1, o, hjo, hjall⟩ := mem_ready.1 hj
      have hjs : j < ops.size := (Array.getElem?_eq_some_iff.1 hjo).1
      have hjl : listed.getD j false = false := by
        rw [Array.getD_eq_getD_getElem?, Array.getElem?_eq_getElem (by omega)] at hj1 ⊢
        simpa using hj1
      obtain ⟨D, hD⟩ : ∃ D : Nat → Bool, D = fun m => listed.getD m false := ⟨_, rfl⟩
      have hDj : D j = false := by rw [hD]; exact hjl
      have hxj : xs[j]? = some (xs[j]'(by rw [hlen]; simpa using hjs)) := List.getElem?_eq_getElem _
      generalize hx : xs[j]'(by rw [hlen]; simpa using hjs) = x at hxj
      have hjo' : ops.toList[j]? = some o := by simpa using hjo
      have hclD : ∀ (m : Nat) (o : Oper), ops.toList[m]? = some o → D m = true → ∀ e ∈ o.after, Region.binds .any e = true → D e.on = true := by
        rw [hD]; exact fun m o hm => hcl m o (by simpa using hm)
      -- what clashes with j and stands ahead of it is listed; what stands behind it is not
      have ahead : ∀ (m : Nat) (y : Acc), xs[m]? = some y → m < j → clash y x = true → D m = true := fun m y hy hmj hc =>
        masks_mem hclD ops.toList [] [] (by simp) rfl (fun m o hm => by simp at hm) j o hjo' m (pairsOk_spec hpairs hy hxj hmj hc) (by rw [hD]; exact hjall)
      have behind : ∀ (m : Nat) (y : Acc), xs[m]? = some y → j < m → D m = true → clash x y = false := fun m y hy hmj hDm => by
        cases hc : clash x y with
        | false => rfl
        | true =>
          have hml : m < ops.toList.length := by rw [← hlen]; exact (List.getElem?_eq_some_iff.1 hy).1
          have hmo : ops.toList[m]? = some ops.toList[m] := List.getElem?_eq_getElem hml
          have := masks_mem hclD ops.toList [] [] (by simp) rfl (fun m o hm => by simp at hm) m _ hmo j (pairsOk_spec hpairs hxj hy hmj hc) (hclD m _ hmo hDm)
          rw [hDj] at this; cases this
      have hs := hstep j o x hjo' hxj
      simp only [Nat.zero_add] at hs
      have hs' : AStepF P Γ ops N st.nt j o (eD D) (oD D) x := by
        refine astepF_frame hs (fun t ht => ?_) (fun n hn => ?_)
        · refine val_agree (j := j) xs 0 _ (fun m y hy hw hm => ?_) (fun m y hy hDm hm => ?_)
          · simp only [Nat.zero_add] at hm ⊢
            refine ahead m y hy hm ?_
            unfold wT at hw
            split at hw
            · rename_i hd
              simp [clash, hd, ht]
            · cases hw
          · simp only [Nat.zero_add] at hDm hm
            unfold wT
            split
            · rename_i hd
              have hne : m ≠ j := fun e => by subst e; rw [hDj] at hDm; cases hDm
              have := behind m y hy (by omega) hDm
              simp [clash, hd, ht] at this
            · rfl
        · refine val_agree (j := j) xs 0 _ (fun m y hy hw hm => ?_) (fun m y hy hDm hm => ?_)
          · simp only [Nat.zero_add] at hm ⊢
            refine ahead m y hy hm ?_
            unfold wO at hw
            split at hw
            · rename_i hd
              have hd' : (y.upd.map (·.1)).any (fun n => x.ro.contains n || (x.upd.map (·.1)).contains n) = true := List.any_eq_true.2 ⟨n, hd, by simp [hn]⟩
              simp only [clash, hd', Bool.or_true, Bool.true_or]
            · cases hw
          · simp only [Nat.zero_add] at hDm hm
            unfold wO
            split
            · rename_i hd
              have hne : m ≠ j := fun e => by subst e; rw [hDj] at hDm; cases hDm
              have := behind m y hy (by omega) hDm
              have hd' : (y.upd.map (·.1)).any (fun n => x.ro.contains n) = true := List.any_eq_true.2 ⟨n, hd, by simp [hn]⟩
              simp only [clash, hd', Bool.or_true] at this
              cases this
            · rfl
      have hrel' : Rel c st.nt (eD D) (oD D) ρ S a w := by rw [hD]; exact hrel
      refine astepF_sound hΓ hrel' hjo (hfresh j hjs hjl) hs' (fun a' w' ρ' S' h1 h2 => ?_)
      have hset : ∀ m, (listed.setIfInBounds j true).getD m false = if m = j then true else D m := fun m => by
        rw [hD]
        by_cases hmj : m = j
        · subst hmj
          simp [Array.getD_eq_getD_getElem?, hsz, hjs]
        · rw [if_neg hmj]
          exact getD_set_ne false (Ne.symm hmj)
      refine ih (listed.setIfInBounds j true) ρ' S' a' w' (by simp [hsz]) ?_ (fun m q hm hml e he hb => ?_) ?_ (fun n hn => by rw [h2 n (by omega)]; exact hfr n hn) (fun m hm hml n hn1 hn2 => ?_)
      · have := count_set listed.toList j (by
          have h0 : listed[j]? = some listed[j] := Array.getElem?_eq_getElem (by omega)
          rw [Array.getD_eq_getD_getElem?, h0] at hjl
          simp only [Option.getD_some] at hjl
          rw [Array.getElem?_toList, h0, hjl])
        simp only [Array.toList_setIfInBounds]
        omega
      · rw [hset]
        rw [hset] at hml
        split
        · rfl
        · rw [hD]
          split at hml
          · rename_i e0
            subst e0
            rw [hjo] at hm; cases hm
            exact hjall e he hb
          · rw [hD] at hml
            exact hcl m q hm hml e he hb
      · have e1 : (eD fun m => (listed.setIfInBounds j true).getD m false) = putF (eD D) x.dst x.out := by
          funext t
          rw [putF_w]
          refine val_add (j := j) (y := x) (by rw [hset]; simp) hDj (fun m hm => by rw [hset, if_neg hm]) xs 0 _ (by omega) (by simpa using hxj) (fun m y hy hDm hm => ?_)
          simp only [Nat.zero_add] at hDm hm
          have := behind m y hy hm hDm
          unfold wT
          by_cases h3 : x.dst = some t
          · right
            rw [if_neg]
            intro h4
            simp [clash, h3, h4] at this
          · left
            rw [if_neg h3]
        have e2 : (oD fun m => (listed.setIfInBounds j true).getD m false) = updO x.upd (oD D) := by
          funext n
          rw [updO_wO]
          refine val_add (j := j) (y := x) (by rw [hset]; simp) hDj (fun m hm => by rw [hset, if_neg hm]) xs 0 _ (by omega) (by simpa using hxj) (fun m y hy hDm hm => ?_)
          simp only [Nat.zero_add] at hDm hm
          have := behind m y hy hm hDm
          unfold wO
          by_cases h3 : n ∈ x.upd.map (·.1)
          · right
            rw [if_neg]
            intro h4
            have hd' : (x.upd.map (·.1)).any (fun n => y.ro.contains n || (y.upd.map (·.1)).contains n) = true := List.any_eq_true.2 ⟨n, h3, by rw [List.contains_iff_mem.2 h4]; simp⟩
            simp only [clash, hd', Bool.or_true, Bool.true_or] at this
            cases this
          · left
            rw [if_neg h3]
        rw [e1, e2]
        exact h1
      · rw [hset] at hml
        split at hml
        · cases hml
        · rename_i hmj
          rw [h2 n (by omega)]
          rw [hD] at hml
          exact hfresh m hm hml n hn1 hn2
  refine wpIn_region_any hm ?_
  obtain ⟨ρ, S, hrel, hfr⟩ := hr.drew (w.drawn + 1)
  have hnone : ∀ m, (Array.replicate ops.size false).getD m false = false := fun m => by
    rw [Array.getD_eq_getD_getElem?, Array.getElem?_replicate]
    split <;> rfl
  refine main ops.size (Array.replicate ops.size false) ρ S a _ (by simp) ?_ (fun m o _ hl => by rw [hnone] at hl; cases hl) ?_ (fun n hn => hfr n (by omega)) (fun m _ _ n hn _ => hfr n (by omega))
  · refine Nat.le_trans (List.length_filter_le _ _) (by simp)
  · have e1 : (eD fun m => (Array.replicate ops.size false).getD m false) = getE st.env := funext fun t => val_none _ _ _ fun m y _ hDm => by rw [hnone] at hDm; cases hDm
    have e2 : (oD fun m => (Array.replicate ops.size false).getD m false) = getO st.objs := funext fun n => val_none _ _ _ fun m y _ hDm => by rw [hnone] at hDm; cases hDm
    rw [e1, e2]
    exact hrel

end
end Go.Eng
