/- A range over a function: the statement. -/
import Derived.Test.YtfgejhlgenaniaaDoorEngQ
import Derived.RangeFuncIn
import Derived.RangeFuncRecord
namespace Go.Eng

/-! ### What names no object of a list -/

def frC (fr : List Nat) : CapV → Bool
  | .ptr o _ => !fr.contains o
  | .d _ => true
def frA (fr : List Nat) : AV → Bool
  | .ptr o _ | .own o | .eptr o .. | .win o .. | .wx o .. | .yld o | .vsl o _ => !fr.contains o
  | .clo _ ks => ks.all (frC fr)
  | .d _ | .nils _ => true
def frT (fr : List Nat) : AT → Bool
  | .cs _ xs => xs.all (frA fr)
  | .tup ts => ts.all fun t => t.2.all (frA fr)
  | _ => true

section
variable {ρ ρ' : Where} {w w' : World} {S S' : Nat → Prop} {fr : List Nat}

/-- Grown, but for the objects of fr. -/
structure GrowsF (fr : List Nat) (ρ ρ' : Where) (w w' : World) (S S' : Nat → Prop) : Prop where
  rho : ∀ o h, o ∉ fr → ρ o = some h → ρ' o = some h
  sub : ∀ b, S b → S' b
  keeps : Keeps S w w'

theorem notIn {o : Nat} (h : (!fr.contains o) = true) : o ∉ fr := by simpa using h

theorem RepCap.growsF (g : GrowsF fr ρ ρ' w w' S S') {x : CapV} {u : Value} (hx : frC fr x = true) (h : RepCap ρ w S x u) : RepCap ρ' w' S' x u := by
  cases x with
  | d y => exact Rep.mono g.sub g.keeps h
  | ptr o off => obtain ⟨b, h1, h2⟩ := h; exact ⟨b, g.rho _ _ (notIn hx) h1, h2⟩

theorem RepAV.growsF (g : GrowsF fr ρ ρ' w w' S S') {x : AV} {u : Value} (hx : frA fr x = true) (h : RepAV ρ w S x u) : RepAV ρ' w' S' x u := by
  cases x with
  | d y => exact Rep.mono g.sub g.keeps h
  | nils _ => exact h
  | ptr o off => obtain ⟨b, h1, h2⟩ := h; exact ⟨b, g.rho _ _ (notIn hx) h1, h2⟩
  | own o => obtain ⟨h1, h2⟩ := h; exact ⟨g.rho _ _ (notIn hx) h1, h2⟩
  | eptr o k i j => obtain ⟨b, n, c, h1, h2⟩ := h; exact ⟨b, n, c, g.rho _ _ (notIn hx) h1, h2⟩
  | win o k lo n => obtain ⟨A, m, c, A', h1, h2⟩ := h; exact ⟨A, m, c, A', g.rho _ _ (notIn hx) h1, h2⟩
  | wx o k lo n => obtain ⟨A, c, A', h1, h2⟩ := h; exact ⟨A, c, A', g.rho _ _ (notIn hx) h1, h2⟩
  | yld o => obtain ⟨b, h1, h2⟩ := h; exact ⟨b, g.rho _ _ (notIn hx) h1, h2⟩
  | vsl o m => obtain ⟨b, h1, h2⟩ := h; exact ⟨b, g.rho _ _ (notIn hx) h1, h2⟩
  | clo f caps =>
    obtain ⟨vs, h1, h2⟩ := h
    refine ⟨vs, h1, ?_⟩
    clear h1
    simp only [frA, List.all_eq_true] at hx
    induction h2 with
    | nil => exact .nil
    | @cons y v ys us h3 _ ih => exact .cons (h3.growsF g (hx y (List.mem_cons_self ..))) (ih fun z hz => hx z (List.mem_cons_of_mem _ hz))

theorem RepAVs.growsF (g : GrowsF fr ρ ρ' w w' S S') : ∀ {xs : List AV} {us : List Value}, xs.all (frA fr) = true → All2 (RepAV ρ w S) xs us → All2 (RepAV ρ' w' S') xs us
  | [], _, _, h => by cases h; exact .nil
  | x :: xs, _, hx, h => by
    simp only [List.all_cons, Bool.and_eq_true] at hx
    cases h with
    | cons h1 h2 => exact .cons (h1.growsF g hx.1) (RepAVs.growsF g hx.2 h2)

theorem RepC.growsF (g : GrowsF fr ρ ρ' w w' S S') {b : Bool} {xs : List AV} {u : Value} (hx : xs.all (frA fr) = true) (h : RepC ρ w S b xs u) : RepC ρ' w' S' b xs u := by
  cases b with
  | true => obtain ⟨us, h1, h2⟩ := h; exact ⟨us, h1, RepAVs.growsF g hx h2⟩
  | false =>
    obtain ⟨x, rfl, h2⟩ := h
    exact ⟨x, rfl, h2.growsF g (by simpa using hx)⟩

theorem RepT.growsF (g : GrowsF fr ρ ρ' w w' S S') {t : AT} {u : Value} (hx : frT fr t = true) (h : RepT ρ w S t u) : RepT ρ' w' S' t u := by
  cases t with
  | junk => trivial
  | undef => exact h
  | cs b xs => exact RepC.growsF g hx h
  | tup ts =>
    obtain ⟨vs, e, h⟩ := h
    refine ⟨vs, e, ?_⟩
    clear e
    simp only [frT] at hx
    induction ts generalizing vs with
    | nil => cases h; exact .nil
    | cons t ts ih =>
      simp only [List.all_cons, Bool.and_eq_true] at hx
      cases h with
      | cons h1 h2 => exact .cons (RepC.growsF g hx.1 h1) (ih hx.2 _ h2)
end

/-! ### A stretch that keeps all in place but for some -/

def reBaseF (fr : List Nat) (ob : Nat → Option AObj) (ρ : Where) (S : Nat → Prop) (w : World) (n : Nat) : Base :=
  ⟨w, S, fun b => ¬ S b ∧ ∃ o x h, ob o = some x ∧ ρ o = some h ∧ blkOf h = some b, fun o => if o < n ∧ o ∉ fr then ρ o else none⟩

theorem rebaseF_in {c : Base} {nt : Nat} {env : Nat → AT} {ob : Nat → Option AObj} {ρ : Where} {S : Nat → Prop} {a a' : Act} {w : World} (hr : Rel c nt env ob ρ S a w) {nt' : Nat} {env' : Nat → AT} (fr : List Nat) (n : Nat)
    (hd : a'.defers = []) (hs : a'.tmps.size = nt') (he : ∀ t, RepT ρ w S (env' t) (a'.tmps.getD t Go.undef)) : Rel (reBaseF fr ob ρ S w n) nt' env' ob ρ S a' w :=
  have r := rebase_in hr n hd hs he
  have hp : ∀ o h, (reBaseF fr ob ρ S w n).R o = some h → ρ o = some h := fun o h hh => by
    simp only [reBaseF] at hh
    split at hh
    · exact hh
    · cases hh
  ⟨r.defers, r.size, r.env, r.obj, r.sep, r.place, r.os, r.tape, r.output, r.hsize, r.same, r.lim, r.sub, r.foot, hp, r.clim⟩

theorem rebaseF_out {c : Base} {nt : Nat} {env : Nat → AT} {ob : Nat → Option AObj} {ρ : Where} {S : Nat → Prop} {a : Act} {w : World} (hr : Rel c nt env ob ρ S a w) {fr : List Nat} {n : Nat} (hfr : ∀ o h, ρ o = some h → o < n) (hcR : ∀ o h, c.R o = some h → o ∉ fr)
    {nt' nt2 : Nat} {env' env2 : Nat → AT} {ob' : Nat → Option AObj} {ρ' : Where} {S' : Nat → Prop} {a' a2 : Act} {w' : World}
    (hr' : Rel (reBaseF fr ob ρ S w n) nt' env' ob' ρ' S' a' w') (hd : a2.defers = a.defers) (hs : a2.tmps.size = nt2) (he : GrowsF fr ρ ρ' w w' S S' → ∀ t, RepT ρ' w' S' (env2 t) (a2.tmps.getD t Go.undef)) : Rel c nt2 env2 ob' ρ' S' a2 w' := by
  have hpin : ∀ o h, o ∉ fr → ρ o = some h → ρ' o = some h := fun o h ho hh => hr'.pin o h (by simp only [reBaseF]; rw [if_pos ⟨hfr o h hh, ho⟩]; exact hh)
  have hkeep : Keeps S w w' := fun b hb => hr'.same b (hr.lim b hb) (fun h => h.1 hb)
  have hB : ∀ b, (reBaseF fr ob ρ S w n).B b → c.W.heap.size ≤ b ∨ c.B b := fun b ⟨hS, o, x, h, hx, hh, hb⟩ => (hr.place o x h b hx hh hb).resolve_right hS
  have hsub : ∀ b, S b → S' b := hr'.sub
  refine ⟨?_, hs, he ⟨hpin, hsub, hkeep⟩, hr'.obj, hr'.sep, fun o x h b hx hh hb => ?_, hr'.os.trans hr.os, hr'.tape.trans hr.tape, hr'.output.trans hr.output, Nat.le_trans hr.hsize hr'.hsize, fun b h1 h2 => ?_, hr'.lim, fun b hb => hsub b (hr.sub b hb), fun b hb => ?_, fun o h hh => ?_, hr.clim⟩
  · obtain ⟨Ds, h1, h2, h3⟩ := hr.defers
    exact ⟨Ds, by rw [hd]; exact h1, h2, fun D hD => ⟨hsub _ (h3 D hD).1, (h3 D hD).2.1, (hkeep _ (h3 D hD).1).trans (h3 D hD).2.2⟩⟩
  · rcases hr'.place o x h b hx hh hb with (h1 | h1) | h1
    · exact .inl (.inl (Nat.le_trans hr.hsize h1))
    · exact .inl (hB b h1)
    · exact .inr h1
  · refine (hr'.same b (Nat.lt_of_lt_of_le h1 hr.hsize) fun h => ?_).trans (hr.same b h1 h2)
    rcases hB b h with h3 | h3
    · omega
    · exact h2 h3
  · rcases hr'.foot b hb with h1 | h1 | h1
    · exact hr.foot b h1
    · exact .inr (hB b h1).symm
    · exact .inr (.inr (Nat.le_trans hr.hsize h1))
  · exact hpin o h (hcR o h hh) (hr.pin o h hh)

/-! ### The function that is ranged over -/

/-- A function value: the function, what it captured. -/
def calleeA : AT → Option (FuncId × List (Bool × List AV))
  | .cs false [.d (.fn f caps)] => some (f, caps.map fun d => (false, [.d d]))
  | .cs false [.clo f caps] => some (f, caps.map capA)
  | _ => none

theorem callee_rep {ρ : Where} {w : World} {S : Nat → Prop} {t : AT} {v : Value} {f : FuncId} {A : List (Bool × List AV)} (h : calleeA t = some (f, A)) (hv : RepT ρ w S t v) :
    ∃ vs : Array Value, v = .func (.func f) #[] vs ∧ All2 (fun t u => RepC ρ w S t.1 t.2 u) A vs.toList := by
  unfold calleeA at h
  split at h
  · rename_i f' caps
    simp only [Option.some.injEq, Prod.mk.injEq] at h
    obtain ⟨rfl, rfl⟩ := h
    obtain ⟨x, e, hx⟩ := hv
    cases e
    obtain ⟨vs, rfl, hvl, hvs⟩ := fn_val hx
    refine ⟨vs, rfl, All2.of_get (by simp [hvl]) fun i x y hx hy => ?_⟩
    simp only [List.getElem?_map, Option.map_eq_some_iff] at hx
    obtain ⟨d, hd, rfl⟩ := hx
    exact ⟨_, rfl, hvs i d y hd (by simpa using hy)⟩
  · rename_i f' caps
    simp only [Option.some.injEq, Prod.mk.injEq] at h
    obtain ⟨rfl, rfl⟩ := h
    obtain ⟨x, e, hx⟩ := hv
    cases e
    obtain ⟨vs, rfl, hvs⟩ := hx
    refine ⟨vs.toArray, rfl, ?_⟩
    simp only
    induction hvs with
    | nil => exact .nil
    | @cons x u xs us h1 _ ih =>
      refine .cons ?_ ih
      cases x with
      | d y => exact ⟨_, rfl, h1⟩
      | ptr oo off => exact ⟨_, rfl, h1⟩
  · cases h

/-! ### The loop's record -/

section
variable {P : Program} {c : Base} {nt : Nat} {env : Nat → AT} {ob : Nat → Option AObj} {ρ : Where} {S : Nat → Prop} {a : Act} {w : World}

/-- The block of a record turns. -/
theorem Rel.putLp (hr : Rel c nt env ob ρ S a w) {o g : Nat} {L : Lp} (hob : ob o = some (.lp L)) (hρ : ρ o = some (.pointer (some ⟨g, 0, none⟩))) (hS : ¬ S g) {b2 : Obj} {x : Option AObj}
    (hx : ∀ y, x = some y → Grows ρ ρ w (w.putObj g b2) S S → ObjRep ρ (w.putObj g b2) S (.pointer (some ⟨g, 0, none⟩)) y) : Rel c nt env (updO [(o, x)] ob) ρ S a (w.putObj g b2) := by
  have hk : Keeps S w (w.putObj g b2) := fun b hb => World.putObj_heap_other fun e => hS (e ▸ hb)
  have hg : Grows ρ ρ w (w.putObj g b2) S S := ⟨fun _ _ h => h, fun _ h => h, hk⟩
  have h1 := hr.step (dst := none) (v := undef) (out := .junk) (ob' := updO [(o, x)] ob) (w' := w.putObj g b2) (S' := S) (ρ' := ρ) rfl hg trivial
    (fun n y hy => by
      simp only [updO] at hy
      split at hy
      · rename_i e
        subst e
        refine .inr ⟨_, hρ, hx y hy hg, fun b hb => ⟨hr.place _ _ _ _ hob hρ hb, fun o2 x2 h2 hx2 hh2 hb2 => ?_⟩⟩
        simp only [updO] at hx2
        split at hx2
        · assumption
        · exact hr.sep _ _ _ _ _ _ b hx2 hob hh2 hρ hb2 hb
      · rename_i e
        refine .inl ⟨hy, fun hh b h1 h2 => ⟨World.putObj_heap_other fun eb => ?_, id⟩⟩
        subst eb
        exact absurd (hr.sep _ _ _ _ _ _ b hy hob h1 hρ h2 rfl) e) rfl rfl rfl (by simp)
    (fun b h1 h2 => World.putObj_heap_other fun eb => by
      subst eb
      rcases hr.place _ _ _ b hob hρ rfl with (h3 | h3) | h3
      · omega
      · exact h2 h3
      · exact hS h3)
    (fun b hb => by simpa using hr.lim b hb) hr.foot
  have e1 : putF env none .junk = env := by funext n; simp [putF]
  rw [e1] at h1
  exact h1

/-- What is known of a record. -/
theorem Rel.lp (hr : Rel c nt env ob ρ S a w) {o : Nat} {L : Lp} (hob : ob o = some (.lp L)) :
    ∃ g fn tmps D, ρ o = some (.pointer (some ⟨g, 0, none⟩)) ∧ w.heap[g]? = some (.loop { state := L.st.state, pending := L.st.pending, fn := fn, tmps := tmps, params := L.ps, assign := L.assign, body := L.body, defers := D }) ∧
      tmps.size = L.nt ∧ (∀ t, RepT ρ w S (getE L.env t) (tmps.getD t Go.undef)) ∧
      (∀ s : LSt, Rel c nt env (updO [(o, some (.lp { L with st := s }))] ob) ρ S a (w.putObj g (.loop { state := s.state, pending := s.pending, fn := fn, tmps := tmps, params := L.ps, assign := L.assign, body := L.body, defers := D }))) ∧
      ∀ b2 : Obj, Rel c nt env (updO [(o, none)] ob) ρ S a (w.putObj g b2) := by
  obtain ⟨h, hρ, g, rfl, ⟨fn, tmps, D, q1, q2, q3⟩, q4⟩ := hr.obj o _ hob
  have hlt : g < w.heap.size := (Array.getElem?_eq_some_iff.1 q1).1
  exact ⟨g, fn, tmps, D, hρ, q1, q2, q3, fun s => hr.putLp hob hρ q4 fun y hy hg => by
    cases hy
    exact ⟨g, rfl, ⟨fn, tmps, D, World.putObj_heap_same hlt, q2, fun t => (q3 t).grows hg⟩, q4⟩, fun b2 => hr.putLp hob hρ q4 fun y hy => by cases hy⟩

/-- A record is laid: the mark's block, the record behind it. -/
theorem Rel.newLp (hr : Rel c nt env ob ρ S a w) {N : Nat} (hN : ρ N = none) {env' : List (Nat × AT)} (hsub : ∀ t, getE env' t = .junk ∨ getE env' t = env t) (fn : FuncId) (ps : Array Tmp) (assign body : Code) :
    ∃ ρ' S', (∀ n, n ≠ N → ρ' n = ρ n) ∧ ρ' N = some (.pointer (some ⟨w.heap.size + 1, 0, none⟩)) ∧
      Grows ρ ρ' w ((w.alloc (.deferred (some []))).alloc (.loop { state := .ready, pending := none, fn, tmps := a.tmps, params := ps, assign, body, defers := w.heap.size })) S S' ∧
      Rel c nt env (updO [(N, some (.lp ⟨nt, env', ps, assign, body, .ready⟩))] ob) ρ' S' { a with defers := markOf w.heap.size :: a.defers }
        ((w.alloc (.deferred (some []))).alloc (.loop { state := .ready, pending := none, fn, tmps := a.tmps, params := ps, assign, body, defers := w.heap.size })) := by
  let w0 := w.alloc (.deferred (some []))
  let S' : Nat → Prop := fun b => S b ∨ b = w.heap.size
  have hk0 : Keeps S w w0 := fun b hb => RowKit.Below.heap_alloc w _ b (hr.lim b hb)
  have hg0 : Grows ρ ρ w w0 S S' := ⟨fun _ _ h => h, fun _ h => .inl h, hk0⟩
  have hsz := hr.hsize
  have h1 := hr.step (dst := none) (v := undef) (out := .junk) (ob' := ob) (w' := w0) (S' := S') (ρ' := ρ) rfl hg0 trivial
    (fun n y hy => .inl ⟨hy, fun hh b h1 h2 => by
      have hb := blk_lt hr hy h1 h2
      exact ⟨RowKit.Below.heap_alloc w _ b hb, fun h3 => h3.resolve_right (by omega)⟩⟩) rfl rfl rfl (by simp [w0])
    (fun b hb _ => RowKit.Below.heap_alloc w _ b (by omega))
    (fun b hb => by
      rcases hb with hb | hb
      · have := hr.lim b hb; simp [w0]; omega
      · simp [w0, hb])
    (fun b hb => by
      rcases hb with hb | hb
      · exact hr.foot b hb
      · exact .inr (.inr (by omega)))
  have e1 : putF env none .junk = env := by funext n; simp [putF]
  rw [e1] at h1
  have hD : w0.heap[w.heap.size]? = some (.deferred (some [])) := World.alloc_heap_new w _
  -- the mark
  have h2 : Rel c nt env ob ρ S' { a with defers := markOf w.heap.size :: a.defers } w0 := by
    refine ⟨?_, h1.size, h1.env, h1.obj, h1.sep, h1.place, h1.os, h1.tape, h1.output, h1.hsize, h1.same, h1.lim, h1.sub, h1.foot, h1.pin, h1.clim⟩
    obtain ⟨Ds, d1, d2, d3⟩ := hr.defers
    refine ⟨w.heap.size :: Ds, by simp [d1], List.nodup_cons.2 ⟨fun hm => ?_, d2⟩, fun D hm => ?_⟩
    · have := hr.lim _ (d3 _ hm).1; omega
    · rcases List.mem_cons.1 hm with rfl | hm
      · exact ⟨.inr rfl, hsz, hD⟩
      · obtain ⟨q1, q2, q3⟩ := d3 D hm
        exact ⟨.inl q1, q2, (hk0 D q1).trans q3⟩
  have hw0 : w0.heap.size = w.heap.size + 1 := by simp [w0]
  obtain ⟨ρ', r1, hN2, r2⟩ := h2.newAt (N := N) (x := .lp ⟨nt, env', ps, assign, body, .ready⟩) (h := .pointer (some ⟨w.heap.size + 1, 0, none⟩)) (v := undef) (out := .junk) (dst := none)
    (o := .loop { state := .ready, pending := none, fn, tmps := a.tmps, params := ps, assign, body, defers := w.heap.size }) rfl hN (.inl (by simp [blkOf, hw0]))
    (fun ρ' hρ' hg => by
      refine ⟨w.heap.size + 1, rfl, ⟨fn, a.tmps, w.heap.size, ?_, hr.size, fun t => ?_⟩, fun h3 => ?_⟩
      · rw [← hw0]; exact World.alloc_heap_new w0 _
      · rcases hsub t with h3 | h3
        · rw [h3]; trivial
        · rw [h3]; exact (h1.env t).grows hg
      · rcases h3 with h3 | h3
        · have := hr.lim _ h3; omega
        · omega)
    (fun _ _ => trivial)
  rw [e1] at r2
  refine ⟨ρ', S', r1, hN2, ⟨fun n h hh => ?_, fun b hb => .inl hb, fun b hb => ?_⟩, r2⟩
  · rw [r1 n fun e => by subst e; rw [hN] at hh; cases hh]; exact hh
  · have := hr.lim b hb
    exact (RowKit.Below.heap_alloc w0 _ b (by omega)).trans (hk0 b hb)

end

/-- How a loop over a function ends, by where its record stands. -/
def lpEnd : LSt → (Exit → St → Prop) → St → Prop
  | .ready, Q, st => Q .normal st
  | .done .ret, Q, st => Q .ret st
  | .done (.exit id), Q, st => Q (.exit id) st
  | _, _, _ => False

/-- What is asked when the function that was ranged over has answered. -/
def rangeK (N nt : Nat) (env' : List (Nat × AT)) (Q : Exit → St → Prop) : AT → List (Nat × Option AObj) → Nat → Prop := fun _ objs' next' =>
  ∃ L, getO objs' N = some (.lp L) ∧ lpEnd L.st Q ⟨nt, env', (N, none) :: objs', next'⟩

/-- The earlier temporaries, of which some are kept; none of these names an object of fr. -/
def keepE (fr : List Nat) (env : List (Nat × AT)) : List (Nat × AT) → Prop
  | [] => True
  | (t, x) :: r => getE env t = x ∧ frT fr x = true ∧ keepE fr env r

theorem keepE_get {fr : List Nat} {env : List (Nat × AT)} : ∀ {env' : List (Nat × AT)}, keepE fr env env' → ∀ t, getE env' t = .junk ∨ (getE env' t = getE env t ∧ frT fr (getE env' t) = true)
  | [], _, t => .inl rfl
  | (t', x) :: r, h, t => by
    obtain ⟨h1, h2, h3⟩ := h
    simp only [getE]
    split
    · rename_i e; subst e; exact .inr ⟨h1.symm, h2⟩
    · exact keepE_get h3 t

/-- 'for .. := range g': the function that g is, walked over the caller's objects and the loop's record. -/
theorem awp_range {E : Sit} (hro : E.ro = none) {g : Operand} {ps : Array Tmp} {assign body : Code} {Q : Exit → St → Prop} {st : St} (fr : List Nat) (env' : List (Nat × AT)) {f : FuncId} {A : List (Bool × List AV)}
    (hg : calleeA (aval E.Γ (getE st.env) 0 g) = some (f, A)) (hfr : (fr.all fun o => decide (o < st.next) && (decide (E.pin.n ≤ o) || E.pin.free.contains o)) = true) (hkeep : keepE fr st.env env')
    (h : HCallF E fr f ((false, [.yld st.next]) :: A) ((st.next, some (.lp ⟨st.nt, env', ps, assign, body, .ready⟩)) :: st.objs) (st.next + 8) (rangeK st.next st.nt env' Q)) :
    AWp E (.rangeFunc g ps assign body) Q st := by
  intro c a w ho ⟨ρ, S, hr, hf⟩
  have hfr' : ∀ o ∈ fr, o < st.next ∧ (E.pin.n ≤ o ∨ o ∈ E.pin.free) := fun o h1 => by
    have := List.all_eq_true.1 hfr o h1
    simpa using this
  have hsub := keepE_get hkeep
  refine wpIn_rangeFunc fun fn _ => ?_
  obtain ⟨ρ1, S1, r1, r2, r3, r4⟩ := hr.newLp (hf st.next (Nat.le_refl _)) (env' := env') (fun t => (hsub t).imp_right (·.1)) fn ps assign body
  obtain ⟨vs, hgv, hvs⟩ := callee_rep hg (eval_rep (Γ := E.Γ) hr 0 g)
  have hgv1 : ({ a with defers := markOf w.heap.size :: a.defers } : Act).eval g = .func (.func f) #[] vs := by
    cases g <;> simp_all [Act.eval]
  let l := w.heap.size + 1
  let w1 := (w.alloc (.deferred (some []))).alloc (.loop { state := .ready, pending := none, fn, tmps := a.tmps, params := ps, assign, body, defers := w.heap.size })
  let vals : List Value := .func (.yield l) #[] #[] :: vs.toList
  have hent := h.1 vals.toArray w1
  have e0 : vals.toArray = #[] ++ #[Value.func (.yield l) #[] #[]] ++ vs := by apply Array.ext'; simp [vals]
  refine ⟨l, [markOf w.heap.size], w1, { target := .fn (.func f) vs, args := #[] ++ #[.func (.yield l) #[] #[]] }, w1, f, vals.toArray, w1, ?_, ?_, fun _ _ => trivial, ?_, fun hh => by simp [Fence.wide] at hh, ?_⟩
  · have : (wf E.ro).round = none := by simp [hro]
    rw [this]
    exact run_enterLoop_outer fn a.tmps ps assign body
  · have hgv' : a.eval g = .func (.func f) #[] vs := hgv
    simp only [resolve, hgv', Deferred.ofValue, Sem.run_pure]
    simp [Act.eval]
  · rw [e0] at hent ⊢
    simp only [invoke, hent]
  · refine calls_in ?_
    have hfresh : ∀ n, st.next + 8 ≤ n → ρ1 n = none := fun n hn => by rw [r1 n (by omega)]; exact hf n (by omega)
    have hlt : ∀ o h, ρ1 o = some h → o < st.next + 8 := fun o h hh => by
      by_cases hlt : o < st.next + 8
      · exact hlt
      · rw [hfresh o (by omega)] at hh; cases hh
    have hob : updO [(st.next, some (.lp ⟨st.nt, env', ps, assign, body, .ready⟩))] (getO st.objs) = getO ((st.next, some (.lp ⟨st.nt, env', ps, assign, body, .ready⟩)) :: st.objs) := (getO_upd _ _).symm
    have h0 : RelH (reBaseF fr (getO ((st.next, some (.lp ⟨st.nt, env', ps, assign, body, .ready⟩)) :: st.objs)) ρ1 S1 w1 (st.next + 8)) ((st.next, some (.lp ⟨st.nt, env', ps, assign, body, .ready⟩)) :: st.objs) ρ1 S1 w1 := by
      have r4' := r4
      rw [hob] at r4'
      exact rebaseF_in r4' fr _ rfl rfl fun t => trivial
    have hargs : All2 (fun t u => RepC ρ1 w1 S1 t.1 t.2 u) ((false, [.yld st.next]) :: A) vals :=
      .cons ⟨_, rfl, _, r2, rfl⟩ (hvs.mono fun _ _ hh => RepC.grows r3 hh)
    refine (h.2 _ ρ1 S1 w1 vals (fun o h hh => ?_) h0 hfresh hargs).mono ?_
    · simp only [reBaseF] at hh
      split at hh
      · rename_i hc; exact ⟨hc.1, hc.2⟩
      · cases hh
    · rintro e w' ⟨v, t, objs', next', ρ2, S2, rfl, hr', hf', hv, L, hL, hend⟩
      have r4' := r4
      rw [hob] at r4'
      have hrel : Rel c st.nt (getE env') (getO objs') ρ2 S2 { a with defers := markOf w.heap.size :: a.defers } w' := by
        refine rebaseF_out r4' hlt (fun o h hh hm => ?_) hr' rfl r4'.size fun hgr t2 => ?_
        · have hp := ho o h hh
          rcases (hfr' o hm).2 with h2 | h2
          · have := hp.1; omega
          · exact hp.2 h2
        · rcases hsub t2 with h2 | ⟨h2, h3⟩
          · rw [h2]; trivial
          · have := r4'.env t2
            rw [← h2] at this
            exact RepT.growsF hgr h3 this
      obtain ⟨g2, fn2, tmps2, D2, q1, q2, q3, q4, q5, q6⟩ := hrel.lp hL
      have hNf : st.next ∉ fr := fun hm => by have := (hfr' _ hm).1; omega
      have hg2 : g2 = l := by
        have h2 := hr'.pin st.next _ (by simp only [reBaseF]; rw [if_pos ⟨by omega, hNf⟩]; exact r2)
        rw [q1] at h2
        simpa [l] using h2
      subst hg2
      have hnb : L.st.state ≠ .busy := by
        cases hs : L.st with
        | busy => rw [hs] at hend; exact hend.elim
        | _ => simp [LSt.state]
      have hel := run_endLoop (P := E.P) q2 hnb
      refine ⟨_, _, hel, ?_⟩
      have hrel2 := q6 (.loop { state := .exhausted, pending := L.st.pending, fn := fn2, tmps := tmps2, params := L.ps, assign := L.assign, body := L.body, defers := D2 })
      rw [← getO_upd] at hrel2
      have hE : RelE c ⟨st.nt, env', (st.next, none) :: objs', next'⟩ next' { a with defers := markOf w.heap.size :: a.defers } (w'.putObj l (.loop { state := .exhausted, pending := L.st.pending, fn := fn2, tmps := tmps2, params := L.ps, assign := L.assign, body := L.body, defers := D2 })) :=
        ⟨ρ2, S2, hrel2, hf'⟩
      cases hs : L.st with
      | ready => rw [hs] at hend; simp only [LSt.pending]; exact ⟨_, by rw [hs] at hE; exact hE, hend⟩
      | busy => rw [hs] at hend; exact hend.elim
      | done cc =>
        rw [hs] at hend
        simp only [LSt.pending]
        cases cc with
        | ret => exact wpIn_ret ⟨_, by rw [hs] at hE; exact hE, hend⟩
        | exit id => exact wpIn_exit ⟨_, by rw [hs] at hE; exact hE, hend⟩
        | _ => exact hend.elim

/-! ### A call of yield -/

/-- A call of what a loop hands its function: the loop's record; what it is handed. -/
def yieldA (ev : TypeId → Operand → AT) (o : Oper) : Option (Nat × List (Bool × List AV)) := match o.op with
  | .call c => match c.callee with
    | .value fx => match (ev 0 fx).one?, argsOf ev c.args.toList c.argTypes.toList with
      | some (.yld n), some args => some (n, args)
      | _, _ => none
    | _ => none
  | _ => none

/-- A round's temporaries. -/
def parE : List Tmp → List (Bool × List AV) → List (Nat × AT) → List (Nat × AT)
  | p :: ps, (g, xs) :: A, env => parE ps A ((p, .cs g xs) :: env)
  | _, _, env => env

/-- The record stands elsewhere. -/
def setLp (o : Nat) (L : Lp) (s : LSt) (objs : List (Nat × Option AObj)) : List (Nat × Option AObj) := (o, some (.lp { L with st := s })) :: objs

def roundQ (o : Nat) (K : AT → List (Nat × Option AObj) → Nat → Prop) : Exit → St → Prop
  | .normal, st => ∃ L, getO st.objs o = some (.lp L) ∧ K (.cs false [.d (.v (.bool true))]) (setLp o L .ready st.objs) st.next
  | .ret, st => ∃ L, getO st.objs o = some (.lp L) ∧ K (.cs false [.d (.v (.bool false))]) (setLp o L (.done .ret) st.objs) st.next
  | .exit id, st => ∃ L, getO st.objs o = some (.lp L) ∧ K (.cs false [.d (.v (.bool false))]) (setLp o L (.done (.exit id)) st.objs) st.next
  | _, _ => False

def beginQ (E : Sit) (o : Nat) (body : Code) (K : AT → List (Nat × Option AObj) → Nat → Prop) (st : St) : Prop :=
  ∃ L, getO st.objs o = some (.lp L) ∧ L.st = .ready ∧ AWp E body (roundQ o K) ⟨st.nt, st.env, setLp o L .busy st.objs, st.next⟩

/-- A round of the loop whose record is o, over the objects. -/
def HYield (E : Sit) (o : Nat) (A : List (Bool × List AV)) (objs : List (Nat × Option AObj)) (next : Nat) (K : AT → List (Nat × Option AObj) → Nat → Prop) : Prop :=
  ∃ L, getO objs o = some (.lp L) ∧ (decide (A.length = L.ps.size) && L.ps.toList.all fun p => decide (p < L.nt)) = true ∧
    ∀ ro, AWp ⟨E.P, E.Γ, ro, ⟨next, []⟩⟩ L.assign (thenQ (beginQ ⟨E.P, E.Γ, ro, ⟨next, []⟩⟩ o L.body K) (fun _ _ => False)) ⟨L.nt, parE L.ps.toList A L.env, objs, next⟩

theorem roundQ_mono {o : Nat} {K K' : AT → List (Nat × Option AObj) → Nat → Prop} (hk : ∀ t ob n, K t ob n → K' t ob n) : ∀ e st, roundQ o K e st → roundQ o K' e st
  | .normal, _, ⟨L, h1, h2⟩ => ⟨L, h1, hk _ _ _ h2⟩
  | .ret, _, ⟨L, h1, h2⟩ => ⟨L, h1, hk _ _ _ h2⟩
  | .exit _, _, ⟨L, h1, h2⟩ => ⟨L, h1, hk _ _ _ h2⟩
  | .goto _, _, h => h.elim
  | .panic _, _, h => h.elim
  | .outgrown, _, h => h.elim

theorem HYield.mono {E : Sit} {o : Nat} {A : List (Bool × List AV)} {objs : List (Nat × Option AObj)} {next : Nat} {K K' : AT → List (Nat × Option AObj) → Nat → Prop} (h : HYield E o A objs next K) (hk : ∀ t ob n, K t ob n → K' t ob n) : HYield E o A objs next K' := by
  obtain ⟨L, h1, h2, h3⟩ := h
  refine ⟨L, h1, h2, fun ro => awp_mono (h3 ro) fun e st h => ?_⟩
  cases e with
  | normal =>
    obtain ⟨L1, q1, q2, q3⟩ := h
    exact ⟨L1, q1, q2, awp_mono q3 (roundQ_mono hk)⟩
  | _ => exact h.elim

theorem par_rep {ρ : Where} {w : World} {S : Nat → Prop} : ∀ {ps : List Tmp} {A : List (Bool × List AV)} {vals : List Value} {env : List (Nat × AT)} {tmps : Array Value}, A.length = ps.length → (∀ p ∈ ps, p < tmps.size) → All2 (fun t u => RepC ρ w S t.1 t.2 u) A vals →
    (∀ t, RepT ρ w S (getE env t) (tmps.getD t Go.undef)) →
    ((ps.zip vals).foldl (fun tmps (x : Tmp × Value) => tmps.setIfInBounds x.1 x.2) tmps).size = tmps.size ∧
      ∀ t, RepT ρ w S (getE (parE ps A env) t) (((ps.zip vals).foldl (fun tmps (x : Tmp × Value) => tmps.setIfInBounds x.1 x.2) tmps).getD t Go.undef)
  | [], A, vals, env, tmps, hl, _, _, h => by
    cases A with
    | nil => exact ⟨rfl, h⟩
    | cons => simp at hl
  | p :: ps, A, vals, env, tmps, hl, hp, hA, h => by
    cases A with
    | nil => simp at hl
    | cons y A =>
      obtain ⟨g, xs⟩ := y
      cases hA with
      | @cons _ u _ us h1 h2 =>
        have ih := par_rep (ps := ps) (A := A) (vals := us) (env := (p, .cs g xs) :: env) (tmps := tmps.setIfInBounds p u) (by simpa using hl) (fun q hq => by simpa using hp q (List.mem_cons_of_mem _ hq)) h2 (fun t => by
          have hpl := hp p (List.mem_cons_self ..)
          simp only [getE]
          split
          · rename_i e
            subst e
            have : (tmps.setIfInBounds t u).getD t Go.undef = u := by simp [Array.getD_eq_getD_getElem?, hpl]
            rw [this]; exact h1
          · rename_i e
            have : (tmps.setIfInBounds p u).getD t Go.undef = tmps.getD t Go.undef := by
              simp only [Array.getD_eq_getD_getElem?]
              rw [Array.getElem?_setIfInBounds_ne (Ne.symm e)]
            rw [this]; exact h t)
        obtain ⟨i1, i2⟩ := ih
        refine ⟨?_, i2⟩
        simp only [List.zip_cons_cons, List.foldl_cons]
        rw [i1]; simp

theorem yield_run {P : Program} {Γ : Ctx} {c : Base} {nt : Nat} {env : Nat → AT} {ob : Nat → Option AObj} {ρ : Where} {S : Nat → Prop} {a : Act} {w : World} (hr : Rel c nt env ob ρ S a w) {o : Oper} {n : Nat} {A : List (Bool × List AV)} (h : yieldA (aval Γ env) o = some (n, A)) :
    ∃ (g : Nat) (vals : List Value), ρ n = some (.pointer (some ⟨g, 0, none⟩)) ∧ All2 (fun t u => RepC ρ w S t.1 t.2 u) A vals ∧ (∃ cl, o.op = .call cl) ∧
      ∀ (r : Loop) (w : World), w.heap[g]? = some (.loop r) → vals.length = r.params.size → (execOp a.eval o).run P w = .ok (.round g r.fn ((r.params.toList.zip vals).foldl (fun tmps (x : Tmp × Value) => tmps.setIfInBounds x.1 x.2) r.tmps) r.assign r.body) w := by
  unfold yieldA at h
  split at h
  · rename_i cl ho
    split at h
    · rename_i fx hb
      split at h
      · rename_i n' args ef eargs
        simp only [Option.some.injEq, Prod.mk.injEq] at h
        obtain ⟨rfl, rfl⟩ := h
        obtain ⟨g, hρ, hv⟩ := one_rep (eval_rep (Γ := Γ) hr 0 fx) ef
        refine ⟨g, cl.args.toList.map a.eval, hρ, args_rep hr eargs, ⟨cl, ho⟩, fun r w hg hl => ?_⟩
        have hy := run_yield (P := P) (args := cl.args.map a.eval) hg (by simpa using hl)
        have e : (r.params.zip (cl.args.map a.eval)).foldl (fun tmps (t, a) => tmps.setIfInBounds t a) r.tmps = (r.params.toList.zip (cl.args.toList.map a.eval)).foldl (fun tmps (x : Tmp × Value) => tmps.setIfInBounds x.1 x.2) r.tmps := by
          rw [← Array.foldl_toList]; simp
        rw [e] at hy
        simp only [execOp, ho, resolve, hb, hv, Deferred.ofValue, Sem.run_bind, Sem.run_pure, Result.andThen_ok, invoke]
        simpa using hy
      · cases h
    · cases h
  · cases h

theorem runS_yield {E : Sit} {Q : Exit → St → Prop} {st : St} {l : List Oper} {N j : Nat} {o : Oper} {n : Nat} {A : List (Bool × List AV)} (ho : l[j]? = some o) (hg : guardA l.toArray (getE st.env) o = some true) (hd : dstOk st.nt o.dst = true)
    (hy : yieldA (aval E.Γ (getE st.env)) o = some (n, A))
    (h : HYield E n A st.objs (N + 8 * j) fun t objs' next' => ∃ N', next' ≤ N' + 8 * (j + 1) ∧ RunS E l N' (j + 1) Q ⟨st.nt, putE st.env o.dst t, objs', st.next⟩) : RunS E l N j Q st := by
  intro c a w hc ⟨ρ, S, hr, hf⟩
  have hj : j < l.length := (List.getElem?_eq_some_iff.1 ho).1
  obtain ⟨m, hm⟩ : ∃ m, l.length - j = m + 1 := ⟨l.length - j - 1, by omega⟩
  rw [hm, List.range'_succ, wpOpsIn_cons]
  have ho' : l.toArray[j]? = some o := by simpa using ho
  unfold wpOpIn
  simp only [ho']
  rw [if_pos (guard_wanted hr hg)]
  obtain ⟨g, vals, hρ, hall, ⟨cl, hcl⟩, hrun⟩ := yield_run (P := E.P) hr hy
  obtain ⟨L, hL, hlen, hA⟩ := h
  simp only [Bool.and_eq_true, decide_eq_true_eq, List.all_eq_true] at hlen
  obtain ⟨g', fn, tmps, D, q1, q2, q3, q4, _⟩ := hr.lp hL
  have hgg : g' = g := by rw [hρ] at q1; simpa using q1.symm
  subst hgg
  have hvl := hall.len
  have hrun' := hrun _ w q2 (by simp only; omega)
  have hfr : ∀ o h, ρ o = some h → o < N + 8 * j := fun o h hh => by
    by_cases hlt : o < N + 8 * j
    · exact hlt
    · rw [hf o (by omega)] at hh; cases hh
  unfold Oper.wpIn
  refine ⟨fun _ _ => trivial, ?_⟩
  rw [Oper.semAt_eq _ _ _ (fun cl' hcl' => by rw [hcl] at hcl'; cases hcl'), hrun', Oper.uponIn_round]
  refine ⟨fun hh => by simp [Fence.wide] at hh, ?_⟩
  refine roundIn_of_wpIn trivial ?_
  obtain ⟨p1, p2⟩ := par_rep (ps := L.ps.toList) (A := A) (vals := vals) (env := L.env) (tmps := tmps) (by rw [hlen.1]; simp) (fun p hp => by rw [q3]; exact hlen.2 p hp) hall q4
  let cb := reBase (getO st.objs) ρ S w (N + 8 * j)
  have hcb : ∀ ro, OkB ⟨E.P, E.Γ, ro, ⟨N + 8 * j, []⟩⟩ cb := fun ro o h hh => by
    simp only [cb, reBase] at hh
    split at hh
    · exact ⟨by assumption, by simp⟩
    · cases hh
  have hgpin : ∀ (ρ' : Where) (S' : Nat → Prop) (nt' : Nat) (env' : Nat → AT) (ob' : Nat → Option AObj) (a' : Act) (w' : World), Rel cb nt' env' ob' ρ' S' a' w' → ρ' n = some (.pointer (some ⟨g', 0, none⟩)) := fun ρ' S' nt' env' ob' a' w' h1 => by
    refine h1.pin n _ ?_
    simp only [cb, reBase]
    rw [if_pos (hfr _ _ hρ)]; exact hρ
  have h0 : RelE cb ⟨L.nt, parE L.ps.toList A L.env, st.objs, N + 8 * j⟩ (N + 8 * j) { tmps := (L.ps.toList.zip vals).foldl (fun tmps (x : Tmp × Value) => tmps.setIfInBounds x.1 x.2) tmps, defers := [] } w :=
    ⟨ρ, S, rebase_in hr _ rfl (by rw [← q3]; exact p1) p2, hf⟩
  refine wpIn_mono (hA (some g') cb _ w (hcb _) h0) fun e a1 w1 ⟨st1, h1, h2⟩ => ?_
  cases e with
  | normal =>
    obtain ⟨L1, hL1, hst1, hbody⟩ := h2
    obtain ⟨ρ1, S1, r1, f1⟩ := h1
    obtain ⟨g1, fn1, tmps1, D1, s1, s2, s3, s4, s5, _⟩ := r1.lp hL1
    have hg1 : g1 = g' := by have := hgpin _ _ _ _ _ _ _ r1; rw [s1] at this; simpa using this
    subst hg1
    rw [hst1] at s2
    refine ⟨_, run_beginRound s2 rfl, ?_⟩
    have r2 := s5 .busy
    rw [← getO_upd] at r2
    refine wpIn_mono (hbody cb a1 _ (hcb _) ⟨ρ1, S1, r2, f1⟩) fun e2 a2 w2 ⟨st2, h3, h4⟩ => ?_
    obtain ⟨ρ2, S2, r3, f3⟩ := h3
    -- back in the caller's frame
    have back : ∀ (L2 : Lp) (s : LSt) (b : Bool) (jump : Option Code), getO st2.objs n = some (.lp L2) → s.state = (if jump.isNone then .ready else .done) → s.pending = jump → jump.isNone = b →
        (∃ N', st2.next ≤ N' + 8 * (j + 1) ∧ RunS E l N' (j + 1) Q ⟨st.nt, putE st.env o.dst (.cs false [.d (.v (.bool b))]), setLp n L2 s st2.objs, st.next⟩) →
        ∃ v w', (Instr.endRound g1 jump).run E.P w2 = .ok v w' ∧ wpOpsIn (wf E.ro) 0 E.P l.toArray (PostE c Q) (List.range' (j + 1) m) (a.put o.dst v) w' := by
      intro L2 s b jump hL2 hs1 hs2 hb hk
      subst hb
      obtain ⟨g2, fn2, tmps2, D2, t1, t2, t3, t4, t5, _⟩ := r3.lp hL2
      have hg2 : g2 = g1 := by have := hgpin _ _ _ _ _ _ _ r3; rw [t1] at this; simpa using this
      subst hg2
      refine ⟨_, _, run_endRound jump t2, ?_⟩
      have r4 := t5 s
      rw [← getO_upd] at r4
      rw [hs1, hs2] at r4
      obtain ⟨N', hN', hk⟩ := hk
      have hrel := rebase_out (nt2 := st.nt) (env2 := putF (getE st.env) o.dst (.cs false [.d (.v (.bool jump.isNone))])) (a2 := a.put o.dst (.bool jump.isNone)) hr hfr r4 (put_defers _ _ _) (by rw [put_size]; exact hr.size) (fun hgr t2 => by
        rw [put_get a o.dst _ t2 (by rw [hr.size]; exact hd)]
        unfold putF
        by_cases hdst : o.dst = some t2
        · rw [if_pos hdst, if_pos hdst]; exact rep_bool _
        · rw [if_neg hdst, if_neg hdst]; exact (hr.env t2).grows hgr)
      have := hk c (a.put o.dst (.bool jump.isNone)) _ hc ⟨ρ2, S2, by rw [getE_put]; exact hrel, fun n hn => f3 n (by omega)⟩
      rwa [show l.length - (j + 1) = m by omega] at this
    cases e2 with
    | normal => obtain ⟨L2, e1, e2⟩ := h4; exact back L2 .ready true none e1 rfl rfl rfl e2
    | ret => obtain ⟨L2, e1, e2⟩ := h4; exact back L2 (.done .ret) false (some .ret) e1 rfl rfl rfl e2
    | exit id => obtain ⟨L2, e1, e2⟩ := h4; exact back L2 (.done (.exit id)) false (some (.exit id)) e1 rfl rfl rfl e2
    | _ => exact h4.elim
  | _ => exact h2.elim

end Go.Eng
