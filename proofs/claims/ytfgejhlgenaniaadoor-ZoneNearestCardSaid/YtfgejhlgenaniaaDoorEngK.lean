/- Every operation is sound; what an operation answers hangs on what it looks at alone. -/
import Derived.Test.YtfgejhlgenaniaaDoorEngX2
namespace Go.Eng

section
variable {P : Program} {Γ : Ctx} {c : Base} {nt : Nat} {env : Nat → AT} {ob : Nat → Option AObj} {ρ : Where} {S : Nat → Prop} {a : Act} {w : World}
variable {N : Nat} {o : Oper} {r : AOut}

theorem op_sound0 (hΓ : CtxOk P Γ) (hr : Rel c nt env ob ρ S a w) (hf : ∀ n, N ≤ n → n < N + 8 → ρ n = none) (hd : dstOk nt o.dst = true) (h : aop0 Γ N (aval Γ env) ob o = some r) : Goes P c nt N env ob ρ a w o r := by
  cases ho : o.op with
  | move x => exact sound_move hr hd (.inl ho) h
  | assign x => exact sound_move hr hd (.inr ho) h
  | pick x y z => exact sound_pick hr hd ho h
  | alloc t => exact sound_alloc hΓ hr hf hd ho h
  | box t x => exact sound_box hr hf hd ho h
  | build t ps => exact sound_build hΓ hr hd ho h
  | buildSlice t n ps => exact sound_buildSlice hΓ hr hf hd ho h
  | load t x => exact sound_load hΓ hr hd ho h
  | store t x y => exact sound_store hΓ hr hd ho h
  | nilCheck x => exact sound_nilCheck hr hd ho h
  | binOp op t x y t2 => exact sound_binOp hΓ hr hd ho h
  | unOp op t x => exact sound_unOp hr hd ho h
  | convert s t x => exact sound_convert hΓ hr hd ho h
  | makeFunc fn first captured =>
    cases fn with
    | func f => exact sound_makeFunc hr hd ho h
    | _ => simp [aop0, ho] at h
  | slice t x lo hi mx => exact sound_slice hΓ hr hd ho h
  | fieldAddr t x i => exact sound_fieldAddr hΓ hr hd ho h
  | field t x i => exact sound_field hΓ hr hd ho h
  | indexAddr t x i => exact sound_indexAddr hΓ hr hd ho h
  | index t x i => exact sound_index hΓ hr hd ho h
  | extract t i => exact sound_extract hr hd ho h
  | call cl =>
    cases hb : cl.callee with
    | value f => simp [aop0, ho, hb] at h
    | invoke r m => simp [aop0, ho, hb] at h
    | builtin b =>
      cases b with
      | len => exact sound_len hΓ hr hd ho hb h
      | append => exact sound_append hΓ hr hf hd ho hb h
      | max => exact sound_minmax hr hd ho (.inl hb) h
      | min => exact sound_minmax hr hd ho (.inr hb) h
      | clear => exact sound_clear hΓ hr hd ho hb h
      | _ => simp [aop0, ho, hb] at h
  | _ => simp [aop0, ho] at h

theorem op_sound (hΓ : CtxOk P Γ) (hr : Rel c nt env ob ρ S a w) (hf : ∀ n, N ≤ n → n < N + 8 → ρ n = none) (hd : dstOk nt o.dst = true) (h : aop Γ N (aval Γ env) ob o = some r) : Goes P c nt N env ob ρ a w o r := by
  unfold aop at h
  split at h
  · rename_i hx
    cases ho : o.op with
    | slice t x lo hi mx => exact sound_sliceX hΓ hr hd ho h
    | range t x => exact sound_rangeX hΓ hr hf hd ho h
    | next x str => exact sound_nextX hr hd ho h
    | buildSlice t len ps => exact sound_buildX hΓ hr hf hd ho h
    | indexAddr t x i => exact sound_idxX hΓ hr hd ho h
    | call cl =>
      cases hb : cl.callee with
      | value f =>
        cases f with
        | func f => exact sound_ext hΓ hr hd ho hb h
        | _ => simp [isX, ho, hb] at hx
      | invoke r m => simp [isX, ho, hb] at hx
      | builtin b =>
        cases b with
        | append => exact sound_appendX hΓ hr hf hd ho hb h
        | len => exact sound_lenX hΓ hr hd ho hb h
        | cap => exact sound_capX hΓ hr hd ho hb h
        | copy => exact sound_copyX hΓ hr hd ho hb h
        | _ => simp [isX, ho, hb] at hx
    | _ => simp [isX, ho] at hx
  · exact op_sound0 hΓ hr hf hd h

end

/-! ### What is looked at -/

theorem capsD_ob {ob ob' : Nat → Option AObj} : ∀ {ks : List CapV}, (∀ n ∈ ks.flatMap capT, ob' n = ob n) → capsD ob' ks = capsD ob ks
  | [], _ => rfl
  | .d x :: ks, h => by
    simp only [capsD]
    rw [capsD_ob (ks := ks) fun n hn => h n (by rw [List.flatMap_cons]; exact List.mem_append.2 (.inr hn))]
  | .ptr o off :: ks, h => by
    simp only [capsD]
    rw [capsD_ob (ks := ks) fun n hn => h n (by rw [List.flatMap_cons]; exact List.mem_append.2 (.inr hn)), h o (by simp [capT])]

theorem avD_ob {ob ob' : Nat → Option AObj} {x : AV} (h : ∀ n ∈ avT x, ob' n = ob n) : avD ob' x = avD ob x := by
  cases x with
  | clo f ks => simp only [avD]; rw [capsD_ob h]
  | d => rfl
  | nils => rfl
  | eptr => rfl
  | win => rfl
  | wx => rfl
  | yld => rfl
  | vsl => rfl
  | own o => simp only [avD]; rw [h _ (by simp [avT])]
  | ptr o off => simp only [avD]; rw [h _ (by simp [avT])]

theorem allD_ob {ob ob' : Nat → Option AObj} : ∀ {xs : List AV}, (∀ n ∈ xs.flatMap avT, ob' n = ob n) → allD ob' xs = allD ob xs
  | [], _ => rfl
  | x :: xs, h => by
    simp only [allD]
    rw [avD_ob fun n hn => h n (by simp [hn]), allD_ob (xs := xs) fun n hn => h n (by rw [List.flatMap_cons]; exact List.mem_append.2 (.inr hn))]

theorem avArg_ob {eat : Bool} {ob ob' : Nat → Option AObj} {x : AV} (h : ∀ n ∈ avT x, ob' n = ob n) : avArg eat ob' x = avArg eat ob x := by
  cases x with
  | own n => simp only [avArg]; rw [h n (by simp [avT])]
  | _ => simp only [avArg]; rw [avD_ob h]

theorem allArg_ob {eat : Bool} {ob ob' : Nat → Option AObj} : ∀ {xs : List AV}, (∀ n ∈ xs.flatMap avT, ob' n = ob n) → allArg eat ob' xs = allArg eat ob xs
  | [], _ => rfl
  | x :: xs, h => by
    simp only [allArg]
    rw [avArg_ob fun n hn => h n (by simp [hn]), allArg_ob (xs := xs) fun n hn => h n (by rw [List.flatMap_cons]; exact List.mem_append.2 (.inr hn))]

theorem livesOf_ob {ob ob' : Nat → Option AObj} : ∀ {xs : List AV}, (∀ n ∈ xs.flatMap avT, ob' n = ob n) → livesOf ob' xs = livesOf ob xs
  | [], _ => rfl
  | x :: xs, h => by
    have ih := livesOf_ob (ob := ob) (ob' := ob') (xs := xs) fun n hn => h n (by rw [List.flatMap_cons]; exact List.mem_append.2 (.inr hn))
    cases x with
    | own n => simp only [livesOf]; rw [h n (by simp [avT]), ih]
    | _ => simpa only [livesOf] using ih

theorem rowsOf_ob {ob ob' : Nat → Option AObj} {x : AV} (h : ∀ n ∈ avT x, ob' n = ob n) : rowsOf ob' x = rowsOf ob x := by
  cases x with
  | own n => simp only [rowsOf]; rw [h n (by simp [avT])]
  | win n k lo m => simp only [rowsOf]; rw [h n (by simp [avT])]
  | wx n k lo m => simp only [rowsOf]; rw [h n (by simp [avT])]
  | d y => cases y <;> rfl
  | _ => rfl

theorem rowsOf_tc {ob ob' : Nat → Option AObj} {x : AV} {k : Nat} {rows : List (List D)} {tc : List Nat} (h : rowsOf ob x = some (k, rows, tc)) (ht : ∀ n ∈ tc, ob' n = ob n) : rowsOf ob' x = some (k, rows, tc) := by
  cases x with
  | own n =>
    simp only [rowsOf] at h ⊢
    split at h
    · rename_i k' e rows' live hob
      cases h
      rw [ht n (by simp), hob]
    · cases h
  | d y => cases y <;> first | exact h | cases h
  | nils k => exact h
  | win n k2 lo m =>
    simp only [rowsOf] at h ⊢
    split at h
    · rename_i k' e rows' live hob
      split at h
      · rename_i hc
        cases h
        rw [ht n (by simp), hob]
        simp only
        rw [if_pos hc]
      · cases h
    · cases h
  | wx n k2 lo m =>
    simp only [rowsOf] at h ⊢
    split at h
    · rename_i k' e rows' live hob
      split at h
      · rename_i hc
        cases h
        rw [ht n (by simp), hob]
        simp only
        rw [if_pos hc]
      · cases h
    · cases h
  | ptr => cases h
  | eptr => cases h
  | clo => cases h
  | yld => cases h
  | vsl => cases h

theorem rowsOf_own {ob : Nat → Option AObj} {n : Nat} {q : Nat × List (List D) × List Nat} (h : rowsOf ob (.own n) = some q) : q.2.2 = [n] := by
  simp only [rowsOf] at h
  split at h
  · cases h; rfl
  · cases h

theorem rowsOf_win {ob : Nat → Option AObj} {n k lo m : Nat} {q : Nat × List (List D) × List Nat} (h : rowsOf ob (.win n k lo m) = some q) : q.2.2 = [n] := by
  simp only [rowsOf] at h
  split at h
  · split at h
    · cases h; rfl
    · cases h
  · cases h

theorem rowsOf_wx {ob : Nat → Option AObj} {n k lo m : Nat} {q : Nat × List (List D) × List Nat} (h : rowsOf ob (.wx n k lo m) = some q) : q.2.2 = [n] := by
  simp only [rowsOf] at h
  split at h
  · split at h
    · cases h; rfl
    · cases h
  · cases h

theorem argT_cons {ob ob' : Nat → Option AObj} {g : Bool} {ys : List AV} {args : List (Bool × List AV)} (h : ∀ n ∈ callTouch ((g, ys) :: args), ob' n = ob n) :
    (∀ n ∈ ys.flatMap avT, ob' n = ob n) ∧ ∀ n ∈ callTouch args, ob' n = ob n :=
  ⟨fun n hn => h n (List.mem_flatMap.2 ⟨_, List.mem_cons_self .., hn⟩), fun n hn => h n (by
    obtain ⟨y, hy, hny⟩ := List.mem_flatMap.1 hn
    exact List.mem_flatMap.2 ⟨y, List.mem_cons_of_mem _ hy, hny⟩)⟩

theorem convArgs_ob {ob ob' : Nat → Option AObj} : ∀ {args : List (Bool × List AV)} {es : List Bool}, (∀ n ∈ callTouch args, ob' n = ob n) → convArgs ob' es args = convArgs ob es args
  | [], _, _ => rfl
  | (g, ys) :: args, es, h => by
    simp only [convArgs]
    rw [allArg_ob (argT_cons h).1, convArgs_ob (args := args) (argT_cons h).2]

theorem eatenOf_ob {ob ob' : Nat → Option AObj} : ∀ {args : List (Bool × List AV)} {es : List Bool}, (∀ n ∈ callTouch args, ob' n = ob n) → eatenOf ob' es args = eatenOf ob es args
  | [], _, _ => rfl
  | (g, ys) :: args, es, h => by
    simp only [eatenOf]
    rw [livesOf_ob (argT_cons h).1, eatenOf_ob (args := args) (argT_cons h).2]

theorem lentOf_ob {ob ob' : Nat → Option AObj} : ∀ {args : List (Bool × List AV)} {es : List Bool}, (∀ n ∈ callTouch args, ob' n = ob n) → lentOf ob' es args = lentOf ob es args
  | [], _, _ => rfl
  | (g, ys) :: args, es, h => by
    simp only [lentOf]
    rw [livesOf_ob (argT_cons h).1, lentOf_ob (args := args) (argT_cons h).2]

theorem mem_livesT {ob : Nat → Option AObj} : ∀ {xs : List AV} {n : Nat}, n ∈ livesOf ob xs → n ∈ xs.flatMap avT
  | [], n, h => by simp [livesOf] at h
  | x :: xs, n, h => by
    rw [List.flatMap_cons]
    refine List.mem_append.2 ?_
    cases x with
    | own m =>
      simp only [livesOf] at h
      split at h
      · rcases List.mem_cons.1 h with rfl | h
        · exact .inl (by simp [avT])
        · exact .inr (mem_livesT h)
      · exact .inr (mem_livesT h)
    | _ => exact .inr (mem_livesT (xs := xs) (by simpa [livesOf] using h))

theorem mem_lentT {ob : Nat → Option AObj} : ∀ {args : List (Bool × List AV)} {es : List Bool} {n : Nat}, n ∈ lentOf ob es args → n ∈ callTouch args
  | [], _, _, h => by simp [lentOf] at h
  | (g, ys) :: args, es, n, h => by
    simp only [lentOf, List.mem_append] at h
    rcases h with h | h
    · cases hes : es.headD false <;> rw [hes] at h
      · exact List.mem_flatMap.2 ⟨_, List.mem_cons_self .., mem_livesT h⟩
      · cases h
    · obtain ⟨y, hy, hny⟩ := List.mem_flatMap.1 (mem_lentT (args := args) h)
      exact List.mem_flatMap.2 ⟨y, List.mem_cons_of_mem _ hy, hny⟩

theorem callUpd_ob {ob ob' : Nat → Option AObj} {args : List (Bool × List AV)} {es : List Bool} {sc : Bool} (h : ∀ n ∈ callTouch args, ob' n = ob n) : callUpd ob' es args sc = callUpd ob es args sc := by
  unfold callUpd
  rw [eatenOf_ob h, lentOf_ob h]
  cases sc with
  | true => rfl
  | false =>
    congr 1
    simp only
    refine List.map_congr_left fun n hn => ?_
    simp only [frz, h n (mem_lentT hn)]

theorem callOk_ob {ob ob' : Nat → Option AObj} {args : List (Bool × List AV)} {es : List Bool} {n : Nat} (h : ∀ n ∈ callTouch args, ob' n = ob n) : callOk ob' es args n = callOk ob es args n := by
  unfold callOk
  rw [eatenOf_ob h, lentOf_ob h]

theorem capsOf_ob {ob ob' : Nat → Option AObj} : ∀ {xs : List AV}, (∀ n ∈ xs.flatMap avT, ob' n = ob n) → capsOf ob' xs = capsOf ob xs
  | [], _ => rfl
  | x :: xs, h => by
    have ih := capsOf_ob (xs := xs) fun n hn => h n (by rw [List.flatMap_cons]; exact List.mem_append.2 (.inr hn))
    have hx := avD_ob (x := x) fun n hn => h n (by simp [hn])
    cases x <;> simp only [capsOf, ih] <;> rw [hx]

theorem fillRows_ob {ob ob' : Nat → Option AObj} {ev : TypeId → Operand → AT} {e k : Nat} : ∀ {parts : List (Nat × Operand)} {rows : List (List D)} {out : List (List D) × List Nat}, fillRows ob ev e k rows parts = some out → (∀ n ∈ out.2, ob' n = ob n) → fillRows ob' ev e k rows parts = some out
  | [], rows, out, h, _ => h
  | (i, x) :: parts, rows, out, h, ht => by
    simp only [fillRows] at h ⊢
    split at h
    · rename_i ys hys
      split at h
      · rename_i ds hds
        split at h
        · rename_i hc
          simp only [Option.map_eq_some_iff] at h
          obtain ⟨q, hq, rfl⟩ := h
          rw [allD_ob fun n hn => ht n (List.mem_append.2 (.inl hn)), hds]
          simp only
          rw [if_pos hc, fillRows_ob hq fun n hn => ht n (List.mem_append.2 (.inr hn))]
          rfl
        · cases h
      · cases h
    · cases h

theorem appendA_ob {Γ : Ctx} {N t t2 : Nat} {ob ob' : Nat → Option AObj} {s x : AV} {r : AOut} (h : appendA Γ N ob t t2 s x = some r) (ht : ∀ n ∈ r.touch, ob' n = ob n) : appendA Γ N ob' t t2 s x = some r := by
  unfold appendA at h ⊢
  split at h
  · rename_i e _ he hu
    split at h
    · rename_i ti hti
      split at h
      · rename_i k2 rows2 tx hrows
        split at h
        · rename_i k rows ts hs
          split at h
          · rename_i hc
            cases h
            simp only [List.mem_append] at ht
            rw [rowsOf_tc hrows fun n hn => ht n (.inr hn)]
            simp only
            have hs' : headOf ob' e s = some (k, rows, ts) := by
              rw [← hs]
              cases s with
              | own n =>
                have hn : n ∈ ts := by
                  simp only [headOf] at hs
                  split at hs
                  · split at hs
                    · cases hs; simp
                    · cases hs
                  · cases hs
                simp only [headOf]
                rw [ht n (.inl hn)]
              | _ => rfl
            rw [hs']
            simp only
            rw [if_pos hc]
          · cases h
        · cases h
      · cases h
    · cases h
  · cases h

theorem sliceA_ob {Γ : Ctx} {t : TypeId} {ob ob' : Nat → Option AObj} {ev : TypeId → Operand → AT} {x : AV} {lo hi mx : Option Operand} {r : AOut} (h : sliceA Γ ob ev t x lo hi mx = some r) (ht : ∀ n ∈ r.touch, ob' n = ob n) : sliceA Γ ob' ev t x lo hi mx = some r := by
  have key : ∀ n ∈ avT x, ob' n = ob n := by
    intro n hn
    cases x with
    | own m =>
      refine ht n ?_
      simp only [avT, List.mem_singleton] at hn
      subst hn
      simp only [sliceA] at h
      split at h
      · split at h
        · rename_i k k2 rows tc hk hrows
          have htc : tc = [n] := rowsOf_own hrows
          subst htc
          repeat' split at h
          all_goals first | (cases h; exact List.mem_singleton.2 rfl) | cases h
        · cases h
      · cases h
    | win m k0 lo0 n0 =>
      refine ht n ?_
      simp only [avT, List.mem_singleton] at hn
      subst hn
      simp only [sliceA] at h
      split at h
      · split at h
        · rename_i k k2 rows tc hk hrows
          have htc : tc = [n] := rowsOf_win hrows
          subst htc
          repeat' split at h
          all_goals first | (cases h; exact List.mem_singleton.2 rfl) | cases h
        · cases h
      · cases h
    | wx m k0 lo0 n0 =>
      refine ht n ?_
      simp only [avT, List.mem_singleton] at hn
      subst hn
      simp only [sliceA] at h
      split at h
      · split at h
        · rename_i k k2 rows tc hk hrows
          have htc : tc = [n] := rowsOf_wx hrows
          subst htc
          repeat' split at h
          all_goals first | (cases h; exact List.mem_singleton.2 rfl) | cases h
        · cases h
      · cases h
    | d y => simp [avT] at hn
    | nils k => simp [avT] at hn
    | ptr m off =>
      simp only [sliceA] at h
      split at h
      · split at h
        · rename_i hrows; simp [rowsOf] at hrows
        · cases h
      · cases h
    | eptr m a b c =>
      simp only [sliceA] at h
      split at h
      · split at h
        · rename_i hrows; simp [rowsOf] at hrows
        · cases h
      · cases h
    | vsl m n' =>
      simp only [sliceA] at h
      split at h
      · split at h
        · rename_i hrows; simp [rowsOf] at hrows
        · cases h
      · cases h
    | yld m =>
      simp only [sliceA] at h
      split at h
      · split at h
        · rename_i hrows; simp [rowsOf] at hrows
        · cases h
      · cases h
    | clo f ks =>
      simp only [sliceA] at h
      split at h
      · split at h
        · rename_i hrows; simp [rowsOf] at hrows
        · cases h
      · cases h
  rw [← h]
  unfold sliceA
  split
  · rfl
  · cases x with
    | own m => simp only [avD_ob key, rowsOf_ob key, key m (by simp [avT])]
    | win m k0 lo0 n0 => simp only [avD_ob key, rowsOf_ob key, key m (by simp [avT])]
    | wx m k0 lo0 n0 => simp only [avD_ob key, rowsOf_ob key]
    | _ => simp only [avD_ob key, rowsOf_ob key]

theorem appendW_ob {Γ : Ctx} {ob ob' : Nat → Option AObj} {t t2 : TypeId} {oo k lo n : Nat} {x : AV} {r : AOut} (h : appendW Γ ob t t2 oo k lo n x = some r) (ht : ∀ n ∈ r.touch, ob' n = ob n) : appendW Γ ob' t t2 oo k lo n x = some r := by
  unfold appendW at h ⊢
  split at h
  · rename_i e _ he hu
    split at h
    · rename_i sz hsz
      split at h
      · rename_i k2 rows2 tx k3 ety rows hrows hob
        split at h
        · rename_i hc
          cases h
          rw [rowsOf_tc hrows fun n hn => ht n (List.mem_cons_of_mem _ hn), ht oo (List.mem_cons_self ..), hob]
          simp only
          rw [if_pos hc]
        · cases h
      · cases h
    · cases h
  · cases h

theorem clearW_ob {Γ : Ctx} {ob ob' : Nat → Option AObj} {t : TypeId} {oo k lo n : Nat} {r : AOut} (h : clearW Γ ob t oo k lo n = some r) (ht : ∀ n ∈ r.touch, ob' n = ob n) : clearW Γ ob' t oo k lo n = some r := by
  unfold clearW at h ⊢
  split at h
  · rename_i e he
    split at h
    · rename_i ti hti
      split at h
      · rename_i z k3 ety rows hz hob
        split at h
        · rename_i hc
          cases h
          rw [allD_ob fun n hn => ht n (List.mem_cons_of_mem _ hn), hz, ht oo (List.mem_cons_self ..), hob]
          simp only
          rw [if_pos hc]
        · cases h
      · cases h
    · cases h
  · cases h

theorem aop0_ob {Γ : Ctx} {N : Nat} {ev : TypeId → Operand → AT} {ob ob' : Nat → Option AObj} {o : Oper} {r : AOut} (h : aop0 Γ N ev ob o = some r) (ht : ∀ n ∈ r.touch, ob' n = ob n) : aop0 Γ N ev ob' o = some r := by
  cases ho : o.op with
  | buildSlice t n ps =>
    simp only [aop0, ho] at h ⊢
    split at h
    · rename_i e he
      try rw [he]
      try simp only
      split at h
      · rename_i ti hti
        try rw [hti]
        try simp only
        split at h
        · rename_i z hz
          split at h
          · rename_i hc
            simp only [Option.map_eq_some_iff] at h
            obtain ⟨q, hq, rfl⟩ := h
            rw [allD_ob fun n hn => ht n (List.mem_append.2 (.inl hn)), hz]
            try simp only
            rw [if_pos hc, fillRows_ob hq fun n hn => ht n (List.mem_append.2 (.inr hn))]
            rfl
          · cases h
        · cases h
      · cases h
    · cases h
  | load t x =>
    simp only [aop0, ho] at h ⊢
    split at h
    · rename_i oo off e
      split at h
      · rename_i cells live hob
        simp only [Option.map_eq_some_iff] at h
        obtain ⟨q, hq, rfl⟩ := h
        rw [ht oo (by simp), hob]
        simp [hq]
      · cases h
    · exact h
    · rename_i oo k i j e
      split at h
      · rename_i k' ety rows live hob
        split at h
        · rename_i hkk
          split at h
          · rename_i rr hrr
            simp only [Option.map_eq_some_iff] at h
            obtain ⟨q, hq, rfl⟩ := h
            rw [ht oo (by simp), hob]
            try simp only
            rw [if_pos hkk, hrr]
            simp only [hq, Option.map_some]
          · cases h
        · cases h
      · cases h
    · cases h
  | store t x y =>
    simp only [aop0, ho] at h ⊢
    split at h
    · rename_i oo off ys k e1 e2 e3
      split at h
      · rename_i cells hob
        split at h
        · rename_i hc
          cases h
          rw [ht oo (by simp), hob]
          try simp only
          rw [if_pos hc]
        · cases h
      · cases h
    · rename_i oo kk i j ys k e1 e2 e3
      split at h
      · rename_i k' e rows ds hob hds
        split at h
        · rename_i hc
          split at h
          · rename_i rr hrr
            cases h
            rw [ht oo (by simp), hob, allD_ob fun n hn => ht n (by simp only [List.mem_cons]; exact .inr hn), hds]
            try simp only
            rw [if_pos hc, hrr]
          · cases h
        · cases h
      · cases h
    · cases h
  | makeFunc fn first captured =>
    cases fn with
    | func f =>
      simp only [aop0, ho] at h ⊢
      split at h
      · rename_i hf
        rw [if_pos hf]
        split at h
        · rename_i cs hcs
          split at h
          · rename_i ds hds
            cases h
            try rw [hcs]
            try simp only
            rw [allD_ob ht, hds]
          · rename_i hds
            split at h
            · rename_i ks hks
              cases h
              try rw [hcs]
              try simp only
              rw [allD_ob ht, hds]
              simp only
              rw [capsOf_ob ht, hks]
            · cases h
        · cases h
      · cases h
    | _ => simp [aop0, ho] at h
  | slice t x lo hi mx =>
    simp only [aop0, ho] at h ⊢
    split at h
    · rename_i v hv
      try rw [hv]
      exact sliceA_ob h ht
    · cases h
  | indexAddr t x i =>
    simp only [aop0, ho] at h ⊢
    split at h
    · rename_i v n e e1 e2 e3
      try rw [e1, e2, e3]
      try simp only
      split at h
      · rename_i k hk
        try rw [hk]
        try simp only
        split at h
        · exact h
        · rename_i oo
          split at h
          · rename_i k' ety rows live hob
            split at h
            · rename_i hc
              cases h
              rw [ht oo (by simp), hob]
              try simp only
              rw [if_pos hc]
            · cases h
          · cases h
        · cases h
      · cases h
    · cases h
  | call cl =>
    cases hb : cl.callee with
    | value f => simp [aop0, ho, hb] at h
    | invoke r m => simp [aop0, ho, hb] at h
    | builtin b =>
      cases b with
      | len =>
        simp only [aop0, ho, hb] at h ⊢
        split at h
        · rename_i x t e1 e2
          split at h
          · rename_i v ti e3 e4
            try rw [e1, e2]
            try simp only
            try rw [e3, e4]
            try simp only
            split at h
            · rename_i e5
              try rw [e5]
              exact h
            · rename_i e e5
              try rw [e5]
              simp only [Option.map_eq_some_iff] at h ⊢
              obtain ⟨⟨k, rows, tc⟩, hq, rfl⟩ := h
              exact ⟨_, rowsOf_tc hq ht, rfl⟩
            · cases h
          · cases h
        · cases h
      | append =>
        simp only [aop0, ho, hb] at h ⊢
        split at h
        · rename_i s x t t2 e1 e2
          split at h
          · rename_i e3 e4
            try rw [e1, e2]
            try simp only
            try rw [e3, e4]
            exact appendW_ob h ht
          · rename_i vs vx hnw e3 e4
            try rw [e1, e2]
            try simp only
            try rw [e3, e4]
            exact appendA_ob h ht
          · cases h
        · cases h
      | clear =>
        simp only [aop0, ho, hb] at h ⊢
        split at h
        · rename_i s t e1 e2
          split at h
          · rename_i e3
            try rw [e1, e2]
            try simp only
            try rw [e3]
            exact clearW_ob h ht
          · cases h
        · cases h
      | max => simpa only [aop0, ho, hb] using h
      | min => simpa only [aop0, ho, hb] using h
      | _ => simp [aop0, ho, hb] at h
  | _ => first | (simpa only [aop0, ho] using h) | (simp [aop0, ho] at h)

theorem overA_ob {Γ : Ctx} {ob ob' : Nat → Option AObj} {t : TypeId} {o1 o2 lo n : Nat} {r : AOut} (h : overA Γ ob t o1 o2 lo n = some r) (ht : ∀ n ∈ r.touch, ob' n = ob n) : overA Γ ob' t o1 o2 lo n = some r := by
  have key : ob' o1 = ob o1 ∧ ob' o2 = ob o2 := by
    have h0 := h
    unfold overA at h0
    split at h0
    · split at h0
      · split at h0
        · cases h0; exact ⟨ht _ (by simp), ht _ (by simp)⟩
        · cases h0
      · cases h0
    · cases h0
  unfold overA at h ⊢
  rw [key.1, key.2]
  exact h

theorem sliceX_ob {Γ : Ctx} {ob ob' : Nat → Option AObj} {ev : TypeId → Operand → AT} {t : TypeId} {oo k lo0 n0 : Nat} {lo hi : Option Operand} {r : AOut} (h : sliceX Γ ob ev t oo k lo0 n0 lo hi = some r) (ht : ∀ n ∈ r.touch, ob' n = ob n) : sliceX Γ ob' ev t oo k lo0 n0 lo hi = some r := by
  have key : ob' oo = ob oo := by
    have h0 := h
    unfold sliceX at h0
    split at h0
    · split at h0
      · split at h0
        · cases h0; exact ht _ (by simp)
        · cases h0
      · cases h0
    · cases h0
  unfold sliceX at h ⊢
  rw [key]
  exact h

theorem newRows_ob {Γ : Ctx} {ob ob' : Nat → Option AObj} {ev : TypeId → Operand → AT} {t t2 : TypeId} {ti : TI} {x : Operand} {q : Nat × List (List D) × List Nat} (h : newRows Γ ob ev t t2 ti x = some q) (ht : ∀ n ∈ q.2.2, ob' n = ob n) : newRows Γ ob' ev t t2 ti x = some q := by
  unfold newRows at h ⊢
  split at h
  · rename_i htt
    rw [if_pos htt]
    split at h
    · obtain ⟨k, rows, tc⟩ := q
      exact rowsOf_tc h ht
    · cases h
  · rename_i htt
    rw [if_neg htt]
    exact h

theorem appendX_ob {Γ : Ctx} {N : Nat} {ob ob' : Nat → Option AObj} {ev : TypeId → Operand → AT} {t t2 : TypeId} {x : Operand} {oo k lo n : Nat} {r : AOut} (h : appendX Γ N ob ev t t2 x oo k lo n = some r) (ht : ∀ n ∈ r.touch, ob' n = ob n) : appendX Γ N ob' ev t t2 x oo k lo n = some r := by
  unfold appendX at h ⊢
  split at h
  · split at h
    · split at h
      · rename_i k2 rows2 tx k3 ety rows hnew hob
        have key : ob' oo = ob oo ∧ ∀ n ∈ tx, ob' n = ob n := by
          have h0 := h
          split at h0
          · split at h0
            · split at h0
              · cases h0; exact ⟨ht _ (List.mem_cons_self ..), fun n hn => ht n (List.mem_cons_of_mem _ hn)⟩
              · cases h0
            · cases h0; exact ⟨ht _ (List.mem_cons_self ..), fun n hn => ht n (List.mem_cons_of_mem _ hn)⟩
          · cases h0
        rw [newRows_ob hnew key.2, key.1, hob]
        exact h
      · cases h
    · cases h
  · cases h

theorem dstOf_ob {ob ob' : Nat → Option AObj} {x : AV} {q : Nat × Nat × Nat × Nat} (h : dstOf ob x = some q) (ht : ob' q.1 = ob q.1) : dstOf ob' x = some q := by
  unfold dstOf at h ⊢
  split at h
  · split at h
    · rename_i hob
      cases h
      simp only at ht
      rw [ht, hob]
    · cases h
  · exact h
  · exact h
  · cases h

theorem copyX_ob {Γ : Ctx} {ob ob' : Nat → Option AObj} {t t2 : TypeId} {x y : AV} {r : AOut} (h : copyX Γ ob t t2 x y = some r) (ht : ∀ n ∈ r.touch, ob' n = ob n) : copyX Γ ob' t t2 x y = some r := by
  unfold copyX at h ⊢
  split at h
  · split at h
    · rename_i sz oo k lo n k2 rows2 tx hsz hdst hrows2
      split at h
      · rename_i k3 ety rows hob
        split at h
        · rename_i hc
          cases h
          rw [dstOf_ob hdst (ht _ (List.mem_cons_self ..)), rowsOf_tc hrows2 fun n hn => ht n (List.mem_cons_of_mem _ hn), hsz]
          simp only
          rw [ht _ (List.mem_cons_self ..), hob]
          simp only
          rw [if_pos hc]
        · cases h
      · cases h
    · cases h
  · cases h

theorem capX_ob {ob ob' : Nat → Option AObj} {x : AV} {r : AOut} (h : capX ob x = some r) (ht : ∀ n ∈ r.touch, ob' n = ob n) : capX ob' x = some r := by
  unfold capX at h ⊢
  split at h
  · split at h
    · rename_i hob
      cases h
      rw [ht _ (by simp), hob]
    · cases h
  · cases h

theorem extA_ob {Γ : Ctx} {ob ob' : Nat → Option AObj} {e : Ext} {xs : List AV} {r : AOut} (h : extA Γ ob e xs = some r) (ht : ∀ n ∈ r.touch, ob' n = ob n) : extA Γ ob' e xs = some r := by
  unfold extA at h ⊢
  split at h
  · exact overA_ob h ht
  · exact h

theorem nextA_ob {ob ob' : Nat → Option AObj} {str : Bool} {t : AT} {r : AOut} (h : nextA ob str t = some r) (ht : ∀ n ∈ r.touch, ob' n = ob n) : nextA ob' str t = some r := by
  unfold nextA at h ⊢
  split at h
  · rename_i oo off
    split at h
    · rename_i s pos hit
      split at h
      · rename_i hc
        cases h
        have : ob' oo = ob oo := ht oo (by unfold nextIt; split <;> simp)
        rw [this, hit]
        simp only
        rw [if_pos hc]
      · cases h
    · cases h
  · cases h

theorem aop_ob {Γ : Ctx} {N : Nat} {ev : TypeId → Operand → AT} {ob ob' : Nat → Option AObj} {o : Oper} {r : AOut} (h : aop Γ N ev ob o = some r) (ht : ∀ n ∈ r.touch, ob' n = ob n) : aop Γ N ev ob' o = some r := by
  unfold aop at h ⊢
  split at h
  · rename_i hx
    rw [if_pos hx]
    unfold aopX at h ⊢
    split at h
    · split at h
      · exact sliceX_ob h ht
      · cases h
    · exact h
    · exact nextA_ob h ht
    · exact h
    · exact h
    · split at h
      · exact h
      · split at h
        · split at h
          · exact capX_ob h ht
          · cases h
        · cases h
      · split at h
        · split at h
          · exact copyX_ob h ht
          · cases h
        · cases h
      · split at h
        · split at h
          · exact appendX_ob h ht
          · cases h
        · cases h
      · split at h
        · exact extA_ob h ht
        · cases h
      · cases h
    · cases h
  · rename_i hx
    rw [if_neg hx]
    exact aop0_ob h ht

end Go.Eng
