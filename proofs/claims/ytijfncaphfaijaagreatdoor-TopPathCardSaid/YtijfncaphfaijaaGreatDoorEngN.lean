/- Every operation is sound; what an operation answers hangs on what it looks at alone. More operations, told beside the others: bytes turned into a string, or kept as data; a method bound to what it is called of; arrays behind data; interfaces against nil; rows of zeros, as many as told. A region's run, in the order of the text and in any order that its edges let. A region's run, in the order of the text and in any order that its edges let. Control; forgetting; a function's contract from its body. -/
import Derived.Test.YtijfncaphfaijaaGreatDoorEngX2
import Derived.Laws.BytesString
import Derived.Laws.MakeOwn
import Derived.ChangeKeysEq
import Derived.WideLaws
import Derived.MapKept
import Derived.OrdersIn
import Derived.LoopNIn
namespace Go.Eng

section
variable {P : Program} {Γ : Ctx} {c : Base} {nt : Nat} {env : Nat → AT} {ob : Nat → Option AObj} {ρ : Where} {S : Nat → Prop} {a : Act} {w : World}
variable {N : Nat} {o : Oper} {r : AOut}

theorem op_sound0 (hΓ : CtxOk P Γ) (hr : Rel c nt env ob ρ S a w) (hf : ∀ n, N ≤ n → n < N + 8 → ρ n = none) (hd : dstOk nt o.dst = true) (h : aop0 Γ N (aval Γ env) ob o = some r) : Goes P c nt N env ob ρ a w o r := by
  cases ho : o.op with
  | move x => exact sound_move hr hd (.inl ho) h
  | assign x => exact sound_move hr hd (.inr ho) h
  | pick x y z => exact sound_pick hr hd ho h
  | alloc t => exact sound_alloc hΓ hr hf hd ho h
  | box t x => exact sound_box hr hf hd ho h
  | build t ps => exact sound_build hΓ hr hd ho h
  | buildSlice t n ps => exact sound_buildSlice hΓ hr hf hd ho h
  | load t x => exact sound_load hΓ hr hd ho h
  | store t x y => exact sound_store hΓ hr hd ho h
  | nilCheck x => exact sound_nilCheck hr hd ho h
  | binOp op t x y t2 => exact sound_binOp hΓ hr hd ho h
  | unOp op t x => exact sound_unOp hr hd ho h
  | convert s t x => exact sound_convert hΓ hr hd ho h
  | makeFunc fn first captured =>
    cases fn with
    | func f => exact sound_makeFunc hr hd ho h
    | _ => simp [aop0, ho] at h
  | slice t x lo hi mx => exact sound_slice hΓ hr hd ho h
  | fieldAddr t x i => exact sound_fieldAddr hΓ hr hd ho h
  | field t x i => exact sound_field hΓ hr hd ho h
  | indexAddr t x i => exact sound_indexAddr hΓ hr hd ho h
  | index t x i => exact sound_index hΓ hr hd ho h
  | extract t i => exact sound_extract hr hd ho h
  | call cl =>
    cases hb : cl.callee with
    | value f => simp [aop0, ho, hb] at h
    | invoke r m => simp [aop0, ho, hb] at h
    | builtin b =>
      cases b with
      | len => exact sound_len hΓ hr hd ho hb h
      | append => exact sound_append hΓ hr hf hd ho hb h
      | max => exact sound_minmax hr hd ho (.inl hb) h
      | min => exact sound_minmax hr hd ho (.inr hb) h
      | clear => exact sound_clear hΓ hr hd ho hb h
      | _ => simp [aop0, ho, hb] at h
  | _ => simp [aop0, ho] at h

theorem op_sound (hΓ : CtxOk P Γ) (hr : Rel c nt env ob ρ S a w) (hf : ∀ n, N ≤ n → n < N + 8 → ρ n = none) (hd : dstOk nt o.dst = true) (h : aop Γ N (aval Γ env) ob o = some r) : Goes P c nt N env ob ρ a w o r := by
  unfold aop at h
  split at h
  · rename_i hx
    cases ho : o.op with
    | slice t x lo hi mx => exact sound_sliceX hΓ hr hd ho h
    | sliceToArrayPointer t x => exact sound_ptA hΓ hr hd ho h
    | build t ps => exact sound_buildP hΓ hr hd ho h
    | range t x => exact sound_rangeX hΓ hr hf hd ho h
    | next x str => exact sound_nextX hr hd ho h
    | buildSlice t len ps => exact sound_buildX hΓ hr hf hd ho h
    | indexAddr t x i => exact sound_idxX hΓ hr hd ho h
    | call cl =>
      cases hb : cl.callee with
      | value f =>
        cases f with
        | func f => exact sound_ext hΓ hr hd ho hb h
        | _ => simp [isX, ho, hb] at hx
      | invoke r m => simp [isX, ho, hb] at hx
      | builtin b =>
        cases b with
        | append => exact sound_appendX hΓ hr hf hd ho hb h
        | len => exact sound_lenX hΓ hr hd ho hb h
        | cap => exact sound_capX hΓ hr hd ho hb h
        | copy => exact sound_copyX hΓ hr hd ho hb h
        | _ => simp [isX, ho, hb] at hx
    | _ => simp [isX, ho] at hx
  · exact op_sound0 hΓ hr hf hd h

end

/-! ### What is looked at -/

theorem capsD_ob {ob ob' : Nat → Option AObj} : ∀ {ks : List CapV}, (∀ n ∈ ks.flatMap capT, ob' n = ob n) → capsD ob' ks = capsD ob ks
  | [], _ => rfl
  | .d x :: ks, h => by
    simp only [capsD]
    rw [capsD_ob (ks := ks) fun n hn => h n (by rw [List.flatMap_cons]; exact List.mem_append.2 (.inr hn))]
  | .ptr o off :: ks, h => by
    simp only [capsD]
    rw [capsD_ob (ks := ks) fun n hn => h n (by rw [List.flatMap_cons]; exact List.mem_append.2 (.inr hn)), h o (by simp [capT])]

theorem avD_ob {ob ob' : Nat → Option AObj} {x : AV} (h : ∀ n ∈ avT x, ob' n = ob n) : avD ob' x = avD ob x := by
  cases x with
  | clo f ks => simp only [avD]; rw [capsD_ob h]
  | d => rfl
  | nils => rfl
  | eptr => rfl
  | win => rfl
  | wx => rfl
  | yld => rfl
  | mph => rfl
  | vsl => rfl
  | own o => simp only [avD]; rw [h _ (by simp [avT])]
  | ptr o off => simp only [avD]; rw [h _ (by simp [avT])]

theorem allD_ob {ob ob' : Nat → Option AObj} : ∀ {xs : List AV}, (∀ n ∈ xs.flatMap avT, ob' n = ob n) → allD ob' xs = allD ob xs
  | [], _ => rfl
  | x :: xs, h => by
    simp only [allD]
    rw [avD_ob fun n hn => h n (by simp [hn]), allD_ob (xs := xs) fun n hn => h n (by rw [List.flatMap_cons]; exact List.mem_append.2 (.inr hn))]

theorem avArg_ob {eat : Bool} {ob ob' : Nat → Option AObj} {x : AV} (h : ∀ n ∈ avT x, ob' n = ob n) : avArg eat ob' x = avArg eat ob x := by
  cases x with
  | own n => simp only [avArg]; rw [h n (by simp [avT])]
  | _ => simp only [avArg]; rw [avD_ob h]

theorem allArg_ob {eat : Bool} {ob ob' : Nat → Option AObj} : ∀ {xs : List AV}, (∀ n ∈ xs.flatMap avT, ob' n = ob n) → allArg eat ob' xs = allArg eat ob xs
  | [], _ => rfl
  | x :: xs, h => by
    simp only [allArg]
    rw [avArg_ob fun n hn => h n (by simp [hn]), allArg_ob (xs := xs) fun n hn => h n (by rw [List.flatMap_cons]; exact List.mem_append.2 (.inr hn))]

theorem livesOf_ob {ob ob' : Nat → Option AObj} : ∀ {xs : List AV}, (∀ n ∈ xs.flatMap avT, ob' n = ob n) → livesOf ob' xs = livesOf ob xs
  | [], _ => rfl
  | x :: xs, h => by
    have ih := livesOf_ob (ob := ob) (ob' := ob') (xs := xs) fun n hn => h n (by rw [List.flatMap_cons]; exact List.mem_append.2 (.inr hn))
    cases x with
    | own n => simp only [livesOf]; rw [h n (by simp [avT]), ih]
    | _ => simpa only [livesOf] using ih

theorem rowsOf_ob {ob ob' : Nat → Option AObj} {x : AV} (h : ∀ n ∈ avT x, ob' n = ob n) : rowsOf ob' x = rowsOf ob x := by
  cases x with
  | own n => simp only [rowsOf]; rw [h n (by simp [avT])]
  | win n k lo m => simp only [rowsOf]; rw [h n (by simp [avT])]
  | wx n k lo m => simp only [rowsOf]; rw [h n (by simp [avT])]
  | d y => cases y <;> rfl
  | _ => rfl

theorem rowsOf_tc {ob ob' : Nat → Option AObj} {x : AV} {k : Nat} {rows : List (List D)} {tc : List Nat} (h : rowsOf ob x = some (k, rows, tc)) (ht : ∀ n ∈ tc, ob' n = ob n) : rowsOf ob' x = some (k, rows, tc) := by
  cases x with
  | own n =>
    simp only [rowsOf] at h ⊢
    split at h
    · rename_i k' e rows' live hob
      cases h
      rw [ht n (by simp), hob]
    · cases h
  | d y => cases y <;> first | exact h | cases h
  | nils k => exact h
  | win n k2 lo m =>
    simp only [rowsOf] at h ⊢
    split at h
    · rename_i k' e rows' live hob
      split at h
      · rename_i hc
        cases h
        rw [ht n (by simp), hob]
        simp only
        rw [if_pos hc]
      · cases h
    · cases h
  | wx n k2 lo m =>
    simp only [rowsOf] at h ⊢
    split at h
    · rename_i k' e rows' live hob
      split at h
      · rename_i hc
        cases h
        rw [ht n (by simp), hob]
        simp only
        rw [if_pos hc]
      · cases h
    · cases h
  | ptr => cases h
  | eptr => cases h
  | clo => cases h
  | yld => cases h
  | mph => cases h
  | vsl => cases h

theorem rowsOf_own {ob : Nat → Option AObj} {n : Nat} {q : Nat × List (List D) × List Nat} (h : rowsOf ob (.own n) = some q) : q.2.2 = [n] := by
  simp only [rowsOf] at h
  split at h
  · cases h; rfl
  · cases h

theorem rowsOf_win {ob : Nat → Option AObj} {n k lo m : Nat} {q : Nat × List (List D) × List Nat} (h : rowsOf ob (.win n k lo m) = some q) : q.2.2 = [n] := by
  simp only [rowsOf] at h
  split at h
  · split at h
    · cases h; rfl
    · cases h
  · cases h

theorem rowsOf_wx {ob : Nat → Option AObj} {n k lo m : Nat} {q : Nat × List (List D) × List Nat} (h : rowsOf ob (.wx n k lo m) = some q) : q.2.2 = [n] := by
  simp only [rowsOf] at h
  split at h
  · split at h
    · cases h; rfl
    · cases h
  · cases h

theorem argT_cons {ob ob' : Nat → Option AObj} {g : Bool} {ys : List AV} {args : List (Bool × List AV)} (h : ∀ n ∈ callTouch ((g, ys) :: args), ob' n = ob n) :
    (∀ n ∈ ys.flatMap avT, ob' n = ob n) ∧ ∀ n ∈ callTouch args, ob' n = ob n :=
  ⟨fun n hn => h n (List.mem_flatMap.2 ⟨_, List.mem_cons_self .., hn⟩), fun n hn => h n (by
    obtain ⟨y, hy, hny⟩ := List.mem_flatMap.1 hn
    exact List.mem_flatMap.2 ⟨y, List.mem_cons_of_mem _ hy, hny⟩)⟩

theorem convArgs_ob {ob ob' : Nat → Option AObj} : ∀ {args : List (Bool × List AV)} {es : List Bool}, (∀ n ∈ callTouch args, ob' n = ob n) → convArgs ob' es args = convArgs ob es args
  | [], _, _ => rfl
  | (g, ys) :: args, es, h => by
    simp only [convArgs]
    rw [allArg_ob (argT_cons h).1, convArgs_ob (args := args) (argT_cons h).2]

theorem eatenOf_ob {ob ob' : Nat → Option AObj} : ∀ {args : List (Bool × List AV)} {es : List Bool}, (∀ n ∈ callTouch args, ob' n = ob n) → eatenOf ob' es args = eatenOf ob es args
  | [], _, _ => rfl
  | (g, ys) :: args, es, h => by
    simp only [eatenOf]
    rw [livesOf_ob (argT_cons h).1, eatenOf_ob (args := args) (argT_cons h).2]

theorem lentOf_ob {ob ob' : Nat → Option AObj} : ∀ {args : List (Bool × List AV)} {es : List Bool}, (∀ n ∈ callTouch args, ob' n = ob n) → lentOf ob' es args = lentOf ob es args
  | [], _, _ => rfl
  | (g, ys) :: args, es, h => by
    simp only [lentOf]
    rw [livesOf_ob (argT_cons h).1, lentOf_ob (args := args) (argT_cons h).2]

theorem mem_livesT {ob : Nat → Option AObj} : ∀ {xs : List AV} {n : Nat}, n ∈ livesOf ob xs → n ∈ xs.flatMap avT
  | [], n, h => by simp [livesOf] at h
  | x :: xs, n, h => by
    rw [List.flatMap_cons]
    refine List.mem_append.2 ?_
    cases x with
    | own m =>
      simp only [livesOf] at h
      split at h
      · rcases List.mem_cons.1 h with rfl | h
        · exact .inl (by simp [avT])
        · exact .inr (mem_livesT h)
      · exact .inr (mem_livesT h)
    | _ => exact .inr (mem_livesT (xs := xs) (by simpa [livesOf] using h))

theorem mem_lentT {ob : Nat → Option AObj} : ∀ {args : List (Bool × List AV)} {es : List Bool} {n : Nat}, n ∈ lentOf ob es args → n ∈ callTouch args
  | [], _, _, h => by simp [lentOf] at h
  | (g, ys) :: args, es, n, h => by
    simp only [lentOf, List.mem_append] at h
    rcases h with h | h
    · cases hes : es.headD false <;> rw [hes] at h
      · exact List.mem_flatMap.2 ⟨_, List.mem_cons_self .., mem_livesT h⟩
      · cases h
    · obtain ⟨y, hy, hny⟩ := List.mem_flatMap.1 (mem_lentT (args := args) h)
      exact List.mem_flatMap.2 ⟨y, List.mem_cons_of_mem _ hy, hny⟩

theorem callUpd_ob {ob ob' : Nat → Option AObj} {args : List (Bool × List AV)} {es : List Bool} {sc : Bool} (h : ∀ n ∈ callTouch args, ob' n = ob n) : callUpd ob' es args sc = callUpd ob es args sc := by
  unfold callUpd
  rw [eatenOf_ob h, lentOf_ob h]
  cases sc with
  | true => rfl
  | false =>
    congr 1
    simp only
    refine List.map_congr_left fun n hn => ?_
    simp only [frz, h n (mem_lentT hn)]

theorem callOk_ob {ob ob' : Nat → Option AObj} {args : List (Bool × List AV)} {es : List Bool} {n : Nat} (h : ∀ n ∈ callTouch args, ob' n = ob n) : callOk ob' es args n = callOk ob es args n := by
  unfold callOk
  rw [eatenOf_ob h, lentOf_ob h]

theorem capsOf_ob {ob ob' : Nat → Option AObj} : ∀ {xs : List AV}, (∀ n ∈ xs.flatMap avT, ob' n = ob n) → capsOf ob' xs = capsOf ob xs
  | [], _ => rfl
  | x :: xs, h => by
    have ih := capsOf_ob (xs := xs) fun n hn => h n (by rw [List.flatMap_cons]; exact List.mem_append.2 (.inr hn))
    have hx := avD_ob (x := x) fun n hn => h n (by simp [hn])
    cases x <;> simp only [capsOf, ih] <;> rw [hx]

theorem fillRows_ob {ob ob' : Nat → Option AObj} {ev : TypeId → Operand → AT} {e k : Nat} : ∀ {parts : List (Nat × Operand)} {rows : List (List D)} {out : List (List D) × List Nat}, fillRows ob ev e k rows parts = some out → (∀ n ∈ out.2, ob' n = ob n) → fillRows ob' ev e k rows parts = some out
  | [], rows, out, h, _ => h
  | (i, x) :: parts, rows, out, h, ht => by
    simp only [fillRows] at h ⊢
    split at h
    · rename_i ys hys
      split at h
      · rename_i ds hds
        split at h
        · rename_i hc
          simp only [Option.map_eq_some_iff] at h
          obtain ⟨q, hq, rfl⟩ := h
          rw [allD_ob fun n hn => ht n (List.mem_append.2 (.inl hn)), hds]
          simp only
          rw [if_pos hc, fillRows_ob hq fun n hn => ht n (List.mem_append.2 (.inr hn))]
          rfl
        · cases h
      · cases h
    · cases h

theorem appendA_ob {Γ : Ctx} {N t t2 : Nat} {ob ob' : Nat → Option AObj} {s x : AV} {r : AOut} (h : appendA Γ N ob t t2 s x = some r) (ht : ∀ n ∈ r.touch, ob' n = ob n) : appendA Γ N ob' t t2 s x = some r := by
  unfold appendA at h ⊢
  split at h
  · rename_i e _ he hu
    split at h
    · rename_i ti hti
      split at h
      · rename_i k2 rows2 tx hrows
        split at h
        · rename_i k rows ts hs
          split at h
          · rename_i hc
            cases h
            simp only [List.mem_append] at ht
            rw [rowsOf_tc hrows fun n hn => ht n (.inr hn)]
            simp only
            have hs' : headOf ob' e s = some (k, rows, ts) := by
              rw [← hs]
              cases s with
              | own n =>
                have hn : n ∈ ts := by
                  simp only [headOf] at hs
                  split at hs
                  · split at hs
                    · cases hs; simp
                    · cases hs
                  · cases hs
                simp only [headOf]
                rw [ht n (.inl hn)]
              | _ => rfl
            rw [hs']
            simp only
            rw [if_pos hc]
          · cases h
        · cases h
      · cases h
    · cases h
  · cases h

theorem appendV_ob {Γ : Ctx} {N t t2 : Nat} {ob ob' : Nat → Option AObj} {s x : AV} {r : AOut} (h : appendV Γ N ob t t2 s x = some r) (ht : ∀ n ∈ r.touch, ob' n = ob n) : appendV Γ N ob' t t2 s x = some r := by
  unfold appendV at h ⊢
  split at h
  · unfold appendS at h ⊢
    split at h
    · split at h
      · exact appendA_ob h ht
      · cases h
    · cases h
  · exact appendA_ob h ht

theorem sliceA_ob {Γ : Ctx} {t : TypeId} {ob ob' : Nat → Option AObj} {ev : TypeId → Operand → AT} {x : AV} {lo hi mx : Option Operand} {r : AOut} (h : sliceA Γ ob ev t x lo hi mx = some r) (ht : ∀ n ∈ r.touch, ob' n = ob n) : sliceA Γ ob' ev t x lo hi mx = some r := by
  have key : ∀ n ∈ avT x, ob' n = ob n := by
    intro n hn
    cases x with
    | own m =>
      refine ht n ?_
      simp only [avT, List.mem_singleton] at hn
      subst hn
      simp only [sliceA] at h
      split at h
      · split at h
        · rename_i k k2 rows tc hk hrows
          have htc : tc = [n] := rowsOf_own hrows
          subst htc
          repeat' split at h
          all_goals first | (cases h; exact List.mem_singleton.2 rfl) | cases h
        · cases h
      · cases h
    | win m k0 lo0 n0 =>
      refine ht n ?_
      simp only [avT, List.mem_singleton] at hn
      subst hn
      simp only [sliceA] at h
      split at h
      · split at h
        · rename_i k k2 rows tc hk hrows
          have htc : tc = [n] := rowsOf_win hrows
          subst htc
          repeat' split at h
          all_goals first | (cases h; exact List.mem_singleton.2 rfl) | cases h
        · cases h
      · cases h
    | wx m k0 lo0 n0 =>
      refine ht n ?_
      simp only [avT, List.mem_singleton] at hn
      subst hn
      simp only [sliceA] at h
      split at h
      · split at h
        · rename_i k k2 rows tc hk hrows
          have htc : tc = [n] := rowsOf_wx hrows
          subst htc
          repeat' split at h
          all_goals first | (cases h; exact List.mem_singleton.2 rfl) | cases h
        · cases h
      · cases h
    | d y => simp [avT] at hn
    | nils k => simp [avT] at hn
    | ptr m off =>
      simp only [sliceA] at h
      split at h
      · split at h
        · rename_i hrows; simp [rowsOf] at hrows
        · cases h
      · cases h
    | eptr m a b c =>
      simp only [sliceA] at h
      split at h
      · split at h
        · rename_i hrows; simp [rowsOf] at hrows
        · cases h
      · cases h
    | vsl m n' =>
      simp only [sliceA] at h
      split at h
      · split at h
        · rename_i hrows; simp [rowsOf] at hrows
        · cases h
      · cases h
    | yld m =>
      simp only [sliceA] at h
      split at h
      · split at h
        · rename_i hrows; simp [rowsOf] at hrows
        · cases h
      · cases h
    | mph m =>
      simp only [sliceA] at h
      split at h
      · split at h
        · rename_i hrows; simp [rowsOf] at hrows
        · cases h
      · cases h
    | clo f ks =>
      simp only [sliceA] at h
      split at h
      · split at h
        · rename_i hrows; simp [rowsOf] at hrows
        · cases h
      · cases h
  rw [← h]
  unfold sliceA
  split
  · rfl
  · cases x with
    | own m => simp only [avD_ob key, rowsOf_ob key, key m (by simp [avT])]
    | win m k0 lo0 n0 => simp only [avD_ob key, rowsOf_ob key, key m (by simp [avT])]
    | wx m k0 lo0 n0 => simp only [avD_ob key, rowsOf_ob key]
    | _ => simp only [avD_ob key, rowsOf_ob key]

theorem appendW_ob {Γ : Ctx} {ob ob' : Nat → Option AObj} {t t2 : TypeId} {oo k lo n : Nat} {x : AV} {r : AOut} (h : appendW Γ ob t t2 oo k lo n x = some r) (ht : ∀ n ∈ r.touch, ob' n = ob n) : appendW Γ ob' t t2 oo k lo n x = some r := by
  unfold appendW at h ⊢
  split at h
  · rename_i e _ he hu
    split at h
    · rename_i sz hsz
      split at h
      · rename_i k2 rows2 tx k3 ety rows hrows hob
        split at h
        · rename_i hc
          cases h
          rw [rowsOf_tc hrows fun n hn => ht n (List.mem_cons_of_mem _ hn), ht oo (List.mem_cons_self ..), hob]
          simp only
          rw [if_pos hc]
        · cases h
      · cases h
    · cases h
  · cases h

theorem clearW_ob {Γ : Ctx} {ob ob' : Nat → Option AObj} {t : TypeId} {oo k lo n : Nat} {r : AOut} (h : clearW Γ ob t oo k lo n = some r) (ht : ∀ n ∈ r.touch, ob' n = ob n) : clearW Γ ob' t oo k lo n = some r := by
  unfold clearW at h ⊢
  split at h
  · rename_i e he
    split at h
    · rename_i ti hti
      split at h
      · rename_i z k3 ety rows hz hob
        split at h
        · rename_i hc
          cases h
          rw [allD_ob fun n hn => ht n (List.mem_cons_of_mem _ hn), hz, ht oo (List.mem_cons_self ..), hob]
          simp only
          rw [if_pos hc]
        · cases h
      · cases h
    · cases h
  · cases h

theorem aop0_ob {Γ : Ctx} {N : Nat} {ev : TypeId → Operand → AT} {ob ob' : Nat → Option AObj} {o : Oper} {r : AOut} (h : aop0 Γ N ev ob o = some r) (ht : ∀ n ∈ r.touch, ob' n = ob n) : aop0 Γ N ev ob' o = some r := by
  cases ho : o.op with
  | buildSlice t n ps =>
    simp only [aop0, ho] at h ⊢
    split at h
    · rename_i e he
      try rw [he]
      try simp only
      split at h
      · rename_i ti hti
        try rw [hti]
        try simp only
        split at h
        · rename_i z hz
          split at h
          · rename_i hc
            simp only [Option.map_eq_some_iff] at h
            obtain ⟨q, hq, rfl⟩ := h
            rw [allD_ob fun n hn => ht n (List.mem_append.2 (.inl hn)), hz]
            try simp only
            rw [if_pos hc, fillRows_ob hq fun n hn => ht n (List.mem_append.2 (.inr hn))]
            rfl
          · cases h
        · cases h
      · cases h
    · cases h
  | load t x =>
    simp only [aop0, ho] at h ⊢
    split at h
    · rename_i oo off e
      split at h
      · rename_i cells live hob
        simp only [Option.map_eq_some_iff] at h
        obtain ⟨q, hq, rfl⟩ := h
        rw [ht oo (by simp), hob]
        simp [hq]
      · cases h
    · exact h
    · rename_i oo k i j e
      split at h
      · rename_i k' ety rows live hob
        split at h
        · rename_i hkk
          split at h
          · rename_i rr hrr
            simp only [Option.map_eq_some_iff] at h
            obtain ⟨q, hq, rfl⟩ := h
            rw [ht oo (by simp), hob]
            try simp only
            rw [if_pos hkk, hrr]
            simp only [hq, Option.map_some]
          · cases h
        · cases h
      · cases h
    · cases h
  | store t x y =>
    simp only [aop0, ho] at h ⊢
    split at h
    · rename_i oo off ys k e1 e2 e3
      split at h
      · rename_i cells hob
        split at h
        · rename_i hc
          cases h
          rw [ht oo (by simp), hob]
          try simp only
          rw [if_pos hc]
        · cases h
      · cases h
    · rename_i oo kk i j ys k e1 e2 e3
      split at h
      · rename_i k' e rows ds hob hds
        split at h
        · rename_i hc
          split at h
          · rename_i rr hrr
            cases h
            rw [ht oo (by simp), hob, allD_ob fun n hn => ht n (by simp only [List.mem_cons]; exact .inr hn), hds]
            try simp only
            rw [if_pos hc, hrr]
          · cases h
        · cases h
      · cases h
    · cases h
  | makeFunc fn first captured =>
    cases fn with
    | func f =>
      simp only [aop0, ho] at h ⊢
      split at h
      · rename_i hf
        rw [if_pos hf]
        split at h
        · rename_i cs hcs
          split at h
          · rename_i ds hds
            cases h
            try rw [hcs]
            try simp only
            rw [allD_ob ht, hds]
          · rename_i hds
            split at h
            · rename_i ks hks
              cases h
              try rw [hcs]
              try simp only
              rw [allD_ob ht, hds]
              simp only
              rw [capsOf_ob ht, hks]
            · cases h
        · cases h
      · cases h
    | _ => simp [aop0, ho] at h
  | slice t x lo hi mx =>
    simp only [aop0, ho] at h ⊢
    split at h
    · rename_i v hv
      try rw [hv]
      exact sliceA_ob h ht
    · cases h
  | indexAddr t x i =>
    simp only [aop0, ho] at h ⊢
    split at h
    · rename_i v n e e1 e2 e3
      try rw [e1, e2, e3]
      try simp only
      split at h
      · rename_i k hk
        try rw [hk]
        try simp only
        split at h
        · exact h
        · rename_i oo
          split at h
          · rename_i k' ety rows live hob
            split at h
            · rename_i hc
              cases h
              rw [ht oo (by simp), hob]
              try simp only
              rw [if_pos hc]
            · cases h
          · cases h
        · cases h
      · cases h
    · cases h
  | call cl =>
    cases hb : cl.callee with
    | value f => simp [aop0, ho, hb] at h
    | invoke r m => simp [aop0, ho, hb] at h
    | builtin b =>
      cases b with
      | len =>
        simp only [aop0, ho, hb] at h ⊢
        split at h
        · rename_i x t e1 e2
          split at h
          · rename_i v ti e3 e4
            try rw [e1, e2]
            try simp only
            try rw [e3, e4]
            try simp only
            split at h
            · rename_i e5
              try rw [e5]
              exact h
            · rename_i e e5
              try rw [e5]
              simp only [Option.map_eq_some_iff] at h ⊢
              obtain ⟨⟨k, rows, tc⟩, hq, rfl⟩ := h
              exact ⟨_, rowsOf_tc hq ht, rfl⟩
            · cases h
          · cases h
        · cases h
      | append =>
        simp only [aop0, ho, hb] at h ⊢
        split at h
        · rename_i s x t t2 e1 e2
          split at h
          · rename_i e3 e4
            try rw [e1, e2]
            try simp only
            try rw [e3, e4]
            exact appendW_ob h ht
          · rename_i vs vx hnw e3 e4
            try rw [e1, e2]
            try simp only
            try rw [e3, e4]
            exact appendV_ob h ht
          · cases h
        · cases h
      | clear =>
        simp only [aop0, ho, hb] at h ⊢
        split at h
        · rename_i s t e1 e2
          split at h
          · rename_i e3
            try rw [e1, e2]
            try simp only
            try rw [e3]
            exact clearW_ob h ht
          · cases h
        · cases h
      | max => simpa only [aop0, ho, hb] using h
      | min => simpa only [aop0, ho, hb] using h
      | _ => simp [aop0, ho, hb] at h
  | _ => first | (simpa only [aop0, ho] using h) | (simp [aop0, ho] at h)

theorem overA_ob {Γ : Ctx} {ob ob' : Nat → Option AObj} {t : TypeId} {o1 o2 lo n : Nat} {r : AOut} (h : overA Γ ob t o1 o2 lo n = some r) (ht : ∀ n ∈ r.touch, ob' n = ob n) : overA Γ ob' t o1 o2 lo n = some r := by
  have key : ob' o1 = ob o1 ∧ ob' o2 = ob o2 := by
    have h0 := h
    unfold overA at h0
    split at h0
    · split at h0
      · split at h0
        · cases h0; exact ⟨ht _ (by simp), ht _ (by simp)⟩
        · cases h0
      · cases h0
    · cases h0
  unfold overA at h ⊢
  rw [key.1, key.2]
  exact h

theorem sliceX_ob {Γ : Ctx} {ob ob' : Nat → Option AObj} {ev : TypeId → Operand → AT} {t : TypeId} {oo k lo0 n0 : Nat} {lo hi : Option Operand} {r : AOut} (h : sliceX Γ ob ev t oo k lo0 n0 lo hi = some r) (ht : ∀ n ∈ r.touch, ob' n = ob n) : sliceX Γ ob' ev t oo k lo0 n0 lo hi = some r := by
  have key : ob' oo = ob oo := by
    have h0 := h
    unfold sliceX at h0
    split at h0
    · split at h0
      · split at h0
        · cases h0; exact ht _ (by simp)
        · cases h0
      · cases h0
    · cases h0
  unfold sliceX at h ⊢
  rw [key]
  exact h

theorem newRows_ob {Γ : Ctx} {ob ob' : Nat → Option AObj} {ev : TypeId → Operand → AT} {t t2 : TypeId} {ti : TI} {x : Operand} {q : Nat × List (List D) × List Nat} (h : newRows Γ ob ev t t2 ti x = some q) (ht : ∀ n ∈ q.2.2, ob' n = ob n) : newRows Γ ob' ev t t2 ti x = some q := by
  unfold newRows at h ⊢
  split at h
  · rename_i htt
    rw [if_pos htt]
    split at h
    · obtain ⟨k, rows, tc⟩ := q
      exact rowsOf_tc h ht
    · cases h
  · rename_i htt
    rw [if_neg htt]
    exact h

theorem appendX_ob {Γ : Ctx} {N : Nat} {ob ob' : Nat → Option AObj} {ev : TypeId → Operand → AT} {t t2 : TypeId} {x : Operand} {oo k lo n : Nat} {r : AOut} (h : appendX Γ N ob ev t t2 x oo k lo n = some r) (ht : ∀ n ∈ r.touch, ob' n = ob n) : appendX Γ N ob' ev t t2 x oo k lo n = some r := by
  unfold appendX at h ⊢
  split at h
  · split at h
    · split at h
      · rename_i k2 rows2 tx k3 ety rows hnew hob
        have key : ob' oo = ob oo ∧ ∀ n ∈ tx, ob' n = ob n := by
          have h0 := h
          split at h0
          · split at h0
            · split at h0
              · cases h0; exact ⟨ht _ (List.mem_cons_self ..), fun n hn => ht n (List.mem_cons_of_mem _ hn)⟩
              · cases h0
            · cases h0; exact ⟨ht _ (List.mem_cons_self ..), fun n hn => ht n (List.mem_cons_of_mem _ hn)⟩
          · cases h0
        rw [newRows_ob hnew key.2, key.1, hob]
        exact h
      · cases h
    · cases h
  · cases h

theorem dstOf_ob {ob ob' : Nat → Option AObj} {x : AV} {q : Nat × Nat × Nat × Nat} (h : dstOf ob x = some q) (ht : ob' q.1 = ob q.1) : dstOf ob' x = some q := by
  unfold dstOf at h ⊢
  split at h
  · split at h
    · rename_i hob
      cases h
      simp only at ht
      rw [ht, hob]
    · cases h
  · exact h
  · exact h
  · cases h

theorem copyX_ob {Γ : Ctx} {ob ob' : Nat → Option AObj} {t t2 : TypeId} {x y : AV} {r : AOut} (h : copyX Γ ob t t2 x y = some r) (ht : ∀ n ∈ r.touch, ob' n = ob n) : copyX Γ ob' t t2 x y = some r := by
  unfold copyX at h ⊢
  split at h
  · split at h
    · rename_i sz oo k lo n k2 rows2 tx hsz hdst hrows2
      split at h
      · rename_i k3 ety rows hob
        split at h
        · rename_i hc
          cases h
          rw [dstOf_ob hdst (ht _ (List.mem_cons_self ..)), rowsOf_tc hrows2 fun n hn => ht n (List.mem_cons_of_mem _ hn), hsz]
          simp only
          rw [ht _ (List.mem_cons_self ..), hob]
          simp only
          rw [if_pos hc]
        · cases h
      · cases h
    · cases h
  · cases h

theorem capX_ob {ob ob' : Nat → Option AObj} {x : AV} {r : AOut} (h : capX ob x = some r) (ht : ∀ n ∈ r.touch, ob' n = ob n) : capX ob' x = some r := by
  unfold capX at h ⊢
  split at h
  · split at h
    · rename_i hob
      cases h
      rw [ht _ (by simp), hob]
    · cases h
  · cases h

theorem extA_ob {Γ : Ctx} {ob ob' : Nat → Option AObj} {e : Ext} {xs : List AV} {r : AOut} (h : extA Γ ob e xs = some r) (ht : ∀ n ∈ r.touch, ob' n = ob n) : extA Γ ob' e xs = some r := by
  unfold extA at h ⊢
  split at h
  · exact overA_ob h ht
  · exact h

theorem nextA_ob {ob ob' : Nat → Option AObj} {str : Bool} {t : AT} {r : AOut} (h : nextA ob str t = some r) (ht : ∀ n ∈ r.touch, ob' n = ob n) : nextA ob' str t = some r := by
  unfold nextA at h ⊢
  split at h
  · rename_i oo off
    split at h
    · rename_i s pos hit
      split at h
      · rename_i hc
        cases h
        have : ob' oo = ob oo := ht oo (by unfold nextIt; split <;> simp)
        rw [this, hit]
        simp only
        rw [if_pos hc]
      · cases h
    · cases h
  · cases h

theorem arrS_ob {Γ : Ctx} {ob ob' : Nat → Option AObj} {ev : TypeId → Operand → AT} {t : TypeId} {oo off : Nat} {lo hi : Option Operand} {r : AOut} (h : arrS Γ ob ev t oo off lo hi = some r) (ht : ∀ n ∈ r.touch, ob' n = ob n) : arrS Γ ob' ev t oo off lo hi = some r := by
  unfold arrS at h ⊢
  split at h
  · rename_i n e har
    split at h
    · rename_i k cells live l hh hk hob el eh
      split at h
      · rename_i ds hds
        split at h
        · rename_i hc
          cases h
          rw [ht oo (by simp), hk, hob, el, eh]
          simp only [hds]
          rw [if_pos hc]
        · cases h
      · cases h
    · cases h
  · cases h

theorem aop_ob {Γ : Ctx} {N : Nat} {ev : TypeId → Operand → AT} {ob ob' : Nat → Option AObj} {o : Oper} {r : AOut} (h : aop Γ N ev ob o = some r) (ht : ∀ n ∈ r.touch, ob' n = ob n) : aop Γ N ev ob' o = some r := by
  unfold aop at h ⊢
  split at h
  · rename_i hx
    rw [if_pos hx]
    unfold aopX at h ⊢
    split at h
    · split at h
      · exact sliceX_ob h ht
      · exact arrS_ob h ht
      · cases h
    · exact h
    · split at h
      · exact h
      · cases h
    · exact h
    · exact nextA_ob h ht
    · exact h
    · exact h
    · split at h
      · exact h
      · split at h
        · split at h
          · exact capX_ob h ht
          · cases h
        · cases h
      · split at h
        · split at h
          · exact copyX_ob h ht
          · cases h
        · cases h
      · split at h
        · split at h
          · exact appendX_ob h ht
          · cases h
        · cases h
      · split at h
        · exact extA_ob h ht
        · cases h
      · cases h
    · cases h
  · rename_i hx
    rw [if_neg hx]
    exact aop0_ob h ht

end Go.Eng
namespace Go.Eng

/-- Rows of one byte each, as numbers. -/
def bytesD : List (List D) → Option (List Int)
  | [] => some []
  | [.v (.int .u8 n)] :: r => (bytesD r).map (n :: ·)
  | _ => none

def strD (l : List Int) : ByteArray := l.foldl (fun r n => r.push (UInt8.ofNat n.toNat)) ByteArray.empty

def isU8 (Γ : Ctx) (t : TypeId) : Bool := match Γ.elem t with
  | some e => match Γ.ty e with
    | some ti => match ti.desc with
      | .int .u8 => true
      | _ => false
    | none => false
  | none => false

def isStr (Γ : Ctx) (t : TypeId) : Bool := match Γ.ty t with
  | some ti => match ti.desc with
    | .str => true
    | _ => false
  | none => false

/-- Bytes as a string. -/
def strY (ob : Nat → Option AObj) (v : AV) : Option AOut := match rowsOf ob v with
  | some (k, rows, tc) => if k = 1 then (bytesD rows).map fun l => ⟨.cs false [.d (.v (.string (strD l)))], [], tc⟩ else none
  | none => none

/-- An own row that is turned into what bytes of a string are: data from then on. -/
def keepY (ob : Nat → Option AObj) (oo : Nat) : Option AOut := match ob oo with
  | some (.row k _ rows true) => if k = 1 ∧ rows.isEmpty = false then some ⟨.cs false [.d (.vec 1 rows)], [(oo, none)], [oo]⟩ else none
  | _ => none

/-- A string's bytes, as data. -/
def bytY (Γ : Ctx) (s t : TypeId) (v : AV) : Option AOut := match v with
  | .d (.v (.string str)) => if (isStr Γ s && isU8 Γ t) = true ∧ str.size ≤ 9223372036854775807 then some ⟨.cs false [.d (.vec 1 (strRows str))], [], []⟩ else none
  | _ => none

def convY (Γ : Ctx) (ob : Nat → Option AObj) (s t : TypeId) (v : AV) : Option AOut := if isU8 Γ s then
    (if s = t then (match v with
      | .own oo => keepY ob oo
      | _ => none)
    else if isStr Γ t then strY ob v else none)
  else bytY Γ s t v

/-- An element of a window of an own row. -/
def winI (Γ : Ctx) (ob : Nat → Option AObj) (t : TypeId) (oo k lo n : Nat) (i : Int) : Option AOut := match Γ.elem t with
  | some e => match Γ.size e, ob oo with
    | some sz, some (.row k' _ rows _) => if k = sz ∧ k = k' ∧ 0 ≤ i ∧ i < n ∧ lo + n ≤ rows.length then some ⟨.cs false [.eptr oo k (lo + i.toNat) 0], [], [oo]⟩ else none
    | _, _ => none
  | none => none

/-- The rows of an array's cells. -/
def chunkD (k n : Nat) (cells : List D) : List (List D) := (List.range n).map fun i => (cells.drop (i * k)).take k

/-- A slice of an array behind data. -/
def ptS (Γ : Ctx) (ev : TypeId → Operand → AT) (t : TypeId) (cells : List D) (lo hi : Option Operand) : Option AOut := match arrOf Γ t with
  | some (n, e) => match Γ.size e, optInt ev 0 lo, optInt ev n hi with
    | some k, some l, some h => if 0 ≤ l ∧ l ≤ h ∧ h ≤ n ∧ l < n ∧ n ≤ 9223372036854775807 ∧ n * k ≤ cells.length then
        some ⟨.cs false [.d (.vec k (((chunkD k n cells).take h.toNat).drop l.toNat))], [], []⟩ else none
    | _, _, _ => none
  | none => none

/-- An element of an array behind data. -/
def ptI (Γ : Ctx) (t : TypeId) (cells : List D) (i : Int) : Option AOut := match arrOf Γ t with
  | some (n, e) => match Γ.size e with
    | some k => if 0 ≤ i ∧ i < n then some ⟨.cs false [.d (.pt (cells.drop (i.toNat * k)))], [], []⟩ else none
    | none => none
  | none => none

/-- An element of an array in a row. -/
def epI (Γ : Ctx) (t : TypeId) (oo kk i0 j : Nat) (i : Int) : Option AOut := match arrOf Γ t with
  | some (n, e) => match Γ.size e with
    | some k => if 0 ≤ i ∧ i < n then some ⟨.cs false [.eptr oo kk i0 (j + i.toNat * k)], [], []⟩ else none
    | none => none
  | none => none

def isIface (Γ : Ctx) (t : TypeId) : Bool := match Γ.ty t with
  | some ti => match ti.desc with
    | .iface => true
    | _ => false
  | none => false

def isConstO : Operand → Bool
  | .const _ => true
  | _ => false

def eqY (op : BinOp) (b : Bool) : Option AOut := match op with
  | .eql => some (pureOut (.cs false [.d (.v (.bool b))]))
  | .neq => some (pureOut (.cs false [.d (.v (.bool (!b)))]))
  | _ => none

/-- Interfaces that are both nil; arrays of scalars. -/
def binY (Γ : Ctx) (op : BinOp) (t : TypeId) (y : Operand) (u v : AT) : Option AOut := match u, v with
  | .cs false [.d (.v .nilIface)], .cs false [.d (.v .nilIface)] => if isIface Γ t && isConstO y then eqY op true else none
  | .cs true xs, .cs true ys => match arrOf Γ t with
    | some (n, e) => match Γ.size e, cellsEq Γ (List.replicate n (0, e)) xs ys with
      | some k, some b => if k = 1 then eqY op b else none
      | _, _ => none
    | none => none
  | _, _ => none

/-- So many zero rows. -/
def mkA (Γ : Ctx) (N : Nat) (ob : Nat → Option AObj) (t : TypeId) (x y : AT) : Option AOut := match x.int?, y.int?, Γ.elem t with
  | some n, some m, some e => match Γ.ty e with
    | some ti => match allD ob ti.zero with
      | some z => if 0 ≤ n ∧ n = m ∧ z.length = ti.size ∧ 0 < ti.size ∧ ti.bytes * n ≤ 281474976710656 ∧ n ≤ 140737488355328 then
          some ⟨.cs false [.own N], [(N, some (.row ti.size e (List.replicate n.toNat z) true))], ti.zero.flatMap avT⟩ else none
      | none => none
    | none => none
  | _, _, _ => none

/-- A type of maps of truths: what its keys are. -/
def mapK (Γ : Ctx) (t : TypeId) : Option (Option IntKind) := match Γ.ty t with
  | some ti => match ti.desc with
    | .map k => match Γ.ty k with
      | some tk => match tk.desc with
        | .int q => some (some q)
        | .str => some none
        | _ => none
      | none => none
    | _ => none
  | none => none
def keyEq : Value → Value → Bool
  | .int _ a, .int _ b => decide (a = b)
  | .string a, .string b => decide (a = b)
  | _, _ => false
/-- Is it among the keys? -/
def hasK : List Value → Value → Bool
  | [], _ => false
  | y :: r, k => keyEq y k || hasK r k
def mkM (Γ : Ctx) (N : Nat) (t : TypeId) : Option AOut := (mapK Γ t).map fun kd => ⟨.cs false [.mph N], [(N, some (.ms kd []))], []⟩
def lookM (Γ : Ctx) (ob : Nat → Option AObj) (t : TypeId) (oo : Nat) (k : Value) : Option AOut := match mapK Γ t, ob oo with
  | some kd, some (.ms kd' ks) => if kd = kd' ∧ keyK kd k = true then some ⟨.cs false [.d (.v (.bool (hasK ks k)))], [], [oo]⟩ else none
  | _, _ => none
def updM (Γ : Ctx) (ob : Nat → Option AObj) (t : TypeId) (oo : Nat) (k : Value) : Option AOut := match mapK Γ t, ob oo with
  | some kd, some (.ms kd' ks) => if kd = kd' ∧ keyK kd k = true then some ⟨.undef, [(oo, some (.ms kd (k :: ks)))], [oo]⟩ else none
  | _, _ => none
/-- An element of an array that is a value. -/
def idxY (Γ : Ctx) (t : TypeId) (i : Int) : AT → Option AOut
  | .cs true cells => match arrOf Γ t with
    | some (n, e) => match Γ.size e with
      | some k => if 0 ≤ i ∧ i < n then (partA Γ e cells (i.toNat * k)).map pureOut else none
      | none => none
    | none => none
  | _ => none
def AT.v? : AT → Option Value
  | .cs false [.d (.v x)] => some x
  | _ => none
def AT.mp? : AT → Option Nat
  | .cs false [.mph oo] => some oo
  | _ => none

/-- One struct alone. -/
def aggOf (ev : TypeId → Operand → AT) : List Operand → Option (List AV)
  | [x] => match ev 0 x with
    | .cs true cs => some cs
    | _ => none
  | _ => none
theorem aggOf_ev {ev ev' : TypeId → Operand → AT} : ∀ {xs : List Operand}, (∀ x ∈ xs, ∀ t, ev' t x = ev t x) → aggOf ev' xs = aggOf ev xs
  | [], _ => rfl
  | [x], h => by simp only [aggOf, h x (List.mem_cons_self ..)]
  | _ :: _ :: _, _ => rfl
def bdY (ob : Nat → Option AObj) (ev : TypeId → Operand → AT) (f : FuncId) (first captured : Array Operand) : Option AOut := if captured.size = 0 then
    match onesOf ev first.toList with
    | some cs => (allD ob cs).map fun ds => ⟨.cs false [.d (.bd f ds)], [], cs.flatMap avT⟩
    | none => match aggOf ev first.toList with
      | some cs => (allD ob cs).map fun ds => ⟨.cs false [.d (.ba f ds)], [], cs.flatMap avT⟩
      | none => none
  else none

/-- A slice cut to its length: no more room. -/
def clipY (Γ : Ctx) (ob : Nat → Option AObj) (t : TypeId) (x : Option AV) (h m : Option Int) : Option AOut := match x, h, m with
  | some v, some h, some m => match avD ob v, Γ.elem t with
    | some (.vec k rows), some e => match Γ.size e with
      | some sz => if k = sz ∧ 0 < rows.length ∧ h = rows.length ∧ m = rows.length then some ⟨.cs false [.d (.cvec k rows)], [], avT v⟩ else none
      | none => none
    | _, _ => none
  | _, _, _ => none
/-- A slice without room, cut at 0. -/
def nilSl (Γ : Ctx) (ev : TypeId → Operand → AT) (t : TypeId) (k : Nat) (lo hi : Option Operand) : Option AOut := match Γ.elem t with
  | some e => match Γ.size e, optInt ev 0 lo, optInt ev 0 hi with
    | some sz, some l, some h => if k = sz ∧ l = 0 ∧ h = 0 then some (pureOut (.cs false [.nils k])) else none
    | _, _, _ => none
  | none => none
/-- Rows without room for more. -/
def headY : AV → Option (Nat × List (List D))
  | .nils k => some (k, [])
  | .d (.cvec k rows) => some (k, rows)
  | _ => none
def appY (Γ : Ctx) (N : Nat) (ob : Nat → Option AObj) (ev : TypeId → Operand → AT) (t t2 : TypeId) (v : AV) (x : Operand) : Option AOut := match headY v, Γ.elem t with
  | some (k, rows), some e => match Γ.ty e with
    | some ti => match newRows Γ ob ev t t2 ti x with
      | some (k2, rows2, tx) => if k = k2 ∧ k = ti.size ∧ ti.zero.length = ti.size ∧ 0 < k ∧ 0 < rows2.length ∧ rows.length + rows2.length ≤ 9223372036854775807 ∧ (rows.length + rows2.length) * ti.bytes ≤ 140737488355328 then some ⟨.cs false [.own N], [(N, some (.row k e (rows ++ rows2) true))], tx⟩ else none
      | none => none
    | none => none
  | _, _ => none
def callY (Γ : Ctx) (N : Nat) (ev : TypeId → Operand → AT) (ob : Nat → Option AObj) (b : Builtin) : List Operand → List TypeId → Option AOut
  | [x], [t] => match b, (ev t x).one?, Γ.elem t with
    | .cap, some (.nils _), some _ => some (pureOut (.cs false [.d (.v (.int .i64 0))]))
    | _, _, _ => none
  | [s, x], [t, t2] => match b, (ev t s).one? with
    | .append, some v => appY Γ N ob ev t t2 v x
    | _, _ => none
  | _, _ => none
theorem callY_ev {Γ : Ctx} {N : Nat} {ev ev' : TypeId → Operand → AT} {ob : Nat → Option AObj} {b : Builtin} {xs : List Operand} {ts : List TypeId} (h : ∀ x ∈ xs, ∀ t, ev' t x = ev t x) : callY Γ N ev' ob b xs ts = callY Γ N ev ob b xs ts := by
  unfold callY
  split
  · rw [h _ (by simp)]
  · rename_i s x t t2
    have hx := h x (by simp)
    rw [h s (by simp)]
    simp only [appY, newRows, hx]
  · rfl
def aopY (Γ : Ctx) (N : Nat) (ev : TypeId → Operand → AT) (ob : Nat → Option AObj) (o : Oper) : Option AOut := match o.op with
  | .convert s t x => match (ev s x).one? with
    | some v => convY Γ ob s t v
    | none => none
  | .makeFunc (.func f) first captured => bdY ob ev f first captured
  | .slice t x lo hi none => match (ev t x).one? with
    | some (.d (.pt cells)) => ptS Γ ev t cells lo hi
    | some (.nils k) => nilSl Γ ev t k lo hi
    | _ => none
  | .indexAddr t x i => match (ev t x).one?, (ev 0 i).int? with
    | some (.d (.pt cells)), some m => ptI Γ t cells m
    | some (.eptr oo k i0 j), some m => epI Γ t oo k i0 j m
    | some (.win oo k lo n), some m => winI Γ ob t oo k lo n m
    | _, _ => none
  | .binOp op t x y _ => binY Γ op t y (ev t x) (ev t y)
  | .makeSlice t len cap => mkA Γ N ob t (ev 0 len) (ev 0 cap)
  | .makeMap t none => mkM Γ N t
  | .index t x i => match (ev 0 i).int? with
    | some m => idxY Γ t m (ev t x)
    | none => none
  | .lookup t x i false => match (ev t x).mp?, (ev 0 i).v? with
    | some oo, some k => lookM Γ ob t oo k
    | _, _ => none
  | .mapUpdate t m k x => match (ev t m).mp?, (ev 0 k).v?, (ev 0 x).bool? with
    | some oo, some kv, some true => updM Γ ob t oo kv
    | _, _, _ => none
  | .slice t x none (some hi) (some mx) => clipY Γ ob t (ev t x).one? (ev 0 hi).int? (ev 0 mx).int?
  | .call c => match c.callee with
    | .builtin b => callY Γ N ev ob b c.args.toList c.argTypes.toList
    | _ => none
  | _ => none

section
variable {P : Program} {Γ : Ctx} {c : Base} {nt : Nat} {env : Nat → AT} {ob : Nat → Option AObj} {ρ : Where} {S : Nat → Prop} {a : Act} {w : World}
variable {N : Nat} {o : Oper} {r : AOut}

theorem isU8_ok (hΓ : CtxOk P Γ) {t : TypeId} (h : isU8 Γ t = true) : ∃ e, P.underlying t = some (.slice e) ∧ P.underlying e = some (.int .u8) := by
  unfold isU8 at h
  split at h
  · rename_i e he
    split at h
    · rename_i ti hti
      have hd := (hΓ.ty e ti hti).desc
      split at h
      · rename_i hde
        rw [hde] at hd
        exact ⟨e, und_elem hΓ he, hd⟩
      · cases h
    · cases h
  · cases h

theorem isStr_ok (hΓ : CtxOk P Γ) {t : TypeId} (h : isStr Γ t = true) : P.underlying t = some .string := by
  unfold isStr at h
  split at h
  · rename_i ti hti
    have hd := (hΓ.ty t ti hti).desc
    split at h
    · rename_i hde
      rw [hde] at hd
      exact hd
    · cases h
  · cases h

theorem isIface_ok (hΓ : CtxOk P Γ) {t : TypeId} (h : isIface Γ t = true) : P.underlying t = some (.interface (P.methodsAt t)) := by
  unfold isIface at h
  split at h
  · rename_i ti hti
    have hd := (hΓ.ty t ti hti).desc
    split at h
    · rename_i hde
      rw [hde] at hd
      exact hd
    · cases h
  · cases h

theorem bytesD_get : ∀ {rows : List (List D)} {l : List Int}, bytesD rows = some l → l.length = rows.length ∧ ∀ (i : Nat) (r : List D), rows[i]? = some r → ∃ n, r = [.v (.int .u8 n)] ∧ l[i]? = some n
  | [], l, h => by
    simp only [bytesD, Option.some.injEq] at h
    subst h
    exact ⟨rfl, fun i r hi => by simp at hi⟩
  | x :: rows, l, h => by
    unfold bytesD at h
    split at h
    · cases h
      rename_i e; cases e
    · rename_i n r e
      cases e
      simp only [Option.map_eq_some_iff] at h
      obtain ⟨l', hl, rfl⟩ := h
      obtain ⟨h1, h2⟩ := bytesD_get hl
      refine ⟨by simp [h1], fun i r hi => ?_⟩
      cases i with
      | zero => simp at hi; subst hi; exact ⟨n, rfl, rfl⟩
      | succ i => simpa using h2 i r (by simpa using hi)
    · cases h

theorem flat_bytes {rows : List (List D)} {us : List Value} {l : List Int} (h : Flat w S 1 rows us) (hl : bytesD rows = some l) : us = l.map (Value.int .u8) := by
  obtain ⟨h1, h2⟩ := bytesD_get hl
  have hlen := h.len
  refine List.ext_getElem? fun i => ?_
  rw [List.getElem?_map]
  by_cases hi : i < rows.length
  · have hri : rows[i]? = some rows[i] := List.getElem?_eq_getElem hi
    obtain ⟨n, hn, hln⟩ := h2 i _ hri
    rw [hn] at hri
    obtain ⟨u, hu, hru⟩ := h.get i 0 _ _ hri rfl
    cases hru
    rw [hln, show i = i * 1 + 0 by omega, hu]
    rfl
  · rw [List.getElem?_eq_none (by omega), List.getElem?_eq_none (by omega)]
    rfl

theorem freeze_same {w : World} {a : Addr} {n b : Nat} (h : b ≠ a.block) : (w.freeze a n).heap[b]? = w.heap[b]? := by
  unfold World.freeze
  split
  · rfl
  · simp only [Array.getElem?_modify]
    rw [if_neg (fun e => h e.symm)]

theorem freeze_own {w : World} {g off n : Nat} {cur : Array Value} {ety : TypeId} {fr : Nat × Nat} (hn : n ≠ 0) (h : w.heap[g]? = some (.cells cur ety fr)) : ∃ fr', (w.freeze ⟨g, off, none⟩ n).heap[g]? = some (.cells cur ety fr') := by
  unfold World.freeze
  rw [if_neg hn]
  simp only [Array.getElem?_modify, if_true, h, Option.map_some]
  exact ⟨_, rfl⟩

theorem sound_keepY (hΓ : CtxOk P Γ) (hr : Rel c nt env ob ρ S a w) (hd : dstOk nt o.dst = true) {s : TypeId} {x : Operand} (ho : o.op = .convert s s x) (hs : isU8 Γ s = true) {oo : Nat} (ev : (aval Γ env s x).one? = some (.own oo)) (h : keepY ob oo = some r) : Goes P c nt N env ob ρ a w o r := by
  obtain ⟨e, hund, hue⟩ := isU8_ok hΓ hs
  obtain ⟨hρ, A, nn, cc, hu⟩ := one_rep (eval_rep (Γ := Γ) hr s x) ev
  unfold keepY at h
  split at h
  · rename_i k ety rows hob
    split at h
    · rename_i hc
      obtain ⟨rfl, hne⟩ := hc
      cases h
      obtain ⟨hv, hρ', hobj⟩ := hr.obj oo _ hob
      rw [hρ] at hρ'; cases hρ'
      obtain ⟨hk, h3⟩ := hobj
      rcases h3 with ⟨rfl, _⟩ | ⟨g, _, hc0, he, ⟨r1, r2, r3, cur, r4, r5, r7, r6⟩, hlive, _⟩
      · cases hne
      · rw [hu] at he
        cases he
        have hSg := hlive rfl
        let w' : World := w.freeze ⟨g, cur.size, none⟩ 1
        have hsh : w.shape? g = some (ety, cur.size) := by simp [World.shape?, r4]
        have hmark : ∀ K, (markStringish ⟨g, 0, none⟩ >>= fun _ => (pure K : Sem Value)).run P w = .ok K w' := fun K => by
          simp [markStringish, hsh, w']
        have hrun : (execOp a.eval o).run P w = .ok (.value (.slice (some ⟨g, 0, none⟩) rows.length cc)) w' := by
          have h1 := hmark (.slice (some ⟨g, 0, none⟩) rows.length cc)
          simp only [execOp, ho, hu, convert, Sem.run_bind, run_underlying hund, Result.andThen_ok, run_underlying hue, beq_self_eq_true] at h1 ⊢
          rw [h1]
          rfl
        have hother : ∀ b, b ≠ g → w'.heap[b]? = w.heap[b]? := fun b hb => freeze_same hb
        obtain ⟨fr', hown⟩ := freeze_own (off := cur.size) (n := 1) (by decide) r4
        have hsz : w'.heap.size = w.heap.size := by simp [w', World.freeze]
        have hbk : blkOf (Value.slice (some (⟨g, 0, none⟩ : Addr)) rows.length cc) = some g := by simp [blkOf]; omega
        have hkeep : Keeps S w w' := fun b hb => hother b fun e => hSg (e ▸ hb)
        let S' : Nat → Prop := fun b => S b ∨ b = g
        intro Q
        have hρ0 : ρ oo = some (.slice (some ⟨g, 0, none⟩) rows.length cc) := by rw [hρ, hu]
        refine wp_value hrun ⟨ρ, S', hr.step (S' := S') (ρ' := ρ) (w' := w') hd ⟨fun _ _ h => h, fun _ h => .inl h, hkeep⟩ ⟨_, rfl, ?_⟩ (fun n2 y hy => ?_) rfl rfl rfl (by rw [hsz]; exact Nat.le_refl _) (fun b h1 h2 => ?_) (fun b hb2 => ?_) (fun b hb2 => ?_), fun _ _ => rfl⟩
        · refine .vec 1 rows _ _ (fun i j => cur.getD (i * 1 + j) undef) r1 r2 hk (fun i j hi hj => ?_) (fun i j rr d hi hj => ?_)
          · have hri : rows[i]? = some rows[i] := List.getElem?_eq_getElem hi
            have hrl := hk _ (List.getElem_mem hi)
            have hjd : rows[i][j]? = some (rows[i][j]'(by omega)) := List.getElem?_eq_getElem (by omega)
            obtain ⟨u, hu', _⟩ := r6 i j _ _ hri hjd
            refine ⟨_, rfl, .inr rfl, ?_⟩
            rw [add_lit, cell_of_row w' g _ cur ety fr' hown, Array.getD_eq_getD_getElem?, hu']
            rfl
          · obtain ⟨u, hu', hru⟩ := r6 i j _ _ hi hj
            simp only [Array.getD_eq_getD_getElem?, hu', Option.getD_some]
            exact hru.mono (fun _ h => .inl h) hkeep
        · simp only [updO] at hy
          split at hy
          · cases hy
          · rename_i e2
            refine .inl ⟨hy, fun hh2 b q1 q2 => ?_⟩
            have hb : b ≠ g := fun e3 => e2 (hr.sep _ _ _ _ _ _ _ hy hob q1 hρ0 q2 (by rw [e3]; exact hbk))
            refine ⟨hother b hb, fun h3 => ?_⟩
            rcases h3 with h3 | h3
            · exact h3
            · exact absurd h3 hb
        · refine hother b fun e2 => ?_
          subst e2
          rcases hr.place _ _ _ _ hob hρ0 hbk with (h3 | h3) | h3
          · omega
          · exact h2 h3
          · exact hSg h3
        · rw [hsz]
          rcases hb2 with hb2 | rfl
          · exact hr.lim b hb2
          · exact (Array.getElem?_eq_some_iff.1 r4).1
        · rcases hb2 with hb2 | rfl
          · exact hr.foot b hb2
          · rcases hr.place _ _ _ _ hob hρ0 hbk with h3 | h3
            · exact .inr h3.symm
            · exact hr.foot _ h3
    · cases h
  · cases h

theorem sound_strY (hΓ : CtxOk P Γ) (hr : Rel c nt env ob ρ S a w) (hd : dstOk nt o.dst = true) {s t : TypeId} {x : Operand} (ho : o.op = .convert s t x) (hs : isU8 Γ s = true) (ht : isStr Γ t = true) {v : AV} (ev : (aval Γ env s x).one? = some v) (h : strY ob v = some r) : Goes P c nt N env ob ρ a w o r := by
  obtain ⟨e, hund, hue⟩ := isU8_ok hΓ hs
  have hut := isStr_ok hΓ ht
  have hv := one_rep (eval_rep (Γ := Γ) hr s x) ev
  unfold strY at h
  split at h
  · rename_i k rows tc hrows
    split at h
    · rename_i hk
      subst hk
      simp only [Option.map_eq_some_iff] at h
      obtain ⟨l, hl, rfl⟩ := h
      obtain ⟨A, cc, us, hu, hcc, hflat, hcell⟩ := rows_src hr hrows hv
      have hus := flat_bytes hflat hl
      have hlen := (bytesD_get hl).1
      refine goes_value hr hd (v := .string (strD l)) ?_ (rep_string _)
      have hconv : (convert s t (.slice A rows.length cc)).run P w = .ok (.string (strD l)) w := by
        rw [run_convert_bytes_string w s t e A _ _ hund hue hut]
        cases A with
        | none =>
          have : l = [] := by
            cases l with
            | nil => rfl
            | cons y ys =>
              obtain ⟨ad, h1, _⟩ := hcell 0 (.int .u8 y) (by rw [hus]; rfl)
              cases h1
          subst this
          simp [Conv.bytesToString, strD]
        | some ad =>
          refine run_bytesToString w ad _ _ l ?_
          have h2 := run_loadCells_list (P := P) w ad us (fun j v hj => by
            obtain ⟨ad', h1, h2⟩ := hcell j v hj
            cases h1
            exact h2)
          rw [hus] at h2
          rw [← hlen]
          simpa using h2
      simp only [execOp, ho, hu, Sem.run_bind, hconv, Result.andThen_ok, Sem.run_pure]
    · cases h
  · cases h

theorem sound_bytY (hΓ : CtxOk P Γ) (hr : Rel c nt env ob ρ S a w) (hd : dstOk nt o.dst = true) {s t : TypeId} {x : Operand} (ho : o.op = .convert s t x) {v : AV} (ev : (aval Γ env s x).one? = some v) (h : bytY Γ s t v = some r) : Goes P c nt N env ob ρ a w o r := by
  unfold bytY at h
  split at h
  · rename_i str
    split at h
    · rename_i hc
      obtain ⟨hc, hsl⟩ := hc
      simp only [Bool.and_eq_true] at hc
      cases h
      have hus := isStr_ok hΓ hc.1
      obtain ⟨e, hut, hue⟩ := isU8_ok hΓ hc.2
      have hv : a.eval x = .string str := v_rep (ρ := ρ) (w := w) (S := S) ⟨_, rfl, one_rep (eval_rep (Γ := Γ) hr s x) ev⟩
      let cap := grownCap w str.size 0 e
      have hcap1 : str.size ≤ cap := grownCap_ge w str.size 0 e
      let elems : Array Value := str.data.map fun b => .int .u8 b.toNat
      let cells : Array Value := elems ++ Array.replicate (cap - str.size) (.int .u8 0)
      let w1 : World := w.drew.alloc (.cells cells e)
      let w' : World := w1.freeze ⟨w.heap.size, cells.size, none⟩ 1
      have hnew : w1.heap[w.heap.size]? = some (.cells cells e) := heap_alloc_new w.drew _
      have hsh : w1.shape? w.heap.size = some (e, cells.size) := by simp [World.shape?, hnew]
      have hq : (Question.appendCap str.size 0 e).forced = false := rfl
      have hrun : (execOp a.eval o).run P w = .ok (.value (.slice (some ⟨w.heap.size, 0, none⟩) str.size cap)) w' := by
        have hmark : (markStringish ⟨w.heap.size, 0, none⟩).run P w1 = .ok () w' := by simp [markStringish, hsh, w']
        have hnr : (newRow e cells).run P w.drew = .ok ⟨w.heap.size, 0, none⟩ w1 := by simp [newRow, w1]
        simp only [execOp, ho, hv, convert, Sem.run_bind, run_underlying hus, run_underlying hut, Result.andThen_ok, run_underlying hue, Conv.stringToBytes, run_choose_drew, hq, Bool.false_eq_true, if_false]
        show Result.andThen (Result.andThen (Result.andThen ((newRow e cells).run P w.drew) _) _) _ = _
        rw [hnr]
        simp only [Result.andThen_ok, Sem.run_bind, hmark, Sem.run_pure]
        rfl
      obtain ⟨fr', hown⟩ := freeze_own (off := cells.size) (n := 1) (by decide) hnew
      have hold : ∀ b, b < w.heap.size → w'.heap[b]? = w.heap[b]? := fun b hb => by
        have h1 : w'.heap[b]? = w1.heap[b]? := freeze_same (by simp only; omega)
        rw [h1]
        exact RowKit.Below.heap_alloc w.drew _ b hb
      have hsz : w'.heap.size = w.heap.size + 1 := by
        have h1 : w'.heap.size = w1.heap.size := by
          show (World.freeze w1 _ 1).heap.size = _
          unfold World.freeze
          rw [if_neg (by decide)]
          exact Array.size_modify
        rw [h1]
        exact Array.size_push ..
      have hkeep : Keeps S w w' := fun b hb => hold b (hr.lim b hb)
      let S' : Nat → Prop := fun b => S b ∨ b = w.heap.size
      intro Q
      refine wp_value hrun ⟨ρ, S', hr.step (S' := S') (ρ' := ρ) (w' := w') hd ⟨fun _ _ h => h, fun _ h => .inl h, hkeep⟩ ⟨_, rfl, ?_⟩ (fun n2 y hy => ?_) rfl rfl rfl (by omega) (fun b h1 h2 => ?_) (fun b hb2 => ?_) (fun b hb2 => ?_), fun _ _ => rfl⟩
      · have hflat : Flat w S 1 (strRows str) (str.data.toList.map fun b => .int .u8 b.toNat) := str_flat str
        have hcell : ∀ i v, (str.data.toList.map fun b => Value.int .u8 b.toNat)[i]? = some v → cells[i]? = some v := fun i v hv => by
          have hl : i < elems.size := by
            have := (List.getElem?_eq_some_iff.1 hv).1
            simpa [elems] using this
          simp only [cells]
          rw [Array.getElem?_append_left hl]
          simpa [elems] using hv
        rw [← strRows_len str]
        refine .vec 1 (strRows str) _ _ (fun i j => cells.getD (i * 1 + j) undef) (by rw [strRows_len]; exact hcap1) ?_ hflat.rowLen (fun i j hi hj => ?_) (fun i j rr d hi hj => ?_)
        · exact grownCap_le_maxLen w str.size 0 e (by simp only [maxLen]; omega)
        · have hri : (strRows str)[i]? = some (strRows str)[i] := List.getElem?_eq_getElem hi
          have hrl := hflat.rowLen _ (List.getElem_mem hi)
          have hjd : (strRows str)[i][j]? = some ((strRows str)[i][j]'(by omega)) := List.getElem?_eq_getElem (by omega)
          obtain ⟨u, hu', _⟩ := hflat.get i j _ _ hri hjd
          refine ⟨_, rfl, .inr rfl, ?_⟩
          rw [add_lit, cell_of_row w' _ _ cells e fr' hown, Array.getD_eq_getD_getElem?, hcell _ _ hu']
          rfl
        · obtain ⟨u, hu', hru⟩ := hflat.get i j _ _ hi hj
          simp only [Array.getD_eq_getD_getElem?, hcell _ _ hu', Option.getD_some]
          exact hru.mono (fun _ h => .inl h) hkeep
      · refine .inl ⟨hy, fun hh2 b q1 q2 => ?_⟩
        have hb := blk_lt hr hy q1 q2
        refine ⟨hold b hb, fun h3 => ?_⟩
        rcases h3 with h3 | h3
        · exact h3
        · omega
      · have := hr.hsize
        exact hold b (by omega)
      · rw [hsz]
        rcases hb2 with hb2 | rfl
        · have := hr.lim b hb2; omega
        · omega
      · rcases hb2 with hb2 | rfl
        · exact hr.foot b hb2
        · exact .inr (.inr hr.hsize)
    · cases h
  · cases h

theorem sound_winI (hΓ : CtxOk P Γ) (hr : Rel c nt env ob ρ S a w) (hd : dstOk nt o.dst = true) {t : TypeId} {x i : Operand} {oo k lo n : Nat} {m : Int} (ho : o.op = .indexAddr t x i) (ev : (aval Γ env t x).one? = some (.win oo k lo n)) (en : (aval Γ env 0 i).int? = some m)
    (h : winI Γ ob t oo k lo n m = some r) : Goes P c nt N env ob ρ a w o r := by
  obtain ⟨A, m0, cc, A', hρ, hu, hA⟩ := one_rep (eval_rep (Γ := Γ) hr t x) ev
  obtain ⟨ki, hi⟩ := int_rep (eval_rep (Γ := Γ) hr 0 i) en
  unfold winI at h
  split at h
  · rename_i e he
    have hund := und_elem hΓ he
    split at h
    · rename_i sz k' ety rows live hsz hob
      split at h
      · rename_i hc
        obtain ⟨rfl, rfl, h0, hl, hlen⟩ := hc
        cases h
        obtain ⟨hh, hρ', hobj⟩ := hr.obj oo _ hob
        rw [hρ] at hρ'; cases hρ'
        obtain ⟨hk, h3⟩ := hobj
        rcases h3 with ⟨rfl, _⟩ | ⟨g, c', hc0, he2, hblk, _⟩
        · simp only [List.length_nil] at hlen; omega
        · cases he2
          have hcap := hblk.cap
          have hA' := hA (by omega)
          simp only [Option.map_some, add_lit] at hA'
          refine goes_value hr hd (v := .pointer (some ⟨g, (lo + m.toNat) * k + 0, none⟩)) ?_ ⟨_, rfl, g, _, _, hρ, rfl⟩
          simp only [execOp, ho, hu, hi, hA']
          simp [Instr.indexAt, asIntOf, run_underlying hund, h0, hl, run_sizeOf' hΓ hsz, add_lit', Nat.add_mul]
      · cases h
    · cases h
  · cases h

theorem sound_bdY (hr : Rel c nt env ob ρ S a w) (hd : dstOk nt o.dst = true) {f : FuncId} {first captured : Array Operand} (ho : o.op = .makeFunc (.func f) first captured) (h : bdY ob (aval Γ env) f first captured = some r) : Goes P c nt N env ob ρ a w o r := by
  unfold bdY at h
  split at h
  · rename_i hf
    have hcap : captured = #[] := by apply Array.ext'; simpa using hf
    split at h
    · rename_i cs hcs
      have hones := ones_rep hr hcs
      simp only [Option.map_eq_some_iff] at h
      obtain ⟨ds, hds, rfl⟩ := h
      have h1 := allD_rep hr hds hones
      have hl := h1.len
      refine goes_value hr hd (v := .func (.func f) (first.map a.eval) #[]) ?_ ⟨_, rfl, .bd f ds _ (by simpa using hl.symm) (fun j d u hj hu => ?_)⟩
      · simp [execOp, ho, Instr.makeFunc, hcap]
      · obtain ⟨u', hu', hru⟩ := h1.get hj
        have : (first.map a.eval)[j]? = some u' := by simpa using hu'
        rw [this] at hu
        cases hu
        exact hru
    · split at h
      · rename_i cs hcs
        simp only [Option.map_eq_some_iff] at h
        obtain ⟨ds, hds, rfl⟩ := h
        obtain ⟨x, hx, hev⟩ : ∃ x, first.toList = [x] ∧ aval Γ env 0 x = .cs true cs := by
          unfold aggOf at hcs
          split at hcs
          · rename_i x hx
            split at hcs
            · rename_i cs' e
              cases hcs
              exact ⟨x, hx, e⟩
            · cases hcs
          · cases hcs
        have hfx : first = #[x] := by apply Array.ext'; simpa using hx
        have hv := eval_rep (Γ := Γ) hr 0 x
        rw [hev] at hv
        obtain ⟨us, hu, hus⟩ := hv
        have h1 := allD_rep hr hds hus
        refine goes_value hr hd (v := .func (.func f) #[.agg us.toArray] #[]) ?_ ⟨_, rfl, .ba f ds us h1.len.symm (fun j d u hj hu => ?_)⟩
        · simp [execOp, ho, Instr.makeFunc, hcap, hfx, hu]
        · obtain ⟨u', hu', hru⟩ := h1.get hj
          rw [hu'] at hu
          cases hu
          exact hru
      · cases h
  · cases h

/-- A row that is part of an array's cells. -/
theorem chunk_get {k n i : Nat} {cells : List D} {r : List D} (h : (chunkD k n cells)[i]? = some r) : i < n ∧ r = (cells.drop (i * k)).take k := by
  unfold chunkD at h
  rw [List.getElem?_map] at h
  by_cases hi : i < n
  · rw [List.getElem?_range hi] at h
    cases h
    exact ⟨hi, rfl⟩
  · rw [List.getElem?_eq_none (by simpa using hi)] at h
    cases h

theorem sound_ptS (hΓ : CtxOk P Γ) (hr : Rel c nt env ob ρ S a w) (hd : dstOk nt o.dst = true) {t : TypeId} {x : Operand} {lo hi : Option Operand} {cells : List D} (ho : o.op = .slice t x lo hi none) (ev : (aval Γ env t x).one? = some (.d (.pt cells)))
    (h : ptS Γ (aval Γ env) t cells lo hi = some r) : Goes P c nt N env ob ρ a w o r := by
  have hv : Rep w S (.pt cells) (a.eval x) := one_rep (eval_rep (Γ := Γ) hr t x) ev
  unfold ptS at h
  split at h
  · rename_i n e har
    have hund := arr_und hΓ har
    split at h
    · rename_i k l hh hk el eh
      split at h
      · rename_i hc
        obtain ⟨c1, c2, c3, c4, c5, c6⟩ := hc
        cases h
        generalize hav : a.eval x = u at hv
        cases hv with
        | pt _ ad uf hcell hrep =>
          have hb := run_bounds (P := P) (b := false) (cap := n) (len := n) hr el eh c1 c2 (by omega) (by omega)
          have hlen : (((chunkD k n cells).take hh.toNat).drop l.toNat).length = hh.toNat - l.toNat := by
            simp only [List.length_drop, List.length_take, chunkD, List.length_map, List.length_range]
            omega
          have hrun : (execOp a.eval o).run P w = .ok (.value (.slice (some (ad.add (l.toNat * k))) (hh.toNat - l.toNat) (n - l.toNat))) w := by
            simp only [execOp, ho, Instr.sliceAt, Sem.run_bind, run_underlying hund, Result.andThen_ok, hav, Instr.sureAddr, Sem.run_pure, Option.map_none, hb, run_sizeOf' hΓ hk]
            rw [if_neg (by omega)]
          have hrow : ∀ i r, (((chunkD k n cells).take hh.toNat).drop l.toNat)[i]? = some r → l.toNat + i < n ∧ r = (cells.drop ((l.toNat + i) * k)).take k := fun i r hi => by
            rw [List.getElem?_drop, List.getElem?_take] at hi
            split at hi
            · exact chunk_get hi
            · cases hi
          have hlt : ∀ i, i < n → i * k + k ≤ cells.length := fun i hi => by
            have : (i + 1) * k ≤ n * k := Nat.mul_le_mul_right k hi
            rw [Nat.add_mul, Nat.one_mul] at this
            omega
          have hget : ∀ i j r d, (((chunkD k n cells).take hh.toNat).drop l.toNat)[i]? = some r → r[j]? = some d → cells[l.toNat * k + (i * k + j)]? = some d := fun i j r d hi hj => by
            obtain ⟨h1, rfl⟩ := hrow i r hi
            rw [List.getElem?_take] at hj
            split at hj
            · rw [List.getElem?_drop, Nat.add_mul] at hj
              rw [← hj]
              congr 1
              omega
            · cases hj
          refine goes_value hr hd hrun ⟨_, rfl, ?_⟩
          rw [← hlen]
          refine .vec k _ _ _ (fun i j => uf (l.toNat * k + (i * k + j))) (by rw [hlen]; omega) (by simp [maxLen]; omega) (fun r hm => ?_) (fun i j hi hj => ?_) (fun i j r d hi hj => ?_)
          · obtain ⟨i, hi⟩ := List.mem_iff_getElem?.1 hm
            obtain ⟨h1, rfl⟩ := hrow i r hi
            have := hlt _ h1
            rw [List.length_take, List.length_drop]
            omega
          · rw [hlen] at hi
            have := hlt (l.toNat + i) (by omega)
            rw [Nat.add_mul] at this
            obtain ⟨q1, q2⟩ := hcell (l.toNat * k + (i * k + j)) (by omega)
            exact ⟨_, rfl, by rw [block_add]; exact q1, by rw [add_add]; exact q2⟩
          · exact hrep _ d (hget i j r d hi hj)
      · cases h
    · cases h
  · cases h

theorem sound_ptI (hΓ : CtxOk P Γ) (hr : Rel c nt env ob ρ S a w) (hd : dstOk nt o.dst = true) {t : TypeId} {x i : Operand} {cells : List D} {m : Int} (ho : o.op = .indexAddr t x i) (ev : (aval Γ env t x).one? = some (.d (.pt cells))) (en : (aval Γ env 0 i).int? = some m)
    (h : ptI Γ t cells m = some r) : Goes P c nt N env ob ρ a w o r := by
  have hv : Rep w S (.pt cells) (a.eval x) := one_rep (eval_rep (Γ := Γ) hr t x) ev
  obtain ⟨ki, hi⟩ := int_rep (eval_rep (Γ := Γ) hr 0 i) en
  unfold ptI at h
  split at h
  · rename_i n e har
    have hund := arr_und hΓ har
    split at h
    · rename_i k hk
      split at h
      · rename_i hc
        obtain ⟨h0, hl⟩ := hc
        cases h
        generalize hav : a.eval x = u at hv
        cases hv with
        | pt _ ad uf hcell hrep =>
          refine goes_value hr hd (v := .pointer (some (ad.add (m.toNat * k)))) ?_ ⟨_, rfl, .pt _ _ (fun j => uf (m.toNat * k + j)) (fun j hj => ?_) (fun j d hj => ?_)⟩
          · simp only [execOp, ho, hav, hi]
            simp [Instr.indexAt, asIntOf, run_underlying hund, h0, hl, run_sizeOf' hΓ hk, Instr.sureAddr]
          · rw [List.length_drop] at hj
            obtain ⟨q1, q2⟩ := hcell (m.toNat * k + j) (by omega)
            exact ⟨by rw [block_add]; exact q1, by rw [add_add]; exact q2⟩
          · rw [List.getElem?_drop] at hj
            exact hrep _ d hj
      · cases h
    · cases h
  · cases h

theorem sound_epI (hΓ : CtxOk P Γ) (hr : Rel c nt env ob ρ S a w) (hd : dstOk nt o.dst = true) {t : TypeId} {x i : Operand} {oo kk i0 j : Nat} {m : Int} (ho : o.op = .indexAddr t x i) (ev : (aval Γ env t x).one? = some (.eptr oo kk i0 j)) (en : (aval Γ env 0 i).int? = some m)
    (h : epI Γ t oo kk i0 j m = some r) : Goes P c nt N env ob ρ a w o r := by
  obtain ⟨g, n0, cc, hρ, hu⟩ := one_rep (eval_rep (Γ := Γ) hr t x) ev
  obtain ⟨ki, hi⟩ := int_rep (eval_rep (Γ := Γ) hr 0 i) en
  unfold epI at h
  split at h
  · rename_i n e har
    have hund := arr_und hΓ har
    split at h
    · rename_i k hk
      split at h
      · rename_i hc
        obtain ⟨h0, hl⟩ := hc
        cases h
        refine goes_value hr hd (v := .pointer (some ⟨g, i0 * kk + (j + m.toNat * k), none⟩)) ?_ ⟨_, rfl, g, n0, cc, hρ, rfl⟩
        simp only [execOp, ho, hu, hi]
        simp [Instr.indexAt, asIntOf, run_underlying hund, h0, hl, run_sizeOf' hΓ hk, add_lit', Instr.sureAddr, Nat.add_assoc]
      · cases h
    · cases h
  · cases h

theorem eqItems_run (hΓ : CtxOk P Γ) (d : Nat) {e : TypeId} (us vs : Array Value) : ∀ (m i : Nat) (xs ys : List AV) (b : Bool), cellsEq Γ (List.replicate m (0, e)) xs ys = some b →
    All2 (RepAV ρ w S) xs (us.toList.drop i) → All2 (RepAV ρ w S) ys (vs.toList.drop i) → (Op.eqItems (d + 1) e 1 us vs (List.range' i m)).run P w = .ok b w
  | 0, i, xs, ys, b, h, _, _ => by
    cases xs <;> cases ys <;> simp [cellsEq] at h
    subst h
    simp [Op.eqItems]
  | m + 1, i, xs, ys, b, h, hx, hy => by
    rw [List.replicate_succ] at h
    cases xs with
    | nil => simp [cellsEq] at h
    | cons x xs =>
      cases ys with
      | nil => simp [cellsEq] at h
      | cons y ys =>
        cases x with
        | d x =>
          cases x with
          | v x =>
            cases y with
            | d y =>
              cases y with
              | v y =>
                simp only [cellsEq] at h
                split at h
                · rename_i hk
                  simp only [Bool.and_eq_true] at hk
                  split at h
                  · rename_i e' r' he hr'
                    cases h
                    have hxi : us[i]? = some x := by
                      obtain ⟨u, hu, hru⟩ := hx.get (i := 0) rfl
                      cases hru
                      simpa using hu
                    have hyi : vs[i]? = some y := by
                      obtain ⟨u, hu, hru⟩ := hy.get (i := 0) rfl
                      cases hru
                      simpa using hu
                    have hx' : All2 (RepAV ρ w S) xs (us.toList.drop (i + 1)) := by simpa using hx.drop 1
                    have hy' : All2 (RepAV ρ w S) ys (vs.toList.drop (i + 1)) := by simpa using hy.drop 1
                    have ih := eqItems_run hΓ d us vs m (i + 1) xs ys r' hr' hx' hy'
                    simp only [List.range'_succ, Op.eqItems, Nat.mul_one, Sem.run_bind, part_scal hΓ hk.1 hxi, part_scal hΓ hk.2 hyi, Result.andThen_ok, kind_run hΓ hk.1 hk.2 he, Sem.run_ite, ih]
                    cases e' <;> simp
                  · cases h
                · cases h
              | _ => simp [cellsEq] at h
            | _ => simp [cellsEq] at h
          | _ => simp [cellsEq] at h
        | _ => simp [cellsEq] at h

theorem arr_guard (hΓ : CtxOk P Γ) {t : TypeId} {n : Nat} {e : TypeId} (h : arrOf Γ t = some (n, e)) : P.eqGuardType P.depth t = false := by
  unfold arrOf at h
  split at h
  · rename_i ti hti
    have hdd := (hΓ.ty t ti hti).desc
    split at h
    · rename_i n' e' hde
      rw [hde] at hdd
      exact hdd.2
    · cases h
  · cases h

theorem size_info (hΓ : CtxOk P Γ) {t : TypeId} {k : Nat} (h : Γ.size t = some k) : ∃ i, P.info? t = some i := by
  unfold Ctx.size at h
  cases hti : Γ.ty t with
  | none => rw [hti] at h; cases h
  | some ti =>
    obtain ⟨i, z, h1, _⟩ := (hΓ.ty t ti hti).info
    exact ⟨i, h1⟩

theorem sound_binY (hΓ : CtxOk P Γ) (hr : Rel c nt env ob ρ S a w) (hd : dstOk nt o.dst = true) {op : BinOp} {t t2 : TypeId} {x y : Operand} (ho : o.op = .binOp op t x y t2) (h : binY Γ op t y (aval Γ env t x) (aval Γ env t y) = some r) : Goes P c nt N env ob ρ a w o r := by
  have hx := eval_rep (Γ := Γ) hr t x
  have hy := eval_rep (Γ := Γ) hr t y
  unfold binY at h
  split at h
  · rename_i eu ev
    rw [eu] at hx; rw [ev] at hy
    have hu := v_rep hx
    have hv := v_rep hy
    split at h
    · rename_i hc
      simp only [Bool.and_eq_true] at hc
      have hund := isIface_ok hΓ hc.1
      have hk : ∃ v, y = .const v := by
        cases y <;> simp [isConstO] at hc
        exact ⟨_, rfl⟩
      obtain ⟨cv, rfl⟩ := hk
      have hg : ∀ op, (eqGuard op t x (.const cv) .nilIface .nilIface).run P w = .ok () w := fun op => by
        unfold eqGuard
        cases op <;> simp <;> cases x <;> simp
      unfold eqY at h
      split at h <;> first | cases h
      · refine goes_value hr hd (v := .bool true) ?_ (rep_bool _)
        simp only [execOp, ho, hu, hv, Sem.run_bind, hg, Result.andThen_ok, run_eql_nil_nil w t hund, Sem.run_pure]
      · refine goes_value hr hd (v := .bool (!true)) ?_ (rep_bool _)
        simp only [execOp, ho, hu, hv, Sem.run_bind, hg, Result.andThen_ok, run_neq_nil_nil w t hund, Sem.run_pure]
        rfl
    · cases h
  · rename_i xs ys eu ev
    rw [eu] at hx; rw [ev] at hy
    obtain ⟨us, hu, hus⟩ := hx
    obtain ⟨vs, hv, hvs⟩ := hy
    split at h
    · rename_i n e har
      have hund := arr_und hΓ har
      have hg := arr_guard hΓ har
      split at h
      · rename_i k b hk hb
        split at h
        · rename_i hk1
          subst hk1
          obtain ⟨i, hi⟩ := size_info hΓ hk
          have key : (Op.equalIn 10000 t (.agg us.toArray) (.agg vs.toArray)).run P w = .ok b w := by
            rw [run_equalIn_array w 9999 us.toArray vs.toArray hund hi, cellsOf_size hΓ hk, List.range_eq_range']
            exact eqItems_run (ρ := ρ) (S := S) hΓ 9998 us.toArray vs.toArray n 0 xs ys b hb (by simpa using hus) (by simpa using hvs)
          unfold eqY at h
          split at h <;> first | cases h
          · refine goes_value hr hd (v := .bool b) ?_ (rep_bool _)
            simp [execOp, ho, hu, hv, run_eqGuard_agg, hg, run_eql_struct, key]
          · refine goes_value hr hd (v := .bool (!b)) ?_ (rep_bool _)
            simp [execOp, ho, hu, hv, run_eqGuard_agg, hg, run_neq_struct, key]
        · cases h
      · cases h
    · cases h
  · cases h

theorem sound_mkA (hΓ : CtxOk P Γ) (hr : Rel c nt env ob ρ S a w) (hf : ∀ n, N ≤ n → n < N + 8 → ρ n = none) (hd : dstOk nt o.dst = true) {t : TypeId} {x y : Operand} (ho : o.op = .makeSlice t x y) (h : mkA Γ N ob t (aval Γ env 0 x) (aval Γ env 0 y) = some r) : Goes P c nt N env ob ρ a w o r := by
  unfold mkA at h
  split at h
  · rename_i n m e ex ey he
    obtain ⟨kx, hx⟩ := int_rep (eval_rep (Γ := Γ) hr 0 x) ex
    obtain ⟨ky, hy⟩ := int_rep (eval_rep (Γ := Γ) hr 0 y) ey
    split at h
    · rename_i ti hti
      split at h
      · rename_i z hz
        split at h
        · rename_i hc
          obtain ⟨hc1, rfl, hc2, hc3, hc4, hc5⟩ := hc
          cases h
          have hund := und_elem hΓ he
          obtain ⟨i, zv, _, h2, hsz, hby, h3, h4⟩ := run_typeInfo' hΓ hti w
          have hz' := allD_rep hr hz (zero_rep h4)
          have hzl := hz'.len
          have hzsz : zv.cells.size = ti.size := by rw [← hc2, hzl]; simp
          have hmk := run_make (P := P) w t e i zv hund h2 h3 kx ky n n hc1 (Int.le_refl _) (by rw [hby]; exact hc4) (by omega)
          rw [hsz] at hmk
          obtain ⟨q, hq⟩ : ∃ q : Nat, n = q := ⟨n.toNat, by omega⟩
          have hqt : n.toNat = q := by omega
          rw [hqt] at hmk ⊢
          have hflat : Flat w S ti.size (List.replicate q z) (madeCells zv.cells (q * ti.size)).toList := by
            refine ⟨by rw [List.length_replicate]; simp [size_madeCells], fun r hr => by rw [List.mem_replicate] at hr; rw [hr.2, hc2], fun i j r d hi hj => ?_⟩
            rw [List.getElem?_replicate] at hi
            split at hi
            · rename_i hil
              cases hi
              obtain ⟨u, hu, hru⟩ := hz'.get hj
              refine ⟨u, ?_, hru⟩
              have hjk : j < ti.size := by rw [← hc2]; exact (List.getElem?_eq_some_iff.1 hj).1
              have hidx := row_lt (k := ti.size) hil hjk
              simp only [madeCells, Array.toList_map, List.getElem?_map, Array.toList_range, List.getElem?_range hidx, Option.map_some]
              have hm : (i * ti.size + j) % zv.cells.size = j := by rw [hzsz, Nat.mul_comm, Nat.mul_add_mod, Nat.mod_eq_of_lt hjk]
              rw [hm]
              simp only [Array.getElem?_toList] at hu
              simp only [getElem!_def, hu]
            · cases hi
          have hrun : (execOp a.eval o).run P w = .ok (.value (.slice (some ⟨w.heap.size, 0, none⟩) q q)) (w.alloc (.cells (madeCells zv.cells (q * ti.size)) e)) := by
            simp only [execOp, ho, hx, hy, Sem.run_bind, hmk, Result.andThen_ok, Sem.run_pure]
          intro Q
          obtain ⟨ρ', f2, hrel⟩ := hr.new (N := N) (x := .row ti.size e (List.replicate q z) true) (h := .slice (some ⟨w.heap.size, 0, none⟩) q q) (v := .slice (some ⟨w.heap.size, 0, none⟩) q q) (out := .cs false [.own N]) (o := .cells (madeCells zv.cells (q * ti.size)) e) hd (hf N (by omega) (by omega))
            (by by_cases hl0 : q = 0
                · right; simp [blkOf, hl0]
                · left; simp [blkOf, hl0])
            (fun ρ' f1 g => by
              have hgf := hflat.grows g.sub g.keeps
              refine ⟨hgf.rowLen, ?_⟩
              by_cases hl0 : q = 0
              · left
                subst hl0
                exact ⟨rfl, some ⟨w.heap.size, 0, none⟩, rfl⟩
              · right
                refine ⟨w.heap.size, q, by omega, by rw [List.length_replicate], ⟨by rw [List.length_replicate]; exact Nat.le_refl _, by simp [maxLen]; omega, hc3, _, heap_alloc_new w _, size_madeCells _ _, flat_rep hgf, fun i j r d hi hj => ?_⟩, fun _ hs => absurd (hr.lim _ hs) (by omega), fun hh => by cases hh⟩
                obtain ⟨u, hu, hru⟩ := hgf.get i j r d hi hj
                exact ⟨u, by simpa using hu, hru⟩)
            (fun ρ' f1 => ⟨_, rfl, f1, _, _, _, rfl⟩)
          exact wp_value hrun ⟨ρ', S, hrel, fun n hn => f2 n (by omega)⟩
        · cases h
      · cases h
    · cases h
  · cases h

/-! ### Maps of truths -/

/-- The kind of a map's keys, as the model has it. -/
def descK : Option IntKind → TypeDesc
  | some q => .int q
  | none => .string
theorem keyK_isKey {kd : Option IntKind} {k : Value} (h : keyK kd k = true) : MapKept.IsKey (descK kd) k := by
  unfold keyK at h
  split at h
  · simp only [beq_iff_eq] at h; subst h; simp [descK, MapKept.IsKey]
  · simp [descK, MapKept.IsKey]
  · cases h
theorem keyEq_iff {kd : Option IntKind} {a b : Value} (ha : keyK kd a = true) (hb : keyK kd b = true) : keyEq a b = true ↔ a = b := by
  unfold keyK at ha hb
  split at ha
  · simp only [beq_iff_eq] at ha
    subst ha
    split at hb
    · rename_i e; cases e; simp only [beq_iff_eq] at hb; subst hb; simp [keyEq]
    · rename_i e; cases e
    · cases hb
  · split at hb
    · rename_i e; cases e
    · simp [keyEq]
    · cases hb
  · cases ha
theorem hasK_iff {kd : Option IntKind} {k : Value} (hk : keyK kd k = true) : ∀ {ks : List Value}, (∀ y ∈ ks, keyK kd y = true) → (hasK ks k = true ↔ k ∈ ks)
  | [], _ => by simp [hasK]
  | y :: r, h => by
    simp only [hasK, Bool.or_eq_true, List.mem_cons]
    rw [keyEq_iff (h y (List.mem_cons_self ..)) hk, hasK_iff hk fun z hz => h z (List.mem_cons_of_mem _ hz)]
    constructor
    · rintro (h | h)
      · exact .inl h.symm
      · exact .inr h
    · rintro (h | h)
      · exact .inl h.symm
      · exact .inr h

theorem mapK_ok (hΓ : CtxOk P Γ) {t : TypeId} {kd : Option IntKind} (h : mapK Γ t = some kd) (w : World) : ∃ k e, P.underlying t = some (.map k e) ∧ P.underlying k = some (descK kd) ∧ (zeroValue e).run P w = .ok (.bool false) w := by
  unfold mapK at h
  split at h
  · rename_i ti hti
    have hd := (hΓ.ty t ti hti).desc
    split at h
    · rename_i k hde
      rw [hde] at hd
      obtain ⟨e, i, hu, hi, hz⟩ := hd
      have hzv : (zeroValue e).run P w = .ok (.bool false) w := by simp [zeroValue, typeInfo, hi, hz]
      split at h
      · rename_i tk htk
        have hdk := (hΓ.ty k tk htk).desc
        split at h
        · rename_i q hq
          rw [hq] at hdk
          cases h
          exact ⟨k, e, hu, hdk, hzv⟩
        · rename_i hq
          rw [hq] at hdk
          cases h
          exact ⟨k, e, hu, hdk, hzv⟩
        · cases h
      · cases h
    · cases h
  · cases h

theorem v?_rep {t : AT} {x v : Value} (h : RepT ρ w S t v) (hx : t.v? = some x) : v = x := by
  unfold AT.v? at hx
  split at hx
  · cases hx; exact v_rep h
  · cases hx
theorem mp?_rep {t : AT} {oo : Nat} {v : Value} (h : RepT ρ w S t v) (hx : t.mp? = some oo) : ∃ g, ρ oo = some (.pointer (some ⟨g, 0, none⟩)) ∧ v = .map (some g) := by
  unfold AT.mp? at hx
  split at hx
  · cases hx
    obtain ⟨y, h1, h2⟩ := h
    cases h1
    exact h2
  · cases hx

theorem sound_mkM (hr : Rel c nt env ob ρ S a w) (hf : ∀ n, N ≤ n → n < N + 8 → ρ n = none) (hd : dstOk nt o.dst = true) {t : TypeId} (ho : o.op = .makeMap t none) (h : mkM Γ N t = some r) : Goes P c nt N env ob ρ a w o r := by
  unfold mkM at h
  simp only [Option.map_eq_some_iff] at h
  obtain ⟨kd, hkd, rfl⟩ := h
  have hrun : (execOp a.eval o).run P w = .ok (.value (.map (some w.heap.size))) (w.alloc (.map #[] 0)) := by
    simp [execOp, ho, Instr.makeMap]
  intro Q
  obtain ⟨ρ', f2, hrel⟩ := hr.new (N := N) (x := .ms kd []) (h := .pointer (some ⟨w.heap.size, 0, none⟩)) (v := .map (some w.heap.size)) (out := .cs false [.mph N]) (o := .map #[] 0) hd (hf N (by omega) (by omega)) (.inl rfl)
    (fun ρ' e1 g => ⟨w.heap.size, rfl, ⟨#[], 0, heap_alloc_new w _, by simp, by simp⟩, fun hs => absurd (hr.lim _ hs) (by omega)⟩)
    (fun ρ' e1 => ⟨_, rfl, w.heap.size, e1, rfl⟩)
  exact wp_value hrun ⟨ρ', S, hrel, fun n hn => f2 n (by omega)⟩

theorem sound_lookM (hΓ : CtxOk P Γ) (hr : Rel c nt env ob ρ S a w) (hd : dstOk nt o.dst = true) {t : TypeId} {x i : Operand} {oo : Nat} {k : Value} (ho : o.op = .lookup t x i false) (ex : (aval Γ env t x).mp? = some oo) (ei : (aval Γ env 0 i).v? = some k) (h : lookM Γ ob t oo k = some r) : Goes P c nt N env ob ρ a w o r := by
  obtain ⟨g, h1, hx⟩ := mp?_rep (eval_rep (Γ := Γ) hr t x) ex
  have hi := v?_rep (eval_rep (Γ := Γ) hr 0 i) ei
  unfold lookM at h
  split at h
  · rename_i kd kd' ks hkd hob
    split at h
    · rename_i hc
      obtain ⟨rfl, hk⟩ := hc
      cases h
      obtain ⟨kt, et, hu, hku, hz⟩ := mapK_ok hΓ hkd w
      obtain ⟨hh, h3, g', rfl, ⟨es, clock, h4, h5, h6⟩, h7⟩ := hr.obj oo _ hob
      rw [h1] at h3; cases h3
      have hkk := keyK_isKey hk
      have hall : ∀ e ∈ es.toList, MapKept.IsKey (descK kd) e.key := fun e he => keyK_isKey ((h6 _ (h5 e he).2).1)
      have hiff := hasK_iff hk fun y hy => (h6 y hy).1
      rcases MapKept.findNow_spec hkk es.toList 0 hall with ⟨f1, f2⟩ | ⟨j, e, f1, f2, f3⟩
      · have hb : hasK ks k = false := by
          rw [Bool.eq_false_iff]
          intro hh
          obtain ⟨e, he, hek⟩ := (h6 k (hiff.1 hh)).2
          exact f2 e he hek
        refine goes_value hr hd (v := .bool false) ?_ (by rw [hb]; exact rep_bool _)
        simp [execOp, ho, hx, hi, Instr.lookup, run_underlying hu, MapKept.run_getObj_map h4, MapKept.run_checkKey hku hkk, MapKept.run_findKey hku f1, hz, Result.andThen]
      · have he : e ∈ es.toList := List.mem_of_getElem? f2
        have hb : hasK ks k = true := hiff.2 (f3 ▸ (h5 e he).2)
        refine goes_value hr hd (v := .bool true) ?_ (by rw [hb]; exact rep_bool _)
        rw [(h5 e he).1] at f1
        simp [execOp, ho, hx, hi, Instr.lookup, run_underlying hu, MapKept.run_getObj_map h4, MapKept.run_checkKey hku hkk, MapKept.run_findKey hku f1, Result.andThen]
    · cases h
  · cases h

theorem sound_updM (hΓ : CtxOk P Γ) (hr : Rel c nt env ob ρ S a w) (hd : dstOk nt o.dst = true) {t : TypeId} {m i x : Operand} {oo : Nat} {k : Value} (ho : o.op = .mapUpdate t m i x) (em : (aval Γ env t m).mp? = some oo) (ei : (aval Γ env 0 i).v? = some k) (ex : (aval Γ env 0 x).bool? = some true) (h : updM Γ ob t oo k = some r) : Goes P c nt N env ob ρ a w o r := by
  obtain ⟨g, h1, hm⟩ := mp?_rep (eval_rep (Γ := Γ) hr t m) em
  have hi := v?_rep (eval_rep (Γ := Γ) hr 0 i) ei
  have hx := bool_rep (eval_rep (Γ := Γ) hr 0 x) ex
  unfold updM at h
  split at h
  · rename_i kd kd' ks hkd hob
    split at h
    · rename_i hc
      obtain ⟨rfl, hk⟩ := hc
      cases h
      obtain ⟨kt, et, hu, hku, _⟩ := mapK_ok hΓ hkd w
      obtain ⟨hh, h3, g', rfl, ⟨es, clock, h4, h5, h6⟩, h7⟩ := hr.obj oo _ hob
      rw [h1] at h3; cases h3
      have hkk := keyK_isKey hk
      have hall : ∀ e ∈ es.toList, MapKept.IsKey (descK kd) e.key := fun e he => keyK_isKey ((h6 _ (h5 e he).2).1)
      have main : ∀ (es' : Array MapEntry) (clock' : Nat), (Instr.mapUpdate t (.map (some g)) k (.bool true)).run P w = .ok () { w with heap := w.heap.setIfInBounds g (.map es' clock') } →
          (∀ e ∈ es'.toList, e.val = .bool true ∧ e.key ∈ k :: ks) → (∀ y ∈ k :: ks, keyK kd y = true ∧ ∃ e ∈ es'.toList, e.key = y) → Goes P c nt N env ob ρ a w o ⟨.undef, [(oo, some (.ms kd (k :: ks)))], [oo]⟩ := by
        intro es' clock' hrun g1 g2 Q
        have hset := MapKept.heap_set (o' := .map es' clock') h4
        have hsz : (w.heap.setIfInBounds g (.map es' clock')).size = w.heap.size := by simp
        refine wp_skip' (w' := { w with heap := w.heap.setIfInBounds g (.map es' clock') }) (by simp [execOp, ho, hm, hi, hx, hrun]) ⟨ρ, S, ?_, fun n _ => rfl⟩
        have hk' : Keeps S w { w with heap := w.heap.setIfInBounds g (.map es' clock') } := fun b hbS => hset.2 b fun e => h7 (e ▸ hbS)
        refine hr.step hd ⟨fun _ _ h => h, fun _ h => h, hk'⟩ rfl (fun n y hy => ?_) rfl rfl rfl (by simp [hsz]) (fun b hb1 hb2 => hset.2 b ?_) (fun b hbS => by simpa [hsz] using hr.lim b hbS) hr.foot
        · simp only [updO] at hy
          split at hy
          · rename_i hn
            subst hn
            cases hy
            refine .inr ⟨_, h1, ⟨g, rfl, ⟨es', clock', hset.1, g1, g2⟩, h7⟩, fun b hbb => ?_⟩
            refine ⟨hr.place _ _ _ _ hob h1 hbb, fun o2 x2 h2 hx2 hh2 hb2 => ?_⟩
            simp only [updO] at hx2
            split at hx2
            · assumption
            · exact hr.sep _ _ _ _ _ _ b hx2 hob hh2 h1 hb2 hbb
          · rename_i hn
            refine .inl ⟨hy, fun h' b hh hb' => ⟨hset.2 b fun e => hn ?_, id⟩⟩
            subst e
            exact hr.sep _ _ _ _ _ _ b hy hob hh h1 hb' rfl
        · intro e
          subst e
          rcases hr.place _ _ _ _ hob h1 rfl with (h8 | h8) | h8
          · exact absurd (show c.W.heap.size ≤ b from h8) (by omega)
          · exact hb2 h8
          · exact h7 h8
      rcases MapKept.findNow_spec hkk es.toList 0 hall with ⟨f1, f2⟩ | ⟨j, e, f1, f2, f3⟩
      · refine main (es.push { key := k, val := .bool true, born := clock }) (clock + 1) ?_ (fun e he => ?_) (fun y hy => ?_)
        · simp [Instr.mapUpdate, run_underlying hu, MapKept.run_getObj_map h4, MapKept.run_checkKey hku hkk, MapKept.run_findKey hku f1, MapKept.run_setObj_map _ h4, Result.andThen]
        · simp only [Array.toList_push, List.mem_append, List.mem_singleton] at he
          rcases he with he | rfl
          · exact ⟨(h5 e he).1, List.mem_cons_of_mem _ (h5 e he).2⟩
          · exact ⟨rfl, List.mem_cons_self ..⟩
        · simp only [Array.toList_push, List.mem_append, List.mem_singleton]
          rcases List.mem_cons.1 hy with rfl | hy
          · exact ⟨hk, _, .inr rfl, rfl⟩
          · obtain ⟨q1, e, q2, q3⟩ := h6 y hy
            exact ⟨q1, e, .inl q2, q3⟩
      · have he : e ∈ es.toList := List.mem_of_getElem? f2
        have hj : es[0 + j]? = some e := by rw [Nat.zero_add]; simpa using f2
        have hj0 : es[j]? = some e := by simpa using f2
        have hke : e.key = k := f3
        refine main (es.modify (0 + j) fun e => { e with key := k, val := .bool true }) clock ?_ (fun e' he' => ?_) (fun y hy => ?_)
        · simp [Instr.mapUpdate, run_underlying hu, MapKept.run_getObj_map h4, MapKept.run_checkKey hku hkk, MapKept.run_findKey hku f1, hj0, hke, MapKept.run_keyThatStays hkk, MapKept.run_setObj_map _ h4, Result.andThen]
        · have hkeys := MapKept.modify_keys (es := es) (0 + j) (fun e => { e with key := k, val := .bool true }) (fun e2 h2 => by rw [hj] at h2; cases h2; exact hke.symm)
          obtain ⟨n, hn⟩ := List.getElem?_of_mem he'
          rw [Array.getElem?_toList, Array.getElem?_modify] at hn
          split at hn
          · simp only [Option.map_eq_some_iff] at hn
            obtain ⟨e3, _, rfl⟩ := hn
            exact ⟨rfl, List.mem_cons_self ..⟩
          · have h9 : e' ∈ es.toList := List.mem_of_getElem? (by rw [Array.getElem?_toList]; exact hn)
            exact ⟨(h5 e' h9).1, List.mem_cons_of_mem _ (h5 e' h9).2⟩
        · have hkeys := MapKept.modify_keys (es := es) (0 + j) (fun e => { e with key := k, val := .bool true }) (fun e2 h2 => by rw [hj] at h2; cases h2; exact hke.symm)
          have hin : ∀ z, z ∈ es.toList.map (·.key) → ∃ e' ∈ (es.modify (0 + j) fun e => { e with key := k, val := .bool true }).toList, e'.key = z := fun z hz => by
            rw [← hkeys] at hz
            obtain ⟨e', q1, q2⟩ := List.mem_map.1 hz
            exact ⟨e', q1, q2⟩
          rcases List.mem_cons.1 hy with rfl | hy
          · exact ⟨hk, hin _ (List.mem_map.2 ⟨e, he, hke⟩)⟩
          · obtain ⟨q1, e2, q2, q3⟩ := h6 y hy
            exact ⟨q1, hin _ (List.mem_map.2 ⟨e2, q2, q3⟩)⟩
    · cases h
  · cases h

theorem sound_idxY (hΓ : CtxOk P Γ) (hr : Rel c nt env ob ρ S a w) (hd : dstOk nt o.dst = true) {t : TypeId} {x i : Operand} {m : Int} (ho : o.op = .index t x i) (en : (aval Γ env 0 i).int? = some m) (h : idxY Γ t m (aval Γ env t x) = some r) : Goes P c nt N env ob ρ a w o r := by
  obtain ⟨ki, hi⟩ := int_rep (eval_rep (Γ := Γ) hr 0 i) en
  have hx := eval_rep (Γ := Γ) hr t x
  unfold idxY at h
  split at h
  · rename_i cells e
    rw [e] at hx
    obtain ⟨us, hu, hus⟩ := hx
    split at h
    · rename_i n e har
      have hund : P.underlying t = some (.array n e) := by
        unfold arrOf at har
        split at har
        · rename_i ti hti
          have hdd := (hΓ.ty t ti hti).desc
          split at har
          · rename_i n' e' hde
            rw [hde] at hdd
            cases har
            exact hdd.1
          · cases har
        · cases har
      split at h
      · rename_i k hk
        split at h
        · rename_i hc
          simp only [Option.map_eq_some_iff] at h
          obtain ⟨out, hout, rfl⟩ := h
          obtain ⟨v, hv, hrv⟩ := run_part hΓ hus hout
          refine goes_value hr hd (v := v) ?_ hrv
          simp [execOp, ho, hu, hi, Instr.index, asIntOf, run_underlying hund, hc.1, hc.2, run_sizeOf' hΓ hk, hv]
        · cases h
      · cases h
    · cases h
  · cases h

theorem head_src {v : AV} {u : Value} {k : Nat} {rows : List (List D)} (hr : Rel c nt env ob ρ S a w) (h : headY v = some (k, rows)) (hx : RepAV ρ w S v u) :
    ∃ A us, u = .slice A rows.length rows.length ∧ Flat w S k rows us ∧ ∀ (j : Nat) (v : Value), us[j]? = some v → ∃ ad, A = some ad ∧ w.cell? (ad.add j) = some v := by
  unfold headY at h
  split at h
  · cases h
    obtain ⟨A, rfl⟩ := hx
    exact ⟨A, [], rfl, ⟨by simp, by simp, fun i j r d hi _ => by simp at hi⟩, fun j v hv => by simp at hv⟩
  · rename_i k' rows'
    cases h
    have hx' : Rep w S (.cvec k rows) u := hx
    cases hx' with
    | cvec _ _ A uf hm hk hcell hrep =>
      obtain ⟨A', cc, us, e, _, h2, h3⟩ := rows_src (ob := ob) (x := .d (.vec k rows)) (k := k) (rows := rows) (tc := []) hr rfl (u := .slice A rows.length rows.length) (show Rep w S (.vec k rows) _ from .vec k rows A rows.length uf (Nat.le_refl _) hm hk hcell hrep)
      cases e
      exact ⟨A, us, rfl, h2, h3⟩
  · cases h

theorem sound_capY (hΓ : CtxOk P Γ) (hr : Rel c nt env ob ρ S a w) (hd : dstOk nt o.dst = true) {cl : Call} {x : Operand} {t e : TypeId} {k : Nat} (ho : o.op = .call cl) (hb : cl.callee = .builtin .cap) (ex : cl.args.toList = [x]) (et : cl.argTypes.toList = [t]) (ev : (aval Γ env t x).one? = some (.nils k)) (he : Γ.elem t = some e) : Goes P c nt N env ob ρ a w o (pureOut (.cs false [.d (.v (.int .i64 0))])) := by
  have hargs : cl.args.map a.eval = #[a.eval x] := by apply Array.ext'; simp [ex]
  have htys : cl.argTypes = #[t] := by apply Array.ext'; simp [et]
  have hund := und_elem hΓ he
  obtain ⟨A, hu⟩ := one_rep (eval_rep (Γ := Γ) hr t x) ev
  exact goes_value hr hd (v := .int .i64 (0 : Nat)) (by simp [execOp, ho, resolve, hb, invoke, builtin, hargs, htys, hu, Builtin.cap_, run_underlying hund, goInt]) (rep_int _ _)

theorem sound_nilSl (hΓ : CtxOk P Γ) (hr : Rel c nt env ob ρ S a w) (hd : dstOk nt o.dst = true) {t : TypeId} {x : Operand} {lo hi : Option Operand} {k : Nat} (ho : o.op = .slice t x lo hi none) (ev : (aval Γ env t x).one? = some (.nils k)) (h : nilSl Γ (aval Γ env) t k lo hi = some r) : Goes P c nt N env ob ρ a w o r := by
  obtain ⟨A, hu⟩ := one_rep (eval_rep (Γ := Γ) hr t x) ev
  unfold nilSl at h
  split at h
  · rename_i e he
    have hund := und_elem hΓ he
    split at h
    · rename_i sz l hh hsz el eh
      split at h
      · rename_i hc
        obtain ⟨rfl, rfl, rfl⟩ := hc
        cases h
        have hb := run_bounds (P := P) (b := true) (len := 0) (cap := 0) hr el eh (Int.le_refl _) (Int.le_refl _) (by simp) (Nat.le_refl _)
        refine goes_value hr hd (v := .slice A 0 0) ?_ ⟨_, rfl, A, rfl⟩
        simp [execOp, ho, Instr.sliceAt, run_underlying hund, Instr.slice, hu, hb, run_sizeOf' hΓ hsz]
      · cases h
    · cases h
  · cases h

theorem sound_clipY (hΓ : CtxOk P Γ) (hr : Rel c nt env ob ρ S a w) (hd : dstOk nt o.dst = true) {t : TypeId} {x hi mx : Operand} (ho : o.op = .slice t x none (some hi) (some mx)) (h : clipY Γ ob t (aval Γ env t x).one? (aval Γ env 0 hi).int? (aval Γ env 0 mx).int? = some r) : Goes P c nt N env ob ρ a w o r := by
  unfold clipY at h
  split at h
  · rename_i v hh m ev e3 e2
    have h1 := one_rep (eval_rep (Γ := Γ) hr t x) ev
    split at h
    · rename_i k rows e hav he
      have hund := und_elem hΓ he
      have h2 := avD_rep hr hav h1
      split at h
      · rename_i sz hsz
        split at h
        · rename_i hc
          obtain ⟨rfl, h0, rfl, rfl⟩ := hc
          cases h
          generalize hau : a.eval x = u at h2
          cases h2 with
          | vec _ _ A cc uf q1 q2 q3 q4 q5 =>
            have hb := run_bounds3 (P := P) (b := true) (len := rows.length) (cap := cc) (lo := none) hr rfl e3 e2 (Int.le_refl _) (by simp) (Int.le_refl _) (by omega)
            refine goes_value hr hd (v := .slice A rows.length rows.length) ?_ ⟨_, rfl, .cvec k rows A uf (by omega) q3 q4 q5⟩
            have hne : ¬ (rows.length = 0) := by omega
            simp only [Option.map_none] at hb
            simp [execOp, ho, Instr.sliceAt, run_underlying hund, Instr.slice, hau, hb, run_sizeOf' hΓ hsz, hne]
            all_goals cases A <;> simp [add_zero]
        · cases h
      · cases h
    · cases h
  · cases h

theorem sound_appY (hΓ : CtxOk P Γ) (hr : Rel c nt env ob ρ S a w) (hf : ∀ n, N ≤ n → n < N + 8 → ρ n = none) (hd : dstOk nt o.dst = true) {cl : Call} {s x : Operand} {t t2 : TypeId} {v : AV} (ho : o.op = .call cl) (hb : cl.callee = .builtin .append) (ex : cl.args.toList = [s, x]) (et : cl.argTypes.toList = [t, t2])
    (es : (aval Γ env t s).one? = some v) (h : appY Γ N ob (aval Γ env) t t2 v x = some r) : Goes P c nt N env ob ρ a w o r := by
  have hargs : cl.args.map a.eval = #[a.eval s, a.eval x] := by apply Array.ext'; simp [ex]
  have htys : cl.argTypes = #[t, t2] := by apply Array.ext'; simp [et]
  have h1 := one_rep (eval_rep (Γ := Γ) hr t s) es
  unfold appY at h
  split at h
  · rename_i k rows e hhd he
    have hund := und_elem hΓ he
    split at h
    · rename_i ti hti
      obtain ⟨i, z, hrunI, hi, hisz, hby, hz, hzr⟩ := run_typeInfo' hΓ hti w
      split at h
      · rename_i k2 rows2 tx hnew
        split at h
        · rename_i hc
          obtain ⟨rfl, hk, hzl, hk0, hn0, h63, hbytes⟩ := hc
          cases h
          have hzs : z.cells.size = k := by
            have h3 := hzr.len
            rw [hk, ← hzl, h3]; simp
          rw [← hby] at hbytes
          have hrunO : ∀ v w', (Builtin.append_ #[t, t2] o.type #[a.eval s, a.eval x]).run P w = .ok v w' → (execOp a.eval o).run P w = .ok (.value v) w' := fun v w' hh => by
            simp [execOp, ho, resolve, hb, invoke, builtin, hargs, htys, hh]
          obtain ⟨A1, us, hus0, hflat, hcell⟩ := head_src hr hhd h1
          have hold : (Builtin.firstCells i.size rows.length (.slice A1 rows.length rows.length)).run P w.drew = .ok us.toArray w.drew := by
            rw [hisz, ← hk]; exact run_first hflat.len hcell
          have hgc : rows.length < rows.length + rows2.length := by omega
          have hge := grownCap_ge w (rows.length + rows2.length) rows.length e
          have hcm := grownCap_le_maxLen w (rows.length + rows2.length) rows.length e (by simp only [maxLen]; omega)
          obtain ⟨C, hC⟩ : ∃ C, C = grownCap w (rows.length + rows2.length) rows.length e := ⟨_, rfl⟩
          have hgo : ∃ us2 : List Value, Flat w S k rows2 us2 ∧ (Builtin.append_ #[t, t2] o.type #[a.eval s, a.eval x]).run P w = .ok (.slice (some ⟨w.heap.size, 0, none⟩) (rows.length + rows2.length) C) (w.drew.alloc (.cells (us.toArray ++ us2.toArray ++ Builtin.zeroCells z.cells (C - (rows.length + rows2.length))) e)) := by
            unfold newRows at hnew
            split at hnew
            · rename_i htt
              subst htt
              split at hnew
              · rename_i vx exx
                have h2 := one_rep (eval_rep (Γ := Γ) hr t x) exx
                obtain ⟨A2, c2, us2, hux, _, hflat2, hcell2⟩ := rows_src hr hnew h2
                have hnw : (Builtin.firstCells i.size rows2.length (.slice A2 rows2.length c2)).run P w.drew = .ok us2.toArray w.drew := by
                  rw [hisz, ← hk]; exact run_first hflat2.len hcell2
                refine ⟨us2, hflat2, ?_⟩
                rw [hus0, hux, hC]
                exact run_app_grow (P := P) (w := w) t o.type e i z hund hi hz hold hnw hgc h63 hbytes
              · cases hnew
            · split at hnew
              · rename_i ti2 hti2
                split at hnew
                · rename_i m zs hint ev hzsD
                  split at hnew
                  · rename_i hm
                    obtain ⟨hm0, hm1, hzl2⟩ := hm
                    obtain ⟨m, rfl⟩ : ∃ m' : Nat, m = m' := ⟨m.toNat, by omega⟩
                    cases hnew
                    have hux := v_rep (by have := eval_rep (Γ := Γ) hr t2 x; rw [ev] at this; exact this)
                    obtain ⟨kn, hkn⟩ : ∃ kn, P.underlying t2 = some (.int kn) := by
                      have hdd := (hΓ.ty t2 ti2 hti2).desc
                      unfold isInt at hint
                      split at hint
                      · rename_i kn hde; rw [hde] at hdd; exact ⟨kn, hdd⟩
                      · cases hint
                    have hzsO : allD ob ti.zero = some zs := allD_mono (fun _ _ h => by cases h) (zero_noT hzr) hzsD
                    have hzrep := allD_rep hr hzsO (zero_rep (ρ := ρ) (w := w) (S := S) hzr)
                    have hfz := flat_zeros (n := m) (by rw [hzl2, ← hk]) hzrep
                    simp only [List.length_replicate, Int.toNat_natCast] at hgc h63 hbytes hC ⊢
                    refine ⟨_, hfz, ?_⟩
                    rw [hus0, hux, hC]
                    have hfits := growslice_fits (bytes := i.bytes) hgc (by rw [hby] at hbytes ⊢; exact hbytes)
                    have := Lib.run_append_grow_zeros (P := P) w t t2 o.type e i z .i64 kn hund hkn hi hz A1 rows.length rows.length us hold m (by omega) (by rw [hisz, ← hk]; exact hk0) hgc (by omega) (by have : m * i.bytes ≤ (rows.length + m) * i.bytes := Nat.mul_le_mul_right _ (by omega); omega) (by omega)
                    simpa using this
                  · cases hnew
                · cases hnew
              · cases hnew
          obtain ⟨us2, hflat2, hrun⟩ := hgo
          rw [← hC] at hge hcm
          have hflat3 := hflat.append hflat2
          have hl := hflat.len
          have hl2 := hflat2.len
          have hkS : ∀ X, Keeps S w (w.drew.alloc X) := fun X b hbS => RowKit.Below.heap_alloc w.drew X b (hr.lim b hbS)
          have hC0 : C ≠ 0 := by omega
          have hrl : (rows ++ rows2).length = rows.length + rows2.length := List.length_append
          intro Q
          obtain ⟨ρ', e2, hrel⟩ := hr.replace (N := N) (ts := []) (x := .row k e (rows ++ rows2) true) (h := .slice (some ⟨w.heap.size, 0, none⟩) (rows.length + rows2.length) C) (v := .slice (some ⟨w.heap.size, 0, none⟩) (rows.length + rows2.length) C) (out := .cs false [.own N])
            (w' := w.drew.alloc (.cells (us.toArray ++ us2.toArray ++ Builtin.zeroCells z.cells (C - (rows.length + rows2.length))) e)) hd (hf N (by omega) (by omega)) (hkS _) rfl rfl rfl (by simp)
            (fun b hb1 _ => RowKit.Below.heap_alloc w.drew _ b (by have := hr.hsize; show b < w.heap.size; omega))
            (fun ρ' _ gg => ⟨hflat3.rowLen, .inr ⟨w.heap.size, C, by omega, by rw [hrl], ⟨by rw [hrl]; exact hge, hcm, hk0, _, heap_alloc_new w.drew _, by
                simp only [Array.size_append, List.size_toArray, size_zeroCells, hzs, hl, hl2, ← Nat.add_mul]
                congr 1
                omega, fun u hu => by
                  simp only [Array.toList_append, List.mem_append] at hu
                  rcases hu with (hu | hu) | hu
                  · obtain ⟨d, hd⟩ := flat_rep hflat u hu; exact ⟨d, hd.mono gg.sub gg.keeps⟩
                  · obtain ⟨d, hd⟩ := flat_rep hflat2 u hu; exact ⟨d, hd.mono gg.sub gg.keeps⟩
                  · exact zeroCells_rep (zero_spare hzr) (by omega) _ u hu, fun i' j' rr d hi' hj' => by
              obtain ⟨u, hu, hru⟩ := hflat3.pref (more := (Builtin.zeroCells z.cells (C - (rows.length + rows2.length))).toList) i' j' rr d hi' hj'
              refine ⟨u, ?_, hru.mono gg.sub gg.keeps⟩
              rw [← hu, ← Array.getElem?_toList]
              simp⟩, fun _ hs => absurd (hr.lim _ hs) (by omega), fun hh => by cases hh⟩⟩)
            (fun b hbb => by
              simp [blkOf, hC0] at hbb
              subst hbb
              exact ⟨.inl (by have := hr.hsize; omega), fun o2 x2 h2 hx2 hn2 hh2 hb2 => absurd (blk_lt hr hx2 hh2 hb2) (by omega)⟩)
            (fun o2 x2 h2 b hx2 hn2 hh2 hb2 => RowKit.Below.heap_alloc w.drew _ b (blk_lt hr hx2 hh2 hb2))
            (fun ρ' e1 => ⟨_, rfl, e1, _, _, _, rfl⟩)
          exact wp_value (hrunO _ _ hrun) ⟨ρ', S, hrel, fun n hn => e2 n (by omega)⟩
        · cases h
      · cases h
    · cases h
  · cases h

theorem op_soundY (hΓ : CtxOk P Γ) (hr : Rel c nt env ob ρ S a w) (hf : ∀ n, N ≤ n → n < N + 8 → ρ n = none) (hd : dstOk nt o.dst = true) (h : aopY Γ N (aval Γ env) ob o = some r) : Goes P c nt N env ob ρ a w o r := by
  unfold aopY at h
  split at h
  · rename_i s t x ho
    split at h
    · rename_i v ev
      unfold convY at h
      split at h
      · rename_i hs
        split at h
        · rename_i hst
          subst hst
          split at h
          · rename_i oo
            exact sound_keepY hΓ hr hd ho hs ev h
          · cases h
        · split at h
          · rename_i ht
            exact sound_strY hΓ hr hd ho hs ht ev h
          · cases h
      · exact sound_bytY hΓ hr hd ho ev h
    · cases h
  · rename_i f first captured ho
    exact sound_bdY hr hd ho h
  · rename_i t x lo hi ho
    split at h
    · rename_i cells ev
      exact sound_ptS hΓ hr hd ho ev h
    · rename_i k ev
      exact sound_nilSl hΓ hr hd ho ev h
    · cases h
  · rename_i t x i ho
    split at h
    · rename_i cells m ev en
      exact sound_ptI hΓ hr hd ho ev en h
    · rename_i oo k i0 j m ev en
      exact sound_epI hΓ hr hd ho ev en h
    · rename_i oo k lo n m ev en
      exact sound_winI hΓ hr hd ho ev en h
    · cases h
  · rename_i op t x y t2 ho
    exact sound_binY hΓ hr hd ho h
  · rename_i t x y ho
    exact sound_mkA hΓ hr hf hd ho h
  · rename_i t ho
    exact sound_mkM hr hf hd ho h
  · rename_i t x i ho
    split at h
    · rename_i m en
      exact sound_idxY hΓ hr hd ho en h
    · cases h
  · rename_i t x i ho
    split at h
    · rename_i oo k ex ei
      exact sound_lookM hΓ hr hd ho ex ei h
    · cases h
  · rename_i t m i x ho
    split at h
    · rename_i oo k em ei ex
      exact sound_updM hΓ hr hd ho em ei ex h
    · cases h
  · rename_i t x hi mx ho
    exact sound_clipY hΓ hr hd ho h
  · rename_i cl ho
    split at h
    · rename_i b hb
      unfold callY at h
      split at h
      · rename_i x t ex et
        split at h
        · rename_i k e ev he
          cases h
          exact sound_capY hΓ hr hd ho hb ex et ev he
        · cases h
      · rename_i s x t t2 ex et
        split at h
        · rename_i v es
          exact sound_appY hΓ hr hf hd ho hb ex et es h
        · cases h
      · cases h
    · cases h
  · cases h

end

theorem keepY_ob {ob ob' : Nat → Option AObj} {oo : Nat} {r : AOut} (h : keepY ob oo = some r) (ht : ∀ n ∈ r.touch, ob' n = ob n) : keepY ob' oo = some r := by
  unfold keepY at h ⊢
  split at h
  · rename_i k e rows hob
    split at h
    · rename_i hc
      cases h
      rw [ht oo (by simp), hob]
      simp only
      rw [if_pos hc]
    · cases h
  · cases h

theorem strY_ob {ob ob' : Nat → Option AObj} {v : AV} {r : AOut} (h : strY ob v = some r) (ht : ∀ n ∈ r.touch, ob' n = ob n) : strY ob' v = some r := by
  unfold strY at h ⊢
  split at h
  · rename_i k rows tc hrows
    split at h
    · rename_i hk
      simp only [Option.map_eq_some_iff] at h
      obtain ⟨l, hl, rfl⟩ := h
      rw [rowsOf_tc hrows ht]
      simp only
      rw [if_pos hk, hl]
      rfl
    · cases h
  · cases h

theorem aopY_ob {Γ : Ctx} {N : Nat} {ev : TypeId → Operand → AT} {ob ob' : Nat → Option AObj} {o : Oper} {r : AOut} (h : aopY Γ N ev ob o = some r) (ht : ∀ n ∈ r.touch, ob' n = ob n) : aopY Γ N ev ob' o = some r := by
  unfold aopY at h ⊢
  split at h
  · split at h
    · unfold convY at h ⊢
      split at h
      · rename_i hs
        rw [if_pos hs]
        split at h
        · rename_i hst
          rw [if_pos hst]
          split at h
          · exact keepY_ob h ht
          · cases h
        · rename_i hst
          rw [if_neg hst]
          split at h
          · rename_i hq
            rw [if_pos hq]
            exact strY_ob h ht
          · cases h
      · rename_i hs
        rw [if_neg hs]
        exact h
    · cases h
  · unfold bdY at h ⊢
    split at h
    · rename_i hc
      rw [if_pos hc]
      split at h
      · rename_i cs hcs
        simp only [Option.map_eq_some_iff] at h
        obtain ⟨ds, hds, rfl⟩ := h
        simp only [allD_ob ht, hds]
        rfl
      · split at h
        · rename_i cs hcs
          simp only [Option.map_eq_some_iff] at h
          obtain ⟨ds, hds, rfl⟩ := h
          simp only [allD_ob ht, hds]
          rfl
        · cases h
    · cases h
  · exact h
  · split at h
    · exact h
    · exact h
    · rename_i oo k lo n m ev en
      unfold winI at h ⊢
      split at h
      · split at h
        · rename_i sz k' ety rows live hsz hob
          split at h
          · rename_i hc
            cases h
            rw [ht oo (by simp), hob, hsz]
            simp only
            rw [if_pos hc]
          · cases h
        · cases h
      · cases h
    · cases h
  · exact h
  · unfold mkA at h ⊢
    split at h
    · split at h
      · rename_i ti hti
        split at h
        · rename_i z hz
          split at h
          · rename_i hc
            cases h
            rw [allD_ob ht, hz]
            simp only
            rw [if_pos hc]
          · cases h
        · cases h
      · cases h
    · cases h
  · exact h
  · exact h
  · split at h
    · rename_i oo k ex ei
      unfold lookM at h ⊢
      split at h
      · rename_i kd kd' ks hkd hob
        split at h
        · rename_i hc
          cases h
          rw [ht oo (by simp), hob, hkd]
          simp only
          rw [if_pos hc]
        · cases h
      · cases h
    · cases h
  · split at h
    · rename_i oo k em ei ex
      unfold updM at h ⊢
      split at h
      · rename_i kd kd' ks hkd hob
        split at h
        · rename_i hc
          cases h
          rw [ht oo (by simp), hob, hkd]
          simp only
          rw [if_pos hc]
        · cases h
      · cases h
    · cases h
  · unfold clipY at h ⊢
    split at h
    · rename_i v hh m ev e3 e2
      split at h
      · rename_i k rows e hav he
        split at h
        · rename_i sz hsz
          split at h
          · rename_i hc
            cases h
            simp only [avD_ob ht, hav, he, hsz]
            rw [if_pos hc]
          · cases h
        · cases h
      · cases h
    · cases h
  · rename_i cl ho
    split at h
    · rename_i b hb
      unfold callY at h ⊢
      split at h
      · exact h
      · split at h
        · rename_i v es
          unfold appY at h ⊢
          split at h
          · rename_i k rows e hhd he
            split at h
            · rename_i ti hti
              split at h
              · rename_i k2 rows2 tx hnew
                split at h
                · rename_i hc
                  cases h
                  rw [newRows_ob hnew ht]
                  simp only
                  rw [if_pos hc]
                · cases h
              · cases h
            · cases h
          · cases h
        · cases h
      · cases h
    · cases h
  · cases h

theorem aopY_ev {Γ : Ctx} {N : Nat} {ev ev' : TypeId → Operand → AT} {ob : Nat → Option AObj} {o : Oper} (hones : ∀ (xs : List Operand), (∀ x ∈ xs, ∀ t, ev' t x = ev t x) → onesOf ev' xs = onesOf ev xs) (hopt : ∀ (d : Nat) (x : Option Operand), (∀ y, x = some y → ∀ t, ev' t y = ev t y) → optInt ev' d x = optInt ev d x)
    (h : ∀ x ∈ o.op.operands.toList, ∀ t, ev' t x = ev t x) : aopY Γ N ev' ob o = aopY Γ N ev ob o := by
  cases ho : o.op with
  | convert s t x => simp only [aopY, ho, h x (by rw [ho]; simp [Op.operands])]
  | makeFunc fn first captured =>
    cases fn with
    | func f =>
      have h' : ∀ x ∈ first.toList, ∀ t, ev' t x = ev t x := fun x hx t => h x (by rw [ho]; simp only [Op.operands, Array.toList_append, List.mem_append]; exact .inl hx) t
      simp only [aopY, ho, bdY, hones _ h', aggOf_ev h']
    | _ => simp only [aopY, ho]
  | slice t x lo hi mx =>
    have hx := h x (by rw [ho]; simp [Op.operands])
    have hlo : ∀ y, lo = some y → ∀ t, ev' t y = ev t y := fun y hy => h y (by rw [ho, hy]; simp [Op.operands])
    have hhi : ∀ y, hi = some y → ∀ t, ev' t y = ev t y := fun y hy => h y (by rw [ho, hy]; simp [Op.operands])
    cases mx with
    | some m =>
      have hm := h m (by rw [ho]; simp [Op.operands])
      cases lo with
      | some l => simp only [aopY, ho]
      | none => cases hi with
        | none => simp only [aopY, ho]
        | some hh => simp only [aopY, ho, hx, hm, hhi hh rfl]
    | none => simp only [aopY, ho, hx, ptS, nilSl, hopt _ _ hlo, hopt _ _ hhi]
  | indexAddr t x i => simp only [aopY, ho, h x (by rw [ho]; simp [Op.operands]), h i (by rw [ho]; simp [Op.operands])]
  | binOp op t x y t2 => simp only [aopY, ho, h x (by rw [ho]; simp [Op.operands]), h y (by rw [ho]; simp [Op.operands])]
  | makeSlice t x y => simp only [aopY, ho, h x (by rw [ho]; simp [Op.operands]), h y (by rw [ho]; simp [Op.operands])]
  | makeMap t z => cases z <;> simp only [aopY, ho]
  | call cl =>
    have ha : ∀ x ∈ cl.args.toList, ∀ t, ev' t x = ev t x := fun x hx => h x (by rw [ho]; simp only [Op.operands, Call.operands, Array.toList_append, List.mem_append]; exact .inr hx)
    simp only [aopY, ho, callY_ev ha]
  | index t x i => simp only [aopY, ho, h x (by rw [ho]; simp [Op.operands]), h i (by rw [ho]; simp [Op.operands])]
  | lookup t x i ok => cases ok <;> simp only [aopY, ho, h x (by rw [ho]; simp [Op.operands]), h i (by rw [ho]; simp [Op.operands])]
  | mapUpdate t m k x => simp only [aopY, ho, h m (by rw [ho]; simp [Op.operands]), h k (by rw [ho]; simp [Op.operands]), h x (by rw [ho]; simp [Op.operands])]
  | _ => simp only [aopY, ho]

/-- An operation, told here or there. -/
def aopW (Γ : Ctx) (N : Nat) (ev : TypeId → Operand → AT) (ob : Nat → Option AObj) (o : Oper) (r : AOut) : Prop := aop Γ N ev ob o = some r ∨ aopY Γ N ev ob o = some r

end Go.Eng
namespace Go.Eng

/-- Two evaluations that agree at an operation's operands agree at the operation. -/
theorem fillA_ev {Γ : Ctx} {ev ev' : TypeId → Operand → AT} {fs : List (Nat × TypeId)} : ∀ {parts : List (Nat × Operand)} {cells : List AV}, (∀ p ∈ parts, ∀ t, ev' t p.2 = ev t p.2) → fillA Γ ev' fs cells parts = fillA Γ ev fs cells parts
  | [], _, _ => rfl
  | (i, x) :: parts, cells, h => by
    have hx := fun t => h (i, x) (List.mem_cons_self ..) t
    have ih := fun cells => fillA_ev (Γ := Γ) (ev := ev) (ev' := ev') (fs := fs) (parts := parts) (cells := cells) fun p hp => h p (List.mem_cons_of_mem _ hp)
    simp only at hx
    simp only [fillA, hx, ih]

theorem fillRows_ev {ob : Nat → Option AObj} {ev ev' : TypeId → Operand → AT} {e k : Nat} : ∀ {parts : List (Nat × Operand)} {rows : List (List D)}, (∀ p ∈ parts, ∀ t, ev' t p.2 = ev t p.2) → fillRows ob ev' e k rows parts = fillRows ob ev e k rows parts
  | [], _, _ => rfl
  | (i, x) :: parts, rows, h => by
    have hx := fun t => h (i, x) (List.mem_cons_self ..) t
    have ih := fun rows => fillRows_ev (ob := ob) (ev := ev) (ev' := ev') (e := e) (k := k) (parts := parts) (rows := rows) fun p hp => h p (List.mem_cons_of_mem _ hp)
    simp only at hx
    simp only [fillRows, hx, ih]

theorem fillV_ev {ev ev' : TypeId → Operand → AT} {e : TypeId} : ∀ {parts : List (Nat × Operand)} {cells : List AV}, (∀ p ∈ parts, ∀ t, ev' t p.2 = ev t p.2) → fillV ev' e cells parts = fillV ev e cells parts
  | [], _, _ => rfl
  | (i, x) :: parts, cells, h => by
    have hx := fun t => h (i, x) (List.mem_cons_self ..) t
    have ih := fun cells => fillV_ev (ev := ev) (ev' := ev') (e := e) (parts := parts) (cells := cells) fun p hp => h p (List.mem_cons_of_mem _ hp)
    simp only at hx
    simp only [fillV, hx, ih]

theorem argsOf_ev {ev ev' : TypeId → Operand → AT} : ∀ {xs : List Operand} {ts : List TypeId}, (∀ x ∈ xs, ∀ t, ev' t x = ev t x) → argsOf ev' xs ts = argsOf ev xs ts
  | [], _, _ => rfl
  | x :: xs, ts, h => by
    simp only [argsOf, h x (List.mem_cons_self ..), argsOf_ev (xs := xs) fun y hy => h y (List.mem_cons_of_mem _ hy)]

theorem onesOf_ev {ev ev' : TypeId → Operand → AT} : ∀ {xs : List Operand}, (∀ x ∈ xs, ∀ t, ev' t x = ev t x) → onesOf ev' xs = onesOf ev xs
  | [], _ => rfl
  | x :: xs, h => by
    simp only [onesOf, h x (List.mem_cons_self ..), onesOf_ev (xs := xs) fun y hy => h y (List.mem_cons_of_mem _ hy)]

theorem optInt_ev {ev ev' : TypeId → Operand → AT} {d : Nat} {x : Option Operand} (h : ∀ y, x = some y → ∀ t, ev' t y = ev t y) : optInt ev' d x = optInt ev d x := by
  cases x with
  | none => rfl
  | some y => simp only [optInt, h y rfl]

theorem aop0_ev {Γ : Ctx} {N : Nat} {ev ev' : TypeId → Operand → AT} {ob : Nat → Option AObj} {o : Oper} (h : ∀ x ∈ o.op.operands.toList, ∀ t, ev' t x = ev t x) : aop0 Γ N ev' ob o = aop0 Γ N ev ob o := by
  cases ho : o.op with
  | build t ps =>
    have h' : ∀ p ∈ ps.toList, ∀ t, ev' t p.2 = ev t p.2 := fun p hp t => h p.2 (by rw [ho]; simp only [Op.operands, List.mem_map]; exact ⟨p, hp, rfl⟩) t
    simp only [aop0, ho, fillA_ev h']
  | buildSlice t n ps =>
    have h' : ∀ p ∈ ps.toList, ∀ t, ev' t p.2 = ev t p.2 := fun p hp t => h p.2 (by rw [ho]; simp only [Op.operands, List.mem_map]; exact ⟨p, hp, rfl⟩) t
    simp only [aop0, ho, fillRows_ev h']
  | makeFunc fn first captured =>
    cases fn with
    | func f =>
      have h' : ∀ x ∈ captured.toList, ∀ t, ev' t x = ev t x := fun x hx t => h x (by rw [ho]; simp only [Op.operands, Array.toList_append, List.mem_append]; exact .inr hx) t
      simp only [aop0, ho, onesOf_ev h']
    | _ => simp only [aop0, ho]
  | slice t x lo hi mx =>
    have hx := h x (by rw [ho]; simp [Op.operands])
    have hlo : ∀ y, lo = some y → ∀ t, ev' t y = ev t y := fun y hy => h y (by rw [ho, hy]; simp [Op.operands])
    have hhi : ∀ y, hi = some y → ∀ t, ev' t y = ev t y := fun y hy => h y (by rw [ho, hy]; simp [Op.operands])
    have hmx : ∀ y, mx = some y → ∀ t, ev' t y = ev t y := fun y hy => h y (by rw [ho, hy]; simp [Op.operands])
    simp only [aop0, ho, hx]
    split
    · rename_i v _
      unfold sliceA
      simp only [optInt_ev hlo, fun d => optInt_ev (d := d) hhi]
      cases mx with
      | none => rfl
      | some m =>
        simp only [hmx m rfl]
        cases hi with
        | none => rfl
        | some q => simp only [hhi q rfl]
    · rfl
  | call cl =>
    cases hb : cl.callee with
    | value f => simp only [aop0, ho, hb]
    | invoke r m => simp only [aop0, ho, hb]
    | builtin b =>
      have ha : ∀ x ∈ cl.args.toList, ∀ t, ev' t x = ev t x := fun x hx => h x (by rw [ho]; simp only [Op.operands, Call.operands, Array.toList_append, List.mem_append]; exact .inr hx)
      have hm : cl.args.toList.map (ev' o.type) = cl.args.toList.map (ev o.type) := List.map_congr_left fun x hx => ha x hx _
      cases b <;> first
        | (simp only [aop0, ho, hb, hm]; done)
        | (simp only [aop0, ho, hb]
           split
           · rename_i e1 e2
             first
               | (rw [ha _ (by rw [e1]; simp)]; done)
               | (rw [ha _ (by rw [e1]; simp), ha _ (by rw [e1]; simp)]; done)
           · rfl)
        | simp only [aop0, ho, hb]
  | move x => simp only [aop0, ho, h x (by rw [ho]; simp [Op.operands])]
  | assign x => simp only [aop0, ho, h x (by rw [ho]; simp [Op.operands])]
  | pick x y z => simp only [aop0, ho, h x (by rw [ho]; simp [Op.operands]), h y (by rw [ho]; simp [Op.operands]), h z (by rw [ho]; simp [Op.operands])]
  | alloc t => simp only [aop0, ho]
  | box t x => simp only [aop0, ho, h x (by rw [ho]; simp [Op.operands])]
  | load t x => simp only [aop0, ho, h x (by rw [ho]; simp [Op.operands])]
  | store t x y => simp only [aop0, ho, h x (by rw [ho]; simp [Op.operands]), h y (by rw [ho]; simp [Op.operands])]
  | nilCheck x => simp only [aop0, ho, h x (by rw [ho]; simp [Op.operands])]
  | binOp op t x y t2 => simp only [aop0, ho, h x (by rw [ho]; simp [Op.operands]), h y (by rw [ho]; simp [Op.operands])]
  | unOp op t x => simp only [aop0, ho, h x (by rw [ho]; simp [Op.operands])]
  | convert s t x => simp only [aop0, ho, h x (by rw [ho]; simp [Op.operands])]
  | fieldAddr t x i => simp only [aop0, ho, h x (by rw [ho]; simp [Op.operands])]
  | field t x i => simp only [aop0, ho, h x (by rw [ho]; simp [Op.operands])]
  | indexAddr t x i => simp only [aop0, ho, h x (by rw [ho]; simp [Op.operands]), h i (by rw [ho]; simp [Op.operands])]
  | index t x i => simp only [aop0, ho, h x (by rw [ho]; simp [Op.operands]), h i (by rw [ho]; simp [Op.operands])]
  | extract t i => simp only [aop0, ho, h t (by rw [ho]; simp [Op.operands])]
  | _ => simp only [aop0, ho]

theorem aop_ev {Γ : Ctx} {N : Nat} {ev ev' : TypeId → Operand → AT} {ob : Nat → Option AObj} {o : Oper} (h : ∀ x ∈ o.op.operands.toList, ∀ t, ev' t x = ev t x) : aop Γ N ev' ob o = aop Γ N ev ob o := by
  have h0 := aop0_ev (Γ := Γ) (N := N) (ob := ob) h
  have h1 : isX Γ ev' o = isX Γ ev o ∧ aopX Γ N ev' ob o = aopX Γ N ev ob o := by
    cases ho : o.op with
    | slice t x lo hi mx =>
      have hx := h x (by rw [ho]; simp [Op.operands])
      have hlo : ∀ y, lo = some y → ∀ t, ev' t y = ev t y := fun y hy => h y (by rw [ho, hy]; simp [Op.operands])
      have hhi : ∀ y, hi = some y → ∀ t, ev' t y = ev t y := fun y hy => h y (by rw [ho, hy]; simp [Op.operands])
      refine ⟨by simp only [isX, ho, hx], ?_⟩
      cases mx with
      | some m => simp only [aopX, ho]
      | none => simp only [aopX, ho, hx, sliceX, arrS, optInt_ev hlo, fun d => optInt_ev (d := d) hhi]
    | sliceToArrayPointer t x => exact ⟨by simp only [isX, ho], by simp only [aopX, ho, h x (by rw [ho]; simp [Op.operands])]⟩
    | range t x => exact ⟨by simp only [isX, ho], by simp only [aopX, ho, h x (by rw [ho]; simp [Op.operands])]⟩
    | next x str => exact ⟨by simp only [isX, ho], by simp only [aopX, ho, h x (by rw [ho]; simp [Op.operands])]⟩
    | build t ps =>
      have h' : ∀ p ∈ ps.toList, ∀ t, ev' t p.2 = ev t p.2 := fun p hp t => h p.2 (by rw [ho]; simp only [Op.operands, List.mem_map]; exact ⟨p, hp, rfl⟩) t
      exact ⟨by simp only [isX, ho], by simp only [aopX, ho, buildP, fillV_ev h']⟩
    | buildSlice t n ps =>
      have h' : ∀ p ∈ ps.toList, ∀ t, ev' t p.2 = ev t p.2 := fun p hp t => h p.2 (by rw [ho]; simp only [Op.operands, List.mem_map]; exact ⟨p, hp, rfl⟩) t
      exact ⟨by simp only [isX, ho], by simp only [aopX, ho, buildV, fillV_ev h']⟩
    | indexAddr t x i => exact ⟨by simp only [isX, ho, h x (by rw [ho]; simp [Op.operands])], by simp only [aopX, ho, h x (by rw [ho]; simp [Op.operands]), h i (by rw [ho]; simp [Op.operands])]⟩
    | call cl =>
      cases hb : cl.callee with
      | value f =>
        cases f with
        | func f =>
          have ha : ∀ x ∈ cl.args.toList, ∀ t, ev' t x = ev t x := fun x hx => h x (by rw [ho]; simp only [Op.operands, Call.operands, Array.toList_append, List.mem_append]; exact .inr hx)
          exact ⟨by simp only [isX, ho, hb], by simp only [aopX, ho, hb, onesOf_ev ha]⟩
        | _ => exact ⟨by simp only [isX, ho, hb], by simp only [aopX, ho, hb]⟩
      | invoke r m => exact ⟨by simp only [isX, ho, hb], by simp only [aopX, ho, hb]⟩
      | builtin b =>
        have ha : ∀ x ∈ cl.args.toList, ∀ t, ev' t x = ev t x := fun x hx => h x (by rw [ho]; simp only [Op.operands, Call.operands, Array.toList_append, List.mem_append]; exact .inr hx)
        cases b with
        | cap =>
          refine ⟨by simp only [isX, ho, hb], ?_⟩
          simp only [aopX, ho, hb]
          split
          · rename_i e1 e2; rw [ha _ (by rw [e1]; simp)]
          · rfl
        | copy =>
          refine ⟨by simp only [isX, ho, hb], ?_⟩
          simp only [aopX, ho, hb]
          split
          · rename_i e1 e2; rw [ha _ (by rw [e1]; simp), ha _ (by rw [e1]; simp)]
          · rfl
        | len =>
          refine ⟨?_, ?_⟩
          · simp only [isX, ho, hb]
            split
            · rename_i e1 e2; rw [ha _ (by rw [e1]; simp)]
            · rfl
          · simp only [aopX, ho, hb]
            split
            · rename_i e1 e2; rw [ha _ (by rw [e1]; simp)]
            · rfl
        | append =>
          refine ⟨?_, ?_⟩
          · simp only [isX, ho, hb]
            split
            · rename_i e1 e2; rw [ha _ (by rw [e1]; simp)]
            · rfl
          · simp only [aopX, ho, hb]
            split
            · rename_i e1 e2
              have hx := ha _ (by rw [e1]; exact List.mem_cons_of_mem _ (List.mem_cons_self ..))
              rw [ha _ (by rw [e1]; exact List.mem_cons_self ..)]
              simp only [appendX, newRows, hx]
            · rfl
        | _ => exact ⟨by simp only [isX, ho, hb], by simp only [aopX, ho, hb]⟩
    | _ => exact ⟨by simp only [isX, ho], by simp only [aopX, ho]⟩
  unfold aop
  rw [h0, h1.1, h1.2]

theorem callArgs_ev {ev ev' : TypeId → Operand → AT} {o : Oper} (h : ∀ x ∈ o.op.operands.toList, ∀ t, ev' t x = ev t x) : callArgs ev' o = callArgs ev o := by
  unfold callArgs
  split
  · rename_i cl ho
    split
    · rename_i f hb
      have hf := h f (by rw [ho]; simp [Op.operands, Call.operands, hb])
      have ha : ∀ x ∈ cl.args.toList, ∀ t, ev' t x = ev t x := fun x hx => h x (by rw [ho]; simp only [Op.operands, Call.operands, Array.toList_append, List.mem_append]; exact .inr hx)
      rw [hf, argsOf_ev ha]
    · rfl
  · rfl

theorem aval_env {Γ : Ctx} {env env' : Nat → AT} {o : Oper} (h : ∀ t ∈ o.op.operands.toList.flatMap opTemps, env' t = env t) : ∀ x ∈ o.op.operands.toList, ∀ t, aval Γ env' t x = aval Γ env t x := by
  intro x hx t
  cases x with
  | tmp n => exact h n (List.mem_flatMap.2 ⟨_, hx, by simp [opTemps]⟩)
  | _ => rfl

end Go.Eng
namespace Go.Eng

/-- A fence that lets all in; the round in which the code stands, if any. -/
abbrev wf (ro : Option Nat) : Fence := { Fence.wide with round := ro }

theorem rows_in {P : Program} {ro : Option Nat} {n : Nat} {row : String} {args : Array Value} {w : World} {R : Value → World → Prop} (h : Rows P row args w R) : RowsIn (wf ro) n P row args w R :=
  fun c cs _ => let ⟨v, w', r, s⟩ := h c cs; ⟨v, w', r, stepsIn_wide.2 s⟩

theorem calls_in {P : Program} {ro : Option Nat} {n : Nat} {f : FuncId} {args : Array Value} {w : World} {R : Ending → World → Prop} (h : Calls P f args w R) : CallsIn (wf ro) n P f args w R :=
  (callsIn_wide (n := n)).2 h

theorem Oper.wp_in {P : Program} {o : Oper} {a : Act} {w : World} {K : Act → World → Prop} {Q : Exit → Act → World → Prop} {ro : Option Nat} {n : Nat} (hnd : ∀ c, o.op ≠ .defer c) (h : o.wp P a w K Q) : o.wpIn (wf ro) n P a w K Q := by
  unfold Oper.wp at h
  unfold Oper.wpIn
  refine ⟨fun _ _ => trivial, ?_⟩
  rw [Oper.semAt_eq _ _ _ hnd]
  generalize (execOp a.eval o).run P w = r at *
  cases r with
  | ok x w' =>
    cases x <;> simp only [Oper.upon, Oper.uponIn] at h ⊢ <;>
      first
        | exact h
        | exact ⟨fun hh => by simp [Fence.wide] at hh, calls_in h⟩
        | exact ⟨fun hh => by simp [Fence.wide] at hh, rows_in h⟩
  | halt x w' => cases x <;> simp only [Oper.upon, Oper.uponIn] at h ⊢ <;> exact h

/-- An own row is written no more. -/
theorem Rel.freezeRow {c : Base} {nt : Nat} {env : Nat → AT} {ob : Nat → Option AObj} {ρ : Where} {S : Nat → Prop} {a : Act} {w : World} (hr : Rel c nt env ob ρ S a w) {o : Nat} {k : Nat} {e : TypeId} {rows : List (List D)} {live : Bool} (hob : ob o = some (.row k e rows live)) :
    ∃ S', Rel c nt env (updO [(o, some (.row k e rows false))] ob) ρ S' a w := by
  obtain ⟨h, hρ, h2⟩ := hr.obj o _ hob
  let S' : Nat → Prop := fun b => S b ∨ blkOf h = some b
  have hx' : ObjRep ρ w S' h (.row k e rows false) := by
    obtain ⟨hk, h3⟩ := h2
    refine ⟨hk, ?_⟩
    rcases h3 with h3 | ⟨g, c', hc0, rfl, ⟨r1, r2, r3, cur, r4, r5, r7, r6⟩, _⟩
    · exact .inl h3
    · refine .inr ⟨g, c', hc0, rfl, ⟨r1, r2, r3, cur, r4, r5, r7.mono (fun _ h => .inl h) (Keeps.refl _ _), fun i j r d hi hj => ?_⟩, (fun hl => by cases hl), fun _ => .inr (by simp [blkOf]; omega)⟩
      obtain ⟨u, hu, hru⟩ := r6 i j r d hi hj
      exact ⟨u, hu, hru.mono (fun _ h => .inl h) (Keeps.refl _ _)⟩
  refine ⟨S', ?_⟩
  have h1 := hr.step (dst := none) (v := undef) (out := .junk) (ob' := updO [(o, some (.row k e rows false))] ob) (w' := w) (S' := S') (ρ' := ρ) rfl ⟨fun _ _ h => h, fun _ h => .inl h, Keeps.refl _ _⟩ trivial
    (fun n y hy => by
      simp only [updO] at hy
      split at hy
      · rename_i e
        subst e
        cases hy
        refine .inr ⟨h, hρ, hx', fun b hb => ⟨(hr.place _ _ _ _ hob hρ hb).imp_right .inl, fun o2 x2 h2 hx2 hh2 hb2 => ?_⟩⟩
        simp only [updO] at hx2
        split at hx2
        · assumption
        · exact hr.sep _ _ _ _ _ _ b hx2 hob hh2 hρ hb2 hb
      · rename_i e
        refine .inl ⟨hy, fun hh b h1 h2 => ⟨rfl, fun h3 => ?_⟩⟩
        rcases h3 with h3 | h3
        · exact h3
        · exact absurd (hr.sep _ _ _ _ _ _ b hy hob h1 hρ h2 h3) e) rfl rfl rfl (Nat.le_refl _) (fun _ _ _ => rfl)
    (fun b hb => by
      rcases hb with hb | hb
      · exact hr.lim b hb
      · exact blk_lt hr hob hρ hb)
    (fun b hb => by
      rcases hb with hb | hb
      · exact hr.foot b hb
      · rcases hr.place _ _ _ _ hob hρ hb with h3 | h3
        · exact .inr h3.symm
        · exact hr.foot b h3)
  have e1 : putF env none .junk = env := by funext n; simp [putF]
  rw [e1] at h1
  exact h1

theorem updO_append : ∀ (l l' : List (Nat × Option AObj)) (ob : Nat → Option AObj), updO (l ++ l') ob = updO l (updO l' ob)
  | [], _, _ => rfl
  | (k, x) :: l, l', ob => by
    funext n
    simp only [List.cons_append, updO, updO_append l l' ob]

theorem updO_w : ∀ (l : List (Nat × Option AObj)) (ob : Nat → Option AObj) (n : Nat), updO l ob n = if n ∈ l.map (·.1) then updO l (fun _ => none) n else ob n
  | [], ob, n => by simp [updO]
  | (k, x) :: r, ob, n => by
    simp only [updO, List.map_cons, List.mem_cons]
    by_cases h : n = k
    · simp [h]
    · simp only [h, if_false, false_or]
      exact updO_w r ob n

theorem Rel.freezeRows {c : Base} {nt : Nat} {env : Nat → AT} {ob : Nat → Option AObj} {ρ : Where} {S : Nat → Prop} {a : Act} {w : World} (hr : Rel c nt env ob ρ S a w) : ∀ (fz : List Nat), (∀ n ∈ fz, ∃ k e rows, ob n = some (.row k e rows true)) →
    ∃ S', Rel c nt env (updO (fz.map (frz ob)) ob) ρ S' a w
  | [], _ => ⟨S, hr⟩
  | o :: fz, h => by
    obtain ⟨S1, h1⟩ := hr.freezeRows fz fun n hn => h n (List.mem_cons_of_mem _ hn)
    obtain ⟨k, e, rows, hob⟩ := h o (List.mem_cons_self ..)
    have hcur : ∃ live, updO (fz.map (frz ob)) ob o = some (.row k e rows live) := by
      rw [updO_w]
      split
      · rename_i hm
        refine ⟨false, ?_⟩
        clear h1
        induction fz with
        | nil => simp at hm
        | cons q fz ih =>
          simp only [List.map_cons, updO]
          by_cases hq : o = q
          · subst hq
            simp [frz, hob]
          · have hq' : ¬ o = (frz ob q).1 := hq
            rw [if_neg hq']
            exact ih (fun n hn => h n (by rcases List.mem_cons.1 hn with rfl | hn; exact List.mem_cons_self ..; exact List.mem_cons_of_mem _ (List.mem_cons_of_mem _ hn))) (by
              simp only [List.map_cons, List.mem_cons] at hm
              exact hm.resolve_left hq)
      · exact ⟨true, hob⟩
    obtain ⟨live, hcur⟩ := hcur
    obtain ⟨S2, h2⟩ := h1.freezeRow hcur
    refine ⟨S2, ?_⟩
    have e : (frz ob o) = (o, some (.row k e rows false)) := by simp [frz, hob]
    simp only [List.map_cons, e, updO]
    exact h2

/-- The caller's objects alone. -/
def RelH (c : Base) (objs : List (Nat × Option AObj)) (ρ : Where) (S : Nat → Prop) (w : World) : Prop := Rel c 0 (fun _ => .junk) (getO objs) ρ S { tmps := #[], defers := [] } w

def someO (os : List (Nat × AObj)) : List (Nat × Option AObj) := os.map fun p => (p.1, some p.2)

/-- A call that turns some objects, and knows of no others: it answers t, and leaves them as told. -/
def MeetsO (P : Program) (f : FuncId) (A : List (Bool × List AV)) (os os' : List (Nat × AObj)) (t : AT) : Prop :=
  Enterable P f ∧ ∀ (c : Base) (ρ : Where) (S : Nat → Prop) (w : World) (vals : List Value), RelH c (someO os) ρ S w → (∀ n h, ρ n = some h → n ∈ os.map (·.1)) → (∀ n, c.R n = ρ n) → All2 (fun t u => RepC ρ w S t.1 t.2 u) A vals →
    Calls P f vals.toArray w fun e w' => ∃ v objs' ρ' S', e = .returned v ∧ RelH c objs' ρ' S' w' ∧ RepT ρ' w' S' t v ∧ ∀ p ∈ os', getO objs' p.1 = some p.2

/-- The same value, for sure. -/
def sameV : Value → Value → Bool
  | .int k n, .int k' n' => k == k' && n == n'
  | .bool b, .bool b' => b == b'
  | .string s, .string s' => s.data.toList == s'.data.toList
  | .pointer none, .pointer none => true
  | .nilFunc, .nilFunc => true
  | .nilIface, .nilIface => true
  | _, _ => false

def sameL {α : Type} (f : α → α → Bool) : List α → List α → Bool
  | [], [] => true
  | x :: xs, y :: ys => f x y && sameL f xs ys
  | _, _ => false

def sameD : Nat → D → D → Bool
  | 0, _, _ => false
  | _ + 1, .v a, .v b => sameV a b
  | n + 1, .vec k r, .vec k' r' => k == k' && sameL (sameL (sameD n)) r r'
  | n + 1, .pt c, .pt c' => sameL (sameD n) c c'
  | n + 1, .fn f c, .fn f' c' => f == f' && sameL (sameD n) c c'
  | n + 1, .bd f c, .bd f' c' => f == f' && sameL (sameD n) c c'
  | _ + 1, _, _ => false

def sameAV : AV → AV → Bool
  | .d x, .d y => sameD 8 x y
  | .nils k, .nils k' => k == k'
  | _, _ => false

def sameOb : AObj → AObj → Bool
  | .var c l, .var c' l' => l == l' && sameL sameAV c c'
  | .row k e r l, .row k' e' r' l' => k == k' && e == e' && l == l' && sameL (sameL (sameD 8)) r r'
  | _, _ => false

theorem sameV_ok {a b : Value} (h : sameV a b = true) : a = b := by
  unfold sameV at h
  split at h <;> first | rfl | skip
  · simp at h; obtain ⟨rfl, rfl⟩ := h; rfl
  · simp at h; subst h; rfl
  · rename_i s s'
    have e : s = s' := by
      cases s with | mk a => cases s' with | mk b => simp at h; congr
    subst e; rfl
  · cases h

theorem sameL_ok {α : Type} {f : α → α → Bool} (hf : ∀ x y, f x y = true → x = y) : ∀ {xs ys : List α}, sameL f xs ys = true → xs = ys
  | [], [], _ => rfl
  | x :: xs, y :: ys, h => by
    simp only [sameL, Bool.and_eq_true] at h
    rw [hf x y h.1, sameL_ok hf h.2]
  | [], _ :: _, h => by cases h
  | _ :: _, [], h => by cases h

theorem sameD_ok : ∀ (n : Nat) (x y : D), sameD n x y = true → x = y
  | 0, _, _, h => by cases h
  | n + 1, x, y, h => by
    have ih := sameD_ok n
    cases x <;> cases y <;> simp only [sameD, Bool.and_eq_true, beq_iff_eq, Bool.false_eq_true] at h
    · rw [sameV_ok h]
    · rw [h.1, sameL_ok (fun _ _ h => sameL_ok ih h) h.2]
    · rw [sameL_ok ih h]
    · rw [h.1, sameL_ok ih h.2]
    · rw [h.1, sameL_ok ih h.2]

theorem sameAV_ok {x y : AV} (h : sameAV x y = true) : x = y := by
  unfold sameAV at h
  split at h
  · rw [sameD_ok _ _ _ h]
  · simp at h; rw [h]
  · cases h

theorem sameOb_ok {x y : AObj} (h : sameOb x y = true) : x = y := by
  unfold sameOb at h
  split at h
  · simp only [Bool.and_eq_true, beq_iff_eq] at h
    rw [h.1, sameL_ok (fun _ _ h => sameAV_ok h) h.2]
  · simp only [Bool.and_eq_true, beq_iff_eq] at h
    obtain ⟨⟨⟨h1, h2⟩, h3⟩, h4⟩ := h
    rw [h1, h2, h3, sameL_ok (fun _ _ h => sameL_ok (sameD_ok 8) h) h4]
  · cases h

/-- Does an object stand as it stood? -/
def stays (os : List (Nat × AObj)) (p : Nat × AObj) : Bool := os.any fun q => q.1 == p.1 && sameOb q.2 p.2

theorem stays_ok {os : List (Nat × AObj)} {p : Nat × AObj} (h : stays os p = true) : p ∈ os := by
  simp only [stays, List.any_eq_true, Bool.and_eq_true, beq_iff_eq] at h
  obtain ⟨q, hq, h1, h2⟩ := h
  have := sameOb_ok h2
  have e : q = p := Prod.ext h1 this
  rw [← e]
  exact hq

/-- Those that a call has turned. -/
def turned (os os' : List (Nat × AObj)) : List (Nat × AObj) := os'.filter fun p => !stays os p
/-- The like, and some others. -/
def turnedK (keep : Nat → Bool) (os os' : List (Nat × AObj)) : List (Nat × AObj) := os'.filter fun p => keep p.1 || !stays os p

theorem turned_upd {keep : Nat → Bool} {os os' : List (Nat × AObj)} {ob : Nat → Option AObj} (hos : ∀ p ∈ os, ob p.1 = some p.2) (hn : (os'.map (·.1)).Nodup) : updO (someO (turnedK keep os os')) ob = updO (someO os') ob := by
  have key : ∀ (l : List (Nat × AObj)), (l.map (·.1)).Nodup → ∀ n, updO (someO (l.filter fun p => keep p.1 || !stays os p)) ob n = updO (someO l) ob n := by
    intro l
    induction l with
    | nil => intro _ n; rfl
    | cons p l ih =>
      intro hl n
      rw [List.map_cons, List.nodup_cons] at hl
      have ih' := ih hl.2
      cases hs : (keep p.1 || !stays os p) with
      | true =>
        rw [List.filter_cons_of_pos (by simp [hs])]
        simp only [someO, List.map_cons, updO]
        split
        · rfl
        · exact ih' n
      | false =>
        have hs' : stays os p = true := by cases h : stays os p <;> simp_all
        rw [List.filter_cons_of_neg (by simp [hs]), ih' n]
        simp only [someO, List.map_cons, updO]
        split
        · rename_i e
          subst e
          rw [updO_w, if_neg (by simpa [someO] using hl.1)]
          exact hos p (stays_ok hs')
        · rfl
  funext n
  exact key os' hn n

/-- Objects of data alone. -/
def flatA : AV → Bool
  | .d _ => true
  | .nils _ => true
  | _ => false

def dataO : AObj → Bool
  | .var cells _ => cells.all flatA
  | .row .. => true
  | _ => false

def dataT : AT → Bool
  | .cs _ xs => xs.all flatA
  | .tup ts => ts.all fun t => t.2.all flatA
  | _ => false

def okO (A : List (Bool × List AV)) (os os' : List (Nat × AObj)) (t : AT) : Bool :=
  (callTouch A).all (fun n => (os.map (·.1)).contains n) && decide (os'.map (·.1) = os.map (·.1)) && decide (os'.map (·.1)).Nodup && os'.all (fun p => dataO p.2) && os.all (fun p => dataO p.2) && dataT t

/-- What a step may be, over functions: skipped; an operation of the machine's own; a call by a contract; a call that turns some objects. -/
def AStepF (P : Program) (Γ : Ctx) (ops : Array Oper) (N nt j : Nat) (o : Oper) (env : Nat → AT) (ob : Nat → Option AObj) (x : Acc) : Prop :=
  dstOk nt o.dst = true ∧ ((guardA ops env o = some false ∧ x = ⟨guardT ops o, [], o.dst, .undef, []⟩) ∨
    (guardA ops env o = some true ∧ ((∃ fz r, (∀ n ∈ fz, ∃ k e rows, ob n = some (.row k e rows true)) ∧ aopW Γ (N + 8 * j) (aval Γ env) (updO (fz.map (frz ob)) ob) o r ∧ x = ⟨guardT ops o ++ o.op.operands.toList.flatMap opTemps, fz ++ r.touch, o.dst, r.out, r.upd ++ fz.map (frz ob)⟩) ∨
      (∃ f A es cargs res t news, callArgs (aval Γ env) o = some (f, A) ∧ convArgs ob es A = some cargs ∧ Meets P f cargs res ∧ res.out (N + 8 * j) = some (t, news) ∧ callOk ob es A news.length = true ∧
        x = ⟨guardT ops o ++ o.op.operands.toList.flatMap opTemps, callTouch A, o.dst, t, news ++ callUpd ob es A res.scalar⟩) ∨
      ∃ keep f A os os' t, callArgs (aval Γ env) o = some (f, A) ∧ (∀ p ∈ os, ob p.1 = some p.2) ∧ MeetsO P f A os os' t ∧ okO A os os' t = true ∧
        x = ⟨guardT ops o ++ o.op.operands.toList.flatMap opTemps, os.map (·.1), o.dst, t, someO (turnedK keep os os')⟩)))

/-- A run of a list of operations, step by step. -/
inductive ARun (P : Program) (Γ : Ctx) (ops : Array Oper) (N : Nat) : Nat → List Oper → St → St → List Acc → Prop where
  | nil {j st} : ARun P Γ ops N j [] st st []
  | env {j rest st env' st' xs} (h : getE env' = getE st.env) (t : ARun P Γ ops N j rest ⟨st.nt, env', st.objs, st.next⟩ st' xs) : ARun P Γ ops N j rest st st' xs
  | cons {j o rest st st' x xs} (h : AStepF P Γ ops N st.nt j o (getE st.env) (getO st.objs) x) (t : ARun P Γ ops N (j + 1) rest (st.apply x) st' xs) : ARun P Γ ops N j (o :: rest) st st' (x :: xs)

theorem guardA_ev {ops : Array Oper} {env env' : Nat → AT} {o : Oper} (h : ∀ t ∈ guardT ops o, env' t = env t) : guardA ops env' o = guardA ops env o := by
  unfold guardA guardT at *
  split
  · rfl
  · rename_i j want hg
    simp only [hg] at h
    split
    · rfl
    · rename_i t ht
      simp only [ht] at h
      rw [h t (by simp)]

theorem astepF_frame {P : Program} {Γ : Ctx} {ops : Array Oper} {N nt j : Nat} {o : Oper} {env env' : Nat → AT} {ob ob' : Nat → Option AObj} {x : Acc} (h : AStepF P Γ ops N nt j o env ob x)
    (ht : ∀ t ∈ x.rt, env' t = env t) (hn : ∀ n ∈ x.ro, ob' n = ob n) : AStepF P Γ ops N nt j o env' ob' x := by
  obtain ⟨hd, h⟩ := h
  refine ⟨hd, ?_⟩
  rcases h with ⟨hg, rfl⟩ | ⟨hg, h⟩
  · exact .inl ⟨by rw [guardA_ev ht]; exact hg, rfl⟩
  · refine .inr ?_
    rcases h with ⟨fz, r, hfz, hr, rfl⟩ | ⟨f, A, es, cargs, res, t, news, h1, h2, h3, h4, h5, rfl⟩ | ⟨keep, f, A, os, os', t, h1, h2, h3, h4, rfl⟩
    · have hz : ∀ n ∈ fz, ob' n = ob n := fun n h1 => hn n (List.mem_append.2 (.inl h1))
      have hz2 : fz.map (frz ob') = fz.map (frz ob) := List.map_congr_left fun n h1 => by simp only [frz, hz n h1]
      refine ⟨by rw [guardA_ev fun t h1 => ht t (List.mem_append.2 (.inl h1))]; exact hg, .inl ⟨fz, r, fun n h1 => by rw [hz n h1]; exact hfz n h1, ?_, by rw [hz2]⟩⟩
      have hob : ∀ n ∈ r.touch, updO (fz.map (frz ob)) ob' n = updO (fz.map (frz ob)) ob n := fun n h1 => by
        rw [updO_w _ ob', updO_w _ ob, hn n (List.mem_append.2 (.inr h1))]
      have hev := aval_env (Γ := Γ) fun t h1 => ht t (List.mem_append.2 (.inr h1))
      rw [hz2]
      rcases hr with hr | hr
      · exact .inl (by rw [aop_ev hev]; exact aop_ob hr hob)
      · exact .inr (by rw [aopY_ev (fun _ h => onesOf_ev h) (fun _ _ h => optInt_ev h) hev]; exact aopY_ob hr hob)
    · refine ⟨by rw [guardA_ev fun t h1 => ht t (List.mem_append.2 (.inl h1))]; exact hg, .inr (.inl ⟨f, A, es, cargs, res, t, news, ?_, ?_, h3, h4, ?_, ?_⟩)⟩
      · rw [callArgs_ev (aval_env fun t h1 => ht t (List.mem_append.2 (.inr h1)))]; exact h1
      · rw [convArgs_ob hn]; exact h2
      · rw [callOk_ob hn]; exact h5
      · rw [callUpd_ob hn]
    · refine ⟨by rw [guardA_ev fun t h1 => ht t (List.mem_append.2 (.inl h1))]; exact hg, .inr (.inr ⟨keep, f, A, os, os', t, ?_, fun p hp => ?_, h3, h4, rfl⟩)⟩
      · rw [callArgs_ev (aval_env fun t h1 => ht t (List.mem_append.2 (.inr h1)))]; exact h1
      · rw [hn p.1 (List.mem_map.2 ⟨p, hp, rfl⟩)]; exact h2 p hp

section
variable {P : Program} {Γ : Ctx} {c : Base} {nt : Nat} {env : Nat → AT} {ob : Nat → Option AObj} {ρ : Where} {S : Nat → Prop} {a : Act} {w : World}

theorem guard_wanted (hr : Rel c nt env ob ρ S a w) {ops : Array Oper} {o : Oper} {b : Bool} (h : guardA ops env o = some b) : Region.wanted o (yielded ops a.tmps) = b := by
  unfold guardA at h
  unfold Region.wanted
  split at h
  · rename_i hg
    cases h
    simp [hg]
  · rename_i j want hg
    simp only [hg]
    split at h
    · rename_i hd
      cases h
      simp [yielded, hd]
    · rename_i t hd
      have he := hr.env t
      split at h
      · rename_i q e
        cases h
        rw [e] at he
        have hv := v_rep he
        have hget : a.tmps[t]? = some (.bool q) := by
          rw [Array.getD_eq_getD_getElem?] at hv
          cases hx : a.tmps[t]? with
          | none => rw [hx] at hv; simp [Go.undef] at hv
          | some y => rw [hx] at hv; simpa using hv
        simp [yielded, hd, hget]
      · rename_i e
        cases h
        rw [e] at he
        have hv : a.tmps.getD t Go.undef = Go.undef := he
        rw [Array.getD_eq_getD_getElem?] at hv
        cases hx : a.tmps[t]? with
        | none => simp [yielded, hd, hx]
        | some y =>
          rw [hx] at hv
          simp only [Option.getD_some] at hv
          subst hv
          simp [yielded, hd, hx, Go.undef]
      · cases h

theorem callArgs_op {ev : TypeId → Operand → AT} {o : Oper} {q : FuncId × List (Bool × List AV)} (h : callArgs ev o = some q) : ∃ cl, o.op = .call cl := by
  unfold callArgs at h
  split at h
  · exact ⟨_, by assumption⟩
  · cases h

theorem All2.swap {α β : Type} {R R' : α → β → Prop} {xs : List α} {ys : List β} (h : All2 R xs ys) (hr : ∀ x ∈ xs, ∀ y, R x y → R' x y) : All2 R' xs ys := by
  induction h with
  | nil => exact .nil
  | cons h _ ih => exact .cons (hr _ (List.mem_cons_self ..) _ h) (ih fun x hx => hr x (List.mem_cons_of_mem _ hx))

theorem repAV_any {ρ ρ' : Where} {w : World} {S : Nat → Prop} {x : AV} {u : Value} (hd : flatA x = true) (h : RepAV ρ w S x u) : RepAV ρ' w S x u := by
  cases x <;> first | exact h | cases hd

theorem repAVs_any {ρ ρ' : Where} {w : World} {S : Nat → Prop} {xs : List AV} {us : List Value} (hd : xs.all flatA = true) (h : All2 (RepAV ρ w S) xs us) : All2 (RepAV ρ' w S) xs us :=
  h.swap fun x hx _ hy => repAV_any (List.all_eq_true.1 hd x hx) hy

theorem repC_any {ρ ρ' : Where} {w : World} {S : Nat → Prop} {g : Bool} {xs : List AV} {v : Value} (hd : xs.all flatA = true) (h : RepC ρ w S g xs v) : RepC ρ' w S g xs v := by
  cases g with
  | true =>
    obtain ⟨us, h1, h2⟩ := h
    exact ⟨us, h1, repAVs_any hd h2⟩
  | false =>
    obtain ⟨x, rfl, h2⟩ := h
    exact ⟨_, rfl, repAV_any (List.all_eq_true.1 hd x (by simp)) h2⟩

theorem repT_any {ρ ρ' : Where} {w : World} {S : Nat → Prop} {t : AT} {v : Value} (hd : dataT t = true) (h : RepT ρ w S t v) : RepT ρ' w S t v := by
  cases t with
  | junk => trivial
  | undef => exact h
  | cs g xs => exact repC_any hd h
  | tup ts =>
    obtain ⟨vs, e, h2⟩ := h
    refine ⟨vs, e, h2.swap fun x hx _ hy => repC_any ?_ hy⟩
    exact List.all_eq_true.1 hd x hx

theorem objRep_any {ρ ρ' : Where} {w : World} {S : Nat → Prop} {h : Value} {x : AObj} (hd : dataO x = true) (hx : ObjRep ρ w S h x) : ObjRep ρ' w S h x := by
  cases x with
  | var cells live =>
    obtain ⟨g, cur, ety, e1, h1, h2, h3, h4⟩ := hx
    exact ⟨g, cur, ety, e1, h1, repAVs_any hd h2, h3, h4⟩
  | row => exact hx
  | lp => cases hd
  | it => cases hd
  | ms => cases hd

/-- What is handed over knows of no objects but some. -/
theorem repAV_in {ρ ρ' : Where} {w : World} {S : Nat → Prop} {x : AV} {u : Value} (ht : ∀ n ∈ avT x, ρ' n = ρ n) (h : RepAV ρ w S x u) : RepAV ρ' w S x u := by
  cases x with
  | d y => exact h
  | nils k => exact h
  | ptr o off => obtain ⟨g, h1, h2⟩ := h; exact ⟨g, by rw [ht o (by simp [avT])]; exact h1, h2⟩
  | own o => obtain ⟨h1, h2⟩ := h; exact ⟨by rw [ht o (by simp [avT])]; exact h1, h2⟩
  | eptr o k i j => obtain ⟨g, n, c, h1, h2⟩ := h; exact ⟨g, n, c, by rw [ht o (by simp [avT])]; exact h1, h2⟩
  | win o k lo n => obtain ⟨A, m, c, A', h1, h2⟩ := h; exact ⟨A, m, c, A', by rw [ht o (by simp [avT])]; exact h1, h2⟩
  | wx o k lo n => obtain ⟨A, c, A', h1, h2⟩ := h; exact ⟨A, c, A', by rw [ht o (by simp [avT])]; exact h1, h2⟩
  | clo f caps =>
    obtain ⟨vs, h1, h2⟩ := h
    refine ⟨vs, h1, h2.swap fun k hk v hv => ?_⟩
    cases k with
    | d y => exact hv
    | ptr o off => obtain ⟨g, h1, h2⟩ := hv; exact ⟨g, by rw [ht o (List.mem_flatMap.2 ⟨_, hk, by simp [capT]⟩)]; exact h1, h2⟩
  | yld o => obtain ⟨g, h1, h2⟩ := h; exact ⟨g, by rw [ht o (by simp [avT])]; exact h1, h2⟩
  | mph o => obtain ⟨g, h1, h2⟩ := h; exact ⟨g, by rw [ht o (by simp [avT])]; exact h1, h2⟩
  | vsl o n => obtain ⟨g, h1, h2⟩ := h; exact ⟨g, by rw [ht o (by simp [avT])]; exact h1, h2⟩

theorem repC_in {ρ ρ' : Where} {w : World} {S : Nat → Prop} {g : Bool} {xs : List AV} {v : Value} (ht : ∀ x ∈ xs, ∀ n ∈ avT x, ρ' n = ρ n) (h : RepC ρ w S g xs v) : RepC ρ' w S g xs v := by
  cases g with
  | true =>
    obtain ⟨us, h1, h2⟩ := h
    exact ⟨us, h1, h2.swap fun x hx y hy => repAV_in (ht x hx) hy⟩
  | false =>
    obtain ⟨x, rfl, h2⟩ := h
    exact ⟨_, rfl, repAV_in (ht x (by simp)) h2⟩

theorem getO_someO : ∀ {os : List (Nat × AObj)} {n : Nat} {x : AObj}, getO (someO os) n = some x → (n, x) ∈ os
  | [], n, x, h => by cases h
  | (k, y) :: r, n, x, h => by
    simp only [someO, List.map_cons, getO] at h
    split at h
    · rename_i e
      cases h
      subst e
      exact List.mem_cons_self ..
    · exact List.mem_cons_of_mem _ (getO_someO h)

theorem updO_someO : ∀ {os : List (Nat × AObj)} {ob : Nat → Option AObj} {n : Nat} {x : AObj}, updO (someO os) ob n = some x → (n, x) ∈ os ∨ (n ∉ os.map (·.1) ∧ ob n = some x)
  | [], ob, n, x, h => .inr ⟨by simp, h⟩
  | (k, y) :: r, ob, n, x, h => by
    simp only [someO, List.map_cons, updO] at h
    split at h
    · rename_i e
      cases h
      subst e
      exact .inl (List.mem_cons_self ..)
    · rename_i hne
      rcases updO_someO (os := r) h with h1 | ⟨h1, h2⟩
      · exact .inl (List.mem_cons_of_mem _ h1)
      · exact .inr ⟨by simp [hne, h1], h2⟩

theorem sound_callO {keep : Nat → Bool} (hr : Rel c nt env ob ρ S a w) {N : Nat} {o : Oper} (hd : dstOk nt o.dst = true) {f : FuncId} {A : List (Bool × List AV)} (hca : callArgs (aval Γ env) o = some (f, A))
    {os os' : List (Nat × AObj)} {t : AT} (hos : ∀ p ∈ os, ob p.1 = some p.2) (hm : MeetsO P f A os os' t) (hok : okO A os os' t = true) {tc : List Nat} : Goes P c nt N env ob ρ a w o ⟨t, someO (turnedK keep os os'), tc⟩ := by
  obtain ⟨vals, hall, hrun, _⟩ := callArgs_run (P := P) hr hca
  simp only [okO, Bool.and_eq_true, List.all_eq_true, decide_eq_true_eq, List.contains_eq_mem] at hok
  obtain ⟨⟨⟨⟨⟨hin, hkeys⟩, hnodup⟩, hdata⟩, hdata0⟩, hdt⟩ := hok
  let ks := os.map (·.1)
  let ρR : Where := fun n => if n ∈ ks then ρ n else none
  let cR : Base := ⟨w, S, fun b => ¬ S b ∧ ∃ o x h, (o, x) ∈ os ∧ ρ o = some h ∧ blkOf h = some b, ρR, []⟩
  have hkey : ∀ p ∈ os, p.1 ∈ ks := fun p hp => List.mem_map.2 ⟨p, hp, rfl⟩
  unfold Goes
  simp only [turned_upd hos hnodup]
  have hρR : ∀ n ∈ ks, ρR n = ρ n := fun n hn => by simp only [ρR, if_pos hn]
  have hsome : ∀ n h, ρR n = some h → n ∈ ks ∧ ρ n = some h := fun n h hh => by
    simp only [ρR] at hh
    split at hh
    · exact ⟨by assumption, hh⟩
    · cases hh
  have hrelR : RelH cR (someO os) ρR S w := by
    refine ⟨⟨[], rfl, .nil, by simp⟩, rfl, fun _ => trivial, fun n x hx => ?_, fun n n' x x' h h' b hx hx' hh hh' hb hb' => ?_, fun n x h b hx hh hb => ?_, rfl, rfl, rfl, Nat.le_refl _, fun _ _ _ => rfl, hr.lim, fun _ h => h, fun _ h => .inl h, fun _ _ h => h, hr.lim, hr.lay⟩
    · have hm' := getO_someO hx
      obtain ⟨h, h1, h2⟩ := hr.obj n x (hos _ hm')
      exact ⟨h, by rw [hρR n (hkey _ hm')]; exact h1, objRep_any (hdata0 _ hm') h2⟩
    · exact hr.sep n n' x x' h h' b (hos _ (getO_someO hx)) (hos _ (getO_someO hx')) (hsome _ _ hh).2 (hsome _ _ hh').2 hb hb'
    · by_cases hS : S b
      · exact .inr hS
      · exact .inl (.inr ⟨hS, n, x, h, getO_someO hx, (hsome _ _ hh).2, hb⟩)
  have hallR : All2 (fun t u => RepC ρR w S t.1 t.2 u) A vals := hall.swap fun x hx u hu => repC_in (fun y hy n hn => hρR n (by
    have := hin n (List.mem_flatMap.2 ⟨x, hx, List.mem_flatMap.2 ⟨y, hy, hn⟩⟩)
    simpa [ks] using this)) hu
  intro Q
  unfold Oper.wp
  rw [hrun hm.1]
  simp only [Oper.upon_enter]
  refine (hm.2 cR ρR S w vals hrelR (fun n h hh => (hsome n h hh).1) (fun _ => rfl) hallR).mono ?_
  rintro e w' ⟨v, objs', ρ', S', rfl, hr', hv, hfin⟩
  simp only
  have hBS : ∀ b, cR.B b → ¬ S b := fun b hb => hb.1
  have hsame : ∀ b, b < w.heap.size → ¬ cR.B b → w'.heap[b]? = w.heap[b]? := hr'.same
  have hkeep : Keeps S w w' := fun b hb => hsame b (hr.lim b hb) fun h => h.1 hb
  have hplace : ∀ b, cR.B b → c.W.heap.size ≤ b ∨ c.B b := fun b ⟨hS, n, x, h, hx, hh, hb⟩ => (hr.place n x h b (hos _ hx) hh hb).resolve_right hS
  refine ⟨ρ, S', hr.step hd ⟨fun _ _ h => h, hr'.sub, hkeep⟩ (repT_any hdt hv) (fun n x hx => ?_) hr'.os hr'.tape hr'.output hr'.hsize (fun b h1 h2 => ?_) hr'.lim (fun b hb => ?_), fun _ _ => rfl⟩
  · rcases updO_someO hx with hx | ⟨hn, hx⟩
    · have hnk : n ∈ ks := by
        have : n ∈ os'.map (·.1) := List.mem_map.2 ⟨_, hx, rfl⟩
        rw [hkeys] at this
        exact this
      obtain ⟨h, h1, h2⟩ := hr'.obj n x (hfin _ hx)
      obtain ⟨p, hp, hpn⟩ := List.mem_map.1 hnk
      have hob := hos p hp
      rw [hpn] at hob
      obtain ⟨h0, q1, _⟩ := hr.obj n _ hob
      have hpin := hr'.pin n h0 (by show ρR n = _; rw [hρR n hnk]; exact q1)
      rw [h1] at hpin
      cases hpin
      refine .inr ⟨h, q1, objRep_any (hdata _ hx) h2, fun b hb => ⟨?_, fun o2 x2 h2' hx2 hh2 hb2 => ?_⟩⟩
      · rcases hr'.place n x h b (hfin _ hx) h1 hb with (h3 | h3) | h3
        · exact .inl (.inl (Nat.le_trans hr.hsize h3))
        · exact .inl (hplace b h3)
        · exact .inr h3
      · rcases updO_someO hx2 with hx2 | ⟨_, hx2⟩
        · have hnk2 : o2 ∈ ks := by
            have : o2 ∈ os'.map (·.1) := List.mem_map.2 ⟨_, hx2, rfl⟩
            rw [hkeys] at this
            exact this
          obtain ⟨p2, hp2, hpn2⟩ := List.mem_map.1 hnk2
          have hob2 := hos p2 hp2
          rw [hpn2] at hob2
          exact hr.sep _ _ _ _ _ _ b hob2 hob hh2 q1 hb2 hb
        · exact hr.sep _ _ _ _ _ _ b hx2 hob hh2 q1 hb2 hb
    · refine .inl ⟨hx, fun h b h1 h2 => ?_⟩
      have hlt := blk_lt hr hx h1 h2
      have hnB : ¬ cR.B b := fun ⟨_, n', x', h', hx', hh', hb'⟩ => by
        have := hr.sep _ _ _ _ _ _ b hx (hos _ hx') h1 hh' h2 hb'
        rw [hkeys] at hn
        exact hn (List.mem_map.2 ⟨_, hx', this.symm⟩)
      refine ⟨hsame b hlt hnB, fun h3 => ?_⟩
      rcases hr'.foot b h3 with h4 | h4 | h4
      · exact h4
      · exact absurd h4 hnB
      · have : w.heap.size ≤ b := h4
        omega
  · refine hsame b (Nat.lt_of_lt_of_le h1 hr.hsize) fun h => ?_
    rcases hplace b h with h3 | h3
    · omega
    · exact h2 h3
  · rcases hr'.foot b hb with h4 | h4 | h4
    · exact hr.foot b h4
    · exact .inr (hplace b h4).symm
    · exact .inr (.inr (Nat.le_trans hr.hsize h4))

theorem astepF_sound (hΓ : CtxOk P Γ) (hr : Rel c nt env ob ρ S a w) {ops : Array Oper} {N j : Nat} {o : Oper} {x : Acc} {ro : Option Nat} {n : Nat} (ho : ops[j]? = some o) (hf : ∀ n, N + 8 * j ≤ n → n < N + 8 * j + 8 → ρ n = none)
    (h : AStepF P Γ ops N nt j o env ob x) {K : Act → World → Prop} {Q : Exit → Act → World → Prop}
    (hK : ∀ a' w' ρ' S', Rel c nt (putF env x.dst x.out) (updO x.upd ob) ρ' S' a' w' → (∀ n, n < N + 8 * j ∨ N + 8 * j + 8 ≤ n → ρ' n = ρ n) → K a' w') : wpOpIn (wf ro) n P ops Q j K a w := by
  unfold wpOpIn
  simp only [ho]
  obtain ⟨hd, h⟩ := h
  rcases h with ⟨hg, rfl⟩ | ⟨hg, h⟩
  · rw [if_neg (by rw [guard_wanted hr hg]; simp)]
    exact ⟨fun _ _ => trivial, hK _ _ ρ S (hr.value hd rfl) fun _ _ => rfl⟩
  · rw [if_pos (guard_wanted hr hg)]
    rcases h with ⟨fz, r, hfz, hra, rfl⟩ | ⟨f, A, es, cargs, res, t, news, h1, h2, h3, h4, h5, rfl⟩ | ⟨keep, f, A, os, os', t, h1, h2, h3, h4, rfl⟩
    · obtain ⟨S1, hr1⟩ := hr.freezeRows fz hfz
      refine Oper.wp_in (fun cl hcl => ?_) (Oper.wp_mono (fun a' w' ⟨ρ', S', h1, h2⟩ => hK a' w' ρ' S' (by rw [updO_append]; exact h1) h2) (hra.elim (fun hra => op_sound hΓ hr1 hf hd hra) (fun hra => op_soundY hΓ hr1 hf hd hra) Q))
      rcases hra with hra | hra
      · simp [aop, isX, aop0, hcl] at hra
      · simp [aopY, hcl] at hra
    · refine Oper.wp_in (fun cl hcl => ?_) (Oper.wp_mono (fun a' w' ⟨ρ', S', h1, h2⟩ => hK a' w' ρ' S' h1 h2) (sound_call hr hf hd h1 h2 h3 h4 h5 Q))
      obtain ⟨cl', hcl'⟩ := callArgs_op h1
      rw [hcl] at hcl'; cases hcl'
    · refine Oper.wp_in (fun cl hcl => ?_) (Oper.wp_mono (fun a' w' ⟨ρ', S', h1, h2⟩ => hK a' w' ρ' S' h1 h2) (sound_callO (N := N + 8 * j) (tc := []) hr hd h1 h2 h3 h4 Q))
      obtain ⟨cl', hcl'⟩ := callArgs_op h1
      rw [hcl] at hcl'; cases hcl'

end

/-! ### The order of the text -/

/-- Related, no object having been made from number N on. -/
def RelE (c : Base) (st : St) (N : Nat) (a : Act) (w : World) : Prop :=
  ∃ ρ S, Rel c st.nt (getE st.env) (getO st.objs) ρ S a w ∧ ∀ n, N ≤ n → ρ n = none

theorem apply_env (st : St) (x : Acc) : getE (st.apply x).env = putF (getE st.env) x.dst x.out := getE_put _ _ _
theorem apply_objs (st : St) (x : Acc) : getO (st.apply x).objs = updO x.upd (getO st.objs) := getO_upd _ _

section
variable {P : Program} {Γ : Ctx} {c : Base}

end

/-! ### Any order -/

def wT (t : Nat) (x : Acc) : Option AT := if x.dst = some t then some x.out else none
def wO (n : Nat) (x : Acc) : Option (Option AObj) := if n ∈ x.upd.map (·.1) then some (updO x.upd (fun _ => none) n) else none

def val {C : Type} (wr : Acc → Option C) : Nat → List Acc → (Nat → Bool) → C → C
  | _, [], _, cur => cur
  | i, x :: xs, D, cur => val wr (i + 1) xs D (if D i then (wr x).getD cur else cur)

theorem val_agree {C : Type} {wr : Acc → Option C} {j : Nat} {D : Nat → Bool} : ∀ (xs : List Acc) (i : Nat) (cur : C), (∀ (m : Nat) (x : Acc), xs[m]? = some x → (wr x).isSome = true → i + m < j → D (i + m) = true) →
    (∀ (m : Nat) (x : Acc), xs[m]? = some x → D (i + m) = true → j ≤ i + m → wr x = none) → val wr i xs D cur = val wr i xs (fun m => decide (m < j)) cur
  | [], _, _, _, _ => rfl
  | x :: xs, i, cur, h1, h2 => by
    simp only [val]
    have e : (if D i then (wr x).getD cur else cur) = (if decide (i < j) then (wr x).getD cur else cur) := by
      cases hw : wr x with
      | none => simp
      | some y =>
        by_cases hij : i < j
        · have := h1 0 x rfl (by simp [hw]) (by simpa using hij)
          simp only [Nat.add_zero] at this
          simp [this, hij]
        · have hD : D i = false := by
            cases hD : D i with
            | false => rfl
            | true =>
              have := h2 0 x rfl (by simpa using hD) (by omega)
              rw [hw] at this; cases this
          simp [hD, hij]
    rw [e]
    exact val_agree xs (i + 1) _ (fun m y hy hw hm => by have := h1 (m + 1) y (by simpa using hy) hw (by omega); rwa [show i + (m + 1) = i + 1 + m by omega] at this)
      (fun m y hy hD hm => h2 (m + 1) y (by simpa using hy) (by rwa [show i + (m + 1) = i + 1 + m by omega]) (by omega))

theorem val_none {C : Type} {wr : Acc → Option C} {D : Nat → Bool} : ∀ (xs : List Acc) (i : Nat) (cur : C), (∀ (m : Nat) (x : Acc), xs[m]? = some x → D (i + m) = true → wr x = none) → val wr i xs D cur = cur
  | [], _, _, _ => rfl
  | x :: xs, i, cur, h => by
    simp only [val]
    have e : (if D i then (wr x).getD cur else cur) = cur := by
      cases hD : D i with
      | false => simp
      | true => rw [h 0 x rfl (by simpa using hD)]; simp
    rw [e]
    exact val_none xs (i + 1) cur fun m y hy hD => h (m + 1) y (by simpa using hy) (by rwa [show i + (m + 1) = i + 1 + m by omega])

theorem val_congr {C : Type} {wr : Acc → Option C} {D D' : Nat → Bool} : ∀ (xs : List Acc) (i : Nat) (cur : C), (∀ m, i ≤ m → D m = D' m) → val wr i xs D cur = val wr i xs D' cur
  | [], _, _, _ => rfl
  | x :: xs, i, cur, h => by
    simp only [val, h i (Nat.le_refl _)]
    exact val_congr xs (i + 1) _ fun m hm => h m (by omega)

theorem val_add {C : Type} {wr : Acc → Option C} {D D' : Nat → Bool} {j : Nat} {y : Acc} (hj : D' j = true) (hj' : D j = false) (hD : ∀ m, m ≠ j → D' m = D m) : ∀ (xs : List Acc) (i : Nat) (cur : C), i ≤ j → xs[j - i]? = some y →
    (∀ (m : Nat) (x : Acc), xs[m]? = some x → D (i + m) = true → j < i + m → wr y = none ∨ wr x = none) → val wr i xs D' cur = (wr y).getD (val wr i xs D cur)
  | [], i, _, _, hy, _ => by simp at hy
  | x :: xs, i, cur, hij, hy, h => by
    simp only [val]
    by_cases hi : i = j
    · subst hi
      have hx : x = y := by simpa using hy
      subst hx
      have hc : ∀ cur, val wr (i + 1) xs D' cur = val wr (i + 1) xs D cur := fun cur => val_congr xs (i + 1) cur fun m hm => hD m (by omega)
      simp only [hj, hj', if_true, Bool.false_eq_true, if_false, hc]
      cases hw : wr x with
      | none => simp
      | some z =>
        simp only [Option.getD_some]
        refine val_none xs (i + 1) z fun m q hq hDm => ?_
        rcases h (m + 1) q (by simpa using hq) (by rwa [show i + (m + 1) = i + 1 + m by omega]) (by omega) with h1 | h1
        · rw [hw] at h1; cases h1
        · exact h1
    · rw [hD i hi]
      refine val_add hj hj' hD xs (i + 1) _ (by omega) ?_ (fun m q hq hDm hm => h (m + 1) q (by simpa using hq) (by rwa [show i + (m + 1) = i + 1 + m by omega]) (by omega))
      rw [show j - i = (j - (i + 1)) + 1 by omega] at hy
      simpa using hy

theorem putF_w (env : Nat → AT) (x : Acc) (t : Nat) : putF env x.dst x.out t = (wT t x).getD (env t) := by
  unfold putF wT
  split <;> rfl

theorem updO_wO (ob : Nat → Option AObj) (x : Acc) (n : Nat) : updO x.upd ob n = (wO n x).getD (ob n) := by
  rw [updO_w]
  unfold wO
  split <;> rfl

/-- What step x may do to what step y, later in the text, looks at or does. -/
def clash (x y : Acc) : Bool :=
  x.dst.toList.any (fun t => y.rt.contains t || y.dst == some t) || y.dst.toList.any (fun t => x.rt.contains t) ||
  (x.upd.map (·.1)).any (fun n => y.ro.contains n || (y.upd.map (·.1)).contains n) || (y.upd.map (·.1)).any (fun n => x.ro.contains n)

/-- Which operations surely come ahead of one, as bits. -/
def maskOf (ms : List Nat) (o : Oper) : Nat := o.after.toList.foldl (fun s e => if Region.binds .any e then s ||| 2 ^ e.on ||| ms.getD e.on 0 else s) 0

def masksFrom : List Nat → List Oper → List Nat
  | ms, [] => ms
  | ms, o :: r => masksFrom (ms ++ [maskOf ms o]) r

def backOk : Nat → List Oper → Bool
  | _, [] => true
  | i, o :: r => o.after.toList.all (fun e => !Region.binds .any e || decide (e.on < i)) && backOk (i + 1) r

def pairsOk (masks : List Nat) (xs : List Acc) : Bool :=
  (List.range xs.length).all fun j => (List.range j).all fun i => match xs[i]?, xs[j]? with
    | some x, some y => !clash x y || (masks.getD j 0).testBit i
    | _, _ => true

def drawOk (ops : List Oper) (xs : List Acc) : Bool := backOk 0 ops && pairsOk (masksFrom [] ops) xs

theorem testBit_foldl (ms : List Nat) (i : Nat) : ∀ (es : List Edge) (s : Nat), (es.foldl (fun s e => if Region.binds .any e then s ||| 2 ^ e.on ||| ms.getD e.on 0 else s) s).testBit i = true →
    s.testBit i = true ∨ ∃ e ∈ es, Region.binds .any e = true ∧ (i = e.on ∨ (ms.getD e.on 0).testBit i = true)
  | [], s, h => .inl h
  | e :: es, s, h => by
    simp only [List.foldl_cons] at h
    rcases testBit_foldl ms i es _ h with h1 | ⟨e', he', h1, h2⟩
    · split at h1
      · rename_i hb
        simp only [Nat.testBit_or, Bool.or_eq_true, Nat.testBit_two_pow, decide_eq_true_eq] at h1
        rcases h1 with (h1 | h1) | h1
        · exact .inl h1
        · exact .inr ⟨e, List.mem_cons_self .., hb, .inl h1.symm⟩
        · exact .inr ⟨e, List.mem_cons_self .., hb, .inr h1⟩
      · exact .inl h1
    · exact .inr ⟨e', List.mem_cons_of_mem _ he', h1, h2⟩

theorem masks_mem {ops : List Oper} {D : Nat → Bool} (hcl : ∀ (m : Nat) (o : Oper), ops[m]? = some o → D m = true → ∀ e ∈ o.after, Region.binds .any e = true → D e.on = true) :
    ∀ (rest : List Oper) (done : List Oper) (ms : List Nat), ops = done ++ rest → ms.length = done.length →
      (∀ m o, done[m]? = some o → ∀ i, (ms.getD m 0).testBit i = true → (∀ e ∈ o.after, Region.binds .any e = true → D e.on = true) → D i = true) →
      ∀ m o, ops[m]? = some o → ∀ i, ((masksFrom ms rest).getD m 0).testBit i = true → (∀ e ∈ o.after, Region.binds .any e = true → D e.on = true) → D i = true
  | [], done, ms, h1, h2, h3, m, o, hm, i, hi, he => by
    simp only [List.append_nil] at h1
    subst h1
    exact h3 m o hm i hi he
  | q :: rest, done, ms, h1, h2, h3, m, o, hm, i, hi, he => by
    refine masks_mem hcl rest (done ++ [q]) (ms ++ [maskOf ms q]) (by simp [h1]) (by simp [h2]) (fun m o hm i hi he => ?_) m o hm i hi he
    by_cases hl : m < done.length
    · rw [List.getElem?_append_left hl] at hm
      refine h3 m o hm i ?_ he
      rw [List.getD_eq_getElem?_getD, List.getElem?_append_left (by omega)] at hi
      rw [List.getD_eq_getElem?_getD]
      exact hi
    · have hml : m = done.length := by
        have := (List.getElem?_eq_some_iff.1 hm).1
        simp at this
        omega
      subst hml
      have hq : q = o := by simpa using hm
      subst hq
      have hmask : ((ms ++ [maskOf ms q]).getD done.length 0) = maskOf ms q := by
        rw [List.getD_eq_getElem?_getD, ← h2]
        simp
      rw [hmask] at hi
      rcases testBit_foldl ms i _ 0 hi with h4 | ⟨e, h4, h5, h6⟩
      · simp at h4
      · have hDe := he e (by simpa using h4) h5
        rcases h6 with rfl | h6
        · exact hDe
        · -- the edge's own operation lies among those that are done
          have hlt : e.on < ms.length := by
            rcases Nat.lt_or_ge e.on ms.length with h7 | h7
            · exact h7
            · rw [List.getD_eq_getElem?_getD, List.getElem?_eq_none h7] at h6
              simp at h6
          have hoo : done[e.on]? = some (done[e.on]'(by omega)) := List.getElem?_eq_getElem (by omega)
          have hops : ops[e.on]? = some (done[e.on]'(by omega)) := by
            rw [h1, List.getElem?_append_left (by omega)]; exact hoo
          exact h3 e.on _ hoo i h6 fun e' he' hb' => hcl e.on _ hops hDe e' he' hb'

theorem backOk_spec : ∀ (ops : List Oper) (i : Nat), backOk i ops = true → ∀ (m : Nat) (o : Oper), ops[m]? = some o → ∀ e ∈ o.after, Region.binds .any e = true → e.on < i + m
  | [], _, _, m, o, hm => by simp at hm
  | q :: ops, i, h, m, o, hm => by
    simp only [backOk, Bool.and_eq_true, List.all_eq_true, Bool.or_eq_true, Bool.not_eq_true', decide_eq_true_eq] at h
    cases m with
    | zero =>
      simp at hm
      subst hm
      intro e he hb
      rcases h.1 e (by simpa using he) with h1 | h1
      · rw [hb] at h1; cases h1
      · simpa using h1
    | succ m =>
      intro e he hb
      have := backOk_spec ops (i + 1) h.2 m o (by simpa using hm) e he hb
      omega

theorem pairsOk_spec {masks : List Nat} {xs : List Acc} (h : pairsOk masks xs = true) {i j : Nat} {x y : Acc} (hx : xs[i]? = some x) (hy : xs[j]? = some y) (hij : i < j) (hc : clash x y = true) : (masks.getD j 0).testBit i = true := by
  unfold pairsOk at h
  rw [List.all_eq_true] at h
  have h1 := h j (List.mem_range.2 (List.getElem?_eq_some_iff.1 hy).1)
  rw [List.all_eq_true] at h1
  have h2 := h1 i (List.mem_range.2 hij)
  simp only [hx, hy, hc, Bool.not_true, Bool.false_or] at h2
  exact h2

theorem arun_spec {P : Program} {Γ : Ctx} {ops : Array Oper} {N : Nat} {rest : List Oper} {j : Nat} {st st' : St} {xs : List Acc} (h : ARun P Γ ops N j rest st st' xs) : xs.length = rest.length ∧ st'.nt = st.nt ∧ st'.next = st.next ∧
    (∀ t, getE st'.env t = val (wT t) j xs (fun _ => true) (getE st.env t)) ∧ (∀ n, getO st'.objs n = val (wO n) j xs (fun _ => true) (getO st.objs n)) ∧
    ∀ (i : Nat) (o : Oper) (x : Acc), rest[i]? = some o → xs[i]? = some x → AStepF P Γ ops N st.nt (j + i) o (fun t => val (wT t) j xs (fun m => decide (m < j + i)) (getE st.env t)) (fun n => val (wO n) j xs (fun m => decide (m < j + i)) (getO st.objs n)) x := by
  induction h with
  | nil => exact ⟨rfl, rfl, rfl, fun _ => rfl, fun _ => rfl, fun i o x hi _ => by simp at hi⟩
  | env he _ ih =>
    simp only [he] at ih
    exact ih
  | @cons j o rest st st' x ys hx _ ih =>
    obtain ⟨h1, h2, h3, h4, h5, h6⟩ := ih
    have e1 : ∀ t, getE (st.apply x).env t = (wT t x).getD (getE st.env t) := fun t => by rw [apply_env, putF_w]
    have e2 : ∀ n, getO (st.apply x).objs n = (wO n x).getD (getO st.objs n) := fun n => by rw [apply_objs, updO_wO]
    refine ⟨by simp [h1], h2, h3, fun t => ?_, fun n => ?_, fun i o' x' ho' hx' => ?_⟩
    · rw [h4, e1]; simp [val]
    · rw [h5, e2]; simp [val]
    · cases i with
      | zero =>
        simp at ho' hx'
        subst ho'; subst hx'
        have f1 : (fun t => val (wT t) j (x :: ys) (fun m => decide (m < j + 0)) (getE st.env t)) = getE st.env := funext fun t => val_none _ _ _ fun m y _ hD => by simp at hD; omega
        have f2 : (fun n => val (wO n) j (x :: ys) (fun m => decide (m < j + 0)) (getO st.objs n)) = getO st.objs := funext fun n => val_none _ _ _ fun m y _ hD => by simp at hD; omega
        rw [f1, f2]
        exact hx
      | succ i =>
        have := h6 i o' x' (by simpa using ho') (by simpa using hx')
        rw [show j + (i + 1) = j + 1 + i by omega]
        have hlt : decide (j < j + 1 + i) = true := by simp; omega
        simp only [val, hlt, if_true]
        simp only [e1, e2] at this
        exact this

section
variable {P : Program} {Γ : Ctx} {c : Base}

theorem RelE.drew {st : St} {N : Nat} {a : Act} {w : World} (h : RelE c st N a w) (k : Nat) : RelE c st N a { w with drawn := k } := by
  obtain ⟨ρ, S, hr, hf⟩ := h
  refine ⟨ρ, S, ?_, hf⟩
  have h1 := hr.step (dst := none) (v := undef) (out := .junk) (w' := { w with drawn := k }) rfl (Grows.mk (fun _ _ h => h) (fun _ h => h) (fun _ _ => rfl)) trivial (fun _ _ hx => .inl ⟨hx, fun _ _ _ _ => ⟨rfl, id⟩⟩) rfl rfl rfl (Nat.le_refl _) (fun _ _ _ => rfl) hr.lim hr.foot
  have e : putF (getE st.env) none .junk = getE st.env := by funext n; simp [putF]
  rw [e] at h1
  exact h1

theorem count_set : ∀ (l : List Bool) (i : Nat), l[i]? = some false → ((l.set i true).filter (!·)).length + 1 = (l.filter (!·)).length
  | [], i, h => by simp at h
  | b :: l, 0, h => by
    simp at h
    subst h
    simp
  | b :: l, i + 1, h => by
    have := count_set l i (by simpa using h)
    cases b <;> simp <;> omega

/-- An operation that all before it precede, and that precedes all behind it. -/
def cutOk (ops : List Oper) (e : Nat) : Bool := (List.range e).all (fun i => ((masksFrom [] ops).getD e 0).testBit i) && (List.range ops.length).all fun i => decide (i ≤ e) || ((masksFrom [] ops).getD i 0).testBit e
def padA : Acc := ⟨[], [], none, .junk, []⟩
theorem val_pad {C : Type} {wr : Acc → Option C} (hw : wr padA = none) (xs : List Acc) (D : Nat → Bool) (cur : C) : ∀ (b i : Nat), val wr i (List.replicate b padA ++ xs) D cur = val wr (i + b) xs D cur
  | 0, i => by simp
  | b + 1, i => by
    rw [List.replicate_succ, List.cons_append]
    simp only [val]
    rw [hw]
    simp only [Option.getD_none, ite_self]
    rw [val_pad hw xs D cur b (i + 1)]
    congr 1
    omega

/-- A drawn region from op b to op e, what is ahead of b being done and nothing else. -/
theorem region_seg (hΓ : CtxOk P Γ) {ops : Array Oper} {st st' : St} {zs : List Acc} {N b e : Nat} {Q : Exit → Act → World → Prop} {ro : Option Nat} {n : Nat} (hbe : b ≤ e) (hes : e ≤ ops.size)
    (h : ARun P Γ ops N b ((ops.toList.drop b).take (e - b)) st st' zs) (hok : drawOk ops.toList (List.replicate b padA ++ zs) = true) (hcut : e < ops.size → cutOk ops.toList e = true)
    (hq : e = ops.size → ∀ a' w', RelE c st' (N + 8 * ops.size) a' w' → Q .normal a' w')
    (hcall : e < ops.size → ∀ (a' : Act) (w' : World) (listed : Array Bool) (fuel : Nat), RelE c st' (N + 8 * e) a' w' → listed.size = ops.size → (∀ m, m < ops.size → listed.getD m false = decide (m < e)) → (listed.toList.filter (!·)).length ≤ fuel + 1 →
      wpOpIn (wf ro) n P ops Q e (fun a w => wpAnyIn (wf ro) n P .any ops Q fuel (listed.setIfInBounds e true) a w) a' w')
    {a : Act} {w : World} {listed : Array Bool} {fuel : Nat} (hr : RelE c st (N + 8 * b) a w) (hls : listed.size = ops.size) (hlb : ∀ m, m < ops.size → listed.getD m false = decide (m < b)) (hfu : (listed.toList.filter (!·)).length ≤ fuel) :
    wpAnyIn (wf ro) n P .any ops Q fuel listed a w := by
  simp only [drawOk, Bool.and_eq_true] at hok
  obtain ⟨hback, hpairs⟩ := hok
  obtain ⟨hlen0, hnt, hnx, hT0, hO0, hstep0⟩ := arun_spec h
  obtain ⟨xs, hxs⟩ : ∃ xs, xs = List.replicate b padA ++ zs := ⟨_, rfl⟩
  rw [← hxs] at hpairs
  have hzl : zs.length = e - b := by rw [hlen0]; simp; omega
  have hlen : xs.length = e := by rw [hxs]; simp; omega
  have hpadT : ∀ t, wT t padA = none := fun t => by simp [wT, padA]
  have hpadO : ∀ m, wO m padA = none := fun m => by simp [wO, padA]
  have hvT : ∀ (t : Nat) (D : Nat → Bool) (cur : AT), val (wT t) b zs D cur = val (wT t) 0 xs D cur := fun t D cur => by rw [hxs, val_pad (hpadT t), Nat.zero_add]
  have hvO : ∀ (m : Nat) (D : Nat → Bool) (cur : Option AObj), val (wO m) b zs D cur = val (wO m) 0 xs D cur := fun m D cur => by rw [hxs, val_pad (hpadO m), Nat.zero_add]
  have hT : ∀ t, getE st'.env t = val (wT t) 0 xs (fun _ => true) (getE st.env t) := fun t => by rw [hT0, hvT]
  have hO : ∀ m, getO st'.objs m = val (wO m) 0 xs (fun _ => true) (getO st.objs m) := fun m => by rw [hO0, hvO]
  have hstep : ∀ (j : Nat) (o : Oper) (x : Acc), b ≤ j → j < e → ops.toList[j]? = some o → xs[j]? = some x → AStepF P Γ ops N st.nt j o (fun t => val (wT t) 0 xs (fun m => decide (m < j)) (getE st.env t)) (fun m => val (wO m) 0 xs (fun k => decide (k < j)) (getO st.objs m)) x := by
    intro j o x hbj hje ho hx
    obtain ⟨i, rfl⟩ : ∃ i, j = b + i := ⟨j - b, by omega⟩
    have h1 : ((ops.toList.drop b).take (e - b))[i]? = some o := by rw [List.getElem?_take, if_pos (by omega), List.getElem?_drop]; exact ho
    have h2 : zs[i]? = some x := by rw [hxs, List.getElem?_append_right (by simp)] at hx; simpa using hx
    have h3 := hstep0 i o x h1 h2
    simp only [hvT, hvO] at h3
    exact h3
  let eD : (Nat → Bool) → Nat → AT := fun D t => val (wT t) 0 xs D (getE st.env t)
  let oD : (Nat → Bool) → Nat → Option AObj := fun D n => val (wO n) 0 xs D (getO st.objs n)
  have hback' : ∀ (m : Nat) (o : Oper), ops[m]? = some o → ∀ e ∈ o.after, Region.binds .any e = true → e.on < m := fun m o hm e he hb => by
    have := backOk_spec ops.toList 0 hback m o (by simpa using hm) e he hb
    omega
  have main : ∀ (fuel : Nat) (listed : Array Bool) (ρ : Where) (S : Nat → Prop) (a : Act) (w : World), listed.size = ops.size → (listed.toList.filter (!·)).length ≤ fuel →
      (∀ (m : Nat) (o : Oper), ops[m]? = some o → listed.getD m false = true → ∀ e ∈ o.after, Region.binds .any e = true → listed.getD e.on false = true) →
      (∀ m, m < b → listed.getD m false = true) → (∀ m, e ≤ m → m < ops.size → listed.getD m false = false) →
      Rel c st.nt (eD fun m => listed.getD m false) (oD fun m => listed.getD m false) ρ S a w → (∀ n, N + 8 * ops.size ≤ n → ρ n = none) →
      (∀ m, m < ops.size → listed.getD m false = false → ∀ n, N + 8 * m ≤ n → n < N + 8 * m + 8 → ρ n = none) → wpAnyIn (wf ro) n P .any ops Q fuel listed a w := by
    intro fuel
    -- when nothing is ready, all are listed
    have allDone : ∀ (listed : Array Bool), listed.size = ops.size → Region.ready .any ops listed = [] → ∀ m, m < ops.size → listed.getD m false = true := by
      intro listed hsz hempty
      intro m
      induction m using Nat.strongRecOn with
      | _ m ih =>
        intro hm
        cases hl : listed.getD m false with
        | true => rfl
        | false =>
          exfalso
          have ho : ops[m]? = some ops[m] := Array.getElem?_eq_getElem hm
          have : m ∈ Region.ready .any ops listed := by
            rw [mem_ready]
            refine ⟨?_, _, ho, fun e he hb => ?_⟩
            · rw [Array.getD_eq_getD_getElem?, Array.getElem?_eq_getElem (by omega)] at hl ⊢
              simpa using hl
            · have := hback' m _ ho e he hb
              exact ih e.on this (by omega)
          rw [hempty] at this
          cases this
    have relEnd : ∀ (listed : Array Bool) (ρ : Where) (S : Nat → Prop) (a : Act) (w : World), (∀ m, m < e → listed.getD m false = true) →
        Rel c st.nt (eD fun m => listed.getD m false) (oD fun m => listed.getD m false) ρ S a w → Rel c st'.nt (getE st'.env) (getO st'.objs) ρ S a w := by
      intro listed ρ S a w hall hrel
      have hxl : ∀ (m : Nat) (x : Acc), xs[m]? = some x → m < e := fun m x hx => by
        have := (List.getElem?_eq_some_iff.1 hx).1
        rwa [hlen] at this
      have e1 : (eD fun m => listed.getD m false) = getE st'.env := by
        funext t
        rw [hT t]
        have q1 := val_agree (wr := wT t) (j := e) (D := fun m => listed.getD m false) xs 0 (getE st.env t) (fun m x hx _ _ => by simpa using hall m (hxl m x hx)) (fun m x hx _ hm => absurd (hxl m x hx) (by omega))
        have q2 := val_agree (wr := wT t) (j := e) (D := fun _ => true) xs 0 (getE st.env t) (fun m x hx _ _ => rfl) (fun m x hx _ hm => absurd (hxl m x hx) (by omega))
        exact q1.trans q2.symm
      have e2 : (oD fun m => listed.getD m false) = getO st'.objs := by
        funext n
        rw [hO n]
        have q1 := val_agree (wr := wO n) (j := e) (D := fun m => listed.getD m false) xs 0 (getO st.objs n) (fun m x hx _ _ => by simpa using hall m (hxl m x hx)) (fun m x hx _ hm => absurd (hxl m x hx) (by omega))
        have q2 := val_agree (wr := wO n) (j := e) (D := fun _ => true) xs 0 (getO st.objs n) (fun m x hx _ _ => rfl) (fun m x hx _ hm => absurd (hxl m x hx) (by omega))
        exact q1.trans q2.symm
      rw [hnt, ← e1, ← e2]
      exact hrel
    have finish : ∀ (listed : Array Bool) (ρ : Where) (S : Nat → Prop) (a : Act) (w : World), (∀ m, m < ops.size → listed.getD m false = true) → (∀ m, e ≤ m → m < ops.size → listed.getD m false = false) →
        Rel c st.nt (eD fun m => listed.getD m false) (oD fun m => listed.getD m false) ρ S a w → (∀ n, N + 8 * ops.size ≤ n → ρ n = none) → Q .normal a w := by
      intro listed ρ S a w hall hno hrel hfr
      have hee : e = ops.size := by
        refine Classical.byContradiction fun hne => ?_
        have h1 := hall e (by omega)
        rw [hno e (Nat.le_refl _) (by omega)] at h1
        cases h1
      exact hq hee a w ⟨ρ, S, relEnd listed ρ S a w (fun m hm => hall m (by omega)) hrel, hfr⟩
    induction fuel with
    | zero =>
      intro listed ρ S a w hsz hcnt hcl hlow hhigh hrel hfr hfresh
      have hall : ∀ m, m < ops.size → listed.getD m false = true := by
        intro m hm
        cases hl : listed.getD m false with
        | true => rfl
        | false =>
          exfalso
          have h0 : listed[m]? = some listed[m] := Array.getElem?_eq_getElem (by omega)
          rw [Array.getD_eq_getD_getElem?, h0] at hl
          simp only [Option.getD_some] at hl
          have : false ∈ listed.toList.filter (!·) := List.mem_filter.2 ⟨by rw [← hl]; simp, rfl⟩
          have h1 : listed.toList.filter (!·) = [] := List.length_eq_zero_iff.1 (by omega)
          rw [h1] at this
          cases this
      refine ⟨?_, finish listed ρ S a w hall hhigh hrel hfr⟩
      cases hrd : Region.ready .any ops listed with
      | nil => rfl
      | cons j js =>
        exfalso
        have : j ∈ Region.ready .any ops listed := by rw [hrd]; exact List.mem_cons_self ..
        obtain ⟨h1, o, h2, _⟩ := mem_ready.1 this
        have hj : j < ops.size := (Array.getElem?_eq_some_iff.1 h2).1
        have := hall j hj
        rw [Array.getD_eq_getD_getElem?, Array.getElem?_eq_getElem (by omega)] at h1 this
        simp at h1 this
        rw [h1] at this; cases this
    | succ fuel ih =>
      intro listed ρ S a w hsz hcnt hcl hlow hhigh hrel hfr hfresh
      refine ⟨fun hempty => finish listed ρ S a w (allDone listed hsz hempty) hhigh hrel hfr, fun j hj => ?_⟩
      obtain ⟨hj1, o, hjo, hjall⟩ := mem_ready.1 hj
      have hjs : j < ops.size := (Array.getElem?_eq_some_iff.1 hjo).1
      have hjl : listed.getD j false = false := by
        rw [Array.getD_eq_getD_getElem?, Array.getElem?_eq_getElem (by omega)] at hj1 ⊢
        simpa using hj1
      obtain ⟨D, hD⟩ : ∃ D : Nat → Bool, D = fun m => listed.getD m false := ⟨_, rfl⟩
      have hDj : D j = false := by rw [hD]; exact hjl
      have hjo' : ops.toList[j]? = some o := by simpa using hjo
      have hclD : ∀ (m : Nat) (o : Oper), ops.toList[m]? = some o → D m = true → ∀ e ∈ o.after, Region.binds .any e = true → D e.on = true := by
        rw [hD]; exact fun m o hm => hcl m o (by simpa using hm)
      have hmask : ∀ m, ((masksFrom [] ops.toList).getD j 0).testBit m = true → D m = true := fun m hm =>
        masks_mem hclD ops.toList [] [] (by simp) rfl (fun m o hm => by simp at hm) j o hjo' m hm (by rw [hD]; exact hjall)
      by_cases hje' : e ≤ j
      · have hel : e < ops.size := by omega
        have hc := hcut hel
        simp only [cutOk, Bool.and_eq_true] at hc
        by_cases hjeq : j = e
        · subst hjeq
          have hall : ∀ m, m < j → listed.getD m false = true := fun m hm => by
            have h1 := hmask m (List.all_eq_true.1 hc.1 m (List.mem_range.2 hm))
            rwa [hD] at h1
          refine hcall hel a w listed fuel ⟨ρ, S, relEnd listed ρ S a w hall hrel, fun q hq1 => ?_⟩ hsz (fun m hm => ?_) hcnt
          · by_cases hq2 : N + 8 * ops.size ≤ q
            · exact hfr q hq2
            · exact hfresh ((q - N) / 8) (by omega) (hhigh _ (by omega) (by omega)) q (by omega) (by omega)
          · by_cases hmj : m < j
            · rw [hall m hmj, decide_eq_true hmj]
            · rw [hhigh m (by omega) hm, decide_eq_false hmj]
        · exfalso
          have h1 := List.all_eq_true.1 hc.2 j (List.mem_range.2 (by simpa using hjs))
          rw [decide_eq_false (by omega), Bool.false_or] at h1
          have h2 : listed.getD e false = true := by
            have h3 := hmask e h1
            rw [hD] at h3
            exact h3
          rw [hhigh e (Nat.le_refl _) hel] at h2
          cases h2
      have hje : j < e := by omega
      have hbj : b ≤ j := by
        refine Classical.byContradiction fun hn => ?_
        rw [hlow j (by omega)] at hjl
        cases hjl
      have hxj : xs[j]? = some (xs[j]'(by rw [hlen]; exact hje)) := List.getElem?_eq_getElem _
      generalize hx : xs[j]'(by rw [hlen]; exact hje) = x at hxj
      -- what clashes with j and stands ahead of it is listed; what stands behind it is not
      have ahead : ∀ (m : Nat) (y : Acc), xs[m]? = some y → m < j → clash y x = true → D m = true := fun m y hy hmj hc =>
        masks_mem hclD ops.toList [] [] (by simp) rfl (fun m o hm => by simp at hm) j o hjo' m (pairsOk_spec hpairs hy hxj hmj hc) (by rw [hD]; exact hjall)
      have behind : ∀ (m : Nat) (y : Acc), xs[m]? = some y → j < m → D m = true → clash x y = false := fun m y hy hmj hDm => by
        cases hc : clash x y with
        | false => rfl
        | true =>
          have hml : m < ops.toList.length := by
            have := (List.getElem?_eq_some_iff.1 hy).1
            rw [hlen] at this
            simp; omega
          have hmo : ops.toList[m]? = some ops.toList[m] := List.getElem?_eq_getElem hml
          have := masks_mem hclD ops.toList [] [] (by simp) rfl (fun m o hm => by simp at hm) m _ hmo j (pairsOk_spec hpairs hxj hy hmj hc) (hclD m _ hmo hDm)
          rw [hDj] at this; cases this
      have hs := hstep j o x hbj hje hjo' hxj
      have hs' : AStepF P Γ ops N st.nt j o (eD D) (oD D) x := by
        refine astepF_frame hs (fun t ht => ?_) (fun n hn => ?_)
        · refine val_agree (j := j) xs 0 _ (fun m y hy hw hm => ?_) (fun m y hy hDm hm => ?_)
          · simp only [Nat.zero_add] at hm ⊢
            refine ahead m y hy hm ?_
            unfold wT at hw
            split at hw
            · rename_i hd
              simp [clash, hd, ht]
            · cases hw
          · simp only [Nat.zero_add] at hDm hm
            unfold wT
            split
            · rename_i hd
              have hne : m ≠ j := fun e => by subst e; rw [hDj] at hDm; cases hDm
              have := behind m y hy (by omega) hDm
              simp [clash, hd, ht] at this
            · rfl
        · refine val_agree (j := j) xs 0 _ (fun m y hy hw hm => ?_) (fun m y hy hDm hm => ?_)
          · simp only [Nat.zero_add] at hm ⊢
            refine ahead m y hy hm ?_
            unfold wO at hw
            split at hw
            · rename_i hd
              have hd' : (y.upd.map (·.1)).any (fun n => x.ro.contains n || (x.upd.map (·.1)).contains n) = true := List.any_eq_true.2 ⟨n, hd, by simp [hn]⟩
              simp only [clash, hd', Bool.or_true, Bool.true_or]
            · cases hw
          · simp only [Nat.zero_add] at hDm hm
            unfold wO
            split
            · rename_i hd
              have hne : m ≠ j := fun e => by subst e; rw [hDj] at hDm; cases hDm
              have := behind m y hy (by omega) hDm
              have hd' : (y.upd.map (·.1)).any (fun n => x.ro.contains n) = true := List.any_eq_true.2 ⟨n, hd, by simp [hn]⟩
              simp only [clash, hd', Bool.or_true] at this
              cases this
            · rfl
      have hrel' : Rel c st.nt (eD D) (oD D) ρ S a w := by rw [hD]; exact hrel
      refine astepF_sound hΓ hrel' hjo (hfresh j hjs hjl) hs' (fun a' w' ρ' S' h1 h2 => ?_)
      have hset : ∀ m, (listed.setIfInBounds j true).getD m false = if m = j then true else D m := fun m => by
        rw [hD]
        by_cases hmj : m = j
        · subst hmj
          simp [Array.getD_eq_getD_getElem?, hsz, hjs]
        · rw [if_neg hmj]
          exact getD_set_ne false (Ne.symm hmj)
      refine ih (listed.setIfInBounds j true) ρ' S' a' w' (by simp [hsz]) ?_ (fun m q hm hml e he hb => ?_) (fun m hm => ?_) (fun m hm1 hm2 => ?_) ?_ (fun n hn => by rw [h2 n (by omega)]; exact hfr n hn) (fun m hm hml n hn1 hn2 => ?_)
      · have := count_set listed.toList j (by
          have h0 : listed[j]? = some listed[j] := Array.getElem?_eq_getElem (by omega)
          rw [Array.getD_eq_getD_getElem?, h0] at hjl
          simp only [Option.getD_some] at hjl
          rw [Array.getElem?_toList, h0, hjl])
        simp only [Array.toList_setIfInBounds]
        omega
      · rw [hset]
        rw [hset] at hml
        split
        · rfl
        · rw [hD]
          split at hml
          · rename_i e0
            subst e0
            rw [hjo] at hm; cases hm
            exact hjall e he hb
          · rw [hD] at hml
            exact hcl m q hm hml e he hb
      · rw [hset]
        split
        · rfl
        · rw [hD]; exact hlow m hm
      · rw [hset, if_neg (by omega), hD]
        exact hhigh m hm1 hm2
      · have e1 : (eD fun m => (listed.setIfInBounds j true).getD m false) = putF (eD D) x.dst x.out := by
          funext t
          rw [putF_w]
          refine val_add (j := j) (y := x) (by rw [hset]; simp) hDj (fun m hm => by rw [hset, if_neg hm]) xs 0 _ (by omega) (by simpa using hxj) (fun m y hy hDm hm => ?_)
          simp only [Nat.zero_add] at hDm hm
          have := behind m y hy hm hDm
          unfold wT
          by_cases h3 : x.dst = some t
          · right
            rw [if_neg]
            intro h4
            simp [clash, h3, h4] at this
          · left
            rw [if_neg h3]
        have e2 : (oD fun m => (listed.setIfInBounds j true).getD m false) = updO x.upd (oD D) := by
          funext n
          rw [updO_wO]
          refine val_add (j := j) (y := x) (by rw [hset]; simp) hDj (fun m hm => by rw [hset, if_neg hm]) xs 0 _ (by omega) (by simpa using hxj) (fun m y hy hDm hm => ?_)
          simp only [Nat.zero_add] at hDm hm
          have := behind m y hy hm hDm
          unfold wO
          by_cases h3 : n ∈ x.upd.map (·.1)
          · right
            rw [if_neg]
            intro h4
            have hd' : (x.upd.map (·.1)).any (fun n => y.ro.contains n || (y.upd.map (·.1)).contains n) = true := List.any_eq_true.2 ⟨n, h3, by rw [List.contains_iff_mem.2 h4]; simp⟩
            simp only [clash, hd', Bool.or_true, Bool.true_or] at this
            cases this
          · left
            rw [if_neg h3]
        rw [e1, e2]
        exact h1
      · rw [hset] at hml
        split at hml
        · cases hml
        · rename_i hmj
          rw [h2 n (by omega)]
          rw [hD] at hml
          exact hfresh m hm hml n hn1 hn2
  obtain ⟨ρ, S, hrel, hfr⟩ := hr
  have hlt : ∀ m, listed.getD m false = true → m < ops.size := fun m hm => by
    refine Classical.byContradiction fun hn => ?_
    rw [Array.getD_eq_getD_getElem?, Array.getElem?_eq_none (by omega)] at hm
    cases hm
  have hlow : ∀ m, listed.getD m false = true → m < b := fun m hm => by
    have := hlb m (hlt m hm)
    rw [hm] at this
    simpa using this.symm
  have hpad : ∀ (m : Nat) (y : Acc), xs[m]? = some y → listed.getD (0 + m) false = true → y = padA := fun m y hy hDm => by
    have hm := hlow (0 + m) hDm
    rw [hxs, List.getElem?_append_left (by simp; omega), List.getElem?_replicate] at hy
    split at hy
    · exact (Option.some.inj hy).symm
    · cases hy
  refine main fuel listed ρ S a w hls hfu (fun m o hm hl q hq1 hb => ?_) (fun m hm => by rw [hlb m (by omega), decide_eq_true hm]) (fun m hm1 hm2 => by rw [hlb m hm2, decide_eq_false (by omega)]) ?_ (fun n hn => hfr n (by omega)) (fun m hm hl n hn _ => hfr n (by
    have := hlb m hm
    rw [hl] at this
    have : ¬ m < b := by simpa using this.symm
    omega))
  · have h1 := hlow m hl
    have h2 := hback' m o hm q hq1 hb
    rw [hlb q.on (by omega), decide_eq_true (by omega)]
  · have e1 : (eD fun m => listed.getD m false) = getE st.env := funext fun t => val_none _ _ _ fun m y hy hDm => by rw [hpad m y hy hDm]; exact hpadT t
    have e2 : (oD fun m => listed.getD m false) = getO st.objs := funext fun n => val_none _ _ _ fun m y hy hDm => by rw [hpad m y hy hDm]; exact hpadO n
    rw [e1, e2]
    exact hrel

/-- A drawn region, all of it. -/
theorem region_any (hm : P.follows .mixedOrders = true) {id : Nat} {ops : Array Oper} {st : St} {a : Act} {w : World} {Q : Exit → Act → World → Prop} {ro : Option Nat} {n : Nat} (hr : RelE c st st.next a w)
    (h : ∀ (a : Act) (w : World) (listed : Array Bool) (fuel : Nat), RelE c st st.next a w → listed.size = ops.size → (∀ m, m < ops.size → listed.getD m false = decide (m < 0)) → (listed.toList.filter (!·)).length ≤ fuel → wpAnyIn (wf ro) n P .any ops Q fuel listed a w) :
    (Code.region id ops true).wpIn (wf ro) n P Q a w := by
  refine wpIn_region_any hm ?_
  refine h a _ (Array.replicate ops.size false) ops.size (hr.drew (w.drawn + 1)) (by simp) (fun m _ => ?_) ?_
  · rw [Array.getD_eq_getD_getElem?, Array.getElem?_replicate]
    split <;> simp
  · refine Nat.le_trans (List.length_filter_le _ _) (by simp)

end
end Go.Eng
namespace Go.Eng

structure Pin where
  n : Nat
  free : List Nat
/-- Object o keeps its place. -/
def Pin.holds (p : Pin) (o : Nat) : Prop := o < p.n ∧ o ∉ p.free

/-- Where a walk stands: the program; the types; the round, if any; how many objects (from number 0 on), but for some, keep their places. -/
structure Sit where
  P : Program
  Γ : Ctx
  ro : Option Nat
  pin : Pin

structure SitOk (E : Sit) : Prop where
  ctx : CtxOk E.P E.Γ
  mix : E.P.follows .mixedOrders = true

/-- The base holds no more in place than the walk says. -/
def OkB (E : Sit) (c : Base) : Prop := ∀ o h, c.R o = some h → E.pin.holds o

def PostE (c : Base) (Q : Exit → St → Prop) : Exit → Act → World → Prop := fun e a' w' => ∃ st', RelE c st' st'.next a' w' ∧ Q e st'

/-- From a state st the code comes, by whatever way, to an exit and a state that Q lets. -/
def AWp (E : Sit) (code : Code) (Q : Exit → St → Prop) (st : St) : Prop :=
  ∀ (c : Base) (a : Act) (w : World), OkB E c → RelE c st st.next a w → code.wpIn (wf E.ro) 0 E.P (PostE c Q) a w

section
variable {E : Sit} {Q Q' : Exit → St → Prop} {st : St}

theorem awp_mono {code : Code} (h : AWp E code Q st) (hq : ∀ e st', Q e st' → Q' e st') : AWp E code Q' st :=
  fun c a w ho hr => wpIn_mono (h c a w ho hr) fun e _ _ ⟨st', h1, h2⟩ => ⟨st', h1, hq e st' h2⟩

theorem awp_skip (h : Q .normal st) : AWp E .skip Q st := fun _ _ _ _ hr => wpIn_skip ⟨st, hr, h⟩
theorem awp_label {l : Nat} (h : Q .normal st) : AWp E (.label l) Q st := fun _ _ _ _ hr => wpIn_label ⟨st, hr, h⟩
theorem awp_exit {id : Nat} (h : Q (.exit id) st) : AWp E (.exit id) Q st := fun _ _ _ _ hr => wpIn_exit ⟨st, hr, h⟩
theorem awp_ret (h : Q .ret st) : AWp E .ret Q st := fun _ _ _ _ hr => wpIn_ret ⟨st, hr, h⟩

def thenQ (K : St → Prop) (Q : Exit → St → Prop) : Exit → St → Prop
  | .normal, st => K st
  | e, st => Q e st

theorem awp_seq {x y : Code} (h : AWp E x (thenQ (AWp E y Q) Q) st) : AWp E (.seq x y) Q st := by
  intro c a w ho hr
  refine wpIn_seq (wpIn_mono (h c a w ho hr) fun e a' w' ⟨st', h1, h2⟩ => ?_)
  cases e with
  | normal => exact h2 c a' w' ho h1
  | _ => exact ⟨st', h1, h2⟩

def blockQ (id : Nat) (Q : Exit → St → Prop) : Exit → St → Prop
  | .exit id', st => if id' = id then Q .normal st else Q (.exit id') st
  | e, st => Q e st

theorem awp_block {id : Nat} {x : Code} (h : AWp E x (blockQ id Q) st) : AWp E (.block id x) Q st := by
  intro c a w ho hr
  refine wpIn_block (wpIn_mono (h c a w ho hr) fun e a' w' ⟨st', h1, h2⟩ => ?_)
  cases e with
  | exit id' =>
    simp only [Exit.inBlock, blockQ] at h2 ⊢
    split
    · rename_i hi; rw [if_pos hi] at h2; exact ⟨st', h1, h2⟩
    · rename_i hi; rw [if_neg hi] at h2; exact ⟨st', h1, h2⟩
  | _ => exact ⟨st', h1, h2⟩

theorem awp_cond {x : Operand} {y z : Code} {b : Bool} (hb : (aval E.Γ (getE st.env) 0 x).bool? = some b) (h1 : b = true → AWp E y Q st) (h2 : b = false → AWp E z Q st) : AWp E (.cond x y z) Q st := by
  intro c a w ho hr
  obtain ⟨ρ, S, hrel, hf⟩ := hr
  have hv := bool_rep (eval_rep (Γ := E.Γ) hrel 0 x) hb
  cases b with
  | true => exact wpIn_cond_true hv (h1 rfl c a w ho ⟨ρ, S, hrel, hf⟩)
  | false => exact wpIn_cond_false hv (h2 rfl c a w ho ⟨ρ, S, hrel, hf⟩)

/-- A loop: states, by a letter, that each round hands on; a number that goes down. -/
theorem awp_loop {x : Code} {ι : Type} (I : ι → St) (m : ι → Nat) (i : ι) (hi : ∀ c a w, OkB E c → RelE c st st.next a w → RelE c (I i) (I i).next a w)
    (round : ∀ i, AWp E x (thenQ (fun st' => ∃ j, m j < m i ∧ ∀ c a w, OkB E c → RelE c st' st'.next a w → RelE c (I j) (I j).next a w) Q) (I i)) : AWp E (.loop x) Q st := by
  intro c a w ho hr
  let Inv : Nat → Act → World → Prop := fun n a w => ∃ i, m i = n ∧ RelE c (I i) (I i).next a w
  have key : ∀ n a w, Inv n a w → (Code.loop x).wpIn (wf E.ro) 0 E.P (PostE c Q) a w := by
    intro n a w hI
    let μ : Act → World → Nat := fun a w => Classical.epsilon fun n => Inv n a w ∧ ∀ k, Inv k a w → n ≤ k
    have least : ∀ a w, (∃ n, Inv n a w) → Inv (μ a w) a w ∧ ∀ k, Inv k a w → μ a w ≤ k := by
      intro a w ⟨n, hn⟩
      refine Classical.epsilon_spec (p := fun n => Inv n a w ∧ ∀ k, Inv k a w → n ≤ k) ?_
      induction n using Nat.strongRecOn with
      | _ n ih =>
        by_cases hk : ∃ k, k < n ∧ Inv k a w
        · obtain ⟨k, h1, h2⟩ := hk
          exact ih k h1 h2
        · exact ⟨n, hn, fun k hk' => Nat.le_of_not_lt fun hlt => hk ⟨k, hlt, hk'⟩⟩
    refine wpIn_loop (fun a w => ∃ n, Inv n a w) μ ⟨n, hI⟩ (fun a w hI => ?_)
    obtain ⟨⟨i, hi, hrel⟩, _⟩ := least a w hI
    refine wpIn_mono (round i c a w ho hrel) fun e a' w' ⟨st', h1, h2⟩ => ?_
    cases e with
    | normal =>
      obtain ⟨j, hj, hw⟩ := h2
      have h3 : Inv (m j) a' w' := ⟨j, rfl, hw c a' w' ho h1⟩
      refine ⟨⟨_, h3⟩, ?_⟩
      have := (least a' w' ⟨_, h3⟩).2 _ h3
      omega
    | _ => exact ⟨st', h1, h2⟩
  exact key (m i) a w ⟨i, rfl, hi c a w ho hr⟩

/-- So many rounds at most, one by one. -/
def AWpR (E : Sit) (x : Code) (Q : Exit → St → Prop) : Nat → St → Prop
  | 0, _ => False
  | m + 1, st => AWp E x (thenQ (AWpR E x Q m) Q) st
theorem awp_rounds {x : Code} (m : Nat) (h : AWpR E x Q m st) : AWp E (.loop x) Q st := by
  intro c a w ho hr
  refine wpIn_loop_rounds m ?_
  induction m generalizing st a w with
  | zero => exact h.elim
  | succ m ih =>
    refine wpIn_mono (h c a w ho hr) fun e a' w' ⟨st', h1, h2⟩ => ?_
    cases e with
    | normal => exact ih h2 a' w' h1
    | _ => exact ⟨st', h1, h2⟩

/-- What holds of a state that says less. -/
theorem awp_weak {code : Code} {st' : St} (hw : ∀ c a w, OkB E c → RelE c st st.next a w → RelE c st' st'.next a w) (h : AWp E code Q st') : AWp E code Q st :=
  fun c a w ho hr => h c a w ho (hw c a w ho hr)

end

/-! ### Forgetting -/

def look (l : List (Nat × Nat)) (n : Nat) : Nat := match l with
  | [] => n
  | (a, b) :: r => if n = a then b else look r n

def CapV.ren (σ : Nat → Nat) : CapV → CapV
  | .ptr o off => .ptr (σ o) off
  | x => x

def AV.ren (σ : Nat → Nat) : AV → AV
  | .clo f ks => .clo f (ks.map (CapV.ren σ))
  | .ptr o off => .ptr (σ o) off
  | .own o => .own (σ o)
  | .eptr o k i j => .eptr (σ o) k i j
  | .win o k lo n => .win (σ o) k lo n
  | .wx o k lo n => .wx (σ o) k lo n
  | .yld o => .yld (σ o)
  | .mph o => .mph (σ o)
  | .vsl o n => .vsl (σ o) n
  | x => x

def AT.ren (σ : Nat → Nat) : AT → AT
  | .cs g xs => .cs g (xs.map (AV.ren σ))
  | .tup ts => .tup (ts.map fun t => (t.1, t.2.map (AV.ren σ)))
  | t => t

def AObj.ren (σ : Nat → Nat) : AObj → AObj
  | .var cells l => .var (cells.map (AV.ren σ)) l
  | .lp L => .lp { L with env := L.env.map fun p => (p.1, p.2.ren σ) }
  | x => x

def CapV.below (n : Nat) : CapV → Prop
  | .ptr o _ => o < n
  | _ => True

def AV.below (n : Nat) : AV → Prop
  | .clo _ ks => ∀ x ∈ ks, x.below n
  | .ptr o _ | .own o | .eptr o .. | .win o .. | .wx o .. | .yld o | .mph o | .vsl o _ => o < n
  | _ => True

def AT.below (n : Nat) : AT → Prop
  | .cs _ xs => ∀ x ∈ xs, x.below n
  | .tup ts => ∀ t ∈ ts, ∀ x ∈ t.2, x.below n
  | _ => True

def AObj.below (n : Nat) : AObj → Prop
  | .var cells _ => ∀ x ∈ cells, x.below n
  | .lp L => ∀ p ∈ L.env, p.2.below n
  | _ => True

/-- st' says no more than st: σ tells which object of st each of its objects is; those below pin are the same. -/
structure Weak (pin : Pin) (σ : Nat → Nat) (st st' : St) : Prop where
  pin : ∀ o, pin.holds o → σ o = o ∧ o < st'.next
  nt : st.nt = st'.nt
  env : ∀ p ∈ st'.env, getE st.env p.1 = p.2.ren σ ∧ p.2.below st'.next
  objs : ∀ p ∈ st'.objs, p.1 < st'.next ∧ ∀ x, p.2 = some x → getO st.objs (σ p.1) = some (x.ren σ) ∧ x.below st'.next
  inj : ∀ p ∈ st'.objs, ∀ q ∈ st'.objs, σ p.1 = σ q.1 → p.1 = q.1

theorem getE_mem : ∀ {l : List (Nat × AT)} {t : Nat}, getE l t = .junk ∨ (t, getE l t) ∈ l
  | [], t => .inl rfl
  | (k, x) :: l, t => by
    simp only [getE]
    split
    · rename_i h
      subst h
      exact .inr (List.mem_cons_self ..)
    · rcases getE_mem (l := l) (t := t) with h | h
      · exact .inl h
      · exact .inr (List.mem_cons_of_mem _ h)

theorem getO_mem : ∀ {l : List (Nat × Option AObj)} {t : Nat} {x : AObj}, getO l t = some x → (t, some x) ∈ l
  | [], t, x, h => by simp [getO] at h
  | (k, y) :: l, t, x, h => by
    simp only [getO] at h
    split at h
    · rename_i e
      subst e; subst h
      exact List.mem_cons_self ..
    · exact List.mem_cons_of_mem _ (getO_mem h)

theorem RepCap.ren {ρ : Where} {w : World} {S : Nat → Prop} {σ : Nat → Nat} {n : Nat} {x : CapV} {u : Value} (hb : x.below n) (h : RepCap ρ w S (x.ren σ) u) : RepCap (fun o => if o < n then ρ (σ o) else none) w S x u := by
  cases x with
  | d y => exact h
  | ptr o off =>
    obtain ⟨g, h1, h2⟩ := h
    exact ⟨g, by simp only [if_pos (show o < n from hb)]; exact h1, h2⟩

theorem RepAV.ren {ρ : Where} {w : World} {S : Nat → Prop} {σ : Nat → Nat} {n : Nat} {x : AV} {u : Value} (hb : x.below n) (h : RepAV ρ w S (x.ren σ) u) : RepAV (fun o => if o < n then ρ (σ o) else none) w S x u := by
  cases x with
  | d y => exact h
  | nils k => exact h
  | ptr o off =>
    obtain ⟨g, h1, h2⟩ := h
    exact ⟨g, by simp only [if_pos (show o < n from hb)]; exact h1, h2⟩
  | own o =>
    obtain ⟨h1, h2⟩ := h
    exact ⟨by simp only [if_pos (show o < n from hb)]; exact h1, h2⟩
  | eptr o k i j =>
    obtain ⟨g, m, c, h1, h2⟩ := h
    exact ⟨g, m, c, by simp only [if_pos (show o < n from hb)]; exact h1, h2⟩
  | win o k lo m =>
    obtain ⟨A, m', c, A', h1, h2⟩ := h
    exact ⟨A, m', c, A', by simp only [if_pos (show o < n from hb)]; exact h1, h2⟩
  | wx o k lo m =>
    obtain ⟨A, c, A', h1, h2⟩ := h
    exact ⟨A, c, A', by simp only [if_pos (show o < n from hb)]; exact h1, h2⟩
  | yld o =>
    obtain ⟨g, h1, h2⟩ := h
    exact ⟨g, by simp only [if_pos (show o < n from hb)]; exact h1, h2⟩
  | mph o =>
    obtain ⟨g, h1, h2⟩ := h
    exact ⟨g, by simp only [if_pos (show o < n from hb)]; exact h1, h2⟩
  | vsl o m =>
    obtain ⟨g, h1, h2⟩ := h
    exact ⟨g, by simp only [if_pos (show o < n from hb)]; exact h1, h2⟩
  | clo f ks =>
    obtain ⟨vs, h1, h2⟩ := h
    refine ⟨vs, h1, ?_⟩
    clear h1
    change ∀ x ∈ ks, CapV.below n x at hb
    induction ks generalizing vs with
    | nil => cases h2; exact .nil
    | cons y ks ih =>
      cases h2 with
      | cons h3 h4 => exact .cons (h3.ren (hb y (List.mem_cons_self ..))) (ih _ h4 fun z hz => hb z (List.mem_cons_of_mem _ hz))

theorem RepAVs.ren {ρ : Where} {w : World} {S : Nat → Prop} {σ : Nat → Nat} {n : Nat} : ∀ {xs : List AV} {us : List Value}, (∀ x ∈ xs, x.below n) → All2 (RepAV ρ w S) (xs.map (AV.ren σ)) us → All2 (RepAV (fun o => if o < n then ρ (σ o) else none) w S) xs us
  | [], us, _, h => by cases h; exact .nil
  | x :: xs, us, hb, h => by
    cases h with
    | cons h1 h2 => exact .cons (h1.ren (hb x (List.mem_cons_self ..))) (RepAVs.ren (fun y hy => hb y (List.mem_cons_of_mem _ hy)) h2)

theorem RepC.ren {ρ : Where} {w : World} {S : Nat → Prop} {σ : Nat → Nat} {n : Nat} {g : Bool} {xs : List AV} {u : Value} (hb : ∀ x ∈ xs, x.below n) (h : RepC ρ w S g (xs.map (AV.ren σ)) u) : RepC (fun o => if o < n then ρ (σ o) else none) w S g xs u := by
  cases g with
  | true =>
    obtain ⟨us, h1, h2⟩ := h
    exact ⟨us, h1, RepAVs.ren hb h2⟩
  | false =>
    obtain ⟨y, h1, h2⟩ := h
    match xs, h1 with
    | [x], h1 =>
      have e : x.ren σ = y := by simpa using h1
      subst e
      exact ⟨x, rfl, h2.ren (hb x (List.mem_cons_self ..))⟩

theorem RepT.ren {ρ : Where} {w : World} {S : Nat → Prop} {σ : Nat → Nat} {n : Nat} {t : AT} {u : Value} (hb : t.below n) (h : RepT ρ w S (t.ren σ) u) : RepT (fun o => if o < n then ρ (σ o) else none) w S t u := by
  cases t with
  | junk => trivial
  | undef => exact h
  | cs g xs => exact RepC.ren hb h
  | tup ts =>
    obtain ⟨vs, e, h5⟩ := h
    refine ⟨vs, e, ?_⟩
    clear e
    induction ts generalizing vs with
    | nil => cases h5; exact .nil
    | cons t' ts ih =>
      cases h5 with
      | cons h6 h7 => exact .cons (RepC.ren (hb t' (List.mem_cons_self ..)) h6) (ih (fun q hq => hb q (List.mem_cons_of_mem _ hq)) _ h7)

theorem getE_ren {σ : Nat → Nat} {t : Nat} : ∀ {l : List (Nat × AT)}, getE (l.map fun p => (p.1, p.2.ren σ)) t = (getE l t).ren σ
  | [] => rfl
  | (k, x) :: l => by
    simp only [List.map_cons, getE]
    split
    · rfl
    · exact getE_ren

theorem RelE.weak {E : Sit} {c : Base} {st st' : St} {σ : Nat → Nat} {a : Act} {w : World} (ho : OkB E c) (hw : Weak E.pin σ st st') (h : RelE c st st.next a w) : RelE c st' st'.next a w := by
  obtain ⟨ρ, S, hr, hf⟩ := h
  have hobj : ∀ o x, getO st'.objs o = some x → o < st'.next ∧ getO st.objs (σ o) = some (x.ren σ) ∧ x.below st'.next := fun o x hx => by
    have h1 := hw.objs _ (getO_mem hx)
    exact ⟨h1.1, h1.2 x rfl⟩
  refine ⟨fun o => if o < st'.next then ρ (σ o) else none, S, ?_, fun n hn => by simp only [if_neg (by omega : ¬ n < st'.next)]⟩
  refine ⟨hr.defers, by rw [← hw.nt]; exact hr.size, fun t => ?_, fun o x hx => ?_, fun o o' x x' h h' b hx hx' hh hh' hb hb' => ?_, fun o x h b hx hh hb => ?_, hr.os, hr.tape, hr.output, hr.hsize, hr.same, hr.lim, hr.sub, hr.foot, fun o h hh => by have h1 := hw.pin o (ho o h hh); simp only [if_pos h1.2, h1.1]; exact hr.pin o h hh, hr.clim, hr.lay⟩
  · rcases getE_mem (l := st'.env) (t := t) with h1 | h1
    · rw [h1]; trivial
    · obtain ⟨h2, h3⟩ := hw.env _ h1
      have h4 := hr.env t
      rw [h2] at h4
      exact RepT.ren h3 h4
  · obtain ⟨h1, h2, h3⟩ := hobj o x hx
    obtain ⟨h, e1, e2⟩ := hr.obj _ _ h2
    refine ⟨h, by simp only [if_pos h1]; exact e1, ?_⟩
    cases x with
    | row k e rows l => exact e2
    | it s pos => exact e2
    | ms kd ks => exact e2
    | lp L =>
      obtain ⟨g, q1, ⟨fn, tmps, D, q2, q3, q4⟩, q5⟩ := e2
      refine ⟨g, q1, ⟨fn, tmps, D, q2, q3, fun t => ?_⟩, q5⟩
      rcases getE_mem (l := L.env) (t := t) with h5 | h5
      · rw [h5]; trivial
      · have h6 := q4 t
        rw [getE_ren] at h6
        exact RepT.ren (h3 _ h5) h6
    | var cells l =>
      obtain ⟨g, cur, ety, q1, q2, q3, q4, q5⟩ := e2
      refine ⟨g, cur, ety, q1, q2, RepAVs.ren h3 q3, q4, fun hl => ⟨(q5 hl).1, fun y hy => ?_⟩⟩
      obtain ⟨z, hz⟩ := (q5 hl).2 (y.ren σ) (List.mem_map.2 ⟨y, hy, rfl⟩)
      cases y <;> simp [AV.ren] at hz
      exact ⟨_, rfl⟩
  · obtain ⟨h1, h2, _⟩ := hobj o x hx
    obtain ⟨h1', h2', _⟩ := hobj o' x' hx'
    simp only [if_pos h1] at hh
    simp only [if_pos h1'] at hh'
    exact hw.inj _ (getO_mem hx) _ (getO_mem hx') (hr.sep _ _ _ _ _ _ b h2 h2' hh hh' hb hb')
  · obtain ⟨h1, h2, _⟩ := hobj o x hx
    simp only [if_pos h1] at hh
    exact hr.place _ _ _ _ h2 hh hb

/-- An own object is written no more: it may be handed on as data. -/
def St.freeze (st : St) (o : Nat) : Option St := match getO st.objs o with
  | some (.var cells _) => match allD (getO st.objs) cells with
    | some ds => some { st with objs := (o, some (.var (ds.map .d) false)) :: st.objs }
    | none => none
  | some (.row k e rows _) => some { st with objs := (o, some (.row k e rows false)) :: st.objs }
  | some (.lp _) => none
  | some (.it ..) => none
  | some (.ms ..) => none
  | none => none

theorem RelE.freeze {c : Base} {st st' : St} {o : Nat} {a : Act} {w : World} (hs : st.freeze o = some st') (h : RelE c st st.next a w) : RelE c st' st'.next a w := by
  obtain ⟨ρ, S, hr, hf⟩ := h
  -- the block that becomes still
  have main : ∀ (x x' : AObj) (h : Value), getO st.objs o = some x → ρ o = some h → ObjRep ρ w S h x →
      (∀ S', (∀ b, S b → S' b) → (∀ b, blkOf h = some b → S' b) → ObjRep ρ w S' h x') → RelE c { st with objs := (o, some x') :: st.objs } st.next a w := by
    intro x x' h hx hρ hobj hx'
    let S' : Nat → Prop := fun b => S b ∨ blkOf h = some b
    refine ⟨ρ, S', ?_, hf⟩
    have h1 := hr.step (dst := none) (v := undef) (out := .junk) (ob' := updO [(o, some x')] (getO st.objs)) (w' := w) (S' := S') (ρ' := ρ) rfl ⟨fun _ _ h => h, fun _ h => .inl h, Keeps.refl _ _⟩ trivial
      (fun n y hy => by
        simp only [updO] at hy
        split at hy
        · rename_i e
          subst e
          cases hy
          refine .inr ⟨h, hρ, hx' S' (fun b hb => .inl hb) (fun b hb => .inr hb), fun b hb => ⟨(hr.place _ _ _ _ hx hρ hb).imp_right .inl, fun o2 x2 h2 hx2 hh2 hb2 => ?_⟩⟩
          simp only [updO] at hx2
          split at hx2
          · assumption
          · exact hr.sep _ _ _ _ _ _ b hx2 hx hh2 hρ hb2 hb
        · rename_i e
          refine .inl ⟨hy, fun hh b h1 h2 => ⟨rfl, fun h3 => ?_⟩⟩
          rcases h3 with h3 | h3
          · exact h3
          · exact absurd (hr.sep _ _ _ _ _ _ b hy hx h1 hρ h2 h3) e) rfl rfl rfl (Nat.le_refl _) (fun _ _ _ => rfl)
      (fun b hb => by
        rcases hb with hb | hb
        · exact hr.lim b hb
        · exact blk_lt hr hx hρ hb)
      (fun b hb => by
        rcases hb with hb | hb
        · exact hr.foot b hb
        · rcases hr.place _ _ _ _ hx hρ hb with h3 | h3
          · exact .inr h3.symm
          · exact hr.foot b h3)
    have e1 : putF (getE st.env) none .junk = getE st.env := by funext n; simp [putF]
    have e2 : getO ((o, some x') :: st.objs) = updO [(o, some x')] (getO st.objs) := getO_upd [(o, some x')] st.objs
    rw [e1, ← e2] at h1
    exact h1
  unfold St.freeze at hs
  split at hs
  · rename_i cells live hob
    split at hs
    · rename_i ds hds
      cases hs
      obtain ⟨h, h1, h2⟩ := hr.obj o _ hob
      refine main _ _ h hob h1 h2 fun S' hS hblk => ?_
      obtain ⟨g, cur, ety, rfl, q2, q3, q4, q5⟩ := h2
      have h3 := allD_rep hr hds q3
      refine ⟨g, cur, ety, rfl, q2, ?h3, (fun hl => by cases hl), fun _ => ⟨hblk g rfl, fun x hx => ?_⟩⟩
      case h3 =>
        have : All2 (RepAV ρ w S') (ds.map .d) cur.toList := by
          clear hds
          generalize cur.toList = us at h3
          induction h3 with
          | nil => exact .nil
          | cons h _ ih => exact .cons (h.mono hS (Keeps.refl _ _)) ih
        exact this
      · obtain ⟨d, _, rfl⟩ := List.mem_map.1 hx
        exact ⟨d, rfl⟩
    · cases hs
  · rename_i k e rows live hob
    cases hs
    obtain ⟨h, h1, h2⟩ := hr.obj o _ hob
    refine main _ _ h hob h1 h2 fun S' hS hblk => ?_
    obtain ⟨hk, h3⟩ := h2
    refine ⟨hk, ?_⟩
    rcases h3 with h3 | ⟨g, c', hc0, rfl, ⟨r1, r2, r3, cur, r4, r5, r7, r6⟩, _⟩
    · exact .inl h3
    · refine .inr ⟨g, c', hc0, rfl, ⟨r1, r2, r3, cur, r4, r5, r7.mono hS (Keeps.refl _ _), fun i j r d hi hj => ?_⟩, (fun hl => by cases hl), fun _ => hblk g (by simp [blkOf]; omega)⟩
      obtain ⟨u, hu, hru⟩ := r6 i j r d hi hj
      exact ⟨u, hu, hru.mono hS (Keeps.refl _ _)⟩
  · cases hs
  · cases hs
  · cases hs
  · cases hs

theorem awp_freeze {E : Sit} {code : Code} {Q : Exit → St → Prop} {st st' : St} (o : Nat) (hs : st.freeze o = some st') (h : AWp E code Q st') : AWp E code Q st :=
  awp_weak (fun _ _ _ _ => RelE.freeze hs) h

end Go.Eng
