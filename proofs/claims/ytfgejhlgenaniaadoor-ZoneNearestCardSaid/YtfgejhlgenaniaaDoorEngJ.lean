/- Soundness: calls. -/
import Derived.Test.YtfgejhlgenaniaaDoorEngI
namespace Go.Eng

section
variable {P : Program} {Γ : Ctx} {c : Base} {nt : Nat} {env : Nat → AT} {ob : Nat → Option AObj} {ρ : Where} {S : Nat → Prop} {a : Act} {w : World}
variable {N : Nat} {o : Oper} {r : AOut}

/-- The blocks of some objects. -/
def blks (ρ : Where) (l : List Nat) : List Nat := l.filterMap fun o => (ρ o).bind blkOf

theorem mem_blks {ρ : Where} {l : List Nat} {b : Nat} : b ∈ blks ρ l ↔ ∃ o ∈ l, ∃ h, ρ o = some h ∧ blkOf h = some b := by
  simp only [blks, List.mem_filterMap, Option.bind_eq_some_iff]

theorem blks_append {ρ : Where} (l l' : List Nat) : blks ρ (l ++ l') = blks ρ l ++ blks ρ l' := by simp [blks]

theorem mem_lives {ob : Nat → Option AObj} : ∀ {xs : List AV} {o : Nat}, o ∈ livesOf ob xs → ∃ k e rows, ob o = some (.row k e rows true)
  | [], o, h => by simp [livesOf] at h
  | x :: xs, o, h => by
    cases x with
    | own n =>
      simp only [livesOf] at h
      split at h
      · rename_i k e rows hob
        rcases List.mem_cons.1 h with rfl | h
        · exact ⟨k, e, rows, hob⟩
        · exact mem_lives h
      · exact mem_lives h
    | d _ => exact mem_lives (xs := xs) (by simpa [livesOf] using h)
    | nils _ => exact mem_lives (xs := xs) (by simpa [livesOf] using h)
    | ptr _ _ => exact mem_lives (xs := xs) (by simpa [livesOf] using h)
    | eptr _ _ _ _ => exact mem_lives (xs := xs) (by simpa [livesOf] using h)
    | win _ _ _ _ => exact mem_lives (xs := xs) (by simpa [livesOf] using h)
    | wx _ _ _ _ => exact mem_lives (xs := xs) (by simpa [livesOf] using h)
    | yld _ => exact mem_lives (xs := xs) (by simpa [livesOf] using h)
    | vsl _ _ => exact mem_lives (xs := xs) (by simpa [livesOf] using h)
    | clo _ _ => exact mem_lives (xs := xs) (by simpa [livesOf] using h)

theorem blks_nodup (hr : Rel c nt env ob ρ S a w) : ∀ {l : List Nat}, l.Nodup → (∀ o ∈ l, ∃ x, ob o = some x) → (blks ρ l).Nodup
  | [], _, _ => by simp [blks]
  | n :: l, hn, hl => by
    rw [List.nodup_cons] at hn
    have ih := blks_nodup hr hn.2 fun o ho => hl o (List.mem_cons_of_mem _ ho)
    unfold blks at ih ⊢
    rw [List.filterMap_cons]
    split
    · exact ih
    · rename_i b hb
      rw [List.nodup_cons]
      refine ⟨fun hm => ?_, ih⟩
      obtain ⟨h, h1, h2⟩ := Option.bind_eq_some_iff.1 hb
      obtain ⟨n', hn', h', h1', h2'⟩ := mem_blks.1 hm
      obtain ⟨x, hx⟩ := hl n (List.mem_cons_self ..)
      obtain ⟨x', hx'⟩ := hl n' (List.mem_cons_of_mem _ hn')
      have := hr.sep _ _ _ _ _ _ _ hx hx' h1 h1' h2 h2'
      exact hn.1 (this ▸ hn')

theorem allArg_rep (hr : Rel c nt env ob ρ S a w) (eat : Bool) (T : Nat → Prop) (hS : ∀ b, S b → T b) : ∀ {xs : List AV} {cs : List CV} {us : List Value}, allArg eat ob xs = some cs → All2 (RepAV ρ w S) xs us →
    (∀ n ∈ livesOf ob xs, ∀ h b, ρ n = some h → blkOf h = some b → if eat then ¬ T b else T b) → CVs w T cs us (if eat then blks ρ (livesOf ob xs) else [])
  | [], cs, us, h, hu, _ => by
    cases hu
    simp only [allArg, Option.some.injEq] at h
    subst h
    cases eat <;> exact .nil
  | x :: xs, cs, us, h, hu, hlv => by
    simp only [allArg] at h
    split at h
    · rename_i d ds hd hds
      cases h
      cases hu with
      | cons h1 h2 =>
        rename_i u us
        have hmono : ∀ {dd : D} {uu : Value}, Rep w S dd uu → Rep w T dd uu := fun hh => hh.mono hS (Keeps.refl _ _)
        have plain : ∀ (y : AV) (dd : D), y = x → (∀ k, y ≠ .own k) → avD ob y = some dd → d = .d dd → CVs w T (d :: ds) (u :: us) (if eat then blks ρ (livesOf ob (x :: xs)) else []) := by
          intro y dd hy hno hdd he
          subst hy; subst he
          have e : livesOf ob (y :: xs) = livesOf ob xs := by
            cases y <;> first | rfl | exact absurd rfl (hno _)
          rw [e]
          exact .d (hmono (avD_rep hr hdd h1)) (allArg_rep hr eat T hS hds h2 fun n hn => hlv n (by rw [e]; exact hn))
        cases x with
        | own n =>
          simp only [avArg] at hd
          split at hd
          · rename_i k e rows hob
            have ih := allArg_rep hr eat T hS hds h2 fun n hn => hlv n (by simp [livesOf, hob, hn])
            obtain ⟨hρ, A, nn, cc, rfl⟩ := h1
            obtain ⟨hh, h3, h4⟩ := hr.obj n _ hob
            rw [hρ] at h3; cases h3
            obtain ⟨hk, h5⟩ := h4
            have hmem := hlv n (by simp [livesOf, hob])
            cases eat with
            | true =>
              simp only [if_true, Option.some.injEq] at hd ih hmem ⊢
              subst hd
              rcases h5 with ⟨rfl, A', he⟩ | ⟨g, c', hc0, he, hblk, hlive, _⟩
              · cases he
                have e2 : blks ρ (livesOf ob (.own n :: xs)) = blks ρ (livesOf ob xs) := by
                  simp only [livesOf, hob, blks, List.filterMap_cons, hρ, Option.bind_some]
                  cases A <;> simp [blkOf]
                rw [e2]
                exact .ownNil ih
              · have hblk2 : blkOf (.slice A nn cc) = some g := by rw [he]; simp [blkOf]; omega
                have e2 : blks ρ (livesOf ob (.own n :: xs)) = g :: blks ρ (livesOf ob xs) := by
                  simp only [livesOf, hob, blks, List.filterMap_cons, hρ, Option.bind_some, hblk2]
                have hnT := hmem _ _ hρ hblk2
                rw [e2, he]
                refine .own hc0 hk ⟨hblk.cap, hblk.max, hblk.pos, ?_⟩ hnT ih
                · obtain ⟨cur, q1, q2, q6, q3⟩ := hblk.blk
                  exact ⟨cur, q1, q2, fun u hu => let ⟨_, hd⟩ := q6 u hu; ⟨_, hmono hd⟩, fun i j r dd hi hj => let ⟨v, q4, q5⟩ := q3 i j r dd hi hj; ⟨v, q4, hmono q5⟩⟩
            | false =>
              simp only [Bool.false_eq_true, if_false, Option.some.injEq] at hd ih hmem ⊢
              subst hd
              refine .d ?_ ih
              rcases h5 with ⟨rfl, A', he⟩ | ⟨g, c', hc0, he, ⟨r1, r2, r3, cur, r4, r5, r7, r6⟩, hlive, _⟩
              · cases he
                exact .vec k [] A 0 (fun _ _ => undef) (Nat.le_refl _) (by simp [maxLen]) (by simp) (fun i j hi _ => absurd hi (by simp)) (fun i j r d hi _ => by simp at hi)
              · have hblk2 : blkOf (.slice A nn cc) = some g := by rw [he]; simp [blkOf]; omega
                have hg : T g := hmem _ _ hρ hblk2
                rw [he]
                refine .vec k rows _ _ (fun i j => cur.getD (i * k + j) undef) r1 r2 hk (fun i j hi hj => ?_) (fun i j rr d hi hj => ?_)
                · have hri : rows[i]? = some rows[i] := List.getElem?_eq_getElem hi
                  have hrl := hk _ (List.getElem_mem hi)
                  have hjd : rows[i][j]? = some (rows[i][j]'(by omega)) := List.getElem?_eq_getElem (by omega)
                  obtain ⟨u, hu, _⟩ := r6 i j _ _ hri hjd
                  refine ⟨_, rfl, hg, ?_⟩
                  rw [add_lit, cell_of_row w g _ cur e (0, 0) r4, hu]
                  simp [Array.getD_eq_getD_getElem?, hu]
                · obtain ⟨u, hu, hru⟩ := r6 i j _ _ hi hj
                  simp only [Array.getD_eq_getD_getElem?, hu, Option.getD_some]
                  exact hmono hru
          · rename_i k e rows hob
            cases hd
            have e : livesOf ob (.own n :: xs) = livesOf ob xs := by simp [livesOf, hob]
            rw [e]
            exact .d (hmono (avD_rep hr (x := .own n) (by simp [avD, hob]) h1)) (allArg_rep hr eat T hS hds h2 fun n hn => hlv n (by rw [e]; exact hn))
          · cases hd
        | d y =>
          simp only [avArg, Option.map_eq_some_iff] at hd
          obtain ⟨dd, hdd, rfl⟩ := hd
          exact plain _ dd rfl (fun k => by simp) hdd rfl
        | nils k =>
          simp only [avArg, Option.map_eq_some_iff] at hd
          obtain ⟨dd, hdd, rfl⟩ := hd
          exact plain _ dd rfl (fun k => by simp) hdd rfl
        | ptr n off =>
          simp only [avArg, Option.map_eq_some_iff] at hd
          obtain ⟨dd, hdd, rfl⟩ := hd
          exact plain _ dd rfl (fun k => by simp) hdd rfl
        | eptr n k i j =>
          simp only [avArg, Option.map_eq_some_iff] at hd
          obtain ⟨dd, hdd, rfl⟩ := hd
          exact plain _ dd rfl (fun k => by simp) hdd rfl
        | win n k i j =>
          simp only [avArg, Option.map_eq_some_iff] at hd
          obtain ⟨dd, hdd, rfl⟩ := hd
          exact plain _ dd rfl (fun k => by simp) hdd rfl
        | yld n =>
          simp only [avArg, Option.map_eq_some_iff] at hd
          obtain ⟨dd, hdd, rfl⟩ := hd
          exact plain _ dd rfl (fun k => by simp) hdd rfl
        | vsl n m =>
          simp only [avArg, Option.map_eq_some_iff] at hd
          obtain ⟨dd, hdd, rfl⟩ := hd
          exact plain _ dd rfl (fun k => by simp) hdd rfl
        | wx n k i j =>
          simp only [avArg, Option.map_eq_some_iff] at hd
          obtain ⟨dd, hdd, rfl⟩ := hd
          exact plain _ dd rfl (fun k => by simp) hdd rfl
        | clo f ks =>
          simp only [avArg, Option.map_eq_some_iff] at hd
          obtain ⟨dd, hdd, rfl⟩ := hd
          exact plain _ dd rfl (fun k => by simp) hdd rfl
    · cases h

theorem allArg_len {eat : Bool} {ob : Nat → Option AObj} : ∀ {xs : List AV} {cs : List CV}, allArg eat ob xs = some cs → xs.length = cs.length
  | [], cs, h => by
    simp only [allArg, Option.some.injEq] at h
    subst h; rfl
  | x :: xs, cs, h => by
    simp only [allArg] at h
    split at h
    · rename_i d ds hd hds
      cases h
      simp [allArg_len hds]
    · cases h

theorem convArgs_rep (hr : Rel c nt env ob ρ S a w) (T : Nat → Prop) (hS : ∀ b, S b → T b) : ∀ {args : List (Bool × List AV)} {es : List Bool} {cs : List (Bool × List CV)} {vs : List Value}, convArgs ob es args = some cs → All2 (fun t u => RepC ρ w S t.1 t.2 u) args vs →
    (∀ n ∈ eatenOf ob es args, ∀ h b, ρ n = some h → blkOf h = some b → ¬ T b) → (∀ n ∈ lentOf ob es args, ∀ h b, ρ n = some h → blkOf h = some b → T b) → Comps w T cs vs (blks ρ (eatenOf ob es args))
  | [], es, cs, vs, h, hu, _, _ => by
    cases hu
    simp only [convArgs, Option.some.injEq] at h
    subst h
    exact .nil
  | (g, ys) :: args, es, cs, vs, h, hu, he, hl => by
    simp only [convArgs] at h
    split at h
    · rename_i ds rest hds hrest
      cases h
      cases hu with
      | cons h1 h2 =>
        rename_i u us
        simp only [eatenOf, lentOf] at he hl
        have ih := convArgs_rep hr T hS hrest h2 (fun n hn => he n (List.mem_append.2 (.inr hn))) (fun n hn => hl n (List.mem_append.2 (.inr hn)))
        have hh : ∀ n ∈ livesOf ob ys, ∀ h b, ρ n = some h → blkOf h = some b → if es.headD false then ¬ T b else T b := by
          intro n hn h b e1 e2
          cases hes : es.headD false with
          | true => simp only [if_true]; exact he n (List.mem_append.2 (.inl (by rw [hes]; exact hn))) h b e1 e2
          | false => simp only [Bool.false_eq_true, if_false]; exact hl n (List.mem_append.2 (.inl (by rw [hes]; exact hn))) h b e1 e2
        have e : blks ρ (eatenOf ob es ((g, ys) :: args)) = (if es.headD false then blks ρ (livesOf ob ys) else []) ++ blks ρ (eatenOf ob es.tail args) := by
          simp only [eatenOf, blks_append]
          cases es.headD false <;> rfl
        rw [e]
        cases g with
        | true =>
          obtain ⟨us', rfl, h3⟩ := h1
          exact .agg (allArg_rep hr _ T hS hds h3 hh) ih
        | false =>
          obtain ⟨x, rfl, h3⟩ := h1
          have h4 := allArg_rep hr _ T hS hds (.cons h3 .nil) hh
          have hl := allArg_len hds
          match ds, hl, h4 with
          | [d], _, h4 => exact .one h4 ih
    · cases h

/-- The headers of the own rows of a result, in order. -/
def hdrs : List CV → List Value → List Value
  | .own .. :: cs, u :: us => u :: hdrs cs us
  | _ :: cs, _ :: us => hdrs cs us
  | _, _ => []

theorem hdrs_len {w : World} {S : Nat → Prop} {cs : List CV} {us : List Value} {bs : List Nat} (h : CVs w S cs us bs) : (hdrs cs us).length = ownsIn cs := by
  induction h with
  | nil => rfl
  | d _ _ ih => simpa [hdrs, ownsIn] using ih
  | ownNil _ ih => simp [hdrs, ownsIn, ih]
  | own _ _ _ _ _ ih => simp [hdrs, ownsIn, ih]

theorem hdrs_blks {w : World} {S : Nat → Prop} {cs : List CV} {us : List Value} {bs : List Nat} (h : CVs w S cs us bs) : (hdrs cs us).filterMap blkOf = bs := by
  induction h with
  | nil => rfl
  | d _ _ ih => simpa [hdrs] using ih
  | @ownNil k e A cs us bs _ ih =>
    have : blkOf (.slice A 0 0) = none := by cases A <;> simp [blkOf]
    simp [hdrs, ih, this]
  | @own k e rows g c cs us bs hc _ _ _ _ ih => simp [hdrs, ih, blkOf, Nat.ne_of_gt hc]

theorem resAVs_rep {w : World} {S : Nat → Prop} {ρ : Where} {cs : List CV} {us : List Value} {bs : List Nat} (h : CVs w S cs us bs) : ∀ (n : Nat), (∀ (i : Nat) (u : Value), (hdrs cs us)[i]? = some u → ρ (n + i) = some u) →
    All2 (RepAV ρ w S) (resAVs n cs).1 us ∧ ∀ (m : Nat) (x : Option AObj), (m, x) ∈ (resAVs n cs).2 → ∃ i u y, m = n + i ∧ (hdrs cs us)[i]? = some u ∧ x = some y ∧ ObjRep ρ w S u y := by
  induction h with
  | nil => intro n _; exact ⟨.nil, fun m x hm => by simp [resAVs] at hm⟩
  | d hh _ ih =>
    intro n hρ
    obtain ⟨h1, h2⟩ := ih n (by simpa [hdrs] using hρ)
    exact ⟨.cons hh h1, fun m x hm => by simpa [hdrs] using h2 m x (by simpa [resAVs] using hm)⟩
  | @ownNil k e A cs us bs _ ih =>
    intro n hρ
    have h0 := hρ 0 (.slice A 0 0) rfl
    obtain ⟨h1, h2⟩ := ih (n + 1) (fun i u hu => by have := hρ (i + 1) u (by simpa [hdrs] using hu); rwa [Nat.add_assoc, Nat.add_comm 1 i])
    refine ⟨.cons ⟨h0, A, 0, 0, rfl⟩ h1, fun m x hm => ?_⟩
    simp only [resAVs, List.mem_cons] at hm
    rcases hm with hm | hm
    · cases hm
      exact ⟨0, _, _, rfl, by simp [hdrs], rfl, by simp, .inl ⟨rfl, A, rfl⟩⟩
    · obtain ⟨i, u, y, rfl, e1, e2, e3⟩ := h2 m x hm
      exact ⟨i + 1, u, y, by omega, by simpa [hdrs] using e1, e2, e3⟩
  | @own k e rows g cc cs us bs hc hk hblk hs _ ih =>
    intro n hρ
    have h0 := hρ 0 (.slice (some ⟨g, 0, none⟩) rows.length cc) rfl
    obtain ⟨h1, h2⟩ := ih (n + 1) (fun i u hu => by have := hρ (i + 1) u (by simpa [hdrs] using hu); rwa [Nat.add_assoc, Nat.add_comm 1 i])
    refine ⟨.cons ⟨h0, _, _, _, rfl⟩ h1, fun m x hm => ?_⟩
    simp only [resAVs, List.mem_cons] at hm
    rcases hm with hm | hm
    · cases hm
      exact ⟨0, _, _, rfl, by simp [hdrs], rfl, hk, .inr ⟨g, cc, hc, rfl, hblk, fun _ => hs, fun hh => by cases hh⟩⟩
    · obtain ⟨i, u, y, rfl, e1, e2, e3⟩ := h2 m x hm
      exact ⟨i + 1, u, y, by omega, by simpa [hdrs] using e1, e2, e3⟩

/-- The headers of all components, in order. -/
def hdrsAll : List (Bool × List CV) → List Value → List Value
  | (true, cs) :: r, .agg us :: vs => hdrs cs us.toList ++ hdrsAll r vs
  | (false, cs) :: r, u :: vs => hdrs cs [u] ++ hdrsAll r vs
  | _, _ => []

theorem hdrsAll_blks {w : World} {S : Nat → Prop} {cs : List (Bool × List CV)} {us : List Value} {bs : List Nat} (h : Comps w S cs us bs) : (hdrsAll cs us).filterMap blkOf = bs := by
  induction h with
  | nil => rfl
  | one h _ ih => simp [hdrsAll, ih, hdrs_blks h]
  | agg h _ ih => simp [hdrsAll, ih, hdrs_blks h]

theorem resComps_rep {w : World} {S : Nat → Prop} {ρ : Where} {cs : List (Bool × List CV)} {us : List Value} {bs : List Nat} (h : Comps w S cs us bs) : ∀ (n : Nat), (∀ (i : Nat) (u : Value), (hdrsAll cs us)[i]? = some u → ρ (n + i) = some u) →
    All2 (fun t u => RepC ρ w S t.1 t.2 u) (resComps n cs).1 us ∧ ∀ (m : Nat) (x : Option AObj), (m, x) ∈ (resComps n cs).2 → ∃ i u y, m = n + i ∧ (hdrsAll cs us)[i]? = some u ∧ x = some y ∧ ObjRep ρ w S u y := by
  have key : ∀ {cs' : List CV} {us' : List Value} {bs' : List Nat} {l : List Value} {n : Nat}, CVs w S cs' us' bs' → (∀ (i : Nat) (u : Value), (hdrs cs' us' ++ l)[i]? = some u → ρ (n + i) = some u) →
      (∀ (i : Nat) (u : Value), (hdrs cs' us')[i]? = some u → ρ (n + i) = some u) ∧ (∀ (i : Nat) (u : Value), l[i]? = some u → ρ (n + ownsIn cs' + i) = some u) := by
    intro cs' us' bs' l n h hρ
    have hl := hdrs_len h
    refine ⟨fun i u hu => hρ i u (by rw [List.getElem?_append_left (List.getElem?_eq_some_iff.1 hu).1]; exact hu), fun i u hu => ?_⟩
    rw [Nat.add_assoc]
    refine hρ _ u ?_
    rw [List.getElem?_append_right (by omega), hl, Nat.add_sub_cancel_left]
    exact hu
  induction h with
  | nil => intro n _; exact ⟨.nil, fun m x hm => by simp [resComps] at hm⟩
  | @one x u bs r vs bs' h _ ih =>
    intro n hρ
    obtain ⟨q1, q2⟩ := key h (by simpa [hdrsAll] using hρ)
    obtain ⟨h1, h2⟩ := resAVs_rep h n q1
    obtain ⟨h3, h4⟩ := ih _ q2
    refine ⟨.cons ?_ h3, fun m y hm => ?_⟩
    · obtain ⟨x', hx'⟩ : ∃ x', (resAVs n [x]).1 = [x'] := by cases x <;> exact ⟨_, rfl⟩
      rw [hx'] at h1
      refine ⟨x', hx', ?_⟩
      cases h1 with
      | cons h5 _ => exact h5
    · simp only [resComps, List.mem_append] at hm
      rcases hm with hm | hm
      · obtain ⟨i, v, z, e1, e2, e3⟩ := h2 m y hm
        exact ⟨i, v, z, e1, by simp only [hdrsAll]; rw [List.getElem?_append_left (List.getElem?_eq_some_iff.1 e2).1]; exact e2, e3⟩
      · obtain ⟨i, v, z, e1, e2, e3⟩ := h4 m y hm
        refine ⟨ownsIn [x] + i, v, z, by omega, ?_, e3⟩
        simp only [hdrsAll]
        rw [List.getElem?_append_right (by rw [hdrs_len h]; omega), hdrs_len h, Nat.add_sub_cancel_left]
        exact e2
  | @agg cs us bs r vs bs' h _ ih =>
    intro n hρ
    obtain ⟨q1, q2⟩ := key h (by simpa [hdrsAll] using hρ)
    obtain ⟨h1, h2⟩ := resAVs_rep h n q1
    obtain ⟨h3, h4⟩ := ih _ q2
    refine ⟨.cons ⟨us, rfl, h1⟩ h3, fun m y hm => ?_⟩
    simp only [resComps, List.mem_append] at hm
    rcases hm with hm | hm
    · obtain ⟨i, v, z, e1, e2, e3⟩ := h2 m y hm
      exact ⟨i, v, z, e1, by simp only [hdrsAll]; rw [List.getElem?_append_left (List.getElem?_eq_some_iff.1 e2).1]; exact e2, e3⟩
    · obtain ⟨i, v, z, e1, e2, e3⟩ := h4 m y hm
      refine ⟨ownsIn cs + i, v, z, by omega, ?_, e3⟩
      simp only [hdrsAll]
      rw [List.getElem?_append_right (by rw [hdrs_len h]; omega), hdrs_len h, Nat.add_sub_cancel_left]
      exact e2

theorem args_rep (hr : Rel c nt env ob ρ S a w) : ∀ {xs : List Operand} {ts : List TypeId} {args : List (Bool × List AV)}, argsOf (aval Γ env) xs ts = some args → All2 (fun t u => RepC ρ w S t.1 t.2 u) args (xs.map a.eval)
  | [], ts, args, h => by
    simp only [argsOf, Option.some.injEq] at h
    subst h
    exact .nil
  | x :: xs, ts, args, h => by
    simp only [argsOf] at h
    split at h
    · rename_i g ys rest e hrest
      cases h
      have hx := eval_rep (Γ := Γ) hr (ts.headD 0) x
      rw [e] at hx
      exact .cons hx (args_rep hr hrest)
    · cases h

theorem keys_news {cs : List (Bool × List CV)} {n : Nat} {m : Nat} {x : Option AObj} {us : List Value} {bs : List Nat} {w : World} {S : Nat → Prop} (h : Comps w S cs us bs) (hm : (m, x) ∈ (resComps n cs).2) :
    ∃ i, m = n + i ∧ i < (hdrsAll cs us).length := by
  have := (resComps_rep (ρ := fun k => (hdrsAll cs us)[k - n]?) h n (fun i u hu => by simp only [Nat.add_sub_cancel_left]; exact hu)).2 m x hm
  obtain ⟨i, u, y, e1, e2, _⟩ := this
  exact ⟨i, e1, (List.getElem?_eq_some_iff.1 e2).1⟩

theorem news_len {cs : List (Bool × List CV)} {us : List Value} {bs : List Nat} {w : World} {S : Nat → Prop} (h : Comps w S cs us bs) : ∀ n, (resComps n cs).2.length = (hdrsAll cs us).length := by
  have key : ∀ {cs' : List CV} {us' : List Value} {bs' : List Nat}, CVs w S cs' us' bs' → ∀ n, (resAVs n cs').2.length = (hdrs cs' us').length := by
    intro cs' us' bs' h
    induction h with
    | nil => intro n; rfl
    | d _ _ ih => intro n; simpa [resAVs, hdrs] using ih n
    | ownNil _ ih => intro n; simp [resAVs, hdrs, ih]
    | own _ _ _ _ _ ih => intro n; simp [resAVs, hdrs, ih]
  induction h with
  | nil => intro n; rfl
  | one h _ ih => intro n; simp [resComps, hdrsAll, ih, key h]
  | agg h _ ih => intro n; simp [resComps, hdrsAll, ih, key h]

/-- The result's cells as a list of components, and its news, in either make of result. -/
theorem out_comps {res : Res} {n : Nat} {t : AT} {news : List (Nat × Option AObj)} (h : res.out n = some (t, news)) :
    news = (resComps n res.cs).2 ∧ ((res.tup = true ∧ t = .tup (resComps n res.cs).1) ∨ (res.tup = false ∧ ∃ g xs, t = .cs g xs ∧ (resComps n res.cs).1 = [(g, xs)])) := by
  unfold Res.out at h
  split at h
  · rename_i ht
    cases h
    exact ⟨rfl, .inl ⟨ht, rfl⟩⟩
  · rename_i ht
    split at h
    · rename_i g cs hcs
      cases h
      rw [hcs]
      refine ⟨by simp [resComps], .inr ⟨by simpa using ht, g, _, rfl, by simp [resComps]⟩⟩
    · cases h

theorem scalar_cvs {w w' : World} {S S' : Nat → Prop} {cs : List CV} {us : List Value} {bs : List Nat} (h : CVs w S cs us bs) (hs : cs.all CV.scalar = true) : CVs w' S' cs us [] := by
  induction h with
  | nil => exact .nil
  | @d x u cs us bs hh _ ih =>
    simp only [List.all_cons, Bool.and_eq_true] at hs
    cases x with
    | v y =>
      cases hh with
      | v _ h1 => exact .d (.v _ h1) (ih hs.2)
    | _ => simp [CV.scalar] at hs
  | ownNil _ _ => simp [CV.scalar] at hs
  | own _ _ _ _ _ _ => simp [CV.scalar] at hs

theorem scalar_comps {w w' : World} {S S' : Nat → Prop} {cs : List (Bool × List CV)} {us : List Value} {bs : List Nat} (h : Comps w S cs us bs) (hs : (cs.all fun c => c.2.all CV.scalar) = true) : Comps w' S' cs us [] := by
  induction h with
  | nil => exact .nil
  | one h _ ih =>
    simp only [List.all_cons, Bool.and_eq_true] at hs
    exact .one (scalar_cvs h (by simpa using hs.1)) (ih hs.2)
  | agg h _ ih =>
    simp only [List.all_cons, Bool.and_eq_true] at hs
    exact .agg (scalar_cvs h (by simpa using hs.1)) (ih hs.2)

theorem res_rep {res : Res} {n : Nat} {t : AT} {news : List (Nat × Option AObj)} (h : res.out n = some (t, news)) {w : World} {S : Nat → Prop} {v : Value} {bs : List Nat} (hv : ResRep w S res v bs) :
    ∃ hd : List Value, hd.length = news.length ∧ hd.filterMap blkOf = bs ∧ ∀ ρ : Where, (∀ (i : Nat) (u : Value), hd[i]? = some u → ρ (n + i) = some u) →
      RepT ρ w S t v ∧ ∀ (m : Nat) (x : Option AObj), (m, x) ∈ news → ∃ i u y, m = n + i ∧ hd[i]? = some u ∧ x = some y ∧ ObjRep ρ w S u y := by
  obtain ⟨hn, ht⟩ := out_comps h
  subst hn
  have main : ∀ vs, Comps w S res.cs vs bs → ∃ hd : List Value, hd.length = (resComps n res.cs).2.length ∧ hd.filterMap blkOf = bs ∧ ∀ ρ : Where, (∀ (i : Nat) (u : Value), hd[i]? = some u → ρ (n + i) = some u) →
      All2 (fun t u => RepC ρ w S t.1 t.2 u) (resComps n res.cs).1 vs ∧ ∀ (m : Nat) (x : Option AObj), (m, x) ∈ (resComps n res.cs).2 → ∃ i u y, m = n + i ∧ hd[i]? = some u ∧ x = some y ∧ ObjRep ρ w S u y :=
    fun vs hc => ⟨hdrsAll res.cs vs, (news_len hc n).symm, hdrsAll_blks hc, fun ρ hρ => resComps_rep hc n hρ⟩
  unfold ResRep at hv
  rcases ht with ⟨h1, rfl⟩ | ⟨h1, g, xs, rfl, h2⟩
  · rw [if_pos h1] at hv
    obtain ⟨vs, rfl, hc⟩ := hv
    obtain ⟨hd, e1, e2, e3⟩ := main vs hc
    exact ⟨hd, e1, e2, fun ρ hρ => ⟨⟨vs, rfl, (e3 ρ hρ).1⟩, (e3 ρ hρ).2⟩⟩
  · rw [if_neg (by simp [h1])] at hv
    obtain ⟨hd, e1, e2, e3⟩ := main [v] hv
    refine ⟨hd, e1, e2, fun ρ hρ => ⟨?_, (e3 ρ hρ).2⟩⟩
    have h3 := (e3 ρ hρ).1
    rw [h2] at h3
    cases h3 with
    | cons h4 _ => exact h4

theorem nodup_blk {hd : List Value} (h : (hd.filterMap blkOf).Nodup) : ∀ {i j : Nat} {u v : Value} {b : Nat}, hd[i]? = some u → hd[j]? = some v → blkOf u = some b → blkOf v = some b → i = j := by
  induction hd with
  | nil => intro i j u v b hi; simp at hi
  | cons x hd ih =>
    intro i j u v b hi hj hu hv
    rw [List.filterMap_cons] at h
    have hh : (hd.filterMap blkOf).Nodup := by
      split at h
      · exact h
      · exact (List.nodup_cons.1 h).2
    cases i with
    | zero =>
      cases j with
      | zero => rfl
      | succ j =>
        simp only [List.getElem?_cons_zero, Option.some.injEq] at hi
        subst hi
        rw [hu] at h
        exact absurd (List.mem_filterMap.2 ⟨v, List.mem_of_getElem? (by simpa using hj), hv⟩) (List.nodup_cons.1 h).1
    | succ i =>
      cases j with
      | zero =>
        simp only [List.getElem?_cons_zero, Option.some.injEq] at hj
        subst hj
        rw [hv] at h
        exact absurd (List.mem_filterMap.2 ⟨u, List.mem_of_getElem? (by simpa using hi), hu⟩) (List.nodup_cons.1 h).1
      | succ j => exact congrArg (· + 1) (ih hh (by simpa using hi) (by simpa using hj) hu hv)

theorem callArgs_run (hr : Rel c nt env ob ρ S a w) {f : FuncId} {A : List (Bool × List AV)} (h : callArgs (aval Γ env) o = some (f, A)) :
    ∃ vals : List Value, All2 (fun t u => RepC ρ w S t.1 t.2 u) A vals ∧ (Enterable P f → ∀ w, (execOp a.eval o).run P w = .ok (.enter f vals.toArray) w) ∧ ∃ cl, o.op = .call cl := by
  unfold callArgs at h
  split at h
  · rename_i cl ho
    split at h
    · rename_i fx hb
      have fin : ∀ (vs : Array Value) (args : List (Bool × List AV)) (caps : List (Bool × List AV)), a.eval fx = .func (.func f) #[] vs → argsOf (aval Γ env) cl.args.toList cl.argTypes.toList = some args → All2 (fun t u => RepC ρ w S t.1 t.2 u) caps vs.toList → args ++ caps = A →
          ∃ vals : List Value, All2 (fun t u => RepC ρ w S t.1 t.2 u) A vals ∧ (Enterable P f → ∀ w, (execOp a.eval o).run P w = .ok (.enter f vals.toArray) w) ∧ ∃ cl, o.op = .call cl := by
        intro vs args caps hfv eargs hcaps hA
        subst hA
        refine ⟨_, (args_rep hr eargs).append hcaps, fun hent w => ?_, _, ho⟩
        have h1 := hent ((cl.args.toList.map a.eval ++ vs.toList).toArray) w
        have e : (cl.args.toList.map a.eval ++ vs.toList).toArray = #[] ++ cl.args.map a.eval ++ vs := by
          apply Array.ext'; simp
        rw [e] at h1 ⊢
        simp only [execOp, ho, resolve, hb, hfv, Deferred.ofValue, Sem.run_bind, Sem.run_pure, Result.andThen_ok, invoke, h1]
      split at h
      · rename_i f' caps args ef eargs
        simp only [Option.some.injEq, Prod.mk.injEq] at h
        obtain ⟨rfl, hA⟩ := h
        have hfx := one_rep (eval_rep (Γ := Γ) hr 0 fx) ef
        obtain ⟨vs, hfv, hvl, hvs⟩ := fn_val hfx
        refine fin vs args _ hfv eargs ?_ hA
        refine All2.of_get (by simp [hvl]) (fun i x y hx hy => ?_)
        simp only [List.getElem?_map, Option.map_eq_some_iff] at hx
        obtain ⟨d, hd, rfl⟩ := hx
        exact ⟨_, rfl, hvs i d y hd (by simpa using hy)⟩
      · rename_i f' caps args ef eargs
        simp only [Option.some.injEq, Prod.mk.injEq] at h
        obtain ⟨rfl, hA⟩ := h
        have hfx := one_rep (eval_rep (Γ := Γ) hr 0 fx) ef
        obtain ⟨vs, hfv, hvs⟩ := hfx
        refine fin vs.toArray args _ hfv eargs ?_ hA
        simp only
        clear hfv ef hA
        induction hvs with
        | nil => exact .nil
        | @cons x u xs us h1 _ ih =>
          refine .cons ?_ ih
          cases x with
          | d y => exact ⟨_, rfl, h1⟩
          | ptr oo off => exact ⟨_, rfl, h1⟩
      · cases h
    · cases h
  · cases h

theorem lives_eaten {ob : Nat → Option AObj} : ∀ {args : List (Bool × List AV)} {es : List Bool} {n : Nat}, n ∈ eatenOf ob es args → ∃ k e rows, ob n = some (.row k e rows true)
  | [], _, _, h => by simp [eatenOf] at h
  | (g, ys) :: args, es, n, h => by
    simp only [eatenOf, List.mem_append] at h
    rcases h with h | h
    · cases hes : es.headD false <;> rw [hes] at h
      · cases h
      · exact mem_lives h
    · exact lives_eaten h

theorem lives_lent {ob : Nat → Option AObj} : ∀ {args : List (Bool × List AV)} {es : List Bool} {n : Nat}, n ∈ lentOf ob es args → ∃ k e rows, ob n = some (.row k e rows true)
  | [], _, _, h => by simp [lentOf] at h
  | (g, ys) :: args, es, n, h => by
    simp only [lentOf, List.mem_append] at h
    rcases h with h | h
    · cases hes : es.headD false <;> rw [hes] at h
      · exact mem_lives h
      · cases h
    · exact lives_lent h

theorem sound_call (hr : Rel c nt env ob ρ S a w) (hf : ∀ n, N ≤ n → n < N + 8 → ρ n = none) (hd : dstOk nt o.dst = true) {f : FuncId} {A : List (Bool × List AV)} (hca : callArgs (aval Γ env) o = some (f, A))
    {es : List Bool} {cargs : List (Bool × List CV)} {res : Res} {t : AT} {news : List (Nat × Option AObj)} (hconv : convArgs ob es A = some cargs) (hmeets : Meets P f cargs res) (hout : res.out N = some (t, news)) (hok : callOk ob es A news.length = true) :
    Goes P c nt N env ob ρ a w o ⟨t, news ++ callUpd ob es A res.scalar, callTouch A⟩ := by
  obtain ⟨vals, hall, hrun, _⟩ := callArgs_run (P := P) hr hca
  simp only [callOk, Bool.and_eq_true, decide_eq_true_eq, List.all_eq_true, Bool.not_eq_true', List.contains_eq_mem, decide_eq_false_iff_not] at hok
  obtain ⟨⟨hlen8, hnde⟩, hdis⟩ := hok
  obtain ⟨hent, hcalls⟩ := hmeets
  obtain ⟨ea, hea⟩ : ∃ ea, ea = eatenOf ob es A := ⟨_, rfl⟩
  obtain ⟨le, hle⟩ : ∃ le, le = lentOf ob es A := ⟨_, rfl⟩
  have hupd : callUpd ob es A res.scalar = ea.map (fun o => (o, none)) ++ (match res.scalar with | true => [] | false => le.map (frz ob)) := by rw [hea, hle]; rfl
  rw [hupd]
  rw [← hea] at hnde
  rw [← hle, ← hea] at hdis
  have hlive : ∀ n, n ∈ ea ∨ n ∈ le → ∃ k e rows, ob n = some (.row k e rows true) := by
    rintro n (h | h)
    · rw [hea] at h; exact lives_eaten h
    · rw [hle] at h; exact lives_lent h
  have hblk : ∀ n b hh, n ∈ ea ∨ n ∈ le → ρ n = some hh → blkOf hh = some b → b < w.heap.size ∧ (c.W.heap.size ≤ b ∨ c.B b) ∧ ¬ S b := by
    intro n b hh hn h1 h2
    obtain ⟨k, e, rows, hob⟩ := hlive n hn
    have hnS : ¬ S b := by
      obtain ⟨h', h3, h4⟩ := hr.obj _ _ hob
      rw [h1] at h3; cases h3
      rcases h4.2 with ⟨_, A', rfl⟩ | ⟨g, c', hc0, rfl, _, hl, _⟩
      · cases A' <;> simp [blkOf] at h2
      · simp [blkOf, Nat.ne_of_gt hc0] at h2
        subst h2
        exact hl rfl
    exact ⟨blk_lt hr hob h1 h2, (hr.place _ _ _ _ hob h1 h2).resolve_right hnS, hnS⟩
  obtain ⟨T, hT⟩ : ∃ T : Nat → Prop, T = fun b => S b ∨ b ∈ blks ρ le := ⟨_, rfl⟩
  have hST : ∀ b, S b → T b := fun b hb => by rw [hT]; exact .inl hb
  have heT : ∀ n ∈ ea, ∀ h b, ρ n = some h → blkOf h = some b → ¬ T b := by
    intro n hn h b h1 h2 h3
    rw [hT] at h3
    rcases h3 with h3 | h3
    · exact (hblk n b h (.inl hn) h1 h2).2.2 h3
    · obtain ⟨n', hn', h', h1', h2'⟩ := mem_blks.1 h3
      obtain ⟨k, e, rows, hob⟩ := hlive n (.inl hn)
      obtain ⟨k', e', rows', hob'⟩ := hlive n' (.inr hn')
      have := hr.sep _ _ _ _ _ _ _ hob hob' h1 h1' h2 h2'
      subst this
      exact hdis n hn' hn
  have hlT : ∀ n ∈ le, ∀ h b, ρ n = some h → blkOf h = some b → T b := fun n hn h b h1 h2 => by rw [hT]; exact .inr (mem_blks.2 ⟨n, hn, h, h1, h2⟩)
  have hcomps := convArgs_rep hr T hST hconv hall (by rw [← hea]; exact heT) (by rw [← hle]; exact hlT)
  rw [← hea] at hcomps
  obtain ⟨bs, hbs⟩ : ∃ bs, bs = blks ρ ea := ⟨_, rfl⟩
  rw [← hbs] at hcomps
  have hbsm : ∀ b ∈ bs, b < w.heap.size ∧ (c.W.heap.size ≤ b ∨ c.B b) ∧ ¬ S b := by
    intro b hb
    rw [hbs] at hb
    obtain ⟨n, hn, h, h1, h2⟩ := mem_blks.1 hb
    exact hblk n b h (.inl hn) h1 h2
  have hnd : bs.Nodup := by
    rw [hbs]
    exact blks_nodup hr hnde fun n hn => let ⟨k, e, rows, hh⟩ := hlive n (.inl hn); ⟨_, hh⟩
  intro Q
  unfold Oper.wp
  rw [hrun hent]
  simp only [Oper.upon_enter]
  refine (hcalls w T _ bs (fun b hb => ?_) hcomps hnd).mono ?_
  · rw [hT] at hb
    rcases hb with hb | hb
    · exact hr.lim b hb
    · obtain ⟨n, hn, h, h1, h2⟩ := mem_blks.1 hb
      exact (hblk n b h (.inr hn) h1 h2).1
  · rintro e w' ⟨v, S', bs', rfl, hres, hnd', hfoot⟩
    simp only
    have hapart : ∀ n x hh b, ob n = some x → n ∉ ea → ρ n = some hh → blkOf hh = some b → b ∉ bs := by
      intro n x hh b hx hn h1 h2 hb'
      rw [hbs] at hb'
      obtain ⟨n', hn', hh', h1', h2'⟩ := mem_blks.1 hb'
      obtain ⟨k, e, rows, hob⟩ := hlive n' (.inl hn')
      have := hr.sep _ _ _ _ _ _ _ hx hob h1 h1' h2 h2'
      subst this
      exact hn hn'
    have hsameW : ∀ b, b < c.W.heap.size → ¬ c.B b → w'.heap[b]? = w.heap[b]? := fun b h1 h2 => hfoot.same b (by have := hr.hsize; omega) (fun h3 => by
      rcases (hbsm b h3).2.1 with h4 | h4
      · omega
      · exact h2 h4)
    have hkS : Keeps S w w' := fun b hbS => hfoot.same b (hr.lim b hbS) (fun h3 => (hbsm b h3).2.2 hbS)
    cases hsc : res.scalar with
    | false =>
      simp only
      obtain ⟨hdl, hl1, hl2, hl3⟩ := res_rep hout hres
      let ρ' : Where := fun n => if n < N ∨ N + news.length ≤ n then ρ n else hdl[n - N]?
      have hρ1 : ∀ (i : Nat) (u : Value), hdl[i]? = some u → ρ' (N + i) = some u := fun i u hu => by
        have hi : i < hdl.length := (List.getElem?_eq_some_iff.1 hu).1
        simp only [ρ']
        rw [if_neg (by omega), Nat.add_sub_cancel_left]
        exact hu
      have hρ2 : ∀ n, n < N ∨ N + 8 ≤ n → ρ' n = ρ n := fun n hn => by
        simp only [ρ']
        rw [if_pos (by omega)]
      have hρ3 : ∀ n hh, ρ n = some hh → ρ' n = some hh := fun n hh h1 => by
        by_cases hn : n < N ∨ N + 8 ≤ n
        · rw [hρ2 n hn]; exact h1
        · rw [hf n (by omega) (by omega)] at h1; cases h1
      obtain ⟨hv, hnews⟩ := hl3 ρ' hρ1
      have hobN : ∀ n x, ob n = some x → n < N ∨ N + 8 ≤ n := fun n x hx => by
        obtain ⟨hh, h1, _⟩ := hr.obj n x hx
        by_cases hn : n < N ∨ N + 8 ≤ n
        · exact hn
        · rw [hf n (by omega) (by omega)] at h1; cases h1
      have hgr : Grows ρ ρ' w w' S S' := ⟨hρ3, fun b hb' => hfoot.sub b (hST b hb'), hkS⟩
      -- what may be found under a number
      have look : ∀ n y, updO (news ++ (ea.map (fun o => (o, none)) ++ le.map (frz ob))) ob n = some y →
          (∃ i u, n = N + i ∧ hdl[i]? = some u ∧ ObjRep ρ' w' S' u y) ∨ (n ∈ le ∧ n ∉ ea ∧ ∃ k e rows, ob n = some (.row k e rows true) ∧ y = .row k e rows false) ∨ (ob n = some y ∧ n ∉ ea ∧ n ∉ le) := by
        intro n y hy
        rcases updO_cases hy with h1 | ⟨h1, h2⟩
        · rcases List.mem_append.1 h1 with h1 | h1
          · obtain ⟨i, u, z, e1, e2, e3, e4⟩ := hnews n _ h1
            cases e3
            exact .inl ⟨i, u, e1, e2, e4⟩
          · rcases List.mem_append.1 h1 with h1 | h1
            · simp at h1
            · obtain ⟨n', hn', he⟩ := List.mem_map.1 h1
              obtain ⟨k, e, rows, hob⟩ := hlive n' (.inr hn')
              simp only [frz, hob, Prod.mk.injEq, Option.some.injEq] at he
              obtain ⟨rfl, rfl⟩ := he
              exact .inr (.inl ⟨hn', hdis n' hn', k, e, rows, hob, rfl⟩)
        · refine .inr (.inr ⟨h2, fun hn => h1 none (List.mem_append.2 (.inr (List.mem_append.2 (.inl (List.mem_map.2 ⟨n, hn, rfl⟩))))), fun hn => ?_⟩)
          exact h1 (frz ob n).2 (List.mem_append.2 (.inr (List.mem_append.2 (.inr (List.mem_map.2 ⟨n, hn, rfl⟩)))))
      have hnewblk : ∀ i u b, hdl[i]? = some u → blkOf u = some b → b ∈ bs' := fun i u b h1 h2 => by
        rw [← hl2]
        exact List.mem_filterMap.2 ⟨u, List.mem_of_getElem? h1, h2⟩
      have hold : ∀ o2 x2 h2 b, updO (news ++ (ea.map (fun o => (o, none)) ++ le.map (frz ob))) ob o2 = some x2 → ρ' o2 = some h2 → blkOf h2 = some b → b ∈ bs' → ∃ i u, o2 = N + i ∧ hdl[i]? = some u := by
        intro o2 x2 h2 b hx2 hh2 hb2 hb
        have away : ∀ x, ob o2 = some x → o2 ∉ ea → False := fun x hx hne => by
          rw [hρ2 o2 (hobN o2 x hx)] at hh2
          have h7 := hapart o2 x h2 b hx hne hh2 hb2
          rcases (hfoot.own b hb).2.1 with h8 | h8
          · exact h7 h8
          · exact absurd (blk_lt hr hx hh2 hb2) (by omega)
        rcases look o2 x2 hx2 with ⟨i2, u2, rfl, e5, e6⟩ | ⟨h5, h6, k, e, rows, h7, _⟩ | ⟨h5, h6, _⟩
        · exact ⟨i2, u2, rfl, e5⟩
        · exact (away _ h7 h6).elim
        · exact (away _ h5 h6).elim
      refine ⟨ρ', S', hr.step hd hgr hv (fun n y hy => ?_) hfoot.os hfoot.tape hfoot.output hfoot.hsize hsameW hfoot.lim (fun b hb' => ?_), hρ2⟩
      · rcases look n y hy with ⟨i, u, rfl, e2, e4⟩ | ⟨hn, hne, k, e, rows, h1, rfl⟩ | ⟨h1, h2, h2'⟩
        · refine .inr ⟨u, hρ1 i u e2, e4, fun b hbb => ⟨?_, fun o2 x2 h2 hx2 hh2 hb2 => ?_⟩⟩
          · rcases (hfoot.own b (hnewblk i u b e2 hbb)).2.1 with h5 | h5
            · exact .inl (hbsm b h5).2.1
            · exact .inl (.inl (by have := hr.hsize; omega))
          · obtain ⟨i2, u2, rfl, e5⟩ := hold o2 x2 h2 b hx2 hh2 hb2 (hnewblk i u b e2 hbb)
            rw [hρ1 i2 u2 e5] at hh2
            cases hh2
            rw [nodup_blk (by rw [hl2]; exact hnd') e5 e2 hb2 hbb]
        · -- a row that was lent is still
          obtain ⟨hh, g1, g2⟩ := hr.obj n _ h1
          refine .inr ⟨hh, hρ3 n hh g1, ?_, fun b hbb => ⟨(hr.place _ _ _ _ h1 g1 hbb).imp_right (hgr.sub b), fun o2 x2 h2 hx2 hh2 hb2 => ?_⟩⟩
          · obtain ⟨hk, h3⟩ := g2
            refine ⟨hk, ?_⟩
            rcases h3 with h3 | ⟨g, c', hc0, rfl, ⟨r1, r2, r3, cur, r4, r5, r7, r6⟩, _⟩
            · exact .inl h3
            · have hbg : blkOf (.slice (some ⟨g, 0, none⟩) rows.length c') = some g := by simp [blkOf]; omega
              have hsame := hfoot.same g (blk_lt hr h1 g1 hbg) (hapart n _ _ g h1 hne g1 hbg)
              refine .inr ⟨g, c', hc0, rfl, ⟨r1, r2, r3, cur, hsame.trans r4, r5, r7.mono hgr.sub hgr.keeps, fun i j r d hi hj => ?_⟩, (fun hl => by cases hl), fun _ => hfoot.sub g (hlT n hn _ _ g1 hbg)⟩
              obtain ⟨u, hu, hru⟩ := r6 i j r d hi hj
              exact ⟨u, hu, hru.mono hgr.sub hgr.keeps⟩
          · have key : ∀ x, ob o2 = some x → o2 = n := fun x hx => by
              rw [hρ2 o2 (hobN o2 x hx)] at hh2
              exact hr.sep _ _ _ _ _ _ _ hx h1 hh2 g1 hb2 hbb
            rcases look o2 x2 hx2 with ⟨i2, u2, rfl, e5, e6⟩ | ⟨_, _, k2, e2, rows2, h7, _⟩ | ⟨h5, _, _⟩
            · exfalso
              rw [hρ1 i2 u2 e5] at hh2
              cases hh2
              have hbs' := hnewblk i2 _ b e5 hb2
              rcases (hfoot.own b hbs').2.1 with h8 | h8
              · exact hapart n _ _ b h1 hne g1 hbb h8
              · exact absurd (blk_lt hr h1 g1 hbb) (by omega)
            · exact key _ h7
            · exact key _ h5
        · refine .inl ⟨h1, fun hh b h3 h4 => ?_⟩
          have h5 := hapart n y hh b h1 h2 h3 h4
          have h6 := blk_lt hr h1 h3 h4
          refine ⟨hfoot.same b h6 h5, fun h7 => ?_⟩
          rcases hfoot.foot b h7 with h8 | h8 | h8
          · rw [hT] at h8
            rcases h8 with h8 | h8
            · exact h8
            · exfalso
              obtain ⟨n', hn', hh', g1, g2⟩ := mem_blks.1 h8
              obtain ⟨k, e, rows, hob⟩ := hlive n' (.inr hn')
              have := hr.sep _ _ _ _ _ _ _ h1 hob h3 g1 h4 g2
              subst this
              exact h2' hn'
          · exact absurd h8 h5
          · omega
      · rcases hfoot.foot b hb' with h8 | h8 | h8
        · rw [hT] at h8
          rcases h8 with h8 | h8
          · exact hr.foot b h8
          · obtain ⟨n', hn', hh', g1, g2⟩ := mem_blks.1 h8
            exact .inr ((hblk n' b hh' (.inr hn') g1 g2).2.1.symm)
        · exact .inr ((hbsm b h8).2.1.symm)
        · exact .inr (.inr (by have := hr.hsize; omega))
    | true =>
      simp only [List.append_nil]
      have hres0 : ResRep w' S res v [] := by
        unfold ResRep at hres ⊢
        split
        · rename_i ht
          rw [if_pos ht] at hres
          obtain ⟨vs', e1, e2⟩ := hres
          exact ⟨vs', e1, scalar_comps e2 hsc⟩
        · rename_i ht
          rw [if_neg ht] at hres
          exact scalar_comps hres hsc
      obtain ⟨hdl, hl1, hl2, hl3⟩ := res_rep hout hres0
      have hnews0 : news = [] := by
        obtain ⟨e1, _⟩ := out_comps hout
        have e2 : ∀ (cs : List (Bool × List CV)) n, (cs.all fun c => c.2.all CV.scalar) = true → (resComps n cs).2 = [] := by
          intro cs
          have e3 : ∀ (cs : List CV) n, cs.all CV.scalar = true → (resAVs n cs).2 = [] := by
            intro cs
            induction cs with
            | nil => intro n _; rfl
            | cons x cs ih =>
              intro n hx
              simp only [List.all_cons, Bool.and_eq_true] at hx
              cases x with
              | d y => simpa [resAVs] using ih n hx.2
              | own => simp [CV.scalar] at hx
          induction cs with
          | nil => intro n _; rfl
          | cons x cs ih =>
            intro n hx
            simp only [List.all_cons, Bool.and_eq_true] at hx
            simp [resComps, e3 x.2 n (by simpa using hx.1), ih _ hx.2]
        rw [e1]
        exact e2 _ _ hsc
      subst hnews0
      have hhd : hdl = [] := List.length_eq_zero_iff.1 (by simpa using hl1)
      subst hhd
      obtain ⟨hv, _⟩ := hl3 ρ (fun i u hu => by simp at hu)
      simp only [List.nil_append]
      refine ⟨ρ, S, hr.step hd ⟨fun _ _ h => h, fun _ h => h, hkS⟩ hv (fun n y hy => ?_) hfoot.os hfoot.tape hfoot.output hfoot.hsize hsameW (fun b hb' => Nat.lt_of_lt_of_le (hr.lim b hb') hfoot.hsize) hr.foot, fun _ _ => rfl⟩
      rcases updO_cases hy with h1 | ⟨h1, h2⟩
      · simp at h1
      · refine .inl ⟨h2, fun hh b h3 h4 => ⟨hfoot.same b (blk_lt hr h2 h3 h4) (hapart n y hh b h2 (fun hn => h1 none (List.mem_map.2 ⟨n, hn, rfl⟩)) h3 h4), id⟩⟩

end
end Go.Eng
