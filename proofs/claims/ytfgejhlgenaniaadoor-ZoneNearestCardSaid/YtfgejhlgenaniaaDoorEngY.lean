/- A row's room is known: its spare cells as rows. -/
import Derived.Test.YtfgejhlgenaniaaDoorEngW
namespace Go.Eng

def noOwn (o : Nat) : AV → Bool
  | .own n => n != o
  | _ => true
def noOwnT (o : Nat) : AT → Bool
  | .cs _ xs => xs.all (noOwn o)
  | .tup ts => ts.all fun t => t.2.all (noOwn o)
  | _ => true
def noOwnO (o : Nat) : AObj → Bool
  | .var cells _ => cells.all (noOwn o)
  | .lp L => L.env.all fun p => noOwnT o p.2
  | _ => true

section
variable {w : World} {S : Nat → Prop} {ρ : Where} {o n cc : Nat} {A : Option Addr}

abbrev spreadW (ρ : Where) (o : Nat) (A : Option Addr) (cc : Nat) : Where := fun m => if m = o then some (.slice A cc cc) else ρ m

theorem RepCap.spread {x : CapV} {u : Value} (hρ : ρ o = some (.slice A n cc)) (h : RepCap ρ w S x u) : RepCap (spreadW ρ o A cc) w S x u := by
  cases x with
  | d y => exact h
  | ptr m off =>
    obtain ⟨g, h1, h2⟩ := h
    refine ⟨g, ?_, h2⟩
    by_cases e : m = o
    · subst e; rw [hρ] at h1; cases h1
    · simp only [spreadW, if_neg e]; exact h1

theorem RepAV.spread {x : AV} {u : Value} (hno : noOwn o x = true) (hρ : ρ o = some (.slice A n cc)) (h : RepAV ρ w S x u) : RepAV (spreadW ρ o A cc) w S x u := by
  cases x with
  | d y => exact h
  | nils k => exact h
  | ptr m off =>
    obtain ⟨g, h1, h2⟩ := h
    refine ⟨g, ?_, h2⟩
    by_cases e : m = o
    · subst e; rw [hρ] at h1; cases h1
    · simp only [spreadW, if_neg e]; exact h1
  | own m =>
    have e : ¬ m = o := by simpa [noOwn] using hno
    refine ⟨?_, h.2⟩
    simp only [spreadW, if_neg e]; exact h.1
  | eptr m k i j =>
    obtain ⟨g, n', c', h1, h2⟩ := h
    by_cases e : m = o
    · subst e
      rw [hρ] at h1; cases h1
      exact ⟨g, cc, cc, by simp [spreadW], h2⟩
    · exact ⟨g, n', c', by simp only [spreadW, if_neg e]; exact h1, h2⟩
  | win m k lo n' =>
    obtain ⟨A1, m', c', A', h1, h2, h3⟩ := h
    by_cases e : m = o
    · subst e
      rw [hρ] at h1; cases h1
      exact ⟨A, cc, cc, A', by simp [spreadW], h2, h3⟩
    · exact ⟨A1, m', c', A', by simp only [spreadW, if_neg e]; exact h1, h2, h3⟩
  | wx m k lo n' =>
    obtain ⟨A1, c', A', h1, h2, h3⟩ := h
    by_cases e : m = o
    · subst e
      rw [hρ] at h1; cases h1
      exact ⟨A, _, A', by simp [spreadW], h2, h3⟩
    · exact ⟨A1, c', A', by simp only [spreadW, if_neg e]; exact h1, h2, h3⟩
  | yld m =>
    obtain ⟨g, h1, h2⟩ := h
    refine ⟨g, ?_, h2⟩
    by_cases e : m = o
    · subst e; rw [hρ] at h1; cases h1
    · simp only [spreadW, if_neg e]; exact h1
  | vsl m _ =>
    obtain ⟨g, h1, h2⟩ := h
    refine ⟨g, ?_, h2⟩
    by_cases e : m = o
    · subst e; rw [hρ] at h1; cases h1
    · simp only [spreadW, if_neg e]; exact h1
  | clo f ks =>
    obtain ⟨vs, h1, h2⟩ := h
    exact ⟨vs, h1, h2.mono fun _ _ h => h.spread hρ⟩

theorem RepAVs.spread (hρ : ρ o = some (.slice A n cc)) : ∀ {xs : List AV} {us : List Value}, xs.all (noOwn o) = true → All2 (RepAV ρ w S) xs us → All2 (RepAV (spreadW ρ o A cc) w S) xs us
  | [], us, _, h => by cases h; exact .nil
  | x :: xs, us, hno, h => by
    simp only [List.all_cons, Bool.and_eq_true] at hno
    cases h with
    | cons h1 h2 => exact .cons (h1.spread hno.1 hρ) (RepAVs.spread hρ hno.2 h2)

theorem RepC.spread {g : Bool} {xs : List AV} {u : Value} (hρ : ρ o = some (.slice A n cc)) (hno : xs.all (noOwn o) = true) (h : RepC ρ w S g xs u) : RepC (spreadW ρ o A cc) w S g xs u := by
  cases g with
  | true => obtain ⟨us, h1, h2⟩ := h; exact ⟨us, h1, RepAVs.spread hρ hno h2⟩
  | false =>
    obtain ⟨x, rfl, h2⟩ := h
    exact ⟨x, rfl, h2.spread (by simpa using hno) hρ⟩

theorem RepT.spread {t : AT} {u : Value} (hρ : ρ o = some (.slice A n cc)) (hno : noOwnT o t = true) (h : RepT ρ w S t u) : RepT (spreadW ρ o A cc) w S t u := by
  cases t with
  | junk => trivial
  | undef => exact h
  | cs g xs => exact RepC.spread hρ hno h
  | tup ts =>
    obtain ⟨vs, e, h⟩ := h
    refine ⟨vs, e, ?_⟩
    clear e
    simp only [noOwnT] at hno
    induction ts generalizing vs with
    | nil => cases h; exact .nil
    | cons t ts ih =>
      simp only [List.all_cons, Bool.and_eq_true] at hno
      cases h with
      | cons h1 h2 => exact .cons (RepC.spread hρ hno.1 h1) (ih hno.2 _ h2)

/-- The spare cells of a row's block, as rows. -/
theorem RowBlk.spare {k g : Nat} {ety : TypeId} {rows : List (List D)} (h : RowBlk w S k ety rows g cc) : ∃ junk : List (List D), (∀ r ∈ junk, r.length = k) ∧ (rows ++ junk).length = cc ∧ RowBlk w S k ety (rows ++ junk) g cc := by
  obtain ⟨r1, r2, r3, cur, r4, r5, r7, r6⟩ := h
  have each : ∀ i, i < cc - rows.length → ∃ r : List D, r.length = k ∧ ∀ (j : Nat) (d : D), r[j]? = some d → ∃ u, cur[(rows.length + i) * k + j]? = some u ∧ Rep w S d u := fun i hi =>
    choose_get (p := fun j d => ∃ u, cur[(rows.length + i) * k + j]? = some u ∧ Rep w S d u) fun j hj => by
      have hlt : (rows.length + i) * k + j < cur.size := by rw [r5]; exact row_lt (by omega) hj
      obtain ⟨d, hd⟩ := r7 cur[(rows.length + i) * k + j] (Array.getElem_mem_toList hlt)
      exact ⟨d, _, Array.getElem?_eq_getElem hlt, hd⟩
  obtain ⟨junk, hl, hj⟩ := choose_get each
  refine ⟨junk, fun r hr => ?_, by simp; omega, ⟨by simp; omega, r2, r3, cur, r4, r5, r7, fun i j r d hi hjj => ?_⟩⟩
  · obtain ⟨i, hi⟩ := List.getElem?_of_mem hr
    exact (hj i r hi).1
  · by_cases hlt : i < rows.length
    · rw [List.getElem?_append_left hlt] at hi; exact r6 i j r d hi hjj
    · rw [List.getElem?_append_right (by omega)] at hi
      obtain ⟨u, hu, hru⟩ := (hj _ _ hi).2 j d hjj
      rw [show rows.length + (i - rows.length) = i by omega] at hu
      exact ⟨u, hu, hru⟩

end

def spreadE (o : Nat) (env : List (Nat × AT)) : List (Nat × AT) → Prop
  | [] => True
  | (t, x) :: r => noOwnT o x = true ∧ getE env t = x ∧ spreadE o env r
def spreadO (o : Nat) (objs : List (Nat × Option AObj)) : List (Nat × Option AObj) → Prop
  | [] => True
  | (_, none) :: _ => False
  | (n, some x) :: r => (!(n == o)) = true ∧ noOwnO o x = true ∧ getO objs n = some x ∧ spreadO o objs r

theorem spreadE_get {o : Nat} {env : List (Nat × AT)} : ∀ {env' : List (Nat × AT)}, spreadE o env env' → ∀ t, getE env' t = .junk ∨ (noOwnT o (getE env' t) = true ∧ getE env t = getE env' t)
  | [], _, t => .inl rfl
  | (t', x) :: r, h, t => by
    obtain ⟨h1, h2, h3⟩ := h
    simp only [getE]
    split
    · rename_i e; subst e; exact .inr ⟨h1, h2⟩
    · exact spreadE_get h3 t
theorem spreadO_get {o : Nat} {objs : List (Nat × Option AObj)} : ∀ {objs' : List (Nat × Option AObj)}, spreadO o objs objs' → ∀ n x, getO objs' n = some x → n ≠ o ∧ noOwnO o x = true ∧ getO objs n = some x
  | [], _, n, x, hx => by cases hx
  | (m, none) :: r, h, n, x, hx => h.elim
  | (m, some y) :: r, h, n, x, hx => by
    obtain ⟨h1, h2, h3, h4⟩ := h
    simp only [getO] at hx
    split at hx
    · rename_i e
      subst e
      cases hx
      exact ⟨by simpa using h1, h2, h3⟩
    · exact spreadO_get h4 n x hx

theorem RelE.spread {c : Base} {st : St} {t o k : Nat} {e : TypeId} {rows : List (List D)} {env' : List (Nat × AT)} {objs' : List (Nat × Option AObj)} {a : Act} {w : World}
    (hpin : ∀ h, c.R o ≠ some h) (h0 : getE st.env t = .cs false [.own o]) (h1 : getO st.objs o = some (.row k e rows true)) (hE : spreadE o st.env env') (hO : spreadO o st.objs objs') (h : RelE c st st.next a w) :
    ∃ junk : List (List D), (∀ r ∈ junk, r.length = k) ∧ RelE c ⟨st.nt, (t, .cs false [.wx o k 0 rows.length]) :: env', (o, some (.row k e (rows ++ junk) true)) :: objs', st.next⟩ st.next a w := by
  obtain ⟨ρ, S, hr, hf⟩ := h
  obtain ⟨hh, hρ, hk, h2⟩ := hr.obj o _ h1
  obtain ⟨A, cc, junk, e1, e2, e3, e4⟩ : ∃ A cc, ∃ junk : List (List D), hh = .slice A rows.length cc ∧ (∀ r ∈ junk, r.length = k) ∧ (rows ++ junk).length = cc ∧ ObjRep (spreadW ρ o A cc) w S (.slice A cc cc) (.row k e (rows ++ junk) true) := by
    rcases h2 with ⟨rfl, A, rfl⟩ | ⟨g, cc, hc0, rfl, hblk, hlive, _⟩
    · exact ⟨A, 0, [], rfl, by simp, rfl, ⟨by simp, .inl ⟨rfl, A, rfl⟩⟩⟩
    · obtain ⟨junk, j1, j2, j3⟩ := hblk.spare
      refine ⟨some ⟨g, 0, none⟩, cc, junk, rfl, j1, j2, ⟨fun r hr => ?_, .inr ⟨g, cc, hc0, by rw [j2], j3, hlive, fun hh => by cases hh⟩⟩⟩
      rcases List.mem_append.1 hr with hr | hr
      · exact hk r hr
      · exact j1 r hr
  subst e1
  have hb : blkOf (.slice A cc cc) = blkOf (.slice A rows.length cc) := by cases A <;> simp [blkOf]
  have hob : ∀ n x, getO ((o, some (.row k e (rows ++ junk) true)) :: objs') n = some x → (n = o ∧ x = .row k e (rows ++ junk) true) ∨ (n ≠ o ∧ noOwnO o x = true ∧ getO st.objs n = some x) := fun n x hx => by
    simp only [getO] at hx
    split at hx
    · rename_i en; cases hx; exact .inl ⟨en, rfl⟩
    · exact .inr (spreadO_get hO n x hx)
  have hold : ∀ n x h, getO ((o, some (.row k e (rows ++ junk) true)) :: objs') n = some x → spreadW ρ o A cc n = some h → ∃ x' h', getO st.objs n = some x' ∧ ρ n = some h' ∧ blkOf h = blkOf h' := fun n x h hx hh => by
    rcases hob n x hx with ⟨rfl, rfl⟩ | ⟨hn, _, h3⟩
    · simp only [spreadW, if_true] at hh
      cases hh
      exact ⟨_, _, h1, hρ, hb⟩
    · simp only [spreadW, if_neg hn] at hh
      exact ⟨_, _, h3, hh, rfl⟩
  refine ⟨junk, e2, spreadW ρ o A cc, S, ⟨hr.defers, hr.size, fun t' => ?_, fun n x hx => ?_, fun n n' x x' h h' b hx hx' hh hh' hb1 hb2 => ?_, fun n x h b hx hh hb1 => ?_, hr.os, hr.tape, hr.output, hr.hsize, hr.same, hr.lim, hr.sub, hr.foot, fun n h hh => ?_, hr.clim⟩, fun n hn => ?_⟩
  · simp only [getE]
    split
    · rename_i et
      subst et
      have ht := hr.env t'
      rw [h0] at ht
      obtain ⟨y, hy, hq⟩ := ht
      cases hy
      obtain ⟨q1, _⟩ := hq
      rw [hρ] at q1
      refine ⟨_, rfl, A, cc, A, by simp [spreadW], ?_, fun _ => ?_⟩
      · simpa using (Option.some.inj q1).symm
      · cases A <;> simp [add_zero]
    · rcases spreadE_get hE t' with h3 | ⟨h3, h4⟩
      · rw [h3]; trivial
      · have ht := hr.env t'
        rw [h4] at ht
        exact RepT.spread hρ h3 ht
  · rcases hob n x hx with ⟨rfl, rfl⟩ | ⟨hn, hno, h3⟩
    · exact ⟨_, by simp [spreadW], e4⟩
    · obtain ⟨h', q1, q2⟩ := hr.obj n x h3
      refine ⟨h', by simp only [spreadW, if_neg hn]; exact q1, ?_⟩
      cases x with
      | row k' e' rows' l => exact q2
      | it s pos => exact q2
      | lp L =>
        obtain ⟨g, q3, ⟨fn, tmps, D, q4, q5, q6⟩, q7⟩ := q2
        refine ⟨g, q3, ⟨fn, tmps, D, q4, q5, fun t => ?_⟩, q7⟩
        rcases getE_mem (l := L.env) (t := t) with h5 | h5
        · rw [h5]; trivial
        · exact RepT.spread hρ (List.all_eq_true.1 hno _ h5) (q6 t)
      | var cells l =>
        obtain ⟨g, cur, ety, q3, q4, q5, q6, q7⟩ := q2
        exact ⟨g, cur, ety, q3, q4, RepAVs.spread hρ hno q5, q6, q7⟩
  · obtain ⟨y, u, p1, p2, p3⟩ := hold _ _ _ hx hh
    obtain ⟨y', u', p1', p2', p3'⟩ := hold _ _ _ hx' hh'
    exact hr.sep _ _ _ _ _ _ b p1 p1' p2 p2' (p3 ▸ hb1) (p3' ▸ hb2)
  · obtain ⟨y, u, p1, p2, p3⟩ := hold _ _ _ hx hh
    exact hr.place _ _ _ _ p1 p2 (p3 ▸ hb1)
  · have hn : n ≠ o := fun en => by subst en; exact hpin _ hh
    simp only [spreadW, if_neg hn]
    exact hr.pin n h hh
  · have hn' : n ≠ o := fun en => by
      subst en
      rw [hf n hn] at hρ; cases hρ
    simp only [spreadW, if_neg hn']
    exact hf n hn

/-- A walk from where a row's room is known. -/
theorem awp_spread {E : Sit} {code : Code} {Q : Exit → St → Prop} {st : St} (t o : Nat) {k : Nat} {e : TypeId} {rows : List (List D)} (env' : List (Nat × AT)) (objs' : List (Nat × Option AObj)) (hp : E.pin.n ≤ o)
    (h0 : getE st.env t = .cs false [.own o]) (h1 : getO st.objs o = some (.row k e rows true)) (hE : spreadE o st.env env') (hO : spreadO o st.objs objs')
    (h : ∀ junk : List (List D), (∀ r ∈ junk, r.length = k) → AWp E code Q ⟨st.nt, (t, .cs false [.wx o k 0 rows.length]) :: env', (o, some (.row k e (rows ++ junk) true)) :: objs', st.next⟩) : AWp E code Q st := by
  intro c a w ho hr
  obtain ⟨junk, hj, hr'⟩ := RelE.spread (fun h hh => by have := (ho o h hh).1; omega) h0 h1 hE hO hr
  exact h junk hj c a w ho hr'

attribute [go_sem] spreadE spreadO noOwnT noOwnO noOwn
end Go.Eng
