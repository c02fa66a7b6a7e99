/- Loops, told by states; an empty slice as an own row; short names. -/
import Derived.Test.YtfgejhlgenaniaaDoorEngU
namespace Go.Eng

abbrev aI (n : Int) : AT := .cs false [.d (.v (.int .i64 n))]
abbrev aB (b : Bool) : AT := .cs false [.d (.v (.bool b))]
abbrev aP (o off : Nat) : AT := .cs false [.ptr o off]
abbrev aD (d : D) : AT := .cs false [.d d]
abbrev aO (o : Nat) : AT := .cs false [.own o]
abbrev cI (n : Int) : AV := .d (.v (.int .i64 n))
abbrev cB (b : Bool) : AV := .d (.v (.bool b))
abbrev cD (d : D) : AV := .d d
abbrev dI (n : Int) : D := .v (.int .i64 n)
abbrev dB (b : Bool) : D := .v (.bool b)
abbrev dS (s : ByteArray) : D := .v (.string s)
abbrev vI (n : Int) : CV := .d (.v (.int .i64 n))
abbrev vB (b : Bool) : CV := .d (.v (.bool b))
abbrev vD (d : D) : CV := .d d
/-- A result of one value that is no struct; of one struct; of several. -/
abbrev rOne (c : CV) : Res := ⟨false, [(false, [c])]⟩
abbrev rAgg (cs : List CV) : Res := ⟨false, [(true, cs)]⟩
abbrev rTup (cs : List (Bool × List CV)) : Res := ⟨true, cs⟩

def belowsB (n : Nat) : AV → Bool
  | .ptr o _ | .own o | .eptr o .. | .win o .. | .wx o .. | .yld o | .vsl o _ => decide (o < n)
  | .clo _ ks => ks.all fun | .ptr o _ => decide (o < n) | _ => true
  | _ => true
theorem belowsB_ok {n : Nat} {x : AV} (h : belowsB n x = true) : x.below n := by
  cases x with
  | clo f ks =>
    intro y hy
    simp only [belowsB, List.all_eq_true] at h
    have := h y hy
    cases y with
    | ptr o off => simpa [CapV.below] using this
    | d _ => trivial
  | ptr => simpa [belowsB, AV.below] using h
  | own => simpa [belowsB, AV.below] using h
  | eptr => simpa [belowsB, AV.below] using h
  | win => simpa [belowsB, AV.below] using h
  | wx => simpa [belowsB, AV.below] using h
  | yld => simpa [belowsB, AV.below] using h
  | vsl => simpa [belowsB, AV.below] using h
  | d => trivial
  | nils => trivial

def belowT (n : Nat) : AT → Bool
  | .cs _ xs => xs.all (belowsB n)
  | .tup ts => ts.all fun t => t.2.all (belowsB n)
  | _ => true
theorem belowT_ok {n : Nat} {x : AT} (h : belowT n x = true) : x.below n := by
  cases x with
  | cs g xs => exact fun y hy => belowsB_ok (List.all_eq_true.1 h y hy)
  | tup ts => exact fun t ht y hy => belowsB_ok (List.all_eq_true.1 (List.all_eq_true.1 h t ht) y hy)
  | _ => trivial

def belowO (n : Nat) : AObj → Bool
  | .var cells _ => cells.all (belowsB n)
  | .lp L => L.env.all fun p => belowT n p.2
  | _ => true
theorem belowO_ok {n : Nat} {x : AObj} (h : belowO n x = true) : x.below n := by
  cases x with
  | var cells l => exact fun y hy => belowsB_ok (List.all_eq_true.1 h y hy)
  | lp L => exact fun p hp => belowT_ok (List.all_eq_true.1 h p hp)
  | row => trivial
  | it => trivial

/-- Each temporary of the later state is known in the earlier one, objects renamed. -/
def sameE (σ : Nat → Nat) (n : Nat) (env : List (Nat × AT)) : List (Nat × AT) → Prop
  | [] => True
  | (t, x) :: r => belowT n x = true ∧ getE env t = x.ren σ ∧ sameE σ n env r

def sameO (σ : Nat → Nat) (n : Nat) (objs : List (Nat × Option AObj)) : List (Nat × Option AObj) → Prop
  | [] => True
  | (_, none) :: _ => False
  | (o, some x) :: r => (decide (o < n) && belowO n x) = true ∧ getO objs (σ o) = some (x.ren σ) ∧ sameO σ n objs r

/-- The later state says no more: σ tells which object each of its objects is. -/
def Same (pin : Pin) (σ : List (Nat × Nat)) (st st' : St) : Prop :=
  ((decide (pin.n ≤ st'.next) && σ.all fun p => decide (pin.n ≤ p.1) || pin.free.contains p.1) = true ∧ st.nt = st'.nt ∧ (decide (st'.objs.map fun p => look σ p.1).Nodup) = true) ∧ sameE (look σ) st'.next st.env st'.env ∧ sameO (look σ) st'.next st.objs st'.objs

theorem Same.weak {pin : Pin} {σ : List (Nat × Nat)} {st st' : St} (h : Same pin σ st st') : Weak pin (look σ) st st' := by
  obtain ⟨⟨h1, h2, h3⟩, h4, h5⟩ := h
  refine weak_of h1 h2 ?_ ?_ (.inl (of_decide_eq_true h3))
  · generalize st'.env = l at h4
    induction l with
    | nil => trivial
    | cons p r ih =>
      obtain ⟨t, x⟩ := p
      exact ⟨⟨h4.2.1, belowT_ok h4.1⟩, ih h4.2.2⟩
  · clear h3
    generalize st'.objs = l at h5
    induction l with
    | nil => trivial
    | cons p r ih =>
      obtain ⟨o, x⟩ := p
      cases x with
      | none => exact h5.elim
      | some x =>
        obtain ⟨h6, h7, h8⟩ := h5
        simp only [Bool.and_eq_true, decide_eq_true_eq] at h6
        exact ⟨⟨h6.1, h7, belowO_ok h6.2⟩, ih h8⟩

/-- A loop: the states at the rounds' heads, by a letter; a number that goes down. -/
theorem vfor {E : Sit} (hE : SitOk E) {ι : Type} (I : ι → St) (m : ι → Nat) (i : ι) {Q : Exit → St → Prop} {st : St} {x : Code} {h : Hold (Code.loop x, Q)} (hi : Same E.pin [] st (I i))
    (round : ∀ i, vc E x (thenQ (Again E I m i) Q) (I i)) : AWpH E st h :=
  awp_for I m i [] hi.weak fun i => awp_vc hE (round i)

/-- The like; objects are renamed as it begins. -/
theorem vforR {E : Sit} (hE : SitOk E) (σ : List (Nat × Nat)) {ι : Type} (I : ι → St) (m : ι → Nat) (i : ι) {Q : Exit → St → Prop} {st : St} {x : Code} {h : Hold (Code.loop x, Q)} (hi : Same E.pin σ st (I i))
    (round : ∀ i, vc E x (thenQ (Again E I m i) Q) (I i)) : AWpH E st h :=
  awp_for I m i σ hi.weak fun i => awp_vc hE (round i)

theorem again {E : Sit} {ι : Type} {I : ι → St} {m : ι → Nat} {i : ι} {st : St} (j : ι) (hm : m j < m i) (h : Same E.pin [] st (I j)) : Again E I m i st := ⟨j, hm, fun _ _ _ ho hr => hr.weak ho h.weak⟩
theorem againR {E : Sit} {ι : Type} {I : ι → St} {m : ι → Nat} {i : ι} {st : St} (σ : List (Nat × Nat)) (j : ι) (hm : m j < m i) (h : Same E.pin σ st (I j)) : Again E I m i st := ⟨j, hm, fun _ _ _ ho hr => hr.weak ho h.weak⟩

/-- The own row in a cell of a variable; in a temporary. -/
def ownAt (st : St) (o off : Nat) : Nat := match getO st.objs o with
  | some (.var cells _) => match cells[off]? with
    | some (.own n) => n
    | some (.win n ..) => n
    | some (.ptr n _) => n
    | _ => 0
  | _ => 0
def ownT (st : St) (t : Nat) : Nat := match getE st.env t with
  | .cs false [.own n] => n
  | .cs false [.win n ..] => n
  | .cs false [.ptr n _] => n
  | _ => 0
/-- A round's end: the row n is now the one in a cell; in a temporary. -/
theorem againO {E : Sit} {ι : Type} {I : ι → St} {m : ι → Nat} {i : ι} {st : St} (n o off : Nat) (j : ι) (hm : m j < m i) (h : Same E.pin [(n, ownAt st o off)] st (I j)) : Again E I m i st := againR _ j hm h
/-- The loop begins; the row n is the one in a temporary. -/
theorem vforT {E : Sit} (hE : SitOk E) (n t : Nat) {ι : Type} (I : ι → St) (m : ι → Nat) (i : ι) {Q : Exit → St → Prop} {st : St} {x : Code} {h : Hold (Code.loop x, Q)} (hi : Same E.pin [(n, ownT st t)] st (I i))
    (round : ∀ i, vc E x (thenQ (Again E I m i) Q) (I i)) : AWpH E st h := vforR hE _ I m i hi round
theorem againT {E : Sit} {ι : Type} {I : ι → St} {m : ι → Nat} {i : ι} {st : St} (n t : Nat) (j : ι) (hm : m j < m i) (h : Same E.pin [(n, ownT st t)] st (I j)) : Again E I m i st := againR _ j hm h

/-- An empty slice in a cell of a variable, as an own row of no rows. -/
def St.own (st : St) (o off : Nat) (e : TypeId) : Option St := match getO st.objs o with
  | some (.var cells true) => match cells[off]? with
    | some (.nils k) => some ⟨st.nt, st.env, (o, some (.var (cells.set off (.own st.next)) true)) :: (st.next, some (.row k e [] true)) :: st.objs, st.next + 1⟩
    | _ => none
  | _ => none

theorem RelE.own {c : Base} {st st' : St} {o off : Nat} {e : TypeId} {a : Act} {w : World} (hs : st.own o off e = some st') (h : RelE c st st.next a w) : RelE c st' st'.next a w := by
  unfold St.own at hs
  split at hs
  · rename_i cells hob
    split at hs
    · rename_i k hcell
      cases hs
      obtain ⟨ρ, S, hr, hf⟩ := h
      obtain ⟨hh, h1, h2⟩ := hr.obj o _ hob
      obtain ⟨g, cur, ety, rfl, h3, h4, h5, h6⟩ := h2
      obtain ⟨u, hu, A, rfl⟩ := h4.get hcell
      have hofl : off < cells.length := (List.getElem?_eq_some_iff.1 hcell).1
      let ρ' : Where := fun n => if n = st.next then some (.slice A 0 0) else ρ n
      have hne : ∀ n x, ρ n = some x → n ≠ st.next := fun n x hx e => by subst e; rw [hf _ (Nat.le_refl _)] at hx; cases hx
      have hρ : ∀ n x, ρ n = some x → ρ' n = some x := fun n x hx => by simp only [ρ']; rw [if_neg (hne n x hx)]; exact hx
      have hρN : ρ' st.next = some (.slice A 0 0) := by simp [ρ']
      have hgr : Grows ρ ρ' w w S S := ⟨hρ, fun _ h => h, Keeps.refl _ _⟩
      have hoN : o ≠ st.next := hne _ _ h1
      have hblk : blkOf (.slice A 0 0) = none := by cases A <;> simp [blkOf]
      refine ⟨ρ', S, ?_, fun n hn => by simp only [ρ']; rw [if_neg (by simp only at hn; omega)]; exact hf n (by simp only at hn; omega)⟩
      have h7 := hr.step (dst := none) (v := undef) (out := .junk) (ob' := updO [(o, some (.var (cells.set off (.own st.next)) true)), (st.next, some (.row k e [] true))] (getO st.objs)) (w' := w) (S' := S) (ρ' := ρ') rfl hgr trivial
        (fun n y hy => by
          simp only [updO] at hy
          split at hy
          · rename_i en
            subst en
            cases hy
            refine .inr ⟨_, hρ _ _ h1, ⟨g, cur, ety, rfl, h3, ?_, h5, fun hl => by cases hl⟩, fun b hb => ⟨(hr.place _ _ _ _ hob h1 hb), fun o2 x2 h2 hx2 hh2 hb2 => ?_⟩⟩
            · have h8 : All2 (RepAV ρ' w S) cells cur.toList := h4.mono fun _ _ => RepAV.grows hgr
              refine All2.of_get (by rw [List.length_set]; exact h8.len) fun i x y hx hy => ?_
              rw [List.getElem?_set] at hx
              split at hx
              · rename_i ei
                subst ei
                cases hx
                rw [hu] at hy
                cases hy
                exact ⟨hρN, A, 0, 0, rfl⟩
              · obtain ⟨y', hy', hr'⟩ := h8.get hx
                rw [hy] at hy'
                cases hy'
                exact hr'
            · simp only [updO] at hx2
              split at hx2
              · assumption
              · split at hx2
                · rename_i e2
                  subst e2
                  rw [hρN] at hh2
                  cases hh2
                  rw [hblk] at hb2; cases hb2
                · have h9 : ρ o2 = some h2 := by
                    obtain ⟨y, q1, _⟩ := hr.obj o2 x2 hx2
                    have := hρ _ _ q1
                    rw [hh2] at this; cases this; exact q1
                  exact hr.sep _ _ _ _ _ _ b hx2 hob h9 h1 hb2 hb
          · split at hy
            · rename_i en
              subst en
              cases hy
              exact .inr ⟨_, hρN, ⟨by simp, .inl ⟨rfl, A, rfl⟩⟩, fun b hb => by rw [hblk] at hb; cases hb⟩
            · exact .inl ⟨hy, fun _ _ _ _ => ⟨rfl, id⟩⟩)
        rfl rfl rfl (Nat.le_refl _) (fun _ _ _ => rfl) hr.lim hr.foot
      have e1 : putF (getE st.env) none .junk = getE st.env := by funext n; simp [putF]
      have e2 : getO ((o, some (.var (cells.set off (.own st.next)) true)) :: (st.next, some (.row k e [] true)) :: st.objs) = updO [(o, some (.var (cells.set off (.own st.next)) true)), (st.next, some (.row k e [] true))] (getO st.objs) := getO_upd [_, _] st.objs
      rw [e1, ← e2] at h7
      exact h7
    · cases hs
  · cases hs

/-- An empty slice in a temporary, as an own row of no rows. -/
def St.ownE (st : St) (t : Nat) (e : TypeId) : Option St := match getE st.env t with
  | .cs false [.nils k] => some ⟨st.nt, (t, .cs false [.own st.next]) :: st.env, (st.next, some (.row k e [] true)) :: st.objs, st.next + 1⟩
  | _ => none

theorem RelE.ownE {c : Base} {st st' : St} {t : Nat} {e : TypeId} {a : Act} {w : World} (hs : st.ownE t e = some st') (h : RelE c st st.next a w) : RelE c st' st'.next a w := by
  unfold St.ownE at hs
  split at hs
  · rename_i k hcell
    cases hs
    obtain ⟨ρ, S, hr, hf⟩ := h
    have ht := hr.env t
    rw [hcell] at ht
    obtain ⟨x, hx, hA0⟩ := ht
    cases hx
    obtain ⟨A, hA⟩ := hA0
    let ρ' : Where := fun n => if n = st.next then some (.slice A 0 0) else ρ n
    have hne : ∀ n x, ρ n = some x → n ≠ st.next := fun n x hx e => by subst e; rw [hf _ (Nat.le_refl _)] at hx; cases hx
    have hρ : ∀ n x, ρ n = some x → ρ' n = some x := fun n x hx => by simp only [ρ']; rw [if_neg (hne n x hx)]; exact hx
    have hρN : ρ' st.next = some (.slice A 0 0) := by simp [ρ']
    have hgr : Grows ρ ρ' w w S S := ⟨hρ, fun _ h => h, Keeps.refl _ _⟩
    have hblk : blkOf (.slice A 0 0) = none := by cases A <;> simp [blkOf]
    refine ⟨ρ', S, ?_, fun n hn => by simp only [ρ']; rw [if_neg (by simp only at hn; omega)]; exact hf n (by simp only at hn; omega)⟩
    have h7 := hr.step (dst := none) (v := undef) (out := .junk) (ob' := updO [(st.next, some (.row k e [] true))] (getO st.objs)) (w' := w) (S' := S) (ρ' := ρ') rfl hgr trivial
      (fun n y hy => by
        simp only [updO] at hy
        split at hy
        · rename_i en
          subst en
          cases hy
          exact .inr ⟨_, hρN, ⟨by simp, .inl ⟨rfl, A, rfl⟩⟩, fun b hb => by rw [hblk] at hb; cases hb⟩
        · exact .inl ⟨hy, fun _ _ _ _ => ⟨rfl, id⟩⟩)
      rfl rfl rfl (Nat.le_refl _) (fun _ _ _ => rfl) hr.lim hr.foot
    have e1 : putF (getE st.env) none .junk = getE st.env := by funext n; simp [putF]
    have e2 : getO ((st.next, some (.row k e [] true)) :: st.objs) = updO [(st.next, some (.row k e [] true))] (getO st.objs) := getO_upd [_] st.objs
    rw [e1, ← e2] at h7
    refine { h7 with env := fun n => ?_ }
    simp only [getE]
    split
    · rename_i en
      subst en
      have hA' : a.tmps.getD n undef = .slice A 0 0 := hA
      refine ⟨_, rfl, ?_, A, 0, 0, hA'⟩
      show ρ' st.next = some (a.tmps.getD n undef)
      rw [hA']; exact hρN
    · exact h7.env n
  · cases hs

theorem vownE {E : Sit} (t : Nat) (e : TypeId) {p : Code × (Exit → St → Prop)} {st st' : St} {h : Hold p} (hs : st.ownE t e = some st') (hk : AWpH E st' h) : AWpH E st h :=
  awp_weak (fun _ _ _ _ => RelE.ownE hs) hk

theorem vown {E : Sit} (o off : Nat) (e : TypeId) {p : Code × (Exit → St → Prop)} {st st' : St} {h : Hold p} (hs : st.own o off e = some st') (hk : AWpH E st' h) : AWpH E st h :=
  awp_weak (fun _ _ _ _ => RelE.own hs) hk

theorem vfreeze {E : Sit} (o : Nat) {p : Code × (Exit → St → Prop)} {st st' : St} {h : Hold p} (hs : st.freeze o = some st') (hk : AWpH E st' h) : AWpH E st h :=
  awp_freeze o hs hk

/-- What a cell of a variable holds, as data. -/
def St.data (st : St) (o off : Nat) : Option St := match getO st.objs o with
  | some (.var cells true) => match cells[off]? with
    | some x => match avD (getO st.objs) x with
      | some d => some ⟨st.nt, st.env, (o, some (.var (cells.set off (.d d)) true)) :: st.objs, st.next⟩
      | none => none
    | none => none
  | _ => none

theorem RelE.data {c : Base} {st st' : St} {o off : Nat} {a : Act} {w : World} (hs : st.data o off = some st') (h : RelE c st st.next a w) : RelE c st' st'.next a w := by
  unfold St.data at hs
  split at hs
  · rename_i cells hob
    split at hs
    · rename_i x hcell
      split at hs
      · rename_i d hd
        cases hs
        obtain ⟨ρ, S, hr, hf⟩ := h
        obtain ⟨hh, h1, h2⟩ := hr.obj o _ hob
        obtain ⟨g, cur, ety, rfl, h3, h4, h5, h6⟩ := h2
        refine ⟨ρ, S, ?_, hf⟩
        have h7 := hr.step (dst := none) (v := undef) (out := .junk) (ob' := updO [(o, some (.var (cells.set off (.d d)) true))] (getO st.objs)) (w' := w) (S' := S) (ρ' := ρ) rfl ⟨fun _ _ h => h, fun _ h => h, Keeps.refl _ _⟩ trivial
          (fun n y hy => by
            simp only [updO] at hy
            split at hy
            · rename_i en
              subst en
              cases hy
              refine .inr ⟨_, h1, ⟨g, cur, ety, rfl, h3, ?_, h5, fun hl => by cases hl⟩, fun b hb => ⟨(hr.place _ _ _ _ hob h1 hb), fun o2 x2 h2 hx2 hh2 hb2 => ?_⟩⟩
              · refine All2.of_get (by rw [List.length_set]; exact h4.len) fun i x' y hx' hy => ?_
                rw [List.getElem?_set] at hx'
                split at hx'
                · rename_i ei
                  subst ei
                  split at hx'
                  · cases hx'
                    obtain ⟨y', hy', hr'⟩ := h4.get hcell
                    rw [hy] at hy'
                    cases hy'
                    exact avD_rep hr hd hr'
                  · cases hx'
                · obtain ⟨y', hy', hr'⟩ := h4.get hx'
                  rw [hy] at hy'
                  cases hy'
                  exact hr'
              · simp only [updO] at hx2
                split at hx2
                · assumption
                · exact hr.sep _ _ _ _ _ _ b hx2 hob hh2 h1 hb2 hb
            · exact .inl ⟨hy, fun _ _ _ _ => ⟨rfl, id⟩⟩)
          rfl rfl rfl (Nat.le_refl _) (fun _ _ _ => rfl) hr.lim hr.foot
        have e1 : putF (getE st.env) none .junk = getE st.env := by funext n; simp [putF]
        have e2 : getO ((o, some (.var (cells.set off (.d d)) true)) :: st.objs) = updO [(o, some (.var (cells.set off (.d d)) true))] (getO st.objs) := getO_upd [_] st.objs
        rw [e1, ← e2] at h7
        exact h7
      · cases hs
    · cases hs
  · cases hs

/-- The own row in a cell is frozen; the cell holds it as data. -/
def St.settle (st : St) (o off : Nat) : Option St := match st.freeze (ownAt st o off) with
  | some st' => st'.data o off
  | none => none
theorem RelE.settle {c : Base} {st st' : St} {o off : Nat} {a : Act} {w : World} (hs : st.settle o off = some st') (h : RelE c st st.next a w) : RelE c st' st'.next a w := by
  unfold St.settle at hs
  split at hs
  · rename_i st1 h1; exact RelE.data hs (RelE.freeze h1 h)
  · cases hs

theorem vdata {E : Sit} (o off : Nat) {p : Code × (Exit → St → Prop)} {st : St} {h : Hold p} (hk : vo (st.data o off) fun st' => AWpH E st' h) : AWpH E st h :=
  let ⟨_, hs, hk⟩ := hk; awp_weak (fun _ _ _ _ => RelE.data hs) hk
theorem againD {E : Sit} {ι : Type} {I : ι → St} {m : ι → Nat} {i : ι} {st : St} (o off : Nat) (h : vo (st.data o off) fun st' => Again E I m i st') : Again E I m i st :=
  let ⟨_, hs, j, hm, hk⟩ := h; ⟨j, hm, fun c a w ho hr => hk c a w ho (RelE.data hs hr)⟩
theorem vsettle {E : Sit} (o off : Nat) {p : Code × (Exit → St → Prop)} {st : St} {h : Hold p} (hk : vo (st.settle o off) fun st' => AWpH E st' h) : AWpH E st h :=
  let ⟨_, hs, hk⟩ := hk; awp_weak (fun _ _ _ _ => RelE.settle hs) hk
theorem againS {E : Sit} {ι : Type} {I : ι → St} {m : ι → Nat} {i : ι} {st : St} (o off : Nat) (h : vo (st.settle o off) fun st' => Again E I m i st') : Again E I m i st :=
  let ⟨_, hs, j, hm, hk⟩ := h; ⟨j, hm, fun c a w ho hr => hk c a w ho (RelE.settle hs hr)⟩
theorem againF {E : Sit} {ι : Type} {I : ι → St} {m : ι → Nat} {i : ι} {st : St} (o : Nat) (h : vo (st.freeze o) fun st' => Again E I m i st') : Again E I m i st :=
  let ⟨_, hs, j, hm, hk⟩ := h; ⟨j, hm, fun c a w ho hr => hk c a w ho (RelE.freeze hs hr)⟩
attribute [go_sem] St.settle St.data St.ownE List.set_cons_zero List.set_cons_succ

/-- A round of a loop over a function, walked in its place. -/
theorem yieldW {E : Sit} (hE : SitOk E) {n : Nat} {A : List (Bool × List AV)} {objs : List (Nat × Option AObj)} {next : Nat} {K : AT → List (Nat × Option AObj) → Nat → Prop} {h : Hold K}
    (hs : ∃ L, getO objs n = some (.lp L) ∧ (decide (A.length = L.ps.size) && L.ps.toList.all fun p => decide (p < L.nt)) = true ∧ ∀ ro, vc ⟨E.P, E.Γ, ro, ⟨next, []⟩⟩ L.assign (thenQ (fun st => ∃ L1, getO st.objs n = some (.lp L1) ∧ L1.st = .ready ∧
      vc ⟨E.P, E.Γ, ro, ⟨next, []⟩⟩ L.body (roundQ n K) ⟨st.nt, st.env, setLp n L1 .busy st.objs, st.next⟩) (fun _ _ => False)) ⟨L.nt, parE L.ps.toList A L.env, objs, next⟩) : YCallH E false n A objs next h := by
  obtain ⟨L, h1, h2, h3⟩ := hs
  have ok : ∀ ro pin, SitOk ⟨E.P, E.Γ, ro, pin⟩ := fun ro pin => ⟨hE.ctx, hE.mix⟩
  refine ⟨rfl, L, h1, h2, fun ro => awp_mono (awp_vc (ok _ _) (h3 ro)) fun e st h => ?_⟩
  cases e with
  | normal =>
    obtain ⟨L1, q1, q2, q3⟩ := h
    exact ⟨L1, q1, q2, awp_vc (ok _ _) q3⟩
  | _ => exact h.elim

/-- A loop over a function: that function's body, walked over the objects and the loop's record. -/
theorem vrange {E : Sit} (hE : SitOk E) (hro : E.ro = none) {g : Operand} {ps : Array Tmp} {assign body : Code} {Q : Exit → St → Prop} {st : St} {h0 : Hold (Code.rangeFunc g ps assign body, Q)} (fr : List Nat) (env' : List (Nat × AT)) {f : FuncId} {A : List (Bool × List AV)} {fn : Func} {code : Code} {nt : Nat} {rl : List ResultVar}
    (hg : calleeA (aval E.Γ (getE st.env) 0 g) = some (f, A)) (hfr : (fr.all fun o => decide (o < st.next) && (decide (E.pin.n ≤ o) || E.pin.free.contains o)) = true) (hkeep : keepE fr st.env env')
    (hf : E.P.funcs[f]? = some fn) (hb : fn.body = some code) (hname : (fn.name == "runtime.NumGoroutine") = false) (hnt : fn.ntmps = nt) (hrs : fn.results = rl.toArray) (hlen : decide (A.length + 1 ≤ nt) = true)
    (h : vc ⟨E.P, E.Γ, none, ⟨st.next + 8, fr⟩⟩ code (retH E.Γ rl (rangeK st.next st.nt env' Q)) ⟨nt, initEnv 0 ((false, [.yld st.next]) :: A), (st.next, some (.lp ⟨st.nt, env', ps, assign, body, .ready⟩)) :: st.objs, st.next + 8⟩) : AWpH E st h0 := by
  subst hnt
  have ok : ∀ ro pin, SitOk ⟨E.P, E.Γ, ro, pin⟩ := fun ro pin => ⟨hE.ctx, hE.mix⟩
  refine awp_range hro fr env' hg hfr hkeep (hcallF_of_body hE hf hb hname (by simpa using of_decide_eq_true hlen) ?_)
  rw [hrs]
  exact awp_vc (ok _ _) h
attribute [go_sem] roundQ rangeK lpEnd keepE frT frA frC calleeA capA

theorem take_splice {α : Type} (l zs : List α) (m : Nat) (hm : m ≤ l.length) : (splice l m zs).take m = l.take m := by
  unfold splice
  rw [List.append_assoc, List.take_append_of_le_length (by simp; omega), List.take_take, Nat.min_self]
theorem take_splice2 {α : Type} (l t : List α) (i : Nat) (hi : i ≤ l.length) : (splice l i t).take (i + t.length) = l.take i ++ t := by
  unfold splice
  rw [List.take_append_of_le_length (by simp; omega), List.take_of_length_le (by simp; omega)]

attribute [go_sem] Int.natCast_one Int.cast_ofNat_Int ownAt ownT aI aB aP aD aO cI cB cD dI dB dS vI vB vD rOne rAgg rTup belowsB belowT belowO sameE sameO Same look CapV.ren AV.ren AT.ren AObj.ren St.own St.freezeL St.freeze
end Go.Eng
