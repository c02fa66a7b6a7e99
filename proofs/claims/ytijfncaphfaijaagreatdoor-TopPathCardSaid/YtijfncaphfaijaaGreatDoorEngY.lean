/- Loops, told by states; an empty slice as an own row; short names. What is handed in by a row's reader, as data; a row from a contract. A row's room is known: its spare cells as rows. -/
import Derived.Test.YtijfncaphfaijaaGreatDoorEngU
import Derived.ProofKit
namespace Go.Eng

abbrev aI (n : Int) : AT := .cs false [.d (.v (.int .i64 n))]
abbrev aB (b : Bool) : AT := .cs false [.d (.v (.bool b))]
abbrev aP (o off : Nat) : AT := .cs false [.ptr o off]
abbrev aD (d : D) : AT := .cs false [.d d]
abbrev aO (o : Nat) : AT := .cs false [.own o]
abbrev cI (n : Int) : AV := .d (.v (.int .i64 n))
abbrev cB (b : Bool) : AV := .d (.v (.bool b))
abbrev cD (d : D) : AV := .d d
abbrev dI (n : Int) : D := .v (.int .i64 n)
abbrev dB (b : Bool) : D := .v (.bool b)
abbrev dS (s : ByteArray) : D := .v (.string s)
abbrev vI (n : Int) : CV := .d (.v (.int .i64 n))
abbrev vB (b : Bool) : CV := .d (.v (.bool b))
abbrev vD (d : D) : CV := .d d
/-- A result of one value that is no struct; of one struct; of several. -/
abbrev rOne (c : CV) : Res := ⟨false, [(false, [c])]⟩
abbrev rAgg (cs : List CV) : Res := ⟨false, [(true, cs)]⟩
abbrev rTup (cs : List (Bool × List CV)) : Res := ⟨true, cs⟩

def belowsB (n : Nat) : AV → Bool
  | .ptr o _ | .own o | .eptr o .. | .win o .. | .wx o .. | .yld o | .mph o | .vsl o _ => decide (o < n)
  | .clo _ ks => ks.all fun | .ptr o _ => decide (o < n) | _ => true
  | _ => true
theorem belowsB_ok {n : Nat} {x : AV} (h : belowsB n x = true) : x.below n := by
  cases x with
  | clo f ks =>
    intro y hy
    simp only [belowsB, List.all_eq_true] at h
    have := h y hy
    cases y with
    | ptr o off => simpa [CapV.below] using this
    | d _ => trivial
  | ptr => simpa [belowsB, AV.below] using h
  | own => simpa [belowsB, AV.below] using h
  | eptr => simpa [belowsB, AV.below] using h
  | win => simpa [belowsB, AV.below] using h
  | wx => simpa [belowsB, AV.below] using h
  | yld => simpa [belowsB, AV.below] using h
  | mph => simpa [belowsB, AV.below] using h
  | vsl => simpa [belowsB, AV.below] using h
  | d => trivial
  | nils => trivial

def belowT (n : Nat) : AT → Bool
  | .cs _ xs => xs.all (belowsB n)
  | .tup ts => ts.all fun t => t.2.all (belowsB n)
  | _ => true
theorem belowT_ok {n : Nat} {x : AT} (h : belowT n x = true) : x.below n := by
  cases x with
  | cs g xs => exact fun y hy => belowsB_ok (List.all_eq_true.1 h y hy)
  | tup ts => exact fun t ht y hy => belowsB_ok (List.all_eq_true.1 (List.all_eq_true.1 h t ht) y hy)
  | _ => trivial

def belowO (n : Nat) : AObj → Bool
  | .var cells _ => cells.all (belowsB n)
  | .lp L => L.env.all fun p => belowT n p.2
  | _ => true
theorem belowO_ok {n : Nat} {x : AObj} (h : belowO n x = true) : x.below n := by
  cases x with
  | var cells l => exact fun y hy => belowsB_ok (List.all_eq_true.1 h y hy)
  | lp L => exact fun p hp => belowT_ok (List.all_eq_true.1 h p hp)
  | row => trivial
  | it => trivial
  | ms => trivial

/-- Each temporary of the later state is known in the earlier one, objects renamed. -/
def sameE (σ : Nat → Nat) (n : Nat) (env : List (Nat × AT)) : List (Nat × AT) → Prop
  | [] => True
  | (t, x) :: r => belowT n x = true ∧ getE env t = x.ren σ ∧ sameE σ n env r

def sameO (σ : Nat → Nat) (n : Nat) (objs : List (Nat × Option AObj)) : List (Nat × Option AObj) → Prop
  | [] => True
  | (_, none) :: _ => False
  | (o, some x) :: r => (decide (o < n) && belowO n x) = true ∧ getO objs (σ o) = some (x.ren σ) ∧ sameO σ n objs r

/-- The later state says no more: σ tells which object each of its objects is. -/
def Same (pin : Pin) (σ : List (Nat × Nat)) (st st' : St) : Prop :=
  ((decide (pin.n ≤ st'.next) && σ.all fun p => decide (pin.n ≤ p.1) || pin.free.contains p.1) = true ∧ st.nt = st'.nt ∧ (decide (st'.objs.map fun p => look σ p.1).Nodup) = true) ∧ sameE (look σ) st'.next st.env st'.env ∧ sameO (look σ) st'.next st.objs st'.objs

theorem Same.weak {pin : Pin} {σ : List (Nat × Nat)} {st st' : St} (h : Same pin σ st st') : Weak pin (look σ) st st' := by
  obtain ⟨⟨h1, h2, h3⟩, h4, h5⟩ := h
  refine weak_of h1 h2 ?_ ?_ (.inl (of_decide_eq_true h3))
  · generalize st'.env = l at h4
    induction l with
    | nil => trivial
    | cons p r ih =>
      obtain ⟨t, x⟩ := p
      exact ⟨⟨h4.2.1, belowT_ok h4.1⟩, ih h4.2.2⟩
  · clear h3
    generalize st'.objs = l at h5
    induction l with
    | nil => trivial
    | cons p r ih =>
      obtain ⟨o, x⟩ := p
      cases x with
      | none => exact h5.elim
      | some x =>
        obtain ⟨h6, h7, h8⟩ := h5
        simp only [Bool.and_eq_true, decide_eq_true_eq] at h6
        exact ⟨⟨h6.1, h7, belowO_ok h6.2⟩, ih h8⟩

/-- A loop: the states at the rounds' heads, by a letter; a number that goes down. -/
theorem vfor {E : Sit} (hE : SitOk E) {ι : Type} (I : ι → St) (m : ι → Nat) (i : ι) {Q : Exit → St → Prop} {st : St} {x : Code} {h : Hold (Code.loop x, Q)} (hi : Same E.pin [] st (I i))
    (round : ∀ i, vc E x (thenQ (Again E I m i) Q) (I i)) : AWpH E st h :=
  awp_for I m i [] hi.weak fun i => awp_vc hE (round i)

/-- The like; objects are renamed as it begins. -/
theorem vforR {E : Sit} (hE : SitOk E) (σ : List (Nat × Nat)) {ι : Type} (I : ι → St) (m : ι → Nat) (i : ι) {Q : Exit → St → Prop} {st : St} {x : Code} {h : Hold (Code.loop x, Q)} (hi : Same E.pin σ st (I i))
    (round : ∀ i, vc E x (thenQ (Again E I m i) Q) (I i)) : AWpH E st h :=
  awp_for I m i σ hi.weak fun i => awp_vc hE (round i)

theorem again {E : Sit} {ι : Type} {I : ι → St} {m : ι → Nat} {i : ι} {st : St} (j : ι) (hm : m j < m i) (h : Same E.pin [] st (I j)) : Again E I m i st := ⟨j, hm, fun _ _ _ ho hr => hr.weak ho h.weak⟩
theorem againR {E : Sit} {ι : Type} {I : ι → St} {m : ι → Nat} {i : ι} {st : St} (σ : List (Nat × Nat)) (j : ι) (hm : m j < m i) (h : Same E.pin σ st (I j)) : Again E I m i st := ⟨j, hm, fun _ _ _ ho hr => hr.weak ho h.weak⟩

/-- The own row in a cell of a variable; in a temporary. -/
def ownAt (st : St) (o off : Nat) : Nat := match getO st.objs o with
  | some (.var cells _) => match cells[off]? with
    | some (.own n) => n
    | some (.win n ..) => n
    | some (.ptr n _) => n
    | _ => 0
  | _ => 0
def ownT (st : St) (t : Nat) : Nat := match getE st.env t with
  | .cs false [.own n] => n
  | .cs false [.win n ..] => n
  | .cs false [.ptr n _] => n
  | _ => 0
/-- A round's end: the row n is now the one in a cell; in a temporary. -/
theorem againO {E : Sit} {ι : Type} {I : ι → St} {m : ι → Nat} {i : ι} {st : St} (n o off : Nat) (j : ι) (hm : m j < m i) (h : Same E.pin [(n, ownAt st o off)] st (I j)) : Again E I m i st := againR _ j hm h
/-- The loop begins; the row n is the one in a temporary. -/
theorem vforT {E : Sit} (hE : SitOk E) (n t : Nat) {ι : Type} (I : ι → St) (m : ι → Nat) (i : ι) {Q : Exit → St → Prop} {st : St} {x : Code} {h : Hold (Code.loop x, Q)} (hi : Same E.pin [(n, ownT st t)] st (I i))
    (round : ∀ i, vc E x (thenQ (Again E I m i) Q) (I i)) : AWpH E st h := vforR hE _ I m i hi round
theorem againT {E : Sit} {ι : Type} {I : ι → St} {m : ι → Nat} {i : ι} {st : St} (n t : Nat) (j : ι) (hm : m j < m i) (h : Same E.pin [(n, ownT st t)] st (I j)) : Again E I m i st := againR _ j hm h

/-- An empty slice in a cell of a variable, as an own row of no rows. -/
def St.own (st : St) (o off : Nat) (e : TypeId) : Option St := match getO st.objs o with
  | some (.var cells true) => match cells[off]? with
    | some (.nils k) => some ⟨st.nt, st.env, (o, some (.var (cells.set off (.own st.next)) true)) :: (st.next, some (.row k e [] true)) :: st.objs, st.next + 1⟩
    | _ => none
  | _ => none

theorem RelE.own {c : Base} {st st' : St} {o off : Nat} {e : TypeId} {a : Act} {w : World} (hs : st.own o off e = some st') (h : RelE c st st.next a w) : RelE c st' st'.next a w := by
  unfold St.own at hs
  split at hs
  · rename_i cells hob
    split at hs
    · rename_i k hcell
      cases hs
      obtain ⟨ρ, S, hr, hf⟩ := h
      obtain ⟨hh, h1, h2⟩ := hr.obj o _ hob
      obtain ⟨g, cur, ety, rfl, h3, h4, h5, h6⟩ := h2
      obtain ⟨u, hu, A, rfl⟩ := h4.get hcell
      have hofl : off < cells.length := (List.getElem?_eq_some_iff.1 hcell).1
      let ρ' : Where := fun n => if n = st.next then some (.slice A 0 0) else ρ n
      have hne : ∀ n x, ρ n = some x → n ≠ st.next := fun n x hx e => by subst e; rw [hf _ (Nat.le_refl _)] at hx; cases hx
      have hρ : ∀ n x, ρ n = some x → ρ' n = some x := fun n x hx => by simp only [ρ']; rw [if_neg (hne n x hx)]; exact hx
      have hρN : ρ' st.next = some (.slice A 0 0) := by simp [ρ']
      have hgr : Grows ρ ρ' w w S S := ⟨hρ, fun _ h => h, Keeps.refl _ _⟩
      have hoN : o ≠ st.next := hne _ _ h1
      have hblk : blkOf (.slice A 0 0) = none := by cases A <;> simp [blkOf]
      refine ⟨ρ', S, ?_, fun n hn => by simp only [ρ']; rw [if_neg (by simp only at hn; omega)]; exact hf n (by simp only at hn; omega)⟩
      have h7 := hr.step (dst := none) (v := undef) (out := .junk) (ob' := updO [(o, some (.var (cells.set off (.own st.next)) true)), (st.next, some (.row k e [] true))] (getO st.objs)) (w' := w) (S' := S) (ρ' := ρ') rfl hgr trivial
        (fun n y hy => by
          simp only [updO] at hy
          split at hy
          · rename_i en
            subst en
            cases hy
            refine .inr ⟨_, hρ _ _ h1, ⟨g, cur, ety, rfl, h3, ?_, h5, fun hl => by cases hl⟩, fun b hb => ⟨(hr.place _ _ _ _ hob h1 hb), fun o2 x2 h2 hx2 hh2 hb2 => ?_⟩⟩
            · have h8 : All2 (RepAV ρ' w S) cells cur.toList := h4.mono fun _ _ => RepAV.grows hgr
              refine All2.of_get (by rw [List.length_set]; exact h8.len) fun i x y hx hy => ?_
              rw [List.getElem?_set] at hx
              split at hx
              · rename_i ei
                subst ei
                cases hx
                rw [hu] at hy
                cases hy
                exact ⟨hρN, A, 0, 0, rfl⟩
              · obtain ⟨y', hy', hr'⟩ := h8.get hx
                rw [hy] at hy'
                cases hy'
                exact hr'
            · simp only [updO] at hx2
              split at hx2
              · assumption
              · split at hx2
                · rename_i e2
                  subst e2
                  rw [hρN] at hh2
                  cases hh2
                  rw [hblk] at hb2; cases hb2
                · have h9 : ρ o2 = some h2 := by
                    obtain ⟨y, q1, _⟩ := hr.obj o2 x2 hx2
                    have := hρ _ _ q1
                    rw [hh2] at this; cases this; exact q1
                  exact hr.sep _ _ _ _ _ _ b hx2 hob h9 h1 hb2 hb
          · split at hy
            · rename_i en
              subst en
              cases hy
              exact .inr ⟨_, hρN, ⟨by simp, .inl ⟨rfl, A, rfl⟩⟩, fun b hb => by rw [hblk] at hb; cases hb⟩
            · exact .inl ⟨hy, fun _ _ _ _ => ⟨rfl, id⟩⟩)
        rfl rfl rfl (Nat.le_refl _) (fun _ _ _ => rfl) hr.lim hr.foot
      have e1 : putF (getE st.env) none .junk = getE st.env := by funext n; simp [putF]
      have e2 : getO ((o, some (.var (cells.set off (.own st.next)) true)) :: (st.next, some (.row k e [] true)) :: st.objs) = updO [(o, some (.var (cells.set off (.own st.next)) true)), (st.next, some (.row k e [] true))] (getO st.objs) := getO_upd [_, _] st.objs
      rw [e1, ← e2] at h7
      exact h7
    · cases hs
  · cases hs

/-- An empty slice in a temporary, as an own row of no rows. -/
def St.ownE (st : St) (t : Nat) (e : TypeId) : Option St := match getE st.env t with
  | .cs false [.nils k] => some ⟨st.nt, (t, .cs false [.own st.next]) :: st.env, (st.next, some (.row k e [] true)) :: st.objs, st.next + 1⟩
  | _ => none

theorem RelE.ownE {c : Base} {st st' : St} {t : Nat} {e : TypeId} {a : Act} {w : World} (hs : st.ownE t e = some st') (h : RelE c st st.next a w) : RelE c st' st'.next a w := by
  unfold St.ownE at hs
  split at hs
  · rename_i k hcell
    cases hs
    obtain ⟨ρ, S, hr, hf⟩ := h
    have ht := hr.env t
    rw [hcell] at ht
    obtain ⟨x, hx, hA0⟩ := ht
    cases hx
    obtain ⟨A, hA⟩ := hA0
    let ρ' : Where := fun n => if n = st.next then some (.slice A 0 0) else ρ n
    have hne : ∀ n x, ρ n = some x → n ≠ st.next := fun n x hx e => by subst e; rw [hf _ (Nat.le_refl _)] at hx; cases hx
    have hρ : ∀ n x, ρ n = some x → ρ' n = some x := fun n x hx => by simp only [ρ']; rw [if_neg (hne n x hx)]; exact hx
    have hρN : ρ' st.next = some (.slice A 0 0) := by simp [ρ']
    have hgr : Grows ρ ρ' w w S S := ⟨hρ, fun _ h => h, Keeps.refl _ _⟩
    have hblk : blkOf (.slice A 0 0) = none := by cases A <;> simp [blkOf]
    refine ⟨ρ', S, ?_, fun n hn => by simp only [ρ']; rw [if_neg (by simp only at hn; omega)]; exact hf n (by simp only at hn; omega)⟩
    have h7 := hr.step (dst := none) (v := undef) (out := .junk) (ob' := updO [(st.next, some (.row k e [] true))] (getO st.objs)) (w' := w) (S' := S) (ρ' := ρ') rfl hgr trivial
      (fun n y hy => by
        simp only [updO] at hy
        split at hy
        · rename_i en
          subst en
          cases hy
          exact .inr ⟨_, hρN, ⟨by simp, .inl ⟨rfl, A, rfl⟩⟩, fun b hb => by rw [hblk] at hb; cases hb⟩
        · exact .inl ⟨hy, fun _ _ _ _ => ⟨rfl, id⟩⟩)
      rfl rfl rfl (Nat.le_refl _) (fun _ _ _ => rfl) hr.lim hr.foot
    have e1 : putF (getE st.env) none .junk = getE st.env := by funext n; simp [putF]
    have e2 : getO ((st.next, some (.row k e [] true)) :: st.objs) = updO [(st.next, some (.row k e [] true))] (getO st.objs) := getO_upd [_] st.objs
    rw [e1, ← e2] at h7
    refine { h7 with env := fun n => ?_ }
    simp only [getE]
    split
    · rename_i en
      subst en
      have hA' : a.tmps.getD n undef = .slice A 0 0 := hA
      refine ⟨_, rfl, ?_, A, 0, 0, hA'⟩
      show ρ' st.next = some (a.tmps.getD n undef)
      rw [hA']; exact hρN
    · exact h7.env n
  · cases hs

theorem vownE {E : Sit} (t : Nat) (e : TypeId) {p : Code × (Exit → St → Prop)} {st st' : St} {h : Hold p} (hs : st.ownE t e = some st') (hk : AWpH E st' h) : AWpH E st h :=
  awp_weak (fun _ _ _ _ => RelE.ownE hs) hk

theorem vown {E : Sit} (o off : Nat) (e : TypeId) {p : Code × (Exit → St → Prop)} {st st' : St} {h : Hold p} (hs : st.own o off e = some st') (hk : AWpH E st' h) : AWpH E st h :=
  awp_weak (fun _ _ _ _ => RelE.own hs) hk

theorem vfreeze {E : Sit} (o : Nat) {p : Code × (Exit → St → Prop)} {st st' : St} {h : Hold p} (hs : st.freeze o = some st') (hk : AWpH E st' h) : AWpH E st h :=
  awp_freeze o hs hk

/-- What a cell of a variable holds, as data. -/
def St.data (st : St) (o off : Nat) : Option St := match getO st.objs o with
  | some (.var cells true) => match cells[off]? with
    | some x => match avD (getO st.objs) x with
      | some d => some ⟨st.nt, st.env, (o, some (.var (cells.set off (.d d)) true)) :: st.objs, st.next⟩
      | none => none
    | none => none
  | _ => none

theorem RelE.data {c : Base} {st st' : St} {o off : Nat} {a : Act} {w : World} (hs : st.data o off = some st') (h : RelE c st st.next a w) : RelE c st' st'.next a w := by
  unfold St.data at hs
  split at hs
  · rename_i cells hob
    split at hs
    · rename_i x hcell
      split at hs
      · rename_i d hd
        cases hs
        obtain ⟨ρ, S, hr, hf⟩ := h
        obtain ⟨hh, h1, h2⟩ := hr.obj o _ hob
        obtain ⟨g, cur, ety, rfl, h3, h4, h5, h6⟩ := h2
        refine ⟨ρ, S, ?_, hf⟩
        have h7 := hr.step (dst := none) (v := undef) (out := .junk) (ob' := updO [(o, some (.var (cells.set off (.d d)) true))] (getO st.objs)) (w' := w) (S' := S) (ρ' := ρ) rfl ⟨fun _ _ h => h, fun _ h => h, Keeps.refl _ _⟩ trivial
          (fun n y hy => by
            simp only [updO] at hy
            split at hy
            · rename_i en
              subst en
              cases hy
              refine .inr ⟨_, h1, ⟨g, cur, ety, rfl, h3, ?_, h5, fun hl => by cases hl⟩, fun b hb => ⟨(hr.place _ _ _ _ hob h1 hb), fun o2 x2 h2 hx2 hh2 hb2 => ?_⟩⟩
              · refine All2.of_get (by rw [List.length_set]; exact h4.len) fun i x' y hx' hy => ?_
                rw [List.getElem?_set] at hx'
                split at hx'
                · rename_i ei
                  subst ei
                  split at hx'
                  · cases hx'
                    obtain ⟨y', hy', hr'⟩ := h4.get hcell
                    rw [hy] at hy'
                    cases hy'
                    exact avD_rep hr hd hr'
                  · cases hx'
                · obtain ⟨y', hy', hr'⟩ := h4.get hx'
                  rw [hy] at hy'
                  cases hy'
                  exact hr'
              · simp only [updO] at hx2
                split at hx2
                · assumption
                · exact hr.sep _ _ _ _ _ _ b hx2 hob hh2 h1 hb2 hb
            · exact .inl ⟨hy, fun _ _ _ _ => ⟨rfl, id⟩⟩)
          rfl rfl rfl (Nat.le_refl _) (fun _ _ _ => rfl) hr.lim hr.foot
        have e1 : putF (getE st.env) none .junk = getE st.env := by funext n; simp [putF]
        have e2 : getO ((o, some (.var (cells.set off (.d d)) true)) :: st.objs) = updO [(o, some (.var (cells.set off (.d d)) true))] (getO st.objs) := getO_upd [_] st.objs
        rw [e1, ← e2] at h7
        exact h7
      · cases hs
    · cases hs
  · cases hs

/-- The own row in a cell is frozen; the cell holds it as data. -/
def St.settle (st : St) (o off : Nat) : Option St := match st.freeze (ownAt st o off) with
  | some st' => st'.data o off
  | none => none
theorem RelE.settle {c : Base} {st st' : St} {o off : Nat} {a : Act} {w : World} (hs : st.settle o off = some st') (h : RelE c st st.next a w) : RelE c st' st'.next a w := by
  unfold St.settle at hs
  split at hs
  · rename_i st1 h1; exact RelE.data hs (RelE.freeze h1 h)
  · cases hs

theorem vdata {E : Sit} (o off : Nat) {p : Code × (Exit → St → Prop)} {st : St} {h : Hold p} (hk : vo (st.data o off) fun st' => AWpH E st' h) : AWpH E st h :=
  let ⟨_, hs, hk⟩ := hk; awp_weak (fun _ _ _ _ => RelE.data hs) hk
theorem againD {E : Sit} {ι : Type} {I : ι → St} {m : ι → Nat} {i : ι} {st : St} (o off : Nat) (h : vo (st.data o off) fun st' => Again E I m i st') : Again E I m i st :=
  let ⟨_, hs, j, hm, hk⟩ := h; ⟨j, hm, fun c a w ho hr => hk c a w ho (RelE.data hs hr)⟩
theorem vsettle {E : Sit} (o off : Nat) {p : Code × (Exit → St → Prop)} {st : St} {h : Hold p} (hk : vo (st.settle o off) fun st' => AWpH E st' h) : AWpH E st h :=
  let ⟨_, hs, hk⟩ := hk; awp_weak (fun _ _ _ _ => RelE.settle hs) hk
theorem againS {E : Sit} {ι : Type} {I : ι → St} {m : ι → Nat} {i : ι} {st : St} (o off : Nat) (h : vo (st.settle o off) fun st' => Again E I m i st') : Again E I m i st :=
  let ⟨_, hs, j, hm, hk⟩ := h; ⟨j, hm, fun c a w ho hr => hk c a w ho (RelE.settle hs hr)⟩
theorem againF {E : Sit} {ι : Type} {I : ι → St} {m : ι → Nat} {i : ι} {st : St} (o : Nat) (h : vo (st.freeze o) fun st' => Again E I m i st') : Again E I m i st :=
  let ⟨_, hs, j, hm, hk⟩ := h; ⟨j, hm, fun c a w ho hr => hk c a w ho (RelE.freeze hs hr)⟩
attribute [go_sem] St.settle St.data St.ownE List.set_cons_zero List.set_cons_succ

/-- A round of a loop over a function, walked in its place. -/
theorem yieldC {E : Sit} (hE : SitOk E) {draw : Bool} {c : Prop} (hc : c) {n : Nat} {A : List (Bool × List AV)} {objs : List (Nat × Option AObj)} {next : Nat} {K : AT → List (Nat × Option AObj) → Nat → Prop} {h : Hold (c, K)}
    (hs : ∃ L, getO objs n = some (.lp L) ∧ (decide (A.length = L.ps.size) && L.ps.toList.all fun p => decide (p < L.nt)) = true ∧ ∀ ro, vc ⟨E.P, E.Γ, ro, ⟨next, []⟩⟩ L.assign (thenQ (fun st => ∃ L1, getO st.objs n = some (.lp L1) ∧ L1.st = .ready ∧
      vc ⟨E.P, E.Γ, ro, ⟨next, []⟩⟩ L.body (roundQ n K) ⟨st.nt, st.env, setLp n L1 .busy st.objs, st.next⟩) (fun _ _ => False)) ⟨L.nt, parE L.ps.toList A L.env, objs, next⟩) : YCallH E draw n A objs next h := by
  obtain ⟨L, h1, h2, h3⟩ := hs
  have ok : ∀ ro pin, SitOk ⟨E.P, E.Γ, ro, pin⟩ := fun ro pin => ⟨hE.ctx, hE.mix⟩
  refine ⟨hc, L, h1, h2, fun ro => awp_mono (awp_vc (ok _ _) (h3 ro)) fun e st h => ?_⟩
  cases e with
  | normal =>
    obtain ⟨L1, q1, q2, q3⟩ := h
    exact ⟨L1, q1, q2, awp_vc (ok _ _) q3⟩
  | _ => exact h.elim

theorem yieldW {E : Sit} (hE : SitOk E) {draw : Bool} {R : Reg} {j : Nat} {acc : List Ft} {n : Nat} {A : List (Bool × List AV)} {objs : List (Nat × Option AObj)} {next : Nat} {K : AT → List (Nat × Option AObj) → Nat → Prop} {h : Hold (CutOk R j acc, K)}
    (hs : ∃ L, getO objs n = some (.lp L) ∧ (decide (A.length = L.ps.size) && L.ps.toList.all fun p => decide (p < L.nt)) = true ∧ ∀ ro, vc ⟨E.P, E.Γ, ro, ⟨next, []⟩⟩ L.assign (thenQ (fun st => ∃ L1, getO st.objs n = some (.lp L1) ∧ L1.st = .ready ∧
      vc ⟨E.P, E.Γ, ro, ⟨next, []⟩⟩ L.body (roundQ n K) ⟨st.nt, st.env, setLp n L1 .busy st.objs, st.next⟩) (fun _ _ => False)) ⟨L.nt, parE L.ps.toList A L.env, objs, next⟩) (hd : R.draw = false := by rfl) : YCallH E draw n A objs next h := yieldC hE (.inl hd) hs
/-- The like, in a drawn region. -/
theorem yieldWd {E : Sit} (hE : SitOk E) {draw : Bool} {R : Reg} {j : Nat} {acc : List Ft} {n : Nat} {A : List (Bool × List AV)} {objs : List (Nat × Option AObj)} {next : Nat} {K : AT → List (Nat × Option AObj) → Nat → Prop} {h : Hold (CutOk R j acc, K)}
    (h1 : drawF R.ops acc.reverse = true) (h2 : cutOk R.ops j = true) (hs : ∃ L, getO objs n = some (.lp L) ∧ (decide (A.length = L.ps.size) && L.ps.toList.all fun p => decide (p < L.nt)) = true ∧ ∀ ro, vc ⟨E.P, E.Γ, ro, ⟨next, []⟩⟩ L.assign (thenQ (fun st => ∃ L1, getO st.objs n = some (.lp L1) ∧ L1.st = .ready ∧
      vc ⟨E.P, E.Γ, ro, ⟨next, []⟩⟩ L.body (roundQ n K) ⟨st.nt, st.env, setLp n L1 .busy st.objs, st.next⟩) (fun _ _ => False)) ⟨L.nt, parE L.ps.toList A L.env, objs, next⟩) : YCallH E draw n A objs next h := yieldC hE (.inr ⟨h1, h2⟩) hs

/-- A loop over a function: that function's body, walked over the objects and the loop's record. -/
theorem vrange {E : Sit} (hE : SitOk E) (hro : E.ro = none) {g : Operand} {ps : Array Tmp} {assign body : Code} {Q : Exit → St → Prop} {st : St} {h0 : Hold (Code.rangeFunc g ps assign body, Q)} (fr : List Nat) (env' : List (Nat × AT)) {f : FuncId} {A : List (Bool × List AV)} {fn : Func} {code : Code} {nt : Nat} {rl : List ResultVar}
    (hg : calleeA (aval E.Γ (getE st.env) 0 g) = some (f, A)) (hfr : (fr.all fun o => decide (o < st.next) && (decide (E.pin.n ≤ o) || E.pin.free.contains o)) = true) (hkeep : keepE fr st.env env')
    (hf : E.P.funcs[f]? = some fn) (hb : fn.body = some code) (hname : (fn.name == "runtime.NumGoroutine") = false) (hnt : fn.ntmps = nt) (hrs : fn.results = rl.toArray) (hlen : decide (A.length + 1 ≤ nt) = true)
    (h : vc ⟨E.P, E.Γ, none, ⟨st.next + 8, fr⟩⟩ code (retH E.Γ rl (rangeK st.next st.nt env' Q)) ⟨nt, initEnv 0 ((false, [.yld st.next]) :: A), (st.next, some (.lp ⟨st.nt, env', ps, assign, body, .ready⟩)) :: st.objs, st.next + 8⟩) : AWpH E st h0 := by
  subst hnt
  have ok : ∀ ro pin, SitOk ⟨E.P, E.Γ, ro, pin⟩ := fun ro pin => ⟨hE.ctx, hE.mix⟩
  refine awp_range hro fr env' hg hfr hkeep (hcallF_of_body hE hf hb hname (by simpa using of_decide_eq_true hlen) ?_)
  rw [hrs]
  exact awp_vc (ok _ _) h
attribute [go_sem] roundQ rangeK lpEnd keepE frT frA frC calleeA capA

theorem take_splice {α : Type} (l zs : List α) (m : Nat) (hm : m ≤ l.length) : (splice l m zs).take m = l.take m := by
  unfold splice
  rw [List.append_assoc, List.take_append_of_le_length (by simp; omega), List.take_take, Nat.min_self]
theorem take_splice2 {α : Type} (l t : List α) (i : Nat) (hi : i ≤ l.length) : (splice l i t).take (i + t.length) = l.take i ++ t := by
  unfold splice
  rw [List.take_append_of_le_length (by simp; omega), List.take_of_length_le (by simp; omega)]

attribute [go_sem] Int.natCast_one Int.cast_ofNat_Int ownAt ownT aI aB aP aD aO cI cB cD dI dB dS vI vB vD rOne rAgg rTup belowsB belowT belowO sameE sameO Same look CapV.ren AV.ren AT.ren AObj.ren St.own St.freezeL St.freeze
end Go.Eng
namespace Go.Eng
open Go.ChangeShapes Go.WideShapes Go.ChangeAt Go.RowKit

def tile (q : TypeId → List D → Prop) : List Field → List D → Prop
  | [], ds => ds = []
  | f :: fs, ds => ∃ a b, q f.type a ∧ ds = a ++ b ∧ tile q fs b

/-- The shape of a type's cells. -/
def shp (P : Program) : Nat → TypeId → List D → Prop
  | 0, _, _ => False
  | n + 1, t, ds => match P.underlying t with
    | some .bool => ∃ b, ds = [.v (.bool b)]
    | some (.int k) => ∃ x, ds = [.v (.int k x)] ∧ k.min ≤ x ∧ x ≤ k.max
    | some .string => ∃ s : ByteArray, ds = [.v (.string s)] ∧ s.size ≤ maxLen
    | some (.slice e) => ∃ rows : List (List D), ds = [.vec (P.cellsOf e) rows] ∧ rows.length ≤ maxLen ∧ ∀ r ∈ rows, shp P n e r
    | some (.struct fs) => tile (shp P n) fs.toList ds
    | _ => False

def tiled (P : Program) : Nat → List Field → Nat → Bool
  | off, [], k => off == k
  | off, f :: fs, k => f.offset == off && tiled P (off + P.cellsOf f.type) fs k

/-- Types of integers, bools, strings, structs and slices of these. -/
def plainT (P : Program) : Nat → TypeId → Bool
  | 0, _ => false
  | n + 1, t => match P.underlying t with
    | some .bool | some (.int _) | some .string => P.cellsOf t == 1
    | some (.slice e) => P.cellsOf t == 1 && plainT P n e
    | some (.struct fs) => tiled P 0 fs.toList (P.cellsOf t) && fs.toList.all fun f => plainT P n f.type
    | _ => false

def isStruct (P : Program) (t : TypeId) : Bool := match P.underlying t with
  | some (.struct _) => true
  | _ => false

theorem cell_lt {w : World} {a : Addr} {v : Value} (h : w.cell? a = some v) : a.block < w.heap.size := by
  unfold World.cell? at h
  split at h
  · rename_i e
    exact (Array.getElem?_eq_some_iff.1 e).1
  · cases h

section
variable {H : Type} {enc : TypeId × Value → H} {P : Program} {w : World} {spare : Nat → Bool} {held : Bool}

theorem trod_tile {q : TypeId → List D → Prop} {S : Nat → Prop} {cs : List Value} {k : Nat} (hk : cs.length = k) : ∀ (fs : List Field) (off : Nat), tiled P off fs k = true →
    (∀ f ∈ fs, ∃ ds, q f.type ds ∧ All2 (Rep w S) ds ((cs.drop f.offset).take (P.cellsOf f.type))) → ∃ ds, tile q fs ds ∧ All2 (Rep w S) ds (cs.drop off)
  | [], off, ht, _ => by
    have : off = k := by simpa [tiled] using ht
    exact ⟨[], rfl, by rw [List.drop_eq_nil_of_le (by omega)]; exact .nil⟩
  | f :: fs, off, ht, h => by
    simp only [tiled, Bool.and_eq_true, beq_iff_eq] at ht
    obtain ⟨ho, ht⟩ := ht
    obtain ⟨a, ha1, ha2⟩ := h f (by simp)
    obtain ⟨b, hb1, hb2⟩ := trod_tile hk fs _ ht fun g hg => h g (by simp [hg])
    refine ⟨a ++ b, ⟨a, b, ha1, rfl, hb1⟩, ?_⟩
    rw [ho] at ha2
    have e : cs.drop off = (cs.drop off).take (P.cellsOf f.type) ++ cs.drop (off + P.cellsOf f.type) := by
      rw [← List.drop_drop, List.take_append_drop]
    rw [e]
    exact ha2.append hb2

theorem choose_get {α : Type} {p : Nat → α → Prop} : ∀ {n : Nat}, (∀ i, i < n → ∃ x, p i x) → ∃ l : List α, l.length = n ∧ ∀ (i : Nat) (x : α), l[i]? = some x → p i x
  | 0, _ => ⟨[], rfl, fun i x h => by simp at h⟩
  | n + 1, h => by
    obtain ⟨l, hl, hp⟩ := choose_get (n := n) fun i hi => h i (by omega)
    obtain ⟨x, hx⟩ := h n (by omega)
    refine ⟨l ++ [x], by simp [hl], fun i y hy => ?_⟩
    by_cases hi : i < l.length
    · rw [List.getElem?_append_left hi] at hy; exact hp i y hy
    · rw [List.getElem?_append_right (by omega)] at hy
      by_cases he : i - l.length = 0
      · rw [he] at hy; simp at hy; subst hy
        have : i = n := by omega
        subst this; exact hx
      · rw [List.getElem?_eq_none (by simp; omega)] at hy; cases hy

theorem trod_rep : ∀ (n : Nat) (F : Nat) (t : TypeId) (cs : List Value) (x : DataW H × List MemPlace), plainT P n t = true → DataW.trod enc P w 0 spare held F t cs = some x →
    ∃ ds, shp P n t ds ∧ All2 (Rep w fun b => b < w.heap.size) ds cs ∧ cs.length = P.cellsOf t
  | 0, _, _, _, _, hp, _ => by cases hp
  | n + 1, F, t, cs, x, hp, h => by
    unfold plainT at hp
    unfold shp
    split at hp
    · rename_i hu
      obtain ⟨b, rfl, _⟩ := DataW.trod_bool hu h
      exact ⟨[.v (.bool b)], ⟨b, rfl⟩, .cons (.v _ rfl) .nil, by simpa using (by simpa using hp : P.cellsOf t = 1).symm⟩
    · rename_i k hu
      obtain ⟨m, rfl, _, hw⟩ := DataW.trod_int hu h
      simp only [Lit.wf, Bool.and_eq_true, decide_eq_true_eq] at hw
      exact ⟨[.v (.int k m)], ⟨m, rfl, hw⟩, .cons (.v _ rfl) .nil, by simpa using (by simpa using hp : P.cellsOf t = 1).symm⟩
    · rename_i hu
      obtain ⟨s, rfl, _, hw⟩ := DataW.trod_string hu h
      exact ⟨[.v (.string s)], ⟨s, rfl, hw⟩, .cons (.v _ rfl) .nil, by simpa using (by simpa using hp : P.cellsOf t = 1).symm⟩
    · rename_i e hu
      simp only [Bool.and_eq_true, beq_iff_eq] at hp
      obtain ⟨hp1, hp⟩ := hp
      rcases DataW.trod_slice hu h with ⟨rfl, _⟩ | ⟨a, len, cap, elems, rest, m, rfl, rfl, _, _, h1, h2, h3, h4, _⟩
      · exact ⟨[.vec (P.cellsOf e) []], ⟨[], rfl, by simp, by simp⟩,
          .cons (.vec (P.cellsOf e) [] none 0 (fun _ _ => Go.undef) (by simp) (by simp) (by simp) (fun i j hi => by simp at hi) (fun i j r d hi => by simp at hi)) .nil, by simpa using hp1.symm⟩
      · have each : ∀ i, i < len → ∃ ds : List D, shp P n e ds ∧ ∃ cs', w.cells? 0 (a.add (i * P.cellsOf e)) (P.cellsOf e) = some cs' ∧ All2 (Rep w fun b => b < w.heap.size) ds cs' := fun i hi => by
          have h5 := h4 i hi
          rw [List.getElem?_eq_getElem (by omega)] at h5
          obtain ⟨cs', h6, h7⟩ := Option.bind_eq_some_iff.1 h5
          obtain ⟨ds, h8, h9, _⟩ := trod_rep n m e cs' _ hp h7
          exact ⟨ds, h8, cs', h6, h9⟩
        obtain ⟨rows, hl, hr⟩ := choose_get each
        have hr' : ∀ r ∈ rows, shp P n e r := fun r hr0 => by
          obtain ⟨i, hi⟩ := List.getElem?_of_mem hr0
          exact (hr i r hi).1
        have hlen : ∀ r ∈ rows, r.length = P.cellsOf e := fun r hr0 => by
          obtain ⟨i, hi⟩ := List.getElem?_of_mem hr0
          obtain ⟨_, cs', h6, h7⟩ := hr i r hi
          rw [h7.len]; exact (World.cells?_some h6).2.1
        subst hl
        refine ⟨[.vec (P.cellsOf e) rows], ⟨rows, rfl, by omega, hr'⟩, .cons ?_ .nil, by simpa using hp1.symm⟩
        refine .vec (P.cellsOf e) rows (some a) cap (fun i j => (w.cell? (a.add (i * P.cellsOf e + j))).getD Go.undef) h1 h2 hlen (fun i j hi hj => ?_) (fun i j r d hi hj => ?_)
        · obtain ⟨_, cs', h6, h7⟩ := hr i rows[i] (List.getElem?_eq_getElem hi)
          have h8 := (World.cells?_some h6).2.2 j hj
          rw [add_add, List.getElem?_eq_getElem (by rw [(World.cells?_some h6).2.1]; exact hj)] at h8
          refine ⟨a, rfl, ?_, by rw [h8]; rfl⟩
          have := cell_lt h8
          rwa [block_add] at this
        · obtain ⟨_, cs', h6, h7⟩ := hr i r hi
          obtain ⟨u, hu', h9⟩ := h7.get hj
          have hj' : j < P.cellsOf e := by
            rw [← (World.cells?_some h6).2.1]; exact (List.getElem?_eq_some_iff.1 hu').1
          have h8 := (World.cells?_some h6).2.2 j hj'
          rw [add_add, hu'] at h8
          rw [h8]; exact h9
    · rename_i fs hu
      simp only [Bool.and_eq_true, List.all_eq_true] at hp
      obtain ⟨hp1, hp⟩ := hp
      obtain ⟨xs, m, rfl, _, hcl, hxl, h5⟩ := DataW.trod_struct hu h
      obtain ⟨ds, h1, h2⟩ := trod_tile (q := shp P n) (w := w) (S := fun b => b < w.heap.size) hcl fs.toList 0 hp1 fun f hf => by
        obtain ⟨i, hi⟩ := List.getElem?_of_mem hf
        have hi' : fs[i]? = some f := by simpa using hi
        have h6 := h5 i f hi'
        have hil : i < xs.length := by rw [hxl]; exact (Array.getElem?_eq_some_iff.1 hi').1
        rw [List.getElem?_eq_getElem hil] at h6
        obtain ⟨ds, h7, h8, _⟩ := trod_rep n m f.type _ _ (hp f hf) h6
        exact ⟨ds, h7, h8⟩
      exact ⟨ds, h1, by simpa using h2, hcl⟩
    · cases hp

/-- An argument of such a type. -/
def argC (P : Program) (t : TypeId) (ds : List D) : Bool × List CV := (isStruct P t, ds.map .d)

theorem CVs.of_rep {S : Nat → Prop} : ∀ {ds : List D} {us : List Value}, All2 (Rep w S) ds us → CVs w S (ds.map .d) us []
  | _, _, .nil => .nil
  | _, _, .cons h t => .d h (CVs.of_rep t)

theorem okWide_one {P : Program} {w : World} {r : Reach} {base : Nat} {t : TypeId} {v : Value} {n : Nat} (hp : plainT P n t = true) (hs : isStruct P t = false) (h : Value.okWide P w r base t v) : v.cells = #[v] := by
  refine cells_one ?_
  cases n with
  | zero => cases hp
  | succ n =>
    unfold plainT at hp
    unfold Value.okWide at h
    unfold isStruct at hs
    cases v with
    | agg cs =>
      split at hp
      · rename_i hu; rw [hu] at h; simp [Cell.okWide, Cell.ok, hu] at h
      · rename_i hu; rw [hu] at h; simp [Cell.okWide, Cell.ok, hu] at h
      · rename_i hu; rw [hu] at h; simp [Cell.okWide, Cell.ok, hu] at h
      · rename_i hu; rw [hu] at h; simp [Cell.okWide, Cell.ok, hu] at h
      · rename_i hu; rw [hu] at hs; cases hs
      · cases hp
    | tuple cs =>
      split at hp
      · rename_i hu; rw [hu] at h; simp [Cell.okWide, Cell.ok, hu] at h
      · rename_i hu; rw [hu] at h; simp [Cell.okWide, Cell.ok, hu] at h
      · rename_i hu; rw [hu] at h; simp [Cell.okWide, Cell.ok, hu] at h
      · rename_i hu; rw [hu] at h; simp [Cell.okWide, Cell.ok, hu] at h
      · rename_i hu; rw [hu] at hs; cases hs
      · cases hp
    | _ => rfl

theorem okWide_agg {P : Program} {w : World} {r : Reach} {base : Nat} {t : TypeId} {v : Value} (hs : isStruct P t = true) (h : Value.okWide P w r base t v) : ∃ cs, v = .agg cs := by
  unfold isStruct at hs
  unfold Value.okWide at h
  split at hs
  · rename_i hu; rw [hu] at h; obtain ⟨cs, h1, _⟩ := h; exact ⟨cs, h1⟩
  · cases hs

theorem plain_one {n : Nat} {t : TypeId} (hp : plainT P n t = true) (hs : isStruct P t = false) : P.cellsOf t = 1 := by
  cases n with
  | zero => cases hp
  | succ n =>
    unfold plainT at hp
    unfold isStruct at hs
    split at hp
    · simpa using hp
    · simpa using hp
    · simpa using hp
    · simp only [Bool.and_eq_true, beq_iff_eq] at hp; exact hp.1
    · rename_i hu; rw [hu] at hs; cases hs
    · cases hp

theorem trodAll_comps {n : Nat} {r : Reach} {base : Nat} : ∀ (ts : List TypeId) (vs : List Value) (ds : List (DataW H)) (ps : List MemPlace), (∀ t ∈ ts, plainT P n t = true) → DataW.TrodAll enc P w 0 spare held ts vs ds ps →
    (∀ (j : Nat) t v, ts[j]? = some t → vs[j]? = some v → Value.okWide P w r base t v) →
    ∃ dss, All2 (shp P n) ts dss ∧ Comps w (fun b => b < w.heap.size) (List.zipWith (argC P) ts dss) vs []
  | [], vs, ds, ps, _, h, _ => by
    obtain ⟨rfl, _, _⟩ := trodAll_nil h
    exact ⟨[], .nil, .nil⟩
  | t :: ts, vs, ds, ps, hp, h, hv => by
    obtain ⟨v, vs', d, ds', p, q, rfl, rfl, rfl, ⟨F, h1⟩, h2⟩ := trodAll_cons h
    obtain ⟨dss, h3, h4⟩ := trodAll_comps ts vs' ds' q (fun t' ht => hp t' (by simp [ht])) h2 fun j t' v' ht hv' => hv (j + 1) t' v' (by simpa using ht) (by simpa using hv')
    have hpt := hp t (by simp)
    obtain ⟨x, h5, h6, h7⟩ := trod_rep n F t _ _ hpt h1
    have hok := hv 0 t v rfl rfl
    refine ⟨x :: dss, .cons h5 h3, ?_⟩
    simp only [List.zipWith_cons_cons, argC]
    cases hs : isStruct P t with
    | true =>
      obtain ⟨cs, rfl⟩ := okWide_agg hs hok
      have h8 : All2 (Rep w fun b => b < w.heap.size) x cs.toList := h6
      have := Comps.agg (CVs.of_rep h8) h4
      simpa using this
    | false =>
      have h8 := okWide_one hpt hs hok
      rw [h8] at h6
      match x, h6 with
      | [y], .cons h9 .nil => exact Comps.one (.d h9 .nil) h4

theorem trodAll_len : ∀ (ts : List TypeId) (vs : List Value) (ds : List (DataW H)) (ps : List MemPlace), DataW.TrodAll enc P w 0 spare held ts vs ds ps → ds.length = ts.length
  | [], vs, ds, ps, h => by
    obtain ⟨_, rfl, _⟩ := trodAll_nil h; rfl
  | t :: ts, vs, ds, ps, h => by
    obtain ⟨v, vs', d, ds', p, q, rfl, rfl, rfl, _, h2⟩ := trodAll_cons h
    simp [trodAll_len ts vs' ds' q h2]

theorem trodAll_below {hl : laidOutB P = true} {w' : World} (hb : Below w.heap.size w w') : ∀ (ts : List TypeId) (vs : List Value) (ds : List (DataW H)) (ps : List MemPlace), (∀ t ∈ ts, P.readableRec t = true ∧ t < P.types.size) →
    DataW.TrodAll enc P w 0 (fun _ => true) true ts vs ds ps → (∀ x ∈ ps, x.block < w.heap.size) → DataW.TrodAll enc P w' 0 (fun b => decide (b < w.heap.size)) true ts vs ds ps
  | [], vs, ds, ps, _, h, _ => by
    obtain ⟨rfl, rfl, rfl⟩ := trodAll_nil h
    rfl
  | t :: ts, vs, ds, ps, hp, h, hlt => by
    obtain ⟨v, vs', d, ds', p, q, rfl, rfl, rfl, h1, h2⟩ := trodAll_cons h
    have ht := hp t (by simp)
    exact ⟨_, _, (Below.trod hl ht.1 ht.2 h1 hb fun x hx => hlt x (by simp [hx])), (trodAll_below (hl := hl) hb ts vs' ds' q (fun t' ht' => hp t' (by simp [ht'])) h2 fun x hx => hlt x (by simp [hx])), rfl⟩

end

theorem Foot.below {w w' : World} {S' : Nat → Prop} {bs' : List Nat} (h : Foot w w' (fun b => b < w.heap.size) S' [] bs') : Below w.heap.size w w' :=
  ⟨h.os, h.tape, h.output, h.hsize, fun k hk => h.same k hk (by simp)⟩

/-- A row that says 'true', and that the input reads as it did, from the contract. -/
theorem row_ok {H : Type} {enc : TypeId × Value → H} {C : Checked} {f : FuncId} {fn : Func} {s : ChangeSpec} {conds : List PathCond} {a : Assume} (n : Nat) (tb : TypeId) (hl : laidOutB C.prog = true)
    (hts : (fn.params.toList.all fun t => C.prog.readableRec t && decide (t < C.prog.types.size) && plainT C.prog n t) = true) (hres : fn.resultTypes = #[tb]) (hu : C.prog.underlying tb = some .bool) (hs : s.vars = [])
    (hspec : ∀ ds : List (DataW H), ds.length = fn.params.toList.length → s.fn H (ds ++ []) = ⟨[.lit (.bool true)], ds, []⟩)
    (hlay : ∀ (W : World) (args : Array Value), a.holds C.prog (lone (Frame.enter C.prog f args .normal) [] W) → LayOk W (fun b => b < W.heap.size))
    (hm : ∀ dss, All2 (shp C.prog n) fn.params.toList dss → Meets C.prog f (List.zipWith (argC C.prog) fn.params.toList dss) (rOne (vB true))) :
    ∀ (W : World) (base : Nat) (args : Array Value) (ds gs : List (DataW H)) (before : List MemPlace),
      (∀ (j : Nat) t v, fn.params[j]? = some t → args[j]? = some v → Value.okWide C.prog W .any base t v) →
      DataW.Whole enc C.prog fn.params.toList s.vars false W args.toList ds gs before →
      conds.all (PathCond.test C.prog ⟨fn.params.toList, ds, s.plain.varTypes C.prog, gs⟩) = true →
      a.holds C.prog (lone (Frame.enter C.prog f args .normal) [] W) →
      Calls C.prog f args W fun e W' => ∃ v, e = .returned v ∧ s.post enc C.prog fn false true false false W args v W' := by
  intro W base args ds gs before hval hW _ hah
  have hW' := hW
  have hlt := hW.lt
  obtain ⟨p, q, hA, hV, rfl, hfz, hnd⟩ := hW
  rw [hs] at hV
  obtain ⟨rfl, rfl⟩ := trodVars_none hV
  simp only [List.append_nil] at hW' hlt
  simp only [List.all_eq_true, Bool.and_eq_true, decide_eq_true_eq] at hts
  obtain ⟨dss, h1, h2⟩ := trodAll_comps (n := n) (r := .any) (base := base) fn.params.toList args.toList ds p (fun t ht => (hts t ht).2) hA fun j t v ht hv => hval j t v (by simpa using ht) (by simpa using hv)
  have hc := (hm dss h1).2 W (fun b => b < W.heap.size) args.toList [] (fun _ h => h) (hlay W args hah) h2 .nil
  rw [Array.toArray_toList] at hc
  refine hc.mono fun e W' ⟨v, S', bs', he, hr, _, hfoot⟩ => ⟨v, he, ?_⟩
  have hB := hfoot.below
  have hlen : ds.length = fn.params.toList.length := trodAll_len _ _ _ _ hA
  have hv : v = .bool true := by
    have hr' : Comps W' S' [(false, [.d (.v (.bool true))])] [v] bs' := hr
    cases hr' with
    | one h t =>
      cases h with
      | d h _ => cases h; rfl
  subst hv
  refine ⟨ds, [], p, [], p, [], hW', ?_, ?_, ?_, hB.frame _, fun h => by cases h⟩
  · rw [hspec ds hlen, hres]
    exact trodAll_mk1 ⟨1, by simp [DataW.trod, Value.cells, hu]⟩
  · rw [hspec ds hlen]
    exact trodAll_below (hl := hl) hB _ _ _ _ (fun t ht => (hts t ht).1) hA hlt
  · rw [hspec ds hlen, hs]
    rfl

def tileG (q : TypeId → List D → Prop) : List (Nat × TypeId) → List D → Prop
  | [], ds => ds = []
  | f :: fs, ds => ∃ a b, q f.2 a ∧ ds = a ++ b ∧ tileG q fs b

/-- The shape of a type's cells, by the table of types. -/
def shpG (Γ : Ctx) : Nat → TypeId → List D → Prop
  | 0, _, _ => False
  | n + 1, t, ds => match Γ.ty t with
    | some ti => (match ti.desc with
      | .bool => ∃ b, ds = [.v (.bool b)]
      | .int k => ∃ x, ds = [.v (.int k x)] ∧ k.min ≤ x ∧ x ≤ k.max
      | .str => ∃ s : ByteArray, ds = [.v (.string s)] ∧ s.size ≤ maxLen
      | .slice e => ∃ rows : List (List D), ((match Γ.size e with | some k => ds = [.vec k rows] | none => True) ∧ rows.length ≤ maxLen ∧ ∀ r ∈ rows, shpG Γ n e r)
      | .struct fs => tileG (shpG Γ n) fs ds
      | .ptr | .other | .arr .. | .iface | .map _ => True)
    | none => True

theorem tile_mono {q : TypeId → List D → Prop} {q' : TypeId → List D → Prop} (h : ∀ t ds, q t ds → q' t ds) : ∀ (fs : List Field) (ds : List D), tile q fs ds → tileG q' (fs.map fun f => (f.offset, f.type)) ds
  | [], _, h1 => h1
  | _ :: fs, _, ⟨a, b, h1, h2, h3⟩ => ⟨a, b, h _ _ h1, h2, tile_mono h fs b h3⟩

theorem shp_table {P : Program} {Γ : Ctx} (hΓ : CtxOk P Γ) : ∀ (n : Nat) (t : TypeId) (ds : List D), shp P n t ds → shpG Γ n t ds
  | 0, _, _, h => h
  | n + 1, t, ds, h => by
    unfold shpG
    cases hti : Γ.ty t with
    | none => trivial
    | some ti =>
      have hd := (hΓ.ty t ti hti).desc
      unfold shp at h
      simp only
      cases hdesc : ti.desc with
      | bool => rw [hdesc] at hd; have hd' : P.underlying t = some .bool := hd; rw [hd'] at h; exact h
      | int k => rw [hdesc] at hd; have hd' : P.underlying t = some (.int k) := hd; rw [hd'] at h; exact h
      | str => rw [hdesc] at hd; have hd' : P.underlying t = some .string := hd; rw [hd'] at h; exact h
      | slice e =>
        rw [hdesc] at hd; have hd' : P.underlying t = some (.slice e) := hd
        rw [hd'] at h
        obtain ⟨rows, h1, h2, h3⟩ := h
        refine ⟨rows, ?_, h2, fun r hr => shp_table hΓ n e r (h3 r hr)⟩
        cases hk : Γ.size e with
        | none => trivial
        | some k =>
          have : P.cellsOf e = k := by
            unfold Ctx.size at hk
            cases hte : Γ.ty e with
            | none => rw [hte] at hk; cases hk
            | some te =>
              rw [hte] at hk
              cases hk
              obtain ⟨i, z, h4, h5, _⟩ := (hΓ.ty e te hte).info
              simp [Program.cellsOf, h4, h5]
          rw [← this]; exact h1
      | struct fs =>
        rw [hdesc] at hd
        obtain ⟨flds, hd', rfl, _⟩ := hd
        rw [hd'] at h
        exact tile_mono (fun t ds => shp_table hΓ n t ds) _ _ h
      | ptr => trivial
      | iface => trivial
      | map => trivial
      | arr _ _ => trivial
      | other => trivial

/-- Rows of one shape, as things of one kind. -/
theorem rows_map {α : Type} {cells : α → List D} {ok : α → Prop} : ∀ {rows : List (List D)}, (∀ r ∈ rows, ∃ x, r = cells x ∧ ok x) → ∃ l : List α, rows = l.map cells ∧ ∀ x ∈ l, ok x
  | [], _ => ⟨[], rfl, by simp⟩
  | r :: rs, h => by
    obtain ⟨x, hx, ho⟩ := h r (by simp)
    obtain ⟨l, hl, ho'⟩ := rows_map (rows := rs) fun r hr => h r (by simp [hr])
    exact ⟨x :: l, by simp [hx, hl], by simpa using ⟨ho, ho'⟩⟩

end Go.Eng
namespace Go.Eng

def noOwn (o : Nat) : AV → Bool
  | .own n => n != o
  | _ => true
def noOwnT (o : Nat) : AT → Bool
  | .cs _ xs => xs.all (noOwn o)
  | .tup ts => ts.all fun t => t.2.all (noOwn o)
  | _ => true
def noOwnO (o : Nat) : AObj → Bool
  | .var cells _ => cells.all (noOwn o)
  | .lp L => L.env.all fun p => noOwnT o p.2
  | _ => true

section
variable {w : World} {S : Nat → Prop} {ρ : Where} {o n cc : Nat} {A : Option Addr}

abbrev spreadW (ρ : Where) (o : Nat) (A : Option Addr) (cc : Nat) : Where := fun m => if m = o then some (.slice A cc cc) else ρ m

theorem RepCap.spread {x : CapV} {u : Value} (hρ : ρ o = some (.slice A n cc)) (h : RepCap ρ w S x u) : RepCap (spreadW ρ o A cc) w S x u := by
  cases x with
  | d y => exact h
  | ptr m off =>
    obtain ⟨g, h1, h2⟩ := h
    refine ⟨g, ?_, h2⟩
    by_cases e : m = o
    · subst e; rw [hρ] at h1; cases h1
    · simp only [spreadW, if_neg e]; exact h1

theorem RepAV.spread {x : AV} {u : Value} (hno : noOwn o x = true) (hρ : ρ o = some (.slice A n cc)) (h : RepAV ρ w S x u) : RepAV (spreadW ρ o A cc) w S x u := by
  cases x with
  | d y => exact h
  | nils k => exact h
  | ptr m off =>
    obtain ⟨g, h1, h2⟩ := h
    refine ⟨g, ?_, h2⟩
    by_cases e : m = o
    · subst e; rw [hρ] at h1; cases h1
    · simp only [spreadW, if_neg e]; exact h1
  | own m =>
    have e : ¬ m = o := by simpa [noOwn] using hno
    refine ⟨?_, h.2⟩
    simp only [spreadW, if_neg e]; exact h.1
  | eptr m k i j =>
    obtain ⟨g, n', c', h1, h2⟩ := h
    by_cases e : m = o
    · subst e
      rw [hρ] at h1; cases h1
      exact ⟨g, cc, cc, by simp [spreadW], h2⟩
    · exact ⟨g, n', c', by simp only [spreadW, if_neg e]; exact h1, h2⟩
  | win m k lo n' =>
    obtain ⟨A1, m', c', A', h1, h2, h3⟩ := h
    by_cases e : m = o
    · subst e
      rw [hρ] at h1; cases h1
      exact ⟨A, cc, cc, A', by simp [spreadW], h2, h3⟩
    · exact ⟨A1, m', c', A', by simp only [spreadW, if_neg e]; exact h1, h2, h3⟩
  | wx m k lo n' =>
    obtain ⟨A1, c', A', h1, h2, h3⟩ := h
    by_cases e : m = o
    · subst e
      rw [hρ] at h1; cases h1
      exact ⟨A, _, A', by simp [spreadW], h2, h3⟩
    · exact ⟨A1, c', A', by simp only [spreadW, if_neg e]; exact h1, h2, h3⟩
  | yld m =>
    obtain ⟨g, h1, h2⟩ := h
    refine ⟨g, ?_, h2⟩
    by_cases e : m = o
    · subst e; rw [hρ] at h1; cases h1
    · simp only [spreadW, if_neg e]; exact h1
  | mph m =>
    obtain ⟨g, h1, h2⟩ := h
    refine ⟨g, ?_, h2⟩
    by_cases e : m = o
    · subst e; rw [hρ] at h1; cases h1
    · simp only [spreadW, if_neg e]; exact h1
  | vsl m _ =>
    obtain ⟨g, h1, h2⟩ := h
    refine ⟨g, ?_, h2⟩
    by_cases e : m = o
    · subst e; rw [hρ] at h1; cases h1
    · simp only [spreadW, if_neg e]; exact h1
  | clo f ks =>
    obtain ⟨vs, h1, h2⟩ := h
    exact ⟨vs, h1, h2.mono fun _ _ h => h.spread hρ⟩

theorem RepAVs.spread (hρ : ρ o = some (.slice A n cc)) : ∀ {xs : List AV} {us : List Value}, xs.all (noOwn o) = true → All2 (RepAV ρ w S) xs us → All2 (RepAV (spreadW ρ o A cc) w S) xs us
  | [], us, _, h => by cases h; exact .nil
  | x :: xs, us, hno, h => by
    simp only [List.all_cons, Bool.and_eq_true] at hno
    cases h with
    | cons h1 h2 => exact .cons (h1.spread hno.1 hρ) (RepAVs.spread hρ hno.2 h2)

theorem RepC.spread {g : Bool} {xs : List AV} {u : Value} (hρ : ρ o = some (.slice A n cc)) (hno : xs.all (noOwn o) = true) (h : RepC ρ w S g xs u) : RepC (spreadW ρ o A cc) w S g xs u := by
  cases g with
  | true => obtain ⟨us, h1, h2⟩ := h; exact ⟨us, h1, RepAVs.spread hρ hno h2⟩
  | false =>
    obtain ⟨x, rfl, h2⟩ := h
    exact ⟨x, rfl, h2.spread (by simpa using hno) hρ⟩

theorem RepT.spread {t : AT} {u : Value} (hρ : ρ o = some (.slice A n cc)) (hno : noOwnT o t = true) (h : RepT ρ w S t u) : RepT (spreadW ρ o A cc) w S t u := by
  cases t with
  | junk => trivial
  | undef => exact h
  | cs g xs => exact RepC.spread hρ hno h
  | tup ts =>
    obtain ⟨vs, e, h⟩ := h
    refine ⟨vs, e, ?_⟩
    clear e
    simp only [noOwnT] at hno
    induction ts generalizing vs with
    | nil => cases h; exact .nil
    | cons t ts ih =>
      simp only [List.all_cons, Bool.and_eq_true] at hno
      cases h with
      | cons h1 h2 => exact .cons (RepC.spread hρ hno.1 h1) (ih hno.2 _ h2)

/-- The spare cells of a row's block, as rows. -/
theorem RowBlk.spare {k g : Nat} {ety : TypeId} {rows : List (List D)} (h : RowBlk w S k ety rows g cc) : ∃ junk : List (List D), (∀ r ∈ junk, r.length = k) ∧ (rows ++ junk).length = cc ∧ RowBlk w S k ety (rows ++ junk) g cc := by
  obtain ⟨r1, r2, r3, cur, r4, r5, r7, r6⟩ := h
  have each : ∀ i, i < cc - rows.length → ∃ r : List D, r.length = k ∧ ∀ (j : Nat) (d : D), r[j]? = some d → ∃ u, cur[(rows.length + i) * k + j]? = some u ∧ Rep w S d u := fun i hi =>
    choose_get (p := fun j d => ∃ u, cur[(rows.length + i) * k + j]? = some u ∧ Rep w S d u) fun j hj => by
      have hlt : (rows.length + i) * k + j < cur.size := by rw [r5]; exact row_lt (by omega) hj
      obtain ⟨d, hd⟩ := r7 cur[(rows.length + i) * k + j] (Array.getElem_mem_toList hlt)
      exact ⟨d, _, Array.getElem?_eq_getElem hlt, hd⟩
  obtain ⟨junk, hl, hj⟩ := choose_get each
  refine ⟨junk, fun r hr => ?_, by simp; omega, ⟨by simp; omega, r2, r3, cur, r4, r5, r7, fun i j r d hi hjj => ?_⟩⟩
  · obtain ⟨i, hi⟩ := List.getElem?_of_mem hr
    exact (hj i r hi).1
  · by_cases hlt : i < rows.length
    · rw [List.getElem?_append_left hlt] at hi; exact r6 i j r d hi hjj
    · rw [List.getElem?_append_right (by omega)] at hi
      obtain ⟨u, hu, hru⟩ := (hj _ _ hi).2 j d hjj
      rw [show rows.length + (i - rows.length) = i by omega] at hu
      exact ⟨u, hu, hru⟩

end

def spreadE (o : Nat) (env : List (Nat × AT)) : List (Nat × AT) → Prop
  | [] => True
  | (t, x) :: r => noOwnT o x = true ∧ getE env t = x ∧ spreadE o env r
def spreadO (o : Nat) (objs : List (Nat × Option AObj)) : List (Nat × Option AObj) → Prop
  | [] => True
  | (_, none) :: _ => False
  | (n, some x) :: r => (!(n == o)) = true ∧ noOwnO o x = true ∧ getO objs n = some x ∧ spreadO o objs r

theorem spreadE_get {o : Nat} {env : List (Nat × AT)} : ∀ {env' : List (Nat × AT)}, spreadE o env env' → ∀ t, getE env' t = .junk ∨ (noOwnT o (getE env' t) = true ∧ getE env t = getE env' t)
  | [], _, t => .inl rfl
  | (t', x) :: r, h, t => by
    obtain ⟨h1, h2, h3⟩ := h
    simp only [getE]
    split
    · rename_i e; subst e; exact .inr ⟨h1, h2⟩
    · exact spreadE_get h3 t
theorem spreadO_get {o : Nat} {objs : List (Nat × Option AObj)} : ∀ {objs' : List (Nat × Option AObj)}, spreadO o objs objs' → ∀ n x, getO objs' n = some x → n ≠ o ∧ noOwnO o x = true ∧ getO objs n = some x
  | [], _, n, x, hx => by cases hx
  | (m, none) :: r, h, n, x, hx => h.elim
  | (m, some y) :: r, h, n, x, hx => by
    obtain ⟨h1, h2, h3, h4⟩ := h
    simp only [getO] at hx
    split at hx
    · rename_i e
      subst e
      cases hx
      exact ⟨by simpa using h1, h2, h3⟩
    · exact spreadO_get h4 n x hx

theorem RelE.spread {c : Base} {st : St} {t o k : Nat} {e : TypeId} {rows : List (List D)} {env' : List (Nat × AT)} {objs' : List (Nat × Option AObj)} {a : Act} {w : World}
    (hpin : ∀ h, c.R o ≠ some h) (h0 : getE st.env t = .cs false [.own o]) (h1 : getO st.objs o = some (.row k e rows true)) (hE : spreadE o st.env env') (hO : spreadO o st.objs objs') (h : RelE c st st.next a w) :
    ∃ junk : List (List D), (∀ r ∈ junk, r.length = k) ∧ RelE c ⟨st.nt, (t, .cs false [.wx o k 0 rows.length]) :: env', (o, some (.row k e (rows ++ junk) true)) :: objs', st.next⟩ st.next a w := by
  obtain ⟨ρ, S, hr, hf⟩ := h
  obtain ⟨hh, hρ, hk, h2⟩ := hr.obj o _ h1
  obtain ⟨A, cc, junk, e1, e2, e3, e4⟩ : ∃ A cc, ∃ junk : List (List D), hh = .slice A rows.length cc ∧ (∀ r ∈ junk, r.length = k) ∧ (rows ++ junk).length = cc ∧ ObjRep (spreadW ρ o A cc) w S (.slice A cc cc) (.row k e (rows ++ junk) true) := by
    rcases h2 with ⟨rfl, A, rfl⟩ | ⟨g, cc, hc0, rfl, hblk, hlive, _⟩
    · exact ⟨A, 0, [], rfl, by simp, rfl, ⟨by simp, .inl ⟨rfl, A, rfl⟩⟩⟩
    · obtain ⟨junk, j1, j2, j3⟩ := hblk.spare
      refine ⟨some ⟨g, 0, none⟩, cc, junk, rfl, j1, j2, ⟨fun r hr => ?_, .inr ⟨g, cc, hc0, by rw [j2], j3, hlive, fun hh => by cases hh⟩⟩⟩
      rcases List.mem_append.1 hr with hr | hr
      · exact hk r hr
      · exact j1 r hr
  subst e1
  have hb : blkOf (.slice A cc cc) = blkOf (.slice A rows.length cc) := by cases A <;> simp [blkOf]
  have hob : ∀ n x, getO ((o, some (.row k e (rows ++ junk) true)) :: objs') n = some x → (n = o ∧ x = .row k e (rows ++ junk) true) ∨ (n ≠ o ∧ noOwnO o x = true ∧ getO st.objs n = some x) := fun n x hx => by
    simp only [getO] at hx
    split at hx
    · rename_i en; cases hx; exact .inl ⟨en, rfl⟩
    · exact .inr (spreadO_get hO n x hx)
  have hold : ∀ n x h, getO ((o, some (.row k e (rows ++ junk) true)) :: objs') n = some x → spreadW ρ o A cc n = some h → ∃ x' h', getO st.objs n = some x' ∧ ρ n = some h' ∧ blkOf h = blkOf h' := fun n x h hx hh => by
    rcases hob n x hx with ⟨rfl, rfl⟩ | ⟨hn, _, h3⟩
    · simp only [spreadW, if_true] at hh
      cases hh
      exact ⟨_, _, h1, hρ, hb⟩
    · simp only [spreadW, if_neg hn] at hh
      exact ⟨_, _, h3, hh, rfl⟩
  refine ⟨junk, e2, spreadW ρ o A cc, S, ⟨hr.defers, hr.size, fun t' => ?_, fun n x hx => ?_, fun n n' x x' h h' b hx hx' hh hh' hb1 hb2 => ?_, fun n x h b hx hh hb1 => ?_, hr.os, hr.tape, hr.output, hr.hsize, hr.same, hr.lim, hr.sub, hr.foot, fun n h hh => ?_, hr.clim, hr.lay⟩, fun n hn => ?_⟩
  · simp only [getE]
    split
    · rename_i et
      subst et
      have ht := hr.env t'
      rw [h0] at ht
      obtain ⟨y, hy, hq⟩ := ht
      cases hy
      obtain ⟨q1, _⟩ := hq
      rw [hρ] at q1
      refine ⟨_, rfl, A, cc, A, by simp [spreadW], ?_, fun _ => ?_⟩
      · simpa using (Option.some.inj q1).symm
      · cases A <;> simp [add_zero]
    · rcases spreadE_get hE t' with h3 | ⟨h3, h4⟩
      · rw [h3]; trivial
      · have ht := hr.env t'
        rw [h4] at ht
        exact RepT.spread hρ h3 ht
  · rcases hob n x hx with ⟨rfl, rfl⟩ | ⟨hn, hno, h3⟩
    · exact ⟨_, by simp [spreadW], e4⟩
    · obtain ⟨h', q1, q2⟩ := hr.obj n x h3
      refine ⟨h', by simp only [spreadW, if_neg hn]; exact q1, ?_⟩
      cases x with
      | row k' e' rows' l => exact q2
      | it s pos => exact q2
      | ms kd ks => exact q2
      | lp L =>
        obtain ⟨g, q3, ⟨fn, tmps, D, q4, q5, q6⟩, q7⟩ := q2
        refine ⟨g, q3, ⟨fn, tmps, D, q4, q5, fun t => ?_⟩, q7⟩
        rcases getE_mem (l := L.env) (t := t) with h5 | h5
        · rw [h5]; trivial
        · exact RepT.spread hρ (List.all_eq_true.1 hno _ h5) (q6 t)
      | var cells l =>
        obtain ⟨g, cur, ety, q3, q4, q5, q6, q7⟩ := q2
        exact ⟨g, cur, ety, q3, q4, RepAVs.spread hρ hno q5, q6, q7⟩
  · obtain ⟨y, u, p1, p2, p3⟩ := hold _ _ _ hx hh
    obtain ⟨y', u', p1', p2', p3'⟩ := hold _ _ _ hx' hh'
    exact hr.sep _ _ _ _ _ _ b p1 p1' p2 p2' (p3 ▸ hb1) (p3' ▸ hb2)
  · obtain ⟨y, u, p1, p2, p3⟩ := hold _ _ _ hx hh
    exact hr.place _ _ _ _ p1 p2 (p3 ▸ hb1)
  · have hn : n ≠ o := fun en => by subst en; exact hpin _ hh
    simp only [spreadW, if_neg hn]
    exact hr.pin n h hh
  · have hn' : n ≠ o := fun en => by
      subst en
      rw [hf n hn] at hρ; cases hρ
    simp only [spreadW, if_neg hn']
    exact hf n hn

/-- A walk from where a row's room is known. -/
theorem awp_spread {E : Sit} {code : Code} {Q : Exit → St → Prop} {st : St} (t o : Nat) {k : Nat} {e : TypeId} {rows : List (List D)} (env' : List (Nat × AT)) (objs' : List (Nat × Option AObj)) (hp : E.pin.n ≤ o)
    (h0 : getE st.env t = .cs false [.own o]) (h1 : getO st.objs o = some (.row k e rows true)) (hE : spreadE o st.env env') (hO : spreadO o st.objs objs')
    (h : ∀ junk : List (List D), (∀ r ∈ junk, r.length = k) → AWp E code Q ⟨st.nt, (t, .cs false [.wx o k 0 rows.length]) :: env', (o, some (.row k e (rows ++ junk) true)) :: objs', st.next⟩) : AWp E code Q st := by
  intro c a w ho hr
  obtain ⟨junk, hj, hr'⟩ := RelE.spread (fun h hh => by have := (ho o h hh).1; omega) h0 h1 hE hO hr
  exact h junk hj c a w ho hr'

attribute [go_sem] spreadE spreadO noOwnT noOwnO noOwn
/-- A state that says less, objects renamed. -/
theorem vren {E : Sit} (σ : List (Nat × Nat)) (st' : St) {p : Code × (Exit → St → Prop)} {st : St} {h : Hold p} (hi : Same E.pin σ st st') (hk : AWpH E st' h) : AWpH E st h :=
  awp_weak (fun _ _ _ ho hr => hr.weak ho hi.weak) hk
/-- What a temporary holds, as data. -/
def St.dataT (st : St) (t : Nat) : Option St := match getE st.env t with
  | .cs false [x] => match avD (getO st.objs) x with
    | some d => some ⟨st.nt, (t, .cs false [.d d]) :: st.env, st.objs, st.next⟩
    | none => none
  | _ => none
theorem RelE.dataT {c : Base} {st st' : St} {t : Nat} {a : Act} {w : World} (hs : st.dataT t = some st') (h : RelE c st st.next a w) : RelE c st' st'.next a w := by
  unfold St.dataT at hs
  split at hs
  · rename_i x hcell
    split at hs
    · rename_i d hd
      cases hs
      obtain ⟨ρ, S, hr, hf⟩ := h
      have ht := hr.env t
      rw [hcell] at ht
      obtain ⟨y, hy, hA⟩ := ht
      cases hy
      refine ⟨ρ, S, { hr with env := fun n => ?_ }, hf⟩
      simp only [getE]
      split
      · rename_i en
        subst en
        exact ⟨_, rfl, avD_rep hr hd hA⟩
      · exact hr.env n
    · cases hs
  · cases hs
theorem vdataT {E : Sit} (t : Nat) {p : Code × (Exit → St → Prop)} {st st' : St} {h : Hold p} (hs : st.dataT t = some st') (hk : AWpH E st' h) : AWpH E st h :=
  awp_weak (fun _ _ _ _ => RelE.dataT hs) hk
end Go.Eng
