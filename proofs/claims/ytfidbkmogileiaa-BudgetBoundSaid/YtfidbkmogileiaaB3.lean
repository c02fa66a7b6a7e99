/- Plain laws: lists of what was spent that rise. -/
import Derived.Test.YtfidbkmogileiaaB2
namespace Go.Proofs.Ytfidbkmogileiaa
open Go.Eng
set_option linter.unusedSimpArgs false

theorem ordV_zero {a r a' r' : Int} : ordV a r a' r' = 0 ↔ a = a' ∧ r = r' := by
  unfold ordV; split
  · rename_i h; exact ⟨fun _ => h, fun _ => rfl⟩
  · rename_i h; exact ⟨fun h' => by split at h' <;> omega, fun h' => absurd h' h⟩

/-- They rise. -/
def Rises : List Sp → Prop
  | [] => True
  | x :: r => (∀ y ∈ r, ordV x.A x.R y.A y.R < 0) ∧ Rises r

theorem ordV_trans {a r a' r' a2 r2 : Int} (h : ordV a r a' r' < 0) (h' : ordV a' r' a2 r2 < 0) : ordV a r a2 r2 < 0 := by
  rw [ordV_lt] at *; omega

theorem rises_cons {p : Sp} : ∀ {l : List Sp}, okFrom (some p) l = true → (∀ y ∈ l, ordV p.A p.R y.A y.R < 0) ∧ Rises l
  | [], _ => ⟨by simp, trivial⟩
  | x :: r, h => by
    simp only [okFrom, Bool.and_eq_true, decide_eq_true_eq] at h
    obtain ⟨⟨_, h2⟩, h3⟩ := h
    obtain ⟨q1, q2⟩ := rises_cons h3
    refine ⟨fun y hy => ?_, q1, q2⟩
    rcases List.mem_cons.1 hy with rfl | hy
    · exact h2
    · exact ordV_trans h2 (q1 y hy)
theorem okFrom_all {p : Option Sp} : ∀ {l : List Sp}, okFrom p l = true → ∀ x ∈ l, okS x = true
  | [], _, x, hx => by simp at hx
  | y :: r, h, x, hx => by
    simp only [okFrom, Bool.and_eq_true] at h
    rcases List.mem_cons.1 hx with rfl | hx
    · exact h.1.1
    · exact okFrom_all h.2 x hx
theorem okFrom_rises {l : List Sp} (h : okFrom none l = true) : Rises l := by
  cases l with
  | nil => trivial
  | cons x r =>
    simp only [okFrom, Bool.and_eq_true] at h
    exact rises_cons h.2
theorem okFrom_of {p : Option Sp} : ∀ {l : List Sp}, (∀ x ∈ l, okS x = true) → Rises l → (∀ q, p = some q → ∀ x ∈ l, ordV q.A q.R x.A x.R < 0) → okFrom p l = true
  | [], _, _, _ => rfl
  | x :: r, h1, h2, h3 => by
    simp only [okFrom, Bool.and_eq_true]
    refine ⟨⟨h1 x (by simp), ?_⟩, okFrom_of (fun y hy => h1 y (by simp [hy])) h2.2 fun q hq y hy => ?_⟩
    · cases p with
      | none => rfl
      | some q => simpa using h3 q rfl x (by simp)
    · cases hq; exact h2.1 y hy
theorem checkV_zero {l : List Sp} (h : checkV l = 0) : okFrom none l = true ∧ l.length ≤ 1024 := by
  unfold checkV at h
  split at h
  · rename_i h1
    split at h
    · omega
    · exact ⟨h1, by omega⟩
  · omega
theorem checkV_of {l : List Sp} (h1 : okFrom none l = true) (h2 : l.length ≤ 1024) : checkV l = 0 := by
  simp [checkV, h1]; omega

theorem rises_get : ∀ {l : List Sp}, Rises l → ∀ (i j : Nat) (x y : Sp), i < j → l[i]? = some x → l[j]? = some y → ordV x.A x.R y.A y.R < 0
  | [], _, i, j, x, y, _, hx, _ => by simp at hx
  | z :: r, h, i, j, x, y, hij, hx, hy => by
    obtain ⟨j, rfl⟩ : ∃ j', j = j' + 1 := ⟨j - 1, by omega⟩
    simp only [List.getElem?_cons_succ] at hy
    cases i with
    | zero =>
      simp only [List.getElem?_cons_zero, Option.some.injEq] at hx
      subst hx
      exact h.1 y (List.mem_of_getElem? hy)
    | succ i =>
      simp only [List.getElem?_cons_succ] at hx
      exact rises_get h.2 i j x y (by omega) hx hy

def keyB (a r : Int) (x : Sp) : Bool := x.A == a && x.R == r
theorem keyB_iff {a r : Int} {x : Sp} : keyB a r x = true ↔ x.A = a ∧ x.R = r := by simp [keyB]
def cmpS (a r : Int) (x : Sp) : Int := ordV x.A x.R a r

theorem cmpS_mono {a r : Int} {l : List Sp} (h : Rises l) (i j : Nat) (x y : Sp) (hij : i < j) (hx : l[i]? = some x) (hy : l[j]? = some y) (hc : cmpS a r y < 0) : cmpS a r x < 0 :=
  ordV_trans (rises_get h i j x y hij hx hy) hc

/-- Where the search ends, if it hits, and if not. -/
theorem search_law {a r : Int} {l : List Sp} (h : Rises l) :
    (∃ i x, bs (cmpS a r) l 0 l.length = i ∧ bsHit (cmpS a r) l i = true ∧ l[i]? = some x ∧ keyB a r x = true) ∨
      ∃ i, bs (cmpS a r) l 0 l.length = i ∧ bsHit (cmpS a r) l i = false ∧ i ≤ l.length ∧ (∀ x ∈ l, keyB a r x = false) ∧ (∀ j x, j < i → l[j]? = some x → cmpS a r x < 0) ∧ (∀ j x, i ≤ j → l[j]? = some x → ¬ cmpS a r x < 0) := by
  obtain ⟨h1, h2, h3⟩ := bs_whole (cmpS_mono (a := a) (r := r) h)
  obtain ⟨i, hi⟩ : ∃ i, bs (cmpS a r) l 0 l.length = i := ⟨_, rfl⟩
  rw [hi] at h1 h2 h3
  have key0 : ∀ x, keyB a r x = true ↔ cmpS a r x = 0 := fun x => by rw [keyB_iff, cmpS, ordV_zero]
  cases hb : bsHit (cmpS a r) l i with
  | true =>
    unfold bsHit at hb
    cases hx : l[i]? with
    | none => rw [hx] at hb; cases hb
    | some x =>
      rw [hx] at hb
      exact .inl ⟨i, x, hi, by simp [bsHit, hx]; simpa using hb, hx, (key0 x).2 (by simpa using hb)⟩
  | false =>
    refine .inr ⟨i, hi, hb, h1, fun x hx => ?_, h2, h3⟩
    obtain ⟨j, hj⟩ := List.getElem?_of_mem hx
    cases hk : keyB a r x with
    | false => rfl
    | true =>
      exfalso
      have hc := (key0 x).1 hk
      by_cases hlt : j < i
      · have := h2 j x hlt hj; omega
      · by_cases he : j = i
        · subst he
          simp [bsHit, hj, hc] at hb
        · have hil : i < l.length := by have := (List.getElem?_eq_some_iff.1 hj).1; omega
          have h5 := rises_get h i j l[i] x (by omega) (List.getElem?_eq_getElem hil) hj
          have h6 := h3 i l[i] (Nat.le_refl _) (List.getElem?_eq_getElem hil)
          obtain ⟨rfl, rfl⟩ := keyB_iff.1 hk
          exact h6 h5

/-- The window that is on. -/
def onS (l : List Sp) (W a r now : Int) : Option Sp := match l.find? (keyB a r) with
  | some x => if W ≤ now - x.S then none else some x
  | none => none
theorem find_at {a r : Int} {l : List Sp} (h : Rises l) {i : Nat} {x : Sp} (hx : l[i]? = some x) (hk : keyB a r x = true) : l.find? (keyB a r) = some x := by
  rw [List.find?_eq_some_iff_getElem]
  have hil := (List.getElem?_eq_some_iff.1 hx).1
  refine ⟨hk, i, hil, Option.some.inj ((List.getElem?_eq_getElem hil).symm.trans hx), fun j hj => ?_⟩
  have := rises_get h j i l[j] x hj (List.getElem?_eq_getElem (by omega)) hx
  obtain ⟨rfl, rfl⟩ := keyB_iff.1 hk
  cases hk2 : keyB x.A x.R l[j] with
  | false => rfl
  | true => obtain ⟨e1, e2⟩ := keyB_iff.1 hk2; rw [ordV_lt] at this; omega
theorem find_none {a r : Int} {l : List Sp} (h : ∀ x ∈ l, keyB a r x = false) : l.find? (keyB a r) = none :=
  List.find?_eq_none.2 fun x hx => by simp [h x hx]

def leftV (l : List Sp) (M W a r now : Int) : Int := if M = 0 then 1099511627776 else match onS l W a r now with
  | some x => max 0 (M - x.M)
  | none => M

/-- One in its place. -/
def put (x : Sp) : List Sp → List Sp
  | [] => [x]
  | y :: r => if cmpS x.A x.R y < 0 then y :: put x r else if keyB x.A x.R y then x :: r else x :: y :: r

theorem put_skip {x : Sp} : ∀ {l : List Sp} {i : Nat}, i ≤ l.length → (∀ j y, j < i → l[j]? = some y → cmpS x.A x.R y < 0) → put x l = l.take i ++ put x (l.drop i)
  | l, 0, _, _ => by simp
  | [], i + 1, h, _ => by simp at h
  | y :: r, i + 1, h, hs => by
    have h0 := hs 0 y (by omega) rfl
    simp only [put, if_pos h0, List.take_succ_cons, List.drop_succ_cons, List.cons_append]
    rw [put_skip (by simpa using h) fun j z hj hz => hs (j + 1) z (by omega) (by simpa using hz)]
theorem put_hit {x y : Sp} {l : List Sp} (h : Rises l) {i : Nat} (hy : l[i]? = some y) (hk : keyB x.A x.R y = true) : put x l = l.set i x := by
  have hil := (List.getElem?_eq_some_iff.1 hy).1
  obtain ⟨e1, e2⟩ := keyB_iff.1 hk
  rw [put_skip (i := i) (by omega) fun j z hj hz => by
    have := rises_get h j i z y hj hz hy
    rw [cmpS, ← e1, ← e2]; exact this, drop_at hy]
  have h0 : ¬ cmpS x.A x.R y < 0 := by
    have : cmpS x.A x.R y = 0 := by rw [cmpS, ordV_zero]; exact ⟨e1, e2⟩
    omega
  simp only [put, if_neg h0, hk, if_true]
  rw [List.set_eq_take_append_cons_drop, if_pos hil]
theorem put_miss {x : Sp} {l : List Sp} {i : Nat} (hi : i ≤ l.length) (h1 : ∀ j y, j < i → l[j]? = some y → cmpS x.A x.R y < 0) (h2 : ∀ j y, i ≤ j → l[j]? = some y → ¬ cmpS x.A x.R y < 0) (h3 : ∀ y ∈ l, keyB x.A x.R y = false) :
    put x l = l.take i ++ x :: l.drop i := by
  rw [put_skip hi h1]
  congr 1
  cases hd : l.drop i with
  | nil => rfl
  | cons y r =>
    have hy : l[i]? = some y := by
      have : (l.drop i)[0]? = some y := by rw [hd]; rfl
      simpa using this
    simp only [put, if_neg (h2 i y (Nat.le_refl _) hy), h3 y (List.mem_of_getElem? hy)]
    rfl
theorem put_filter {x : Sp} : ∀ {l : List Sp}, Rises l → put x l = l.filter (fun y => decide (cmpS x.A x.R y < 0)) ++ x :: l.filter (fun y => !decide (cmpS x.A x.R y < 0) && !keyB x.A x.R y)
  | [], _ => rfl
  | y :: r, h => by
    by_cases h0 : cmpS x.A x.R y < 0
    · simp only [put, if_pos h0]
      rw [put_filter h.2]
      simp [h0]
    · have hr : ∀ z ∈ r, ¬ cmpS x.A x.R z < 0 := fun z hz hc => h0 (ordV_trans (h.1 z hz) hc)
      have hk : ∀ z ∈ r, keyB x.A x.R z = false := fun z hz => by
        cases hkz : keyB x.A x.R z with
        | false => rfl
        | true =>
          obtain ⟨e1, e2⟩ := keyB_iff.1 hkz
          have := h.1 z hz
          rw [e1, e2] at this
          exact absurd this h0
      have e1 : r.filter (fun y => decide (cmpS x.A x.R y < 0)) = [] := List.filter_eq_nil_iff.2 fun z hz => by simp [hr z hz]
      have e2 : r.filter (fun y => !decide (cmpS x.A x.R y < 0) && !keyB x.A x.R y) = r := List.filter_eq_self.2 fun z hz => by simp [hr z hz, hk z hz]
      simp only [put, if_neg h0]
      cases hky : keyB x.A x.R y with
      | true => simp [h0, hky, e1, e2]
      | false => simp [h0, hky, e1, e2]

def begun (l : List Sp) (W a r now : Int) : Sp := match onS l W a r now with
  | some s => ⟨a, r, s.S, s.M + 1⟩
  | none => ⟨a, r, now, 1⟩
/-- What is spent. -/
def spendV (l : List Sp) (M W a r now : Int) : List Sp × Int :=
  if M = 0 then (l, 0) else if leftV l M W a r now = 0 then ([], 170)
  else if 1024 < (put (begun l W a r now) l).length then ([], 2) else (put (begun l W a r now) l, 0)

def rmB (M W : Int) : Bool := numB M && numB W && (M == 0 || decide (0 < W))
def mayB (M W r a now : Int) : Bool := rmB M W && ruleB r && numB a && numB now

def LeftV (l : List Sp) (M W r a now : Int) : Int := if checkV l ≠ 0 ∨ mayB M W r a now = false then 0 else leftV l M W a r now
def SpendV (l : List Sp) (M W r a now : Int) : List Sp × Int := if checkV l ≠ 0 then ([], checkV l) else if mayB M W r a now = false then ([], 1) else spendV l M W a r now
end Go.Proofs.Ytfidbkmogileiaa
