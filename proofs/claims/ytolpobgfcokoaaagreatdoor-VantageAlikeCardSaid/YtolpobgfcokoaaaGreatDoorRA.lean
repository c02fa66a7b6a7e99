
/- Lists that rise by a key: where one stands, with one in its place, found by its key. Nets as data; their orders. -/
import Derived.Test.YtolpobgfcokoaaaGreatDoorZE
open Nat renaming reduceLT → rn1, reduceLeDiff → rn2, reduceEqDiff → rn3, reduceAdd → rn4, reduceMul → rn5, reduceSub → rn6, reduceBEq → rn7
open Int renaming reduceLT → ri1, reduceLE → ri2, reduceEq → ri3, reduceBEq → ri4, reduceNeg → ri5
namespace Go.Proofs.YtolpobgfcokoaaaGreatDoor
open Go.Eng
set_option linter.unusedSimpArgs false
set_option maxRecDepth 10000

theorem u64_wrap {n : Int} (h1 : 0 ≤ n) (h2 : n ≤ 9223372036854775807) : IntKind.u64.wrap n = n := by
  simp [IntKind.wrap, IntKind.signed, IntKind.bits]
  omega

/-- Where the binary search ends. -/
def bs {α : Type} (c : α → Int) (l : List α) (lo hi : Nat) : Nat :=
  if lo < hi then match l[(lo + hi) / 2]? with
    | some x => if c x < 0 then bs c l ((lo + hi) / 2 + 1) hi else bs c l lo ((lo + hi) / 2)
    | none => lo
  else lo
termination_by hi - lo

def bsHit {α : Type} (c : α → Int) (l : List α) (i : Nat) : Bool := match l[i]? with
  | some x => c x == 0
  | none => false

structure BsInv {α : Type} (c : α → Int) (l : List α) where
  lo : Nat
  hi : Nat
  lh : lo ≤ hi
  hl : hi ≤ l.length
  eq : bs c l 0 l.length = bs c l lo hi

/-- Where the rows' compares rise, the search ends where they turn from below 0. -/
theorem bs_law {α : Type} {c : α → Int} {l : List α} (hs : ∀ (i j : Nat) (x y : α), i < j → l[i]? = some x → l[j]? = some y → c y < 0 → c x < 0) :
    ∀ (d lo hi : Nat), hi - lo = d → lo ≤ hi → hi ≤ l.length → (∀ j x, j < lo → l[j]? = some x → c x < 0) → (∀ j x, hi ≤ j → l[j]? = some x → ¬ c x < 0) →
      bs c l lo hi ≤ l.length ∧ (∀ j x, j < bs c l lo hi → l[j]? = some x → c x < 0) ∧ (∀ j x, bs c l lo hi ≤ j → l[j]? = some x → ¬ c x < 0) := by
  intro d
  induction d using Nat.strongRecOn with
  | _ d ih =>
    intro lo hi hd h1 h2 h3 h4
    by_cases hlt : lo < hi
    · obtain ⟨mid, hm⟩ : ∃ mid, (lo + hi) / 2 = mid := ⟨_, rfl⟩
      obtain ⟨x, hx⟩ : ∃ x, l[mid]? = some x := ⟨_, List.getElem?_eq_getElem (by omega)⟩
      rw [bs, if_pos hlt, hm, hx]
      simp only
      split
      · rename_i cc
        refine ih (hi - (mid + 1)) (by omega) _ _ rfl (by omega) h2 (fun j y hj hy => ?_) h4
        by_cases hjm : j = mid
        · subst hjm; rw [hx] at hy; cases hy; exact cc
        · exact hs j mid y x (by omega) hy hx cc
      · rename_i cc
        refine ih (mid - lo) (by omega) _ _ rfl (by omega) (by omega) h3 (fun j y hj hy => ?_)
        by_cases hjm : j = mid
        · subst hjm; rw [hx] at hy; cases hy; exact cc
        · exact fun hc => cc (hs mid j x y (by omega) hx hy hc)
    · rw [bs, if_neg hlt]
      exact ⟨by omega, h3, fun j y hj hy => h4 j y (by omega) hy⟩
theorem bs_whole {α : Type} {c : α → Int} {l : List α} (hs : ∀ (i j : Nat) (x y : α), i < j → l[i]? = some x → l[j]? = some y → c y < 0 → c x < 0) :
    bs c l 0 l.length ≤ l.length ∧ (∀ j x, j < bs c l 0 l.length → l[j]? = some x → c x < 0) ∧ (∀ j x, bs c l 0 l.length ≤ j → l[j]? = some x → ¬ c x < 0) :=
  bs_law hs l.length 0 l.length (by omega) (by omega) (Nat.le_refl _) (fun j x hj _ => by omega) (fun j x hj hx => by have := (List.getElem?_eq_some_iff.1 hx).1; omega)

/-- An order of keys. -/
structure KO (κ : Type) where
  cmp : κ → κ → Int
  eq0 : ∀ {a b}, cmp a b = 0 ↔ a = b
  flip : ∀ {a b}, cmp a b < 0 ↔ 0 < cmp b a
  tr : ∀ {a b c}, cmp a b < 0 → cmp b c < 0 → cmp a c < 0

section
variable {α κ : Type} {o : KO κ} {key : α → κ}

theorem KO.irr (o : KO κ) {a : κ} (h : o.cmp a a < 0) : False := by
  have := o.eq0.2 (rfl : a = a); omega
theorem KO.as (o : KO κ) {a b : κ} (h : o.cmp a b < 0) : ¬ o.cmp b a < 0 := fun h' => o.irr (o.tr h h')
theorem KO.tri (o : KO κ) (a b : κ) : o.cmp a b < 0 ∨ a = b ∨ o.cmp b a < 0 := by
  rcases Int.lt_trichotomy (o.cmp a b) 0 with h | h | h
  · exact .inl h
  · exact .inr (.inl (o.eq0.1 h))
  · exact .inr (.inr (o.flip.2 h))
theorem KO.ne (o : KO κ) {a b : κ} (h : o.cmp a b < 0) : a ≠ b := fun e => by subst e; exact o.irr h

/-- The list rises. -/
def Ris (o : KO κ) (key : α → κ) (l : List α) : Prop := l.Pairwise fun a b => o.cmp (key a) (key b) < 0
theorem ris_at {l : List α} (h : Ris o key l) {i j : Nat} {x y : α} (hij : i < j) (hx : l[i]? = some x) (hy : l[j]? = some y) : o.cmp (key x) (key y) < 0 := by
  obtain ⟨hi, rfl⟩ := List.getElem?_eq_some_iff.1 hx
  obtain ⟨hj, rfl⟩ := List.getElem?_eq_some_iff.1 hy
  exact List.pairwise_iff_getElem.1 h i j hi hj hij
theorem ris_of {l : List α} (h : ∀ (i : Nat) (x y : α), l[i]? = some x → l[i + 1]? = some y → o.cmp (key x) (key y) < 0) : Ris o key l := by
  refine List.pairwise_iff_getElem.2 fun i j hi hj hij => ?_
  obtain ⟨d, rfl⟩ : ∃ d, j = i + 1 + d := ⟨j - (i + 1), by omega⟩
  clear hij
  induction d with
  | zero => exact h i _ _ (List.getElem?_eq_getElem hi) (List.getElem?_eq_getElem hj)
  | succ d ih =>
    have hj' : i + 1 + d < l.length := by omega
    exact o.tr (ih hj') (h (i + 1 + d) _ _ (List.getElem?_eq_getElem hj') (List.getElem?_eq_getElem hj))
theorem ris_append {A B : List α} : Ris o key (A ++ B) ↔ Ris o key A ∧ Ris o key B ∧ ∀ x ∈ A, ∀ y ∈ B, o.cmp (key x) (key y) < 0 := List.pairwise_append
theorem ris_cons {r : α} {B : List α} : Ris o key (r :: B) ↔ (∀ y ∈ B, o.cmp (key r) (key y) < 0) ∧ Ris o key B := List.pairwise_cons

def posK (o : KO κ) (key : α → κ) (l : List α) (k : κ) : Nat := bs (fun x => o.cmp (key x) k) l 0 l.length
def hitK (o : KO κ) (key : α → κ) (l : List α) (k : κ) : Bool := bsHit (fun x => o.cmp (key x) k) l (posK o key l k)
/-- With one in its place. -/
def withK (o : KO κ) (key : α → κ) (l : List α) (x : α) : List α := if hitK o key l (key x) then l.set (posK o key l (key x)) x else l.take (posK o key l (key x)) ++ x :: l.drop (posK o key l (key x))
theorem hitK_lt {l : List α} {k : κ} (h : hitK o key l k = true) : posK o key l k < l.length := by
  unfold hitK bsHit at h
  split at h
  · rename_i e; exact (List.getElem?_eq_some_iff.1 e).1
  · cases h
theorem bsK_le (c : α → Int) (l : List α) : ∀ (d lo hi : Nat), hi - lo = d → lo ≤ hi → bs c l lo hi ≤ hi := by
  intro d
  induction d using Nat.strongRecOn with
  | _ d ih =>
    intro lo hi hd h1
    rw [bs]
    split
    · split
      · split
        · exact ih (hi - ((lo + hi) / 2 + 1)) (by omega) _ _ rfl (by omega)
        · exact Nat.le_trans (ih ((lo + hi) / 2 - lo) (by omega) _ _ rfl (by omega)) (by omega)
      · omega
    · exact h1
theorem posK_le (l : List α) (k : κ) : posK o key l k ≤ l.length := bsK_le _ l l.length 0 l.length (by omega) (by omega)
theorem withK_len (l : List α) (x : α) : (withK o key l x).length ≤ l.length + 1 := by
  unfold withK
  split
  · simp
  · simp; omega
theorem placeK {l : List α} (hr : Ris o key l) (k : κ) : ∃ A B, (l = A ++ B ∧ hitK o key l k = false ∧ posK o key l k = A.length ∧ (∀ x ∈ A, o.cmp (key x) k < 0) ∧ ∀ x ∈ B, o.cmp k (key x) < 0) ∨
    ∃ x, l = A ++ x :: B ∧ hitK o key l k = true ∧ posK o key l k = A.length ∧ (∀ x ∈ A, o.cmp (key x) k < 0) ∧ (∀ x ∈ B, o.cmp k (key x) < 0) ∧ key x = k := by
  obtain ⟨h1, h2, h3⟩ := bs_whole (c := fun x => o.cmp (key x) k) (l := l) fun i j x y hij hx hy hc => o.tr (ris_at hr hij hx hy) hc
  have e : bs (fun x => o.cmp (key x) k) l 0 l.length = posK o key l k := rfl
  rw [e] at h1 h2 h3
  obtain ⟨p, hp⟩ : ∃ p, posK o key l k = p := ⟨_, rfl⟩
  rw [hp] at h1 h2 h3
  have hA : ∀ x ∈ l.take p, o.cmp (key x) k < 0 := fun x hx => by
    obtain ⟨j, hj⟩ := List.mem_iff_getElem?.1 hx
    rw [List.getElem?_take] at hj
    split at hj
    · exact h2 j x (by omega) hj
    · cases hj
  have hB : ∀ x ∈ l.drop p, ¬ o.cmp (key x) k < 0 := fun x hx => by
    obtain ⟨j, hj⟩ := List.mem_iff_getElem?.1 hx
    rw [List.getElem?_drop] at hj
    exact h3 (p + j) x (by omega) hj
  have hl : l.take p ++ l.drop p = l := List.take_append_drop p l
  have hrd : Ris o key (l.drop p) := (ris_append.1 (hl.symm ▸ hr)).2.1
  cases hd : l.drop p with
  | nil =>
    refine ⟨l.take p, [], .inl ⟨by rw [List.append_nil, ← hl, hd, List.append_nil, List.take_take, Nat.min_self], ?_, by rw [hp, List.length_take]; omega, hA, by simp⟩⟩
    have : l[p]? = none := by
      rw [List.getElem?_eq_none_iff]
      have := congrArg List.length hd
      simp at this; omega
    unfold hitK bsHit
    rw [hp, this]
  | cons x r =>
    have hx : l[p]? = some x := by
      have : (l.drop p)[0]? = some x := by rw [hd]; rfl
      rwa [List.getElem?_drop] at this
    rw [hd] at hrd hB
    have hxr := (ris_cons.1 hrd).1
    rcases o.tri (key x) k with h | h | h
    · exact absurd h (hB x (List.mem_cons_self ..))
    · refine ⟨l.take p, r, .inr ⟨x, by rw [← hd, hl], ?_, by rw [hp, List.length_take]; omega, hA, fun y hy => by rw [← h]; exact hxr y hy, h⟩⟩
      unfold hitK bsHit
      rw [hp, hx]
      simp [o.eq0.2 h]
    · refine ⟨l.take p, x :: r, .inl ⟨by rw [← hd, hl], ?_, by rw [hp, List.length_take]; omega, hA, fun y hy => ?_⟩⟩
      · unfold hitK bsHit
        rw [hp, hx]
        have : ¬ o.cmp (key x) k = 0 := fun e => by have := o.flip.1 h; omega
        simpa using this
      · rcases List.mem_cons.1 hy with rfl | hy
        · exact h
        · exact o.tr h (hxr y hy)
theorem with_law {l : List α} (hr : Ris o key l) (r : α) : ∃ A B, withK o key l r = A ++ r :: B ∧ (∀ x ∈ A, o.cmp (key x) (key r) < 0) ∧ (∀ x ∈ B, o.cmp (key r) (key x) < 0) ∧ Ris o key A ∧ Ris o key B ∧
    ((l = A ++ B ∧ hitK o key l (key r) = false) ∨ ∃ x, l = A ++ x :: B ∧ key x = key r ∧ hitK o key l (key r) = true) := by
  obtain ⟨A, B, ⟨h1, h2, h3, h4, h5⟩ | ⟨x, h1, h2, h3, h4, h5, h6⟩⟩ := placeK hr (key r)
  · subst h1
    have hra := (ris_append.1 hr)
    refine ⟨A, B, ?_, h4, h5, hra.1, hra.2.1, .inl ⟨rfl, h2⟩⟩
    unfold withK
    rw [if_neg (by simp [h2]), h3]
    simp
  · subst h1
    have hra := (ris_append.1 hr)
    refine ⟨A, B, ?_, h4, h5, hra.1, (ris_cons.1 hra.2.1).2, .inr ⟨x, rfl, h6, h2⟩⟩
    unfold withK
    rw [if_pos h2, h3]
    simp
theorem with_ris {l : List α} (hr : Ris o key l) (r : α) : Ris o key (withK o key l r) := by
  obtain ⟨A, B, h1, h2, h3, h4, h5, _⟩ := with_law hr r
  rw [h1]
  exact ris_append.2 ⟨h4, ris_cons.2 ⟨h3, h5⟩, fun x hx y hy => by
    rcases List.mem_cons.1 hy with rfl | hy
    · exact h2 x hx
    · exact o.tr (h2 x hx) (h3 y hy)⟩
theorem mem_with {l : List α} (hr : Ris o key l) {r x : α} : x ∈ withK o key l r ↔ x = r ∨ (x ∈ l ∧ key x ≠ key r) := by
  obtain ⟨A, B, h1, h2, h3, _, _, h⟩ := with_law hr r
  have hA : ∀ y ∈ A, key y ≠ key r := fun y hy => o.ne (h2 y hy)
  have hB : ∀ y ∈ B, key y ≠ key r := fun y hy e => o.ne (h3 y hy) e.symm
  rw [h1]
  rcases h with ⟨rfl, _⟩ | ⟨y, rfl, hp, _⟩
  · simp only [List.mem_append, List.mem_cons]
    constructor
    · rintro (h | h | h)
      · exact .inr ⟨.inl h, hA x h⟩
      · exact .inl h
      · exact .inr ⟨.inr h, hB x h⟩
    · rintro (h | ⟨h | h, _⟩)
      · exact .inr (.inl h)
      · exact .inl h
      · exact .inr (.inr h)
  · simp only [List.mem_append, List.mem_cons]
    constructor
    · rintro (h | h | h)
      · exact .inr ⟨.inl h, hA x h⟩
      · exact .inl h
      · exact .inr ⟨.inr (.inr h), hB x h⟩
    · rintro (h | ⟨h | h | h, hn⟩)
      · exact .inr (.inl h)
      · exact .inl h
      · subst h; exact absurd hp hn
      · exact .inr (.inr h)
theorem with_length {l : List α} (hr : Ris o key l) (r : α) : (withK o key l r).length = l.length + if hitK o key l (key r) then 0 else 1 := by
  obtain ⟨A, B, h1, h2, h3, _, _, h⟩ := with_law hr r
  rcases h with ⟨rfl, hh⟩ | ⟨y, rfl, hp, hh⟩
  · rw [h1, hh]; simp; omega
  · rw [h1, hh]; simp
theorem hitK_iff {l : List α} (hr : Ris o key l) (k : κ) : hitK o key l k = true ↔ ∃ x ∈ l, key x = k := by
  obtain ⟨A, B, ⟨rfl, h2, _, h4, h5⟩ | ⟨x, rfl, h2, _, _, _, h6⟩⟩ := placeK hr k
  · rw [h2]
    constructor
    · intro h; cases h
    · rintro ⟨x, hx, hp⟩
      rcases List.mem_append.1 hx with hx | hx
      · exact absurd hp (o.ne (h4 x hx))
      · exact absurd hp.symm (o.ne (h5 x hx))
  · exact ⟨fun _ => ⟨x, by simp, h6⟩, fun _ => h2⟩
theorem ris_key {l : List α} (hr : Ris o key l) {x y : α} (hx : x ∈ l) (hy : y ∈ l) (h : key x = key y) : x = y := by
  obtain ⟨i, hi⟩ := List.mem_iff_getElem?.1 hx
  obtain ⟨j, hj⟩ := List.mem_iff_getElem?.1 hy
  rcases Nat.lt_trichotomy i j with h1 | h1 | h1
  · exact absurd h (o.ne (ris_at hr h1 hi hj))
  · subst h1; rw [hi] at hj; cases hj; rfl
  · exact absurd h.symm (o.ne (ris_at hr h1 hj hi))
/-- Lists that rise and hold the same are the same. -/
theorem ris_ext : ∀ {l m : List α}, Ris o key l → Ris o key m → (∀ x, x ∈ l ↔ x ∈ m) → l = m
  | [], [], _, _, _ => rfl
  | [], y :: m, _, _, h => absurd ((h y).2 (List.mem_cons_self ..)) (by simp)
  | x :: l, [], _, _, h => absurd ((h x).1 (List.mem_cons_self ..)) (by simp)
  | x :: l, y :: m, hl, hm, h => by
    obtain ⟨hl2, hl1⟩ := ris_cons.1 hl
    obtain ⟨hm2, hm1⟩ := ris_cons.1 hm
    have e : x = y := by
      rcases List.mem_cons.1 ((h x).1 (List.mem_cons_self ..)) with e | e
      · exact e
      · rcases List.mem_cons.1 ((h y).2 (List.mem_cons_self ..)) with e' | e'
        · exact e'.symm
        · exact absurd (hl2 y e') (o.as (hm2 x e))
    subst e
    congr 1
    refine ris_ext hl1 hm1 fun z => ?_
    constructor
    · intro hz
      rcases List.mem_cons.1 ((h z).1 (List.mem_cons_of_mem _ hz)) with e | e
      · subst e; exact absurd (hl2 z hz) (fun h => o.irr h)
      · exact e
    · intro hz
      rcases List.mem_cons.1 ((h z).2 (List.mem_cons_of_mem _ hz)) with e | e
      · subst e; exact absurd (hm2 z hz) (fun h => o.irr h)
      · exact e

/-! ### Found by a key -/
def findK (o : KO κ) (key : α → κ) (l : List α) (k : κ) : Option α := l.find? fun y => o.cmp (key y) k == 0
theorem find_some {l : List α} {k : κ} {x : α} (h : findK o key l k = some x) : x ∈ l ∧ key x = k := by
  unfold findK at h
  exact ⟨List.mem_of_find?_eq_some h, o.eq0.1 (by simpa using List.find?_some h)⟩
theorem find_none {l : List α} {k : κ} : findK o key l k = none ↔ ∀ x ∈ l, key x ≠ k := by
  unfold findK
  rw [List.find?_eq_none]
  exact ⟨fun h x hx e => h x hx (by simpa using o.eq0.2 e), fun h x hx e => h x hx (o.eq0.1 (by simpa using e))⟩
theorem find_mem {l : List α} (hr : Ris o key l) {x : α} (hx : x ∈ l) : findK o key l (key x) = some x := by
  cases h : findK o key l (key x) with
  | none => exact absurd rfl (find_none.1 h x hx)
  | some y =>
    obtain ⟨h1, h2⟩ := find_some h
    rw [ris_key hr h1 hx h2]
theorem find_iff {l : List α} (hr : Ris o key l) {k : κ} {x : α} : findK o key l k = some x ↔ x ∈ l ∧ key x = k :=
  ⟨find_some, fun ⟨h1, h2⟩ => by rw [← h2]; exact find_mem hr h1⟩
theorem find_with {l : List α} (hr : Ris o key l) (r : α) : findK o key (withK o key l r) (key r) = some r := find_mem (with_ris hr r) ((mem_with hr).2 (.inl rfl))
theorem find_other {l : List α} (hr : Ris o key l) (r : α) {k : κ} (hk : k ≠ key r) : findK o key (withK o key l r) k = findK o key l k := by
  apply Option.ext
  intro x
  rw [find_iff (with_ris hr r), find_iff hr, mem_with hr]
  constructor
  · rintro ⟨rfl | ⟨h1, _⟩, h2⟩
    · exact absurd h2.symm hk
    · exact ⟨h1, h2⟩
  · rintro ⟨h1, h2⟩
    exact ⟨.inr ⟨h1, fun e => hk (h2 ▸ e)⟩, h2⟩
theorem hit_find {l : List α} (hr : Ris o key l) (k : κ) : hitK o key l k = (findK o key l k).isSome := by
  cases h : findK o key l k with
  | none =>
    refine Bool.eq_false_iff.2 fun hh => ?_
    obtain ⟨x, hx, e⟩ := (hitK_iff hr k).1 hh
    exact find_none.1 h x hx e
  | some x =>
    obtain ⟨h1, h2⟩ := find_some h
    exact (hitK_iff hr k).2 ⟨x, h1, h2⟩
/-- Put again as it is, it changes nothing. -/
theorem with_self {l : List α} (hr : Ris o key l) {r : α} (h : r ∈ l) : withK o key l r = l := by
  refine ris_ext (with_ris hr r) hr fun x => ?_
  rw [mem_with hr]
  constructor
  · rintro (rfl | ⟨h1, _⟩)
    · exact h
    · exact h1
  · intro hx
    by_cases hp : key x = key r
    · exact .inl (ris_key hr hx h hp)
    · exact .inr ⟨hx, hp⟩
/-- What is put in the place of another takes it. -/
theorem with_over {l : List α} (hr : Ris o key l) {a b : α} (h : key a = key b) : withK o key (withK o key l a) b = withK o key l b := by
  have ha := with_ris hr a
  refine ris_ext (with_ris ha b) (with_ris hr b) fun x => ?_
  rw [mem_with ha, mem_with hr, mem_with hr]
  constructor
  · rintro (rfl | ⟨rfl | ⟨h1, h2⟩, h3⟩)
    · exact .inl rfl
    · exact absurd h h3
    · exact .inr ⟨h1, h3⟩
  · rintro (rfl | ⟨h1, h3⟩)
    · exact .inl rfl
    · exact .inr ⟨.inr ⟨h1, fun h' => h3 (h'.trans h)⟩, h3⟩

/-! ### Without one -/
def dropK (o : KO κ) (key : α → κ) (l : List α) (k : κ) : List α := l.filter fun x => !(o.cmp (key x) k == 0)
theorem mem_dropK {l : List α} {k : κ} {x : α} : x ∈ dropK o key l k ↔ x ∈ l ∧ key x ≠ k := by
  unfold dropK
  rw [List.mem_filter]
  simp [o.eq0]
theorem dropK_ris {l : List α} (hr : Ris o key l) (k : κ) : Ris o key (dropK o key l k) := List.Pairwise.filter _ hr
theorem dropK_with {l : List α} (hr : Ris o key l) {r : α} (h : findK o key l (key r) = none) : dropK o key (withK o key l r) (key r) = l := by
  refine ris_ext (dropK_ris (with_ris hr r) _) hr fun x => ?_
  rw [mem_dropK, mem_with hr]
  constructor
  · rintro ⟨rfl | ⟨h1, _⟩, h2⟩
    · exact absurd rfl h2
    · exact h1
  · intro hx
    have := find_none.1 h x hx
    exact ⟨.inr ⟨hx, this⟩, this⟩
end

/-! ### Keys -/
def koI : KO Int := ⟨cmpI, cmpI_eq, by intro a b; rw [cmpI_lt]; unfold cmpI; constructor
                                       · intro h; rw [if_neg (by omega), if_pos h]; omega
                                       · intro h; split at h
                                         · omega
                                         · split at h <;> omega, by intro a b c h h'; rw [cmpI_lt] at *; omega⟩
end Go.Proofs.YtolpobgfcokoaaaGreatDoor
namespace Go.Proofs.YtolpobgfcokoaaaGreatDoor
open Go.Eng
set_option linter.unusedSimpArgs false
set_option maxRecDepth 10000

/-- A server: Addr, Zones. -/
structure Sv where
  A : Int
  Z : List Zn
  deriving DecidableEq
def Sv.cells (s : Sv) : List D := [dI s.A, zonesD s.Z]
/-- A bend: Seen, From, To. -/
structure Bn where
  S : Int
  F : Int
  T : Int
  deriving DecidableEq
def Bn.cells (b : Bn) : List D := [dI b.S, dI b.F, dI b.T]
/-- A clock: Who, By. -/
structure Ck where
  W : Bs
  B : Int
  deriving DecidableEq
def Ck.cells (c : Ck) : List D := [dT c.W, dI c.B]
attribute [go_sem] Sv.cells Bn.cells Ck.cells
abbrev svsD (l : List Sv) : D := .vec 2 (l.map Sv.cells)
abbrev bnsD (l : List Bn) : D := .vec 3 (l.map Bn.cells)
abbrev cksD (l : List Ck) : D := .vec 2 (l.map Ck.cells)
/-- A net: Servers, Seen, Bends, Clocks. -/
structure Nt where
  V : List Sv
  N : Int
  B : List Bn
  C : List Ck
  deriving DecidableEq
def Nt.cells (n : Nt) : List D := [svsD n.V, dI n.N, bnsD n.B, cksD n.C]
attribute [go_sem] Nt.cells
abbrev Zn.arg (z : Zn) : Bool × List CV := (true, [vS z.A, vD (recsD z.R)])
abbrev Sv.arg (s : Sv) : Bool × List CV := (true, [vI s.A, vD (zonesD s.Z)])
abbrev Bn.arg (b : Bn) : Bool × List CV := (true, [vI b.S, vI b.F, vI b.T])
abbrev Ck.arg (c : Ck) : Bool × List CV := (true, [vS c.W, vI c.B])
abbrev Nt.arg (n : Nt) : Bool × List CV := (true, [vD (svsD n.V), vI n.N, vD (bnsD n.B), vD (cksD n.C)])

/-! ### Orders -/
def or2 (x y : Int) : Int := if x = 0 then y else x
theorem or2_ok (x y : Int) : Meets Tryz.prog 102 [(false, [vD (.vec 1 [[dI x], [dI y]])])] (rOne (vI (or2 x y))) := by
  have w1 : IntKind.i64.wrap ((0 : Int) + 1) = 1 := by decide
  have w2 : IntKind.i64.wrap ((1 : Int) + 1) = 2 := by decide
  have t1 : Int.toNat 1 = 1 := rfl
  refine meets Tryz.func102 rfl rfl Tryz.ntmps102 Tryz.results102 rfl ?_
  simp -dsimp -implicitDefEqProofs only [go_sem, ↓reduceIte, reduceCtorEq, rn1, rn2, rn3, rn4, rn5, rn6, rn7, ri1, ri2, ri3, ri4, ri5]
  refine vrounds 3 sitOk ?_
  simp -dsimp -implicitDefEqProofs only [go_sem, ↓reduceIte, reduceCtorEq, rn1, rn2, rn3, rn4, rn5, rn6, rn7, ri1, ri2, ri3, ri4, ri5]
  refine vround ?_
  simp -dsimp -implicitDefEqProofs only [w1, go_sem, ↓reduceIte, reduceCtorEq, rn1, rn2, rn3, rn4, rn5, rn6, rn7, ri1, ri2, ri3, ri4, ri5]
  refine ⟨fun h => by simp [or2, h], fun h => vround ?_⟩
  simp -dsimp -implicitDefEqProofs only [w2, t1, go_sem, ↓reduceIte, reduceCtorEq, rn1, rn2, rn3, rn4, rn5, rn6, rn7, ri1, ri2, ri3, ri4, ri5]
  refine ⟨fun h2 => by simp [or2, h], fun h2 => vround ?_⟩
  simp -dsimp -implicitDefEqProofs only [go_sem, ↓reduceIte, reduceCtorEq, rn1, rn2, rn3, rn4, rn5, rn6, rn7, ri1, ri2, ri3, ri4, ri5]
  simp [or2, h, h2]
theorem byAddr_ok (s t : Sv) : Meets Tryz.prog 54 [s.arg, t.arg] (rOne (vI (cmpI s.A t.A))) := by
  refine meets Tryz.func54 rfl rfl Tryz.ntmps54 Tryz.results54 rfl ?_
  simp -dsimp -implicitDefEqProofs only [go_sem, ↓reduceIte, reduceCtorEq, rn1, rn2, rn3, rn4, rn5, rn6, rn7, ri1, ri2, ri3, ri4, ri5]
  repeat' (first | with_reducible apply And.intro | with_reducible intro _ | with_reducible exact drawn (by kernel_rfl) | (refine callP (cmpI_ok _ _) ?_; simp -dsimp -implicitDefEqProofs only [go_sem, ↓reduceIte, reduceCtorEq, rn1, rn2, rn3, rn4, rn5, rn6, rn7, ri1, ri2, ri3, ri4, ri5]) | omega)
theorem byApex_ok (s t : Zn) : Meets Tryz.prog 58 [s.arg, t.arg] (rOne (vI (cmpB s.A t.A))) := by
  refine meets Tryz.func58 rfl rfl Tryz.ntmps58 Tryz.results58 rfl ?_
  simp -dsimp -implicitDefEqProofs only [go_sem, ↓reduceIte, reduceCtorEq, rn1, rn2, rn3, rn4, rn5, rn6, rn7, ri1, ri2, ri3, ri4, ri5]
  repeat' (first | with_reducible apply And.intro | with_reducible intro _ | with_reducible exact drawn (by kernel_rfl) | (refine callP (cmpS_ok _ _) ?_; simp -dsimp -implicitDefEqProofs only [go_sem, ↓reduceIte, reduceCtorEq, rn1, rn2, rn3, rn4, rn5, rn6, rn7, ri1, ri2, ri3, ri4, ri5]) | omega)
theorem byWho_ok (s t : Ck) : Meets Tryz.prog 66 [s.arg, t.arg] (rOne (vI (cmpB s.W t.W))) := by
  refine meets Tryz.func66 rfl rfl Tryz.ntmps66 Tryz.results66 rfl ?_
  simp -dsimp -implicitDefEqProofs only [go_sem, ↓reduceIte, reduceCtorEq, rn1, rn2, rn3, rn4, rn5, rn6, rn7, ri1, ri2, ri3, ri4, ri5]
  repeat' (first | with_reducible apply And.intro | with_reducible intro _ | with_reducible exact drawn (by kernel_rfl) | (refine callP (cmpS_ok _ _) ?_; simp -dsimp -implicitDefEqProofs only [go_sem, ↓reduceIte, reduceCtorEq, rn1, rn2, rn3, rn4, rn5, rn6, rn7, ri1, ri2, ri3, ri4, ri5]) | omega)
theorem byPlace_ok (s t : Bn) : Meets Tryz.prog 62 [s.arg, t.arg] (rOne (vI (or2 (cmpI s.S t.S) (cmpI s.F t.F)))) := by
  refine meets Tryz.func62 rfl rfl Tryz.ntmps62 Tryz.results62 rfl ?_
  simp -dsimp -implicitDefEqProofs only [go_sem, ↓reduceIte, reduceCtorEq, rn1, rn2, rn3, rn4, rn5, rn6, rn7, ri1, ri2, ri3, ri4, ri5]
  repeat' (first | with_reducible apply And.intro | with_reducible intro _ | with_reducible exact drawn (by kernel_rfl) | (refine callP (cmpI_ok _ _) ?_; simp -dsimp -implicitDefEqProofs only [go_sem, ↓reduceIte, reduceCtorEq, rn1, rn2, rn3, rn4, rn5, rn6, rn7, ri1, ri2, ri3, ri4, ri5]) | (refine callP (or2_ok _ _) ?_; simp -dsimp -implicitDefEqProofs only [go_sem, ↓reduceIte, reduceCtorEq, rn1, rn2, rn3, rn4, rn5, rn6, rn7, ri1, ri2, ri3, ri4, ri5]) | omega)

def koS : KO Bs := ⟨cmpB, cmpB_eq, by
  intro a b
  have h1 := cmpB_lt (l := a) (m := b)
  have h2 := cmpB_lt (l := b) (m := a)
  rw [h1]
  constructor
  · intro h
    rcases Int.lt_trichotomy (cmpB b a) 0 with h4 | h4 | h4
    · exact absurd (h2.1 h4) (lt_as h)
    · have e := cmpB_eq.1 h4
      subst e
      exact absurd h (lt_irr _)
    · exact h4
  · intro h
    rcases lt_tri a b with h4 | h4 | h4
    · exact h4
    · subst h4; rw [cmpB_eq.2 rfl] at h; omega
    · have := cmpB_lt.2 h4; omega, by
  intro a b c h h'
  rw [cmpB_lt] at *
  exact lt_tr h h'⟩
theorem or2_lt {a b : Int × Int} : or2 (cmpI a.1 b.1) (cmpI a.2 b.2) < 0 ↔ a.1 < b.1 ∨ (a.1 = b.1 ∧ a.2 < b.2) := by
  unfold or2
  by_cases h : a.1 = b.1
  · rw [if_pos (cmpI_eq.2 h), cmpI_lt]; omega
  · rw [if_neg (fun e => h (cmpI_eq.1 e)), cmpI_lt]; omega
theorem or2_gt {a b : Int × Int} : 0 < or2 (cmpI a.1 b.1) (cmpI a.2 b.2) ↔ b.1 < a.1 ∨ (a.1 = b.1 ∧ b.2 < a.2) := by
  unfold or2
  have hg : ∀ x y : Int, 0 < cmpI x y ↔ y < x := fun x y => (koI.flip (a := y) (b := x)).symm.trans cmpI_lt
  by_cases h : a.1 = b.1
  · rw [if_pos (cmpI_eq.2 h), hg]; omega
  · rw [if_neg (fun e => h (cmpI_eq.1 e)), hg]; omega
def koP : KO (Int × Int) := ⟨fun a b => or2 (cmpI a.1 b.1) (cmpI a.2 b.2), by
  intro a b
  unfold or2
  by_cases h : a.1 = b.1
  · rw [if_pos (cmpI_eq.2 h), cmpI_eq]
    exact ⟨fun h' => Prod.ext h h', fun h' => by rw [h']⟩
  · rw [if_neg (fun e => h (cmpI_eq.1 e)), cmpI_eq]
    exact ⟨fun h' => absurd h' h, fun h' => by rw [h']⟩, by
  intro a b
  rw [or2_lt, or2_gt]; omega, by
  intro a b c
  rw [or2_lt, or2_lt, or2_lt]; omega⟩
abbrev kS (s : Sv) : Int := s.A
abbrev kZ (z : Zn) : Bs := z.A
abbrev kB (b : Bn) : Int × Int := (b.S, b.F)
abbrev kC (c : Ck) : Bs := c.W
end Go.Proofs.YtolpobgfcokoaaaGreatDoor
