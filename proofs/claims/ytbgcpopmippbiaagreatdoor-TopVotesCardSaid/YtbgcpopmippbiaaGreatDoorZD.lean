/- Lists that rise by a key: where one stands, with one in its place, found by its key. The library's functions on lists of records; Put and Drop. Put and Drop. cut. Ask. Best. -/
import Derived.Test.YtbgcpopmippbiaaGreatDoorZB
open Nat renaming reduceLT → rn1, reduceLeDiff → rn2, reduceEqDiff → rn3, reduceAdd → rn4, reduceMul → rn5, reduceSub → rn6, reduceBEq → rn7
open Int renaming reduceLT → ri1, reduceLE → ri2, reduceEq → ri3, reduceBEq → ri4, reduceNeg → ri5
namespace Go.Proofs.YtbgcpopmippbiaaGreatDoor
open Go.Eng
set_option linter.unusedSimpArgs false
set_option maxRecDepth 10000

theorem u64_wrap {n : Int} (h1 : 0 ≤ n) (h2 : n ≤ 9223372036854775807) : IntKind.u64.wrap n = n := by
  simp [IntKind.wrap, IntKind.signed, IntKind.bits]
  omega

/-- Where the binary search ends. -/
def bs {α : Type} (c : α → Int) (l : List α) (lo hi : Nat) : Nat :=
  if lo < hi then match l[(lo + hi) / 2]? with
    | some x => if c x < 0 then bs c l ((lo + hi) / 2 + 1) hi else bs c l lo ((lo + hi) / 2)
    | none => lo
  else lo
termination_by hi - lo

def bsHit {α : Type} (c : α → Int) (l : List α) (i : Nat) : Bool := match l[i]? with
  | some x => c x == 0
  | none => false

structure BsInv {α : Type} (c : α → Int) (l : List α) where
  lo : Nat
  hi : Nat
  lh : lo ≤ hi
  hl : hi ≤ l.length
  eq : bs c l 0 l.length = bs c l lo hi

/-- Where the rows' compares rise, the search ends where they turn from below 0. -/
theorem bs_law {α : Type} {c : α → Int} {l : List α} (hs : ∀ (i j : Nat) (x y : α), i < j → l[i]? = some x → l[j]? = some y → c y < 0 → c x < 0) :
    ∀ (d lo hi : Nat), hi - lo = d → lo ≤ hi → hi ≤ l.length → (∀ j x, j < lo → l[j]? = some x → c x < 0) → (∀ j x, hi ≤ j → l[j]? = some x → ¬ c x < 0) →
      bs c l lo hi ≤ l.length ∧ (∀ j x, j < bs c l lo hi → l[j]? = some x → c x < 0) ∧ (∀ j x, bs c l lo hi ≤ j → l[j]? = some x → ¬ c x < 0) := by
  intro d
  induction d using Nat.strongRecOn with
  | _ d ih =>
    intro lo hi hd h1 h2 h3 h4
    by_cases hlt : lo < hi
    · obtain ⟨mid, hm⟩ : ∃ mid, (lo + hi) / 2 = mid := ⟨_, rfl⟩
      obtain ⟨x, hx⟩ : ∃ x, l[mid]? = some x := ⟨_, List.getElem?_eq_getElem (by omega)⟩
      rw [bs, if_pos hlt, hm, hx]
      simp only
      split
      · rename_i cc
        refine ih (hi - (mid + 1)) (by omega) _ _ rfl (by omega) h2 (fun j y hj hy => ?_) h4
        by_cases hjm : j = mid
        · subst hjm; rw [hx] at hy; cases hy; exact cc
        · exact hs j mid y x (by omega) hy hx cc
      · rename_i cc
        refine ih (mid - lo) (by omega) _ _ rfl (by omega) (by omega) h3 (fun j y hj hy => ?_)
        by_cases hjm : j = mid
        · subst hjm; rw [hx] at hy; cases hy; exact cc
        · exact fun hc => cc (hs mid j x y (by omega) hx hy hc)
    · rw [bs, if_neg hlt]
      exact ⟨by omega, h3, fun j y hj hy => h4 j y (by omega) hy⟩
theorem bs_whole {α : Type} {c : α → Int} {l : List α} (hs : ∀ (i j : Nat) (x y : α), i < j → l[i]? = some x → l[j]? = some y → c y < 0 → c x < 0) :
    bs c l 0 l.length ≤ l.length ∧ (∀ j x, j < bs c l 0 l.length → l[j]? = some x → c x < 0) ∧ (∀ j x, bs c l 0 l.length ≤ j → l[j]? = some x → ¬ c x < 0) :=
  bs_law hs l.length 0 l.length (by omega) (by omega) (Nat.le_refl _) (fun j x hj _ => by omega) (fun j x hj hx => by have := (List.getElem?_eq_some_iff.1 hx).1; omega)

/-- An order of keys. -/
structure KO (κ : Type) where
  cmp : κ → κ → Int
  eq0 : ∀ {a b}, cmp a b = 0 ↔ a = b
  flip : ∀ {a b}, cmp a b < 0 ↔ 0 < cmp b a
  tr : ∀ {a b c}, cmp a b < 0 → cmp b c < 0 → cmp a c < 0

section
variable {α κ : Type} {o : KO κ} {key : α → κ}

theorem KO.irr (o : KO κ) {a : κ} (h : o.cmp a a < 0) : False := by
  have := o.eq0.2 (rfl : a = a); omega
theorem KO.as (o : KO κ) {a b : κ} (h : o.cmp a b < 0) : ¬ o.cmp b a < 0 := fun h' => o.irr (o.tr h h')
theorem KO.tri (o : KO κ) (a b : κ) : o.cmp a b < 0 ∨ a = b ∨ o.cmp b a < 0 := by
  rcases Int.lt_trichotomy (o.cmp a b) 0 with h | h | h
  · exact .inl h
  · exact .inr (.inl (o.eq0.1 h))
  · exact .inr (.inr (o.flip.2 h))
theorem KO.ne (o : KO κ) {a b : κ} (h : o.cmp a b < 0) : a ≠ b := fun e => by subst e; exact o.irr h

/-- The list rises. -/
def Ris (o : KO κ) (key : α → κ) (l : List α) : Prop := l.Pairwise fun a b => o.cmp (key a) (key b) < 0
theorem ris_at {l : List α} (h : Ris o key l) {i j : Nat} {x y : α} (hij : i < j) (hx : l[i]? = some x) (hy : l[j]? = some y) : o.cmp (key x) (key y) < 0 := by
  obtain ⟨hi, rfl⟩ := List.getElem?_eq_some_iff.1 hx
  obtain ⟨hj, rfl⟩ := List.getElem?_eq_some_iff.1 hy
  exact List.pairwise_iff_getElem.1 h i j hi hj hij
theorem ris_of {l : List α} (h : ∀ (i : Nat) (x y : α), l[i]? = some x → l[i + 1]? = some y → o.cmp (key x) (key y) < 0) : Ris o key l := by
  refine List.pairwise_iff_getElem.2 fun i j hi hj hij => ?_
  obtain ⟨d, rfl⟩ : ∃ d, j = i + 1 + d := ⟨j - (i + 1), by omega⟩
  clear hij
  induction d with
  | zero => exact h i _ _ (List.getElem?_eq_getElem hi) (List.getElem?_eq_getElem hj)
  | succ d ih =>
    have hj' : i + 1 + d < l.length := by omega
    exact o.tr (ih hj') (h (i + 1 + d) _ _ (List.getElem?_eq_getElem hj') (List.getElem?_eq_getElem hj))
theorem ris_append {A B : List α} : Ris o key (A ++ B) ↔ Ris o key A ∧ Ris o key B ∧ ∀ x ∈ A, ∀ y ∈ B, o.cmp (key x) (key y) < 0 := List.pairwise_append
theorem ris_cons {r : α} {B : List α} : Ris o key (r :: B) ↔ (∀ y ∈ B, o.cmp (key r) (key y) < 0) ∧ Ris o key B := List.pairwise_cons

def posK (o : KO κ) (key : α → κ) (l : List α) (k : κ) : Nat := bs (fun x => o.cmp (key x) k) l 0 l.length
def hitK (o : KO κ) (key : α → κ) (l : List α) (k : κ) : Bool := bsHit (fun x => o.cmp (key x) k) l (posK o key l k)
/-- With one in its place. -/
def withK (o : KO κ) (key : α → κ) (l : List α) (x : α) : List α := if hitK o key l (key x) then l.set (posK o key l (key x)) x else l.take (posK o key l (key x)) ++ x :: l.drop (posK o key l (key x))
theorem hitK_lt {l : List α} {k : κ} (h : hitK o key l k = true) : posK o key l k < l.length := by
  unfold hitK bsHit at h
  split at h
  · rename_i e; exact (List.getElem?_eq_some_iff.1 e).1
  · cases h
theorem bsK_le (c : α → Int) (l : List α) : ∀ (d lo hi : Nat), hi - lo = d → lo ≤ hi → bs c l lo hi ≤ hi := by
  intro d
  induction d using Nat.strongRecOn with
  | _ d ih =>
    intro lo hi hd h1
    rw [bs]
    split
    · split
      · split
        · exact ih (hi - ((lo + hi) / 2 + 1)) (by omega) _ _ rfl (by omega)
        · exact Nat.le_trans (ih ((lo + hi) / 2 - lo) (by omega) _ _ rfl (by omega)) (by omega)
      · omega
    · exact h1
theorem posK_le (l : List α) (k : κ) : posK o key l k ≤ l.length := bsK_le _ l l.length 0 l.length (by omega) (by omega)
theorem withK_len (l : List α) (x : α) : (withK o key l x).length ≤ l.length + 1 := by
  unfold withK
  split
  · simp
  · simp; omega
theorem placeK {l : List α} (hr : Ris o key l) (k : κ) : ∃ A B, (l = A ++ B ∧ hitK o key l k = false ∧ posK o key l k = A.length ∧ (∀ x ∈ A, o.cmp (key x) k < 0) ∧ ∀ x ∈ B, o.cmp k (key x) < 0) ∨
    ∃ x, l = A ++ x :: B ∧ hitK o key l k = true ∧ posK o key l k = A.length ∧ (∀ x ∈ A, o.cmp (key x) k < 0) ∧ (∀ x ∈ B, o.cmp k (key x) < 0) ∧ key x = k := by
  obtain ⟨h1, h2, h3⟩ := bs_whole (c := fun x => o.cmp (key x) k) (l := l) fun i j x y hij hx hy hc => o.tr (ris_at hr hij hx hy) hc
  have e : bs (fun x => o.cmp (key x) k) l 0 l.length = posK o key l k := rfl
  rw [e] at h1 h2 h3
  obtain ⟨p, hp⟩ : ∃ p, posK o key l k = p := ⟨_, rfl⟩
  rw [hp] at h1 h2 h3
  have hA : ∀ x ∈ l.take p, o.cmp (key x) k < 0 := fun x hx => by
    obtain ⟨j, hj⟩ := List.mem_iff_getElem?.1 hx
    rw [List.getElem?_take] at hj
    split at hj
    · exact h2 j x (by omega) hj
    · cases hj
  have hB : ∀ x ∈ l.drop p, ¬ o.cmp (key x) k < 0 := fun x hx => by
    obtain ⟨j, hj⟩ := List.mem_iff_getElem?.1 hx
    rw [List.getElem?_drop] at hj
    exact h3 (p + j) x (by omega) hj
  have hl : l.take p ++ l.drop p = l := List.take_append_drop p l
  have hrd : Ris o key (l.drop p) := (ris_append.1 (hl.symm ▸ hr)).2.1
  cases hd : l.drop p with
  | nil =>
    refine ⟨l.take p, [], .inl ⟨by rw [List.append_nil, ← hl, hd, List.append_nil, List.take_take, Nat.min_self], ?_, by rw [hp, List.length_take]; omega, hA, by simp⟩⟩
    have : l[p]? = none := by
      rw [List.getElem?_eq_none_iff]
      have := congrArg List.length hd
      simp at this; omega
    unfold hitK bsHit
    rw [hp, this]
  | cons x r =>
    have hx : l[p]? = some x := by
      have : (l.drop p)[0]? = some x := by rw [hd]; rfl
      rwa [List.getElem?_drop] at this
    rw [hd] at hrd hB
    have hxr := (ris_cons.1 hrd).1
    rcases o.tri (key x) k with h | h | h
    · exact absurd h (hB x (List.mem_cons_self ..))
    · refine ⟨l.take p, r, .inr ⟨x, by rw [← hd, hl], ?_, by rw [hp, List.length_take]; omega, hA, fun y hy => by rw [← h]; exact hxr y hy, h⟩⟩
      unfold hitK bsHit
      rw [hp, hx]
      simp [o.eq0.2 h]
    · refine ⟨l.take p, x :: r, .inl ⟨by rw [← hd, hl], ?_, by rw [hp, List.length_take]; omega, hA, fun y hy => ?_⟩⟩
      · unfold hitK bsHit
        rw [hp, hx]
        have : ¬ o.cmp (key x) k = 0 := fun e => by have := o.flip.1 h; omega
        simpa using this
      · rcases List.mem_cons.1 hy with rfl | hy
        · exact h
        · exact o.tr h (hxr y hy)
theorem with_law {l : List α} (hr : Ris o key l) (r : α) : ∃ A B, withK o key l r = A ++ r :: B ∧ (∀ x ∈ A, o.cmp (key x) (key r) < 0) ∧ (∀ x ∈ B, o.cmp (key r) (key x) < 0) ∧ Ris o key A ∧ Ris o key B ∧
    ((l = A ++ B ∧ hitK o key l (key r) = false) ∨ ∃ x, l = A ++ x :: B ∧ key x = key r ∧ hitK o key l (key r) = true) := by
  obtain ⟨A, B, ⟨h1, h2, h3, h4, h5⟩ | ⟨x, h1, h2, h3, h4, h5, h6⟩⟩ := placeK hr (key r)
  · subst h1
    have hra := (ris_append.1 hr)
    refine ⟨A, B, ?_, h4, h5, hra.1, hra.2.1, .inl ⟨rfl, h2⟩⟩
    unfold withK
    rw [if_neg (by simp [h2]), h3]
    simp
  · subst h1
    have hra := (ris_append.1 hr)
    refine ⟨A, B, ?_, h4, h5, hra.1, (ris_cons.1 hra.2.1).2, .inr ⟨x, rfl, h6, h2⟩⟩
    unfold withK
    rw [if_pos h2, h3]
    simp
theorem with_ris {l : List α} (hr : Ris o key l) (r : α) : Ris o key (withK o key l r) := by
  obtain ⟨A, B, h1, h2, h3, h4, h5, _⟩ := with_law hr r
  rw [h1]
  exact ris_append.2 ⟨h4, ris_cons.2 ⟨h3, h5⟩, fun x hx y hy => by
    rcases List.mem_cons.1 hy with rfl | hy
    · exact h2 x hx
    · exact o.tr (h2 x hx) (h3 y hy)⟩
theorem mem_with {l : List α} (hr : Ris o key l) {r x : α} : x ∈ withK o key l r ↔ x = r ∨ (x ∈ l ∧ key x ≠ key r) := by
  obtain ⟨A, B, h1, h2, h3, _, _, h⟩ := with_law hr r
  have hA : ∀ y ∈ A, key y ≠ key r := fun y hy => o.ne (h2 y hy)
  have hB : ∀ y ∈ B, key y ≠ key r := fun y hy e => o.ne (h3 y hy) e.symm
  rw [h1]
  rcases h with ⟨rfl, _⟩ | ⟨y, rfl, hp, _⟩
  · simp only [List.mem_append, List.mem_cons]
    constructor
    · rintro (h | h | h)
      · exact .inr ⟨.inl h, hA x h⟩
      · exact .inl h
      · exact .inr ⟨.inr h, hB x h⟩
    · rintro (h | ⟨h | h, _⟩)
      · exact .inr (.inl h)
      · exact .inl h
      · exact .inr (.inr h)
  · simp only [List.mem_append, List.mem_cons]
    constructor
    · rintro (h | h | h)
      · exact .inr ⟨.inl h, hA x h⟩
      · exact .inl h
      · exact .inr ⟨.inr (.inr h), hB x h⟩
    · rintro (h | ⟨h | h | h, hn⟩)
      · exact .inr (.inl h)
      · exact .inl h
      · subst h; exact absurd hp hn
      · exact .inr (.inr h)
theorem with_length {l : List α} (hr : Ris o key l) (r : α) : (withK o key l r).length = l.length + if hitK o key l (key r) then 0 else 1 := by
  obtain ⟨A, B, h1, h2, h3, _, _, h⟩ := with_law hr r
  rcases h with ⟨rfl, hh⟩ | ⟨y, rfl, hp, hh⟩
  · rw [h1, hh]; simp; omega
  · rw [h1, hh]; simp
theorem hitK_iff {l : List α} (hr : Ris o key l) (k : κ) : hitK o key l k = true ↔ ∃ x ∈ l, key x = k := by
  obtain ⟨A, B, ⟨rfl, h2, _, h4, h5⟩ | ⟨x, rfl, h2, _, _, _, h6⟩⟩ := placeK hr k
  · rw [h2]
    constructor
    · intro h; cases h
    · rintro ⟨x, hx, hp⟩
      rcases List.mem_append.1 hx with hx | hx
      · exact absurd hp (o.ne (h4 x hx))
      · exact absurd hp.symm (o.ne (h5 x hx))
  · exact ⟨fun _ => ⟨x, by simp, h6⟩, fun _ => h2⟩
theorem ris_key {l : List α} (hr : Ris o key l) {x y : α} (hx : x ∈ l) (hy : y ∈ l) (h : key x = key y) : x = y := by
  obtain ⟨i, hi⟩ := List.mem_iff_getElem?.1 hx
  obtain ⟨j, hj⟩ := List.mem_iff_getElem?.1 hy
  rcases Nat.lt_trichotomy i j with h1 | h1 | h1
  · exact absurd h (o.ne (ris_at hr h1 hi hj))
  · subst h1; rw [hi] at hj; cases hj; rfl
  · exact absurd h.symm (o.ne (ris_at hr h1 hj hi))
/-- Lists that rise and hold the same are the same. -/
theorem ris_ext : ∀ {l m : List α}, Ris o key l → Ris o key m → (∀ x, x ∈ l ↔ x ∈ m) → l = m
  | [], [], _, _, _ => rfl
  | [], y :: m, _, _, h => absurd ((h y).2 (List.mem_cons_self ..)) (by simp)
  | x :: l, [], _, _, h => absurd ((h x).1 (List.mem_cons_self ..)) (by simp)
  | x :: l, y :: m, hl, hm, h => by
    obtain ⟨hl2, hl1⟩ := ris_cons.1 hl
    obtain ⟨hm2, hm1⟩ := ris_cons.1 hm
    have e : x = y := by
      rcases List.mem_cons.1 ((h x).1 (List.mem_cons_self ..)) with e | e
      · exact e
      · rcases List.mem_cons.1 ((h y).2 (List.mem_cons_self ..)) with e' | e'
        · exact e'.symm
        · exact absurd (hl2 y e') (o.as (hm2 x e))
    subst e
    congr 1
    refine ris_ext hl1 hm1 fun z => ?_
    constructor
    · intro hz
      rcases List.mem_cons.1 ((h z).1 (List.mem_cons_of_mem _ hz)) with e | e
      · subst e; exact absurd (hl2 z hz) (fun h => o.irr h)
      · exact e
    · intro hz
      rcases List.mem_cons.1 ((h z).2 (List.mem_cons_of_mem _ hz)) with e | e
      · subst e; exact absurd (hm2 z hz) (fun h => o.irr h)
      · exact e

/-! ### Found by a key -/
def findK (o : KO κ) (key : α → κ) (l : List α) (k : κ) : Option α := l.find? fun y => o.cmp (key y) k == 0
theorem find_some {l : List α} {k : κ} {x : α} (h : findK o key l k = some x) : x ∈ l ∧ key x = k := by
  unfold findK at h
  exact ⟨List.mem_of_find?_eq_some h, o.eq0.1 (by simpa using List.find?_some h)⟩
theorem find_none {l : List α} {k : κ} : findK o key l k = none ↔ ∀ x ∈ l, key x ≠ k := by
  unfold findK
  rw [List.find?_eq_none]
  exact ⟨fun h x hx e => h x hx (by simpa using o.eq0.2 e), fun h x hx e => h x hx (o.eq0.1 (by simpa using e))⟩
theorem find_mem {l : List α} (hr : Ris o key l) {x : α} (hx : x ∈ l) : findK o key l (key x) = some x := by
  cases h : findK o key l (key x) with
  | none => exact absurd rfl (find_none.1 h x hx)
  | some y =>
    obtain ⟨h1, h2⟩ := find_some h
    rw [ris_key hr h1 hx h2]
theorem find_iff {l : List α} (hr : Ris o key l) {k : κ} {x : α} : findK o key l k = some x ↔ x ∈ l ∧ key x = k :=
  ⟨find_some, fun ⟨h1, h2⟩ => by rw [← h2]; exact find_mem hr h1⟩
theorem find_with {l : List α} (hr : Ris o key l) (r : α) : findK o key (withK o key l r) (key r) = some r := find_mem (with_ris hr r) ((mem_with hr).2 (.inl rfl))
theorem find_other {l : List α} (hr : Ris o key l) (r : α) {k : κ} (hk : k ≠ key r) : findK o key (withK o key l r) k = findK o key l k := by
  apply Option.ext
  intro x
  rw [find_iff (with_ris hr r), find_iff hr, mem_with hr]
  constructor
  · rintro ⟨rfl | ⟨h1, _⟩, h2⟩
    · exact absurd h2.symm hk
    · exact ⟨h1, h2⟩
  · rintro ⟨h1, h2⟩
    exact ⟨.inr ⟨h1, fun e => hk (h2 ▸ e)⟩, h2⟩
theorem hit_find {l : List α} (hr : Ris o key l) (k : κ) : hitK o key l k = (findK o key l k).isSome := by
  cases h : findK o key l k with
  | none =>
    refine Bool.eq_false_iff.2 fun hh => ?_
    obtain ⟨x, hx, e⟩ := (hitK_iff hr k).1 hh
    exact find_none.1 h x hx e
  | some x =>
    obtain ⟨h1, h2⟩ := find_some h
    exact (hitK_iff hr k).2 ⟨x, h1, h2⟩
/-! ### Without one -/
def dropK (o : KO κ) (key : α → κ) (l : List α) (k : κ) : List α := l.filter fun x => !(o.cmp (key x) k == 0)
theorem mem_dropK {l : List α} {k : κ} {x : α} : x ∈ dropK o key l k ↔ x ∈ l ∧ key x ≠ k := by
  unfold dropK
  rw [List.mem_filter]
  simp [o.eq0]
theorem dropK_ris {l : List α} (hr : Ris o key l) (k : κ) : Ris o key (dropK o key l k) := List.Pairwise.filter _ hr
end

/-! ### Keys -/
def koI : KO Int := ⟨cmpI, cmpI_eq, by intro a b; rw [cmpI_lt]; unfold cmpI; constructor
                                       · intro h; rw [if_neg (by omega), if_pos h]; omega
                                       · intro h; split at h
                                         · omega
                                         · split at h <;> omega, by intro a b c h h'; rw [cmpI_lt] at *; omega⟩
end Go.Proofs.YtbgcpopmippbiaaGreatDoor
namespace Go.Proofs.YtbgcpopmippbiaaGreatDoor
open Go.Eng
set_option linter.unusedSimpArgs false
set_option maxRecDepth 10000


theorem clone_ok (rows : List (List D)) (hl : rows.length ≤ 1000000) :
    Meets Tryz.prog 31 [(false, [vD (.vec 4 rows)])] (rOne (.own 4 26 rows)) := by
  refine meets Tryz.func31 rfl rfl Tryz.ntmps31 Tryz.results31 rfl ?_
  simp -dsimp -implicitDefEqProofs only [go_sem, ↓reduceIte, reduceCtorEq, rn1, rn2, rn3, rn4, rn5, rn6, rn7, ri1, ri2, ri3, ri4, ri5]
  exact fun b hb => ⟨fun h => Classical.byContradiction fun hn => absurd ((hb hn).symm.trans h) (by simp), fun _ => ⟨by omega, by omega⟩⟩

/-- slices.BinarySearchFunc, whatever compares. (bsearch) -/
theorem bsearch_ok (l : List Rec) (hl : l.length ≤ 1000000) (r : Rec) (f : FuncId) (c : Rec → Int)
    (hp : ∀ x ∈ l, Meets Tryz.prog f ((true, x.cells.map .d) :: [(true, [vS r.N, vI r.K, vS r.V, vI r.L])]) (rOne (vI (c x)))) :
    Meets Tryz.prog 32 [(false, [vD (.vec 4 (l.map Rec.cells))]), (true, [vS r.N, vI r.K, vS r.V, vI r.L]), (false, [vD (.fn f [])])] (rTup [(false, [vI (bs c l 0 l.length : Nat)]), (false, [vB (bsHit c l (bs c l 0 l.length))])]) := by
  refine meets Tryz.func32 rfl rfl Tryz.ntmps32 Tryz.results32 rfl ?_
  simp -dsimp -implicitDefEqProofs only [go_sem, ↓reduceIte, reduceCtorEq, rn1, rn2, rn3, rn4, rn5, rn6, rn7, ri1, ri2, ri3, ri4, ri5]
  refine vfor sitOk (ι := BsInv c l) (fun v => ⟨49, [(10, aI v.hi), (9, aI v.lo), (8, aI l.length), (7, aB false), (6, aI 0), (0, aD (.vec 4 (l.map Rec.cells))), (4, aP 0 0), (1, .cs true [cS r.N, cI r.K, cS r.V, cI r.L]), (2, aD (.fn f []))], [(0, some (.var [cS r.N, cI r.K, cS r.V, cI r.L] true))], 1⟩) (fun v => v.hi - v.lo) ⟨0, l.length, by omega, by omega, rfl⟩ ?_ ?_
  · simp -dsimp -implicitDefEqProofs only [go_sem, ↓reduceIte, reduceCtorEq, rn1, rn2, rn3, rn4, rn5, rn6, rn7, ri1, ri2, ri3, ri4, ri5]
  intro ⟨lo, hi, hlh, hhl, hbs⟩
  obtain ⟨mid, hmid⟩ : ∃ mid, (lo + hi) / 2 = mid := ⟨_, rfl⟩
  have hw0 : IntKind.i64.wrap ((lo : Int) + (hi : Int)) = ((lo + hi : Nat) : Int) := by rw [wrap64] <;> omega
  have hw1 : IntKind.u64.wrap ((lo + hi : Nat) : Int) = ((lo + hi : Nat) : Int) := by rw [u64_wrap] <;> omega
  have hw2 : Int.fdiv ((lo + hi : Nat) : Int) (2 ^ (min (Int.toNat 1) 64)) = (mid : Int) := by
    show Int.fdiv ((lo + hi : Nat) : Int) 2 = _
    rw [Int.fdiv_eq_ediv_of_nonneg _ (by omega)]; omega
  have hw3 : IntKind.i64.wrap (mid : Int) = (mid : Int) := by rw [wrap64] <;> omega
  have hw4 : IntKind.i64.wrap ((mid : Int) + 1) = ((mid + 1 : Nat) : Int) := by rw [wrap64] <;> omega
  simp -dsimp -implicitDefEqProofs only [hw0, hw1, hw2, hw3, go_sem, ↓reduceIte, reduceCtorEq, rn1, rn2, rn3, rn4, rn5, rn6, rn7, ri1, ri2, ri3, ri4, ri5]
  refine ⟨fun hlt => ⟨by omega, by omega, fun x hx => callP (hp x (List.mem_of_getElem? hx)) ?_⟩, fun hge => ⟨fun hin => ⟨by omega, by omega, fun x hx => callP (hp x (List.mem_of_getElem? hx)) ?_⟩, fun hout => ?_⟩⟩
  · simp -dsimp -implicitDefEqProofs only [hw4, go_sem, ↓reduceIte, reduceCtorEq, rn1, rn2, rn3, rn4, rn5, rn6, rn7, ri1, ri2, ri3, ri4, ri5]
    refine ⟨drawn (by kernel_rfl),⟨fun c1 => ?_, fun c1 => ?_⟩⟩
    · refine again ⟨mid + 1, hi, by omega, by omega, by rw [hbs, bs, if_pos (by omega), hmid, hx]; simp [c1]⟩ (by simp; omega) ?_
      simp -dsimp -implicitDefEqProofs only [go_sem, ↓reduceIte, reduceCtorEq, rn1, rn2, rn3, rn4, rn5, rn6, rn7, ri1, ri2, ri3, ri4, ri5]
    · have c1' : ¬ c x < 0 := by omega
      refine again ⟨lo, mid, by omega, by omega, by rw [hbs, bs, if_pos (by omega), hmid, hx]; simp [c1']⟩ (by simp; omega) ?_
      simp -dsimp -implicitDefEqProofs only [go_sem, ↓reduceIte, reduceCtorEq, rn1, rn2, rn3, rn4, rn5, rn6, rn7, ri1, ri2, ri3, ri4, ri5]
  · have hend : bs c l 0 l.length = lo := by rw [hbs, bs, if_neg (by omega)]
    simp -dsimp -implicitDefEqProofs only [go_sem, ↓reduceIte, reduceCtorEq, rn1, rn2, rn3, rn4, rn5, rn6, rn7, ri1, ri2, ri3, ri4, ri5]
    refine ⟨drawn (by kernel_rfl), ?_⟩
    simp [hend, bsHit, hx]
  · have hend : bs c l 0 l.length = lo := by rw [hbs, bs, if_neg (by omega)]
    have hx : l[lo]? = none := List.getElem?_eq_none (by omega)
    refine ⟨drawn (by kernel_rfl), ?_⟩
    simp [hend, bsHit, hx]

theorem ins_room {α : Type} (R rows : List α) (x : α) (i : Nat) (e1 : R.take rows.length = rows) (hi : i ≤ rows.length) (hr : rows.length + 1 ≤ R.length) :
    (splice (splice R (i + 1) (rows.drop i)) i [x]).take (rows.length + 1) = rows.take i ++ x :: rows.drop i := by
  have e2 : R.take i = rows.take i := by
    have : (R.take rows.length).take i = rows.take i := by rw [e1]
    rwa [List.take_take, Nat.min_eq_left hi] at this
  have e3 : (R.take (i + 1)).length = i + 1 := by rw [List.length_take]; omega
  obtain ⟨rest, hrest⟩ : ∃ rest, rest = R.drop (i + 1 + (rows.drop i).length) := ⟨_, rfl⟩
  have e4 : splice R (i + 1) (rows.drop i) = R.take (i + 1) ++ (rows.drop i ++ rest) := by simp [splice, hrest]
  have e5 : (R.take (i + 1) ++ (rows.drop i ++ rest)).take i = rows.take i := by
    rw [List.take_append_of_le_length (by omega), List.take_take, Nat.min_eq_left (by omega), e2]
  have e6 : (R.take (i + 1) ++ (rows.drop i ++ rest)).drop (i + 1) = rows.drop i ++ rest := List.drop_left' e3
  rw [e4]
  simp only [splice, e5, List.length_cons, List.length_nil, Nat.zero_add, e6]
  have e7 : rows.take i ++ [x] ++ (rows.drop i ++ rest) = (rows.take i ++ x :: rows.drop i) ++ rest := by simp
  rw [e7, List.take_left']
  simp; omega
theorem ins_new {α : Type} (R rows : List α) (x z : α) (i : Nat) (e1 : R.take rows.length = rows) (hi : i ≤ rows.length) :
    splice (splice (R.take i ++ List.replicate (rows.length + 1 - i) z) i [x]) (i + 1) (rows.drop i) = rows.take i ++ x :: rows.drop i := by
  have e2 : R.take i = rows.take i := by
    have : (R.take rows.length).take i = rows.take i := by rw [e1]
    rwa [List.take_take, Nat.min_eq_left hi] at this
  have e3 : (rows.take i).length = i := by rw [List.length_take]; omega
  rw [e2]
  obtain ⟨m, hm⟩ : ∃ m, rows.length + 1 - i = m + 1 := ⟨rows.length - i, by omega⟩
  rw [hm, List.replicate_succ]
  have e4 : splice (rows.take i ++ z :: List.replicate m z) i [x] = (rows.take i ++ [x]) ++ List.replicate m z := by
    simp only [splice, List.length_cons, List.length_nil, Nat.zero_add]
    rw [List.take_left' e3, show rows.take i ++ z :: List.replicate m z = (rows.take i ++ [z]) ++ List.replicate m z by simp, List.drop_left' (by simp; omega)]
  have e5 : (rows.take i ++ [x] ++ List.replicate m z).take (i + 1) = rows.take i ++ [x] := List.take_left' (by rw [List.length_append, e3]; rfl)
  have e6 : (rows.take i ++ [x] ++ List.replicate m z).drop (i + 1 + (rows.drop i).length) = [] := List.drop_eq_nil_of_le (by
    rw [List.length_append, List.length_append, e3, List.length_replicate, List.length_drop, List.length_singleton]; omega)
  rw [e4]
  simp only [splice]
  rw [e5, e6]
  simp
theorem ins_end {α : Type} (R rows : List α) (x : α) (e1 : R.take rows.length = rows) (hr : rows.length ≤ R.length) : (splice R rows.length [x]).take (rows.length + 1) = rows ++ [x] := by
  have h := take_splice2 R [x] rows.length hr
  rw [e1] at h
  exact h

/-- slices.Insert of one. (insert) -/
theorem insert_ok (rows : List (List D)) (x : List D) (i : Nat) (hi : i ≤ rows.length) (hl : rows.length ≤ 1000000) :
    Meets Tryz.prog 34 [(false, [.own 4 26 rows]), (false, [vI i]), (false, [.own 4 26 [x]])] (rOne (.own 4 26 (rows.take i ++ x :: rows.drop i))) := by
  refine meetsA Tryz.func34 rfl rfl Tryz.ntmps34 Tryz.results34 rfl ?_
  refine awp_spread 0 0 [(1, aI i), (2, aO 1)] [(1, some (.row 4 26 [x] true))] (Nat.zero_le _) rfl rfl ?_ ?_ fun junk hj => awp_vc sitOk ?_
  · simp -dsimp -implicitDefEqProofs only [resComps, go_sem, ↓reduceIte, reduceCtorEq, rn1, rn2, rn3, rn4, rn5, rn6, rn7, ri1, ri2, ri3, ri4, ri5]
  · simp -dsimp -implicitDefEqProofs only [resComps, go_sem, ↓reduceIte, reduceCtorEq, rn1, rn2, rn3, rn4, rn5, rn6, rn7, ri1, ri2, ri3, ri4, ri5]
  obtain ⟨R, hR⟩ : ∃ R, R = rows ++ junk := ⟨_, rfl⟩
  have e1 : R.take rows.length = rows := by rw [hR, List.take_left']; rfl
  have e0 : rows.length ≤ R.length := by rw [hR]; simp
  rw [← hR]
  clear hR hj
  have hw1 : IntKind.i64.wrap ((rows.length : Int) + 1) = ((rows.length + 1 : Nat) : Int) := by rw [wrap64] <;> omega
  have hw2 : IntKind.i64.wrap (((rows.length + 1 : Nat) : Int) - i) = ((rows.length + 1 - i : Nat) : Int) := by rw [wrap64] <;> omega
  have hw3 : IntKind.i64.wrap ((i : Int) + 1) = ((i + 1 : Nat) : Int) := by rw [wrap64] <;> omega
  have hc1 : (0 : Int) ≤ ((rows.length + 1 - i : Nat) : Int) := by omega
  have hc2 : ((rows.length + 1 - i : Nat) : Int) ≤ 9223372036854775807 := by omega
  have e2 : (R.take i).length = i := by rw [List.length_take]; omega
  have e3 : i + (rows.length + 1 - i) = rows.length + 1 := by omega
  have e4 : rows.length + 1 - i - 0 = rows.length + 1 - i := by omega
  have e5 : min 1 (rows.length + 1 - i) = 1 := by omega
  have e6 : ∀ z : List D, (splice (R.take i ++ List.replicate (rows.length + 1 - i) z) i [x]).length = rows.length + 1 := fun z => by
    have h : (R.take i ++ List.replicate (rows.length + 1 - i) z).length = rows.length + 1 := by rw [List.length_append, e2, List.length_replicate]; omega
    rw [splice_len (by rw [h, List.length_singleton]; omega), h]
  have e7 : i + (rows.length - i) = rows.length := by omega
  have e8 : (R.drop i).take (rows.length - i) = rows.drop i := by
    have : (R.take rows.length).drop i = rows.drop i := by rw [e1]
    rw [← this, List.drop_take]
  have e9 : rows.length + 1 - (i + 1) = rows.length - i := by omega
  have e10 : (rows.drop i).length = rows.length - i := by simp
  have e11 : (rows.drop i).take (rows.length - i) = rows.drop i := List.take_of_length_le (by simp)
  have e12 : i + 1 + (rows.length - i) = rows.length + 1 := by omega
  have e13 : ((R.drop i).take (rows.length + 1 - i)).take (rows.length - i) = rows.drop i := by rw [List.take_take, Nat.min_eq_left (by omega), e8]
  have e14 : min (rows.length + 1 - i) (rows.length - i) = rows.length - i := by omega
  have e15 : rows.length + 1 - i + i = rows.length + 1 := by omega
  have e16 : i + (rows.length + 1 - i) - i = rows.length + 1 - i := by omega
  have hend : (i : Int) = (rows.length : Int) → rows.take i ++ x :: rows.drop i = rows ++ [x] := fun h => by
    have : i = rows.length := by omega
    subst this
    simp
  by_cases hroom : rows.length + 1 ≤ R.length
  · have e17 : ((R.drop i).take (rows.length + 1 - i)).length = rows.length + 1 - i := by simp; omega
    have hl1 : (splice R (i + 1) (rows.drop i)).length = R.length := splice_len (by simp; omega)
    simp -dsimp -implicitDefEqProofs only [e0, e1, hw1, hw2, hw3, hc1, hc2, e2, e3, e4, e5, e6, e7, e8, e9, e10, e11, e12, e13, e14, e16, Nat.min_self, List.length_replicate, List.length_append, hroom, e17, go_sem, ↓reduceIte, reduceCtorEq, rn1, rn2, rn3, rn4, rn5, rn6, rn7, ri1, ri2, ri3, ri4, ri5]
    repeat' (first | with_reducible apply And.intro | with_reducible intro _ | with_reducible exact drawn (by kernel_rfl) | omega)
    · rw [splice_len (by rw [List.length_singleton]; omega)]; exact hroom
    · rename_i h
      rw [hend h, ins_end R rows x e1 e0]
    · rw [splice_len (by rw [List.length_singleton, hl1]; omega), hl1]; exact hroom
    · exact (ins_room R rows x i e1 hi hroom).symm
  · simp -dsimp -implicitDefEqProofs only [e0, e1, hw1, hw2, hw3, hc1, hc2, e2, e3, e4, e5, e6, e7, e8, e9, e10, e11, e12, e13, e14, e16, Nat.min_self, List.length_replicate, List.length_append, hroom, go_sem, ↓reduceIte, reduceCtorEq, rn1, rn2, rn3, rn4, rn5, rn6, rn7, ri1, ri2, ri3, ri4, ri5]
    repeat' (first | with_reducible apply And.intro | with_reducible intro _ | with_reducible exact drawn (by kernel_rfl) | omega)
    · rename_i h
      exact (hend h).symm
    · exact ins_new R rows x _ i e1 hi

end Go.Proofs.YtbgcpopmippbiaaGreatDoor
namespace Go.Proofs.YtbgcpopmippbiaaGreatDoor
open Go.Eng
set_option linter.unusedSimpArgs false
set_option maxRecDepth 10000

/-! ### Put, Drop -/
abbrev zoneO (a : Bs) (l : List Rec) : Bool × List CV := (true, [vS a, .own 4 26 (l.map Rec.cells)])
/-- Where a record stands, or would. -/
def posR (l : List Rec) (r : Rec) : Nat := bs (fun x => ordR x r) l 0 l.length
def hitR (l : List Rec) (r : Rec) : Bool := bsHit (fun x => ordR x r) l (posR l r)
def putL (l : List Rec) (r : Rec) : List Rec := if hitR l r then l.set (posR l r) r else l.take (posR l r) ++ r :: l.drop (posR l r)
def putE (a : Bs) (l : List Rec) (r : Rec) : Int :=
  if checkV a l = 0 then if formB r then if underB r.N a then if crowdB (putL l r) r.N then 120 else if 64 < (putL l r).length then 2 else 0 else 120 else 1 else checkV a l
def putA (a : Bs) (l : List Rec) (r : Rec) : Bs := if putE a l r = 0 then a else []
def putR (a : Bs) (l : List Rec) (r : Rec) : List Rec := if putE a l r = 0 then putL l r else []
def dropE (a : Bs) (l : List Rec) (r : Rec) : Int := if checkV a l = 0 then if hitR l r then 0 else 120 else checkV a l
def dropA (a : Bs) (l : List Rec) (r : Rec) : Bs := if dropE a l r = 0 then a else []
def dropR (a : Bs) (l : List Rec) (r : Rec) : List Rec := if dropE a l r = 0 then l.take (posR l r) ++ l.drop (posR l r + 1) else []
theorem putL_len (l : List Rec) (r : Rec) : (putL l r).length ≤ l.length + 1 := by
  unfold putL
  split
  · simp
  · simp; omega
theorem bs_le {α : Type} (c : α → Int) (l : List α) : ∀ (d lo hi : Nat), hi - lo = d → lo ≤ hi → bs c l lo hi ≤ hi := by
  intro d
  induction d using Nat.strongRecOn with
  | _ d ih =>
    intro lo hi hd h1
    rw [bs]
    split
    · split
      · split
        · exact ih (hi - ((lo + hi) / 2 + 1)) (by omega) _ _ rfl (by omega)
        · exact Nat.le_trans (ih ((lo + hi) / 2 - lo) (by omega) _ _ rfl (by omega)) (by omega)
      · omega
    · exact h1
theorem posR_le (l : List Rec) (r : Rec) : posR l r ≤ l.length := bs_le _ l l.length 0 l.length (by omega) (by omega)
theorem hit_lt {l : List Rec} {r : Rec} (h : hitR l r = true) : posR l r < l.length := by
  unfold hitR bsHit at h
  split at h
  · rename_i e; exact (List.getElem?_eq_some_iff.1 e).1
  · cases h
theorem find_ok (l : List Rec) (r : Rec) (hl : l.length ≤ 1000000) : Meets Tryz.prog 32 [(false, [vD (recsD l)]), r.arg, (false, [vD (.fn 33 [])])] (rTup [(false, [vI (posR l r : Nat)]), (false, [vB (hitR l r)])]) :=
  bsearch_ok l hl r _ (fun x => ordR x r) fun x _ => order_ok x r

theorem put_ok (a : Bs) (l : List Rec) (r : Rec) (hl : l.length ≤ 999999) : Meets Tryz.prog 9 [zoneA a l, r.arg] (rTup [zoneO (putA a l r) (putR a l r), (false, [vI (putE a l r)])]) := by
  have hlen := putL_len l r
  refine meets Tryz.func9 rfl rfl Tryz.ntmps9 Tryz.results9 rfl ?_
  simp -dsimp -implicitDefEqProofs only [go_sem, ↓reduceIte, reduceCtorEq, rn1, rn2, rn3, rn4, rn5, rn6, rn7, ri1, ri2, ri3, ri4, ri5]
  refine callP (zcheck_ok a l (by omega)) ?_
  simp -dsimp -implicitDefEqProofs only [go_sem, ↓reduceIte, reduceCtorEq, rn1, rn2, rn3, rn4, rn5, rn6, rn7, ri1, ri2, ri3, ri4, ri5]
  have cells0 : List.map Rec.cells ([] : List Rec) = [] := rfl
  have fin : ∀ e : Int, e ≠ 0 → putE a l r = e → ([] = putA a l r ∧ List.map Rec.cells (putR a l r) = []) ∧ e = putE a l r := fun e he h => by
    unfold putA putR
    rw [if_neg (by rw [h]; exact he), if_neg (by rw [h]; exact he)]
    exact ⟨⟨rfl, rfl⟩, h.symm⟩
  refine ⟨fun h0 => fin _ h0 (by unfold putE; rw [if_neg h0]), fun h0 => callP (formed_ok r) ?_⟩
  simp -dsimp -implicitDefEqProofs only [go_sem, ↓reduceIte, reduceCtorEq, rn1, rn2, rn3, rn4, rn5, rn6, rn7, ri1, ri2, ri3, ri4, ri5]
  refine ⟨fun h1 => fin _ (by decide) (by unfold putE; rw [if_pos h0, if_neg (by simp [h1])]), fun h1 => callP (under_ok _ _) ?_⟩
  simp -dsimp -implicitDefEqProofs only [go_sem, ↓reduceIte, reduceCtorEq, rn1, rn2, rn3, rn4, rn5, rn6, rn7, ri1, ri2, ri3, ri4, ri5]
  refine ⟨fun h2 => fin _ (by decide) (by unfold putE; rw [if_pos h0, if_pos h1, if_neg (by simp [h2])]), fun h2 => ?_⟩
  refine callP (clone_ok _ (by simp; omega)) ?_
  simp -dsimp -implicitDefEqProofs only [go_sem, ↓reduceIte, reduceCtorEq, rn1, rn2, rn3, rn4, rn5, rn6, rn7, ri1, ri2, ri3, ri4, ri5]
  refine callP (find_ok l r (by omega)) ?_
  have hp := posR_le l r
  have fin2 : crowdB (putL l r) r.N = true → putE a l r = 120 := fun h => by unfold putE; rw [if_pos h0, if_pos h1, if_pos h2, if_pos h]
  have fin3 : crowdB (putL l r) r.N = false → 64 < (putL l r).length → putE a l r = 2 := fun h h' => by unfold putE; rw [if_pos h0, if_pos h1, if_pos h2, if_neg (by simp [h]), if_pos h']
  have fin4 : crowdB (putL l r) r.N = false → ¬ 64 < (putL l r).length → putE a l r = 0 := fun h h' => by unfold putE; rw [if_pos h0, if_pos h1, if_pos h2, if_neg (by simp [h]), if_neg h']
  cases hh : hitR l r with
  | true =>
    have hlt := hit_lt hh
    have hput : (l.map Rec.cells).set (posR l r) [dT r.N, dI r.K, dT r.V, dI r.L] = (putL l r).map Rec.cells := by
      unfold putL; rw [if_pos hh, List.map_set]; rfl
    simp -dsimp -implicitDefEqProofs only [hh, go_sem, ↓reduceIte, reduceCtorEq, rn1, rn2, rn3, rn4, rn5, rn6, rn7, ri1, ri2, ri3, ri4, ri5]
    refine ⟨by omega, hlt, fun x hx => ?_⟩
    simp -dsimp -implicitDefEqProofs only [hput, go_sem, ↓reduceIte, reduceCtorEq, rn1, rn2, rn3, rn4, rn5, rn6, rn7, ri1, ri2, ri3, ri4, ri5]
    refine callP (crowded_ok a (putL l r) r.N (by omega)) ?_
    simp -dsimp -implicitDefEqProofs only [hput, List.length_map, go_sem, ↓reduceIte, reduceCtorEq, rn1, rn2, rn3, rn4, rn5, rn6, rn7, ri1, ri2, ri3, ri4, ri5]
    refine ⟨fun h3 => fin _ (by decide) (fin2 h3), fun h3 => ⟨fun h4 => fin _ (by decide) (fin3 h3 (by omega)), fun h4 => ?_⟩⟩
    have h5 := fin4 h3 (by omega)
    unfold putA putR
    rw [h5]; simp [h0]
  | false =>
    have hput : (l.map Rec.cells).take (posR l r) ++ [dT r.N, dI r.K, dT r.V, dI r.L] :: (l.map Rec.cells).drop (posR l r) = (putL l r).map Rec.cells := by
      unfold putL; rw [if_neg (by simp [hh])]; simp [List.map_append, List.map_take, List.map_drop, Rec.cells]
    simp -dsimp -implicitDefEqProofs only [hh, go_sem, ↓reduceIte, reduceCtorEq, rn1, rn2, rn3, rn4, rn5, rn6, rn7, ri1, ri2, ri3, ri4, ri5]
    refine callE [true, false, true] ?_
    simp -dsimp -implicitDefEqProofs only [go_sem, ↓reduceIte, reduceCtorEq, rn1, rn2, rn3, rn4, rn5, rn6, rn7, ri1, ri2, ri3, ri4, ri5]
    refine ⟨_, insert_ok (l.map Rec.cells) [dT r.N, dI r.K, dT r.V, dI r.L] (posR l r) (by simpa using hp) (by simp; omega), ?_⟩
    simp -dsimp -implicitDefEqProofs only [hput, go_sem, ↓reduceIte, reduceCtorEq, rn1, rn2, rn3, rn4, rn5, rn6, rn7, ri1, ri2, ri3, ri4, ri5]
    refine callP (crowded_ok a (putL l r) r.N (by omega)) ?_
    simp -dsimp -implicitDefEqProofs only [hput, List.length_map, go_sem, ↓reduceIte, reduceCtorEq, rn1, rn2, rn3, rn4, rn5, rn6, rn7, ri1, ri2, ri3, ri4, ri5]
    refine ⟨fun h3 => fin _ (by decide) (fin2 h3), fun h3 => ⟨fun h4 => fin _ (by decide) (fin3 h3 (by omega)), fun h4 => ?_⟩⟩
    have h5 := fin4 h3 (by omega)
    unfold putA putR
    rw [h5]; simp [h0]

end Go.Proofs.YtbgcpopmippbiaaGreatDoor
namespace Go.Proofs.YtbgcpopmippbiaaGreatDoor
open Go.Eng
set_option linter.unusedSimpArgs false
set_option maxRecDepth 10000

/-- The first record of a cut at a name. -/
def firstNs (l : List Rec) (n : Bs) : Option Rec := (atB l n).find? fun r => r.K == 3
def orO (x y : Option Rec) : Option Rec := match x with
  | some r => some r
  | none => y
/-- The highest cut. -/
def cutF (a : Bs) (l : List Rec) : Nat → Bs → Option Rec → Option Rec
  | 0, _, c => c
  | m + 1, s, c => if s = [] then c else if s = a then c else cutF a l m (upB s) (orO (firstNs l s) c)
def cutV (a : Bs) (l : List Rec) (s : Bs) (c : Option Rec) : Option Rec := cutF a l s.length s c
theorem cutF_same (a : Bs) (l : List Rec) : ∀ (m k : Nat) (s : Bs) (c : Option Rec), s.length ≤ m → s.length ≤ k → cutF a l m s c = cutF a l k s c
  | 0, 0, _, _, _, _ => rfl
  | 0, k + 1, s, c, h, _ => by
    have : s = [] := List.length_eq_zero_iff.1 (by omega)
    subst this
    simp [cutF]
  | m + 1, 0, s, c, _, h => by
    have : s = [] := List.length_eq_zero_iff.1 (by omega)
    subst this
    simp [cutF]
  | m + 1, k + 1, s, c, h1, h2 => by
    unfold cutF
    split
    · rfl
    · rename_i h
      have := upB_lt' h
      rw [cutF_same a l m k (upB s) _ (by omega) (by omega)]
theorem cutV_eq (a : Bs) (l : List Rec) (s : Bs) (c : Option Rec) : cutV a l s c = if s = [] then c else if s = a then c else cutV a l (upB s) (orO (firstNs l s) c) := by
  unfold cutV
  rw [cutF_same a l s.length (s.length + 1) s c (Nat.le_refl _) (by omega), cutF]
  split
  · rfl
  · rename_i h
    have := upB_lt' h
    rw [cutF_same a l s.length (upB s).length (upB s) _ (by omega) (Nat.le_refl _)]
def rowO (c : Option Rec) : List (List D) := match c with
  | some r => [r.cells]
  | none => []
structure CtInv (a : Bs) (l : List Rec) (s : Bs) where
  u : Bs
  c : Option Rec
  eq : cutV a l s none = cutV a l u c
structure CuInv (l : List Rec) (n : Bs) where
  i : Nat
  le : i ≤ l.length
  no : ∀ r ∈ atB (l.take i) n, ¬ r.K = 3

theorem firstNs_found {l : List Rec} {n : Bs} {i : Nat} {x : Rec} (hx : l[i]? = some x) (hN : x.N = n) (hK : x.K = 3) (h : ∀ r ∈ atB (l.take i) n, ¬ r.K = 3) : firstNs l n = some x := by
  have h1 : l = l.take i ++ x :: l.drop (i + 1) := by conv => lhs; rw [← List.take_append_drop i l, drop_at hx]
  have h2 : atB l n = atB (l.take i) n ++ x :: atB (l.drop (i + 1)) n := by
    conv => lhs; rw [h1]
    unfold atB
    rw [List.filter_append, List.filter_cons, if_pos (by simp [hN])]
  unfold firstNs
  rw [h2, List.find?_append]
  have h3 : (atB (l.take i) n).find? (fun r => r.K == 3) = none := by
    rw [List.find?_eq_none]
    intro r hr; simpa using h r hr
  rw [h3, List.find?_cons]
  simp [hK]
theorem firstNs_none {l : List Rec} {n : Bs} (h : ∀ r ∈ atB l n, ¬ r.K = 3) : firstNs l n = none := by
  unfold firstNs
  rw [List.find?_eq_none]
  intro r hr; simpa using h r hr
theorem no_step {l : List Rec} {n : Bs} {i : Nat} {x : Rec} (hx : l[i]? = some x) (h : ∀ r ∈ atB (l.take i) n, ¬ r.K = 3) (h2 : x.N = n → ¬ x.K = 3) : ∀ r ∈ atB (l.take (i + 1)) n, ¬ r.K = 3 := by
  rw [atB_step n hx]
  intro r hr
  rcases List.mem_append.1 hr with hr | hr
  · exact h r hr
  · split at hr
    · rename_i e; simp at hr; rw [hr]; exact h2 e
    · simp at hr

theorem cut_ok' (a : Bs) (l : List Rec) (s : Bs) (hl : l.length ≤ 1000000) : Meets Tryz.prog 174 [zoneA a l, (false, [vS s])] (rOne (.own 4 26 (rowO (cutV a l s none)))) := by
  refine meets Tryz.func174 rfl rfl Tryz.ntmps174 Tryz.results174 rfl ?_
  simp -dsimp -implicitDefEqProofs only [go_sem, ↓reduceIte, reduceCtorEq, rn1, rn2, rn3, rn4, rn5, rn6, rn7, ri1, ri2, ri3, ri4, ri5]
  refine vown 8 0 26 rfl ?_
  simp -dsimp -implicitDefEqProofs only [go_sem, ↓reduceIte, reduceCtorEq, rn1, rn2, rn3, rn4, rn5, rn6, rn7, ri1, ri2, ri3, ri4, ri5]
  refine vforR sitOk [(400, 32)] (ι := CtInv a l s) (fun v => ⟨28, [(5, aS v.u), (4, aP 8 0), (2, aP 0 0)], [(8, some (.var [.own 400] true)), (400, some (.row 4 26 (rowO v.c) true)), (0, some (.var [cS a, cD (recsD l)] true))], 401⟩) (fun v => v.u.length) ⟨s, none, rfl⟩ ?_ ?_
  · simp -dsimp -implicitDefEqProofs only [rowO, go_sem, ↓reduceIte, reduceCtorEq, rn1, rn2, rn3, rn4, rn5, rn6, rn7, ri1, ri2, ri3, ri4, ri5]
  intro ⟨u, c, he⟩
  simp -dsimp -implicitDefEqProofs only [go_sem, ↓reduceIte, reduceCtorEq, rn1, rn2, rn3, rn4, rn5, rn6, rn7, ri1, ri2, ri3, ri4, ri5]
  have hstop : (u = [] ∨ u = a) → cutV a l s none = c := fun h => by
    rw [he, cutV_eq]
    rcases h with h | h
    · rw [if_pos h]
    · rw [if_pos h]; split <;> rfl
  have hstep : ¬ u = [] → ¬ u = a → cutV a l s none = cutV a l (upB u) (orO (firstNs l u) c) := fun h1 h2 => by
    rw [he, cutV_eq, if_neg h1, if_neg h2]
  refine ⟨fun h1 => ⟨fun h2 => ?_, fun h2 => ?_⟩, fun h1 => ?_⟩
  · have hst := hstep h1 h2
    refine callW rfl Tryz.func89 rfl rfl Tryz.ntmps89 Tryz.results89 rfl ?_
    simp -dsimp -implicitDefEqProofs only [retH, go_sem, ↓reduceIte, reduceCtorEq, rn1, rn2, rn3, rn4, rn5, rn6, rn7, ri1, ri2, ri3, ri4, ri5]
    refine vrange sitOk rfl [] [(5, aS u), (4, aP 8 0), (2, aP 0 0)] rfl rfl ?_ Tryz.func165 rfl rfl Tryz.ntmps165 Tryz.results165 rfl ?_
    · simp -dsimp -implicitDefEqProofs only [go_sem, ↓reduceIte, reduceCtorEq, rn1, rn2, rn3, rn4, rn5, rn6, rn7, ri1, ri2, ri3, ri4, ri5]
    simp -dsimp -implicitDefEqProofs only [go_sem, ↓reduceIte, reduceCtorEq, rn1, rn2, rn3, rn4, rn5, rn6, rn7, ri1, ri2, ri3, ri4, ri5]
    generalize hL : Lp.mk 28 _ _ _ _ _ = L
    refine vfor sitOk (ι := CuInv l u) (fun v => ⟨24, [(9, aI v.i), (8, aI l.length), (7, aD (recsD l)), (0, .cs false [.yld 545]), (1, aP 481 0), (2, aP 489 0)],
      [(545, some (.lp L)), (489, some (.var [cS u] true)), (481, some (.var [cS a, cD (recsD l)] true)), (8, some (.var [.own 400] true)), (400, some (.row 4 26 (rowO c) true)), (0, some (.var [cS a, cD (recsD l)] true))], 1000⟩) (fun v => l.length - v.i) ⟨0, by omega, by simp [atB]⟩ ?_ ?_
    · simp -dsimp -implicitDefEqProofs only [← hL, go_sem, ↓reduceIte, reduceCtorEq, rn1, rn2, rn3, rn4, rn5, rn6, rn7, ri1, ri2, ri3, ri4, ri5]
    intro ⟨i, hi, hno⟩
    simp -dsimp -implicitDefEqProofs only [go_sem, ↓reduceIte, reduceCtorEq, rn1, rn2, rn3, rn4, rn5, rn6, rn7, ri1, ri2, ri3, ri4, ri5]
    refine ⟨fun hlt => ?_, fun hge => ?_⟩
    · have hil : i < l.length := by omega
      obtain ⟨x, hx⟩ : ∃ x, l[i]? = some x := ⟨_, List.getElem?_eq_getElem hil⟩
      have hw := wrapS hil (by omega)
      simp -dsimp -implicitDefEqProofs only [hx, forall_eq', hw, go_sem, ↓reduceIte, reduceCtorEq, rn1, rn2, rn3, rn4, rn5, rn6, rn7, ri1, ri2, ri3, ri4, ri5]
      refine ⟨by omega, hil, fun h => yieldW sitOk ?_, fun h => ?_⟩
      · simp -dsimp -implicitDefEqProofs only [← hL, go_sem, ↓reduceIte, reduceCtorEq, rn1, rn2, rn3, rn4, rn5, rn6, rn7, ri1, ri2, ri3, ri4, ri5]
        intro ro
        refine ⟨fun h3 => ?_, fun h3 => ?_⟩
        · simp -dsimp -implicitDefEqProofs only [retH, ← hL, go_sem, ↓reduceIte, reduceCtorEq, rn1, rn2, rn3, rn4, rn5, rn6, rn7, ri1, ri2, ri3, ri4, ri5]
          refine callP (up_ok u) ?_
          simp -dsimp -implicitDefEqProofs only [go_sem, ↓reduceIte, reduceCtorEq, rn1, rn2, rn3, rn4, rn5, rn6, rn7, ri1, ri2, ri3, ri4, ri5]
          refine againO 400 8 0 ⟨upB u, some x, by rw [hst, firstNs_found hx h h3 hno]; rfl⟩ (upB_lt' h1) ?_
          simp -dsimp -implicitDefEqProofs only [rowO, go_sem, ↓reduceIte, reduceCtorEq, rn1, rn2, rn3, rn4, rn5, rn6, rn7, ri1, ri2, ri3, ri4, ri5]
        · refine again ⟨i + 1, by omega, no_step hx hno fun _ => h3⟩ (by simp; omega) ?_
          simp -dsimp -implicitDefEqProofs only [← hL, hw, go_sem, ↓reduceIte, reduceCtorEq, rn1, rn2, rn3, rn4, rn5, rn6, rn7, ri1, ri2, ri3, ri4, ri5]
      · refine again ⟨i + 1, by omega, no_step hx hno fun e => absurd e h⟩ (by simp; omega) ?_
        simp -dsimp -implicitDefEqProofs only [← hL, hw, go_sem, ↓reduceIte, reduceCtorEq, rn1, rn2, rn3, rn4, rn5, rn6, rn7, ri1, ri2, ri3, ri4, ri5]
    · have hil : i = l.length := by omega
      subst hil
      rw [List.take_length] at hno
      rw [firstNs_none hno] at hst
      simp -dsimp -implicitDefEqProofs only [retH, ← hL, go_sem, ↓reduceIte, reduceCtorEq, rn1, rn2, rn3, rn4, rn5, rn6, rn7, ri1, ri2, ri3, ri4, ri5]
      refine callP (up_ok u) ?_
      simp -dsimp -implicitDefEqProofs only [go_sem, ↓reduceIte, reduceCtorEq, rn1, rn2, rn3, rn4, rn5, rn6, rn7, ri1, ri2, ri3, ri4, ri5]
      refine againO 400 8 0 ⟨upB u, c, by rw [hst]; rfl⟩ (upB_lt' h1) ?_
      simp -dsimp -implicitDefEqProofs only [go_sem, ↓reduceIte, reduceCtorEq, rn1, rn2, rn3, rn4, rn5, rn6, rn7, ri1, ri2, ri3, ri4, ri5]
  · rw [hstop (.inr h2)]
  · rw [hstop (.inl h1)]
end Go.Proofs.YtbgcpopmippbiaaGreatDoor
namespace Go.Proofs.YtbgcpopmippbiaaGreatDoor
open Go.Eng
set_option linter.unusedSimpArgs false
set_option maxRecDepth 10000

def aliasL (l : List Rec) (n : Bs) (k : Int) : List Rec := (atB l n).filter fun r => r.K == 4 && k != 4
def ofL (l : List Rec) (n : Bs) (k : Int) : List Rec := (atB l n).filter fun r => r.K == k
def lastV (l : List Rec) : Bs := match l.getLast? with
  | some r => r.V
  | none => []
def digV : Bs → Int
  | d :: _ => (d.toNat : Int) - 48
  | [] => 0
/-- An answer: Kind, Recs, To, Alias. -/
structure An where
  K : Int
  R : List Rec
  T : Int
  A : Bs
  deriving DecidableEq
def askE (a : Bs) (l : List Rec) (n : Bs) (k : Int) : Int :=
  if checkV a l = 0 then if isName n = true ∧ 1 ≤ k ∧ k ≤ 5 then if underB n a then 0 else 120 else 1 else checkV a l
def askW (a : Bs) (l : List Rec) (n : Bs) (k : Int) : An := match cutV a l n none with
  | some c => ⟨4, [c], digV c.V, []⟩
  | none => if aliasL l n k ≠ [] then ⟨5, aliasL l n k, 0, lastV (aliasL l n k)⟩
    else if ofL l n k ≠ [] then ⟨1, ofL l n k, 0, []⟩
    else if l.any (fun r => underB r.N n) then ⟨2, [], 0, []⟩ else ⟨3, [], 0, []⟩
def askV (a : Bs) (l : List Rec) (n : Bs) (k : Int) : An := if askE a l n k = 0 then askW a l n k else ⟨0, [], 0, []⟩
abbrev ansO (x : An) : Bool × List CV := (true, [vI x.K, .own 4 26 (x.R.map Rec.cells), vI x.T, vS x.A])

theorem checkV_zero {a : Bs} {l : List Rec} (h : checkV a l = 0) : apexB a = true ∧ (∀ i, i < l.length → goodAt a l i = true) ∧ l.length ≤ 64 := by
  unfold checkV at h
  split at h
  · rename_i hk
    simp only [okZ, Bool.and_eq_true] at hk
    refine ⟨hk.1, fun i hi => List.all_eq_true.1 hk.2 i (List.mem_range.2 hi), ?_⟩
    split at h
    · cases h
    · omega
  · cases h
theorem good_mem {a : Bs} {l : List Rec} (h : checkV a l = 0) {r : Rec} (hr : r ∈ l) : formB r = true ∧ underB r.N a = true ∧ crowdB l r.N = false := by
  obtain ⟨i, hi⟩ := List.mem_iff_getElem?.1 hr
  have h1 := (checkV_zero h).2.1 i (List.getElem?_eq_some_iff.1 hi).1
  unfold goodAt at h1
  rw [hi] at h1
  simp only [Bool.and_eq_true, Bool.not_eq_true'] at h1
  exact ⟨h1.1.1.1, h1.1.1.2, h1.2⟩
theorem firstNs_mem {l : List Rec} {n : Bs} {c : Rec} (h : firstNs l n = some c) : c ∈ l ∧ c.K = 3 ∧ c.N = n := by
  unfold firstNs at h
  have h1 := List.mem_of_find?_eq_some h
  have h2 := List.find?_some h
  unfold atB at h1
  rw [List.mem_filter] at h1
  exact ⟨h1.1, by simpa using h2, by simpa using h1.2⟩
theorem cutV_mem {a : Bs} {l : List Rec} : ∀ (m : Nat) (s : Bs) (c0 : Option Rec) (c : Rec), s.length ≤ m → cutV a l s c0 = some c → c0 = some c ∨ (c ∈ l ∧ c.K = 3) := by
  intro m
  induction m with
  | zero =>
    intro s c0 c hm h
    have : s = [] := List.length_eq_zero_iff.1 (by omega)
    rw [cutV_eq, if_pos this] at h
    exact .inl h
  | succ m ih =>
    intro s c0 c hm h
    rw [cutV_eq] at h
    split at h
    · exact .inl h
    · rename_i hs
      split at h
      · exact .inl h
      · have hlt := upB_lt' hs
        rcases ih _ _ _ (by omega) h with h1 | h1
        · unfold orO at h1
          split at h1
          · rename_i r hr; cases h1; exact .inr ⟨(firstNs_mem hr).1, (firstNs_mem hr).2.1⟩
          · exact .inl h1
        · exact .inr h1
theorem form_ns {r : Rec} (h : formB r = true) (hk : r.K = 3) : ∃ d : UInt8, r.V = [d] ∧ 48 ≤ d.toNat ∧ d.toNat ≤ 55 := by
  simp only [formB, fitsB, Bool.and_eq_true] at h
  have h1 := h.1.1.1
  rw [if_neg (by omega), if_pos hk] at h1
  unfold digitB at h1
  split at h1
  · rename_i c e; simp at h1; exact ⟨c, e, h1⟩
  · cases h1
theorem form_alias {r : Rec} (h : formB r = true) (hk : r.K = 4) : isName r.V = true := by
  simp only [formB, fitsB, Bool.and_eq_true] at h
  have h1 := h.1.1.1
  rwa [if_neg (by omega), if_neg (by omega), if_pos hk] at h1

theorem underC_ok (r : Rec) (n : Bs) : Meets Tryz.prog 178 [r.arg, (false, [vD (.pt [dT n])])] (rOne (vB (underB r.N n))) := by
  refine meets Tryz.func178 rfl rfl Tryz.ntmps178 Tryz.results178 rfl ?_
  simp -dsimp -implicitDefEqProofs only [go_sem, ↓reduceIte, reduceCtorEq, rn1, rn2, rn3, rn4, rn5, rn6, rn7, ri1, ri2, ri3, ri4, ri5]
  refine callP (under_ok _ _) ?_
  simp -dsimp -implicitDefEqProofs only [go_sem, ↓reduceIte, reduceCtorEq, rn1, rn2, rn3, rn4, rn5, rn6, rn7, ri1, ri2, ri3, ri4, ri5]
def idxU (l : List Rec) (n : Bs) : Int := match l.findIdx? fun r => underB r.N n with
  | some i => (i : Nat)
  | none => -1
structure CfInv (l : List Rec) (n : Bs) where
  i : Nat
  le : i ≤ l.length
  no : ∀ j x, j < i → l[j]? = some x → underB x.N n = false
theorem indexU_ok (l : List Rec) (n : Bs) (hl : l.length ≤ 1000000) : Meets Tryz.prog 166 [(false, [vD (recsD l)]), (false, [vD (.fn 178 [.pt [dT n]])])] (rOne (vI (idxU l n))) := by
  refine meets Tryz.func166 rfl rfl Tryz.ntmps166 Tryz.results166 rfl ?_
  simp -dsimp -implicitDefEqProofs only [go_sem, ↓reduceIte, reduceCtorEq, rn1, rn2, rn3, rn4, rn5, rn6, rn7, ri1, ri2, ri3, ri4, ri5]
  refine vfor sitOk (ι := CfInv l n) (fun v => ⟨19, [(8, aI v.i), (7, aI l.length), (0, aD (recsD l)), (1, aD (.fn 178 [.pt [dT n]]))], [], 8⟩) (fun v => l.length - v.i) ⟨0, by omega, fun j x hj => by omega⟩ ?_ ?_
  · simp -dsimp -implicitDefEqProofs only [go_sem, ↓reduceIte, reduceCtorEq, rn1, rn2, rn3, rn4, rn5, rn6, rn7, ri1, ri2, ri3, ri4, ri5]
  intro ⟨i, hi, hno⟩
  simp -dsimp -implicitDefEqProofs only [go_sem, ↓reduceIte, reduceCtorEq, rn1, rn2, rn3, rn4, rn5, rn6, rn7, ri1, ri2, ri3, ri4, ri5]
  refine ⟨fun hlt => ?_, fun hge => ?_⟩
  · have hil : i < l.length := by omega
    obtain ⟨x, hx⟩ : ∃ x, l[i]? = some x := ⟨_, List.getElem?_eq_getElem hil⟩
    have hw := wrapS hil (by omega)
    simp -dsimp -implicitDefEqProofs only [hx, forall_eq', hw, go_sem, ↓reduceIte, reduceCtorEq, rn1, rn2, rn3, rn4, rn5, rn6, rn7, ri1, ri2, ri3, ri4, ri5]
    refine ⟨by omega, hil, callP (underC_ok x n) ?_⟩
    simp -dsimp -implicitDefEqProofs only [hw, go_sem, ↓reduceIte, reduceCtorEq, rn1, rn2, rn3, rn4, rn5, rn6, rn7, ri1, ri2, ri3, ri4, ri5]
    refine ⟨fun h => ?_, fun h => ?_⟩
    · have : (l.findIdx? fun r => underB r.N n) = some i := by
        rw [List.findIdx?_eq_some_iff_getElem]
        refine ⟨hil, ?_, fun j hj => ?_⟩
        · have := Option.some.inj ((List.getElem?_eq_getElem hil).symm.trans hx)
          rw [this]; exact h
        · have hjl : j < l.length := by omega
          have := hno j l[j] hj (List.getElem?_eq_getElem hjl)
          simp [this]
      unfold idxU; rw [this]
    · refine again ⟨i + 1, by omega, fun j y hj hy => ?_⟩ (by simp; omega) ?_
      · by_cases hji : j = i
        · subst hji; rw [hx] at hy; cases hy; exact h
        · exact hno j y (by omega) hy
      · simp -dsimp -implicitDefEqProofs only [go_sem, ↓reduceIte, reduceCtorEq, rn1, rn2, rn3, rn4, rn5, rn6, rn7, ri1, ri2, ri3, ri4, ri5]
  · have : (l.findIdx? fun r => underB r.N n) = none := by
      rw [List.findIdx?_eq_none_iff]
      intro x hx
      obtain ⟨j, hj⟩ := List.mem_iff_getElem?.1 hx
      exact hno j x (by have := (List.getElem?_eq_some_iff.1 hj).1; omega) hj
    unfold idxU; rw [this]
theorem containsU_ok (l : List Rec) (n : Bs) (hl : l.length ≤ 1000000) : Meets Tryz.prog 91 [(false, [vD (recsD l)]), (false, [vD (.fn 178 [.pt [dT n]])])] (rOne (vB (l.any fun r => underB r.N n))) := by
  refine meets Tryz.func91 rfl rfl Tryz.ntmps91 Tryz.results91 rfl ?_
  simp -dsimp -implicitDefEqProofs only [go_sem, ↓reduceIte, reduceCtorEq, rn1, rn2, rn3, rn4, rn5, rn6, rn7, ri1, ri2, ri3, ri4, ri5]
  refine callP (indexU_ok l n hl) ?_
  simp -dsimp -implicitDefEqProofs only [go_sem, ↓reduceIte, reduceCtorEq, rn1, rn2, rn3, rn4, rn5, rn6, rn7, ri1, ri2, ri3, ri4, ri5]
  unfold idxU
  cases h : l.findIdx? fun r => underB r.N n with
  | none =>
    rw [List.findIdx?_eq_none_iff] at h
    have : (l.any fun r => underB r.N n) = false := by
      rw [List.any_eq_false]; intro x hx; simpa using h x hx
    rw [this]; rfl
  | some i =>
    obtain ⟨hi, h1, _⟩ := List.findIdx?_eq_some_iff_getElem.1 h
    have : (l.any fun r => underB r.N n) = true := List.any_eq_true.2 ⟨_, List.getElem_mem hi, h1⟩
    rw [this]; simp

theorem aliasL_step {l : List Rec} {i : Nat} {x : Rec} (n : Bs) (k : Int) (h : l[i]? = some x) : aliasL (l.take (i + 1)) n k = aliasL (l.take i) n k ++ (if x.N = n ∧ x.K = 4 ∧ ¬ k = x.K then [x] else []) := by
  unfold aliasL
  rw [atB_step n h, List.filter_append]
  congr 1
  by_cases h1 : x.N = n
  · rw [if_pos h1, List.filter_cons, List.filter_nil]
    by_cases h2 : x.K = 4
    · by_cases h3 : k = 4
      · simp [h1, h2, h3]
      · simp [h1, h2, h3]
    · simp [h2]
  · simp [h1]
theorem ofL_step {l : List Rec} {i : Nat} {x : Rec} (n : Bs) (k : Int) (h : l[i]? = some x) : ofL (l.take (i + 1)) n k = ofL (l.take i) n k ++ (if x.N = n ∧ x.K = k then [x] else []) := by
  unfold ofL
  rw [atB_step n h, List.filter_append]
  congr 1
  by_cases h1 : x.N = n
  · rw [if_pos h1, List.filter_cons, List.filter_nil]
    by_cases h2 : x.K = k
    · simp [h1, h2]
    · simp [h2]
  · simp [h1]
theorem aliasL_len (l : List Rec) (n : Bs) (k : Int) : (aliasL l n k).length ≤ l.length := Nat.le_trans (List.length_filter_le ..) (atB_len l n)
theorem ofL_len (l : List Rec) (n : Bs) (k : Int) : (ofL l n k).length ≤ l.length := Nat.le_trans (List.length_filter_le ..) (atB_len l n)

theorem ask_ok (a : Bs) (l : List Rec) (n : Bs) (k : Int) (hl : l.length ≤ 1000000) : Meets Tryz.prog 109 [zoneA a l, (false, [vS n]), (false, [vI k])] (rTup [ansO (askV a l n k), (false, [vI (askE a l n k)])]) := by
  refine meets Tryz.func109 rfl rfl Tryz.ntmps109 Tryz.results109 rfl ?_
  simp -dsimp -implicitDefEqProofs only [go_sem, ↓reduceIte, reduceCtorEq, rn1, rn2, rn3, rn4, rn5, rn6, rn7, ri1, ri2, ri3, ri4, ri5]
  refine callP (zcheck_ok a l hl) ?_
  simp -dsimp -implicitDefEqProofs only [go_sem, ↓reduceIte, reduceCtorEq, rn1, rn2, rn3, rn4, rn5, rn6, rn7, ri1, ri2, ri3, ri4, ri5]
  have fin : ∀ e : Int, e ≠ 0 → askE a l n k = e → askV a l n k = ⟨0, [], 0, []⟩ ∧ e = askE a l n k := fun e he h => by
    unfold askV
    rw [if_neg (by rw [h]; exact he)]
    exact ⟨rfl, h.symm⟩
  by_cases h0 : checkV a l = 0
  · by_cases h1 : isName n = true ∧ 1 ≤ k ∧ k ≤ 5
    · obtain ⟨h1a, h1b, h1c⟩ := h1
      have h1d : ¬ k < 1 := by omega
      have h1e : ¬ 5 < k := by omega
      simp -dsimp -implicitDefEqProofs only [h0, go_sem, ↓reduceIte, reduceCtorEq, rn1, rn2, rn3, rn4, rn5, rn6, rn7, ri1, ri2, ri3, ri4, ri5]
      refine callP (named_ok n) ?_
      simp -dsimp -implicitDefEqProofs only [h1a, h1d, h1e, go_sem, ↓reduceIte, reduceCtorEq, rn1, rn2, rn3, rn4, rn5, rn6, rn7, ri1, ri2, ri3, ri4, ri5]
      refine callP (under_ok _ _) ?_
      cases h2 : underB n a with
      | false =>
        obtain ⟨q1, q2⟩ := fin 120 (by decide) (by unfold askE; rw [if_pos h0, if_pos ⟨h1a, h1b, h1c⟩, if_neg (by simp [h2])])
        simp -dsimp -implicitDefEqProofs only [h2, q1, ← q2, List.map_nil, go_sem, ↓reduceIte, reduceCtorEq, rn1, rn2, rn3, rn4, rn5, rn6, rn7, ri1, ri2, ri3, ri4, ri5]
      | true =>
        have he : askE a l n k = 0 := by unfold askE; rw [if_pos h0, if_pos ⟨h1a, h1b, h1c⟩, if_pos h2]
        have hv : askV a l n k = askW a l n k := by unfold askV; rw [if_pos he]
        rw [he, hv]
        simp -dsimp -implicitDefEqProofs only [h2, go_sem, ↓reduceIte, reduceCtorEq, rn1, rn2, rn3, rn4, rn5, rn6, rn7, ri1, ri2, ri3, ri4, ri5]
        refine vfreeze 8 rfl ?_
        simp -dsimp -implicitDefEqProofs only [go_sem, ↓reduceIte, reduceCtorEq, rn1, rn2, rn3, rn4, rn5, rn6, rn7, ri1, ri2, ri3, ri4, ri5]
        refine vrounds 6 sitOk ?_
        simp -dsimp -implicitDefEqProofs only [go_sem, ↓reduceIte, reduceCtorEq, rn1, rn2, rn3, rn4, rn5, rn6, rn7, ri1, ri2, ri3, ri4, ri5]
        refine vround ?_
        simp -dsimp -implicitDefEqProofs only [go_sem, ↓reduceIte, reduceCtorEq, rn1, rn2, rn3, rn4, rn5, rn6, rn7, ri1, ri2, ri3, ri4, ri5]
        refine callW rfl Tryz.func173 rfl rfl Tryz.ntmps173 Tryz.results173 rfl ?_
        simp -dsimp -implicitDefEqProofs only [go_sem, ↓reduceIte, reduceCtorEq, rn1, rn2, rn3, rn4, rn5, rn6, rn7, ri1, ri2, ri3, ri4, ri5]
        refine callP (cut_ok' a l n hl) ?_
        cases hc : cutV a l n none with
        | some c =>
          rcases cutV_mem n.length n none c (Nat.le_refl _) hc with q | ⟨hcm, hck⟩
          · cases q
          obtain ⟨d, hd, hd1, hd2⟩ := form_ns (good_mem h0 hcm).1 hck
          have hw : IntKind.u8.wrap ((d.toNat : Int) - 48) = (d.toNat : Int) - 48 := by simp [IntKind.wrap, IntKind.signed, IntKind.bits]; omega
          have hw2 : IntKind.i64.wrap ((d.toNat : Int) - 48) = (d.toNat : Int) - 48 := by rw [wrap64] <;> omega
          have hask : askW a l n k = ⟨4, [c], (d.toNat : Int) - 48, []⟩ := by unfold askW; rw [hc]; simp [digV, hd]
          rw [hask]
          simp -dsimp -implicitDefEqProofs only [retH, rowO, hd, hw, hw2, go_sem, ↓reduceIte, reduceCtorEq, rn1, rn2, rn3, rn4, rn5, rn6, rn7, ri1, ri2, ri3, ri4, ri5]
          exact h0
        | none =>
          have w1 : IntKind.i64.wrap ((0 : Int) + 1) = 1 := by decide
          have w2 : IntKind.i64.wrap ((1 : Int) + 1) = 2 := by decide
          have w3 : IntKind.i64.wrap ((2 : Int) + 1) = 3 := by decide
          have w4 : IntKind.i64.wrap ((3 : Int) + 1) = 4 := by decide
          have hlv0 : lastV [] = [] := rfl
          have t1 : Int.toNat 1 = 1 := rfl
          have t2 : Int.toNat 2 = 2 := rfl
          have t3 : Int.toNat 3 = 3 := rfl
          have t4 : Int.toNat 4 = 4 := rfl
          simp -dsimp -implicitDefEqProofs only [retH, rowO, w1, go_sem, ↓reduceIte, reduceCtorEq, rn1, rn2, rn3, rn4, rn5, rn6, rn7, ri1, ri2, ri3, ri4, ri5]
          refine vround ?_
          simp -dsimp -implicitDefEqProofs only [w2, t1, go_sem, ↓reduceIte, reduceCtorEq, rn1, rn2, rn3, rn4, rn5, rn6, rn7, ri1, ri2, ri3, ri4, ri5]
          refine callW rfl Tryz.func175 rfl rfl Tryz.ntmps175 Tryz.results175 rfl ?_
          simp -dsimp -implicitDefEqProofs only [go_sem, ↓reduceIte, reduceCtorEq, rn1, rn2, rn3, rn4, rn5, rn6, rn7, ri1, ri2, ri3, ri4, ri5]
          refine callW rfl Tryz.func89 rfl rfl Tryz.ntmps89 Tryz.results89 rfl ?_
          simp -dsimp -implicitDefEqProofs only [retH, go_sem, ↓reduceIte, reduceCtorEq, rn1, rn2, rn3, rn4, rn5, rn6, rn7, ri1, ri2, ri3, ri4, ri5]
          refine vren [(600, 344)] ⟨32, [(9, .cs false [.clo 165 [.ptr 536 0, .ptr 544 0]]), (6, aP 24 0), (4, aB false), (0, aP 24 0), (1, aP 0 0), (2, aP 8 0), (3, aP 16 0)],
            [(544, some (.var [cS n] true)), (536, some (.var [cS a, cD (recsD l)] true)), (24, some (.var [cI 5, .own 600, cI 0, cS []] true)), (600, some (.row 4 26 [] true)),
             (256, some (.var [.clo 173 [.ptr 0 0, .ptr 8 0, .ptr 24 0], .clo 175 [.ptr 24 0, .ptr 0 0, .ptr 8 0, .ptr 16 0], .clo 176 [.ptr 24 0, .ptr 0 0, .ptr 8 0, .ptr 16 0], .clo 177 [.ptr 24 0, .ptr 0 0, .ptr 8 0], .clo 179 [.ptr 24 0]] true)), (16, some (.var [cI k] true)), (8, some (.var [cS n] false)), (0, some (.var [cS a, cD (recsD l)] true))], 601⟩ ?_ ?_
          · simp -dsimp -implicitDefEqProofs only [go_sem, ↓reduceIte, reduceCtorEq, rn1, rn2, rn3, rn4, rn5, rn6, rn7, ri1, ri2, ri3, ri4, ri5]
          refine vrange sitOk rfl [600] [(6, aP 24 0), (0, aP 24 0), (1, aP 0 0), (2, aP 8 0), (3, aP 16 0)] rfl rfl ?_ Tryz.func165 rfl rfl Tryz.ntmps165 Tryz.results165 rfl ?_
          · simp -dsimp -implicitDefEqProofs only [go_sem, ↓reduceIte, reduceCtorEq, rn1, rn2, rn3, rn4, rn5, rn6, rn7, ri1, ri2, ri3, ri4, ri5]
          simp -dsimp -implicitDefEqProofs only [go_sem, ↓reduceIte, reduceCtorEq, rn1, rn2, rn3, rn4, rn5, rn6, rn7, ri1, ri2, ri3, ri4, ri5]
          generalize hL : Lp.mk 32 _ _ _ _ _ = L
          refine vfor sitOk (ι := CwInv l) (fun v => ⟨24, [(9, aI v.i), (8, aI l.length), (7, aD (recsD l)), (0, .cs false [.yld 601]), (1, aP 536 0), (2, aP 544 0)],
            [(601, some (.lp L)), (544, some (.var [cS n] true)), (536, some (.var [cS a, cD (recsD l)] true)), (24, some (.var [cI 5, .own 600, cI 0, cS (lastV (aliasL (l.take v.i) n k))] true)), (600, some (.row 4 26 ((aliasL (l.take v.i) n k).map Rec.cells) true)), (256, some (.var [.clo 173 [.ptr 0 0, .ptr 8 0, .ptr 24 0], .clo 175 [.ptr 24 0, .ptr 0 0, .ptr 8 0, .ptr 16 0], .clo 176 [.ptr 24 0, .ptr 0 0, .ptr 8 0, .ptr 16 0], .clo 177 [.ptr 24 0, .ptr 0 0, .ptr 8 0], .clo 179 [.ptr 24 0]] true)), (16, some (.var [cI k] true)), (8, some (.var [cS n] false)), (0, some (.var [cS a, cD (recsD l)] true))], 1000⟩) (fun v => l.length - v.i) ⟨0, by omega⟩ ?_ ?_
          · simp -dsimp -implicitDefEqProofs only [← hL, go_sem, ↓reduceIte, reduceCtorEq, rn1, rn2, rn3, rn4, rn5, rn6, rn7, ri1, ri2, ri3, ri4, ri5]
            simp [aliasL, atB, lastV]
          intro ⟨i, hi⟩
          have hall := aliasL_len (l.take i) n k
          have htl : (l.take i).length ≤ l.length := by simp; omega
          simp -dsimp -implicitDefEqProofs only [go_sem, ↓reduceIte, reduceCtorEq, rn1, rn2, rn3, rn4, rn5, rn6, rn7, ri1, ri2, ri3, ri4, ri5]
          refine ⟨fun hlt => ?_, fun hge => ?_⟩
          · have hil : i < l.length := by omega
            obtain ⟨x, hx⟩ : ∃ x, l[i]? = some x := ⟨_, List.getElem?_eq_getElem hil⟩
            have hst := aliasL_step n k hx
            have hw := wrapS hil (by omega)
            simp -dsimp -implicitDefEqProofs only [hx, forall_eq', hw, go_sem, ↓reduceIte, reduceCtorEq, rn1, rn2, rn3, rn4, rn5, rn6, rn7, ri1, ri2, ri3, ri4, ri5]
            refine ⟨by omega, hil, fun h => yieldW sitOk ?_, fun h => ?_⟩
            · simp -dsimp -implicitDefEqProofs only [← hL, go_sem, ↓reduceIte, reduceCtorEq, rn1, rn2, rn3, rn4, rn5, rn6, rn7, ri1, ri2, ri3, ri4, ri5]
              intro ro
              have hrl : (aliasL (l.take i) n k).length ≤ 9223372036854775806 ∧ ((aliasL (l.take i) n k).length + 1) * 48 ≤ 140737488355328 := by omega
              refine ⟨fun h2 => ⟨fun h3 => ⟨hrl, drawn (by kernel_rfl), ?_⟩, fun h3 => ?_⟩, fun h2 => ?_⟩
              · rw [if_pos ⟨h, h2, h3⟩] at hst
                have hlv : lastV (aliasL (l.take i) n k ++ [x]) = x.V := by simp [lastV]
                refine againO 600 24 1 ⟨i + 1, by omega⟩ (by simp; omega) ?_
                simp -dsimp -implicitDefEqProofs only [← hL, hw, hst, hlv, List.map_append, List.map_cons, List.map_nil, go_sem, ↓reduceIte, reduceCtorEq, rn1, rn2, rn3, rn4, rn5, rn6, rn7, ri1, ri2, ri3, ri4, ri5]
              · rw [if_neg (fun e => e.2.2 h3), List.append_nil] at hst
                refine again ⟨i + 1, by omega⟩ (by simp; omega) ?_
                simp -dsimp -implicitDefEqProofs only [← hL, hw, hst, go_sem, ↓reduceIte, reduceCtorEq, rn1, rn2, rn3, rn4, rn5, rn6, rn7, ri1, ri2, ri3, ri4, ri5]
              · rw [if_neg (fun e => h2 e.2.1), List.append_nil] at hst
                refine again ⟨i + 1, by omega⟩ (by simp; omega) ?_
                simp -dsimp -implicitDefEqProofs only [← hL, hw, hst, go_sem, ↓reduceIte, reduceCtorEq, rn1, rn2, rn3, rn4, rn5, rn6, rn7, ri1, ri2, ri3, ri4, ri5]
            · rw [if_neg (fun e => h e.1), List.append_nil] at hst
              refine again ⟨i + 1, by omega⟩ (by simp; omega) ?_
              simp -dsimp -implicitDefEqProofs only [← hL, hw, hst, go_sem, ↓reduceIte, reduceCtorEq, rn1, rn2, rn3, rn4, rn5, rn6, rn7, ri1, ri2, ri3, ri4, ri5]
          · have hil : i = l.length := by omega
            subst hil
            rw [List.take_length] at *
            have hlast : lastV (aliasL l n k) = [] ↔ aliasL l n k = [] := by
              constructor
              · intro h
                cases hg : (aliasL l n k).getLast? with
                | none => exact List.getLast?_eq_none_iff.1 hg
                | some r =>
                  have hm := List.mem_of_getLast? hg
                  unfold aliasL atB at hm
                  simp only [List.mem_filter, Bool.and_eq_true, beq_iff_eq] at hm
                  have := form_alias (good_mem h0 hm.1.1).1 hm.2.1
                  unfold lastV at h
                  rw [hg] at h
                  simp only at h
                  rw [h, isName_nil] at this; cases this
              · intro h; rw [h]; rfl
            simp -dsimp -implicitDefEqProofs only [retH, ← hL, go_sem, ↓reduceIte, reduceCtorEq, rn1, rn2, rn3, rn4, rn5, rn6, rn7, ri1, ri2, ri3, ri4, ri5]
            refine ⟨fun h => ?_, fun h => ?_⟩
            · have hne : aliasL l n k ≠ [] := fun e => h (hlast.2 e)
              have hask : askW a l n k = ⟨5, aliasL l n k, 0, lastV (aliasL l n k)⟩ := by unfold askW; rw [hc]; simp only; rw [if_pos hne]
              rw [hask]
              exact ⟨⟨rfl, rfl, rfl, rfl⟩, h0⟩
            · have hnil := hlast.1 h
              refine vround ?_
              simp -dsimp -implicitDefEqProofs only [w2, w3, t2, h, hnil, List.map_nil, go_sem, ↓reduceIte, reduceCtorEq, rn1, rn2, rn3, rn4, rn5, rn6, rn7, ri1, ri2, ri3, ri4, ri5]
              refine callW rfl Tryz.func176 rfl rfl Tryz.ntmps176 Tryz.results176 rfl ?_
              simp -dsimp -implicitDefEqProofs only [go_sem, ↓reduceIte, reduceCtorEq, rn1, rn2, rn3, rn4, rn5, rn6, rn7, ri1, ri2, ri3, ri4, ri5]
              refine callW rfl Tryz.func89 rfl rfl Tryz.ntmps89 Tryz.results89 rfl ?_
              simp -dsimp -implicitDefEqProofs only [retH, go_sem, ↓reduceIte, reduceCtorEq, rn1, rn2, rn3, rn4, rn5, rn6, rn7, ri1, ri2, ri3, ri4, ri5]
              refine vren [(1300, 600)] ⟨25, [(9, .cs false [.clo 165 [.ptr 1152 0, .ptr 1160 0]]), (6, aP 24 0), (4, aB false), (0, aP 24 0), (1, aP 0 0), (2, aP 8 0), (3, aP 16 0)],
                [(1160, some (.var [cS n] true)), (1152, some (.var [cS a, cD (recsD l)] true)), (24, some (.var [cI 1, .own 1300, cI 0, cS []] true)), (1300, some (.row 4 26 [] true)), (256, some (.var [.clo 173 [.ptr 0 0, .ptr 8 0, .ptr 24 0], .clo 175 [.ptr 24 0, .ptr 0 0, .ptr 8 0, .ptr 16 0], .clo 176 [.ptr 24 0, .ptr 0 0, .ptr 8 0, .ptr 16 0], .clo 177 [.ptr 24 0, .ptr 0 0, .ptr 8 0], .clo 179 [.ptr 24 0]] true)), (16, some (.var [cI k] true)), (8, some (.var [cS n] false)), (0, some (.var [cS a, cD (recsD l)] true))], 1301⟩ ?_ ?_
              · simp -dsimp -implicitDefEqProofs only [hlv0, go_sem, ↓reduceIte, reduceCtorEq, rn1, rn2, rn3, rn4, rn5, rn6, rn7, ri1, ri2, ri3, ri4, ri5]
              refine vrange sitOk rfl [1300] [(6, aP 24 0), (0, aP 24 0), (1, aP 0 0), (2, aP 8 0), (3, aP 16 0)] rfl rfl ?_ Tryz.func165 rfl rfl Tryz.ntmps165 Tryz.results165 rfl ?_
              · simp -dsimp -implicitDefEqProofs only [go_sem, ↓reduceIte, reduceCtorEq, rn1, rn2, rn3, rn4, rn5, rn6, rn7, ri1, ri2, ri3, ri4, ri5]
              simp -dsimp -implicitDefEqProofs only [go_sem, ↓reduceIte, reduceCtorEq, rn1, rn2, rn3, rn4, rn5, rn6, rn7, ri1, ri2, ri3, ri4, ri5]
              generalize hL2 : Lp.mk 25 _ _ _ _ _ = L2
              refine vfor sitOk (ι := CwInv l) (fun v => ⟨24, [(9, aI v.i), (8, aI l.length), (7, aD (recsD l)), (0, .cs false [.yld 1301]), (1, aP 1152 0), (2, aP 1160 0)],
                [(1301, some (.lp L2)), (1160, some (.var [cS n] true)), (1152, some (.var [cS a, cD (recsD l)] true)), (24, some (.var [cI 1, .own 1300, cI 0, cS []] true)), (1300, some (.row 4 26 ((ofL (l.take v.i) n k).map Rec.cells) true)), (256, some (.var [.clo 173 [.ptr 0 0, .ptr 8 0, .ptr 24 0], .clo 175 [.ptr 24 0, .ptr 0 0, .ptr 8 0, .ptr 16 0], .clo 176 [.ptr 24 0, .ptr 0 0, .ptr 8 0, .ptr 16 0], .clo 177 [.ptr 24 0, .ptr 0 0, .ptr 8 0], .clo 179 [.ptr 24 0]] true)), (16, some (.var [cI k] true)), (8, some (.var [cS n] false)), (0, some (.var [cS a, cD (recsD l)] true))], 2000⟩) (fun v => l.length - v.i) ⟨0, by omega⟩ ?_ ?_
              · simp -dsimp -implicitDefEqProofs only [← hL2, go_sem, ↓reduceIte, reduceCtorEq, rn1, rn2, rn3, rn4, rn5, rn6, rn7, ri1, ri2, ri3, ri4, ri5]
                simp [ofL, atB]
              intro ⟨i, hi⟩
              have hall := ofL_len (l.take i) n k
              have htl : (l.take i).length ≤ l.length := by simp; omega
              simp -dsimp -implicitDefEqProofs only [go_sem, ↓reduceIte, reduceCtorEq, rn1, rn2, rn3, rn4, rn5, rn6, rn7, ri1, ri2, ri3, ri4, ri5]
              refine ⟨fun hlt => ?_, fun hge => ?_⟩
              · have hil : i < l.length := by omega
                obtain ⟨x, hx⟩ : ∃ x, l[i]? = some x := ⟨_, List.getElem?_eq_getElem hil⟩
                have hst := ofL_step n k hx
                have hw := wrapS hil (by omega)
                simp -dsimp -implicitDefEqProofs only [hx, forall_eq', hw, go_sem, ↓reduceIte, reduceCtorEq, rn1, rn2, rn3, rn4, rn5, rn6, rn7, ri1, ri2, ri3, ri4, ri5]
                refine ⟨by omega, hil, fun h => yieldW sitOk ?_, fun h => ?_⟩
                · simp -dsimp -implicitDefEqProofs only [← hL2, go_sem, ↓reduceIte, reduceCtorEq, rn1, rn2, rn3, rn4, rn5, rn6, rn7, ri1, ri2, ri3, ri4, ri5]
                  intro ro
                  have hrl : (ofL (l.take i) n k).length ≤ 9223372036854775806 ∧ ((ofL (l.take i) n k).length + 1) * 48 ≤ 140737488355328 := by omega
                  refine ⟨fun h2 => ⟨hrl, ?_⟩, fun h2 => ?_⟩
                  · rw [if_pos ⟨h, h2⟩] at hst
                    refine againO 1300 24 1 ⟨i + 1, by omega⟩ (by simp; omega) ?_
                    simp -dsimp -implicitDefEqProofs only [← hL2, hw, hst, List.map_append, List.map_cons, List.map_nil, go_sem, ↓reduceIte, reduceCtorEq, rn1, rn2, rn3, rn4, rn5, rn6, rn7, ri1, ri2, ri3, ri4, ri5]
                  · rw [if_neg (fun e => h2 e.2), List.append_nil] at hst
                    refine again ⟨i + 1, by omega⟩ (by simp; omega) ?_
                    simp -dsimp -implicitDefEqProofs only [← hL2, hw, hst, go_sem, ↓reduceIte, reduceCtorEq, rn1, rn2, rn3, rn4, rn5, rn6, rn7, ri1, ri2, ri3, ri4, ri5]
                · rw [if_neg (fun e => h e.1), List.append_nil] at hst
                  refine again ⟨i + 1, by omega⟩ (by simp; omega) ?_
                  simp -dsimp -implicitDefEqProofs only [← hL2, hw, hst, go_sem, ↓reduceIte, reduceCtorEq, rn1, rn2, rn3, rn4, rn5, rn6, rn7, ri1, ri2, ri3, ri4, ri5]
              · have hil : i = l.length := by omega
                subst hil
                rw [List.take_length] at *
                simp -dsimp -implicitDefEqProofs only [retH, ← hL2, List.length_map, go_sem, ↓reduceIte, reduceCtorEq, rn1, rn2, rn3, rn4, rn5, rn6, rn7, ri1, ri2, ri3, ri4, ri5]
                refine ⟨fun h9 => ?_, fun h9 => ?_⟩
                · have hne : ofL l n k ≠ [] := fun e => by rw [e] at h9; simp at h9
                  have hask : askW a l n k = ⟨1, ofL l n k, 0, []⟩ := by unfold askW; rw [hc]; simp only; rw [if_neg (by rw [hnil]; simp), if_pos hne]
                  rw [hask]
                  exact ⟨⟨rfl, rfl, rfl, rfl⟩, h0⟩
                · have hnil2 : ofL l n k = [] := List.length_eq_zero_iff.1 (by omega)
                  refine vround ?_
                  simp -dsimp -implicitDefEqProofs only [w2, w3, t3, w4, hnil2, List.map_nil, go_sem, ↓reduceIte, reduceCtorEq, rn1, rn2, rn3, rn4, rn5, rn6, rn7, ri1, ri2, ri3, ri4, ri5]
                  refine callW rfl Tryz.func177 rfl rfl Tryz.ntmps177 Tryz.results177 rfl ?_
                  simp -dsimp -implicitDefEqProofs only [go_sem, ↓reduceIte, reduceCtorEq, rn1, rn2, rn3, rn4, rn5, rn6, rn7, ri1, ri2, ri3, ri4, ri5]
                  refine callP (containsU_ok l n hl) ?_
                  simp -dsimp -implicitDefEqProofs only [retH, hnil2, List.map_nil, go_sem, ↓reduceIte, reduceCtorEq, rn1, rn2, rn3, rn4, rn5, rn6, rn7, ri1, ri2, ri3, ri4, ri5]
                  refine ⟨fun h10 => ?_, fun h10 => ?_⟩
                  · have hask : askW a l n k = ⟨2, [], 0, []⟩ := by unfold askW; rw [hc]; simp only; rw [if_neg (by rw [hnil]; simp), if_neg (by rw [hnil2]; simp), if_pos h10]
                    rw [hask]
                    exact ⟨⟨rfl, rfl, rfl, rfl⟩, h0⟩
                  · have hask : askW a l n k = ⟨3, [], 0, []⟩ := by unfold askW; rw [hc]; simp only; rw [if_neg (by rw [hnil]; simp), if_neg (by rw [hnil2]; simp), if_neg (by simp [h10])]
                    rw [hask]
                    refine vround ?_
                    simp -dsimp -implicitDefEqProofs only [w2, w3, w4, t4, t3, go_sem, ↓reduceIte, reduceCtorEq, rn1, rn2, rn3, rn4, rn5, rn6, rn7, ri1, ri2, ri3, ri4, ri5]
                    refine callW rfl Tryz.func179 rfl rfl Tryz.ntmps179 Tryz.results179 rfl ?_
                    simp -dsimp -implicitDefEqProofs only [retH, hnil2, List.map_nil, go_sem, ↓reduceIte, reduceCtorEq, rn1, rn2, rn3, rn4, rn5, rn6, rn7, ri1, ri2, ri3, ri4, ri5]
                    exact h0
    · obtain ⟨q1, q2⟩ := fin 1 (by decide) (by unfold askE; rw [if_pos h0, if_neg h1])
      simp -dsimp -implicitDefEqProofs only [h0, q1, ← q2, List.map_nil, go_sem, ↓reduceIte, reduceCtorEq, rn1, rn2, rn3, rn4, rn5, rn6, rn7, ri1, ri2, ri3, ri4, ri5]
      refine callP (named_ok n) ?_
      cases hn : isName n with
      | false => simp -dsimp -implicitDefEqProofs only [hn, q1, ← q2, List.map_nil, go_sem, ↓reduceIte, reduceCtorEq, rn1, rn2, rn3, rn4, rn5, rn6, rn7, ri1, ri2, ri3, ri4, ri5]
      | true =>
        by_cases h3 : k < 1
        · simp -dsimp -implicitDefEqProofs only [hn, h3, q1, ← q2, List.map_nil, go_sem, ↓reduceIte, reduceCtorEq, rn1, rn2, rn3, rn4, rn5, rn6, rn7, ri1, ri2, ri3, ri4, ri5]
        · have h4 : 5 < k := by
            refine Classical.byContradiction fun h => h1 ⟨hn, by omega, by omega⟩
          simp -dsimp -implicitDefEqProofs only [hn, h3, h4, q1, ← q2, List.map_nil, go_sem, ↓reduceIte, reduceCtorEq, rn1, rn2, rn3, rn4, rn5, rn6, rn7, ri1, ri2, ri3, ri4, ri5]
  · obtain ⟨q1, q2⟩ := fin _ h0 (by unfold askE; rw [if_neg h0])
    simp -dsimp -implicitDefEqProofs only [h0, q1, ← q2, List.map_nil, go_sem, ↓reduceIte, reduceCtorEq, rn1, rn2, rn3, rn4, rn5, rn6, rn7, ri1, ri2, ri3, ri4, ri5]
end Go.Proofs.YtbgcpopmippbiaaGreatDoor
namespace Go.Proofs.YtbgcpopmippbiaaGreatDoor
open Go.Eng
set_option linter.unusedSimpArgs false
set_option maxRecDepth 10000

/-- Is the zone taken, where one was? -/
def takesB (l : List Zn) (n : Bs) (z : Zn) (p : Option Nat) : Bool := underB n z.A && (match p with
  | none => true
  | some j => match l[j]? with
    | some y => decide (y.A.length < z.A.length)
    | none => false) && checkV z.A z.R == 0
def bestAt (l : List Zn) (n : Bs) : Nat → Option Nat
  | 0 => none
  | i + 1 => match l[i]? with
    | some z => if takesB l n z (bestAt l n i) then some i else bestAt l n i
    | none => bestAt l n i
def bestV (l : List Zn) (n : Bs) : Option Nat := if isName n then bestAt l n l.length else none
def optN : Option Nat → Int
  | some j => (j : Nat)
  | none => 0
theorem takes_some {l : List Zn} {n : Bs} {z y : Zn} {j : Nat} (h : l[j]? = some y) : takesB l n z (some j) = (underB n z.A && decide ((y.A.length : Int) < (z.A.length : Int)) && checkV z.A z.R == 0) := by
  unfold takesB; simp only [h]
  congr 2
  rw [decide_eq_decide]; omega
theorem bestAt_lt {l : List Zn} {n : Bs} : ∀ {i j : Nat}, bestAt l n i = some j → j < i ∧ j < l.length
  | 0, j, h => by cases h
  | i + 1, j, h => by
    unfold bestAt at h
    split at h
    · rename_i z hz
      split at h
      · cases h; exact ⟨by omega, (List.getElem?_eq_some_iff.1 hz).1⟩
      · have := bestAt_lt h; exact ⟨by omega, this.2⟩
    · have := bestAt_lt h; exact ⟨by omega, this.2⟩
structure BtInv (l : List Zn) where
  i : Nat
  le : i ≤ l.length
theorem best_ok (l : List Zn) (n : Bs) (hl : l.length ≤ 1000000) (hz : ∀ z ∈ l, z.R.length ≤ 1000000) : Meets Tryz.prog 108 [(false, [vD (zonesD l)]), (false, [vS n])] (rTup [(false, [vI (optN (bestV l n))]), (false, [vB (bestV l n).isSome])]) := by
  refine meets Tryz.func108 rfl rfl Tryz.ntmps108 Tryz.results108 rfl ?_
  simp -dsimp -implicitDefEqProofs only [go_sem, ↓reduceIte, reduceCtorEq, rn1, rn2, rn3, rn4, rn5, rn6, rn7, ri1, ri2, ri3, ri4, ri5]
  refine callP (named_ok n) ?_
  cases hn : isName n with
  | false =>
    have : bestV l n = none := by unfold bestV; simp [hn]
    rw [this]
    simp -dsimp -implicitDefEqProofs only [hn, optN, go_sem, ↓reduceIte, reduceCtorEq, rn1, rn2, rn3, rn4, rn5, rn6, rn7, ri1, ri2, ri3, ri4, ri5]
  | true =>
    have : bestV l n = bestAt l n l.length := by unfold bestV; simp [hn]
    rw [this]
    simp -dsimp -implicitDefEqProofs only [hn, go_sem, ↓reduceIte, reduceCtorEq, rn1, rn2, rn3, rn4, rn5, rn6, rn7, ri1, ri2, ri3, ri4, ri5]
    refine vfor sitOk (ι := BtInv l) (fun v => ⟨47, [(13, aI v.i), (12, aI l.length), (11, aD (zonesD l)), (5, aB (bestAt l n v.i).isSome), (4, aI (optN (bestAt l n v.i))), (1, aS n), (0, aD (zonesD l))], [], 120⟩) (fun v => l.length - v.i) ⟨0, by omega⟩ ?_ ?_
    · simp -dsimp -implicitDefEqProofs only [bestAt, optN, go_sem, ↓reduceIte, reduceCtorEq, rn1, rn2, rn3, rn4, rn5, rn6, rn7, ri1, ri2, ri3, ri4, ri5]
    intro ⟨i, hi⟩
    simp -dsimp -implicitDefEqProofs only [go_sem, ↓reduceIte, reduceCtorEq, rn1, rn2, rn3, rn4, rn5, rn6, rn7, ri1, ri2, ri3, ri4, ri5]
    refine ⟨fun hlt => ?_, fun hge => ?_⟩
    · have hil : i < l.length := by omega
      obtain ⟨z, hx⟩ : ∃ z, l[i]? = some z := ⟨_, List.getElem?_eq_getElem hil⟩
      have hw := wrapS hil (by omega)
      have hzr := hz z (List.mem_of_getElem? hx)
      have hstep : bestAt l n (i + 1) = if takesB l n z (bestAt l n i) then some i else bestAt l n i := by
        conv => lhs; unfold bestAt
        rw [hx]
      cases hb : bestAt l n i with
      | none =>
        rw [hb] at hstep
        simp -dsimp -implicitDefEqProofs only [hx, forall_eq', hw, optN, go_sem, ↓reduceIte, reduceCtorEq, rn1, rn2, rn3, rn4, rn5, rn6, rn7, ri1, ri2, ri3, ri4, ri5]
        refine ⟨by omega, hil, ?_⟩
        repeat' (first | with_reducible apply And.intro | with_reducible intro _ | with_reducible exact drawn (by kernel_rfl) | (refine callP (under_ok _ _) ?_; simp -dsimp -implicitDefEqProofs only [hx, forall_eq', hw, optN, go_sem, ↓reduceIte, reduceCtorEq, rn1, rn2, rn3, rn4, rn5, rn6, rn7, ri1, ri2, ri3, ri4, ri5]) | (refine callP (zcheck_ok _ _ hzr) ?_; simp -dsimp -implicitDefEqProofs only [hx, forall_eq', hw, optN, go_sem, ↓reduceIte, reduceCtorEq, rn1, rn2, rn3, rn4, rn5, rn6, rn7, ri1, ri2, ri3, ri4, ri5]) | omega)
        all_goals first
          | (have e : bestAt l n (i + 1) = some i := by rw [hstep]; simp [takesB, *]
             refine again ⟨i + 1, by omega⟩ (by simp; omega) ?_
             simp -dsimp -implicitDefEqProofs only [e, hw, optN, Option.isSome_some, go_sem, ↓reduceIte, reduceCtorEq, rn1, rn2, rn3, rn4, rn5, rn6, rn7, ri1, ri2, ri3, ri4, ri5]
             done)
          | (have e : bestAt l n (i + 1) = none := by rw [hstep]; simp [takesB, *]
             refine again ⟨i + 1, by omega⟩ (by simp; omega) ?_
             simp -dsimp -implicitDefEqProofs only [e, hw, optN, Option.isSome_none, go_sem, ↓reduceIte, reduceCtorEq, rn1, rn2, rn3, rn4, rn5, rn6, rn7, ri1, ri2, ri3, ri4, ri5]
             done)
          | trace_state
      | some j =>
        rw [hb] at hstep
        obtain ⟨hj1, hj2⟩ := bestAt_lt hb
        obtain ⟨y, hy⟩ : ∃ y, l[j]? = some y := ⟨_, List.getElem?_eq_getElem hj2⟩
        rw [takes_some hy] at hstep
        simp -dsimp -implicitDefEqProofs only [hx, forall_eq', hw, optN, hy, go_sem, ↓reduceIte, reduceCtorEq, rn1, rn2, rn3, rn4, rn5, rn6, rn7, ri1, ri2, ri3, ri4, ri5]
        refine ⟨by omega, hil, ?_⟩
        repeat' (first | with_reducible apply And.intro | with_reducible intro _ | with_reducible exact drawn (by kernel_rfl) | (refine callP (under_ok _ _) ?_; simp -dsimp -implicitDefEqProofs only [hx, forall_eq', hw, optN, hy, go_sem, ↓reduceIte, reduceCtorEq, rn1, rn2, rn3, rn4, rn5, rn6, rn7, ri1, ri2, ri3, ri4, ri5]) | (refine callP (zcheck_ok _ _ hzr) ?_; simp -dsimp -implicitDefEqProofs only [hx, forall_eq', hw, optN, hy, go_sem, ↓reduceIte, reduceCtorEq, rn1, rn2, rn3, rn4, rn5, rn6, rn7, ri1, ri2, ri3, ri4, ri5]) | omega)
        all_goals first
          | (have e : bestAt l n (i + 1) = some i := by rw [hstep, if_pos]; simp only [Bool.and_eq_true, decide_eq_true_eq, beq_iff_eq]; exact ⟨⟨by assumption, by assumption⟩, by assumption⟩
             refine again ⟨i + 1, by omega⟩ (by simp; omega) ?_
             simp -dsimp -implicitDefEqProofs only [e, hw, optN, Option.isSome_some, go_sem, ↓reduceIte, reduceCtorEq, rn1, rn2, rn3, rn4, rn5, rn6, rn7, ri1, ri2, ri3, ri4, ri5]
             done)
          | (have e : bestAt l n (i + 1) = some j := by
               rw [hstep, if_neg]
               simp only [Bool.and_eq_true, decide_eq_true_eq, beq_iff_eq]
               intro ⟨⟨q1, q2⟩, q3⟩
               first | omega | (simp_all; done)
             refine again ⟨i + 1, by omega⟩ (by simp; omega) ?_
             simp -dsimp -implicitDefEqProofs only [e, hw, optN, Option.isSome_some, go_sem, ↓reduceIte, reduceCtorEq, rn1, rn2, rn3, rn4, rn5, rn6, rn7, ri1, ri2, ri3, ri4, ri5]
             done)
          | trace_state
    · have hil : i = l.length := by omega
      subst hil
      exact ⟨rfl, rfl⟩
end Go.Proofs.YtbgcpopmippbiaaGreatDoor
