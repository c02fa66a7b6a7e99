/- The order of records; records of a zone stand in order; an alias stands alone. -/
import Derived.Test.YtfgejhlgenaniaaDoorZ11
namespace Go.Proofs.YtfgejhlgenaniaaDoor
open Go.Eng
set_option linter.unusedSimpArgs false
set_option maxRecDepth 10000

/-- Does one stand ahead of another? -/
def Ah (a b : Rec) : Prop := a.N < b.N ∨ (a.N = b.N ∧ (a.K < b.K ∨ (a.K = b.K ∧ a.V < b.V)))
theorem cmpI_lt {a b : Int} : cmpI a b < 0 ↔ a < b := by
  unfold cmpI; split <;> (try split) <;> omega
theorem cmpI_eq {a b : Int} : cmpI a b = 0 ↔ a = b := by
  unfold cmpI; split <;> (try split) <;> omega
theorem ordR_lt {a b : Rec} : ordR a b < 0 ↔ Ah a b := by
  unfold ordR or3 Ah
  by_cases h1 : a.N = b.N
  · rw [if_pos (cmpB_eq.2 h1)]
    by_cases h2 : a.K = b.K
    · rw [if_pos (cmpI_eq.2 h2), cmpB_lt]
      simp [h1, h2, lt_irr]
    · rw [if_neg (fun h => h2 (cmpI_eq.1 h)), cmpI_lt]
      simp [h1, h2, lt_irr]
  · rw [if_neg (fun h => h1 (cmpB_eq.1 h)), cmpB_lt]
    simp [h1]
theorem ordR_eq {a b : Rec} : ordR a b = 0 ↔ a.N = b.N ∧ a.K = b.K ∧ a.V = b.V := by
  unfold ordR or3
  by_cases h1 : a.N = b.N
  · rw [if_pos (cmpB_eq.2 h1)]
    by_cases h2 : a.K = b.K
    · rw [if_pos (cmpI_eq.2 h2), cmpB_eq]; simp [h1, h2]
    · rw [if_neg (fun h => h2 (cmpI_eq.1 h)), cmpI_eq]; simp [h2]
  · rw [if_neg (fun h => h1 (cmpB_eq.1 h)), cmpB_eq]; simp [h1]
theorem Ah.irr {a : Rec} (h : Ah a a) : False := by
  rcases h with h | ⟨_, h | ⟨_, h⟩⟩
  · exact lt_irr _ h
  · omega
  · exact lt_irr _ h
theorem Ah.tr {a b c : Rec} (h : Ah a b) (h' : Ah b c) : Ah a c := by
  unfold Ah at *
  rcases h with h | ⟨e, h⟩
  · rcases h' with h' | ⟨e', _⟩
    · exact .inl (lt_tr h h')
    · exact .inl (e' ▸ h)
  · rcases h' with h' | ⟨e', h'⟩
    · exact .inl (by rw [e]; exact h')
    · refine .inr ⟨e.trans e', ?_⟩
      rcases h with h | ⟨k, h⟩
      · rcases h' with h' | ⟨k', h'⟩
        · exact .inl (by omega)
        · exact .inl (by omega)
      · rcases h' with h' | ⟨k', h'⟩
        · exact .inl (by omega)
        · exact .inr ⟨k.trans k', lt_tr h h'⟩
theorem Ah.as {a b : Rec} (h : Ah a b) : ¬ Ah b a := fun h' => (h.tr h').irr
/-- Of one place. -/
def Pl (a b : Rec) : Prop := a.N = b.N ∧ a.K = b.K ∧ a.V = b.V
theorem Ah.tri (a b : Rec) : Ah a b ∨ Pl a b ∨ Ah b a := by
  unfold Ah Pl
  rcases lt_tri a.N b.N with h | h | h
  · exact .inl (.inl h)
  · rcases (by omega : a.K < b.K ∨ a.K = b.K ∨ b.K < a.K) with k | k | k
    · exact .inl (.inr ⟨h, .inl k⟩)
    · rcases lt_tri a.V b.V with v | v | v
      · exact .inl (.inr ⟨h, .inr ⟨k, v⟩⟩)
      · exact .inr (.inl ⟨h, k, v⟩)
      · exact .inr (.inr (.inr ⟨h.symm, .inr ⟨k.symm, v⟩⟩))
    · exact .inr (.inr (.inr ⟨h.symm, .inl k⟩))
  · exact .inr (.inr (.inl h))
theorem Ah.pl_left {a b c : Rec} (h : Pl a b) (h' : Ah b c) : Ah a c := by
  obtain ⟨h1, h2, h3⟩ := h
  unfold Ah at *
  rw [h1, h2, h3]; exact h'
theorem Ah.pl_right {a b c : Rec} (h : Ah a b) (h' : Pl b c) : Ah a c := by
  obtain ⟨h1, h2, h3⟩ := h'
  unfold Ah at *
  rw [← h1, ← h2, ← h3]; exact h
theorem Pl.symm {a b : Rec} (h : Pl a b) : Pl b a := ⟨h.1.symm, h.2.1.symm, h.2.2.symm⟩
theorem Pl.not {a b : Rec} (h : Pl a b) : ¬ Ah a b := fun h' => (Ah.pl_left h.symm h').irr

/-- The records rise. -/
def Rises (l : List Rec) : Prop := ∀ (i j : Nat) (x y : Rec), i < j → l[i]? = some x → l[j]? = some y → Ah x y
theorem rises_of {l : List Rec} (h : ∀ (i : Nat) (x y : Rec), l[i]? = some x → l[i + 1]? = some y → Ah x y) : Rises l := by
  intro i j
  induction j with
  | zero => intro x y hij; omega
  | succ j ih =>
    intro x y hij hx hy
    by_cases e : i = j
    · subst e; exact h i x y hx hy
    · have hjl := (List.getElem?_eq_some_iff.1 hy).1
      have hz : l[j]? = some l[j] := List.getElem?_eq_getElem (by omega)
      exact (ih x _ (by omega) hx hz).tr (h j _ y hz hy)

/-! ### An alias stands alone -/
def aloneAt (l : List Rec) : Nat → Bool
  | 0 => true
  | i + 1 => match l[i]?, l[i + 1]? with
    | some x, some y => !(x.N == y.N && (x.K == 4 || y.K == 4))
    | _, _ => true
def aloneB (l : List Rec) : Bool := (List.range l.length).all (aloneAt l)
theorem mem_atB {l : List Rec} {n : Bs} {r : Rec} : r ∈ atB l n ↔ r ∈ l ∧ r.N = n := by
  unfold atB; rw [List.mem_filter]; simp
theorem atB_split {l : List Rec} {i : Nat} {x : Rec} (n : Bs) (h : l[i]? = some x) : atB l n = atB (l.take i) n ++ ((if x.N = n then [x] else []) ++ atB (l.drop (i + 1)) n) := by
  have h1 : l = l.take i ++ x :: l.drop (i + 1) := by conv => lhs; rw [← List.take_append_drop i l, drop_at h]
  conv => lhs; rw [h1]
  unfold atB
  rw [List.filter_append, List.filter_cons]
  congr 1
  by_cases e : x.N = n <;> simp [e]
theorem crowd_mk {l : List Rec} {n : Bs} {i j : Nat} {x y : Rec} (hij : i < j) (hx : l[i]? = some x) (hy : l[j]? = some y) (hxn : x.N = n) (hyn : y.N = n) (hk : x.K = 4 ∨ y.K = 4) : crowdB l n = true := by
  have hxm : x ∈ atB l n := mem_atB.2 ⟨List.mem_of_getElem? hx, hxn⟩
  have hym : y ∈ atB l n := mem_atB.2 ⟨List.mem_of_getElem? hy, hyn⟩
  unfold crowdB
  rw [Bool.and_eq_true]
  constructor
  · rw [List.any_eq_true]
    rcases hk with hk | hk
    · exact ⟨x, hxm, by simp [hk]⟩
    · exact ⟨y, hym, by simp [hk]⟩
  · rw [decide_eq_true_eq, atB_split n hy, if_pos hyn]
    have : x ∈ atB (l.take j) n := mem_atB.2 ⟨List.mem_of_getElem? (i := i) (by rw [List.getElem?_take, if_pos hij]; exact hx), hxn⟩
    have := List.length_pos_of_mem this
    simp; omega
theorem crowd_two {l : List Rec} {n : Bs} (h : crowdB l n = true) : ∃ (i j : Nat) (x y : Rec), i ≠ j ∧ l[i]? = some x ∧ l[j]? = some y ∧ x.N = n ∧ y.N = n ∧ x.K = 4 := by
  unfold crowdB at h
  rw [Bool.and_eq_true, List.any_eq_true, decide_eq_true_eq] at h
  obtain ⟨⟨x, hxm, hxk⟩, hlen⟩ := h
  obtain ⟨hxl, hxn⟩ := mem_atB.1 hxm
  obtain ⟨i, hx⟩ := List.mem_iff_getElem?.1 hxl
  rw [atB_split n hx, if_pos hxn] at hlen
  have : 0 < (atB (l.take i) n).length ∨ 0 < (atB (l.drop (i + 1)) n).length := by
    simp at hlen; omega
  rcases this with h1 | h1
  · obtain ⟨y, hy⟩ := List.exists_mem_of_length_pos h1
    obtain ⟨hyl, hyn⟩ := mem_atB.1 hy
    obtain ⟨j, hj⟩ := List.mem_iff_getElem?.1 hyl
    rw [List.getElem?_take] at hj
    split at hj
    · exact ⟨i, j, x, y, by omega, hx, hj, hxn, hyn, by simpa using hxk⟩
    · cases hj
  · obtain ⟨y, hy⟩ := List.exists_mem_of_length_pos h1
    obtain ⟨hyl, hyn⟩ := mem_atB.1 hy
    obtain ⟨j, hj⟩ := List.mem_iff_getElem?.1 hyl
    rw [List.getElem?_drop] at hj
    exact ⟨i, i + 1 + j, x, y, by omega, hx, hj, hxn, hyn, by simpa using hxk⟩
/-- Names rise. -/
theorem Ah.name {a b : Rec} (h : Ah a b) : ¬ b.N < a.N := by
  rcases h with h | ⟨e, _⟩
  · exact lt_as h
  · rw [e]; exact lt_irr _
theorem between {a b c : Rec} (h : a.N = c.N) (h1 : ¬ b.N < a.N) (h2 : ¬ c.N < b.N) : b.N = a.N := by
  rw [← h] at h2
  rcases lt_tri a.N b.N with e | e | e
  · exact absurd e h2
  · exact e.symm
  · exact absurd e h1
/-- In a list that rises: whether some alias is crowded is seen at neighbours. -/
theorem alone_law {l : List Rec} (hr : Rises l) : aloneB l = true ↔ ∀ r ∈ l, crowdB l r.N = false := by
  constructor
  · intro h r hrm
    rw [Bool.eq_false_iff]
    intro hc
    obtain ⟨i, j, x, y, hij, hx, hy, hxn, hyn, hk⟩ := crowd_two hc
    have all := fun q hq => List.all_eq_true.1 h q (List.mem_range.2 hq)
    have hil := (List.getElem?_eq_some_iff.1 hx).1
    have hjl := (List.getElem?_eq_some_iff.1 hy).1
    rcases Nat.lt_or_gt_of_ne hij with hlt | hgt
    · -- y behind x: look at the next one
      have hz : l[i + 1]? = some l[i + 1] := List.getElem?_eq_getElem (by omega)
      have h1 : l[i + 1].N = x.N := by
        by_cases e : i + 1 = j
        · subst e; rw [hz] at hy; cases hy; rw [hyn, hxn]
        · exact between (c := y) (by rw [hxn, hyn]) (hr i (i + 1) x _ (by omega) hx hz).name (hr (i + 1) j _ y (by omega) hz hy).name
      have := all (i + 1) (by omega)
      simp only [aloneAt, hx, hz] at this
      simp [h1, hk] at this
    · obtain ⟨p, rfl⟩ : ∃ p, i = p + 1 := ⟨i - 1, by omega⟩
      have hz : l[p]? = some l[p] := List.getElem?_eq_getElem (by omega)
      have h1 : l[p].N = x.N := by
        by_cases e : j = p
        · subst e; rw [hz] at hy; cases hy; rw [hyn, hxn]
        · have := between (a := y) (b := l[p]) (c := x) (by rw [hxn, hyn]) (hr j p y _ (by omega) hy hz).name (hr p (p + 1) _ x (by omega) hz hx).name
          rw [this, hyn, hxn]
      have := all (p + 1) hil
      simp only [aloneAt, hx, hz] at this
      simp [h1, hk] at this
  · intro h
    refine List.all_eq_true.2 fun q hq => ?_
    have hql := List.mem_range.1 hq
    cases q with
    | zero => rfl
    | succ q =>
      have hx : l[q]? = some l[q] := List.getElem?_eq_getElem (by omega)
      have hy : l[q + 1]? = some l[q + 1] := List.getElem?_eq_getElem hql
      simp only [aloneAt, hx, hy]
      rw [Bool.not_eq_true', Bool.eq_false_iff]
      intro hc
      simp only [Bool.and_eq_true, beq_iff_eq, Bool.or_eq_true] at hc
      have := crowd_mk (n := l[q].N) (Nat.lt_succ_self q) hx hy rfl hc.1.symm hc.2
      rw [h _ (List.mem_of_getElem? hx)] at this; cases this
end Go.Proofs.YtfgejhlgenaniaaDoor
