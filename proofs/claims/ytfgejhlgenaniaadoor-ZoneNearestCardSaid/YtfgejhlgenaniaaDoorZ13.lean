/- What Put and Drop make of a zone, in plain words. -/
import Derived.Test.YtfgejhlgenaniaaDoorZ12
namespace Go.Proofs.YtfgejhlgenaniaaDoor
open Go.Eng
set_option linter.unusedSimpArgs false
set_option maxRecDepth 10000

instance (a b : Rec) : Decidable (Ah a b) := by unfold Ah; exact inferInstance
instance (a b : Rec) : Decidable (Pl a b) := by unfold Pl; exact inferInstance

/-- A zone that may be. -/
structure Ok (a : Bs) (l : List Rec) : Prop where
  apex : apexB a = true
  form : ∀ r ∈ l, formB r = true
  und : ∀ r ∈ l, underB r.N a = true
  rise : Rises l
  alone : ∀ r ∈ l, crowdB l r.N = false
theorem ok_of {a : Bs} {l : List Rec} (h : okZ a l = true) : Ok a l := by
  simp only [okZ, Bool.and_eq_true] at h
  obtain ⟨h1, h2⟩ := h
  have all := fun i hi => List.all_eq_true.1 h2 i (List.mem_range.2 hi)
  have mem : ∀ r ∈ l, ∃ i, l[i]? = some r ∧ goodAt a l i = true := fun r hr => by
    obtain ⟨i, hi⟩ := List.mem_iff_getElem?.1 hr
    exact ⟨i, hi, all i (List.getElem?_eq_some_iff.1 hi).1⟩
  have parts : ∀ r ∈ l, formB r = true ∧ underB r.N a = true ∧ crowdB l r.N = false := fun r hr => by
    obtain ⟨i, hi, hg⟩ := mem r hr
    unfold goodAt at hg
    rw [hi] at hg
    simp only [Bool.and_eq_true, Bool.not_eq_true'] at hg
    exact ⟨hg.1.1.1, hg.1.1.2, hg.2⟩
  refine ⟨h1, fun r hr => (parts r hr).1, fun r hr => (parts r hr).2.1, rises_of fun i x y hx hy => ?_, fun r hr => (parts r hr).2.2⟩
  have hg := all (i + 1) (List.getElem?_eq_some_iff.1 hy).1
  rw [goodAt_S hy hx] at hg
  simp only [Bool.and_eq_true, decide_eq_true_eq] at hg
  exact ordR_lt.1 hg.1.2
theorem ok_to {a : Bs} {l : List Rec} (h : Ok a l) : okZ a l = true := by
  unfold okZ
  rw [h.apex, Bool.true_and]
  refine range_good fun i hi => ?_
  have hx : l[i]? = some l[i] := List.getElem?_eq_getElem hi
  have hm := List.mem_of_getElem? hx
  cases i with
  | zero => rw [goodAt_0 hx, h.form _ hm, h.und _ hm, h.alone _ hm]; rfl
  | succ i =>
    have hy : l[i]? = some l[i] := List.getElem?_eq_getElem (by omega)
    rw [goodAt_S hx hy, h.form _ hm, h.und _ hm, h.alone _ hm, decide_eq_true (ordR_lt.2 (h.rise i (i + 1) _ _ (by omega) hy hx))]; rfl
theorem check_zero {a : Bs} {l : List Rec} : checkV a l = 0 ↔ Ok a l ∧ l.length ≤ 64 := by
  unfold checkV
  constructor
  · intro h
    split at h
    · rename_i hk
      refine ⟨ok_of hk, ?_⟩
      split at h
      · cases h
      · omega
    · cases h
  · intro ⟨h1, h2⟩
    rw [if_pos (ok_to h1), if_neg (by omega)]

/-! ### Where a record stands -/
/-- How many stand ahead. -/
def plN (l : List Rec) (r : Rec) : Nat := l.findIdx fun x => !decide (Ah x r)
def plH (l : List Rec) (r : Rec) : Bool := match l[plN l r]? with
  | some x => !decide (Ah r x)
  | none => false
theorem plN_le (l : List Rec) (r : Rec) : plN l r ≤ l.length := List.findIdx_le_length
theorem plN_lt {l : List Rec} {r x : Rec} {i : Nat} (h : i < plN l r) (hx : l[i]? = some x) : Ah x r := by
  have hil := (List.getElem?_eq_some_iff.1 hx).1
  have h1 := List.not_of_lt_findIdx h
  have h2 : l[i] = x := Option.some.inj ((List.getElem?_eq_getElem hil).symm.trans hx)
  rw [h2] at h1
  simpa using h1
theorem plN_at {l : List Rec} {r x : Rec} (hx : l[plN l r]? = some x) : ¬ Ah x r := by
  have hil := (List.getElem?_eq_some_iff.1 hx).1
  have h1 := List.findIdx_getElem (w := hil)
  have h2 : l[plN l r] = x := Option.some.inj ((List.getElem?_eq_getElem hil).symm.trans hx)
  have h3 : (!decide (Ah l[plN l r] r)) = true := h1
  rw [h2] at h3
  simpa using h3
theorem pos_law {l : List Rec} (hr : Rises l) (r : Rec) : posR l r = plN l r := by
  obtain ⟨h1, h2, h3⟩ := bs_whole (c := fun x => ordR x r) (l := l) fun i j x y hij hx hy hc => ordR_lt.2 ((hr i j x y hij hx hy).tr (ordR_lt.1 hc))
  have e : bs (fun x => ordR x r) l 0 l.length = posR l r := rfl
  rw [e] at h1 h2 h3
  rcases Nat.lt_trichotomy (posR l r) (plN l r) with h | h | h
  · have hlt : posR l r < l.length := by have := plN_le l r; omega
    have hx : l[posR l r]? = some l[posR l r] := List.getElem?_eq_getElem hlt
    exact absurd (ordR_lt.2 (plN_lt h hx)) (h3 _ _ (Nat.le_refl _) hx)
  · exact h
  · have hx : l[plN l r]? = some l[plN l r] := List.getElem?_eq_getElem (by omega)
    exact absurd (ordR_lt.1 (h2 _ _ h hx)) (plN_at hx)
theorem hit_law {l : List Rec} (hr : Rises l) (r : Rec) : hitR l r = plH l r := by
  unfold hitR bsHit plH
  rw [pos_law hr]
  cases hx : l[plN l r]? with
  | none => rfl
  | some x =>
    have h1 := plN_at hx
    simp only
    rw [Bool.eq_iff_iff]
    simp only [beq_iff_eq, Bool.not_eq_true', decide_eq_false_iff_not]
    rw [ordR_eq]
    rcases Ah.tri x r with h | h | h
    · exact absurd h h1
    · exact ⟨fun _ => h.symm.not, fun _ => h⟩
    · exact ⟨fun h2 => absurd h (Pl.not (Pl.symm h2)), fun h2 => absurd h h2⟩
theorem hit_pl {l : List Rec} {r : Rec} (h : hitR l r = true) : ∃ x, l[posR l r]? = some x ∧ Pl x r := by
  unfold hitR bsHit at h
  split at h
  · rename_i x hx
    exact ⟨x, hx, ordR_eq.1 (by simpa using h)⟩
  · cases h
/-- What a list that rises says of a record: its place, or the gap where it would stand. -/
theorem place {l : List Rec} (hr : Rises l) (r : Rec) : ∃ A B, (l = A ++ B ∧ hitR l r = false ∧ posR l r = A.length ∧ (∀ x ∈ A, Ah x r) ∧ ∀ x ∈ B, Ah r x) ∨
    ∃ x, l = A ++ x :: B ∧ hitR l r = true ∧ posR l r = A.length ∧ (∀ y ∈ A, Ah y r) ∧ (∀ y ∈ B, Ah r y) ∧ Pl x r := by
  obtain ⟨p, hp⟩ : ∃ p, posR l r = p := ⟨_, rfl⟩
  have hle := posR_le l r
  have hA : ∀ x ∈ l.take p, Ah x r := fun x hx => by
    obtain ⟨i, hi⟩ := List.mem_iff_getElem?.1 hx
    rw [List.getElem?_take] at hi
    split at hi
    · rename_i hip; exact plN_lt (by rw [← pos_law hr, hp]; exact hip) hi
    · cases hi
  have hlen : (l.take p).length = p := by rw [List.length_take]; omega
  by_cases hh : hitR l r = true
  · obtain ⟨x, hx, hpl⟩ := hit_pl hh
    rw [hp] at hx
    refine ⟨l.take p, l.drop (p + 1), .inr ⟨x, by conv => lhs; rw [← List.take_append_drop p l, drop_at hx], hh, by rw [hp, hlen], hA, fun y hy => ?_, hpl⟩⟩
    obtain ⟨i, hi⟩ := List.mem_iff_getElem?.1 hy
    rw [List.getElem?_drop] at hi
    exact Ah.pl_left hpl.symm (hr p (p + 1 + i) x y (by omega) hx hi)
  · have hh' : hitR l r = false := by simpa using hh
    refine ⟨l.take p, l.drop p, .inl ⟨(List.take_append_drop p l).symm, hh', by rw [hp, hlen], hA, fun y hy => ?_⟩⟩
    obtain ⟨i, hi⟩ := List.mem_iff_getElem?.1 hy
    rw [List.getElem?_drop] at hi
    have hpl : p < l.length := by have := (List.getElem?_eq_some_iff.1 hi).1; omega
    have hx : l[p]? = some l[p] := List.getElem?_eq_getElem hpl
    have h0 : Ah r l[p] := by
      rcases Ah.tri l[p] r with h | h | h
      · have := plN_at (l := l) (r := r) (x := l[p]) (by rw [← pos_law hr, hp]; exact hx); exact absurd h this
      · exfalso
        unfold hitR bsHit at hh'
        rw [hp, hx] at hh'
        simp [ordR_eq.2 h] at hh'
      · exact h
    by_cases e : i = 0
    · subst e; rw [Nat.add_zero, hx] at hi; cases hi; exact h0
    · exact h0.tr (hr p (p + i) _ y (by omega) hx hi)
theorem rises_append {A B : List Rec} : Rises (A ++ B) ↔ Rises A ∧ Rises B ∧ ∀ x ∈ A, ∀ y ∈ B, Ah x y := by
  constructor
  · intro h
    refine ⟨fun i j x y hij hx hy => ?_, fun i j x y hij hx hy => ?_, fun x hx y hy => ?_⟩
    · have h1 := (List.getElem?_eq_some_iff.1 hx).1
      have h2 := (List.getElem?_eq_some_iff.1 hy).1
      exact h i j x y hij (by rw [List.getElem?_append_left h1]; exact hx) (by rw [List.getElem?_append_left h2]; exact hy)
    · exact h (A.length + i) (A.length + j) x y (by omega) (by rw [List.getElem?_append_right (by omega)]; simpa using hx) (by rw [List.getElem?_append_right (by omega)]; simpa using hy)
    · obtain ⟨i, hi⟩ := List.mem_iff_getElem?.1 hx
      obtain ⟨j, hj⟩ := List.mem_iff_getElem?.1 hy
      have h1 := (List.getElem?_eq_some_iff.1 hi).1
      exact h i (A.length + j) x y (by omega) (by rw [List.getElem?_append_left h1]; exact hi) (by rw [List.getElem?_append_right (by omega)]; simpa using hj)
  · intro ⟨hA, hB, hAB⟩ i j x y hij hx hy
    by_cases h1 : j < A.length
    · rw [List.getElem?_append_left (by omega)] at hx
      rw [List.getElem?_append_left h1] at hy
      exact hA i j x y hij hx hy
    · rw [List.getElem?_append_right (by omega)] at hy
      by_cases h2 : i < A.length
      · rw [List.getElem?_append_left h2] at hx
        exact hAB x (List.mem_of_getElem? hx) y (List.mem_of_getElem? hy)
      · rw [List.getElem?_append_right (by omega)] at hx
        exact hB _ _ x y (by omega) hx hy
theorem rises_cons {r : Rec} {B : List Rec} : Rises (r :: B) ↔ Rises B ∧ ∀ y ∈ B, Ah r y := by
  have h := rises_append (A := [r]) (B := B)
  simp only [List.singleton_append, List.mem_singleton, forall_eq] at h
  rw [h]
  constructor
  · intro ⟨_, h2, h3⟩; exact ⟨h2, h3⟩
  · intro ⟨h2, h3⟩
    refine ⟨fun i j x y hij hx hy => ?_, h2, h3⟩
    have := (List.getElem?_eq_some_iff.1 hy).1
    simp at this; omega
/-- What Put makes: the record in its place, or in its gap. -/
theorem put_law {l : List Rec} (hr : Rises l) (r : Rec) : ∃ A B, putL l r = A ++ r :: B ∧ (∀ x ∈ A, Ah x r) ∧ (∀ x ∈ B, Ah r x) ∧ Rises A ∧ Rises B ∧
    ((l = A ++ B ∧ hitR l r = false) ∨ ∃ x, l = A ++ x :: B ∧ Pl x r ∧ hitR l r = true) := by
  obtain ⟨A, B, ⟨h1, h2, h3, h4, h5⟩ | ⟨x, h1, h2, h3, h4, h5, h6⟩⟩ := place hr r
  · subst h1
    have hra := (rises_append.1 hr)
    refine ⟨A, B, ?_, h4, h5, hra.1, hra.2.1, .inl ⟨rfl, h2⟩⟩
    unfold putL
    rw [if_neg (by simp [h2]), h3]
    simp
  · subst h1
    have hra := (rises_append.1 hr)
    refine ⟨A, B, ?_, h4, h5, hra.1, (rises_cons.1 hra.2.1).1, .inr ⟨x, rfl, h6, h2⟩⟩
    unfold putL
    rw [if_pos h2, h3]
    simp
theorem putL_rises {l : List Rec} (hr : Rises l) (r : Rec) : Rises (putL l r) := by
  obtain ⟨A, B, h1, h2, h3, h4, h5, _⟩ := put_law hr r
  rw [h1]
  exact rises_append.2 ⟨h4, rises_cons.2 ⟨h5, h3⟩, fun x hx y hy => by
    rcases List.mem_cons.1 hy with rfl | hy
    · exact h2 x hx
    · exact (h2 x hx).tr (h3 y hy)⟩
theorem atB_append (A B : List Rec) (n : Bs) : atB (A ++ B) n = atB A n ++ atB B n := by unfold atB; rw [List.filter_append]
theorem atB_cons (r : Rec) (B : List Rec) (n : Bs) : atB (r :: B) n = (if r.N = n then [r] else []) ++ atB B n := by
  unfold atB; rw [List.filter_cons]
  by_cases e : r.N = n <;> simp [e]
theorem put_other {l : List Rec} (hr : Rises l) (r : Rec) {n : Bs} (h : ¬ r.N = n) : atB (putL l r) n = atB l n := by
  obtain ⟨A, B, h1, _, _, _, _, ⟨rfl, _⟩ | ⟨x, rfl, hp, _⟩⟩ := put_law hr r
  · rw [h1, atB_append, atB_cons, if_neg h, atB_append]; rfl
  · rw [h1, atB_append, atB_cons, if_neg h, atB_append, atB_cons, if_neg (by rw [hp.1]; exact h)]
theorem crowd_other {l m : List Rec} {n : Bs} (h : atB l n = atB m n) : crowdB l n = crowdB m n := by unfold crowdB; rw [h]
theorem mem_putL {l : List Rec} (hr : Rises l) {r x : Rec} (h : x ∈ putL l r) : x = r ∨ x ∈ l := by
  obtain ⟨A, B, h1, _, _, _, _, ⟨rfl, _⟩ | ⟨y, rfl, _, _⟩⟩ := put_law hr r
  · rw [h1] at h; simp only [List.mem_append, List.mem_cons] at h ⊢
    rcases h with h | h | h
    · exact .inr (.inl h)
    · exact .inl h
    · exact .inr (.inr h)
  · rw [h1] at h; simp only [List.mem_append, List.mem_cons] at h ⊢
    rcases h with h | h | h
    · exact .inr (.inl h)
    · exact .inl h
    · exact .inr (.inr (.inr h))
theorem mem_put_self {l : List Rec} (hr : Rises l) (r : Rec) : r ∈ putL l r := by
  obtain ⟨A, B, h1, _⟩ := put_law hr r
  rw [h1]; simp
/-- Whether an alias is crowded after a put is seen at the name put. -/
theorem put_alone {a : Bs} {l : List Rec} (h : Ok a l) (r : Rec) : aloneB (putL l r) = !crowdB (putL l r) r.N := by
  rw [Bool.eq_iff_iff, alone_law (putL_rises h.rise r)]
  simp only [Bool.not_eq_true']
  constructor
  · intro h1; exact h1 r (mem_put_self h.rise r)
  · intro h1 x hx
    by_cases e : r.N = x.N
    · rw [← e]; exact h1
    · rw [crowd_other (put_other h.rise r e)]
      rcases mem_putL h.rise hx with rfl | hx
      · exact absurd rfl e
      · exact h.alone x hx
theorem put_ok_law {a : Bs} {l : List Rec} (h : Ok a l) {r : Rec} (h1 : formB r = true) (h2 : underB r.N a = true) (h3 : crowdB (putL l r) r.N = false) : Ok a (putL l r) := by
  refine ⟨h.apex, fun x hx => ?_, fun x hx => ?_, putL_rises h.rise r, ?_⟩
  · rcases mem_putL h.rise hx with rfl | hx
    · exact h1
    · exact h.form x hx
  · rcases mem_putL h.rise hx with rfl | hx
    · exact h2
    · exact h.und x hx
  · refine (alone_law (putL_rises h.rise r)).1 ?_
    rw [put_alone h, h3]; rfl
end Go.Proofs.YtfgejhlgenaniaaDoor
