/- Plain laws: zones as sets of records; names above names; cuts; the best zone. -/
import Derived.Test.YtfgejhlgenaniaaDoorZ20
namespace Go.Proofs.YtfgejhlgenaniaaDoor
open Go.Eng
set_option linter.unusedSimpArgs false
set_option maxRecDepth 10000

/-- Lists that rise and hold the same are the same. -/
theorem rises_ext : ∀ {l m : List Rec}, Rises l → Rises m → (∀ x, x ∈ l ↔ x ∈ m) → l = m
  | [], [], _, _, _ => rfl
  | [], y :: m, _, _, h => absurd ((h y).2 (List.mem_cons_self ..)) (by simp)
  | x :: l, [], _, _, h => absurd ((h x).1 (List.mem_cons_self ..)) (by simp)
  | x :: l, y :: m, hl, hm, h => by
    obtain ⟨hl1, hl2⟩ := rises_cons.1 hl
    obtain ⟨hm1, hm2⟩ := rises_cons.1 hm
    have e : x = y := by
      rcases List.mem_cons.1 ((h x).1 (List.mem_cons_self ..)) with e | e
      · exact e
      · rcases List.mem_cons.1 ((h y).2 (List.mem_cons_self ..)) with e' | e'
        · exact e'.symm
        · exact absurd (hl2 y e') (hm2 x e).as
    subst e
    congr 1
    refine rises_ext hl1 hm1 fun z => ?_
    constructor
    · intro hz
      rcases List.mem_cons.1 ((h z).1 (List.mem_cons_of_mem _ hz)) with e | e
      · subst e; exact absurd (hl2 z hz) (fun h => h.irr)
      · exact e
    · intro hz
      rcases List.mem_cons.1 ((h z).2 (List.mem_cons_of_mem _ hz)) with e | e
      · subst e; exact absurd (hm2 z hz) (fun h => h.irr)
      · exact e
theorem pl_eq {l : List Rec} (hr : Rises l) {x y : Rec} (hx : x ∈ l) (hy : y ∈ l) (h : Pl x y) : x = y := by
  obtain ⟨i, hi⟩ := List.mem_iff_getElem?.1 hx
  obtain ⟨j, hj⟩ := List.mem_iff_getElem?.1 hy
  rcases Nat.lt_trichotomy i j with h1 | h1 | h1
  · exact absurd (hr i j x y h1 hi hj) h.not
  · subst h1; rw [hi] at hj; cases hj; rfl
  · exact absurd (hr j i y x h1 hj hi) (Pl.symm h).not
theorem mem_put {l : List Rec} (hr : Rises l) {r x : Rec} : x ∈ putL l r ↔ x = r ∨ (x ∈ l ∧ ¬ Pl x r) := by
  obtain ⟨A, B, h1, h2, h3, _, _, h⟩ := put_law hr r
  have hA : ∀ y ∈ A, ¬ Pl y r := fun y hy hp => hp.not (h2 y hy)
  have hB : ∀ y ∈ B, ¬ Pl y r := fun y hy hp => (Pl.symm hp).not (h3 y hy)
  rw [h1]
  rcases h with ⟨rfl, _⟩ | ⟨y, rfl, hp, _⟩
  · simp only [List.mem_append, List.mem_cons]
    constructor
    · rintro (h | h | h)
      · exact .inr ⟨.inl h, hA x h⟩
      · exact .inl h
      · exact .inr ⟨.inr h, hB x h⟩
    · rintro (h | ⟨h | h, _⟩)
      · exact .inr (.inl h)
      · exact .inl h
      · exact .inr (.inr h)
  · simp only [List.mem_append, List.mem_cons]
    constructor
    · rintro (h | h | h)
      · exact .inr ⟨.inl h, hA x h⟩
      · exact .inl h
      · exact .inr ⟨.inr (.inr h), hB x h⟩
    · rintro (h | ⟨h | h | h, hn⟩)
      · exact .inr (.inl h)
      · exact .inl h
      · subst h; exact absurd hp hn
      · exact .inr (.inr h)
theorem hit_iff {l : List Rec} (hr : Rises l) (r : Rec) : hitR l r = true ↔ ∃ x ∈ l, Pl x r := by
  obtain ⟨A, B, h1, h2, h3, _, _, h⟩ := put_law hr r
  rcases h with ⟨rfl, hh⟩ | ⟨y, rfl, hp, hh⟩
  · rw [hh]
    constructor
    · intro h; cases h
    · rintro ⟨x, hx, hp⟩
      rcases List.mem_append.1 hx with hx | hx
      · exact absurd (h2 x hx) hp.not
      · exact absurd (h3 x hx) (Pl.symm hp).not
  · exact ⟨fun _ => ⟨y, by simp, hp⟩, fun _ => hh⟩
theorem put_length {l : List Rec} (hr : Rises l) (r : Rec) : (putL l r).length = l.length + if hitR l r then 0 else 1 := by
  obtain ⟨A, B, h1, h2, h3, _, _, h⟩ := put_law hr r
  rcases h with ⟨rfl, hh⟩ | ⟨y, rfl, hp, hh⟩
  · rw [h1, hh]; simp; omega
  · rw [h1, hh]; simp
/-- Two that are of different places may be put in either order. -/
theorem put_comm {l : List Rec} (hr : Rises l) {a b : Rec} (h : ¬ Pl a b) : putL (putL l a) b = putL (putL l b) a := by
  have ha := putL_rises hr a
  have hb := putL_rises hr b
  refine rises_ext (putL_rises ha b) (putL_rises hb a) fun x => ?_
  rw [mem_put ha, mem_put hr, mem_put hb, mem_put hr]
  constructor
  · rintro (rfl | ⟨rfl | ⟨h1, h2⟩, h3⟩)
    · exact .inr ⟨.inl rfl, fun h' => h (Pl.symm h')⟩
    · exact .inl rfl
    · exact .inr ⟨.inr ⟨h1, h3⟩, h2⟩
  · rintro (rfl | ⟨rfl | ⟨h1, h2⟩, h3⟩)
    · exact .inr ⟨.inl rfl, h⟩
    · exact .inl rfl
    · exact .inr ⟨.inr ⟨h1, h3⟩, h2⟩
theorem Pl.tr {a b c : Rec} (h : Pl a b) (h' : Pl b c) : Pl a c := ⟨h.1.trans h'.1, h.2.1.trans h'.2.1, h.2.2.trans h'.2.2⟩
theorem Pl.rfl' (a : Rec) : Pl a a := ⟨rfl, rfl, rfl⟩
/-- What is put in the place of another takes it. -/
theorem put_over {l : List Rec} (hr : Rises l) {a b : Rec} (h : Pl a b) : putL (putL l a) b = putL l b := by
  have ha := putL_rises hr a
  refine rises_ext (putL_rises ha b) (putL_rises hr b) fun x => ?_
  rw [mem_put ha, mem_put hr, mem_put hr]
  constructor
  · rintro (rfl | ⟨rfl | ⟨h1, h2⟩, h3⟩)
    · exact .inl rfl
    · exact absurd h h3
    · exact .inr ⟨h1, h3⟩
  · rintro (rfl | ⟨h1, h3⟩)
    · exact .inl rfl
    · exact .inr ⟨.inr ⟨h1, fun h' => h3 (Pl.tr h' h)⟩, h3⟩
theorem put_pl_length {l : List Rec} (hr : Rises l) {a b : Rec} (h : Pl a b) : (putL l a).length = (putL l b).length := by
  rw [put_length hr, put_length hr]
  have : hitR l a = hitR l b := by
    rw [Bool.eq_iff_iff, hit_iff hr, hit_iff hr]
    exact ⟨fun ⟨x, hx, hp⟩ => ⟨x, hx, hp.tr h⟩, fun ⟨x, hx, hp⟩ => ⟨x, hx, hp.tr (Pl.symm h)⟩⟩
  rw [this]
theorem put_self {l : List Rec} (hr : Rises l) {r : Rec} (h : r ∈ l) : putL l r = l := by
  refine rises_ext (putL_rises hr r) hr fun x => ?_
  rw [mem_put hr]
  constructor
  · rintro (rfl | ⟨h1, _⟩)
    · exact h
    · exact h1
  · intro hx
    by_cases hp : Pl x r
    · exact .inl (pl_eq hr hx h hp)
    · exact .inr ⟨hx, hp⟩
/-- What Drop leaves. -/
def dropL (l : List Rec) (r : Rec) : List Rec := l.take (posR l r) ++ l.drop (posR l r + 1)
theorem drop_law {l : List Rec} (hr : Rises l) {r : Rec} (h : hitR l r = true) : ∃ A B x, l = A ++ x :: B ∧ dropL l r = A ++ B ∧ Pl x r := by
  obtain ⟨A, B, ⟨h1, h2, _⟩ | ⟨x, h1, h2, h3, _, _, h6⟩⟩ := place hr r
  · rw [h] at h2; cases h2
  · refine ⟨A, B, x, h1, ?_, h6⟩
    unfold dropL
    rw [h3, h1]
    simp
theorem mem_drop {l : List Rec} (hr : Rises l) {r : Rec} (h : hitR l r = true) {y : Rec} : y ∈ dropL l r ↔ y ∈ l ∧ ¬ Pl y r := by
  obtain ⟨A, B, x, rfl, h2, hp⟩ := drop_law hr h
  have hra := rises_append.1 hr
  have hrb := rises_cons.1 hra.2.1
  rw [h2]
  simp only [List.mem_append, List.mem_cons]
  constructor
  · rintro (h1 | h1)
    · exact ⟨.inl h1, fun h' => (h'.tr (Pl.symm hp)).not (hra.2.2 y h1 x (by simp))⟩
    · exact ⟨.inr (.inr h1), fun h' => (hp.tr (Pl.symm h')).not (hrb.2 y h1)⟩
  · rintro ⟨h1 | h1 | h1, h3⟩
    · exact .inl h1
    · subst h1; exact absurd hp h3
    · exact .inr h1
theorem drop_rises {l : List Rec} (hr : Rises l) {r : Rec} (h : hitR l r = true) : Rises (dropL l r) := by
  obtain ⟨A, B, x, rfl, h2, hp⟩ := drop_law hr h
  have hra := rises_append.1 hr
  have hrb := rises_cons.1 hra.2.1
  rw [h2]
  exact rises_append.2 ⟨hra.1, hrb.1, fun u hu v hv => hra.2.2 u hu v (List.mem_cons_of_mem _ hv)⟩
theorem drop_length {l : List Rec} (hr : Rises l) {r : Rec} (h : hitR l r = true) : (dropL l r).length + 1 = l.length := by
  obtain ⟨A, B, x, rfl, h2, hp⟩ := drop_law hr h
  rw [h2]; simp; omega
theorem drop_ok_law {a : Bs} {l : List Rec} (hk : Ok a l) {r : Rec} (h : hitR l r = true) : Ok a (dropL l r) := by
  have hm : ∀ y ∈ dropL l r, y ∈ l := fun y hy => ((mem_drop hk.rise h).1 hy).1
  refine ⟨hk.apex, fun y hy => hk.form y (hm y hy), fun y hy => hk.und y (hm y hy), drop_rises hk.rise h, fun y hy => ?_⟩
  have hc := hk.alone y (hm y hy)
  obtain ⟨A, B, x, h1, h2, _⟩ := drop_law hk.rise h
  rw [h2]
  have e1 : atB l y.N = atB A y.N ++ ((if x.N = y.N then [x] else []) ++ atB B y.N) := by rw [h1, atB_append, atB_cons]
  have e2 : atB (A ++ B) y.N = atB A y.N ++ atB B y.N := atB_append ..
  unfold crowdB at hc ⊢
  rw [Bool.and_eq_false_iff] at hc ⊢
  rcases hc with hc | hc
  · left
    rw [e2, Bool.eq_false_iff]
    intro hh
    rw [List.any_eq_true] at hh
    obtain ⟨z, hz, hzk⟩ := hh
    rw [List.any_eq_false] at hc
    refine hc z ?_ hzk
    rw [e1]
    rcases List.mem_append.1 hz with hz | hz
    · exact List.mem_append.2 (.inl hz)
    · exact List.mem_append.2 (.inr (List.mem_append.2 (.inr hz)))
  · right
    rw [decide_eq_false_iff_not] at hc ⊢
    rw [e1] at hc
    rw [e2]
    simp only [List.length_append] at hc ⊢
    omega

/-! ### Names above names -/
theorem below_len : ∀ (m : Nat) {s t : Bs}, s.length ≤ m → belowB s t = true → t.length < s.length ∧ t ≠ []
  | 0, s, t, hm, h => by
    have : s = [] := List.length_eq_zero_iff.1 (by omega)
    subst this
    rw [belowB_nil] at h; cases h
  | m + 1, s, t, hm, h => by
    rw [belowB_eq] at h
    split at h
    · cases h
    · rename_i hu
      have hlt := upB_lt hu
      rw [Bool.or_eq_true] at h
      rcases h with h | h
      · have e : upB s = t := by simpa using h
        rw [← e]; exact ⟨hlt, hu⟩
      · have := below_len m (s := upB s) (t := t) (by omega) h
        exact ⟨by omega, this.2⟩
theorem below_lt {s t : Bs} (h : belowB s t = true) : t.length < s.length := (below_len s.length (Nat.le_refl _) h).1
theorem below_ne {s t : Bs} (h : belowB s t = true) : t ≠ [] := (below_len s.length (Nat.le_refl _) h).2
theorem below_up {s t : Bs} : belowB s t = true ↔ upB s ≠ [] ∧ (upB s = t ∨ belowB (upB s) t = true) := by
  rw [belowB_eq]
  by_cases h : upB s = []
  · simp [h]
  · simp [h]
theorem below_tr : ∀ (m : Nat) {s t u : Bs}, s.length ≤ m → belowB s t = true → belowB t u = true → belowB s u = true
  | 0, s, t, u, hm, h, _ => by have := below_lt h; omega
  | m + 1, s, t, u, hm, h, h' => by
    obtain ⟨h1, h2⟩ := below_up.1 h
    have hlt := upB_lt h1
    refine below_up.2 ⟨h1, .inr ?_⟩
    rcases h2 with h2 | h2
    · rw [h2]; exact h'
    · exact below_tr m (by omega) h2 h'
theorem below_trans {s t u : Bs} (h : belowB s t = true) (h' : belowB t u = true) : belowB s u = true := below_tr s.length (Nat.le_refl _) h h'
/-- Of two names above one, the longer is below the other. -/
theorem below_chain : ∀ (m : Nat) {s x y : Bs}, s.length ≤ m → (s = x ∨ belowB s x = true) → (s = y ∨ belowB s y = true) → y.length ≤ x.length → x = y ∨ belowB x y = true
  | m, s, x, y, hm, hx, hy, hlen => by
    rcases hx with rfl | hx
    · rcases hy with rfl | hy
      · exact .inl rfl
      · exact .inr hy
    · rcases hy with rfl | hy
      · have := below_lt hx; omega
      · obtain ⟨h1, h2⟩ := below_up.1 hx
        obtain ⟨_, h4⟩ := below_up.1 hy
        have hlt := upB_lt h1
        match m, hm with
        | 0, hm => omega
        | m + 1, hm => exact below_chain m (s := upB s) (by omega) h2 h4 hlen
/-- Under a name is that name, or what is below it. -/
theorem under_iff {s t : Bs} (ht : t ≠ []) : underB s t = true ↔ isName s = true ∧ (s = t ∨ belowB s t = true) := by
  unfold underB
  simp [ht]
theorem under_nil (s : Bs) : underB s [] = isName s := by unfold underB; simp
theorem name_ne {s : Bs} (h : isName s = true) : s ≠ [] := fun e => by subst e; rw [isName_nil] at h; cases h
theorem below_name {s t : Bs} (h : belowB s t = true) : isName s = true := by
  obtain ⟨h1, _⟩ := below_up.1 h
  unfold upB at h1
  split at h1
  · assumption
  · exact absurd rfl h1
end Go.Proofs.YtfgejhlgenaniaaDoor
