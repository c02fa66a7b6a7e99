/- Plain laws: what a spending leaves. -/
import Derived.Test.YtfidbkmogileiaaB6
namespace Go.Proofs.Ytfidbkmogileiaa
open Go.Eng
set_option linter.unusedSimpArgs false

theorem ordV_self (a r : Int) : ordV a r a r = 0 := by rw [ordV_zero]; exact ⟨rfl, rfl⟩
theorem put_mem {b : Sp} : ∀ {l : List Sp}, Rises l → ∀ z, z ∈ put b l ↔ z = b ∨ (z ∈ l ∧ keyB b.A b.R z = false) := by
  intro l h z
  rw [put_filter h]
  simp only [List.mem_append, List.mem_cons, List.mem_filter, decide_eq_true_eq, Bool.and_eq_true, Bool.not_eq_true', decide_eq_false_iff_not]
  constructor
  · rintro (⟨h1, h2⟩ | rfl | ⟨h1, h2, h3⟩)
    · exact .inr ⟨h1, cmpS_key h2⟩
    · exact .inl rfl
    · exact .inr ⟨h1, h3⟩
  · rintro (rfl | ⟨h1, h2⟩)
    · exact .inr (.inl rfl)
    · by_cases hc : cmpS b.A b.R z < 0
      · exact .inl ⟨h1, hc⟩
      · exact .inr (.inr ⟨h1, hc, h2⟩)
theorem rises_put {b : Sp} : ∀ {l : List Sp}, Rises l → Rises (put b l)
  | [], _ => ⟨by simp, trivial⟩
  | y :: r, h => by
    unfold put
    split
    · rename_i hc
      refine ⟨fun z hz => ?_, rises_put h.2⟩
      rcases (put_mem h.2 z).1 hz with rfl | ⟨hz, _⟩
      · exact hc
      · exact h.1 z hz
    · rename_i hc
      split
      · rename_i hk
        obtain ⟨e1, e2⟩ := keyB_iff.1 hk
        exact ⟨fun z hz => by rw [← e1, ← e2]; exact h.1 z hz, h.2⟩
      · rename_i hk
        have hby : ordV b.A b.R y.A y.R < 0 := by
          rw [cmpS_iff] at hc
          have : ¬ (y.A = b.A ∧ y.R = b.R) := fun e => hk (keyB_iff.2 e)
          rw [ordV_lt]; omega
        refine ⟨fun z hz => ?_, h⟩
        rcases List.mem_cons.1 hz with rfl | hz
        · exact hby
        · exact ordV_trans hby (h.1 z hz)
theorem rises_key {l : List Sp} (h : Rises l) {x y : Sp} (hx : x ∈ l) (hy : y ∈ l) (h1 : x.A = y.A) (h2 : x.R = y.R) : x = y := by
  induction l with
  | nil => simp at hx
  | cons z r ih =>
    rcases List.mem_cons.1 hx with e | hx'
    · rcases List.mem_cons.1 hy with e2 | hy'
      · rw [e, e2]
      · have := h.1 y hy'; rw [← e, h1, h2, ordV_self] at this; omega
    · rcases List.mem_cons.1 hy with e2 | hy'
      · have := h.1 x hx'; rw [← e2, h1, h2, ordV_self] at this; omega
      · exact ih h.2 hx' hy'
theorem rises_ext : ∀ {l l2 : List Sp}, Rises l → Rises l2 → (∀ x, x ∈ l ↔ x ∈ l2) → l = l2
  | [], [], _, _, _ => rfl
  | [], y :: r, _, _, h => by have := (h y).2 (by simp); simp at this
  | y :: r, [], _, _, h => by have := (h y).1 (by simp); simp at this
  | x :: r, y :: r2, h1, h2, h => by
    have hxy : x = y := by
      rcases List.mem_cons.1 ((h x).1 (by simp)) with e | hx
      · exact e
      · rcases List.mem_cons.1 ((h y).2 (by simp)) with e | hy
        · exact e.symm
        · have a1 := h2.1 x hx
          have a2 := h1.1 y hy
          have := ordV_trans a1 a2
          rw [ordV_self] at this; omega
    subst hxy
    congr 1
    refine rises_ext h1.2 h2.2 fun z => ⟨fun hz => ?_, fun hz => ?_⟩
    · rcases List.mem_cons.1 ((h z).1 (by simp [hz])) with rfl | hz2
      · have := h1.1 z hz; rw [ordV_self] at this; omega
      · exact hz2
    · rcases List.mem_cons.1 ((h z).2 (by simp [hz])) with rfl | hz2
      · have := h2.1 z hz; rw [ordV_self] at this; omega
      · exact hz2
theorem find_mem {l : List Sp} (h : Rises l) {a r : Int} {x : Sp} : l.find? (keyB a r) = some x ↔ x ∈ l ∧ keyB a r x = true := by
  constructor
  · intro e; exact ⟨List.mem_of_find?_eq_some e, List.find?_some e⟩
  · rintro ⟨h1, h2⟩
    obtain ⟨i, hi⟩ := List.getElem?_of_mem h1
    exact find_at h hi h2
theorem find_put {b : Sp} {l : List Sp} (h : Rises l) (a r : Int) : (put b l).find? (keyB a r) = if keyB a r b then some b else l.find? (keyB a r) := by
  split
  · rename_i hk
    exact (find_mem (rises_put h)).2 ⟨(put_mem h b).2 (.inl rfl), hk⟩
  · rename_i hk
    refine Option.ext fun x => ?_
    rw [find_mem (rises_put h), find_mem h, put_mem h]
    constructor
    · rintro ⟨rfl | ⟨h1, h2⟩, h3⟩
      · exact absurd h3 hk
      · exact ⟨h1, h3⟩
    · rintro ⟨h1, h2⟩
      refine ⟨.inr ⟨h1, ?_⟩, h2⟩
      cases hb : keyB b.A b.R x with
      | false => rfl
      | true =>
        obtain ⟨e1, e2⟩ := keyB_iff.1 hb
        obtain ⟨e3, e4⟩ := keyB_iff.1 h2
        exact absurd (keyB_iff.2 ⟨by omega, by omega⟩) hk
theorem put_comm {b b2 : Sp} {l : List Sp} (h : Rises l) (hk : ¬ (b.A = b2.A ∧ b.R = b2.R)) : put b2 (put b l) = put b (put b2 l) := by
  refine rises_ext (rises_put (rises_put h)) (rises_put (rises_put h)) fun z => ?_
  rw [put_mem (rises_put h), put_mem h, put_mem (rises_put h), put_mem h]
  have k1 : keyB b2.A b2.R b = false := by
    cases hb : keyB b2.A b2.R b with
    | false => rfl
    | true => exact absurd (keyB_iff.1 hb) hk
  have k2 : keyB b.A b.R b2 = false := by
    cases hb : keyB b.A b.R b2 with
    | false => rfl
    | true => have := keyB_iff.1 hb; exact absurd ⟨this.1.symm, this.2.symm⟩ hk
  constructor
  · rintro (rfl | ⟨rfl | ⟨h1, h2⟩, h3⟩)
    · exact .inr ⟨.inl rfl, k2⟩
    · exact .inl rfl
    · exact .inr ⟨.inr ⟨h1, h3⟩, h2⟩
  · rintro (rfl | ⟨rfl | ⟨h1, h2⟩, h3⟩)
    · exact .inr ⟨.inl rfl, k1⟩
    · exact .inl rfl
    · exact .inr ⟨.inr ⟨h1, h3⟩, h2⟩
theorem put_len (b : Sp) : ∀ (l : List Sp), (put b l).length ≤ l.length + 1 ∧ l.length ≤ (put b l).length
  | [] => by simp [put]
  | y :: r => by
    have := put_len b r
    unfold put
    split
    · simp; omega
    · split <;> simp
theorem put_same {b : Sp} {l : List Sp} (h : Rises l) {y : Sp} (hy : y ∈ l) (hk : keyB b.A b.R y = true) : (put b l).length = l.length := by
  obtain ⟨i, hi⟩ := List.getElem?_of_mem hy
  rw [put_hit h hi hk]; simp
theorem put_ok {b : Sp} {l : List Sp} (h : okFrom none l = true) (hb : okS b = true) : okFrom none (put b l) = true := by
  have hr := okFrom_rises h
  refine okFrom_of (fun z hz => ?_) (rises_put hr) (by simp)
  rcases (put_mem hr z).1 hz with rfl | ⟨hz, _⟩
  · exact hb
  · exact okFrom_all h z hz

theorem begun_key (l : List Sp) (W a r now : Int) : (begun l W a r now).A = a ∧ (begun l W a r now).R = r := by
  unfold begun; split <;> exact ⟨rfl, rfl⟩
theorem onS_put {b : Sp} {l : List Sp} (h : Rises l) (W a r now : Int) : onS (put b l) W a r now = if keyB a r b then (if W ≤ now - b.S then none else some b) else onS l W a r now := by
  unfold onS
  rw [find_put h]
  by_cases hk : keyB a r b = true
  · rw [if_pos hk, if_pos hk]
  · rw [if_neg hk, if_neg hk]

/-- What a spending that is granted means. -/
structure Granted (l : List Sp) (M W r a now : Int) (l' : List Sp) : Prop where
  ck : checkV l = 0
  may : mayB M W r a now = true
  ck' : checkV l' = 0
  free : M = 0 → l' = l
  put : M ≠ 0 → 0 < M ∧ 0 < W ∧ leftV l M W a r now ≠ 0 ∧ l' = put (begun l W a r now) l ∧ onS l' W a r now = some (begun l W a r now) ∧ okS (begun l W a r now) = true
theorem mayB_true {M W r a now : Int} (h : mayB M W r a now = true) : (0 ≤ M ∧ M ≤ 1099511627776) ∧ (0 ≤ W ∧ W ≤ 1099511627776) ∧ (M = 0 ∨ 0 < W) ∧ (0 ≤ r ∧ r < 32) ∧ (0 ≤ a ∧ a ≤ 1099511627776) ∧ 0 ≤ now ∧ now ≤ 1099511627776 := by
  simp [mayB, rmB, numB, ruleB] at h; omega
theorem mayB_of {M W r a now : Int} (h : (0 ≤ M ∧ M ≤ 1099511627776) ∧ (0 ≤ W ∧ W ≤ 1099511627776) ∧ (M = 0 ∨ 0 < W) ∧ (0 ≤ r ∧ r < 32) ∧ (0 ≤ a ∧ a ≤ 1099511627776) ∧ 0 ≤ now ∧ now ≤ 1099511627776) : mayB M W r a now = true := by
  simp [mayB, rmB, numB, ruleB]; omega
theorem okS_of {x : Sp} (h : (0 ≤ x.A ∧ x.A ≤ 1099511627776) ∧ (0 ≤ x.R ∧ x.R < 32) ∧ (0 ≤ x.S ∧ x.S ≤ 1099511627776) ∧ 1 ≤ x.M ∧ x.M ≤ 1099511627776) : okS x = true := by
  simp [okS, numB, ruleB]; omega

theorem begun_ok {l : List Sp} {M W r a now : Int} (hc : checkV l = 0) (hm : mayB M W r a now = true) (hM : M ≠ 0) (hL : leftV l M W a r now ≠ 0) : okS (begun l W a r now) = true ∧ now - (begun l W a r now).S < W := by
  obtain ⟨b1, b2, b3, b4, b5, b6⟩ := mayB_true hm
  unfold begun
  cases ho : onS l W a r now with
  | none => exact ⟨okS_of ⟨b5, b4, b6, by simp, by simp⟩, by simp; omega⟩
  | some s =>
    obtain ⟨hs, _, _, hW⟩ := onS_ok (checkV_zero hc).1 ho
    have hb := okS_bounds hs
    simp only [leftV, if_neg hM, ho] at hL
    exact ⟨okS_of ⟨b5, b4, hb.2.2.1, by simp; omega, by simp; omega⟩, hW⟩

theorem spend_law {l l' : List Sp} {M W r a now : Int} (h : SpendV l M W r a now = (l', 0)) : Granted l M W r a now l' := by
  unfold SpendV at h
  split at h
  · rename_i h1; exact absurd (Prod.mk.inj h).2 h1
  rename_i hc
  have hc : checkV l = 0 := by omega
  split at h
  · cases h
  rename_i hm
  have hm : mayB M W r a now = true := by simpa using hm
  obtain ⟨b1, b2, b3, b4, b5, b6⟩ := mayB_true hm
  unfold spendV at h
  split at h
  · rename_i h0
    cases h
    exact ⟨hc, hm, hc, fun _ => rfl, fun h => absurd h0 h⟩
  rename_i h0
  split at h
  · cases h
  rename_i hL
  split at h
  · cases h
  rename_i hlen
  cases h
  obtain ⟨ob, hW⟩ := begun_ok hc hm h0 hL
  refine ⟨hc, hm, checkV_of (put_ok (checkV_zero hc).1 ob) (by omega), fun h => absurd h h0, fun _ => ⟨by omega, by omega, hL, rfl, ?_, ob⟩⟩
  rw [onS_put (okFrom_rises (checkV_zero hc).1), if_pos (keyB_iff.2 (begun_key ..)), if_neg (by omega)]
theorem spend_refused {l : List Sp} {M W r a now : Int} (h : (SpendV l M W r a now).2 ≠ 0) : (SpendV l M W r a now).1 = [] ∧ ((SpendV l M W r a now).2 = 170 → LeftV l M W r a now = 0) := by
  unfold SpendV LeftV at *
  split
  · rename_i h1; exact ⟨rfl, fun _ => by rw [if_pos (.inl h1)]⟩
  rename_i h1
  rw [if_neg h1] at h
  split
  · rename_i h2; exact ⟨rfl, fun e => by cases e⟩
  rename_i h2
  rw [if_neg h2] at h
  rw [if_neg (by simp [h2]; omega)]
  unfold spendV at *
  split
  · rename_i h3; rw [if_pos h3] at h; exact absurd rfl h
  rename_i h3
  rw [if_neg h3] at h
  split
  · rename_i h4; exact ⟨rfl, fun _ => h4⟩
  rename_i h4
  rw [if_neg h4] at h
  split
  · exact ⟨rfl, fun e => by cases e⟩
  · rename_i h5; rw [if_neg h5] at h; exact absurd rfl h
end Go.Proofs.Ytfidbkmogileiaa
