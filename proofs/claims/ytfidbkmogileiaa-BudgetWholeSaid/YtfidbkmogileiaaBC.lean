
/- The chapter's example; what is handed in, as data. Plain laws: what a spending leaves. Plain laws: what is left after a spending. -/
import Derived.Test.YtfidbkmogileiaaBB
namespace Go.Proofs.Ytfidbkmogileiaa
open Go.Eng
set_option linter.unusedSimpArgs false
set_option maxRecDepth 10000

theorem live_ok : Meets Try.prog 11 [] (rOne (vB true)) := by
  have s1 := fun n al p k lf => Spend_ok [] ⟨n, al, p, k, lf, 2, 10⟩ 1 7 5 (by simp)
  simp only [show SpendV [] 2 10 1 7 5 = ([⟨7, 1, 5, 1⟩], 0) from by kernel_rfl] at s1
  have s2 := fun n al p k lf => Spend_ok [⟨7, 1, 5, 1⟩] ⟨n, al, p, k, lf, 2, 10⟩ 1 7 6 (by simp)
  simp only [show SpendV [⟨7, 1, 5, 1⟩] 2 10 1 7 6 = ([⟨7, 1, 5, 2⟩], 0) from by kernel_rfl] at s2
  have s3 := fun n al p k lf => Spend_ok [⟨7, 1, 5, 2⟩] ⟨n, al, p, k, lf, 2, 10⟩ 1 7 7 (by simp)
  simp only [show SpendV [⟨7, 1, 5, 2⟩] 2 10 1 7 7 = ([], 170) from by kernel_rfl] at s3
  have s4 := fun n al p k lf => Spend_ok [⟨7, 1, 5, 2⟩] ⟨n, al, p, k, lf, 2, 10⟩ 1 7 15 (by simp)
  simp only [show SpendV [⟨7, 1, 5, 2⟩] 2 10 1 7 15 = ([⟨7, 1, 15, 1⟩], 0) from by kernel_rfl] at s4
  have l1 := fun n al p k lf => Left_ok [] ⟨n, al, p, k, lf, 2, 10⟩ 1 7 5 (by simp)
  simp only [show LeftV [] 2 10 1 7 5 = 2 from by kernel_rfl] at l1
  have l2 := fun n al p k lf => Left_ok [⟨7, 1, 5, 1⟩] ⟨n, al, p, k, lf, 2, 10⟩ 1 7 6 (by simp)
  simp only [show LeftV [⟨7, 1, 5, 1⟩] 2 10 1 7 6 = 1 from by kernel_rfl] at l2
  have l3 := fun n al p k lf => Left_ok [⟨7, 1, 5, 2⟩] ⟨n, al, p, k, lf, 2, 10⟩ 1 7 7 (by simp)
  simp only [show LeftV [⟨7, 1, 5, 2⟩] 2 10 1 7 7 = 0 from by kernel_rfl] at l3
  have l4 := fun n al p k lf => Left_ok [⟨7, 1, 5, 2⟩] ⟨n, al, p, k, lf, 2, 10⟩ 1 7 15 (by simp)
  simp only [show LeftV [⟨7, 1, 5, 2⟩] 2 10 1 7 15 = 2 from by kernel_rfl] at l4
  have c1 := check_ok [⟨7, 1, 15, 1⟩] (by simp)
  rw [show checkV [⟨7, 1, 15, 1⟩] = 0 from by kernel_rfl] at c1
  have c2 := check_ok [⟨0, 0, 0, 0⟩] (by simp)
  rw [show checkV [⟨0, 0, 0, 0⟩] = 1 from by kernel_rfl] at c2
  refine meets Try.func11 rfl rfl Try.ntmps11 Try.results11 rfl ?_
  simp -dsimp -implicitDefEqProofs only [go_sem, ↓reduceIte, reduceCtorEq, Nat.reduceLT, Nat.reduceLeDiff, Nat.reduceEqDiff, Nat.reduceAdd, Nat.reduceMul, Nat.reduceSub, Nat.reduceBEq, Int.reduceLT, Int.reduceLE, Int.reduceEq, Int.reduceBEq, Int.reduceNeg]
  refine callP (s1 _ _ _ _ _) ?_
  simp -dsimp -implicitDefEqProofs only [go_sem, ↓reduceIte, reduceCtorEq, Nat.reduceLT, Nat.reduceLeDiff, Nat.reduceEqDiff, Nat.reduceAdd, Nat.reduceMul, Nat.reduceSub, Nat.reduceBEq, Int.reduceLT, Int.reduceLE, Int.reduceEq, Int.reduceBEq, Int.reduceNeg]
  refine callP (s2 _ _ _ _ _) ?_
  simp -dsimp -implicitDefEqProofs only [go_sem, ↓reduceIte, reduceCtorEq, Nat.reduceLT, Nat.reduceLeDiff, Nat.reduceEqDiff, Nat.reduceAdd, Nat.reduceMul, Nat.reduceSub, Nat.reduceBEq, Int.reduceLT, Int.reduceLE, Int.reduceEq, Int.reduceBEq, Int.reduceNeg]
  refine callP (s3 _ _ _ _ _) ?_
  simp -dsimp -implicitDefEqProofs only [go_sem, ↓reduceIte, reduceCtorEq, Nat.reduceLT, Nat.reduceLeDiff, Nat.reduceEqDiff, Nat.reduceAdd, Nat.reduceMul, Nat.reduceSub, Nat.reduceBEq, Int.reduceLT, Int.reduceLE, Int.reduceEq, Int.reduceBEq, Int.reduceNeg]
  refine callP (s4 _ _ _ _ _) ?_
  simp -dsimp -implicitDefEqProofs only [go_sem, ↓reduceIte, reduceCtorEq, Nat.reduceLT, Nat.reduceLeDiff, Nat.reduceEqDiff, Nat.reduceAdd, Nat.reduceMul, Nat.reduceSub, Nat.reduceBEq, Int.reduceLT, Int.reduceLE, Int.reduceEq, Int.reduceBEq, Int.reduceNeg]
  refine callP (l1 _ _ _ _ _) ?_
  simp -dsimp -implicitDefEqProofs only [go_sem, ↓reduceIte, reduceCtorEq, Nat.reduceLT, Nat.reduceLeDiff, Nat.reduceEqDiff, Nat.reduceAdd, Nat.reduceMul, Nat.reduceSub, Nat.reduceBEq, Int.reduceLT, Int.reduceLE, Int.reduceEq, Int.reduceBEq, Int.reduceNeg]
  refine callP (l2 _ _ _ _ _) ?_
  simp -dsimp -implicitDefEqProofs only [go_sem, ↓reduceIte, reduceCtorEq, Nat.reduceLT, Nat.reduceLeDiff, Nat.reduceEqDiff, Nat.reduceAdd, Nat.reduceMul, Nat.reduceSub, Nat.reduceBEq, Int.reduceLT, Int.reduceLE, Int.reduceEq, Int.reduceBEq, Int.reduceNeg]
  refine callP (l3 _ _ _ _ _) ?_
  simp -dsimp -implicitDefEqProofs only [go_sem, ↓reduceIte, reduceCtorEq, Nat.reduceLT, Nat.reduceLeDiff, Nat.reduceEqDiff, Nat.reduceAdd, Nat.reduceMul, Nat.reduceSub, Nat.reduceBEq, Int.reduceLT, Int.reduceLE, Int.reduceEq, Int.reduceBEq, Int.reduceNeg]
  refine callP (l4 _ _ _ _ _) ?_
  simp -dsimp -implicitDefEqProofs only [go_sem, ↓reduceIte, reduceCtorEq, Nat.reduceLT, Nat.reduceLeDiff, Nat.reduceEqDiff, Nat.reduceAdd, Nat.reduceMul, Nat.reduceSub, Nat.reduceBEq, Int.reduceLT, Int.reduceLE, Int.reduceEq, Int.reduceBEq, Int.reduceNeg]
  refine callP c1 ?_
  simp -dsimp -implicitDefEqProofs only [go_sem, ↓reduceIte, reduceCtorEq, Nat.reduceLT, Nat.reduceLeDiff, Nat.reduceEqDiff, Nat.reduceAdd, Nat.reduceMul, Nat.reduceSub, Nat.reduceBEq, Int.reduceLT, Int.reduceLE, Int.reduceEq, Int.reduceBEq, Int.reduceNeg]
  refine callP c2 ?_
  simp -dsimp -implicitDefEqProofs only [go_sem, ↓reduceIte, reduceCtorEq, Nat.reduceLT, Nat.reduceLeDiff, Nat.reduceEqDiff, Nat.reduceAdd, Nat.reduceMul, Nat.reduceSub, Nat.reduceBEq, Int.reduceLT, Int.reduceLE, Int.reduceEq, Int.reduceBEq, Int.reduceNeg]

theorem few_ok (l : List Sp) : Meets Try.prog 12 [(false, [vD (spsD l)])] (rOne (vB (decide ((l.length : Int) ≤ 1100)))) := by
  refine meets Try.func12 rfl rfl Try.ntmps12 Try.results12 rfl ?_
  simp -dsimp -implicitDefEqProofs only [go_sem, ↓reduceIte, reduceCtorEq, Nat.reduceLT, Nat.reduceLeDiff, Nat.reduceEqDiff, Nat.reduceAdd, Nat.reduceMul, Nat.reduceSub, Nat.reduceBEq, Int.reduceLT, Int.reduceLE, Int.reduceEq, Int.reduceBEq, Int.reduceNeg]

theorem arg_spents (ds : List D) : argC Try.prog 22 ds = (false, ds.map .d) := by
  unfold argC; rw [show isStruct Try.prog 22 = false from by kernel_rfl]
theorem arg_int (ds : List D) : argC Try.prog 3 ds = (false, ds.map .d) := by
  unfold argC; rw [show isStruct Try.prog 3 = false from by kernel_rfl]
theorem read_int {ds : List D} (h : shpG tys 6 3 ds) : ∃ n : Int, ds = [dI n] ∧ -9223372036854775808 ≤ n ∧ n ≤ 9223372036854775807 := h
theorem read_spents {ds : List D} (h : shpG tys 6 22 ds) : ∃ l : List Sp, ds = [spsD l] := by
  simp -dsimp -implicitDefEqProofs only [shpG, tileG, go_sem] at h
  obtain ⟨rows, rfl, _, hr⟩ := h
  obtain ⟨l, rfl, _⟩ := rows_map (cells := Sp.cells) (ok := fun _ => True) fun r hr' => by
    obtain ⟨_, _, ⟨a, rfl, _⟩, rfl, _, _, ⟨b, rfl, _⟩, rfl, _, _, ⟨c, rfl, _⟩, rfl, _, _, ⟨d, rfl, _⟩, rfl, rfl⟩ := hr r hr'
    exact ⟨⟨a, b, c, d⟩, rfl, trivial⟩
  exact ⟨l, rfl⟩
end Go.Proofs.Ytfidbkmogileiaa
namespace Go.Proofs.Ytfidbkmogileiaa
open Go.Eng
set_option linter.unusedSimpArgs false

theorem ordV_self (a r : Int) : ordV a r a r = 0 := by rw [ordV_zero]; exact ⟨rfl, rfl⟩
theorem put_mem {b : Sp} : ∀ {l : List Sp}, Rises l → ∀ z, z ∈ put b l ↔ z = b ∨ (z ∈ l ∧ keyB b.A b.R z = false) := by
  intro l h z
  rw [put_filter h]
  simp only [List.mem_append, List.mem_cons, List.mem_filter, decide_eq_true_eq, Bool.and_eq_true, Bool.not_eq_true', decide_eq_false_iff_not]
  constructor
  · rintro (⟨h1, h2⟩ | rfl | ⟨h1, h2, h3⟩)
    · exact .inr ⟨h1, cmpS_key h2⟩
    · exact .inl rfl
    · exact .inr ⟨h1, h3⟩
  · rintro (rfl | ⟨h1, h2⟩)
    · exact .inr (.inl rfl)
    · by_cases hc : cmpS b.A b.R z < 0
      · exact .inl ⟨h1, hc⟩
      · exact .inr (.inr ⟨h1, hc, h2⟩)
theorem rises_put {b : Sp} : ∀ {l : List Sp}, Rises l → Rises (put b l)
  | [], _ => ⟨by simp, trivial⟩
  | y :: r, h => by
    unfold put
    split
    · rename_i hc
      refine ⟨fun z hz => ?_, rises_put h.2⟩
      rcases (put_mem h.2 z).1 hz with rfl | ⟨hz, _⟩
      · exact hc
      · exact h.1 z hz
    · rename_i hc
      split
      · rename_i hk
        obtain ⟨e1, e2⟩ := keyB_iff.1 hk
        exact ⟨fun z hz => by rw [← e1, ← e2]; exact h.1 z hz, h.2⟩
      · rename_i hk
        have hby : ordV b.A b.R y.A y.R < 0 := by
          rw [cmpS_iff] at hc
          have : ¬ (y.A = b.A ∧ y.R = b.R) := fun e => hk (keyB_iff.2 e)
          rw [ordV_lt]; omega
        refine ⟨fun z hz => ?_, h⟩
        rcases List.mem_cons.1 hz with rfl | hz
        · exact hby
        · exact ordV_trans hby (h.1 z hz)
theorem rises_key {l : List Sp} (h : Rises l) {x y : Sp} (hx : x ∈ l) (hy : y ∈ l) (h1 : x.A = y.A) (h2 : x.R = y.R) : x = y := by
  induction l with
  | nil => simp at hx
  | cons z r ih =>
    rcases List.mem_cons.1 hx with e | hx'
    · rcases List.mem_cons.1 hy with e2 | hy'
      · rw [e, e2]
      · have := h.1 y hy'; rw [← e, h1, h2, ordV_self] at this; omega
    · rcases List.mem_cons.1 hy with e2 | hy'
      · have := h.1 x hx'; rw [← e2, h1, h2, ordV_self] at this; omega
      · exact ih h.2 hx' hy'
theorem rises_ext : ∀ {l l2 : List Sp}, Rises l → Rises l2 → (∀ x, x ∈ l ↔ x ∈ l2) → l = l2
  | [], [], _, _, _ => rfl
  | [], y :: r, _, _, h => by have := (h y).2 (by simp); simp at this
  | y :: r, [], _, _, h => by have := (h y).1 (by simp); simp at this
  | x :: r, y :: r2, h1, h2, h => by
    have hxy : x = y := by
      rcases List.mem_cons.1 ((h x).1 (by simp)) with e | hx
      · exact e
      · rcases List.mem_cons.1 ((h y).2 (by simp)) with e | hy
        · exact e.symm
        · have a1 := h2.1 x hx
          have a2 := h1.1 y hy
          have := ordV_trans a1 a2
          rw [ordV_self] at this; omega
    subst hxy
    congr 1
    refine rises_ext h1.2 h2.2 fun z => ⟨fun hz => ?_, fun hz => ?_⟩
    · rcases List.mem_cons.1 ((h z).1 (by simp [hz])) with rfl | hz2
      · have := h1.1 z hz; rw [ordV_self] at this; omega
      · exact hz2
    · rcases List.mem_cons.1 ((h z).2 (by simp [hz])) with rfl | hz2
      · have := h2.1 z hz; rw [ordV_self] at this; omega
      · exact hz2
theorem find_mem {l : List Sp} (h : Rises l) {a r : Int} {x : Sp} : l.find? (keyB a r) = some x ↔ x ∈ l ∧ keyB a r x = true := by
  constructor
  · intro e; exact ⟨List.mem_of_find?_eq_some e, List.find?_some e⟩
  · rintro ⟨h1, h2⟩
    obtain ⟨i, hi⟩ := List.getElem?_of_mem h1
    exact find_at h hi h2
theorem find_put {b : Sp} {l : List Sp} (h : Rises l) (a r : Int) : (put b l).find? (keyB a r) = if keyB a r b then some b else l.find? (keyB a r) := by
  split
  · rename_i hk
    exact (find_mem (rises_put h)).2 ⟨(put_mem h b).2 (.inl rfl), hk⟩
  · rename_i hk
    refine Option.ext fun x => ?_
    rw [find_mem (rises_put h), find_mem h, put_mem h]
    constructor
    · rintro ⟨rfl | ⟨h1, h2⟩, h3⟩
      · exact absurd h3 hk
      · exact ⟨h1, h3⟩
    · rintro ⟨h1, h2⟩
      refine ⟨.inr ⟨h1, ?_⟩, h2⟩
      cases hb : keyB b.A b.R x with
      | false => rfl
      | true =>
        obtain ⟨e1, e2⟩ := keyB_iff.1 hb
        obtain ⟨e3, e4⟩ := keyB_iff.1 h2
        exact absurd (keyB_iff.2 ⟨by omega, by omega⟩) hk
theorem put_comm {b b2 : Sp} {l : List Sp} (h : Rises l) (hk : ¬ (b.A = b2.A ∧ b.R = b2.R)) : put b2 (put b l) = put b (put b2 l) := by
  refine rises_ext (rises_put (rises_put h)) (rises_put (rises_put h)) fun z => ?_
  rw [put_mem (rises_put h), put_mem h, put_mem (rises_put h), put_mem h]
  have k1 : keyB b2.A b2.R b = false := by
    cases hb : keyB b2.A b2.R b with
    | false => rfl
    | true => exact absurd (keyB_iff.1 hb) hk
  have k2 : keyB b.A b.R b2 = false := by
    cases hb : keyB b.A b.R b2 with
    | false => rfl
    | true => have := keyB_iff.1 hb; exact absurd ⟨this.1.symm, this.2.symm⟩ hk
  constructor
  · rintro (rfl | ⟨rfl | ⟨h1, h2⟩, h3⟩)
    · exact .inr ⟨.inl rfl, k2⟩
    · exact .inl rfl
    · exact .inr ⟨.inr ⟨h1, h3⟩, h2⟩
  · rintro (rfl | ⟨rfl | ⟨h1, h2⟩, h3⟩)
    · exact .inr ⟨.inl rfl, k1⟩
    · exact .inl rfl
    · exact .inr ⟨.inr ⟨h1, h3⟩, h2⟩
theorem put_len (b : Sp) : ∀ (l : List Sp), (put b l).length ≤ l.length + 1 ∧ l.length ≤ (put b l).length
  | [] => by simp [put]
  | y :: r => by
    have := put_len b r
    unfold put
    split
    · simp; omega
    · split <;> simp
theorem put_same {b : Sp} {l : List Sp} (h : Rises l) {y : Sp} (hy : y ∈ l) (hk : keyB b.A b.R y = true) : (put b l).length = l.length := by
  obtain ⟨i, hi⟩ := List.getElem?_of_mem hy
  rw [put_hit h hi hk]; simp
theorem put_ok {b : Sp} {l : List Sp} (h : okFrom none l = true) (hb : okS b = true) : okFrom none (put b l) = true := by
  have hr := okFrom_rises h
  refine okFrom_of (fun z hz => ?_) (rises_put hr) (by simp)
  rcases (put_mem hr z).1 hz with rfl | ⟨hz, _⟩
  · exact hb
  · exact okFrom_all h z hz

theorem begun_key (l : List Sp) (W a r now : Int) : (begun l W a r now).A = a ∧ (begun l W a r now).R = r := by
  unfold begun; split <;> exact ⟨rfl, rfl⟩
theorem onS_put {b : Sp} {l : List Sp} (h : Rises l) (W a r now : Int) : onS (put b l) W a r now = if keyB a r b then (if W ≤ now - b.S then none else some b) else onS l W a r now := by
  unfold onS
  rw [find_put h]
  by_cases hk : keyB a r b = true
  · rw [if_pos hk, if_pos hk]
  · rw [if_neg hk, if_neg hk]

/-- What a spending that is granted means. -/
structure Granted (l : List Sp) (M W r a now : Int) (l' : List Sp) : Prop where
  ck : checkV l = 0
  may : mayB M W r a now = true
  ck' : checkV l' = 0
  free : M = 0 → l' = l
  put : M ≠ 0 → 0 < M ∧ 0 < W ∧ leftV l M W a r now ≠ 0 ∧ l' = put (begun l W a r now) l ∧ onS l' W a r now = some (begun l W a r now) ∧ okS (begun l W a r now) = true
theorem mayB_true {M W r a now : Int} (h : mayB M W r a now = true) : (0 ≤ M ∧ M ≤ 1099511627776) ∧ (0 ≤ W ∧ W ≤ 1099511627776) ∧ (M = 0 ∨ 0 < W) ∧ (0 ≤ r ∧ r < 32) ∧ (0 ≤ a ∧ a ≤ 1099511627776) ∧ 0 ≤ now ∧ now ≤ 1099511627776 := by
  simp [mayB, rmB, numB, ruleB] at h; omega
theorem mayB_of {M W r a now : Int} (h : (0 ≤ M ∧ M ≤ 1099511627776) ∧ (0 ≤ W ∧ W ≤ 1099511627776) ∧ (M = 0 ∨ 0 < W) ∧ (0 ≤ r ∧ r < 32) ∧ (0 ≤ a ∧ a ≤ 1099511627776) ∧ 0 ≤ now ∧ now ≤ 1099511627776) : mayB M W r a now = true := by
  simp [mayB, rmB, numB, ruleB]; omega
theorem okS_of {x : Sp} (h : (0 ≤ x.A ∧ x.A ≤ 1099511627776) ∧ (0 ≤ x.R ∧ x.R < 32) ∧ (0 ≤ x.S ∧ x.S ≤ 1099511627776) ∧ 1 ≤ x.M ∧ x.M ≤ 1099511627776) : okS x = true := by
  simp [okS, numB, ruleB]; omega

theorem begun_ok {l : List Sp} {M W r a now : Int} (hc : checkV l = 0) (hm : mayB M W r a now = true) (hM : M ≠ 0) (hL : leftV l M W a r now ≠ 0) : okS (begun l W a r now) = true ∧ now - (begun l W a r now).S < W := by
  obtain ⟨b1, b2, b3, b4, b5, b6⟩ := mayB_true hm
  unfold begun
  cases ho : onS l W a r now with
  | none => exact ⟨okS_of ⟨b5, b4, b6, by simp, by simp⟩, by simp; omega⟩
  | some s =>
    obtain ⟨hs, _, _, hW⟩ := onS_ok (checkV_zero hc).1 ho
    have hb := okS_bounds hs
    simp only [leftV, if_neg hM, ho] at hL
    exact ⟨okS_of ⟨b5, b4, hb.2.2.1, by simp; omega, by simp; omega⟩, hW⟩

theorem spend_law {l l' : List Sp} {M W r a now : Int} (h : SpendV l M W r a now = (l', 0)) : Granted l M W r a now l' := by
  unfold SpendV at h
  split at h
  · rename_i h1; exact absurd (Prod.mk.inj h).2 h1
  rename_i hc
  have hc : checkV l = 0 := by omega
  split at h
  · cases h
  rename_i hm
  have hm : mayB M W r a now = true := by simpa using hm
  obtain ⟨b1, b2, b3, b4, b5, b6⟩ := mayB_true hm
  unfold spendV at h
  split at h
  · rename_i h0
    cases h
    exact ⟨hc, hm, hc, fun _ => rfl, fun h => absurd h0 h⟩
  rename_i h0
  split at h
  · cases h
  rename_i hL
  split at h
  · cases h
  rename_i hlen
  cases h
  obtain ⟨ob, hW⟩ := begun_ok hc hm h0 hL
  refine ⟨hc, hm, checkV_of (put_ok (checkV_zero hc).1 ob) (by omega), fun h => absurd h h0, fun _ => ⟨by omega, by omega, hL, rfl, ?_, ob⟩⟩
  rw [onS_put (okFrom_rises (checkV_zero hc).1), if_pos (keyB_iff.2 (begun_key ..)), if_neg (by omega)]
theorem spend_refused {l : List Sp} {M W r a now : Int} (h : (SpendV l M W r a now).2 ≠ 0) : (SpendV l M W r a now).1 = [] ∧ ((SpendV l M W r a now).2 = 170 → LeftV l M W r a now = 0) := by
  unfold SpendV LeftV at *
  split
  · rename_i h1; exact ⟨rfl, fun _ => by rw [if_pos (.inl h1)]⟩
  rename_i h1
  rw [if_neg h1] at h
  split
  · rename_i h2; exact ⟨rfl, fun e => by cases e⟩
  rename_i h2
  rw [if_neg h2] at h
  rw [if_neg (by simp [h2]; omega)]
  unfold spendV at *
  split
  · rename_i h3; rw [if_pos h3] at h; exact absurd rfl h
  rename_i h3
  rw [if_neg h3] at h
  split
  · rename_i h4; exact ⟨rfl, fun _ => h4⟩
  rename_i h4
  rw [if_neg h4] at h
  split
  · exact ⟨rfl, fun e => by cases e⟩
  · rename_i h5; rw [if_neg h5] at h; exact absurd rfl h
end Go.Proofs.Ytfidbkmogileiaa
namespace Go.Proofs.Ytfidbkmogileiaa
open Go.Eng
set_option linter.unusedSimpArgs false

theorem SpendV_short (l : List Sp) (M W r a now : Int) (hl : l.length ≤ 1100) : (SpendV l M W r a now).1.length ≤ 1100 := by
  unfold SpendV spendV
  split
  · simp
  · split
    · simp
    · split
      · exact hl
      · split
        · simp
        · split
          · simp
          · simp only; omega
theorem LeftV_of {l : List Sp} {M W r a now : Int} (hc : checkV l = 0) (hm : mayB M W r a now = true) : LeftV l M W r a now = leftV l M W a r now := by
  simp [LeftV, hc, hm]
theorem LeftV_bd (l : List Sp) (M W r a now : Int) : 0 ≤ LeftV l M W r a now ∧ LeftV l M W r a now ≤ 1099511627776 := by
  by_cases h : checkV l ≠ 0 ∨ mayB M W r a now = false
  · rw [LeftV, if_pos h]; omega
  · have hc : checkV l = 0 := by
      by_cases h2 : checkV l = 0
      · exact h2
      · exact absurd (.inl h2) h
    have hm : mayB M W r a now = true := by
      cases h2 : mayB M W r a now with
      | true => rfl
      | false => exact absurd (.inr h2) h
    rw [LeftV_of hc hm]
    have hb := mayB_true hm
    unfold leftV
    split
    · omega
    · cases ho : onS l W a r now with
      | none => simp only; omega
      | some s =>
        have hs := okS_bounds (onS_ok (checkV_zero hc).1 ho).1
        simp only; omega
theorem left_spent {l l' : List Sp} {M W r a now : Int} (g : Granted l M W r a now l') (hM : M ≠ 0) : LeftV l' M W r a now = LeftV l M W r a now - 1 ∧ 0 < LeftV l M W r a now := by
  obtain ⟨h1, h2, h3, h4, h5, h6⟩ := g.put hM
  rw [LeftV_of g.ck g.may, LeftV_of g.ck' g.may]
  have e : leftV l' M W a r now = max 0 (M - (begun l W a r now).M) := by simp only [leftV, if_neg hM, h5]
  rw [e]
  unfold begun
  unfold leftV at h3 ⊢
  rw [if_neg hM] at h3 ⊢
  cases ho : onS l W a r now with
  | none => simp only; omega
  | some s =>
    rw [ho] at h3
    simp only at h3 ⊢
    omega
theorem left_free {l l' : List Sp} {W r a now : Int} (g : Granted l 0 W r a now l') : LeftV l 0 W r a now = 1099511627776 := by
  rw [LeftV_of g.ck g.may]; simp [leftV]
theorem onS_other {l l' : List Sp} {M W r a now : Int} (g : Granted l M W r a now l') (W2 a2 r2 now2 : Int) (h : ¬ (a2 = a ∧ r2 = r)) : onS l' W2 a2 r2 now2 = onS l W2 a2 r2 now2 := by
  by_cases hM : M = 0
  · rw [g.free hM]
  · obtain ⟨_, _, _, e, _⟩ := g.put hM
    obtain ⟨k1, k2⟩ := begun_key l W a r now
    rw [e, onS_put (okFrom_rises (checkV_zero g.ck).1), if_neg fun hk => h ?_]
    have := keyB_iff.1 hk
    exact ⟨by omega, by omega⟩
theorem left_other {l l' : List Sp} {M W r a now : Int} (g : Granted l M W r a now l') (M2 W2 a2 r2 now2 : Int) (h : ¬ (a2 = a ∧ r2 = r)) : LeftV l' M2 W2 r2 a2 now2 = LeftV l M2 W2 r2 a2 now2 := by
  unfold LeftV leftV
  rw [g.ck, g.ck', onS_other g W2 a2 r2 now2 h]
theorem again_left {l l' : List Sp} {M W r a now : Int} (g : Granted l M W r a now l') (hM : M ≠ 0) (hS : (begun l W a r now).S ≤ now) (hn : now + W ≤ 1099511627776) : LeftV l' M W r a (now + W) = M := by
  obtain ⟨h1, h2, h3, h4, h5, h6⟩ := g.put hM
  obtain ⟨b1, b2, b3, b4, b5, b6⟩ := mayB_true g.may
  rw [LeftV_of g.ck' (mayB_of ⟨b1, b2, b3, b4, b5, by omega, hn⟩)]
  have ho : onS l' W a r (now + W) = none := by
    obtain ⟨k1, k2⟩ := begun_key l W a r now
    rw [h4, onS_put (okFrom_rises (checkV_zero g.ck).1), if_pos (keyB_iff.2 ⟨k1, k2⟩), if_pos (by omega)]
  simp only [leftV, if_neg hM, ho]
theorem again_len {l l' : List Sp} {M W r a now : Int} (g : Granted l M W r a now l') (hM : M ≠ 0) (hS : now < (begun l W a r now).S) : l.length = l'.length := by
  obtain ⟨h1, h2, h3, h4, h5, h6⟩ := g.put hM
  cases ho : onS l W a r now with
  | none => simp only [begun, ho] at hS; omega
  | some s =>
    obtain ⟨_, hm, hk, _⟩ := onS_ok (checkV_zero g.ck).1 ho
    obtain ⟨k1, k2⟩ := begun_key l W a r now
    rw [h4, put_same (okFrom_rises (checkV_zero g.ck).1) hm (by rw [k1, k2]; exact hk)]
theorem again_here {l l' : List Sp} {M W r a now : Int} (g : Granted l M W r a now l') (hM : M ≠ 0) : begun l W a r now ∈ l' ∧ ∀ x ∈ l', keyB a r x = true → x = begun l W a r now := by
  obtain ⟨h1, h2, h3, h4, h5, h6⟩ := g.put hM
  have hr := okFrom_rises (checkV_zero g.ck).1
  obtain ⟨k1, k2⟩ := begun_key l W a r now
  have hm : begun l W a r now ∈ l' := by rw [h4, put_mem hr]; exact .inl rfl
  refine ⟨hm, fun x hx hk => ?_⟩
  obtain ⟨e1, e2⟩ := keyB_iff.1 hk
  exact rises_key (okFrom_rises (checkV_zero g.ck').1) hx hm (by omega) (by omega)

theorem spendV_grant {l : List Sp} {M W r a now : Int} (hc : checkV l = 0) (hm : mayB M W r a now = true) (hM : M ≠ 0) (hL : leftV l M W a r now ≠ 0) (hlen : (put (begun l W a r now) l).length ≤ 1024) : SpendV l M W r a now = (put (begun l W a r now) l, 0) := by
  rw [SpendV, if_neg (by omega), if_neg (by simp [hm]), spendV, if_neg hM, if_neg hL, if_neg (by omega)]
theorem spendV_free {l : List Sp} {W r a now : Int} (hc : checkV l = 0) (hm : mayB 0 W r a now = true) : SpendV l 0 W r a now = (l, 0) := by
  rw [SpendV, if_neg (by omega), if_neg (by simp [hm]), spendV, if_pos rfl]

theorem apart_law {l l1 l2 : List Sp} {M W r a r2 a2 now : Int} (g1 : Granted l M W r a now l1) (g2 : Granted l M W r2 a2 now l2) (hl : l.length ≤ 1000) (hk : ¬ (r = r2 ∧ a = a2)) :
    ∃ u, SpendV l1 M W r2 a2 now = (u, 0) ∧ SpendV l2 M W r a now = (u, 0) ∧ u.length ≤ 1100 := by
  by_cases hM : M = 0
  · subst hM
    have e1 := g1.free rfl
    have e2 := g2.free rfl
    subst e1; subst e2
    exact ⟨_, spendV_free g2.ck g2.may, spendV_free g1.ck g1.may, by omega⟩
  · obtain ⟨p1, p2, p3, p4, p5, p6⟩ := g1.put hM
    obtain ⟨q1, q2, q3, q4, q5, q6⟩ := g2.put hM
    have o1 := onS_other g1 W a2 r2 now (by omega)
    have o2 := onS_other g2 W a r now (by omega)
    have b1 : begun l1 W a2 r2 now = begun l W a2 r2 now := by unfold begun; rw [o1]
    have b2 : begun l2 W a r now = begun l W a r now := by unfold begun; rw [o2]
    have v1 : leftV l1 M W a2 r2 now = leftV l M W a2 r2 now := by unfold leftV; rw [o1]
    have v2 : leftV l2 M W a r now = leftV l M W a r now := by unfold leftV; rw [o2]
    have n1 := (put_len (begun l W a r now) l).1
    have n2 := (put_len (begun l W a2 r2 now) l).1
    have n3 := (put_len (begun l W a2 r2 now) l1).1
    have n4 := (put_len (begun l W a r now) l2).1
    rw [← p4] at n1; rw [← q4] at n2
    obtain ⟨k1, k2⟩ := begun_key l W a r now
    obtain ⟨k3, k4⟩ := begun_key l W a2 r2 now
    have hcm : put (begun l W a2 r2 now) l1 = put (begun l W a r now) l2 := by
      rw [p4, q4]
      exact put_comm (okFrom_rises (checkV_zero g1.ck).1) (by omega)
    refine ⟨_, spendV_grant g1.ck' g2.may hM (by rw [v1]; exact q3) (by rw [b1]; omega), ?_, by rw [b1]; omega⟩
    rw [spendV_grant g2.ck' g1.may hM (by rw [v2]; exact p3) (by rw [b2]; omega), b1, b2, hcm]
end Go.Proofs.Ytfidbkmogileiaa
