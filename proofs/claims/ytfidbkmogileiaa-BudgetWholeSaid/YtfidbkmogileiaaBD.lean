
/- Several rules are spent: the plain law. All: budget's and the document's. BudgetAll, BudgetWhole: the laws' contracts. -/
import Derived.Test.YtfidbkmogileiaaBC
import Derived.Test.YtfidbkmogileiaaSrt
namespace Go.Proofs.Ytfidbkmogileiaa
open Go.Eng
set_option linter.unusedSimpArgs false
set_option maxRecDepth 10000

theorem mem_sortI {zs : List Int} {x : Int} : x ∈ sortI zs ↔ x ∈ zs := List.mem_mergeSort
theorem sortI_le (zs : List Int) : (sortI zs).Pairwise (fun a b => a ≤ b) := by
  have := List.pairwise_mergeSort (le := fun x y : Int => decide (x ≤ y)) (fun a b c h1 h2 => by simp at *; omega) (fun a b => by simp; omega) zs
  exact this.imp fun h => by simpa using h
/-- What Compact makes of integers that do not fall. -/
theorem compact_spec {zs : List Int} (hs : zs.Pairwise (fun a b => a ≤ b)) : ∀ m, m ≤ zs.length → (Lib.compactUpTo zs.toArray m).Pairwise (fun a b => a < b) ∧ (∀ x, x ∈ Lib.compactUpTo zs.toArray m ↔ x ∈ zs.take m) := by
  have hget : ∀ i (hi : i < zs.length), zs.toArray[i]! = zs[i] := fun i hi => by rw [getElem!_pos zs.toArray i (by simpa using hi)]; simp
  intro m
  induction m with
  | zero => intro _; exact ⟨by simp [Lib.compactUpTo], by simp [Lib.compactUpTo]⟩
  | succ m ih =>
    intro hm
    obtain ⟨h1, h2⟩ := ih (by omega)
    have htk : zs.take (m + 1) = zs.take m ++ [zs[m]] := by rw [List.take_add_one, List.getElem?_eq_getElem (by omega)]; rfl
    rw [Lib.compactUpTo_succ]
    cases hk : Lib.keeps zs.toArray m with
    | true =>
      simp only [if_true]
      rw [hget m (by omega)]
      refine ⟨List.pairwise_append.2 ⟨h1, by simp, fun x hx y hy => ?_⟩, fun x => ?_⟩
      · rw [List.mem_singleton] at hy
        subst hy
        have hxt := (h2 x).1 hx
        obtain ⟨i, hi⟩ := List.mem_iff_getElem?.1 hxt
        rw [List.getElem?_take] at hi
        split at hi
        · rename_i him
          obtain ⟨hi1, hi2⟩ := List.getElem?_eq_some_iff.1 hi
          have hne : zs[m] ≠ zs[m - 1] := by
            unfold Lib.keeps at hk
            rw [decide_eq_true_eq, hget m (by omega), hget (m - 1) (by omega)] at hk
            rcases hk with hk | hk
            · omega
            · exact hk
          have hle1 : zs[m - 1] ≤ zs[m] := List.pairwise_iff_getElem.1 hs (m - 1) m (by omega) (by omega) (by omega)
          have hle2 : x ≤ zs[m - 1] := by
            rcases Nat.lt_or_ge i (m - 1) with h | h
            · rw [← hi2]; exact List.pairwise_iff_getElem.1 hs i (m - 1) (by omega) (by omega) h
            · have : i = m - 1 := by omega
              subst this; omega
          omega
        · cases hi
      · rw [List.mem_append, htk, List.mem_append, h2]
    | false =>
      simp only [Bool.false_eq_true, if_false, List.append_nil]
      refine ⟨h1, fun x => ?_⟩
      have hm0 : ¬ m = 0 := by
        intro e
        unfold Lib.keeps at hk
        simp [e] at hk
      have he : zs[m] = zs[m - 1] := by
        unfold Lib.keeps at hk
        rw [decide_eq_false_iff_not, hget m (by omega), hget (m - 1) (by omega)] at hk
        exact Classical.byContradiction fun h => hk (.inr h)
      rw [h2, htk, List.mem_append, List.mem_singleton]
      constructor
      · exact .inl
      · rintro (h | h)
        · exact h
        · rw [h, he]
          refine List.mem_iff_getElem?.2 ⟨m - 1, ?_⟩
          rw [List.getElem?_take, if_pos (by omega), List.getElem?_eq_getElem]
/-- Integers, each once, as they rise. -/
def riseI (zs : List Int) : List Int := Lib.compact (sortI zs)
theorem riseI_lt (zs : List Int) : (riseI zs).Pairwise (fun a b => a < b) := (compact_spec (sortI_le zs) _ (by simp)).1
theorem mem_riseI {zs : List Int} {x : Int} : x ∈ riseI zs ↔ x ∈ zs := by
  unfold riseI Lib.compact
  rw [(compact_spec (sortI_le zs) _ (by simp)).2, List.take_of_length_le (by simp), mem_sortI]
theorem riseI_len (zs : List Int) : (riseI zs).length ≤ zs.length := by
  unfold riseI Lib.compact Lib.compactUpTo
  rw [List.length_map]
  exact Nat.le_trans (List.length_filter_le _ _) (by simp [sortI_len])
/-- Integers that rise and are the same are the same lists. -/
theorem lt_ext : ∀ {l m : List Int}, l.Pairwise (fun a b => a < b) → m.Pairwise (fun a b => a < b) → (∀ x, x ∈ l ↔ x ∈ m) → l = m
  | [], [], _, _, _ => rfl
  | [], y :: m, _, _, h => absurd ((h y).2 (List.mem_cons_self ..)) (by simp)
  | x :: l, [], _, _, h => absurd ((h x).1 (List.mem_cons_self ..)) (by simp)
  | x :: l, y :: m, hl, hm, h => by
    obtain ⟨hl2, hl1⟩ := List.pairwise_cons.1 hl
    obtain ⟨hm2, hm1⟩ := List.pairwise_cons.1 hm
    have e : x = y := by
      rcases List.mem_cons.1 ((h x).1 (List.mem_cons_self ..)) with e | e
      · exact e
      · rcases List.mem_cons.1 ((h y).2 (List.mem_cons_self ..)) with e' | e'
        · exact e'.symm
        · have := hl2 y e'; have := hm2 x e; omega
    subst e
    congr 1
    refine lt_ext hl1 hm1 fun z => ?_
    constructor
    · intro hz
      rcases List.mem_cons.1 ((h z).1 (List.mem_cons_of_mem _ hz)) with e | e
      · subst e; have := hl2 z hz; omega
      · exact e
    · intro hz
      rcases List.mem_cons.1 ((h z).2 (List.mem_cons_of_mem _ hz)) with e | e
      · subst e; have := hm2 z hz; omega
      · exact e

/-- Rules spent in their order. -/
def goV (rs : List Ru) (a now : Int) : List Int → List Sp → List Sp × Int
  | [], out => (out, 0)
  | n :: r, out => if n < 0 then goV rs a now r out else match rs[n.toNat]? with
    | none => ([], 1)
    | some x => if (SpendV out x.M x.W n a now).2 = 0 then goV rs a now r (SpendV out x.M x.W n a now).1 else ([], (SpendV out x.M x.W n a now).2)
def byB (rs : List Ru) (l : List Int) : Bool := l.all fun n => decide (-1 ≤ n) && decide (n < rs.length)
def allV (l : List Sp) (rs : List Ru) (l2 : List Int) (a now : Int) : List Sp × Int :=
  if checkV l ≠ 0 then ([], checkV l) else if (byB rs l2 && numB a && numB now) = false then ([], 1) else goV rs a now (riseI l2) l
theorem goV_bad {rs : List Ru} {a now : Int} : ∀ {L : List Int} {out : List Sp}, (goV rs a now L out).2 ≠ 0 → (goV rs a now L out).1 = []
  | [], out, h => absurd rfl h
  | n :: r, out, h => by
    unfold goV at h ⊢
    by_cases hn : n < 0
    · rw [if_pos hn] at h ⊢
      exact goV_bad h
    · rw [if_neg hn] at h ⊢
      cases hx : rs[n.toNat]? with
      | none => rfl
      | some x =>
        rw [hx] at h
        simp only at h ⊢
        by_cases hs : (SpendV out x.M x.W n a now).2 = 0
        · rw [if_pos hs] at h ⊢
          exact goV_bad h
        · rw [if_neg hs]
theorem goV_len {rs : List Ru} {a now : Int} : ∀ {L : List Int} {out : List Sp}, out.length ≤ 1100 → (goV rs a now L out).1.length ≤ 1100
  | [], out, h => h
  | n :: r, out, h => by
    unfold goV
    split
    · exact goV_len h
    · split
      · simp
      · split
        · exact goV_len (SpendV_short _ _ _ _ _ _ h)
        · simp
/-- What is below 0 is passed over. -/
theorem goV_skip {rs : List Ru} {a now : Int} : ∀ {L : List Int} {out : List Sp}, goV rs a now (L.filter fun n => decide (0 ≤ n)) out = goV rs a now L out
  | [], out => rfl
  | n :: r, out => by
    by_cases hn : n < 0
    · rw [List.filter_cons, if_neg (by simp; omega), goV_skip]
      conv => rhs; unfold goV
      rw [if_pos hn]
    · rw [List.filter_cons, if_pos (by simp; omega)]
      unfold goV
      rw [if_neg hn, if_neg hn]
      split
      · rfl
      · split
        · exact goV_skip
        · rfl
/-- Several rules are spent, or none. -/
theorem goV_law {rs : List Ru} {a now : Int} : ∀ {L : List Int} {l x : List Sp}, L.Pairwise (fun a b => a < b) → checkV l = 0 → goV rs a now L l = (x, 0) → checkV x = 0 ∧
    (∀ (i : Int) M W, (i < 0 ∨ i ∉ L) → LeftV x M W i a now = LeftV l M W i a now) ∧
    (∀ (i : Int) ru, 0 ≤ i → i ∈ L → rs[i.toNat]? = some ru → (ru.M = 0 → LeftV x ru.M ru.W i a now = LeftV l ru.M ru.W i a now) ∧ (ru.M ≠ 0 → 0 < ru.M ∧ LeftV x ru.M ru.W i a now = LeftV l ru.M ru.W i a now - 1))
  | [], l, x, _, hc, h => by
    cases h
    exact ⟨hc, fun _ _ _ _ => rfl, fun i ru _ hi => absurd hi (by simp)⟩
  | n :: r, l, x, hp, hc, h => by
    obtain ⟨hp1, hp2⟩ := List.pairwise_cons.1 hp
    unfold goV at h
    split at h
    · rename_i hn
      obtain ⟨g1, g2, g3⟩ := goV_law hp2 hc h
      refine ⟨g1, fun i M W hi => g2 i M W ?_, fun i ru h0 hi hru => g3 i ru h0 ?_ hru⟩
      · rcases hi with hi | hi
        · exact .inl hi
        · exact .inr fun h => hi (List.mem_cons_of_mem _ h)
      · rcases List.mem_cons.1 hi with rfl | hi
        · omega
        · exact hi
    · rename_i hn
      split at h
      · cases h
      · rename_i y hy
        split at h
        · rename_i hs
          obtain ⟨l', hs'⟩ : ∃ l', SpendV l y.M y.W n a now = (l', 0) := ⟨_, Prod.ext rfl hs⟩
          rw [hs'] at h
          have g := spend_law hs'
          obtain ⟨g1, g2, g3⟩ := goV_law hp2 g.ck' h
          have hnr : n ∉ r := fun h => by have := hp1 n h; omega
          refine ⟨g1, fun i M W hi => ?_, fun i ru h0 hi hru => ?_⟩
          · have hne : ¬ i = n := fun e => by
              subst e
              rcases hi with hi | hi
              · exact hn hi
              · exact hi (List.mem_cons_self ..)
            rw [g2 i M W (hi.imp_right fun h h' => h (List.mem_cons_of_mem _ h'))]
            exact left_other g M W a i now fun h => hne h.2
          · rcases List.mem_cons.1 hi with rfl | hi
            · rw [hy] at hru
              cases hru
              rw [g2 i y.M y.W (.inr hnr)]
              constructor
              · intro hM
                rw [g.free hM]
              · intro hM
                exact ⟨(g.put hM).1, (left_spent g hM).1⟩
            · have hne : ¬ i = n := fun e => hnr (e ▸ hi)
              have ho := left_other g ru.M ru.W a i now fun h => hne h.2
              rw [← ho]
              exact g3 i ru h0 hi hru
        · rename_i hs
          exact absurd (Prod.mk.inj h).2 hs
/-- Refused: something has none left. -/
theorem goV_spent {rs : List Ru} {a now : Int} : ∀ {L : List Int} {l : List Sp}, L.Pairwise (fun a b => a < b) → (goV rs a now L l).2 = 170 → ∃ n ∈ L, ∃ ru, 0 ≤ n ∧ rs[n.toNat]? = some ru ∧ LeftV l ru.M ru.W n a now = 0
  | [], l, _, h => by cases h
  | n :: r, l, hp, h => by
    obtain ⟨hp1, hp2⟩ := List.pairwise_cons.1 hp
    unfold goV at h
    split at h
    · obtain ⟨m, h1, h2⟩ := goV_spent hp2 h
      exact ⟨m, List.mem_cons_of_mem _ h1, h2⟩
    · rename_i hn
      split at h
      · cases h
      · rename_i y hy
        split at h
        · rename_i hs
          obtain ⟨l', hs'⟩ : ∃ l', SpendV l y.M y.W n a now = (l', 0) := ⟨_, Prod.ext rfl hs⟩
          rw [hs'] at h
          have g := spend_law hs'
          obtain ⟨m, h1, ru, h2, h3, h4⟩ := goV_spent hp2 h
          have hne : ¬ m = n := fun e => by have := hp1 m h1; omega
          refine ⟨m, List.mem_cons_of_mem _ h1, ru, h2, h3, ?_⟩
          rw [← left_other g ru.M ru.W a m now fun h => hne h.2]
          exact h4
        · rename_i hs
          exact ⟨n, List.mem_cons_self .., y, by omega, hy, (spend_refused hs).2 h⟩
/-- The document goes through the rules. -/
def rangeF (rs : List Ru) (l2 : List Int) (i : Nat) : List Int := ((List.range' i (rs.length - i)).map fun k : Nat => (k : Int)).filter fun x => decide (x ∈ l2)
theorem rangeF_step {rs : List Ru} {l2 : List Int} {i : Nat} (h : i < rs.length) : rangeF rs l2 i = if (i : Int) ∈ l2 then (i : Int) :: rangeF rs l2 (i + 1) else rangeF rs l2 (i + 1) := by
  unfold rangeF
  obtain ⟨d, hd⟩ : ∃ d, rs.length - i = d + 1 := ⟨rs.length - i - 1, by omega⟩
  rw [hd, List.range'_succ, show rs.length - (i + 1) = d by omega, List.map_cons, List.filter_cons]
  by_cases hm : (i : Int) ∈ l2
  · rw [if_pos (by simpa using hm), if_pos hm]
  · rw [if_neg (by simpa using hm), if_neg hm]
theorem rangeF_all {rs : List Ru} {l2 : List Int} (h : byB rs l2 = true) (a now : Int) (out : List Sp) : goV rs a now (rangeF rs l2 0) out = goV rs a now (riseI l2) out := by
  rw [← goV_skip (L := riseI l2)]
  congr 1
  refine lt_ext ?_ (List.Pairwise.filter _ (riseI_lt l2)) fun x => ?_
  · unfold rangeF
    refine List.Pairwise.filter _ (List.pairwise_map.2 ?_)
    exact (List.pairwise_lt_range' ..).imp fun h => by omega
  · unfold rangeF
    rw [List.mem_filter, List.mem_map, List.mem_filter, mem_riseI]
    simp only [decide_eq_true_eq, List.mem_range'_1]
    constructor
    · rintro ⟨⟨k, hk, rfl⟩, h2⟩
      exact ⟨h2, by omega⟩
    · rintro ⟨h1, h2⟩
      have h3 := List.all_eq_true.1 h x h1
      simp only [Bool.and_eq_true, decide_eq_true_eq] at h3
      exact ⟨⟨x.toNat, by omega, by omega⟩, h1⟩
end Go.Proofs.Ytfidbkmogileiaa
namespace Go.Proofs.Ytfidbkmogileiaa
open Go.Eng
set_option linter.unusedSimpArgs false
set_option maxRecDepth 10000

abbrev rusD (rs : List Ru) : D := .vec 7 (rs.map Ru.cells)
abbrev intsD (l : List Int) : D := .vec 1 (l.map rowI)
def okN (rs : List Ru) (n : Int) : Bool := decide (-1 ≤ n) && decide (n < rs.length)
theorem oddN_ok (rs : List Ru) (n : Int) : Meets Try.prog 35 [(false, [vI n]), (false, [vD (.pt [rusD rs])])] (rOne (vB (!okN rs n))) := by
  refine meets Try.func35 rfl rfl Try.ntmps35 Try.results35 rfl ?_
  simp -dsimp -implicitDefEqProofs only [go_sem, ↓reduceIte, reduceCtorEq, Nat.reduceLT, Nat.reduceLeDiff, Nat.reduceEqDiff, Nat.reduceAdd, Nat.reduceMul, Nat.reduceSub, Nat.reduceBEq, Int.reduceLT, Int.reduceLE, Int.reduceEq, Int.reduceBEq, Int.reduceNeg]
  repeat' (first | with_reducible apply And.intro | with_reducible intro _ | with_reducible exact drawn (by kernel_rfl) | omega)
  all_goals unfold okN
  · rename_i h1
    rw [decide_eq_true h1, Bool.true_and, ← decide_not, decide_eq_decide]
    omega
  · rename_i h1
    rw [decide_eq_false (by omega : ¬ -1 ≤ n)]; rfl
theorem clone1_ok (rows : List (List D)) (hl : rows.length ≤ 1000000) :
    Meets Try.prog 37 [(false, [vD (.vec 1 rows)])] (rOne (.own 1 3 rows)) := by
  refine meets Try.func37 rfl rfl Try.ntmps37 Try.results37 rfl ?_
  simp -dsimp -implicitDefEqProofs only [go_sem, ↓reduceIte, reduceCtorEq, Nat.reduceLT, Nat.reduceLeDiff, Nat.reduceEqDiff, Nat.reduceAdd, Nat.reduceMul, Nat.reduceSub, Nat.reduceBEq, Int.reduceLT, Int.reduceLE, Int.reduceEq, Int.reduceBEq, Int.reduceNeg]
  exact fun b hb => ⟨fun h => Classical.byContradiction fun hn => absurd ((hb hn).symm.trans h) (by simp), fun _ => ⟨by omega, by omega⟩⟩
theorem fewRules_ok (rs : List Ru) : Meets Try.prog 20 [(false, [vD (rusD rs)])] (rOne (vB (decide ((rs.length : Int) ≤ 40)))) := by
  refine meets Try.func20 rfl rfl Try.ntmps20 Try.results20 rfl ?_
  simp -dsimp -implicitDefEqProofs only [go_sem, ↓reduceIte, reduceCtorEq, Nat.reduceLT, Nat.reduceLeDiff, Nat.reduceEqDiff, Nat.reduceAdd, Nat.reduceMul, Nat.reduceSub, Nat.reduceBEq, Int.reduceLT, Int.reduceLE, Int.reduceEq, Int.reduceBEq, Int.reduceNeg]
structure StInv (l : List Int) (n : Int) where
  i : Nat
  le : i ≤ l.length
  no : ∀ j x, j < i → l[j]? = some x → ¬ x = n
theorem stands_ok (l : List Int) (n : Int) (hl : l.length ≤ 1000000) : Meets Try.prog 40 [(false, [vD (intsD l)]), (false, [vI n])] (rOne (vB (decide (n ∈ l)))) := by
  refine meets Try.func40 rfl rfl Try.ntmps40 Try.results40 rfl ?_
  simp -dsimp -implicitDefEqProofs only [go_sem, ↓reduceIte, reduceCtorEq, Nat.reduceLT, Nat.reduceLeDiff, Nat.reduceEqDiff, Nat.reduceAdd, Nat.reduceMul, Nat.reduceSub, Nat.reduceBEq, Int.reduceLT, Int.reduceLE, Int.reduceEq, Int.reduceBEq, Int.reduceNeg]
  refine vfor sitOk (ι := StInv l n) (fun v => ⟨18, [(5, aI v.i), (0, aD (intsD l)), (1, aI n)], [], 100⟩) (fun v => l.length - v.i) ⟨0, by omega, fun j x hj => by omega⟩ ?_ ?_
  · simp -dsimp -implicitDefEqProofs only [go_sem, ↓reduceIte, reduceCtorEq, Nat.reduceLT, Nat.reduceLeDiff, Nat.reduceEqDiff, Nat.reduceAdd, Nat.reduceMul, Nat.reduceSub, Nat.reduceBEq, Int.reduceLT, Int.reduceLE, Int.reduceEq, Int.reduceBEq, Int.reduceNeg]
  intro ⟨i, hi, hno⟩
  simp -dsimp -implicitDefEqProofs only [go_sem, ↓reduceIte, reduceCtorEq, Nat.reduceLT, Nat.reduceLeDiff, Nat.reduceEqDiff, Nat.reduceAdd, Nat.reduceMul, Nat.reduceSub, Nat.reduceBEq, Int.reduceLT, Int.reduceLE, Int.reduceEq, Int.reduceBEq, Int.reduceNeg]
  refine ⟨fun hlt => ?_, fun hge => ?_⟩
  · have hil : i < l.length := by omega
    obtain ⟨x, hx⟩ : ∃ x, l[i]? = some x := ⟨_, List.getElem?_eq_getElem hil⟩
    have hw := wrapS hil (by omega)
    simp -dsimp -implicitDefEqProofs only [hx, forall_eq', hw, go_sem, ↓reduceIte, reduceCtorEq, Nat.reduceLT, Nat.reduceLeDiff, Nat.reduceEqDiff, Nat.reduceAdd, Nat.reduceMul, Nat.reduceSub, Nat.reduceBEq, Int.reduceLT, Int.reduceLE, Int.reduceEq, Int.reduceBEq, Int.reduceNeg]
    refine ⟨by omega, hil, fun h => ?_, fun h => ?_⟩
    · subst h
      exact (decide_eq_true (List.mem_of_getElem? hx)).symm
    · refine again ⟨i + 1, by omega, fun j y hj hy => by
        by_cases hji : j = i
        · subst hji; rw [hx] at hy; cases hy; exact h
        · exact hno j y (by omega) hy⟩ (by simp; omega) ?_
      simp -dsimp -implicitDefEqProofs only [hw, go_sem, ↓reduceIte, reduceCtorEq, Nat.reduceLT, Nat.reduceLeDiff, Nat.reduceEqDiff, Nat.reduceAdd, Nat.reduceMul, Nat.reduceSub, Nat.reduceBEq, Int.reduceLT, Int.reduceLE, Int.reduceEq, Int.reduceBEq, Int.reduceNeg]
  · have hil : i = l.length := by omega
    subst hil
    refine (decide_eq_false fun h => ?_).symm
    obtain ⟨j, hj⟩ := List.mem_iff_getElem?.1 h
    exact hno j n (List.getElem?_eq_some_iff.1 hj).1 hj rfl
structure OkInv (rs : List Ru) (l : List Int) where
  i : Nat
  le : i ≤ l.length
  ok : ∀ j x, j < i → l[j]? = some x → okN rs x = true
theorem okN_all {rs : List Ru} {l : List Int} (h : ∀ j x, j < l.length → l[j]? = some x → okN rs x = true) : byB rs l = true := by
  unfold byB
  rw [List.all_eq_true]
  intro x hx
  obtain ⟨j, hj⟩ := List.mem_iff_getElem?.1 hx
  exact h j x (List.getElem?_eq_some_iff.1 hj).1 hj
theorem okN_bad {rs : List Ru} {l : List Int} {i : Nat} {x : Int} (hx : l[i]? = some x) (h : okN rs x = false) : byB rs l = false := by
  unfold byB
  rw [Bool.eq_false_iff]
  intro hh
  have := List.all_eq_true.1 hh x (List.mem_of_getElem? hx)
  unfold okN at h
  rw [this] at h; cases h
structure GoInv (rs : List Ru) (a now : Int) (C : List Int) (v : List Sp × Int) where
  i : Nat
  out : List Sp
  le : i ≤ C.length
  ck : checkV out = 0
  eq : v = goV rs a now (C.drop i) out
set_option maxHeartbeats 4000000 in
theorem all_ok (l : List Sp) (rs : List Ru) (l2 : List Int) (a now : Int) (hl : l.length ≤ 1000000) (hr : rs.length ≤ 1000000) (hb : l2.length ≤ 1000000) :
    Meets Try.prog 21 [(false, [vD (spsD l)]), (false, [vD (rusD rs)]), (false, [vD (intsD l2)]), (false, [vI a]), (false, [vI now])] (spendR (allV l rs l2 a now)) := by
  refine meets Try.func21 rfl rfl Try.ntmps21 Try.results21 rfl ?_
  simp -dsimp -implicitDefEqProofs only [go_sem, ↓reduceIte, reduceCtorEq, Nat.reduceLT, Nat.reduceLeDiff, Nat.reduceEqDiff, Nat.reduceAdd, Nat.reduceMul, Nat.reduceSub, Nat.reduceBEq, Int.reduceLT, Int.reduceLE, Int.reduceEq, Int.reduceBEq, Int.reduceNeg]
  refine callP (check_ok l hl) ?_
  by_cases hc : checkV l = 0
  · simp -dsimp -implicitDefEqProofs only [hc, go_sem, ↓reduceIte, reduceCtorEq, Nat.reduceLT, Nat.reduceLeDiff, Nat.reduceEqDiff, Nat.reduceAdd, Nat.reduceMul, Nat.reduceSub, Nat.reduceBEq, Int.reduceLT, Int.reduceLE, Int.reduceEq, Int.reduceBEq, Int.reduceNeg]
    refine callW rfl Try.func36 rfl rfl Try.ntmps36 Try.results36 rfl ?_
    simp -dsimp -implicitDefEqProofs only [retH, go_sem, ↓reduceIte, reduceCtorEq, Nat.reduceLT, Nat.reduceLeDiff, Nat.reduceEqDiff, Nat.reduceAdd, Nat.reduceMul, Nat.reduceSub, Nat.reduceBEq, Int.reduceLT, Int.reduceLE, Int.reduceEq, Int.reduceBEq, Int.reduceNeg]
    refine callW rfl Try.func46 rfl rfl Try.ntmps46 Try.results46 rfl ?_
    simp -dsimp -implicitDefEqProofs only [retH, go_sem, ↓reduceIte, reduceCtorEq, Nat.reduceLT, Nat.reduceLeDiff, Nat.reduceEqDiff, Nat.reduceAdd, Nat.reduceMul, Nat.reduceSub, Nat.reduceBEq, Int.reduceLT, Int.reduceLE, Int.reduceEq, Int.reduceBEq, Int.reduceNeg]
    refine vfreeze 0 rfl ?_
    simp -dsimp -implicitDefEqProofs only [go_sem, ↓reduceIte, reduceCtorEq, Nat.reduceLT, Nat.reduceLeDiff, Nat.reduceEqDiff, Nat.reduceAdd, Nat.reduceMul, Nat.reduceSub, Nat.reduceBEq, Int.reduceLT, Int.reduceLE, Int.reduceEq, Int.reduceBEq, Int.reduceNeg]
    refine vfor sitOk (ι := OkInv rs l2) (fun v => ⟨19, [(8, aI v.i), (7, aI l2.length), (6, aD (intsD l2)), (0, aD (intsD l2)), (1, .cs false [.clo 35 [.ptr 0 0]])], [(0, some (.var [cD (rusD rs)] false))], 200⟩) (fun v => l2.length - v.i) ⟨0, by omega, fun j x hj => by omega⟩ ?_ ?_
    · simp -dsimp -implicitDefEqProofs only [go_sem, ↓reduceIte, reduceCtorEq, Nat.reduceLT, Nat.reduceLeDiff, Nat.reduceEqDiff, Nat.reduceAdd, Nat.reduceMul, Nat.reduceSub, Nat.reduceBEq, Int.reduceLT, Int.reduceLE, Int.reduceEq, Int.reduceBEq, Int.reduceNeg]
    intro ⟨i, hi, hok⟩
    simp -dsimp -implicitDefEqProofs only [go_sem, ↓reduceIte, reduceCtorEq, Nat.reduceLT, Nat.reduceLeDiff, Nat.reduceEqDiff, Nat.reduceAdd, Nat.reduceMul, Nat.reduceSub, Nat.reduceBEq, Int.reduceLT, Int.reduceLE, Int.reduceEq, Int.reduceBEq, Int.reduceNeg]
    refine ⟨fun hlt => ?_, fun hge => ?_⟩
    · have hil : i < l2.length := by omega
      obtain ⟨x, hx⟩ : ∃ x, l2[i]? = some x := ⟨_, List.getElem?_eq_getElem hil⟩
      have hw := wrapS hil (by omega)
      simp -dsimp -implicitDefEqProofs only [hx, forall_eq', hw, go_sem, ↓reduceIte, reduceCtorEq, Nat.reduceLT, Nat.reduceLeDiff, Nat.reduceEqDiff, Nat.reduceAdd, Nat.reduceMul, Nat.reduceSub, Nat.reduceBEq, Int.reduceLT, Int.reduceLE, Int.reduceEq, Int.reduceBEq, Int.reduceNeg]
      refine ⟨by omega, hil, callP (oddN_ok rs x) ?_⟩
      cases hn : okN rs x with
      | true =>
        simp -dsimp -implicitDefEqProofs only [hn, go_sem, ↓reduceIte, reduceCtorEq, Nat.reduceLT, Nat.reduceLeDiff, Nat.reduceEqDiff, Nat.reduceAdd, Nat.reduceMul, Nat.reduceSub, Nat.reduceBEq, Int.reduceLT, Int.reduceLE, Int.reduceEq, Int.reduceBEq, Int.reduceNeg]
        refine again ⟨i + 1, by omega, fun j y hj hy => by
          by_cases hji : j = i
          · subst hji; rw [hx] at hy; cases hy; exact hn
          · exact hok j y (by omega) hy⟩ (by simp; omega) ?_
        simp -dsimp -implicitDefEqProofs only [hw, go_sem, ↓reduceIte, reduceCtorEq, Nat.reduceLT, Nat.reduceLeDiff, Nat.reduceEqDiff, Nat.reduceAdd, Nat.reduceMul, Nat.reduceSub, Nat.reduceBEq, Int.reduceLT, Int.reduceLE, Int.reduceEq, Int.reduceBEq, Int.reduceNeg]
      | false =>
        have hv : allV l rs l2 a now = ([], 1) := by unfold allV; rw [if_neg (by omega), if_pos (by rw [okN_bad hx hn]; rfl)]
        rw [hv]
        simp -dsimp -implicitDefEqProofs only [hn, retH, go_sem, ↓reduceIte, reduceCtorEq, Nat.reduceLT, Nat.reduceLeDiff, Nat.reduceEqDiff, Nat.reduceAdd, Nat.reduceMul, Nat.reduceSub, Nat.reduceBEq, Int.reduceLT, Int.reduceLE, Int.reduceEq, Int.reduceBEq, Int.reduceNeg]
        intro hneg
        omega
    · have hil : i = l2.length := by omega
      subst hil
      have hby : byB rs l2 = true := okN_all hok
      simp -dsimp -implicitDefEqProofs only [retH, go_sem, ↓reduceIte, reduceCtorEq, Nat.reduceLT, Nat.reduceLeDiff, Nat.reduceEqDiff, Nat.reduceAdd, Nat.reduceMul, Nat.reduceSub, Nat.reduceBEq, Int.reduceLT, Int.reduceLE, Int.reduceEq, Int.reduceBEq, Int.reduceNeg]
      cases hnn : numB a && numB now with
      | false =>
        have hv : allV l rs l2 a now = ([], 1) := by unfold allV; rw [if_neg (by omega), if_pos (by rw [hby, Bool.true_and]; exact hnn)]
        rw [hv]
        repeat' (first | with_reducible apply And.intro | with_reducible intro _ | with_reducible exact drawn (by kernel_rfl) | (refine callP (number_ok _) ?_; simp -dsimp -implicitDefEqProofs only [go_sem, ↓reduceIte, reduceCtorEq, Nat.reduceLT, Nat.reduceLeDiff, Nat.reduceEqDiff, Nat.reduceAdd, Nat.reduceMul, Nat.reduceSub, Nat.reduceBEq, Int.reduceLT, Int.reduceLE, Int.reduceEq, Int.reduceBEq, Int.reduceNeg]) | omega)
        rename_i h1 h2
        rw [h1, h2] at hnn
        cases hnn
      | true =>
        have hv : allV l rs l2 a now = goV rs a now (riseI l2) l := by unfold allV; rw [if_neg (by omega), if_neg (by rw [hby, Bool.true_and, hnn]; simp)]
        have hCe : riseI l2 = Lib.compact (sortI l2) := rfl
        have hCm : ∀ x ∈ riseI l2, -1 ≤ x ∧ x < rs.length := fun x hx => by
          have := List.all_eq_true.1 hby x (mem_riseI.1 hx)
          simpa using this
        have hCl := riseI_len l2
        rw [hCe] at hv hCm hCl
        rw [Bool.and_eq_true] at hnn
        have hnw := numB_true hnn.2
        rw [hv]
        refine callP (number_ok _) ?_
        simp -dsimp -implicitDefEqProofs only [hnn.1, go_sem, ↓reduceIte, reduceCtorEq, Nat.reduceLT, Nat.reduceLeDiff, Nat.reduceEqDiff, Nat.reduceAdd, Nat.reduceMul, Nat.reduceSub, Nat.reduceBEq, Int.reduceLT, Int.reduceLE, Int.reduceEq, Int.reduceBEq, Int.reduceNeg]
        refine callP (number_ok _) ?_
        simp -dsimp -implicitDefEqProofs only [hnn.2, go_sem, ↓reduceIte, reduceCtorEq, Nat.reduceLT, Nat.reduceLeDiff, Nat.reduceEqDiff, Nat.reduceAdd, Nat.reduceMul, Nat.reduceSub, Nat.reduceBEq, Int.reduceLT, Int.reduceLE, Int.reduceEq, Int.reduceBEq, Int.reduceNeg]
        refine callP (clone1_ok _ (by simp; omega)) ?_
        simp -dsimp -implicitDefEqProofs only [go_sem, ↓reduceIte, reduceCtorEq, Nat.reduceLT, Nat.reduceLeDiff, Nat.reduceEqDiff, Nat.reduceAdd, Nat.reduceMul, Nat.reduceSub, Nat.reduceBEq, Int.reduceLT, Int.reduceLE, Int.reduceEq, Int.reduceBEq, Int.reduceNeg]
        refine vsort l2 (by omega) rfl rfl ?_
        simp -dsimp -implicitDefEqProofs only [go_sem, ↓reduceIte, reduceCtorEq, Nat.reduceLT, Nat.reduceLeDiff, Nat.reduceEqDiff, Nat.reduceAdd, Nat.reduceMul, Nat.reduceSub, Nat.reduceBEq, Int.reduceLT, Int.reduceLE, Int.reduceEq, Int.reduceBEq, Int.reduceNeg]
        refine callP (clone_ok _ (by simpa using hl)) ?_
        simp -dsimp -implicitDefEqProofs only [go_sem, ↓reduceIte, reduceCtorEq, Nat.reduceLT, Nat.reduceLeDiff, Nat.reduceEqDiff, Nat.reduceAdd, Nat.reduceMul, Nat.reduceSub, Nat.reduceBEq, Int.reduceLT, Int.reduceLE, Int.reduceEq, Int.reduceBEq, Int.reduceNeg]
        refine callE [true] ?_
        simp -dsimp -implicitDefEqProofs only [go_sem, ↓reduceIte, reduceCtorEq, Nat.reduceLT, Nat.reduceLeDiff, Nat.reduceEqDiff, Nat.reduceAdd, Nat.reduceMul, Nat.reduceSub, Nat.reduceBEq, Int.reduceLT, Int.reduceLE, Int.reduceEq, Int.reduceBEq, Int.reduceNeg]
        refine ⟨_, compact_ok (sortI l2) (by rw [sortI_len]; omega), ?_⟩
        simp -dsimp -implicitDefEqProofs only [go_sem, ↓reduceIte, reduceCtorEq, Nat.reduceLT, Nat.reduceLeDiff, Nat.reduceEqDiff, Nat.reduceAdd, Nat.reduceMul, Nat.reduceSub, Nat.reduceBEq, Int.reduceLT, Int.reduceLE, Int.reduceEq, Int.reduceBEq, Int.reduceNeg]
        generalize Lib.compact (sortI l2) = C at *
        refine vforT sitOk 800 14 (ι := GoInv rs a now C (goV rs a now C l)) (fun v => ⟨78, [(48, aI v.i), (47, aI C.length), (46, aO 440), (14, aO 800), (6, aP 0 0), (3, aI a), (4, aI now)], [(800, some (.row 4 40 (v.out.map Sp.cells) true)), (440, some (.row 1 3 (C.map rowI) true)), (0, some (.var [cD (rusD rs)] false))], 801⟩) (fun v => C.length - v.i) ⟨0, l, by omega, hc, rfl⟩ ?_ ?_
        · simp -dsimp -implicitDefEqProofs only [go_sem, ↓reduceIte, reduceCtorEq, Nat.reduceLT, Nat.reduceLeDiff, Nat.reduceEqDiff, Nat.reduceAdd, Nat.reduceMul, Nat.reduceSub, Nat.reduceBEq, Int.reduceLT, Int.reduceLE, Int.reduceEq, Int.reduceBEq, Int.reduceNeg]
        intro ⟨i, out, hi, hck, heq⟩
        simp -dsimp -implicitDefEqProofs only [go_sem, ↓reduceIte, reduceCtorEq, Nat.reduceLT, Nat.reduceLeDiff, Nat.reduceEqDiff, Nat.reduceAdd, Nat.reduceMul, Nat.reduceSub, Nat.reduceBEq, Int.reduceLT, Int.reduceLE, Int.reduceEq, Int.reduceBEq, Int.reduceNeg]
        refine ⟨fun hlt => ?_, fun hge => ?_⟩
        · have hil : i < C.length := by omega
          obtain ⟨x, hx⟩ : ∃ x, C[i]? = some x := ⟨_, List.getElem?_eq_getElem hil⟩
          have hw := wrapS hil (by omega)
          obtain ⟨hx1, hx2⟩ := hCm x (List.mem_of_getElem? hx)
          rw [drop_at hx] at heq
          by_cases hx0 : x < 0
          · have heq2 : goV rs a now C l = goV rs a now (C.drop (i + 1)) out := by rw [heq]; conv => lhs; unfold goV
                                                                                   rw [if_pos hx0]
            have hx0' : ¬ 0 ≤ x := by omega
            simp -dsimp -implicitDefEqProofs only [hx, forall_eq', hw, hx0, hx0', go_sem, ↓reduceIte, reduceCtorEq, Nat.reduceLT, Nat.reduceLeDiff, Nat.reduceEqDiff, Nat.reduceAdd, Nat.reduceMul, Nat.reduceSub, Nat.reduceBEq, Int.reduceLT, Int.reduceLE, Int.reduceEq, Int.reduceBEq, Int.reduceNeg]
            refine ⟨⟨by omega, by omega⟩, hil, againT 800 14 ⟨i + 1, out, by omega, hck, heq2⟩ (by simp; omega) ?_⟩
            simp -dsimp -implicitDefEqProofs only [hw, go_sem, ↓reduceIte, reduceCtorEq, Nat.reduceLT, Nat.reduceLeDiff, Nat.reduceEqDiff, Nat.reduceAdd, Nat.reduceMul, Nat.reduceSub, Nat.reduceBEq, Int.reduceLT, Int.reduceLE, Int.reduceEq, Int.reduceBEq, Int.reduceNeg]
          · obtain ⟨y, hy⟩ : ∃ y, rs[x.toNat]? = some y := ⟨_, List.getElem?_eq_getElem (by omega)⟩
            have hx0' : 0 ≤ x := by omega
            have heq2 : goV rs a now C l = if (SpendV out y.M y.W x a now).2 = 0 then goV rs a now (C.drop (i + 1)) (SpendV out y.M y.W x a now).1 else ([], (SpendV out y.M y.W x a now).2) := by
              rw [heq]
              conv => lhs; unfold goV
              rw [if_neg hx0, hy]
            simp -dsimp -implicitDefEqProofs only [hx, forall_eq', hw, hx0, hx0', hy, go_sem, ↓reduceIte, reduceCtorEq, Nat.reduceLT, Nat.reduceLeDiff, Nat.reduceEqDiff, Nat.reduceAdd, Nat.reduceMul, Nat.reduceSub, Nat.reduceBEq, Int.reduceLT, Int.reduceLE, Int.reduceEq, Int.reduceBEq, Int.reduceNeg]
            refine ⟨⟨by omega, by omega⟩, hil, by omega, ?_⟩
            cases hm : mayB y.M y.W x a now with
            | false =>
              have hsp : SpendV out y.M y.W x a now = ([], 1) := by unfold SpendV; rw [if_neg (by omega), if_pos hm]
              rw [hsp] at heq2
              refine callP (limited_ok y x a now) ?_
              simp -dsimp -implicitDefEqProofs only [hm, go_sem, ↓reduceIte, reduceCtorEq, Nat.reduceLT, Nat.reduceLeDiff, Nat.reduceEqDiff, Nat.reduceAdd, Nat.reduceMul, Nat.reduceSub, Nat.reduceBEq, Int.reduceLT, Int.reduceLE, Int.reduceEq, Int.reduceBEq, Int.reduceNeg]
              rw [heq2]
              exact ⟨rfl, rfl⟩
            | true =>
              have hm' := hm
              simp only [mayB, rmB, Bool.and_eq_true] at hm'
              have hsp : SpendV out y.M y.W x a now = spendV out y.M y.W a x now := by unfold SpendV; rw [if_neg (by omega), if_neg (by simp [hm])]
              have hso := spend_ok out y.M y.W a x now hm'.1.1.1.1.1 hck hnw
              rw [← hsp] at hso
              obtain ⟨out', e', hse⟩ : ∃ out' e', SpendV out y.M y.W x a now = (out', e') := ⟨_, _, rfl⟩
              rw [hse] at heq2 hso
              simp only at heq2
              refine callP (limited_ok y x a now) ?_
              simp -dsimp -implicitDefEqProofs only [hm, go_sem, ↓reduceIte, reduceCtorEq, Nat.reduceLT, Nat.reduceLeDiff, Nat.reduceEqDiff, Nat.reduceAdd, Nat.reduceMul, Nat.reduceSub, Nat.reduceBEq, Int.reduceLT, Int.reduceLE, Int.reduceEq, Int.reduceBEq, Int.reduceNeg]
              refine callE [false, true] ?_
              simp -dsimp -implicitDefEqProofs only [go_sem, ↓reduceIte, reduceCtorEq, Nat.reduceLT, Nat.reduceLeDiff, Nat.reduceEqDiff, Nat.reduceAdd, Nat.reduceMul, Nat.reduceSub, Nat.reduceBEq, Int.reduceLT, Int.reduceLE, Int.reduceEq, Int.reduceBEq, Int.reduceNeg]
              refine ⟨_, hso, ?_⟩
              by_cases he : e' = 0
              · subst he
                rw [if_pos rfl] at heq2
                have g := spend_law hse
                simp -dsimp -implicitDefEqProofs only [go_sem, ↓reduceIte, reduceCtorEq, Nat.reduceLT, Nat.reduceLeDiff, Nat.reduceEqDiff, Nat.reduceAdd, Nat.reduceMul, Nat.reduceSub, Nat.reduceBEq, Int.reduceLT, Int.reduceLE, Int.reduceEq, Int.reduceBEq, Int.reduceNeg]
                refine againT 800 14 ⟨i + 1, out', by omega, g.ck', heq2⟩ (by simp; omega) ?_
                simp -dsimp -implicitDefEqProofs only [hw, go_sem, ↓reduceIte, reduceCtorEq, Nat.reduceLT, Nat.reduceLeDiff, Nat.reduceEqDiff, Nat.reduceAdd, Nat.reduceMul, Nat.reduceSub, Nat.reduceBEq, Int.reduceLT, Int.reduceLE, Int.reduceEq, Int.reduceBEq, Int.reduceNeg]
              · rw [if_neg he] at heq2
                simp -dsimp -implicitDefEqProofs only [he, go_sem, ↓reduceIte, reduceCtorEq, Nat.reduceLT, Nat.reduceLeDiff, Nat.reduceEqDiff, Nat.reduceAdd, Nat.reduceMul, Nat.reduceSub, Nat.reduceBEq, Int.reduceLT, Int.reduceLE, Int.reduceEq, Int.reduceBEq, Int.reduceNeg]
                rw [heq2]
                exact ⟨rfl, rfl⟩
        · have hil : i = C.length := by omega
          subst hil
          rw [List.drop_length] at heq
          rw [heq]
          unfold goV
          exact ⟨rfl, rfl⟩
  · have hv : allV l rs l2 a now = ([], checkV l) := by unfold allV; rw [if_pos hc]
    rw [hv]
    simp -dsimp -implicitDefEqProofs only [hc, go_sem, ↓reduceIte, reduceCtorEq, Nat.reduceLT, Nat.reduceLeDiff, Nat.reduceEqDiff, Nat.reduceAdd, Nat.reduceMul, Nat.reduceSub, Nat.reduceBEq, Int.reduceLT, Int.reduceLE, Int.reduceEq, Int.reduceBEq, Int.reduceNeg]
theorem appendS (l : List (List D)) : [] ++ l = l := List.nil_append l
structure RaInv (rs : List Ru) (l2 : List Int) (a now : Int) (v : List Sp × Int) where
  i : Nat
  out : List Sp
  le : i ≤ rs.length
  ck : checkV out = 0
  eq : v = goV rs a now (rangeF rs l2 i) out
set_option maxHeartbeats 4000000 in
theorem rall_ok (l : List Sp) (rs : List Ru) (l2 : List Int) (a now : Int) (hl : l.length ≤ 1000000) (hr : rs.length ≤ 1000000) (hb : l2.length ≤ 1000000) :
    Meets Try.prog 22 [(false, [vD (spsD l)]), (false, [vD (rusD rs)]), (false, [vD (intsD l2)]), (false, [vI a]), (false, [vI now])] (spendR (allV l rs l2 a now)) := by
  refine meets Try.func22 rfl rfl Try.ntmps22 Try.results22 rfl ?_
  simp -dsimp -implicitDefEqProofs only [go_sem, ↓reduceIte, reduceCtorEq, Nat.reduceLT, Nat.reduceLeDiff, Nat.reduceEqDiff, Nat.reduceAdd, Nat.reduceMul, Nat.reduceSub, Nat.reduceBEq, Int.reduceLT, Int.reduceLE, Int.reduceEq, Int.reduceBEq, Int.reduceNeg]
  refine callP (rcheck_ok l hl) ?_
  by_cases hc : checkV l = 0
  · simp -dsimp -implicitDefEqProofs only [hc, go_sem, ↓reduceIte, reduceCtorEq, Nat.reduceLT, Nat.reduceLeDiff, Nat.reduceEqDiff, Nat.reduceAdd, Nat.reduceMul, Nat.reduceSub, Nat.reduceBEq, Int.reduceLT, Int.reduceLE, Int.reduceEq, Int.reduceBEq, Int.reduceNeg]
    refine vfor sitOk (ι := OkInv rs l2) (fun v => ⟨81, [(13, aI v.i), (0, aD (spsD l)), (1, aD (rusD rs)), (2, aD (intsD l2)), (3, aI a), (4, aI now)], [], 200⟩) (fun v => l2.length - v.i) ⟨0, by omega, fun j x hj => by omega⟩ ?_ ?_
    · simp -dsimp -implicitDefEqProofs only [go_sem, ↓reduceIte, reduceCtorEq, Nat.reduceLT, Nat.reduceLeDiff, Nat.reduceEqDiff, Nat.reduceAdd, Nat.reduceMul, Nat.reduceSub, Nat.reduceBEq, Int.reduceLT, Int.reduceLE, Int.reduceEq, Int.reduceBEq, Int.reduceNeg]
    intro ⟨i, hi, hok⟩
    simp -dsimp -implicitDefEqProofs only [go_sem, ↓reduceIte, reduceCtorEq, Nat.reduceLT, Nat.reduceLeDiff, Nat.reduceEqDiff, Nat.reduceAdd, Nat.reduceMul, Nat.reduceSub, Nat.reduceBEq, Int.reduceLT, Int.reduceLE, Int.reduceEq, Int.reduceBEq, Int.reduceNeg]
    refine ⟨fun hlt => ?_, fun hge => ?_⟩
    · have hil : i < l2.length := by omega
      obtain ⟨x, hx⟩ : ∃ x, l2[i]? = some x := ⟨_, List.getElem?_eq_getElem hil⟩
      have hw := wrapS hil (by omega)
      have bad : okN rs x = false → allV l rs l2 a now = ([], 1) := fun hn => by unfold allV; rw [if_neg (by omega), if_pos (by rw [okN_bad hx hn]; rfl)]
      simp -dsimp -implicitDefEqProofs only [hx, forall_eq', hw, go_sem, ↓reduceIte, reduceCtorEq, Nat.reduceLT, Nat.reduceLeDiff, Nat.reduceEqDiff, Nat.reduceAdd, Nat.reduceMul, Nat.reduceSub, Nat.reduceBEq, Int.reduceLT, Int.reduceLE, Int.reduceEq, Int.reduceBEq, Int.reduceNeg]
      refine ⟨by omega, hil, fun h1 => ⟨by omega, hil, fun h2 => ?_, fun h2 => ?_⟩, fun h1 => ?_⟩
      · rw [bad (by unfold okN; rw [decide_eq_false (by omega : ¬ x < rs.length), Bool.and_false])]
        exact ⟨rfl, rfl⟩
      · refine again ⟨i + 1, by omega, fun j y hj hy => by
          by_cases hji : j = i
          · subst hji; rw [hx] at hy; cases hy; unfold okN; rw [decide_eq_true h1, decide_eq_true h2]; rfl
          · exact hok j y (by omega) hy⟩ (by simp; omega) ?_
        simp -dsimp -implicitDefEqProofs only [hw, go_sem, ↓reduceIte, reduceCtorEq, Nat.reduceLT, Nat.reduceLeDiff, Nat.reduceEqDiff, Nat.reduceAdd, Nat.reduceMul, Nat.reduceSub, Nat.reduceBEq, Int.reduceLT, Int.reduceLE, Int.reduceEq, Int.reduceBEq, Int.reduceNeg]
      · rw [bad (by unfold okN; rw [decide_eq_false (by omega : ¬ -1 ≤ x), Bool.false_and])]
        exact ⟨rfl, rfl⟩
    · have hil : i = l2.length := by omega
      subst hil
      have hby : byB rs l2 = true := okN_all hok
      cases hnn : numB a && numB now with
      | false =>
        have hv : allV l rs l2 a now = ([], 1) := by unfold allV; rw [if_neg (by omega), if_pos (by rw [hby, Bool.true_and]; exact hnn)]
        rw [hv]
        repeat' (first | with_reducible apply And.intro | with_reducible intro _ | with_reducible exact drawn (by kernel_rfl) | (refine callP (rnumber_ok _) ?_; simp -dsimp -implicitDefEqProofs only [go_sem, ↓reduceIte, reduceCtorEq, Nat.reduceLT, Nat.reduceLeDiff, Nat.reduceEqDiff, Nat.reduceAdd, Nat.reduceMul, Nat.reduceSub, Nat.reduceBEq, Int.reduceLT, Int.reduceLE, Int.reduceEq, Int.reduceBEq, Int.reduceNeg]) | omega)
        rename_i h1 h2
        rw [h1, h2] at hnn
        cases hnn
      | true =>
        have hv : allV l rs l2 a now = goV rs a now (riseI l2) l := by unfold allV; rw [if_neg (by omega), if_neg (by rw [hby, Bool.true_and, hnn]; simp)]
        rw [← rangeF_all hby] at hv
        rw [Bool.and_eq_true] at hnn
        rw [hv]
        refine callP (rnumber_ok _) ?_
        simp -dsimp -implicitDefEqProofs only [hnn.1, go_sem, ↓reduceIte, reduceCtorEq, Nat.reduceLT, Nat.reduceLeDiff, Nat.reduceEqDiff, Nat.reduceAdd, Nat.reduceMul, Nat.reduceSub, Nat.reduceBEq, Int.reduceLT, Int.reduceLE, Int.reduceEq, Int.reduceBEq, Int.reduceNeg]
        refine callP (rnumber_ok _) ?_
        simp -dsimp -implicitDefEqProofs only [hnn.2, appendS, go_sem, ↓reduceIte, reduceCtorEq, Nat.reduceLT, Nat.reduceLeDiff, Nat.reduceEqDiff, Nat.reduceAdd, Nat.reduceMul, Nat.reduceSub, Nat.reduceBEq, Int.reduceLT, Int.reduceLE, Int.reduceEq, Int.reduceBEq, Int.reduceNeg]
        refine ⟨⟨by omega, by omega⟩, ?_⟩
        refine vforT sitOk 800 14 (ι := RaInv rs l2 a now (goV rs a now (rangeF rs l2 0) l)) (fun v => ⟨81, [(15, aI v.i), (14, aO 800), (1, aD (rusD rs)), (2, aD (intsD l2)), (3, aI a), (4, aI now)], [(800, some (.row 4 40 (v.out.map Sp.cells) true))], 801⟩) (fun v => rs.length - v.i) ⟨0, l, by omega, hc, rfl⟩ ?_ ?_
        · simp -dsimp -implicitDefEqProofs only [go_sem, ↓reduceIte, reduceCtorEq, Nat.reduceLT, Nat.reduceLeDiff, Nat.reduceEqDiff, Nat.reduceAdd, Nat.reduceMul, Nat.reduceSub, Nat.reduceBEq, Int.reduceLT, Int.reduceLE, Int.reduceEq, Int.reduceBEq, Int.reduceNeg]
        intro ⟨i, out, hi, hck, heq⟩
        simp -dsimp -implicitDefEqProofs only [go_sem, ↓reduceIte, reduceCtorEq, Nat.reduceLT, Nat.reduceLeDiff, Nat.reduceEqDiff, Nat.reduceAdd, Nat.reduceMul, Nat.reduceSub, Nat.reduceBEq, Int.reduceLT, Int.reduceLE, Int.reduceEq, Int.reduceBEq, Int.reduceNeg]
        refine ⟨fun hlt => ?_, fun hge => ?_⟩
        · have hil : i < rs.length := by omega
          obtain ⟨y, hy⟩ : ∃ y, rs[i]? = some y := ⟨_, List.getElem?_eq_getElem hil⟩
          have hw := wrapS hil (by omega)
          have hout := (checkV_zero hck).2
          rw [rangeF_step hil] at heq
          refine callP (stands_ok l2 i hb) ?_
          by_cases hm : (i : Int) ∈ l2
          · rw [if_pos hm] at heq
            have heq2 : goV rs a now (rangeF rs l2 0) l = if (SpendV out y.M y.W i a now).2 = 0 then goV rs a now (rangeF rs l2 (i + 1)) (SpendV out y.M y.W i a now).1 else ([], (SpendV out y.M y.W i a now).2) := by
              rw [heq]
              conv => lhs; unfold goV
              rw [if_neg (by omega), show ((i : Int)).toNat = i from rfl, hy]
            have hso := rSpend_ok out y i a now (by omega)
            obtain ⟨out', e', hse⟩ : ∃ out' e', SpendV out y.M y.W i a now = (out', e') := ⟨_, _, rfl⟩
            rw [hse] at heq2 hso
            simp only at heq2
            simp -dsimp -implicitDefEqProofs only [hm, hy, forall_eq', go_sem, ↓reduceIte, reduceCtorEq, Nat.reduceLT, Nat.reduceLeDiff, Nat.reduceEqDiff, Nat.reduceAdd, Nat.reduceMul, Nat.reduceSub, Nat.reduceBEq, Int.reduceLT, Int.reduceLE, Int.reduceEq, Int.reduceBEq, Int.reduceNeg]
            refine ⟨by omega, hil, callP hso ?_⟩
            by_cases he : e' = 0
            · subst he
              rw [if_pos rfl] at heq2
              have g := spend_law hse
              simp -dsimp -implicitDefEqProofs only [go_sem, ↓reduceIte, reduceCtorEq, Nat.reduceLT, Nat.reduceLeDiff, Nat.reduceEqDiff, Nat.reduceAdd, Nat.reduceMul, Nat.reduceSub, Nat.reduceBEq, Int.reduceLT, Int.reduceLE, Int.reduceEq, Int.reduceBEq, Int.reduceNeg]
              refine againT 800 14 ⟨i + 1, out', by omega, g.ck', heq2⟩ (by simp; omega) ?_
              simp -dsimp -implicitDefEqProofs only [hw, go_sem, ↓reduceIte, reduceCtorEq, Nat.reduceLT, Nat.reduceLeDiff, Nat.reduceEqDiff, Nat.reduceAdd, Nat.reduceMul, Nat.reduceSub, Nat.reduceBEq, Int.reduceLT, Int.reduceLE, Int.reduceEq, Int.reduceBEq, Int.reduceNeg]
            · rw [if_neg he] at heq2
              simp -dsimp -implicitDefEqProofs only [he, go_sem, ↓reduceIte, reduceCtorEq, Nat.reduceLT, Nat.reduceLeDiff, Nat.reduceEqDiff, Nat.reduceAdd, Nat.reduceMul, Nat.reduceSub, Nat.reduceBEq, Int.reduceLT, Int.reduceLE, Int.reduceEq, Int.reduceBEq, Int.reduceNeg]
              rw [heq2]
              exact ⟨rfl, rfl⟩
          · rw [if_neg hm] at heq
            simp -dsimp -implicitDefEqProofs only [hm, go_sem, ↓reduceIte, reduceCtorEq, Nat.reduceLT, Nat.reduceLeDiff, Nat.reduceEqDiff, Nat.reduceAdd, Nat.reduceMul, Nat.reduceSub, Nat.reduceBEq, Int.reduceLT, Int.reduceLE, Int.reduceEq, Int.reduceBEq, Int.reduceNeg]
            refine againT 800 14 ⟨i + 1, out, by omega, hck, heq⟩ (by simp; omega) ?_
            simp -dsimp -implicitDefEqProofs only [hw, go_sem, ↓reduceIte, reduceCtorEq, Nat.reduceLT, Nat.reduceLeDiff, Nat.reduceEqDiff, Nat.reduceAdd, Nat.reduceMul, Nat.reduceSub, Nat.reduceBEq, Int.reduceLT, Int.reduceLE, Int.reduceEq, Int.reduceBEq, Int.reduceNeg]
        · have hil : i = rs.length := by omega
          subst hil
          rw [show rangeF rs l2 rs.length = [] by unfold rangeF; rw [Nat.sub_self]; rfl] at heq
          rw [heq]
          unfold goV
          exact ⟨rfl, rfl⟩
  · have hv : allV l rs l2 a now = ([], checkV l) := by unfold allV; rw [if_pos hc]
    rw [hv]
    simp -dsimp -implicitDefEqProofs only [hc, go_sem, ↓reduceIte, reduceCtorEq, Nat.reduceLT, Nat.reduceLeDiff, Nat.reduceEqDiff, Nat.reduceAdd, Nat.reduceMul, Nat.reduceSub, Nat.reduceBEq, Int.reduceLT, Int.reduceLE, Int.reduceEq, Int.reduceBEq, Int.reduceNeg]
end Go.Proofs.Ytfidbkmogileiaa
namespace Go.Proofs.Ytfidbkmogileiaa
open Go.Eng
set_option linter.unusedSimpArgs false
set_option maxRecDepth 10000

theorem allV_len (l : List Sp) (rs : List Ru) (l2 : List Int) (a now : Int) (hl : l.length ≤ 1100) : (allV l rs l2 a now).1.length ≤ 1100 := by
  unfold allV
  split
  · simp
  · split
    · simp
    · exact goV_len hl
theorem alls_ok (l : List Sp) (rs : List Ru) (l2 : List Int) (a now : Int) :
    Meets Try.prog 9 [(false, [vD (spsD l)]), (false, [vD (rusD rs)]), (false, [vD (intsD l2)]), (false, [vI a]), (false, [vI now])] (rOne (vB true)) := by
  refine meets Try.func9 rfl rfl Try.ntmps9 Try.results9 rfl ?_
  simp -dsimp -implicitDefEqProofs only [go_sem, ↓reduceIte, reduceCtorEq, Nat.reduceLT, Nat.reduceLeDiff, Nat.reduceEqDiff, Nat.reduceAdd, Nat.reduceMul, Nat.reduceSub, Nat.reduceBEq, Int.reduceLT, Int.reduceLE, Int.reduceEq, Int.reduceBEq, Int.reduceNeg]
  refine callP live_ok ?_
  simp -dsimp -implicitDefEqProofs only [go_sem, ↓reduceIte, reduceCtorEq, Nat.reduceLT, Nat.reduceLeDiff, Nat.reduceEqDiff, Nat.reduceAdd, Nat.reduceMul, Nat.reduceSub, Nat.reduceBEq, Int.reduceLT, Int.reduceLE, Int.reduceEq, Int.reduceBEq, Int.reduceNeg]
  refine callP (few_ok l) ?_
  simp -dsimp -implicitDefEqProofs only [go_sem, ↓reduceIte, reduceCtorEq, Nat.reduceLT, Nat.reduceLeDiff, Nat.reduceEqDiff, Nat.reduceAdd, Nat.reduceMul, Nat.reduceSub, Nat.reduceBEq, Int.reduceLT, Int.reduceLE, Int.reduceEq, Int.reduceBEq, Int.reduceNeg]
  intro hl
  refine callP (fewRules_ok rs) ?_
  simp -dsimp -implicitDefEqProofs only [go_sem, ↓reduceIte, reduceCtorEq, Nat.reduceLT, Nat.reduceLeDiff, Nat.reduceEqDiff, Nat.reduceAdd, Nat.reduceMul, Nat.reduceSub, Nat.reduceBEq, Int.reduceLT, Int.reduceLE, Int.reduceEq, Int.reduceBEq, Int.reduceNeg]
  intro hr hb
  refine callP (all_ok l rs l2 a now (by omega) (by omega) (by omega)) ?_
  simp -dsimp -implicitDefEqProofs only [go_sem, ↓reduceIte, reduceCtorEq, Nat.reduceLT, Nat.reduceLeDiff, Nat.reduceEqDiff, Nat.reduceAdd, Nat.reduceMul, Nat.reduceSub, Nat.reduceBEq, Int.reduceLT, Int.reduceLE, Int.reduceEq, Int.reduceBEq, Int.reduceNeg]
  refine callP (rall_ok l rs l2 a now (by omega) (by omega) (by omega)) ?_
  simp -dsimp -implicitDefEqProofs only [go_sem, ↓reduceIte, reduceCtorEq, Nat.reduceLT, Nat.reduceLeDiff, Nat.reduceEqDiff, Nat.reduceAdd, Nat.reduceMul, Nat.reduceSub, Nat.reduceBEq, Int.reduceLT, Int.reduceLE, Int.reduceEq, Int.reduceBEq, Int.reduceNeg]
  have hs := allV_len l rs l2 a now (by omega)
  refine callP (same_ok _ _ (by omega)) ?_
  simp -dsimp -implicitDefEqProofs only [go_sem, ↓reduceIte, reduceCtorEq, Nat.reduceLT, Nat.reduceLeDiff, Nat.reduceEqDiff, Nat.reduceAdd, Nat.reduceMul, Nat.reduceSub, Nat.reduceBEq, Int.reduceLT, Int.reduceLE, Int.reduceEq, Int.reduceBEq, Int.reduceNeg]
  try exact drawn (by kernel_rfl)
theorem read_ints {ds : List D} (h : shpG tys 6 42 ds) : ∃ l : List Int, ds = [intsD l] := by
  simp -dsimp -implicitDefEqProofs only [shpG, tileG, go_sem] at h
  obtain ⟨rows, rfl, _, hr⟩ := h
  obtain ⟨l, rfl, _⟩ := rows_map (cells := rowI) (ok := fun _ => True) fun r hr' => by
    obtain ⟨x, rfl, _⟩ := hr r hr'
    exact ⟨x, rfl, trivial⟩
  exact ⟨l, rfl⟩
theorem read_rules {ds : List D} (h : shpG tys 6 41 ds) : ∃ rs : List Ru, ds = [rusD rs] := by
  simp -dsimp -implicitDefEqProofs only [shpG, tileG, go_sem] at h
  obtain ⟨rows, rfl, _, hr⟩ := h
  obtain ⟨l, rfl, _⟩ := rows_map (cells := Ru.cells) (ok := fun _ => True) fun r hr' => by
    obtain ⟨_, _, ⟨a, rfl, _⟩, rfl, _, _, ⟨b, rfl⟩, rfl, _, _, ⟨c, rfl, _⟩, rfl, _, _, ⟨d, rfl, _⟩, rfl, _, _, ⟨e, rfl, _⟩, rfl, _, _, ⟨f, rfl, _⟩, rfl, _, _, ⟨g, rfl, _⟩, rfl, rfl⟩ := hr r hr'
    exact ⟨⟨_, _, _, _, _, f, g⟩, rfl, trivial⟩
  exact ⟨l, rfl⟩
theorem arg_rules (ds : List D) : argC Try.prog 41 ds = (false, ds.map .d) := by
  unfold argC; rw [show isStruct Try.prog 41 = false from by kernel_rfl]
theorem arg_ints (ds : List D) : argC Try.prog 42 ds = (false, ds.map .d) := by
  unfold argC; rw [show isStruct Try.prog 42 = false from by kernel_rfl]

/-! ### Several rules are spent, or none -/
theorem allV_parts {l x : List Sp} {rs : List Ru} {l2 : List Int} {a now : Int} (h : allV l rs l2 a now = (x, 0)) : checkV l = 0 ∧ goV rs a now (riseI l2) l = (x, 0) := by
  unfold allV at h
  split at h
  · rename_i h1; exact absurd (Prod.mk.inj h).2 h1
  · rename_i h1
    split at h
    · cases h
    · exact ⟨by omega, h⟩
theorem allV_bad {l : List Sp} {rs : List Ru} {l2 : List Int} {a now : Int} (h : (allV l rs l2 a now).2 ≠ 0) : (allV l rs l2 a now).1 = [] := by
  unfold allV at h ⊢
  split
  · rfl
  · rename_i h1
    rw [if_neg h1] at h
    split
    · rfl
    · rename_i h2
      rw [if_neg h2] at h
      exact goV_bad h
theorem allV_spent {l : List Sp} {rs : List Ru} {l2 : List Int} {a now : Int} (h : (allV l rs l2 a now).2 = 170) : ∃ n ∈ l2, ∃ ru, 0 ≤ n ∧ rs[n.toNat]? = some ru ∧ LeftV l ru.M ru.W n a now = 0 := by
  unfold allV at h
  split at h
  · rename_i h1
    unfold checkV at h
    split at h
    · split at h <;> cases h
    · cases h
  · split at h
    · cases h
    · obtain ⟨n, h1, h2⟩ := goV_spent (riseI_lt l2) h
      exact ⟨n, mem_riseI.1 h1, h2⟩
/-- Has one of some rules, by the first i numbers, none left? -/
def noneB (l : List Sp) (rs : List Ru) (a now n : Int) : Bool := decide (0 ≤ n) && (match rs[n.toNat]? with
  | some ru => LeftV l ru.M ru.W n a now == 0
  | none => false)
theorem any_step {l : List Int} {i : Nat} {x : Int} (f : Int → Bool) (hx : l[i]? = some x) : (l.take (i + 1)).any f = ((l.take i).any f || f x) := by
  rw [List.take_add_one, hx, List.any_append]; simp
structure WhInv (n : Nat) where
  i : Nat
  le : i ≤ n
set_option maxHeartbeats 4000000 in
theorem whole_ok (l : List Sp) (rs : List Ru) (l2 : List Int) (a now : Int) :
    Meets Try.prog 10 [(false, [vD (spsD l)]), (false, [vD (rusD rs)]), (false, [vD (intsD l2)]), (false, [vI a]), (false, [vI now])] (rOne (vB true)) := by
  refine meets Try.func10 rfl rfl Try.ntmps10 Try.results10 rfl ?_
  simp -dsimp -implicitDefEqProofs only [go_sem, ↓reduceIte, reduceCtorEq, Nat.reduceLT, Nat.reduceLeDiff, Nat.reduceEqDiff, Nat.reduceAdd, Nat.reduceMul, Nat.reduceSub, Nat.reduceBEq, Int.reduceLT, Int.reduceLE, Int.reduceEq, Int.reduceBEq, Int.reduceNeg]
  refine callP live_ok ?_
  simp -dsimp -implicitDefEqProofs only [go_sem, ↓reduceIte, reduceCtorEq, Nat.reduceLT, Nat.reduceLeDiff, Nat.reduceEqDiff, Nat.reduceAdd, Nat.reduceMul, Nat.reduceSub, Nat.reduceBEq, Int.reduceLT, Int.reduceLE, Int.reduceEq, Int.reduceBEq, Int.reduceNeg]
  refine callP (few_ok l) ?_
  simp -dsimp -implicitDefEqProofs only [go_sem, ↓reduceIte, reduceCtorEq, Nat.reduceLT, Nat.reduceLeDiff, Nat.reduceEqDiff, Nat.reduceAdd, Nat.reduceMul, Nat.reduceSub, Nat.reduceBEq, Int.reduceLT, Int.reduceLE, Int.reduceEq, Int.reduceBEq, Int.reduceNeg]
  intro hl
  refine callP (fewRules_ok rs) ?_
  simp -dsimp -implicitDefEqProofs only [go_sem, ↓reduceIte, reduceCtorEq, Nat.reduceLT, Nat.reduceLeDiff, Nat.reduceEqDiff, Nat.reduceAdd, Nat.reduceMul, Nat.reduceSub, Nat.reduceBEq, Int.reduceLT, Int.reduceLE, Int.reduceEq, Int.reduceBEq, Int.reduceNeg]
  intro hr hb
  refine callP (all_ok l rs l2 a now (by omega) (by omega) (by omega)) ?_
  have hs := allV_len l rs l2 a now (by omega)
  have hbad := allV_bad (l := l) (rs := rs) (l2 := l2) (a := a) (now := now)
  have hsp := allV_spent (l := l) (rs := rs) (l2 := l2) (a := a) (now := now)
  obtain ⟨x, e, he⟩ : ∃ x e, allV l rs l2 a now = (x, e) := ⟨_, _, rfl⟩
  rw [he] at hs hbad hsp
  simp only at hs hbad hsp
  by_cases h170 : e = 170
  · subst h170
    have hx := hbad (by decide)
    subst hx
    have hall : (l2.any (noneB l rs a now)) = true := by
      obtain ⟨n, h1, ru, h2, h3, h4⟩ := hsp rfl
      rw [List.any_eq_true]
      refine ⟨n, h1, ?_⟩
      unfold noneB
      rw [h3, decide_eq_true h2]
      simp only [h4]
      rfl
    simp -dsimp -implicitDefEqProofs only [he, go_sem, ↓reduceIte, reduceCtorEq, Nat.reduceLT, Nat.reduceLeDiff, Nat.reduceEqDiff, Nat.reduceAdd, Nat.reduceMul, Nat.reduceSub, Nat.reduceBEq, Int.reduceLT, Int.reduceLE, Int.reduceEq, Int.reduceBEq, Int.reduceNeg]
    refine vfor sitOk (ι := WhInv l2.length) (fun v => ⟨154, [(14, aI v.i), (13, aB ((l2.take v.i).any (noneB l rs a now))), (11, aO 168), (0, aD (spsD l)), (1, aD (rusD rs)), (2, aD (intsD l2)), (3, aI a), (4, aI now)], [(168, some (.row 4 40 [] true))], 300⟩) (fun v => l2.length - v.i) ⟨0, by omega⟩ ?_ ?_
    · simp -dsimp -implicitDefEqProofs only [go_sem, ↓reduceIte, reduceCtorEq, Nat.reduceLT, Nat.reduceLeDiff, Nat.reduceEqDiff, Nat.reduceAdd, Nat.reduceMul, Nat.reduceSub, Nat.reduceBEq, Int.reduceLT, Int.reduceLE, Int.reduceEq, Int.reduceBEq, Int.reduceNeg]
      rfl
    intro ⟨i, hi⟩
    simp -dsimp -implicitDefEqProofs only [go_sem, ↓reduceIte, reduceCtorEq, Nat.reduceLT, Nat.reduceLeDiff, Nat.reduceEqDiff, Nat.reduceAdd, Nat.reduceMul, Nat.reduceSub, Nat.reduceBEq, Int.reduceLT, Int.reduceLE, Int.reduceEq, Int.reduceBEq, Int.reduceNeg]
    refine ⟨fun hlt => ?_, fun hge => ?_⟩
    · have hil : i < l2.length := by omega
      obtain ⟨y, hy⟩ : ∃ y, l2[i]? = some y := ⟨_, List.getElem?_eq_getElem hil⟩
      have hw := wrapS hil (by omega)
      have hst := any_step (noneB l rs a now) hy
      simp -dsimp -implicitDefEqProofs only [hy, forall_eq', hw, go_sem, ↓reduceIte, reduceCtorEq, Nat.reduceLT, Nat.reduceLeDiff, Nat.reduceEqDiff, Nat.reduceAdd, Nat.reduceMul, Nat.reduceSub, Nat.reduceBEq, Int.reduceLT, Int.reduceLE, Int.reduceEq, Int.reduceBEq, Int.reduceNeg]
      refine ⟨fun hs => ⟨by omega, hil, fun h1 => ⟨by omega, hil, fun h2 => ⟨by omega, hil, h1, by omega, fun ru hru => ⟨by omega, hil, callP (Left_ok l ru y a now (by omega)) ?_⟩⟩, fun h2 => ⟨drawn (by kernel_rfl), ?_⟩⟩, fun h1 => ⟨drawn (by kernel_rfl), ?_⟩⟩, fun hs => ⟨drawn (by kernel_rfl), ?_⟩⟩
      · have hnb : noneB l rs a now y = (LeftV l ru.M ru.W y a now == 0) := by unfold noneB; rw [hru, decide_eq_true h1]; rfl
        rw [hs, Bool.false_or, hnb] at hst
        simp -dsimp -implicitDefEqProofs only [go_sem, ↓reduceIte, reduceCtorEq, Nat.reduceLT, Nat.reduceLeDiff, Nat.reduceEqDiff, Nat.reduceAdd, Nat.reduceMul, Nat.reduceSub, Nat.reduceBEq, Int.reduceLT, Int.reduceLE, Int.reduceEq, Int.reduceBEq, Int.reduceNeg]
        refine ⟨drawn (by kernel_rfl), again ⟨i + 1, by omega⟩ (by simp; omega) ?_⟩
        simp -dsimp -implicitDefEqProofs only [hw, hst, go_sem, ↓reduceIte, reduceCtorEq, Nat.reduceLT, Nat.reduceLeDiff, Nat.reduceEqDiff, Nat.reduceAdd, Nat.reduceMul, Nat.reduceSub, Nat.reduceBEq, Int.reduceLT, Int.reduceLE, Int.reduceEq, Int.reduceBEq, Int.reduceNeg]
      · have hnb : noneB l rs a now y = false := by unfold noneB; rw [List.getElem?_eq_none (by omega : rs.length ≤ y.toNat)]; simp
        rw [hs, Bool.false_or, hnb] at hst
        refine again ⟨i + 1, by omega⟩ (by simp; omega) ?_
        simp -dsimp -implicitDefEqProofs only [hw, hst, go_sem, ↓reduceIte, reduceCtorEq, Nat.reduceLT, Nat.reduceLeDiff, Nat.reduceEqDiff, Nat.reduceAdd, Nat.reduceMul, Nat.reduceSub, Nat.reduceBEq, Int.reduceLT, Int.reduceLE, Int.reduceEq, Int.reduceBEq, Int.reduceNeg]
      · have hnb : noneB l rs a now y = false := by unfold noneB; rw [decide_eq_false (by omega : ¬ 0 ≤ y)]; rfl
        rw [hs, Bool.false_or, hnb] at hst
        refine again ⟨i + 1, by omega⟩ (by simp; omega) ?_
        simp -dsimp -implicitDefEqProofs only [hw, hst, go_sem, ↓reduceIte, reduceCtorEq, Nat.reduceLT, Nat.reduceLeDiff, Nat.reduceEqDiff, Nat.reduceAdd, Nat.reduceMul, Nat.reduceSub, Nat.reduceBEq, Int.reduceLT, Int.reduceLE, Int.reduceEq, Int.reduceBEq, Int.reduceNeg]
      · rw [hs, Bool.true_or] at hst
        refine again ⟨i + 1, by omega⟩ (by simp; omega) ?_
        simp -dsimp -implicitDefEqProofs only [hw, hst, go_sem, ↓reduceIte, reduceCtorEq, Nat.reduceLT, Nat.reduceLeDiff, Nat.reduceEqDiff, Nat.reduceAdd, Nat.reduceMul, Nat.reduceSub, Nat.reduceBEq, Int.reduceLT, Int.reduceLE, Int.reduceEq, Int.reduceBEq, Int.reduceNeg]
    · have hil : i = l2.length := by omega
      subst hil
      rw [List.take_length]
      intro h
      rw [hall] at h
      cases h
  · by_cases h0 : e = 0
    · subst h0
      obtain ⟨hck, hg⟩ := allV_parts he
      obtain ⟨g1, g2, g3⟩ := goV_law (riseI_lt l2) hck hg
      simp -dsimp -implicitDefEqProofs only [he, go_sem, ↓reduceIte, reduceCtorEq, Nat.reduceLT, Nat.reduceLeDiff, Nat.reduceEqDiff, Nat.reduceAdd, Nat.reduceMul, Nat.reduceSub, Nat.reduceBEq, Int.reduceLT, Int.reduceLE, Int.reduceEq, Int.reduceBEq, Int.reduceNeg]
      refine vfor sitOk (ι := WhInv rs.length) (fun v => ⟨154, [(15, aI v.i), (11, aO 168), (0, aD (spsD l)), (1, aD (rusD rs)), (2, aD (intsD l2)), (3, aI a), (4, aI now)], [(168, some (.row 4 40 (x.map Sp.cells) true))], 300⟩) (fun v => rs.length - v.i) ⟨0, by omega⟩ ?_ ?_
      · simp -dsimp -implicitDefEqProofs only [go_sem, ↓reduceIte, reduceCtorEq, Nat.reduceLT, Nat.reduceLeDiff, Nat.reduceEqDiff, Nat.reduceAdd, Nat.reduceMul, Nat.reduceSub, Nat.reduceBEq, Int.reduceLT, Int.reduceLE, Int.reduceEq, Int.reduceBEq, Int.reduceNeg]
      intro ⟨i, hi⟩
      simp -dsimp -implicitDefEqProofs only [go_sem, ↓reduceIte, reduceCtorEq, Nat.reduceLT, Nat.reduceLeDiff, Nat.reduceEqDiff, Nat.reduceAdd, Nat.reduceMul, Nat.reduceSub, Nat.reduceBEq, Int.reduceLT, Int.reduceLE, Int.reduceEq, Int.reduceBEq, Int.reduceNeg]
      refine ⟨fun hlt => ?_, fun hge => ?_⟩
      · have hil : i < rs.length := by omega
        obtain ⟨y, hy⟩ : ∃ y, rs[i]? = some y := ⟨_, List.getElem?_eq_getElem hil⟩
        have hwi := wrapS hil (by omega)
        refine vfor sitOk (ι := WhInv l2.length) (fun v => ⟨154, [(17, aI v.i), (16, aB ((l2.take v.i).any fun z => z == (i : Int))), (15, aI i), (11, aO 168), (0, aD (spsD l)), (1, aD (rusD rs)), (2, aD (intsD l2)), (3, aI a), (4, aI now)], [(168, some (.row 4 40 (x.map Sp.cells) true))], 600⟩) (fun v => l2.length - v.i) ⟨0, by omega⟩ ?_ ?_
        · simp -dsimp -implicitDefEqProofs only [go_sem, ↓reduceIte, reduceCtorEq, Nat.reduceLT, Nat.reduceLeDiff, Nat.reduceEqDiff, Nat.reduceAdd, Nat.reduceMul, Nat.reduceSub, Nat.reduceBEq, Int.reduceLT, Int.reduceLE, Int.reduceEq, Int.reduceBEq, Int.reduceNeg]
          rfl
        intro ⟨k, hk⟩
        simp -dsimp -implicitDefEqProofs only [go_sem, ↓reduceIte, reduceCtorEq, Nat.reduceLT, Nat.reduceLeDiff, Nat.reduceEqDiff, Nat.reduceAdd, Nat.reduceMul, Nat.reduceSub, Nat.reduceBEq, Int.reduceLT, Int.reduceLE, Int.reduceEq, Int.reduceBEq, Int.reduceNeg]
        refine ⟨fun hlt2 => ?_, fun hge2 => ?_⟩
        · have hkl : k < l2.length := by omega
          obtain ⟨z, hz⟩ : ∃ z, l2[k]? = some z := ⟨_, List.getElem?_eq_getElem hkl⟩
          have hwk := wrapS hkl (by omega)
          have hst := any_step (fun z => z == (i : Int)) hz
          simp -dsimp -implicitDefEqProofs only [hz, forall_eq', hwk, go_sem, ↓reduceIte, reduceCtorEq, Nat.reduceLT, Nat.reduceLeDiff, Nat.reduceEqDiff, Nat.reduceAdd, Nat.reduceMul, Nat.reduceSub, Nat.reduceBEq, Int.reduceLT, Int.reduceLE, Int.reduceEq, Int.reduceBEq, Int.reduceNeg]
          refine ⟨fun hs => ⟨by omega, hkl, ?_⟩, fun hs => ?_⟩
          · rw [hs, Bool.false_or] at hst
            refine again ⟨k + 1, by omega⟩ (by simp; omega) ?_
            simp -dsimp -implicitDefEqProofs only [hwk, hst, go_sem, ↓reduceIte, reduceCtorEq, Nat.reduceLT, Nat.reduceLeDiff, Nat.reduceEqDiff, Nat.reduceAdd, Nat.reduceMul, Nat.reduceSub, Nat.reduceBEq, Int.reduceLT, Int.reduceLE, Int.reduceEq, Int.reduceBEq, Int.reduceNeg]
          · rw [hs, Bool.true_or] at hst
            refine again ⟨k + 1, by omega⟩ (by simp; omega) ?_
            simp -dsimp -implicitDefEqProofs only [hwk, hst, go_sem, ↓reduceIte, reduceCtorEq, Nat.reduceLT, Nat.reduceLeDiff, Nat.reduceEqDiff, Nat.reduceAdd, Nat.reduceMul, Nat.reduceSub, Nat.reduceBEq, Int.reduceLT, Int.reduceLE, Int.reduceEq, Int.reduceBEq, Int.reduceNeg]
        · have hkl : k = l2.length := by omega
          subst hkl
          rw [List.take_length]
          have hb1 := LeftV_bd l y.M y.W i a now
          have hb2 := LeftV_bd x y.M y.W i a now
          have hany : (l2.any fun z => z == (i : Int)) = decide ((i : Int) ∈ l2) := by
            rw [Bool.eq_iff_iff, List.any_eq_true, decide_eq_true_eq]
            constructor
            · rintro ⟨z, h1, h2⟩; rw [← (beq_iff_eq.1 h2)]; exact h1
            · intro h; exact ⟨_, h, by simp⟩
          rw [hany]
          simp -dsimp -implicitDefEqProofs only [hy, forall_eq', hwi, go_sem, ↓reduceIte, reduceCtorEq, Nat.reduceLT, Nat.reduceLeDiff, Nat.reduceEqDiff, Nat.reduceAdd, Nat.reduceMul, Nat.reduceSub, Nat.reduceBEq, Int.reduceLT, Int.reduceLE, Int.reduceEq, Int.reduceBEq, Int.reduceNeg]
          refine ⟨by omega, hil, callP (Left_ok l y i a now (by omega)) ?_⟩
          simp -dsimp -implicitDefEqProofs only [hy, forall_eq', go_sem, ↓reduceIte, reduceCtorEq, Nat.reduceLT, Nat.reduceLeDiff, Nat.reduceEqDiff, Nat.reduceAdd, Nat.reduceMul, Nat.reduceSub, Nat.reduceBEq, Int.reduceLT, Int.reduceLE, Int.reduceEq, Int.reduceBEq, Int.reduceNeg]
          refine ⟨by omega, hil, callP (Left_ok x y i a now (by omega)) ?_⟩
          simp -dsimp -implicitDefEqProofs only [hy, forall_eq', go_sem, ↓reduceIte, reduceCtorEq, Nat.reduceLT, Nat.reduceLeDiff, Nat.reduceEqDiff, Nat.reduceAdd, Nat.reduceMul, Nat.reduceSub, Nat.reduceBEq, Int.reduceLT, Int.reduceLE, Int.reduceEq, Int.reduceBEq, Int.reduceNeg]
          have hwl : IntKind.i64.wrap (LeftV x y.M y.W i a now + 1) = LeftV x y.M y.W i a now + 1 := by rw [wrap64] <;> omega
          rw [hwl]
          refine ⟨fun hm => ⟨by omega, hil, fun hM => ⟨fun hne => ?_, fun _ => ?_⟩, fun hM => ⟨fun hne => ?_, fun _ => ?_⟩⟩, fun hm => ⟨fun hne => ?_, fun _ => ?_⟩⟩
          · have := (g3 i y (by omega) (mem_riseI.2 hm) hy).2 (by omega)
            omega
          · refine again ⟨i + 1, by omega⟩ (by simp; omega) ?_
            simp -dsimp -implicitDefEqProofs only [hwi, go_sem, ↓reduceIte, reduceCtorEq, Nat.reduceLT, Nat.reduceLeDiff, Nat.reduceEqDiff, Nat.reduceAdd, Nat.reduceMul, Nat.reduceSub, Nat.reduceBEq, Int.reduceLT, Int.reduceLE, Int.reduceEq, Int.reduceBEq, Int.reduceNeg]
          · by_cases hM0 : y.M = 0
            · exact hne ((g3 i y (by omega) (mem_riseI.2 hm) hy).1 hM0)
            · have := ((g3 i y (by omega) (mem_riseI.2 hm) hy).2 hM0).1
              omega
          · refine again ⟨i + 1, by omega⟩ (by simp; omega) ?_
            simp -dsimp -implicitDefEqProofs only [hwi, go_sem, ↓reduceIte, reduceCtorEq, Nat.reduceLT, Nat.reduceLeDiff, Nat.reduceEqDiff, Nat.reduceAdd, Nat.reduceMul, Nat.reduceSub, Nat.reduceBEq, Int.reduceLT, Int.reduceLE, Int.reduceEq, Int.reduceBEq, Int.reduceNeg]
          · exact hne (g2 i y.M y.W (.inr fun h => hm (mem_riseI.1 h)))
          · refine again ⟨i + 1, by omega⟩ (by simp; omega) ?_
            simp -dsimp -implicitDefEqProofs only [hwi, go_sem, ↓reduceIte, reduceCtorEq, Nat.reduceLT, Nat.reduceLeDiff, Nat.reduceEqDiff, Nat.reduceAdd, Nat.reduceMul, Nat.reduceSub, Nat.reduceBEq, Int.reduceLT, Int.reduceLE, Int.reduceEq, Int.reduceBEq, Int.reduceNeg]
      · refine callP (check_ok x (by omega)) ?_
        simp -dsimp -implicitDefEqProofs only [g1, go_sem, ↓reduceIte, reduceCtorEq, Nat.reduceLT, Nat.reduceLeDiff, Nat.reduceEqDiff, Nat.reduceAdd, Nat.reduceMul, Nat.reduceSub, Nat.reduceBEq, Int.reduceLT, Int.reduceLE, Int.reduceEq, Int.reduceBEq, Int.reduceNeg]
    · have hx := hbad h0
      subst hx
      simp -dsimp -implicitDefEqProofs only [he, h170, h0, go_sem, ↓reduceIte, reduceCtorEq, Nat.reduceLT, Nat.reduceLeDiff, Nat.reduceEqDiff, Nat.reduceAdd, Nat.reduceMul, Nat.reduceSub, Nat.reduceBEq, Int.reduceLT, Int.reduceLE, Int.reduceEq, Int.reduceBEq, Int.reduceNeg]
end Go.Proofs.Ytfidbkmogileiaa
