/- The document's answer: New, place, Put, Drop. -/
import Derived.Test.YtfgejhlgenaniaaDoorZ15
namespace Go.Proofs.YtfgejhlgenaniaaDoor
open Go.Eng
set_option linter.unusedSimpArgs false
set_option maxRecDepth 10000

theorem checkV_nil (a : Bs) : checkV a [] = if apexB a then 0 else 1 := by
  unfold checkV okZ; cases apexB a <;> rfl
theorem rnew_ok (a : Bs) : Meets Tryd.prog 30 [(false, [vS a])] (rTup [if apexB a then zoneA a [] else zoneA [] [], (false, [vI (if apexB a then 0 else 1)])]) := by
  have h0 := rcheck_ok a [] (by simp)
  rw [checkV_nil] at h0
  cases hap : apexB a with
  | false =>
    rw [hap] at h0
    refine meets Tryd.func30 rfl rfl Tryd.ntmps30 Tryd.results30 rfl ?_
    simp -dsimp -implicitDefEqProofs only [Bool.false_eq_true, go_sem, ↓reduceIte, reduceCtorEq, Nat.reduceLT, Nat.reduceLeDiff, Nat.reduceEqDiff, Nat.reduceAdd, Nat.reduceMul, Nat.reduceSub, Nat.reduceBEq, Int.reduceLT, Int.reduceLE, Int.reduceEq, Int.reduceBEq, Int.reduceNeg]
    refine callP h0 ?_
    simp -dsimp -implicitDefEqProofs only [go_sem, ↓reduceIte, reduceCtorEq, Nat.reduceLT, Nat.reduceLeDiff, Nat.reduceEqDiff, Nat.reduceAdd, Nat.reduceMul, Nat.reduceSub, Nat.reduceBEq, Int.reduceLT, Int.reduceLE, Int.reduceEq, Int.reduceBEq, Int.reduceNeg]
  | true =>
    rw [hap] at h0
    refine meets Tryd.func30 rfl rfl Tryd.ntmps30 Tryd.results30 rfl ?_
    simp -dsimp -implicitDefEqProofs only [go_sem, ↓reduceIte, reduceCtorEq, Nat.reduceLT, Nat.reduceLeDiff, Nat.reduceEqDiff, Nat.reduceAdd, Nat.reduceMul, Nat.reduceSub, Nat.reduceBEq, Int.reduceLT, Int.reduceLE, Int.reduceEq, Int.reduceBEq, Int.reduceNeg]
    refine callP h0 ?_
    simp -dsimp -implicitDefEqProofs only [go_sem, ↓reduceIte, reduceCtorEq, Nat.reduceLT, Nat.reduceLeDiff, Nat.reduceEqDiff, Nat.reduceAdd, Nat.reduceMul, Nat.reduceSub, Nat.reduceBEq, Int.reduceLT, Int.reduceLE, Int.reduceEq, Int.reduceBEq, Int.reduceNeg]

structure PlInv (l : List Rec) (r : Rec) where
  i : Nat
  le : i ≤ l.length
  ok : ∀ j x, j < i → l[j]? = some x → Ah x r
theorem plN_eq {l : List Rec} {r : Rec} {i : Nat} (hi : i ≤ l.length) (h : ∀ j x, j < i → l[j]? = some x → Ah x r) (h2 : ∀ x, l[i]? = some x → ¬ Ah x r) : plN l r = i := by
  rcases Nat.lt_trichotomy (plN l r) i with h3 | h3 | h3
  · have hx : l[plN l r]? = some l[plN l r] := List.getElem?_eq_getElem (by omega)
    exact absurd (h _ _ h3 hx) (plN_at hx)
  · exact h3
  · have := plN_le l r
    have hx : l[i]? = some l[i] := List.getElem?_eq_getElem (by omega)
    exact absurd (plN_lt h3 hx) (h2 _ hx)
theorem rplace_ok (l : List Rec) (r : Rec) (hl : l.length ≤ 1000000) : Meets Tryd.prog 60 [(false, [vD (recsD l)]), r.arg] (rTup [(false, [vI (plN l r : Nat)]), (false, [vB (plH l r)])]) := by
  refine meets Tryd.func60 rfl rfl Tryd.ntmps60 Tryd.results60 rfl ?_
  simp -dsimp -implicitDefEqProofs only [go_sem, ↓reduceIte, reduceCtorEq, Nat.reduceLT, Nat.reduceLeDiff, Nat.reduceEqDiff, Nat.reduceAdd, Nat.reduceMul, Nat.reduceSub, Nat.reduceBEq, Int.reduceLT, Int.reduceLE, Int.reduceEq, Int.reduceBEq, Int.reduceNeg]
  refine vfor sitOk (ι := PlInv l r) (fun v => ⟨35, [(6, aI v.i), (3, aP 0 0), (0, aD (recsD l))], [(0, some (.var [cS r.N, cI r.K, cS r.V, cI r.L] true))], 16⟩) (fun v => l.length - v.i) ⟨0, by omega, fun j x hj => by omega⟩ ?_ ?_
  · simp -dsimp -implicitDefEqProofs only [go_sem, ↓reduceIte, reduceCtorEq, Nat.reduceLT, Nat.reduceLeDiff, Nat.reduceEqDiff, Nat.reduceAdd, Nat.reduceMul, Nat.reduceSub, Nat.reduceBEq, Int.reduceLT, Int.reduceLE, Int.reduceEq, Int.reduceBEq, Int.reduceNeg]
  intro ⟨i, hi, hok⟩
  by_cases hil : i < l.length
  · obtain ⟨x, hx⟩ : ∃ x, l[i]? = some x := ⟨_, List.getElem?_eq_getElem hil⟩
    have hw := wrapS hil (by omega)
    have hlt : (i : Int) < (l.length : Int) := by omega
    simp -dsimp -implicitDefEqProofs only [hlt, hx, forall_eq', go_sem, ↓reduceIte, reduceCtorEq, Nat.reduceLT, Nat.reduceLeDiff, Nat.reduceEqDiff, Nat.reduceAdd, Nat.reduceMul, Nat.reduceSub, Nat.reduceBEq, Int.reduceLT, Int.reduceLE, Int.reduceEq, Int.reduceBEq, Int.reduceNeg]
    refine ⟨by omega, hil, callP (rahead_ok x r) ?_⟩
    cases ha : aheadB x r with
    | true =>
      simp -dsimp -implicitDefEqProofs only [ha, hw, go_sem, ↓reduceIte, reduceCtorEq, Nat.reduceLT, Nat.reduceLeDiff, Nat.reduceEqDiff, Nat.reduceAdd, Nat.reduceMul, Nat.reduceSub, Nat.reduceBEq, Int.reduceLT, Int.reduceLE, Int.reduceEq, Int.reduceBEq, Int.reduceNeg]
      refine ⟨drawn (by kernel_rfl), ?_⟩
      refine again ⟨i + 1, by omega, fun j y hj hy => by
        by_cases hji : j = i
        · subst hji; rw [hx] at hy; cases hy; exact of_decide_eq_true ha
        · exact hok j y (by omega) hy⟩ (by simp; omega) ?_
      simp -dsimp -implicitDefEqProofs only [go_sem, ↓reduceIte, reduceCtorEq, Nat.reduceLT, Nat.reduceLeDiff, Nat.reduceEqDiff, Nat.reduceAdd, Nat.reduceMul, Nat.reduceSub, Nat.reduceBEq, Int.reduceLT, Int.reduceLE, Int.reduceEq, Int.reduceBEq, Int.reduceNeg]
    | false =>
      have hN : plN l r = i := plN_eq hi hok fun y hy => by rw [hx] at hy; cases hy; exact of_decide_eq_false ha
      have hH : plH l r = !aheadB r x := by unfold plH; rw [hN, hx]; rfl
      rw [hN, hH]
      simp -dsimp -implicitDefEqProofs only [ha, hlt, hx, forall_eq', go_sem, ↓reduceIte, reduceCtorEq, Nat.reduceLT, Nat.reduceLeDiff, Nat.reduceEqDiff, Nat.reduceAdd, Nat.reduceMul, Nat.reduceSub, Nat.reduceBEq, Int.reduceLT, Int.reduceLE, Int.reduceEq, Int.reduceBEq, Int.reduceNeg]
      refine ⟨drawn (by kernel_rfl), by omega, hil, callP (rahead_ok r x) ?_⟩
      simp -dsimp -implicitDefEqProofs only [go_sem, ↓reduceIte, reduceCtorEq, Nat.reduceLT, Nat.reduceLeDiff, Nat.reduceEqDiff, Nat.reduceAdd, Nat.reduceMul, Nat.reduceSub, Nat.reduceBEq, Int.reduceLT, Int.reduceLE, Int.reduceEq, Int.reduceBEq, Int.reduceNeg]
      exact drawn (by kernel_rfl)
  · have hlt : ¬ (i : Int) < (l.length : Int) := by omega
    have hN : plN l r = i := plN_eq hi hok fun y hy => absurd (List.getElem?_eq_some_iff.1 hy).1 hil
    have hH : plH l r = false := by unfold plH; rw [hN, List.getElem?_eq_none (by omega)]
    rw [hN, hH]
    simp -dsimp -implicitDefEqProofs only [hlt, go_sem, ↓reduceIte, reduceCtorEq, Nat.reduceLT, Nat.reduceLeDiff, Nat.reduceEqDiff, Nat.reduceAdd, Nat.reduceMul, Nat.reduceSub, Nat.reduceBEq, Int.reduceLT, Int.reduceLE, Int.reduceEq, Int.reduceBEq, Int.reduceNeg]
    exact ⟨drawn (by kernel_rfl), drawn (by kernel_rfl)⟩

theorem putL_eq {l : List Rec} (hr : Rises l) (r : Rec) : putL l r = l.take (plN l r) ++ r :: l.drop (if plH l r then plN l r + 1 else plN l r) := by
  unfold putL
  rw [hit_law hr, pos_law hr]
  cases h : plH l r with
  | true =>
    simp only [if_true]
    rw [List.set_eq_take_append_cons_drop, if_pos]
    unfold plH at h
    split at h
    · rename_i e; exact (List.getElem?_eq_some_iff.1 e).1
    · cases h
  | false => rfl
theorem rput_ok (a : Bs) (l : List Rec) (r : Rec) (hl : l.length ≤ 999999) : Meets Tryd.prog 26 [zoneA a l, r.arg] (rTup [zoneO (putA a l r) (putR a l r), (false, [vI (putE a l r)])]) := by
  have hlen := putL_len l r
  refine meets Tryd.func26 rfl rfl Tryd.ntmps26 Tryd.results26 rfl ?_
  simp -dsimp -implicitDefEqProofs only [go_sem, ↓reduceIte, reduceCtorEq, Nat.reduceLT, Nat.reduceLeDiff, Nat.reduceEqDiff, Nat.reduceAdd, Nat.reduceMul, Nat.reduceSub, Nat.reduceBEq, Int.reduceLT, Int.reduceLE, Int.reduceEq, Int.reduceBEq, Int.reduceNeg]
  refine callP (rcheck_ok a l (by omega)) ?_
  simp -dsimp -implicitDefEqProofs only [go_sem, ↓reduceIte, reduceCtorEq, Nat.reduceLT, Nat.reduceLeDiff, Nat.reduceEqDiff, Nat.reduceAdd, Nat.reduceMul, Nat.reduceSub, Nat.reduceBEq, Int.reduceLT, Int.reduceLE, Int.reduceEq, Int.reduceBEq, Int.reduceNeg]
  have fin : ∀ e : Int, e ≠ 0 → putE a l r = e → ([] = putA a l r ∧ List.map Rec.cells (putR a l r) = []) ∧ e = putE a l r := fun e he h => by
    unfold putA putR
    rw [if_neg (by rw [h]; exact he), if_neg (by rw [h]; exact he)]
    exact ⟨⟨rfl, rfl⟩, h.symm⟩
  refine ⟨fun h0 => fin _ h0 (by unfold putE; rw [if_neg h0]), fun h0 => callP (rform_ok r) ?_⟩
  have hok := (check_zero.1 h0).1
  simp -dsimp -implicitDefEqProofs only [go_sem, ↓reduceIte, reduceCtorEq, Nat.reduceLT, Nat.reduceLeDiff, Nat.reduceEqDiff, Nat.reduceAdd, Nat.reduceMul, Nat.reduceSub, Nat.reduceBEq, Int.reduceLT, Int.reduceLE, Int.reduceEq, Int.reduceBEq, Int.reduceNeg]
  refine ⟨fun h1 => fin _ (by decide) (by unfold putE; rw [if_pos h0, if_neg (by simp [h1])]), fun h1 => callP (runder_ok _ _) ?_⟩
  simp -dsimp -implicitDefEqProofs only [go_sem, ↓reduceIte, reduceCtorEq, Nat.reduceLT, Nat.reduceLeDiff, Nat.reduceEqDiff, Nat.reduceAdd, Nat.reduceMul, Nat.reduceSub, Nat.reduceBEq, Int.reduceLT, Int.reduceLE, Int.reduceEq, Int.reduceBEq, Int.reduceNeg]
  refine ⟨fun h2 => fin _ (by decide) (by unfold putE; rw [if_pos h0, if_pos h1, if_neg (by simp [h2])]), fun h2 => ?_⟩
  refine callP (rplace_ok l r (by omega)) ?_
  have hp := plN_le l r
  have hpe := putL_eq hok.rise r
  have hal := put_alone hok r
  have fin2 : aloneB (putL l r) = false → putE a l r = 120 := fun h => by unfold putE; rw [if_pos h0, if_pos h1, if_pos h2, if_pos (by rw [hal] at h; simpa using h)]
  have fin3 : aloneB (putL l r) = true → 64 < (putL l r).length → putE a l r = 2 := fun h h' => by unfold putE; rw [if_pos h0, if_pos h1, if_pos h2, if_neg (by rw [hal] at h; simpa using h), if_pos h']
  have fin4 : aloneB (putL l r) = true → ¬ 64 < (putL l r).length → putE a l r = 0 := fun h h' => by unfold putE; rw [if_pos h0, if_pos h1, if_pos h2, if_neg (by rw [hal] at h; simpa using h), if_neg h']
  have hpl : (plN l r : Int) ≤ (l.length : Int) := by omega
  have htk : (l.map Rec.cells).take l.length = l.map Rec.cells := List.take_of_length_le (by simp)
  cases hh : plH l r with
  | true =>
    rw [hh, if_pos rfl] at hpe
    have hlt : plN l r < l.length := by
      unfold plH at hh
      split at hh
      · rename_i e; exact (List.getElem?_eq_some_iff.1 e).1
      · cases hh
    have hw := wrapS hlt (by omega)
    have hput : (l.map Rec.cells).take (plN l r) ++ ([dT r.N, dI r.K, dT r.V, dI r.L] :: (l.map Rec.cells).drop (plN l r + 1)) = (putL l r).map Rec.cells := by
      rw [hpe]; simp [List.map_append, List.map_take, List.map_drop, Rec.cells]
    have hml : ((l.map Rec.cells).take (plN l r)).length = plN l r := by simp; omega
    have hdl : ((l.map Rec.cells).drop (plN l r + 1)).length = l.length - (plN l r + 1) := by simp
    simp -dsimp -implicitDefEqProofs only [hh, hw, List.append_assoc, List.singleton_append, htk, hput, List.length_append, hml, hdl, List.length_map, go_sem, ↓reduceIte, reduceCtorEq, Nat.reduceLT, Nat.reduceLeDiff, Nat.reduceEqDiff, Nat.reduceAdd, Nat.reduceMul, Nat.reduceSub, Nat.reduceBEq, Int.reduceLT, Int.reduceLE, Int.reduceEq, Int.reduceBEq, Int.reduceNeg]
    refine ⟨by omega, by omega, by omega, by omega, by omega, callP (ralone_ok (putL l r) (by omega)) ?_⟩
    simp -dsimp -implicitDefEqProofs only [htk, hput, List.length_map, go_sem, ↓reduceIte, reduceCtorEq, Nat.reduceLT, Nat.reduceLeDiff, Nat.reduceEqDiff, Nat.reduceAdd, Nat.reduceMul, Nat.reduceSub, Nat.reduceBEq, Int.reduceLT, Int.reduceLE, Int.reduceEq, Int.reduceBEq, Int.reduceNeg]
    refine ⟨fun h3 => fin _ (by decide) (fin2 h3), fun h3 => ⟨fun h4 => fin _ (by decide) (fin3 h3 (by omega)), fun h4 => ?_⟩⟩
    have h5 := fin4 h3 (by omega)
    unfold putA putR
    rw [h5]; simp
  | false =>
    rw [hh, if_neg (by simp)] at hpe
    have hput : (l.map Rec.cells).take (plN l r) ++ ([dT r.N, dI r.K, dT r.V, dI r.L] :: (l.map Rec.cells).drop (plN l r)) = (putL l r).map Rec.cells := by
      rw [hpe]; simp [List.map_append, List.map_take, List.map_drop, Rec.cells]
    have hml : ((l.map Rec.cells).take (plN l r)).length = plN l r := by simp; omega
    have hdl : ((l.map Rec.cells).drop (plN l r)).length = l.length - plN l r := by simp
    simp -dsimp -implicitDefEqProofs only [hh, List.append_assoc, List.singleton_append, htk, hput, List.length_append, hml, hdl, List.length_map, go_sem, ↓reduceIte, reduceCtorEq, Nat.reduceLT, Nat.reduceLeDiff, Nat.reduceEqDiff, Nat.reduceAdd, Nat.reduceMul, Nat.reduceSub, Nat.reduceBEq, Int.reduceLT, Int.reduceLE, Int.reduceEq, Int.reduceBEq, Int.reduceNeg]
    refine ⟨by omega, by omega, by omega, by omega, by omega, callP (ralone_ok (putL l r) (by omega)) ?_⟩
    simp -dsimp -implicitDefEqProofs only [htk, hput, List.length_map, go_sem, ↓reduceIte, reduceCtorEq, Nat.reduceLT, Nat.reduceLeDiff, Nat.reduceEqDiff, Nat.reduceAdd, Nat.reduceMul, Nat.reduceSub, Nat.reduceBEq, Int.reduceLT, Int.reduceLE, Int.reduceEq, Int.reduceBEq, Int.reduceNeg]
    refine ⟨fun h3 => fin _ (by decide) (fin2 h3), fun h3 => ⟨fun h4 => fin _ (by decide) (fin3 h3 (by omega)), fun h4 => ?_⟩⟩
    have h5 := fin4 h3 (by omega)
    unfold putA putR
    rw [h5]; simp

theorem rdrop_ok (a : Bs) (l : List Rec) (r : Rec) (hl : l.length ≤ 999999) : Meets Tryd.prog 28 [zoneA a l, r.arg] (rTup [zoneO (dropA a l r) (dropR a l r), (false, [vI (dropE a l r)])]) := by
  refine meets Tryd.func28 rfl rfl Tryd.ntmps28 Tryd.results28 rfl ?_
  simp -dsimp -implicitDefEqProofs only [go_sem, ↓reduceIte, reduceCtorEq, Nat.reduceLT, Nat.reduceLeDiff, Nat.reduceEqDiff, Nat.reduceAdd, Nat.reduceMul, Nat.reduceSub, Nat.reduceBEq, Int.reduceLT, Int.reduceLE, Int.reduceEq, Int.reduceBEq, Int.reduceNeg]
  refine callP (rcheck_ok a l (by omega)) ?_
  simp -dsimp -implicitDefEqProofs only [go_sem, ↓reduceIte, reduceCtorEq, Nat.reduceLT, Nat.reduceLeDiff, Nat.reduceEqDiff, Nat.reduceAdd, Nat.reduceMul, Nat.reduceSub, Nat.reduceBEq, Int.reduceLT, Int.reduceLE, Int.reduceEq, Int.reduceBEq, Int.reduceNeg]
  have fin : ∀ e : Int, e ≠ 0 → dropE a l r = e → ([] = dropA a l r ∧ List.map Rec.cells (dropR a l r) = []) ∧ e = dropE a l r := fun e he h => by
    unfold dropA dropR
    rw [if_neg (by rw [h]; exact he), if_neg (by rw [h]; exact he)]
    exact ⟨⟨rfl, rfl⟩, h.symm⟩
  refine ⟨fun h0 => fin _ h0 (by unfold dropE; rw [if_neg h0]), fun h0 => ?_⟩
  have hok := (check_zero.1 h0).1
  refine callP (rplace_ok l r (by omega)) ?_
  have hp := plN_le l r
  have hhit := hit_law hok.rise r
  have hpos := pos_law hok.rise r
  have htk : (l.map Rec.cells).take l.length = l.map Rec.cells := List.take_of_length_le (by simp)
  have hpl : (plN l r : Int) ≤ (l.length : Int) := by omega
  cases hh : plH l r with
  | true =>
    have hlt : plN l r < l.length := by
      unfold plH at hh
      split at hh
      · rename_i e; exact (List.getElem?_eq_some_iff.1 e).1
      · cases hh
    have hw := wrapS hlt (by omega)
    have he : dropE a l r = 0 := by unfold dropE; rw [if_pos h0, if_pos (by rw [hhit, hh])]
    have hml : ((l.map Rec.cells).take (plN l r)).length = plN l r := by simp; omega
    have hdl : ((l.map Rec.cells).drop (plN l r + 1)).length = l.length - (plN l r + 1) := by simp
    simp -dsimp -implicitDefEqProofs only [hh, hw, htk, hml, hdl, List.length_map, go_sem, ↓reduceIte, reduceCtorEq, Nat.reduceLT, Nat.reduceLeDiff, Nat.reduceEqDiff, Nat.reduceAdd, Nat.reduceMul, Nat.reduceSub, Nat.reduceBEq, Int.reduceLT, Int.reduceLE, Int.reduceEq, Int.reduceBEq, Int.reduceNeg]
    refine ⟨by omega, by omega, by omega, by omega, drawn (by kernel_rfl), ?_⟩
    simp [dropA, dropR, he, hpos, List.map_append, List.map_take, List.map_drop]
  | false =>
    simp -dsimp -implicitDefEqProofs only [hh, go_sem, ↓reduceIte, reduceCtorEq, Nat.reduceLT, Nat.reduceLeDiff, Nat.reduceEqDiff, Nat.reduceAdd, Nat.reduceMul, Nat.reduceSub, Nat.reduceBEq, Int.reduceLT, Int.reduceLE, Int.reduceEq, Int.reduceBEq, Int.reduceNeg]
    exact fin _ (by decide) (by unfold dropE; rw [if_pos h0, if_neg (by rw [hhit, hh]; simp)])
end Go.Proofs.YtfgejhlgenaniaaDoor
