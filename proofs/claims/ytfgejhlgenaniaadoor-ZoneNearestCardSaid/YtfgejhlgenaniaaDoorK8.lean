/- ZoneNearest: the law's contract. -/
import Derived.Test.YtfgejhlgenaniaaDoorZ21
namespace Go.Proofs.YtfgejhlgenaniaaDoor
open Go.Eng
set_option linter.unusedSimpArgs false
set_option maxRecDepth 10000

/-- Does a zone know a name? -/
def Knows (n : Bs) (z : Zn) : Prop := underB n z.A = true ∧ checkV z.A z.R = 0
theorem bestAt_none {l : List Zn} {n : Bs} : ∀ {m : Nat}, bestAt l n m = none → ∀ i z, i < m → l[i]? = some z → ¬ Knows n z
  | 0, _, i, z, hi, _ => by omega
  | m + 1, h, i, z, hi, hz => by
    unfold bestAt at h
    split at h
    · rename_i y hy
      split at h
      · cases h
      · rename_i ht
        by_cases e : i = m
        · subst e
          rw [hy] at hz; cases hz
          intro hk
          rw [h] at ht
          exact ht (by unfold takesB; simp [hk.1, hk.2])
        · exact bestAt_none h i z (by omega) hz
    · rename_i hy
      by_cases e : i = m
      · subst e; rw [hz] at hy; cases hy
      · exact bestAt_none h i z (by omega) hz
theorem bestAt_some {l : List Zn} {n : Bs} : ∀ {m j : Nat}, bestAt l n m = some j → ∃ y, l[j]? = some y ∧ Knows n y ∧ ∀ i z, i < m → l[i]? = some z → Knows n z → z.A.length ≤ y.A.length ∧ (i < j → z.A.length < y.A.length)
  | 0, j, h => by cases h
  | m + 1, j, h => by
    unfold bestAt at h
    split at h
    · rename_i x hx
      split at h
      · rename_i ht
        cases h
        cases hb : bestAt l n m with
        | none =>
          rw [hb] at ht
          have hk : Knows n x := by unfold takesB at ht; simpa [Knows] using ht
          refine ⟨x, hx, hk, fun i z hi hz hkz => ?_⟩
          by_cases e : i = m
          · subst e; rw [hx] at hz; cases hz; exact ⟨Nat.le_refl _, fun h => by omega⟩
          · exact absurd hkz (bestAt_none hb i z (by omega) hz)
        | some j' =>
          obtain ⟨y, hy, hky, hall⟩ := bestAt_some hb
          rw [hb, takes_some hy] at ht
          simp only [Bool.and_eq_true, decide_eq_true_eq, beq_iff_eq] at ht
          refine ⟨x, hx, ⟨ht.1.1, ht.2⟩, fun i z hi hz hkz => ?_⟩
          by_cases e : i = m
          · subst e; rw [hx] at hz; cases hz; exact ⟨Nat.le_refl _, fun h => by omega⟩
          · have := (hall i z (by omega) hz hkz).1
            have := ht.1.2
            exact ⟨by omega, fun _ => by omega⟩
      · rename_i ht
        obtain ⟨y, hy, hky, hall⟩ := bestAt_some h
        have hj := bestAt_lt h
        refine ⟨y, hy, hky, fun i z hi hz hkz => ?_⟩
        by_cases e : i = m
        · subst e; rw [hx] at hz; cases hz
          rw [h, takes_some hy] at ht
          simp only [Bool.and_eq_true, decide_eq_true_eq, beq_iff_eq] at ht
          refine ⟨?_, fun h => by omega⟩
          refine Classical.byContradiction fun hn => ht ⟨⟨hkz.1, by omega⟩, hkz.2⟩
        · exact hall i z (by omega) hz hkz
    · rename_i hx
      obtain ⟨y, hy, hky, hall⟩ := bestAt_some h
      refine ⟨y, hy, hky, fun i z hi hz hkz => ?_⟩
      by_cases e : i = m
      · subst e; rw [hz] at hx; cases hx
      · exact hall i z (by omega) hz hkz
theorem apex_ne {a : Bs} (h : apexB a = true) (hne : a ≠ []) : isName a = true := by
  unfold apexB at h; simpa [hne] using h
/-- Of two that know a name, what is no longer is above the other, or its like. -/
theorem near_law {n : Bs} {y z : Zn} (hy : Knows n y) (hz : Knows n z) (h : z.A.length ≤ y.A.length) : ¬ underB y.A z.A = true → y.A = z.A := by
  intro hu
  have hya := (checkV_zero hy.2).1
  by_cases e : z.A = []
  · by_cases e2 : y.A = []
    · rw [e, e2]
    · exact absurd (by rw [e, under_nil]; exact apex_ne hya e2) hu
  · have e2 : y.A ≠ [] := fun h2 => e (by rw [h2] at h; exact List.length_eq_zero_iff.1 (by simpa using h))
    have h1 := ((under_iff e2).1 hy.1).2
    have h2 := ((under_iff e).1 hz.1).2
    rcases below_chain n.length (Nat.le_refl _) h1 h2 h with h3 | h3
    · exact h3
    · exact absurd ((under_iff e).2 ⟨apex_ne hya e2, .inr h3⟩) hu
structure NrInv9 (l : List Zn) where
  i : Nat
  le : i ≤ l.length
  le9 : i ≤ 9
  ok : ∀ j z, j < i → l[j]? = some z → z.R.length ≤ 70
structure NrInv (l : List Zn) where
  i : Nat
  le : i ≤ l.length
theorem near_ok (l : List Zn) (n : Bs) : Meets Tryd.prog 8 [(false, [vD (zonesD l)]), (false, [vS n])] (rOne (vB true)) := by
  refine meets Tryd.func8 rfl rfl Tryd.ntmps8 Tryd.results8 rfl ?_
  simp -dsimp -implicitDefEqProofs only [go_sem, ↓reduceIte, reduceCtorEq, Nat.reduceLT, Nat.reduceLeDiff, Nat.reduceEqDiff, Nat.reduceAdd, Nat.reduceMul, Nat.reduceSub, Nat.reduceBEq, Int.reduceLT, Int.reduceLE, Int.reduceEq, Int.reduceBEq, Int.reduceNeg]
  refine callP live_ok ?_
  simp -dsimp -implicitDefEqProofs only [go_sem, ↓reduceIte, reduceCtorEq, Nat.reduceLT, Nat.reduceLeDiff, Nat.reduceEqDiff, Nat.reduceAdd, Nat.reduceMul, Nat.reduceSub, Nat.reduceBEq, Int.reduceLT, Int.reduceLE, Int.reduceEq, Int.reduceBEq, Int.reduceNeg]
  refine vfor sitOk (ι := NrInv9 l) (fun v => ⟨155, [(5, aI v.i), (0, aD (zonesD l)), (1, aS n)], [], 32⟩) (fun v => l.length - v.i) ⟨0, by omega, by omega, fun j z hj => by omega⟩ ?_ ?_
  · simp -dsimp -implicitDefEqProofs only [go_sem, ↓reduceIte, reduceCtorEq, Nat.reduceLT, Nat.reduceLeDiff, Nat.reduceEqDiff, Nat.reduceAdd, Nat.reduceMul, Nat.reduceSub, Nat.reduceBEq, Int.reduceLT, Int.reduceLE, Int.reduceEq, Int.reduceBEq, Int.reduceNeg]
  intro ⟨i, hi, hi9, hok⟩
  simp -dsimp -implicitDefEqProofs only [go_sem, ↓reduceIte, reduceCtorEq, Nat.reduceLT, Nat.reduceLeDiff, Nat.reduceEqDiff, Nat.reduceAdd, Nat.reduceMul, Nat.reduceSub, Nat.reduceBEq, Int.reduceLT, Int.reduceLE, Int.reduceEq, Int.reduceBEq, Int.reduceNeg]
  refine ⟨fun hlt => ⟨fun h9 => ?_, fun h9 => ?_⟩, fun hge => ?_⟩
  · have hil : i < l.length := by omega
    obtain ⟨z, hx⟩ : ∃ z, l[i]? = some z := ⟨_, List.getElem?_eq_getElem hil⟩
    have hw : IntKind.i64.wrap ((i : Int) + 1) = ((i + 1 : Nat) : Int) := by rw [wrap64] <;> omega
    simp -dsimp -implicitDefEqProofs only [hx, forall_eq', hw, go_sem, ↓reduceIte, reduceCtorEq, Nat.reduceLT, Nat.reduceLeDiff, Nat.reduceEqDiff, Nat.reduceAdd, Nat.reduceMul, Nat.reduceSub, Nat.reduceBEq, Int.reduceLT, Int.reduceLE, Int.reduceEq, Int.reduceBEq, Int.reduceNeg]
    refine ⟨by omega, hil, callP (few_ok z.A z.R) ?_⟩
    simp -dsimp -implicitDefEqProofs only [hw, go_sem, ↓reduceIte, reduceCtorEq, Nat.reduceLT, Nat.reduceLeDiff, Nat.reduceEqDiff, Nat.reduceAdd, Nat.reduceMul, Nat.reduceSub, Nat.reduceBEq, Int.reduceLT, Int.reduceLE, Int.reduceEq, Int.reduceBEq, Int.reduceNeg]
    intro hf
    refine again ⟨i + 1, by omega, by omega, fun j y hj hy => by
      by_cases hji : j = i
      · subst hji; rw [hx] at hy; cases hy; exact hf.1
      · exact hok j y (by omega) hy⟩ (by simp; omega) ?_
    simp -dsimp -implicitDefEqProofs only [go_sem, ↓reduceIte, reduceCtorEq, Nat.reduceLT, Nat.reduceLeDiff, Nat.reduceEqDiff, Nat.reduceAdd, Nat.reduceMul, Nat.reduceSub, Nat.reduceBEq, Int.reduceLT, Int.reduceLE, Int.reduceEq, Int.reduceBEq, Int.reduceNeg]
  · repeat' (first | with_reducible apply And.intro | with_reducible intro _ | with_reducible exact drawn (by kernel_rfl) | omega)
    all_goals (exfalso; omega)
  · repeat' (first | with_reducible apply And.intro | with_reducible intro _ | with_reducible exact drawn (by kernel_rfl) | omega)
    have hall : ∀ z ∈ l, z.R.length ≤ 1000000 := fun z hz => by
      obtain ⟨j, hj⟩ := List.mem_iff_getElem?.1 hz
      have := hok j z (by have := (List.getElem?_eq_some_iff.1 hj).1; omega) hj
      omega
    refine callP (best_ok l n (by omega) hall) ?_
    cases hb : bestV l n with
    | none =>
      have hno : isName n = true → ∀ i z, l[i]? = some z → ¬ Knows n z := fun h i z hz => by
        unfold bestV at hb
        rw [if_pos h] at hb
        exact bestAt_none hb i z (List.getElem?_eq_some_iff.1 hz).1 hz
      simp -dsimp -implicitDefEqProofs only [optN, hb, go_sem, ↓reduceIte, reduceCtorEq, Nat.reduceLT, Nat.reduceLeDiff, Nat.reduceEqDiff, Nat.reduceAdd, Nat.reduceMul, Nat.reduceSub, Nat.reduceBEq, Int.reduceLT, Int.reduceLE, Int.reduceEq, Int.reduceBEq, Int.reduceNeg]
      refine vfor sitOk (ι := NrInv l) (fun v => ⟨155, [(8, aI v.i), (7, aB false), (6, aI 0), (0, aD (zonesD l)), (1, aS n)], [], 384⟩) (fun v => l.length - v.i) ⟨0, by omega⟩ ?_ ?_
      · simp -dsimp -implicitDefEqProofs only [go_sem, ↓reduceIte, reduceCtorEq, Nat.reduceLT, Nat.reduceLeDiff, Nat.reduceEqDiff, Nat.reduceAdd, Nat.reduceMul, Nat.reduceSub, Nat.reduceBEq, Int.reduceLT, Int.reduceLE, Int.reduceEq, Int.reduceBEq, Int.reduceNeg]
      intro ⟨i, hi⟩
      simp -dsimp -implicitDefEqProofs only [go_sem, ↓reduceIte, reduceCtorEq, Nat.reduceLT, Nat.reduceLeDiff, Nat.reduceEqDiff, Nat.reduceAdd, Nat.reduceMul, Nat.reduceSub, Nat.reduceBEq, Int.reduceLT, Int.reduceLE, Int.reduceEq, Int.reduceBEq, Int.reduceNeg]
      intro hlt
      · have hil : i < l.length := by omega
        obtain ⟨z, hx⟩ : ∃ z, l[i]? = some z := ⟨_, List.getElem?_eq_getElem hil⟩
        have hw := wrapS hil (by omega)
        have hzr := hall z (List.mem_of_getElem? hx)
        repeat' (first | with_reducible apply And.intro | with_reducible intro _ | with_reducible exact drawn (by kernel_rfl) | (refine callP (check_ok _) ?_; simp -dsimp -implicitDefEqProofs only [hx, forall_eq', hw, go_sem, ↓reduceIte, reduceCtorEq, Nat.reduceLT, Nat.reduceLeDiff, Nat.reduceEqDiff, Nat.reduceAdd, Nat.reduceMul, Nat.reduceSub, Nat.reduceBEq, Int.reduceLT, Int.reduceLE, Int.reduceEq, Int.reduceBEq, Int.reduceNeg]) | (refine callP (zcheck_ok _ _ hzr) ?_; simp -dsimp -implicitDefEqProofs only [hx, forall_eq', hw, go_sem, ↓reduceIte, reduceCtorEq, Nat.reduceLT, Nat.reduceLeDiff, Nat.reduceEqDiff, Nat.reduceAdd, Nat.reduceMul, Nat.reduceSub, Nat.reduceBEq, Int.reduceLT, Int.reduceLE, Int.reduceEq, Int.reduceBEq, Int.reduceNeg]) | (refine callP (under_ok _ _) ?_; simp -dsimp -implicitDefEqProofs only [hx, forall_eq', hw, go_sem, ↓reduceIte, reduceCtorEq, Nat.reduceLT, Nat.reduceLeDiff, Nat.reduceEqDiff, Nat.reduceAdd, Nat.reduceMul, Nat.reduceSub, Nat.reduceBEq, Int.reduceLT, Int.reduceLE, Int.reduceEq, Int.reduceBEq, Int.reduceNeg]) | omega)
        all_goals first
          | (refine again ⟨i + 1, by omega⟩ (by simp; omega) ?_
             simp -dsimp -implicitDefEqProofs only [hw, go_sem, ↓reduceIte, reduceCtorEq, Nat.reduceLT, Nat.reduceLeDiff, Nat.reduceEqDiff, Nat.reduceAdd, Nat.reduceMul, Nat.reduceSub, Nat.reduceBEq, Int.reduceLT, Int.reduceLE, Int.reduceEq, Int.reduceBEq, Int.reduceNeg]
             done)
          | (exfalso
             exact hno (by simpa using ‹(if isName n = true then (0 : Int) else 110) = 0›) i z hx ⟨by assumption, by assumption⟩)
    | some j =>
      have hnm : isName n = true := by
        unfold bestV at hb
        split at hb
        · assumption
        · cases hb
      have hba : bestAt l n l.length = some j := by unfold bestV at hb; rw [if_pos hnm] at hb; exact hb
      obtain ⟨y, hy, hky, hbest⟩ := bestAt_some hba
      have hj := (bestAt_lt hba).2
      simp -dsimp -implicitDefEqProofs only [optN, hb, go_sem, ↓reduceIte, reduceCtorEq, Nat.reduceLT, Nat.reduceLeDiff, Nat.reduceEqDiff, Nat.reduceAdd, Nat.reduceMul, Nat.reduceSub, Nat.reduceBEq, Int.reduceLT, Int.reduceLE, Int.reduceEq, Int.reduceBEq, Int.reduceNeg]
      refine ⟨fun _ => ⟨fun _ => ?_, fun h => absurd hj (by omega)⟩, fun h => by omega⟩
      refine vfor sitOk (ι := NrInv l) (fun v => ⟨155, [(8, aI v.i), (7, aB true), (6, aI j), (0, aD (zonesD l)), (1, aS n)], [], 384⟩) (fun v => l.length - v.i) ⟨0, by omega⟩ ?_ ?_
      · simp -dsimp -implicitDefEqProofs only [go_sem, ↓reduceIte, reduceCtorEq, Nat.reduceLT, Nat.reduceLeDiff, Nat.reduceEqDiff, Nat.reduceAdd, Nat.reduceMul, Nat.reduceSub, Nat.reduceBEq, Int.reduceLT, Int.reduceLE, Int.reduceEq, Int.reduceBEq, Int.reduceNeg]
      intro ⟨i, hi⟩
      simp -dsimp -implicitDefEqProofs only [go_sem, ↓reduceIte, reduceCtorEq, Nat.reduceLT, Nat.reduceLeDiff, Nat.reduceEqDiff, Nat.reduceAdd, Nat.reduceMul, Nat.reduceSub, Nat.reduceBEq, Int.reduceLT, Int.reduceLE, Int.reduceEq, Int.reduceBEq, Int.reduceNeg]
      intro hlt
      · have hil : i < l.length := by omega
        obtain ⟨z, hx⟩ : ∃ z, l[i]? = some z := ⟨_, List.getElem?_eq_getElem hil⟩
        have hw := wrapS hil (by omega)
        have hzr := hall z (List.mem_of_getElem? hx)
        have hbi := hbest i z hil hx
        repeat' (first | with_reducible apply And.intro | with_reducible intro _ | with_reducible exact drawn (by kernel_rfl) | (refine callP (check_ok _) ?_; simp -dsimp -implicitDefEqProofs only [hx, hy, forall_eq', hw, go_sem, ↓reduceIte, reduceCtorEq, Nat.reduceLT, Nat.reduceLeDiff, Nat.reduceEqDiff, Nat.reduceAdd, Nat.reduceMul, Nat.reduceSub, Nat.reduceBEq, Int.reduceLT, Int.reduceLE, Int.reduceEq, Int.reduceBEq, Int.reduceNeg]) | (refine callP (zcheck_ok _ _ hzr) ?_; simp -dsimp -implicitDefEqProofs only [hx, hy, forall_eq', hw, go_sem, ↓reduceIte, reduceCtorEq, Nat.reduceLT, Nat.reduceLeDiff, Nat.reduceEqDiff, Nat.reduceAdd, Nat.reduceMul, Nat.reduceSub, Nat.reduceBEq, Int.reduceLT, Int.reduceLE, Int.reduceEq, Int.reduceBEq, Int.reduceNeg]) | (refine callP (under_ok _ _) ?_; simp -dsimp -implicitDefEqProofs only [hx, hy, forall_eq', hw, go_sem, ↓reduceIte, reduceCtorEq, Nat.reduceLT, Nat.reduceLeDiff, Nat.reduceEqDiff, Nat.reduceAdd, Nat.reduceMul, Nat.reduceSub, Nat.reduceBEq, Int.reduceLT, Int.reduceLE, Int.reduceEq, Int.reduceBEq, Int.reduceNeg]) | omega)
        all_goals first
          | (refine again ⟨i + 1, by omega⟩ (by simp; omega) ?_
             simp -dsimp -implicitDefEqProofs only [hw, go_sem, ↓reduceIte, reduceCtorEq, Nat.reduceLT, Nat.reduceLeDiff, Nat.reduceEqDiff, Nat.reduceAdd, Nat.reduceMul, Nat.reduceSub, Nat.reduceBEq, Int.reduceLT, Int.reduceLE, Int.reduceEq, Int.reduceBEq, Int.reduceNeg]
             done)
          | (exfalso
             have hkz : Knows n z := ⟨by assumption, by assumption⟩
             have hb2 := hbi hkz
             first
               | omega
               | (have e : z.A = y.A := by assumption
                  rw [e] at hb2
                  omega)
               | exact ‹¬ y.A = z.A› (near_law hky hkz hb2.1 (by simp [*])))
          | (exfalso
             have e : i = j := by omega
             subst e
             rw [hy] at hx
             cases hx
             simp_all [Knows]
             done)
          | trace_state
end Go.Proofs.YtfgejhlgenaniaaDoor
