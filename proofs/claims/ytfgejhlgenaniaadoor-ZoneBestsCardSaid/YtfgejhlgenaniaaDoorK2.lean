/- ZoneBests: the law's contract. -/
import Derived.Test.YtfgejhlgenaniaaDoorZ20
namespace Go.Proofs.YtfgejhlgenaniaaDoor
open Go.Eng
set_option linter.unusedSimpArgs false
set_option maxRecDepth 10000

structure BsInv9 (l : List Zn) where
  i : Nat
  le : i ≤ l.length
  le9 : i ≤ 9
  ok : ∀ j z, j < i → l[j]? = some z → z.R.length ≤ 70
theorem bests_ok (l : List Zn) (n : Bs) : Meets Tryd.prog 4 [(false, [vD (zonesD l)]), (false, [vS n])] (rOne (vB true)) := by
  refine meets Tryd.func4 rfl rfl Tryd.ntmps4 Tryd.results4 rfl ?_
  simp -dsimp -implicitDefEqProofs only [go_sem, ↓reduceIte, reduceCtorEq, Nat.reduceLT, Nat.reduceLeDiff, Nat.reduceEqDiff, Nat.reduceAdd, Nat.reduceMul, Nat.reduceSub, Nat.reduceBEq, Int.reduceLT, Int.reduceLE, Int.reduceEq, Int.reduceBEq, Int.reduceNeg]
  refine callP live_ok ?_
  simp -dsimp -implicitDefEqProofs only [go_sem, ↓reduceIte, reduceCtorEq, Nat.reduceLT, Nat.reduceLeDiff, Nat.reduceEqDiff, Nat.reduceAdd, Nat.reduceMul, Nat.reduceSub, Nat.reduceBEq, Int.reduceLT, Int.reduceLE, Int.reduceEq, Int.reduceBEq, Int.reduceNeg]
  refine vfor sitOk (ι := BsInv9 l) (fun v => ⟨56, [(5, aI v.i), (0, aD (zonesD l)), (1, aS n)], [], 32⟩) (fun v => l.length - v.i) ⟨0, by omega, by omega, fun j z hj => by omega⟩ ?_ ?_
  · simp -dsimp -implicitDefEqProofs only [go_sem, ↓reduceIte, reduceCtorEq, Nat.reduceLT, Nat.reduceLeDiff, Nat.reduceEqDiff, Nat.reduceAdd, Nat.reduceMul, Nat.reduceSub, Nat.reduceBEq, Int.reduceLT, Int.reduceLE, Int.reduceEq, Int.reduceBEq, Int.reduceNeg]
  intro ⟨i, hi, hi9, hok⟩
  simp -dsimp -implicitDefEqProofs only [go_sem, ↓reduceIte, reduceCtorEq, Nat.reduceLT, Nat.reduceLeDiff, Nat.reduceEqDiff, Nat.reduceAdd, Nat.reduceMul, Nat.reduceSub, Nat.reduceBEq, Int.reduceLT, Int.reduceLE, Int.reduceEq, Int.reduceBEq, Int.reduceNeg]
  refine ⟨fun hlt => ⟨fun h9 => ?_, fun h9 => ?_⟩, fun hge => ?_⟩
  · have hil : i < l.length := by omega
    obtain ⟨z, hx⟩ : ∃ z, l[i]? = some z := ⟨_, List.getElem?_eq_getElem hil⟩
    have hw : IntKind.i64.wrap ((i : Int) + 1) = ((i + 1 : Nat) : Int) := by rw [wrap64] <;> omega
    simp -dsimp -implicitDefEqProofs only [hx, forall_eq', hw, go_sem, ↓reduceIte, reduceCtorEq, Nat.reduceLT, Nat.reduceLeDiff, Nat.reduceEqDiff, Nat.reduceAdd, Nat.reduceMul, Nat.reduceSub, Nat.reduceBEq, Int.reduceLT, Int.reduceLE, Int.reduceEq, Int.reduceBEq, Int.reduceNeg]
    refine ⟨by omega, hil, callP (few_ok z.A z.R) ?_⟩
    simp -dsimp -implicitDefEqProofs only [hw, go_sem, ↓reduceIte, reduceCtorEq, Nat.reduceLT, Nat.reduceLeDiff, Nat.reduceEqDiff, Nat.reduceAdd, Nat.reduceMul, Nat.reduceSub, Nat.reduceBEq, Int.reduceLT, Int.reduceLE, Int.reduceEq, Int.reduceBEq, Int.reduceNeg]
    intro hf
    refine again ⟨i + 1, by omega, by omega, fun j y hj hy => by
      by_cases hji : j = i
      · subst hji; rw [hx] at hy; cases hy; exact hf.1
      · exact hok j y (by omega) hy⟩ (by simp; omega) ?_
    simp -dsimp -implicitDefEqProofs only [go_sem, ↓reduceIte, reduceCtorEq, Nat.reduceLT, Nat.reduceLeDiff, Nat.reduceEqDiff, Nat.reduceAdd, Nat.reduceMul, Nat.reduceSub, Nat.reduceBEq, Int.reduceLT, Int.reduceLE, Int.reduceEq, Int.reduceBEq, Int.reduceNeg]
  · repeat' (first | with_reducible apply And.intro | with_reducible intro _ | with_reducible exact drawn (by kernel_rfl) | omega)
    all_goals (exfalso; omega)
  · repeat' (first | with_reducible apply And.intro | with_reducible intro _ | with_reducible exact drawn (by kernel_rfl) | omega)
    have hall : ∀ z ∈ l, z.R.length ≤ 1000000 := fun z hz => by
      obtain ⟨j, hj⟩ := List.mem_iff_getElem?.1 hz
      have := hok j z (by have := (List.getElem?_eq_some_iff.1 hj).1; omega) hj
      omega
    refine callP (best_ok l n (by omega) hall) ?_
    simp -dsimp -implicitDefEqProofs only [go_sem, ↓reduceIte, reduceCtorEq, Nat.reduceLT, Nat.reduceLeDiff, Nat.reduceEqDiff, Nat.reduceAdd, Nat.reduceMul, Nat.reduceSub, Nat.reduceBEq, Int.reduceLT, Int.reduceLE, Int.reduceEq, Int.reduceBEq, Int.reduceNeg]
    refine callP (rbest_ok l n (by omega) hall) ?_
    simp -dsimp -implicitDefEqProofs only [go_sem, ↓reduceIte, reduceCtorEq, Nat.reduceLT, Nat.reduceLeDiff, Nat.reduceEqDiff, Nat.reduceAdd, Nat.reduceMul, Nat.reduceSub, Nat.reduceBEq, Int.reduceLT, Int.reduceLE, Int.reduceEq, Int.reduceBEq, Int.reduceNeg]
end Go.Proofs.YtfgejhlgenaniaaDoor
