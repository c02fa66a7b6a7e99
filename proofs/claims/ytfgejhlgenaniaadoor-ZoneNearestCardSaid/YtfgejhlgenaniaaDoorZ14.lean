/- The document's answer: Form, Ahead, alone, Check, New, place. -/
import Derived.Test.YtfgejhlgenaniaaDoorZ13
namespace Go.Proofs.YtfgejhlgenaniaaDoor
open Go.Eng
set_option linter.unusedSimpArgs false
set_option maxRecDepth 10000

theorem rname_ok (l : Bs) : Meets Tryd.prog 45 [(false, [vS l])] (rOne (vB (isName l))) := by
  refine meets Tryd.func45 rfl rfl Tryd.ntmps45 Tryd.results45 rfl ?_
  simp -dsimp -implicitDefEqProofs only [go_sem, ↓reduceIte, reduceCtorEq, Nat.reduceLT, Nat.reduceLeDiff, Nat.reduceEqDiff, Nat.reduceAdd, Nat.reduceMul, Nat.reduceSub, Nat.reduceBEq, Int.reduceLT, Int.reduceLE, Int.reduceEq, Int.reduceBEq, Int.reduceNeg]
  refine callP (rcheckN_ok l) ?_
  simp -dsimp -implicitDefEqProofs only [go_sem, ↓reduceIte, reduceCtorEq, Nat.reduceLT, Nat.reduceLeDiff, Nat.reduceEqDiff, Nat.reduceAdd, Nat.reduceMul, Nat.reduceSub, Nat.reduceBEq, Int.reduceLT, Int.reduceLE, Int.reduceEq, Int.reduceBEq, Int.reduceNeg]
  cases isName l <;> rfl
structure RpInv (l : Bs) where
  i : Nat
  le : i ≤ l.length
  ok : ∀ j c, j < i → l[j]? = some c → plainC c = true
theorem rplain_ok (l : Bs) : Meets Tryd.prog 80 [(false, [vS l])] (rOne (vB (plainB l))) := by
  by_cases h1 : l.length < 1
  · have h0 : (l.length : Int) < 1 := by omega
    have : plainB l = false := by unfold plainB; rw [show decide (0 < l.length) = false from decide_eq_false (by omega)]; simp
    refine meets Tryd.func80 rfl rfl Tryd.ntmps80 Tryd.results80 rfl ?_
    simp -dsimp -implicitDefEqProofs only [h0, this, go_sem, ↓reduceIte, reduceCtorEq, Nat.reduceLT, Nat.reduceLeDiff, Nat.reduceEqDiff, Nat.reduceAdd, Nat.reduceMul, Nat.reduceSub, Nat.reduceBEq, Int.reduceLT, Int.reduceLE, Int.reduceEq, Int.reduceBEq, Int.reduceNeg]
  by_cases h2 : 64 < l.length
  · have h0 : ¬ (l.length : Int) < 1 := by omega
    have h3 : (64 : Int) < (l.length : Int) := by omega
    have : plainB l = false := by unfold plainB; rw [show decide (l.length ≤ 64) = false from decide_eq_false (by omega)]; simp
    refine meets Tryd.func80 rfl rfl Tryd.ntmps80 Tryd.results80 rfl ?_
    simp -dsimp -implicitDefEqProofs only [h0, h3, this, go_sem, ↓reduceIte, reduceCtorEq, Nat.reduceLT, Nat.reduceLeDiff, Nat.reduceEqDiff, Nat.reduceAdd, Nat.reduceMul, Nat.reduceSub, Nat.reduceBEq, Int.reduceLT, Int.reduceLE, Int.reduceEq, Int.reduceBEq, Int.reduceNeg]
  have h0 : ¬ (l.length : Int) < 1 := by omega
  have h3 : ¬ (64 : Int) < (l.length : Int) := by omega
  have hp : plainB l = l.all plainC := by
    unfold plainB; rw [show decide (0 < l.length) = true from decide_eq_true (by omega), show decide (l.length ≤ 64) = true from decide_eq_true (by omega)]; simp
  rw [hp]
  refine meets Tryd.func80 rfl rfl Tryd.ntmps80 Tryd.results80 rfl ?_
  simp -dsimp -implicitDefEqProofs only [h0, h3, go_sem, ↓reduceIte, reduceCtorEq, Nat.reduceLT, Nat.reduceLeDiff, Nat.reduceEqDiff, Nat.reduceAdd, Nat.reduceMul, Nat.reduceSub, Nat.reduceBEq, Int.reduceLT, Int.reduceLE, Int.reduceEq, Int.reduceBEq, Int.reduceNeg]
  refine vfor sitOk (ι := RpInv l) (fun v => ⟨28, [(3, aI v.i), (0, aS l)], [], 80⟩) (fun v => l.length - v.i) ⟨0, by omega, fun j c hj => by omega⟩ ?_ ?_
  · simp -dsimp -implicitDefEqProofs only [go_sem, ↓reduceIte, reduceCtorEq, Nat.reduceLT, Nat.reduceLeDiff, Nat.reduceEqDiff, Nat.reduceAdd, Nat.reduceMul, Nat.reduceSub, Nat.reduceBEq, Int.reduceLT, Int.reduceLE, Int.reduceEq, Int.reduceBEq, Int.reduceNeg]
  intro ⟨i, hi, hok⟩
  simp -dsimp -implicitDefEqProofs only [go_sem, ↓reduceIte, reduceCtorEq, Nat.reduceLT, Nat.reduceLeDiff, Nat.reduceEqDiff, Nat.reduceAdd, Nat.reduceMul, Nat.reduceSub, Nat.reduceBEq, Int.reduceLT, Int.reduceLE, Int.reduceEq, Int.reduceBEq, Int.reduceNeg]
  refine ⟨fun hlt => ?_, fun hge => ?_⟩
  · have hil : i < l.length := by omega
    obtain ⟨c, hc⟩ : ∃ c, l[i]? = some c := ⟨_, List.getElem?_eq_getElem hil⟩
    have hw := wrapS hil (by omega)
    simp -dsimp -implicitDefEqProofs only [hc, forall_eq', hw, go_sem, ↓reduceIte, reduceCtorEq, Nat.reduceLT, Nat.reduceLeDiff, Nat.reduceEqDiff, Nat.reduceAdd, Nat.reduceMul, Nat.reduceSub, Nat.reduceBEq, Int.reduceLT, Int.reduceLE, Int.reduceEq, Int.reduceBEq, Int.reduceNeg]
    repeat' (first | with_reducible apply And.intro | with_reducible intro _ | with_reducible exact drawn (by kernel_rfl) | omega)
    all_goals first
      | omega
      | (rw [all_bad hc (by simp [plainC]; omega)]; done)
      | (refine again ⟨i + 1, by omega, fun j x hj hx => by
          by_cases hji : j = i
          · subst hji; rw [hc] at hx; cases hx; simp [plainC]; omega
          · exact hok j x (by omega) hx⟩ (by simp; omega) ?_
         simp -dsimp -implicitDefEqProofs only [go_sem, ↓reduceIte, reduceCtorEq, Nat.reduceLT, Nat.reduceLeDiff, Nat.reduceEqDiff, Nat.reduceAdd, Nat.reduceMul, Nat.reduceSub, Nat.reduceBEq, Int.reduceLT, Int.reduceLE, Int.reduceEq, Int.reduceBEq, Int.reduceNeg])
  · exact (all_get fun j c hj hc => hok j c (by omega) hc).symm
theorem rform_ok (r : Rec) : Meets Tryd.prog 59 [r.arg] (rOne (vB (formB r))) := by
  refine meets Tryd.func59 rfl rfl Tryd.ntmps59 Tryd.results59 rfl ?_
  simp -dsimp -implicitDefEqProofs only [go_sem, ↓reduceIte, reduceCtorEq, Nat.reduceLT, Nat.reduceLeDiff, Nat.reduceEqDiff, Nat.reduceAdd, Nat.reduceMul, Nat.reduceSub, Nat.reduceBEq, Int.reduceLT, Int.reduceLE, Int.reduceEq, Int.reduceBEq, Int.reduceNeg]
  refine callP (rname_ok _) ?_
  cases hn : isName r.N with
  | false =>
    have : formB r = false := by simp [formB, hn]
    simp -dsimp -implicitDefEqProofs only [hn, this, go_sem, ↓reduceIte, reduceCtorEq, Nat.reduceLT, Nat.reduceLeDiff, Nat.reduceEqDiff, Nat.reduceAdd, Nat.reduceMul, Nat.reduceSub, Nat.reduceBEq, Int.reduceLT, Int.reduceLE, Int.reduceEq, Int.reduceBEq, Int.reduceNeg]
  | true =>
  by_cases hL : 1 ≤ r.L ∧ r.L ≤ 1000
  · have h1 : ¬ r.L < 1 := by omega
    have h2 : ¬ 1000 < r.L := by omega
    have hf : formB r = fitsB r.K r.V := by
      unfold formB
      rw [hn, show decide (1 ≤ r.L) = true from decide_eq_true (by omega), show decide (r.L ≤ 1000) = true from decide_eq_true (by omega)]; simp
    rw [hf]
    obtain ⟨N, K, V, L⟩ := r
    simp only at hn h1 h2
    by_cases hv : V.length = 1
    · match V, hv with
      | [c], _ =>
        simp -dsimp -implicitDefEqProofs only [hn, h1, h2, go_sem, ↓reduceIte, reduceCtorEq, Nat.reduceLT, Nat.reduceLeDiff, Nat.reduceEqDiff, Nat.reduceAdd, Nat.reduceMul, Nat.reduceSub, Nat.reduceBEq, Int.reduceLT, Int.reduceLE, Int.reduceEq, Int.reduceBEq, Int.reduceNeg]
        repeat' (first | with_reducible apply And.intro | with_reducible intro _ | with_reducible exact drawn (by kernel_rfl) | (refine callP (rplain_ok _) ?_; simp -dsimp -implicitDefEqProofs only [go_sem, ↓reduceIte, reduceCtorEq, Nat.reduceLT, Nat.reduceLeDiff, Nat.reduceEqDiff, Nat.reduceAdd, Nat.reduceMul, Nat.reduceSub, Nat.reduceBEq, Int.reduceLT, Int.reduceLE, Int.reduceEq, Int.reduceBEq, Int.reduceNeg]) | (refine callP (rname_ok _) ?_; simp -dsimp -implicitDefEqProofs only [go_sem, ↓reduceIte, reduceCtorEq, Nat.reduceLT, Nat.reduceLeDiff, Nat.reduceEqDiff, Nat.reduceAdd, Nat.reduceMul, Nat.reduceSub, Nat.reduceBEq, Int.reduceLT, Int.reduceLE, Int.reduceEq, Int.reduceBEq, Int.reduceNeg]) | omega)
        all_goals first
          | (simp [fitsB, *]; done)
          | (simp [fitsB, digitB, *]; done)
          | (rw [show fitsB K [c] = digitB [c] from by unfold fitsB; rw [if_neg (by omega), if_pos (by assumption)]]
             rw [show digitB [c] = (decide (48 ≤ c.toNat) && decide (c.toNat ≤ 55)) from rfl, show decide (48 ≤ c.toNat) = true from decide_eq_true (by omega), Bool.true_and, decide_eq_decide]; omega)
          | (rw [show fitsB K [c] = digitB [c] from by unfold fitsB; rw [if_neg (by omega), if_pos (by assumption)]]
             rw [show digitB [c] = (decide (48 ≤ c.toNat) && decide (c.toNat ≤ 55)) from rfl, show decide (48 ≤ c.toNat) = false from decide_eq_false (by omega), Bool.false_and])
          | trace_state
    · have hv1 : ¬ (V.length : Int) = 1 := by omega
      have hdl := digitB_len hv1
      simp -dsimp -implicitDefEqProofs only [hn, h1, h2, hv1, go_sem, ↓reduceIte, reduceCtorEq, Nat.reduceLT, Nat.reduceLeDiff, Nat.reduceEqDiff, Nat.reduceAdd, Nat.reduceMul, Nat.reduceSub, Nat.reduceBEq, Int.reduceLT, Int.reduceLE, Int.reduceEq, Int.reduceBEq, Int.reduceNeg]
      repeat' (first | with_reducible apply And.intro | with_reducible intro _ | with_reducible exact drawn (by kernel_rfl) | (refine callP (rplain_ok _) ?_; simp -dsimp -implicitDefEqProofs only [go_sem, ↓reduceIte, reduceCtorEq, Nat.reduceLT, Nat.reduceLeDiff, Nat.reduceEqDiff, Nat.reduceAdd, Nat.reduceMul, Nat.reduceSub, Nat.reduceBEq, Int.reduceLT, Int.reduceLE, Int.reduceEq, Int.reduceBEq, Int.reduceNeg]) | (refine callP (rname_ok _) ?_; simp -dsimp -implicitDefEqProofs only [go_sem, ↓reduceIte, reduceCtorEq, Nat.reduceLT, Nat.reduceLeDiff, Nat.reduceEqDiff, Nat.reduceAdd, Nat.reduceMul, Nat.reduceSub, Nat.reduceBEq, Int.reduceLT, Int.reduceLE, Int.reduceEq, Int.reduceBEq, Int.reduceNeg]) | omega)
      all_goals first
        | (simp [fitsB, *]; done)
        | trace_state
  · have hf : formB r = false := by
      unfold formB
      by_cases h : 1 ≤ r.L
      · rw [show decide (r.L ≤ 1000) = false from decide_eq_false (by omega)]; simp
      · rw [show decide (1 ≤ r.L) = false from decide_eq_false (by omega)]; simp
    rw [hf]
    simp -dsimp -implicitDefEqProofs only [hn, go_sem, ↓reduceIte, reduceCtorEq, Nat.reduceLT, Nat.reduceLeDiff, Nat.reduceEqDiff, Nat.reduceAdd, Nat.reduceMul, Nat.reduceSub, Nat.reduceBEq, Int.reduceLT, Int.reduceLE, Int.reduceEq, Int.reduceBEq, Int.reduceNeg]
    repeat' (first | with_reducible apply And.intro | with_reducible intro _ | with_reducible exact drawn (by kernel_rfl) | omega)
    all_goals (exfalso; omega)

def aheadB (a b : Rec) : Bool := decide (Ah a b)
theorem rahead_ok (a b : Rec) : Meets Tryd.prog 63 [a.arg, b.arg] (rOne (vB (aheadB a b))) := by
  refine meets Tryd.func63 rfl rfl Tryd.ntmps63 Tryd.results63 rfl ?_
  simp -dsimp -implicitDefEqProofs only [go_sem, ↓reduceIte, reduceCtorEq, Nat.reduceLT, Nat.reduceLeDiff, Nat.reduceEqDiff, Nat.reduceAdd, Nat.reduceMul, Nat.reduceSub, Nat.reduceBEq, Int.reduceLT, Int.reduceLE, Int.reduceEq, Int.reduceBEq, Int.reduceNeg]
  refine ⟨fun h1 => ?_, fun h1 => ⟨fun h2 => ?_, fun h2 => ?_⟩⟩
  all_goals (unfold aheadB; rw [decide_eq_decide]; unfold Ah; simp [h1, lt_irr])
  · simp [h2]
  · simp [h2]
end Go.Proofs.YtfgejhlgenaniaaDoor
