/- The chapter's example; has, fewRec. -/
import Derived.Test.YtfgejhlgenaniaaDoorZ18
namespace Go.Proofs.YtfgejhlgenaniaaDoor
open Go.Eng
set_option linter.unusedSimpArgs false
set_option maxRecDepth 100000

def sAB : Bs := [97, 46, 98]
def sDAB : Bs := [100, 46, 97, 46, 98]
def sCAB : Bs := [99, 46, 97, 46, 98]
def sEAB : Bs := [101, 46, 97, 46, 98]
def sXDAB : Bs := [120, 46, 100, 46, 97, 46, 98]
def sZB : Bs := [122, 46, 98]
def exR1 : Rec := ⟨sDAB, 3, [51], 5⟩
def exR2 : Rec := ⟨sCAB, 1, [104, 101, 108, 108, 111], 9⟩
def exZ : List Rec := [exR2, exR1]
def exR3 : Rec := ⟨sCAB, 4, [120, 46, 121], 1⟩
def exR4 : Rec := ⟨sZB, 1, [118], 1⟩
theorem ex_c0 : checkV sAB [] = 0 := by kernel_rfl
theorem ex_c1 : checkV sAB [exR1] = 0 := by kernel_rfl
theorem ex_c2 : checkV sAB exZ = 0 := by kernel_rfl
theorem rises_nil : Rises [] := fun i j x y _ hx _ => by simp at hx
theorem rises_one (r : Rec) : Rises [r] := rises_cons.2 ⟨rises_nil, by simp⟩
theorem ex_l1 : putL [] exR1 = [exR1] := by rw [putL_eq rises_nil]; kernel_rfl
theorem ex_l2 : putL [exR1] exR2 = exZ := by rw [putL_eq (rises_one _)]; kernel_rfl
theorem ex_rise : Rises exZ := (check_zero.1 ex_c2).1.rise
theorem ex_l3 : putL exZ exR3 = [exR2, exR3, exR1] := by rw [putL_eq ex_rise]; kernel_rfl
theorem ex_e1 : putE sAB [] exR1 = 0 := by unfold putE; rw [ex_c0, ex_l1]; kernel_rfl
theorem ex_e2 : putE sAB [exR1] exR2 = 0 := by unfold putE; rw [ex_c1, ex_l2]; kernel_rfl
theorem ex_e3 : putE sAB exZ exR3 = 120 := by unfold putE; rw [ex_c2, ex_l3]; kernel_rfl
theorem ex_e4 : putE sAB exZ exR4 = 120 := by unfold putE; rw [ex_c2, if_pos rfl, if_pos (by kernel_rfl), if_neg (by rw [show underB (Rec.N exR4) sAB = false from by kernel_rfl]; simp)]
theorem ex_a1 : askE sAB exZ sXDAB 1 = 0 ∧ askW sAB exZ sXDAB 1 = ⟨4, [exR1], 3, []⟩ := ⟨by kernel_rfl, by kernel_rfl⟩
theorem ex_a2 : askE sAB exZ sZB 1 = 120 := by kernel_rfl
theorem ex_a3 : askE sAB exZ sCAB 1 = 0 ∧ askW sAB exZ sCAB 1 = ⟨1, [exR2], 0, []⟩ := ⟨by kernel_rfl, by kernel_rfl⟩
theorem ex_a4 : askE sAB exZ sCAB 5 = 0 ∧ askW sAB exZ sCAB 5 = ⟨2, [], 0, []⟩ := ⟨by kernel_rfl, by kernel_rfl⟩
theorem ex_a5 : askE sAB exZ sAB 1 = 0 ∧ askW sAB exZ sAB 1 = ⟨2, [], 0, []⟩ := ⟨by kernel_rfl, by kernel_rfl⟩
theorem ex_a6 : askE sAB exZ sEAB 1 = 0 ∧ askW sAB exZ sEAB 1 = ⟨3, [], 0, []⟩ := ⟨by kernel_rfl, by kernel_rfl⟩
theorem ex_b : bestV [⟨[98], []⟩, ⟨sAB, exZ⟩, ⟨[], []⟩] sCAB = some 1 := by kernel_rfl
theorem ex_u : checkV [65] [] = 1 := by kernel_rfl

theorem kind_ok (a : Bs) (l : List Rec) (n : Bs) (k : Int) (hl : l.length ≤ 1000000) : Meets Tryd.prog 33 [zoneA a l, (false, [vS n]), (false, [vI k])] (rOne (vI (if askE a l n k = 0 then (askW a l n k).K else 0))) := by
  refine meets Tryd.func33 rfl rfl Tryd.ntmps33 Tryd.results33 rfl ?_
  simp -dsimp -implicitDefEqProofs only [go_sem, ↓reduceIte, reduceCtorEq, Nat.reduceLT, Nat.reduceLeDiff, Nat.reduceEqDiff, Nat.reduceAdd, Nat.reduceMul, Nat.reduceSub, Nat.reduceBEq, Int.reduceLT, Int.reduceLE, Int.reduceEq, Int.reduceBEq, Int.reduceNeg]
  refine callP (ask_ok a l n k hl) ?_
  simp -dsimp -implicitDefEqProofs only [go_sem, ↓reduceIte, reduceCtorEq, Nat.reduceLT, Nat.reduceLeDiff, Nat.reduceEqDiff, Nat.reduceAdd, Nat.reduceMul, Nat.reduceSub, Nat.reduceBEq, Int.reduceLT, Int.reduceLE, Int.reduceEq, Int.reduceBEq, Int.reduceNeg]
  unfold askV
  refine ⟨fun h => by rw [if_neg h], fun h => by rw [if_pos h, if_pos h]⟩
theorem example_ok : Meets Tryd.prog 32 [] (rTup [zoneO sAB exZ, (false, [vB true])]) := by
  have p1 := put_ok sAB [] exR1 (by simp)
  have p2 := put_ok sAB [exR1] exR2 (by simp)
  unfold putA putR at p1 p2
  rw [ex_e1, ex_l1, if_pos rfl, if_pos rfl] at p1
  rw [ex_e2, ex_l2, if_pos rfl, if_pos rfl] at p2
  have n1 := new_ok sAB
  rw [show apexB sAB = true from by kernel_rfl, if_pos rfl, if_pos rfl] at n1
  refine meets Tryd.func32 rfl rfl Tryd.ntmps32 Tryd.results32 rfl ?_
  simp -dsimp -implicitDefEqProofs only [go_sem, ↓reduceIte, reduceCtorEq, Nat.reduceLT, Nat.reduceLeDiff, Nat.reduceEqDiff, Nat.reduceAdd, Nat.reduceMul, Nat.reduceSub, Nat.reduceBEq, Int.reduceLT, Int.reduceLE, Int.reduceEq, Int.reduceBEq, Int.reduceNeg]
  refine callP n1 ?_
  simp -dsimp -implicitDefEqProofs only [go_sem, ↓reduceIte, reduceCtorEq, Nat.reduceLT, Nat.reduceLeDiff, Nat.reduceEqDiff, Nat.reduceAdd, Nat.reduceMul, Nat.reduceSub, Nat.reduceBEq, Int.reduceLT, Int.reduceLE, Int.reduceEq, Int.reduceBEq, Int.reduceNeg]
  refine callP p1 ?_
  simp -dsimp -implicitDefEqProofs only [go_sem, ↓reduceIte, reduceCtorEq, Nat.reduceLT, Nat.reduceLeDiff, Nat.reduceEqDiff, Nat.reduceAdd, Nat.reduceMul, Nat.reduceSub, Nat.reduceBEq, Int.reduceLT, Int.reduceLE, Int.reduceEq, Int.reduceBEq, Int.reduceNeg]
  refine callP p2 ?_
  simp -dsimp -implicitDefEqProofs only [go_sem, ↓reduceIte, reduceCtorEq, Nat.reduceLT, Nat.reduceLeDiff, Nat.reduceEqDiff, Nat.reduceAdd, Nat.reduceMul, Nat.reduceSub, Nat.reduceBEq, Int.reduceLT, Int.reduceLE, Int.reduceEq, Int.reduceBEq, Int.reduceNeg]
  exact ⟨drawn (by kernel_rfl), rfl⟩
theorem live_ok : Meets Tryd.prog 12 [] (rOne (vB true)) := by
  have hz : exZ.length = 2 := rfl
  have a1 := ask_ok sAB exZ sXDAB 1 (by simp [hz])
  unfold askV at a1
  rw [ex_a1.1, ex_a1.2, if_pos rfl] at a1
  have a2 := ask_ok sAB exZ sZB 1 (by simp [hz])
  unfold askV at a2
  rw [ex_a2, if_neg (by decide)] at a2
  have p3 := put_ok sAB exZ exR3 (by simp [hz])
  unfold putA putR at p3
  rw [ex_e3, if_neg (by decide), if_neg (by decide)] at p3
  have p4 := put_ok sAB exZ exR4 (by simp [hz])
  unfold putA putR at p4
  rw [ex_e4, if_neg (by decide), if_neg (by decide)] at p4
  have b1 := best_ok [⟨[98], []⟩, ⟨sAB, exZ⟩, ⟨[], []⟩] sCAB (by simp) (by simp [hz])
  rw [ex_b] at b1
  replace b1 : Meets Tryd.prog 17 [(false, [vD (zonesD [⟨[98], []⟩, ⟨sAB, exZ⟩, ⟨[], []⟩])]), (false, [vS sCAB])] (rTup [(false, [vI 1]), (false, [vB true])]) := b1
  have k1 := kind_ok sAB exZ sCAB 1 (by simp [hz])
  rw [ex_a3.1, ex_a3.2, if_pos rfl] at k1
  have k2 := kind_ok sAB exZ sCAB 5 (by simp [hz])
  rw [ex_a4.1, ex_a4.2, if_pos rfl] at k2
  have k3 := kind_ok sAB exZ sAB 1 (by simp [hz])
  rw [ex_a5.1, ex_a5.2, if_pos rfl] at k3
  have k4 := kind_ok sAB exZ sEAB 1 (by simp [hz])
  rw [ex_a6.1, ex_a6.2, if_pos rfl] at k4
  have c1 := zcheck_ok sAB exZ (by simp [hz])
  rw [ex_c2] at c1
  have c2 := zcheck_ok [65] [] (by simp)
  rw [ex_u] at c2
  refine meets Tryd.func12 rfl rfl Tryd.ntmps12 Tryd.results12 rfl ?_
  simp -dsimp -implicitDefEqProofs only [go_sem, ↓reduceIte, reduceCtorEq, Nat.reduceLT, Nat.reduceLeDiff, Nat.reduceEqDiff, Nat.reduceAdd, Nat.reduceMul, Nat.reduceSub, Nat.reduceBEq, Int.reduceLT, Int.reduceLE, Int.reduceEq, Int.reduceBEq, Int.reduceNeg]
  refine callP example_ok ?_
  simp -dsimp -implicitDefEqProofs only [go_sem, ↓reduceIte, reduceCtorEq, Nat.reduceLT, Nat.reduceLeDiff, Nat.reduceEqDiff, Nat.reduceAdd, Nat.reduceMul, Nat.reduceSub, Nat.reduceBEq, Int.reduceLT, Int.reduceLE, Int.reduceEq, Int.reduceBEq, Int.reduceNeg]
  refine callP a1 ?_
  simp -dsimp -implicitDefEqProofs only [go_sem, ↓reduceIte, reduceCtorEq, Nat.reduceLT, Nat.reduceLeDiff, Nat.reduceEqDiff, Nat.reduceAdd, Nat.reduceMul, Nat.reduceSub, Nat.reduceBEq, Int.reduceLT, Int.reduceLE, Int.reduceEq, Int.reduceBEq, Int.reduceNeg]
  refine callP a2 ?_
  simp -dsimp -implicitDefEqProofs only [go_sem, ↓reduceIte, reduceCtorEq, Nat.reduceLT, Nat.reduceLeDiff, Nat.reduceEqDiff, Nat.reduceAdd, Nat.reduceMul, Nat.reduceSub, Nat.reduceBEq, Int.reduceLT, Int.reduceLE, Int.reduceEq, Int.reduceBEq, Int.reduceNeg]
  refine callP p3 ?_
  simp -dsimp -implicitDefEqProofs only [go_sem, ↓reduceIte, reduceCtorEq, Nat.reduceLT, Nat.reduceLeDiff, Nat.reduceEqDiff, Nat.reduceAdd, Nat.reduceMul, Nat.reduceSub, Nat.reduceBEq, Int.reduceLT, Int.reduceLE, Int.reduceEq, Int.reduceBEq, Int.reduceNeg]
  refine callP p4 ?_
  simp -dsimp -implicitDefEqProofs only [go_sem, ↓reduceIte, reduceCtorEq, Nat.reduceLT, Nat.reduceLeDiff, Nat.reduceEqDiff, Nat.reduceAdd, Nat.reduceMul, Nat.reduceSub, Nat.reduceBEq, Int.reduceLT, Int.reduceLE, Int.reduceEq, Int.reduceBEq, Int.reduceNeg]
  refine callP b1 ?_
  simp -dsimp -implicitDefEqProofs only [go_sem, ↓reduceIte, reduceCtorEq, Nat.reduceLT, Nat.reduceLeDiff, Nat.reduceEqDiff, Nat.reduceAdd, Nat.reduceMul, Nat.reduceSub, Nat.reduceBEq, Int.reduceLT, Int.reduceLE, Int.reduceEq, Int.reduceBEq, Int.reduceNeg]
  refine callP k1 ?_
  simp -dsimp -implicitDefEqProofs only [go_sem, ↓reduceIte, reduceCtorEq, Nat.reduceLT, Nat.reduceLeDiff, Nat.reduceEqDiff, Nat.reduceAdd, Nat.reduceMul, Nat.reduceSub, Nat.reduceBEq, Int.reduceLT, Int.reduceLE, Int.reduceEq, Int.reduceBEq, Int.reduceNeg]
  refine callP k2 ?_
  simp -dsimp -implicitDefEqProofs only [go_sem, ↓reduceIte, reduceCtorEq, Nat.reduceLT, Nat.reduceLeDiff, Nat.reduceEqDiff, Nat.reduceAdd, Nat.reduceMul, Nat.reduceSub, Nat.reduceBEq, Int.reduceLT, Int.reduceLE, Int.reduceEq, Int.reduceBEq, Int.reduceNeg]
  refine callP k3 ?_
  simp -dsimp -implicitDefEqProofs only [go_sem, ↓reduceIte, reduceCtorEq, Nat.reduceLT, Nat.reduceLeDiff, Nat.reduceEqDiff, Nat.reduceAdd, Nat.reduceMul, Nat.reduceSub, Nat.reduceBEq, Int.reduceLT, Int.reduceLE, Int.reduceEq, Int.reduceBEq, Int.reduceNeg]
  refine callP k4 ?_
  simp -dsimp -implicitDefEqProofs only [go_sem, ↓reduceIte, reduceCtorEq, Nat.reduceLT, Nat.reduceLeDiff, Nat.reduceEqDiff, Nat.reduceAdd, Nat.reduceMul, Nat.reduceSub, Nat.reduceBEq, Int.reduceLT, Int.reduceLE, Int.reduceEq, Int.reduceBEq, Int.reduceNeg]
  refine callP c1 ?_
  simp -dsimp -implicitDefEqProofs only [go_sem, ↓reduceIte, reduceCtorEq, Nat.reduceLT, Nat.reduceLeDiff, Nat.reduceEqDiff, Nat.reduceAdd, Nat.reduceMul, Nat.reduceSub, Nat.reduceBEq, Int.reduceLT, Int.reduceLE, Int.reduceEq, Int.reduceBEq, Int.reduceNeg]
  refine callP c2 ?_
  simp -dsimp -implicitDefEqProofs only [go_sem, ↓reduceIte, reduceCtorEq, Nat.reduceLT, Nat.reduceLeDiff, Nat.reduceEqDiff, Nat.reduceAdd, Nat.reduceMul, Nat.reduceSub, Nat.reduceBEq, Int.reduceLT, Int.reduceLE, Int.reduceEq, Int.reduceBEq, Int.reduceNeg]
theorem fewRec_ok (r : Rec) : Meets Tryd.prog 21 [r.arg] (rOne (vB (decide (r.N.length ≤ 200 ∧ r.V.length ≤ 200)))) := by
  refine meets Tryd.func21 rfl rfl Tryd.ntmps21 Tryd.results21 rfl ?_
  simp -dsimp -implicitDefEqProofs only [go_sem, ↓reduceIte, reduceCtorEq, Nat.reduceLT, Nat.reduceLeDiff, Nat.reduceEqDiff, Nat.reduceAdd, Nat.reduceMul, Nat.reduceSub, Nat.reduceBEq, Int.reduceLT, Int.reduceLE, Int.reduceEq, Int.reduceBEq, Int.reduceNeg]
  repeat' (first | with_reducible apply And.intro | with_reducible intro _ | with_reducible exact drawn (by kernel_rfl) | omega)
  · rw [decide_eq_decide]; omega
  · rw [decide_eq_false (by omega)]
structure HsInv (l : List Rec) (r : Rec) where
  i : Nat
  le : i ≤ l.length
  no : ∀ j x, j < i → l[j]? = some x → ¬ x = r
theorem has_ok (l : List Rec) (r : Rec) (hl : l.length ≤ 1000000) : Meets Tryd.prog 20 [(false, [vD (recsD l)]), r.arg] (rOne (vB (decide (r ∈ l)))) := by
  refine meets Tryd.func20 rfl rfl Tryd.ntmps20 Tryd.results20 rfl ?_
  simp -dsimp -implicitDefEqProofs only [go_sem, ↓reduceIte, reduceCtorEq, Nat.reduceLT, Nat.reduceLeDiff, Nat.reduceEqDiff, Nat.reduceAdd, Nat.reduceMul, Nat.reduceSub, Nat.reduceBEq, Int.reduceLT, Int.reduceLE, Int.reduceEq, Int.reduceBEq, Int.reduceNeg]
  refine vfor sitOk (ι := HsInv l r) (fun v => ⟨18, [(5, aI v.i), (3, aP 0 0), (0, aD (recsD l))], [(0, some (.var [cS r.N, cI r.K, cS r.V, cI r.L] true))], 16⟩) (fun v => l.length - v.i) ⟨0, by omega, fun j x hj => by omega⟩ ?_ ?_
  · simp -dsimp -implicitDefEqProofs only [go_sem, ↓reduceIte, reduceCtorEq, Nat.reduceLT, Nat.reduceLeDiff, Nat.reduceEqDiff, Nat.reduceAdd, Nat.reduceMul, Nat.reduceSub, Nat.reduceBEq, Int.reduceLT, Int.reduceLE, Int.reduceEq, Int.reduceBEq, Int.reduceNeg]
  intro ⟨i, hi, hno⟩
  simp -dsimp -implicitDefEqProofs only [go_sem, ↓reduceIte, reduceCtorEq, Nat.reduceLT, Nat.reduceLeDiff, Nat.reduceEqDiff, Nat.reduceAdd, Nat.reduceMul, Nat.reduceSub, Nat.reduceBEq, Int.reduceLT, Int.reduceLE, Int.reduceEq, Int.reduceBEq, Int.reduceNeg]
  refine ⟨fun hlt => ?_, fun hge => ?_⟩
  · have hil : i < l.length := by omega
    obtain ⟨x, hx⟩ : ∃ x, l[i]? = some x := ⟨_, List.getElem?_eq_getElem hil⟩
    have hw := wrapS hil (by omega)
    simp -dsimp -implicitDefEqProofs only [hx, forall_eq', hw, go_sem, ↓reduceIte, reduceCtorEq, Nat.reduceLT, Nat.reduceLeDiff, Nat.reduceEqDiff, Nat.reduceAdd, Nat.reduceMul, Nat.reduceSub, Nat.reduceBEq, Int.reduceLT, Int.reduceLE, Int.reduceEq, Int.reduceBEq, Int.reduceNeg]
    repeat' (first | with_reducible apply And.intro | with_reducible intro _ | with_reducible exact drawn (by kernel_rfl) | omega)
    · rename_i h
      have e : x = r := by cases x; cases r; simp at h; obtain ⟨h1, h2, h3, h4⟩ := h; subst h1; subst h2; subst h3; subst h4; rfl
      exact (decide_eq_true (e ▸ List.mem_of_getElem? hx)).symm
    · rename_i h
      refine again ⟨i + 1, by omega, fun j y hj hy => by
        by_cases hji : j = i
        · subst hji; rw [hx] at hy; cases hy; intro e; subst e; simp at h
        · exact hno j y (by omega) hy⟩ (by simp; omega) ?_
      simp -dsimp -implicitDefEqProofs only [hw, go_sem, ↓reduceIte, reduceCtorEq, Nat.reduceLT, Nat.reduceLeDiff, Nat.reduceEqDiff, Nat.reduceAdd, Nat.reduceMul, Nat.reduceSub, Nat.reduceBEq, Int.reduceLT, Int.reduceLE, Int.reduceEq, Int.reduceBEq, Int.reduceNeg]
  · symm
    refine decide_eq_false fun h => ?_
    obtain ⟨j, hj⟩ := List.mem_iff_getElem?.1 h
    exact hno j r (by have := (List.getElem?_eq_some_iff.1 hj).1; omega) hj rfl
end Go.Proofs.YtfgejhlgenaniaaDoor
