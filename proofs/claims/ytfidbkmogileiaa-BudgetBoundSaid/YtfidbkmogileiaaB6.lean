/- The chapter's example; what is handed in, as data. -/
import Derived.Test.YtfidbkmogileiaaB5
namespace Go.Proofs.Ytfidbkmogileiaa
open Go.Eng
set_option linter.unusedSimpArgs false
set_option maxRecDepth 10000

theorem live_ok : Meets Try.prog 11 [] (rOne (vB true)) := by
  have s1 := fun n al p k lf => Spend_ok [] ⟨n, al, p, k, lf, 2, 10⟩ 1 7 5 (by simp)
  simp only [show SpendV [] 2 10 1 7 5 = ([⟨7, 1, 5, 1⟩], 0) from by kernel_rfl] at s1
  have s2 := fun n al p k lf => Spend_ok [⟨7, 1, 5, 1⟩] ⟨n, al, p, k, lf, 2, 10⟩ 1 7 6 (by simp)
  simp only [show SpendV [⟨7, 1, 5, 1⟩] 2 10 1 7 6 = ([⟨7, 1, 5, 2⟩], 0) from by kernel_rfl] at s2
  have s3 := fun n al p k lf => Spend_ok [⟨7, 1, 5, 2⟩] ⟨n, al, p, k, lf, 2, 10⟩ 1 7 7 (by simp)
  simp only [show SpendV [⟨7, 1, 5, 2⟩] 2 10 1 7 7 = ([], 170) from by kernel_rfl] at s3
  have s4 := fun n al p k lf => Spend_ok [⟨7, 1, 5, 2⟩] ⟨n, al, p, k, lf, 2, 10⟩ 1 7 15 (by simp)
  simp only [show SpendV [⟨7, 1, 5, 2⟩] 2 10 1 7 15 = ([⟨7, 1, 15, 1⟩], 0) from by kernel_rfl] at s4
  have l1 := fun n al p k lf => Left_ok [] ⟨n, al, p, k, lf, 2, 10⟩ 1 7 5 (by simp)
  simp only [show LeftV [] 2 10 1 7 5 = 2 from by kernel_rfl] at l1
  have l2 := fun n al p k lf => Left_ok [⟨7, 1, 5, 1⟩] ⟨n, al, p, k, lf, 2, 10⟩ 1 7 6 (by simp)
  simp only [show LeftV [⟨7, 1, 5, 1⟩] 2 10 1 7 6 = 1 from by kernel_rfl] at l2
  have l3 := fun n al p k lf => Left_ok [⟨7, 1, 5, 2⟩] ⟨n, al, p, k, lf, 2, 10⟩ 1 7 7 (by simp)
  simp only [show LeftV [⟨7, 1, 5, 2⟩] 2 10 1 7 7 = 0 from by kernel_rfl] at l3
  have l4 := fun n al p k lf => Left_ok [⟨7, 1, 5, 2⟩] ⟨n, al, p, k, lf, 2, 10⟩ 1 7 15 (by simp)
  simp only [show LeftV [⟨7, 1, 5, 2⟩] 2 10 1 7 15 = 2 from by kernel_rfl] at l4
  have c1 := check_ok [⟨7, 1, 15, 1⟩] (by simp)
  rw [show checkV [⟨7, 1, 15, 1⟩] = 0 from by kernel_rfl] at c1
  have c2 := check_ok [⟨0, 0, 0, 0⟩] (by simp)
  rw [show checkV [⟨0, 0, 0, 0⟩] = 1 from by kernel_rfl] at c2
  refine meets Try.func11 rfl rfl Try.ntmps11 Try.results11 rfl ?_
  simp -dsimp -implicitDefEqProofs only [go_sem, ↓reduceIte, reduceCtorEq, Nat.reduceLT, Nat.reduceLeDiff, Nat.reduceEqDiff, Nat.reduceAdd, Nat.reduceMul, Nat.reduceSub, Nat.reduceBEq, Int.reduceLT, Int.reduceLE, Int.reduceEq, Int.reduceBEq, Int.reduceNeg]
  refine callP (s1 _ _ _ _ _) ?_
  simp -dsimp -implicitDefEqProofs only [go_sem, ↓reduceIte, reduceCtorEq, Nat.reduceLT, Nat.reduceLeDiff, Nat.reduceEqDiff, Nat.reduceAdd, Nat.reduceMul, Nat.reduceSub, Nat.reduceBEq, Int.reduceLT, Int.reduceLE, Int.reduceEq, Int.reduceBEq, Int.reduceNeg]
  refine callP (s2 _ _ _ _ _) ?_
  simp -dsimp -implicitDefEqProofs only [go_sem, ↓reduceIte, reduceCtorEq, Nat.reduceLT, Nat.reduceLeDiff, Nat.reduceEqDiff, Nat.reduceAdd, Nat.reduceMul, Nat.reduceSub, Nat.reduceBEq, Int.reduceLT, Int.reduceLE, Int.reduceEq, Int.reduceBEq, Int.reduceNeg]
  refine callP (s3 _ _ _ _ _) ?_
  simp -dsimp -implicitDefEqProofs only [go_sem, ↓reduceIte, reduceCtorEq, Nat.reduceLT, Nat.reduceLeDiff, Nat.reduceEqDiff, Nat.reduceAdd, Nat.reduceMul, Nat.reduceSub, Nat.reduceBEq, Int.reduceLT, Int.reduceLE, Int.reduceEq, Int.reduceBEq, Int.reduceNeg]
  refine callP (s4 _ _ _ _ _) ?_
  simp -dsimp -implicitDefEqProofs only [go_sem, ↓reduceIte, reduceCtorEq, Nat.reduceLT, Nat.reduceLeDiff, Nat.reduceEqDiff, Nat.reduceAdd, Nat.reduceMul, Nat.reduceSub, Nat.reduceBEq, Int.reduceLT, Int.reduceLE, Int.reduceEq, Int.reduceBEq, Int.reduceNeg]
  refine callP (l1 _ _ _ _ _) ?_
  simp -dsimp -implicitDefEqProofs only [go_sem, ↓reduceIte, reduceCtorEq, Nat.reduceLT, Nat.reduceLeDiff, Nat.reduceEqDiff, Nat.reduceAdd, Nat.reduceMul, Nat.reduceSub, Nat.reduceBEq, Int.reduceLT, Int.reduceLE, Int.reduceEq, Int.reduceBEq, Int.reduceNeg]
  refine callP (l2 _ _ _ _ _) ?_
  simp -dsimp -implicitDefEqProofs only [go_sem, ↓reduceIte, reduceCtorEq, Nat.reduceLT, Nat.reduceLeDiff, Nat.reduceEqDiff, Nat.reduceAdd, Nat.reduceMul, Nat.reduceSub, Nat.reduceBEq, Int.reduceLT, Int.reduceLE, Int.reduceEq, Int.reduceBEq, Int.reduceNeg]
  refine callP (l3 _ _ _ _ _) ?_
  simp -dsimp -implicitDefEqProofs only [go_sem, ↓reduceIte, reduceCtorEq, Nat.reduceLT, Nat.reduceLeDiff, Nat.reduceEqDiff, Nat.reduceAdd, Nat.reduceMul, Nat.reduceSub, Nat.reduceBEq, Int.reduceLT, Int.reduceLE, Int.reduceEq, Int.reduceBEq, Int.reduceNeg]
  refine callP (l4 _ _ _ _ _) ?_
  simp -dsimp -implicitDefEqProofs only [go_sem, ↓reduceIte, reduceCtorEq, Nat.reduceLT, Nat.reduceLeDiff, Nat.reduceEqDiff, Nat.reduceAdd, Nat.reduceMul, Nat.reduceSub, Nat.reduceBEq, Int.reduceLT, Int.reduceLE, Int.reduceEq, Int.reduceBEq, Int.reduceNeg]
  refine callP c1 ?_
  simp -dsimp -implicitDefEqProofs only [go_sem, ↓reduceIte, reduceCtorEq, Nat.reduceLT, Nat.reduceLeDiff, Nat.reduceEqDiff, Nat.reduceAdd, Nat.reduceMul, Nat.reduceSub, Nat.reduceBEq, Int.reduceLT, Int.reduceLE, Int.reduceEq, Int.reduceBEq, Int.reduceNeg]
  refine callP c2 ?_
  simp -dsimp -implicitDefEqProofs only [go_sem, ↓reduceIte, reduceCtorEq, Nat.reduceLT, Nat.reduceLeDiff, Nat.reduceEqDiff, Nat.reduceAdd, Nat.reduceMul, Nat.reduceSub, Nat.reduceBEq, Int.reduceLT, Int.reduceLE, Int.reduceEq, Int.reduceBEq, Int.reduceNeg]

theorem few_ok (l : List Sp) : Meets Try.prog 12 [(false, [vD (spsD l)])] (rOne (vB (decide ((l.length : Int) ≤ 1100)))) := by
  refine meets Try.func12 rfl rfl Try.ntmps12 Try.results12 rfl ?_
  simp -dsimp -implicitDefEqProofs only [go_sem, ↓reduceIte, reduceCtorEq, Nat.reduceLT, Nat.reduceLeDiff, Nat.reduceEqDiff, Nat.reduceAdd, Nat.reduceMul, Nat.reduceSub, Nat.reduceBEq, Int.reduceLT, Int.reduceLE, Int.reduceEq, Int.reduceBEq, Int.reduceNeg]

theorem arg_spents (ds : List D) : argC Try.prog 22 ds = (false, ds.map .d) := by
  unfold argC; rw [show isStruct Try.prog 22 = false from by kernel_rfl]
theorem arg_int (ds : List D) : argC Try.prog 3 ds = (false, ds.map .d) := by
  unfold argC; rw [show isStruct Try.prog 3 = false from by kernel_rfl]
theorem read_int {ds : List D} (h : shpG tys 6 3 ds) : ∃ n : Int, ds = [dI n] ∧ -9223372036854775808 ≤ n ∧ n ≤ 9223372036854775807 := h
theorem read_spents {ds : List D} (h : shpG tys 6 22 ds) : ∃ l : List Sp, ds = [spsD l] := by
  simp -dsimp -implicitDefEqProofs only [shpG, tileG, go_sem] at h
  obtain ⟨rows, rfl, _, hr⟩ := h
  obtain ⟨l, rfl, _⟩ := rows_map (cells := Sp.cells) (ok := fun _ => True) fun r hr' => by
    obtain ⟨_, _, ⟨a, rfl, _⟩, rfl, _, _, ⟨b, rfl, _⟩, rfl, _, _, ⟨c, rfl, _⟩, rfl, _, _, ⟨d, rfl, _⟩, rfl, rfl⟩ := hr r hr'
    exact ⟨⟨a, b, c, d⟩, rfl, trivial⟩
  exact ⟨l, rfl⟩
end Go.Proofs.Ytfidbkmogileiaa
