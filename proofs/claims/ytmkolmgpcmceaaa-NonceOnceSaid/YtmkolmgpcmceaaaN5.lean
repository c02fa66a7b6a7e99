/- The chapter's example. -/
import Derived.Test.YtmkolmgpcmceaaaN4
namespace Go.Proofs.Ytmkolmgpcmceaaa
open Go.Eng
set_option linter.unusedSimpArgs false
set_option maxRecDepth 10000

theorem live_ok : Meets Try.prog 11 [] (rOne (vB true)) := by
  have t1 := tell_ok 0 [] 5 10 (by simp)
  rw [show tellV 0 [] 5 10 = (1, [⟨0, 15⟩], 0, 0) from by kernel_rfl] at t1
  have t2 := tell_ok 1 [⟨0, 15⟩] 6 2 (by simp)
  rw [show tellV 1 [⟨0, 15⟩] 6 2 = (2, [⟨0, 15⟩, ⟨1, 8⟩], 1, 0) from by kernel_rfl] at t2
  have u1 := use_ok 2 [⟨0, 15⟩, ⟨1, 8⟩] 0 15 (by simp) (by omega) (by omega)
  rw [show useV 2 [⟨0, 15⟩, ⟨1, 8⟩] 0 15 = (2, [⟨1, 8⟩], 0) from by kernel_rfl] at u1
  have u2 := use_ok 2 [⟨1, 8⟩] 0 15 (by simp) (by omega) (by omega)
  rw [show useV 2 [⟨1, 8⟩] 0 15 = (0, [], 210) from by kernel_rfl] at u2
  have u3 := use_ok 2 [⟨1, 8⟩] 1 9 (by simp) (by omega) (by omega)
  rw [show useV 2 [⟨1, 8⟩] 1 9 = (0, [], 210) from by kernel_rfl] at u3
  have u4 := use_ok 2 [⟨1, 8⟩] 1 8 (by simp) (by omega) (by omega)
  rw [show useV 2 [⟨1, 8⟩] 1 8 = (2, [], 0) from by kernel_rfl] at u4
  have u5 := use_ok 2 [⟨1, 8⟩] 2 8 (by simp) (by omega) (by omega)
  rw [show useV 2 [⟨1, 8⟩] 2 8 = (0, [], 210) from by kernel_rfl] at u5
  have r1 := trim_ok 2 [⟨1, 8⟩] 9 (by simp)
  rw [show [(⟨1, 8⟩ : No)].filter (keepB 9) = [] from by kernel_rfl] at r1
  have c1 := check_ok 2 [⟨1, 8⟩] (by simp)
  rw [show checkV 2 [⟨1, 8⟩] = 0 from by kernel_rfl] at c1
  have c2 := check_ok (-1) [] (by simp)
  rw [show checkV (-1) [] = 1 from by kernel_rfl] at c2
  refine meets Try.func11 rfl rfl Try.ntmps11 Try.results11 rfl ?_
  simp -dsimp -implicitDefEqProofs only [go_sem, ↓reduceIte, reduceCtorEq, Nat.reduceLT, Nat.reduceLeDiff, Nat.reduceEqDiff, Nat.reduceAdd, Nat.reduceMul, Nat.reduceSub, Nat.reduceBEq, Int.reduceLT, Int.reduceLE, Int.reduceEq, Int.reduceBEq, Int.reduceNeg]
  refine callP t1 ?_
  simp -dsimp -implicitDefEqProofs only [go_sem, ↓reduceIte, reduceCtorEq, Nat.reduceLT, Nat.reduceLeDiff, Nat.reduceEqDiff, Nat.reduceAdd, Nat.reduceMul, Nat.reduceSub, Nat.reduceBEq, Int.reduceLT, Int.reduceLE, Int.reduceEq, Int.reduceBEq, Int.reduceNeg]
  refine callP t2 ?_
  simp -dsimp -implicitDefEqProofs only [go_sem, ↓reduceIte, reduceCtorEq, Nat.reduceLT, Nat.reduceLeDiff, Nat.reduceEqDiff, Nat.reduceAdd, Nat.reduceMul, Nat.reduceSub, Nat.reduceBEq, Int.reduceLT, Int.reduceLE, Int.reduceEq, Int.reduceBEq, Int.reduceNeg]
  refine callP u1 ?_
  simp -dsimp -implicitDefEqProofs only [go_sem, ↓reduceIte, reduceCtorEq, Nat.reduceLT, Nat.reduceLeDiff, Nat.reduceEqDiff, Nat.reduceAdd, Nat.reduceMul, Nat.reduceSub, Nat.reduceBEq, Int.reduceLT, Int.reduceLE, Int.reduceEq, Int.reduceBEq, Int.reduceNeg]
  refine callP u2 ?_
  simp -dsimp -implicitDefEqProofs only [go_sem, ↓reduceIte, reduceCtorEq, Nat.reduceLT, Nat.reduceLeDiff, Nat.reduceEqDiff, Nat.reduceAdd, Nat.reduceMul, Nat.reduceSub, Nat.reduceBEq, Int.reduceLT, Int.reduceLE, Int.reduceEq, Int.reduceBEq, Int.reduceNeg]
  refine callP u3 ?_
  simp -dsimp -implicitDefEqProofs only [go_sem, ↓reduceIte, reduceCtorEq, Nat.reduceLT, Nat.reduceLeDiff, Nat.reduceEqDiff, Nat.reduceAdd, Nat.reduceMul, Nat.reduceSub, Nat.reduceBEq, Int.reduceLT, Int.reduceLE, Int.reduceEq, Int.reduceBEq, Int.reduceNeg]
  refine callP u4 ?_
  simp -dsimp -implicitDefEqProofs only [go_sem, ↓reduceIte, reduceCtorEq, Nat.reduceLT, Nat.reduceLeDiff, Nat.reduceEqDiff, Nat.reduceAdd, Nat.reduceMul, Nat.reduceSub, Nat.reduceBEq, Int.reduceLT, Int.reduceLE, Int.reduceEq, Int.reduceBEq, Int.reduceNeg]
  refine callP u5 ?_
  simp -dsimp -implicitDefEqProofs only [go_sem, ↓reduceIte, reduceCtorEq, Nat.reduceLT, Nat.reduceLeDiff, Nat.reduceEqDiff, Nat.reduceAdd, Nat.reduceMul, Nat.reduceSub, Nat.reduceBEq, Int.reduceLT, Int.reduceLE, Int.reduceEq, Int.reduceBEq, Int.reduceNeg]
  refine callP r1 ?_
  simp -dsimp -implicitDefEqProofs only [go_sem, ↓reduceIte, reduceCtorEq, Nat.reduceLT, Nat.reduceLeDiff, Nat.reduceEqDiff, Nat.reduceAdd, Nat.reduceMul, Nat.reduceSub, Nat.reduceBEq, Int.reduceLT, Int.reduceLE, Int.reduceEq, Int.reduceBEq, Int.reduceNeg]
  refine callP c1 ?_
  simp -dsimp -implicitDefEqProofs only [go_sem, ↓reduceIte, reduceCtorEq, Nat.reduceLT, Nat.reduceLeDiff, Nat.reduceEqDiff, Nat.reduceAdd, Nat.reduceMul, Nat.reduceSub, Nat.reduceBEq, Int.reduceLT, Int.reduceLE, Int.reduceEq, Int.reduceBEq, Int.reduceNeg]
  refine callP c2 ?_
  simp -dsimp -implicitDefEqProofs only [go_sem, ↓reduceIte, reduceCtorEq, Nat.reduceLT, Nat.reduceLeDiff, Nat.reduceEqDiff, Nat.reduceAdd, Nat.reduceMul, Nat.reduceSub, Nat.reduceBEq, Int.reduceLT, Int.reduceLE, Int.reduceEq, Int.reduceBEq, Int.reduceNeg]
end Go.Proofs.Ytmkolmgpcmceaaa
