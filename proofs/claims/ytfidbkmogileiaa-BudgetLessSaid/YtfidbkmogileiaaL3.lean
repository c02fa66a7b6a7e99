/- BudgetLess: a spending leaves one less. -/
import Derived.Test.YtfidbkmogileiaaB8
namespace Go.Proofs.Ytfidbkmogileiaa
open Go.Eng
set_option linter.unusedSimpArgs false
set_option maxRecDepth 10000

set_option maxHeartbeats 2000000 in
theorem less_ok (l : List Sp) (M W r a now a2 r2 : Int) : Meets Try.prog 6 [(false, [vD (spsD l)]), (false, [vI M]), (false, [vI W]), (false, [vI r]), (false, [vI a]), (false, [vI now]), (false, [vI a2]), (false, [vI r2])] (rOne (vB true)) := by
  refine meets Try.func6 rfl rfl Try.ntmps6 Try.results6 rfl ?_
  simp -dsimp -implicitDefEqProofs only [go_sem, ↓reduceIte, reduceCtorEq, Nat.reduceLT, Nat.reduceLeDiff, Nat.reduceEqDiff, Nat.reduceAdd, Nat.reduceMul, Nat.reduceSub, Nat.reduceBEq, Int.reduceLT, Int.reduceLE, Int.reduceEq, Int.reduceBEq, Int.reduceNeg]
  refine callP live_ok ?_
  simp -dsimp -implicitDefEqProofs only [go_sem, ↓reduceIte, reduceCtorEq, Nat.reduceLT, Nat.reduceLeDiff, Nat.reduceEqDiff, Nat.reduceAdd, Nat.reduceMul, Nat.reduceSub, Nat.reduceBEq, Int.reduceLT, Int.reduceLE, Int.reduceEq, Int.reduceBEq, Int.reduceNeg]
  refine callP (few_ok l) ?_
  simp -dsimp -implicitDefEqProofs only [go_sem, ↓reduceIte, reduceCtorEq, Nat.reduceLT, Nat.reduceLeDiff, Nat.reduceEqDiff, Nat.reduceAdd, Nat.reduceMul, Nat.reduceSub, Nat.reduceBEq, Int.reduceLT, Int.reduceLE, Int.reduceEq, Int.reduceBEq, Int.reduceNeg]
  intro hl
  refine callP (Left_ok l ⟨_, _, _, _, _, _, _⟩ _ _ _ (by omega)) ?_
  simp -dsimp -implicitDefEqProofs only [go_sem, ↓reduceIte, reduceCtorEq, Nat.reduceLT, Nat.reduceLeDiff, Nat.reduceEqDiff, Nat.reduceAdd, Nat.reduceMul, Nat.reduceSub, Nat.reduceBEq, Int.reduceLT, Int.reduceLE, Int.reduceEq, Int.reduceBEq, Int.reduceNeg]
  refine callP (Spend_ok l ⟨_, _, _, _, _, _, _⟩ _ _ _ (by omega)) ?_
  have hlen := SpendV_short l M W r a now (by omega)
  have hbd := LeftV_bd l M W r a now
  obtain ⟨l', c, hs⟩ : ∃ l' c, SpendV l M W r a now = (l', c) := ⟨_, _, rfl⟩
  have hw : IntKind.i64.wrap (LeftV l M W r a now - 1) = LeftV l M W r a now - 1 := by rw [wrap64] <;> omega
  rw [hs] at hlen
  simp only at hlen
  by_cases hc : c = 0
  · subst hc
    have g := spend_law hs
    by_cases hM : M = 0
    · subst hM
      have e := g.free rfl
      subst e
      have e2 := left_free g
      simp -dsimp -implicitDefEqProofs only [hs, e2, go_sem, ↓reduceIte, reduceCtorEq, Nat.reduceLT, Nat.reduceLeDiff, Nat.reduceEqDiff, Nat.reduceAdd, Nat.reduceMul, Nat.reduceSub, Nat.reduceBEq, Int.reduceLT, Int.reduceLE, Int.reduceEq, Int.reduceBEq, Int.reduceNeg]
      repeat' (first | with_reducible apply And.intro | with_reducible intro _ | with_reducible exact drawn (by kernel_rfl) | (refine callP (Left_ok l' ⟨_, _, _, _, _, _, _⟩ _ _ _ (by omega)) ?_; simp -dsimp -implicitDefEqProofs only [e2, g.ck, go_sem, ↓reduceIte, reduceCtorEq, Nat.reduceLT, Nat.reduceLeDiff, Nat.reduceEqDiff, Nat.reduceAdd, Nat.reduceMul, Nat.reduceSub, Nat.reduceBEq, Int.reduceLT, Int.reduceLE, Int.reduceEq, Int.reduceBEq, Int.reduceNeg]) | (refine callP (same_ok l' l' (by omega)) ?_; simp -dsimp -implicitDefEqProofs only [e2, g.ck, go_sem, ↓reduceIte, reduceCtorEq, Nat.reduceLT, Nat.reduceLeDiff, Nat.reduceEqDiff, Nat.reduceAdd, Nat.reduceMul, Nat.reduceSub, Nat.reduceBEq, Int.reduceLT, Int.reduceLE, Int.reduceEq, Int.reduceBEq, Int.reduceNeg]) | (refine callP (check_ok l' (by omega)) ?_; simp -dsimp -implicitDefEqProofs only [e2, g.ck, go_sem, ↓reduceIte, reduceCtorEq, Nat.reduceLT, Nat.reduceLeDiff, Nat.reduceEqDiff, Nat.reduceAdd, Nat.reduceMul, Nat.reduceSub, Nat.reduceBEq, Int.reduceLT, Int.reduceLE, Int.reduceEq, Int.reduceBEq, Int.reduceNeg]) | omega)
    · obtain ⟨e1, e2⟩ := left_spent g hM
      have hM0 := (g.put hM).1
      have ho := left_other g M W a2 r2 now
      simp -dsimp -implicitDefEqProofs only [hs, e1, hw, go_sem, ↓reduceIte, reduceCtorEq, Nat.reduceLT, Nat.reduceLeDiff, Nat.reduceEqDiff, Nat.reduceAdd, Nat.reduceMul, Nat.reduceSub, Nat.reduceBEq, Int.reduceLT, Int.reduceLE, Int.reduceEq, Int.reduceBEq, Int.reduceNeg]
      repeat' (first | with_reducible apply And.intro | with_reducible intro _ | with_reducible exact drawn (by kernel_rfl) | (refine callP (Left_ok l' ⟨_, _, _, _, _, _, _⟩ _ _ _ (by omega)) ?_; simp -dsimp -implicitDefEqProofs only [e1, hw, g.ck', go_sem, ↓reduceIte, reduceCtorEq, Nat.reduceLT, Nat.reduceLeDiff, Nat.reduceEqDiff, Nat.reduceAdd, Nat.reduceMul, Nat.reduceSub, Nat.reduceBEq, Int.reduceLT, Int.reduceLE, Int.reduceEq, Int.reduceBEq, Int.reduceNeg]) | (refine callP (Left_ok l ⟨_, _, _, _, _, _, _⟩ _ _ _ (by omega)) ?_; simp -dsimp -implicitDefEqProofs only [e1, hw, g.ck', go_sem, ↓reduceIte, reduceCtorEq, Nat.reduceLT, Nat.reduceLeDiff, Nat.reduceEqDiff, Nat.reduceAdd, Nat.reduceMul, Nat.reduceSub, Nat.reduceBEq, Int.reduceLT, Int.reduceLE, Int.reduceEq, Int.reduceBEq, Int.reduceNeg]) | (refine callP (same_ok l' l (by omega)) ?_; simp -dsimp -implicitDefEqProofs only [e1, hw, g.ck', go_sem, ↓reduceIte, reduceCtorEq, Nat.reduceLT, Nat.reduceLeDiff, Nat.reduceEqDiff, Nat.reduceAdd, Nat.reduceMul, Nat.reduceSub, Nat.reduceBEq, Int.reduceLT, Int.reduceLE, Int.reduceEq, Int.reduceBEq, Int.reduceNeg]) | (refine callP (check_ok l' (by omega)) ?_; simp -dsimp -implicitDefEqProofs only [e1, hw, g.ck', go_sem, ↓reduceIte, reduceCtorEq, Nat.reduceLT, Nat.reduceLeDiff, Nat.reduceEqDiff, Nat.reduceAdd, Nat.reduceMul, Nat.reduceSub, Nat.reduceBEq, Int.reduceLT, Int.reduceLE, Int.reduceEq, Int.reduceBEq, Int.reduceNeg]) | omega)
  · have hr := spend_refused (l := l) (M := M) (W := W) (r := r) (a := a) (now := now)
    rw [hs] at hr
    obtain ⟨rfl, h170⟩ := hr hc
    simp -dsimp -implicitDefEqProofs only [hs, go_sem, ↓reduceIte, reduceCtorEq, Nat.reduceLT, Nat.reduceLeDiff, Nat.reduceEqDiff, Nat.reduceAdd, Nat.reduceMul, Nat.reduceSub, Nat.reduceBEq, Int.reduceLT, Int.reduceLE, Int.reduceEq, Int.reduceBEq, Int.reduceNeg]
    repeat' (first | with_reducible apply And.intro | with_reducible intro _ | with_reducible exact drawn (by kernel_rfl) | omega)
theorem budgetLess_read (x0 x1 x2 x3 x4 x5 x6 x7 : List D) (h0 : shpG tys 6 22 x0) (h1 : shpG tys 6 3 x1) (h2 : shpG tys 6 3 x2) (h3 : shpG tys 6 3 x3) (h4 : shpG tys 6 3 x4) (h5 : shpG tys 6 3 x5) (h6 : shpG tys 6 3 x6) (h7 : shpG tys 6 3 x7) : Meets Try.prog 6 [argC Try.prog 22 x0, argC Try.prog 3 x1, argC Try.prog 3 x2, argC Try.prog 3 x3, argC Try.prog 3 x4, argC Try.prog 3 x5, argC Try.prog 3 x6, argC Try.prog 3 x7] (rOne (vB true)) := by
  obtain ⟨l, rfl⟩ := read_spents h0
  obtain ⟨M, rfl, _⟩ := read_int h1
  obtain ⟨W, rfl, _⟩ := read_int h2
  obtain ⟨r, rfl, _⟩ := read_int h3
  obtain ⟨a, rfl, _⟩ := read_int h4
  obtain ⟨now, rfl, _⟩ := read_int h5
  obtain ⟨a2, rfl, _⟩ := read_int h6
  obtain ⟨r2, rfl, _⟩ := read_int h7
  rw [arg_spents, arg_int, arg_int, arg_int, arg_int, arg_int, arg_int, arg_int]
  exact less_ok l M W r a now a2 r2
section
open Go.ChangeShapes Go.WideShapes Go.ChangeAt Go.RowKit
set_option maxRecDepth 100000 in
theorem budgetLess_lifted (os : Os) (started : os.Started) (H : Type) (enc : TypeId × Value → H) :
    ReturnsInHanded {} Try.checked os 6 .any (Rows.budgetLessSpec.pre6 enc Try.prog Try.f6 Rows.budgetLessRow.domain false) (Rows.budgetLessSpec.post enc Try.prog Try.f6 false true false false) := by
  refine returnsInHanded_of_change (C := Try.checked) own started (by kernel_rfl) Try.func6
    (ChangeSpec.witness6 (enc := enc) (C := Try.checked) false ⟨#[], #[.slice none 0 0, .int .i64 0, .int .i64 0, .int .i64 0, .int .i64 0, .int .i64 0, .int .i64 0, .int .i64 0], []⟩ 8 (by kernel_rfl) (by kernel_rfl) (by kernel_rfl) (by kernel_rfl)) ?_
  exact row_ok (C := Try.checked) 6 4 laidOut (by kernel_rfl) rfl (by kernel_rfl) rfl (fun ds h => match ds, h with | [_, _, _, _, _, _, _, _], _ => rfl) fun dss h => match dss, h with
    | [x0, x1, x2, x3, x4, x5, x6, x7], .cons h0 (.cons h1 (.cons h2 (.cons h3 (.cons h4 (.cons h5 (.cons h6 (.cons h7 .nil))))))) => budgetLess_read x0 x1 x2 x3 x4 x5 x6 x7 (shp_table tysOk _ _ _ h0) (shp_table tysOk _ _ _ h1) (shp_table tysOk _ _ _ h2) (shp_table tysOk _ _ _ h3) (shp_table tysOk _ _ _ h4) (shp_table tysOk _ _ _ h5) (shp_table tysOk _ _ _ h6) (shp_table tysOk _ _ _ h7)
theorem budgetLess_holds : Rows.BudgetLessSaid :=
  OpenClaim.holds_of_wide 6 Try.f6 rfl rfl rfl rfl rfl rfl rfl ⟨rfl, rfl, rfl, rfl, rfl⟩ rfl rfl rfl rfl rfl (by kernel_rfl) Try.func6 (by kernel_rfl)
    (of_decide_eq_true (by kernel_rfl)) (by unfold Func.isWrapper; rw [if_neg (of_decide_eq_false (by kernel_rfl))]; exact ⟨rfl, rfl⟩)
    (fun os started H enc _ => budgetLess_lifted os started H enc)
end
end Go.Proofs.Ytfidbkmogileiaa
