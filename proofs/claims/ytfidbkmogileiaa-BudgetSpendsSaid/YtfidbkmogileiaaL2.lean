/- BudgetSpends: both spend alike. -/
import Derived.Test.YtfidbkmogileiaaB6
namespace Go.Proofs.Ytfidbkmogileiaa
open Go.Eng
set_option linter.unusedSimpArgs false
set_option maxRecDepth 10000

theorem SpendV_len (l : List Sp) (M W r a now : Int) (hl : l.length ≤ 1100) : (SpendV l M W r a now).1.length ≤ 1100 := by
  unfold SpendV spendV
  split
  · simp
  · split
    · simp
    · split
      · exact hl
      · split
        · simp
        · split
          · simp
          · simp only; omega

theorem spends_ok (l : List Sp) (M W r a now : Int) : Meets Try.prog 4 [(false, [vD (spsD l)]), (false, [vI M]), (false, [vI W]), (false, [vI r]), (false, [vI a]), (false, [vI now])] (rOne (vB true)) := by
  refine meets Try.func4 rfl rfl Try.ntmps4 Try.results4 rfl ?_
  simp -dsimp -implicitDefEqProofs only [go_sem, ↓reduceIte, reduceCtorEq, Nat.reduceLT, Nat.reduceLeDiff, Nat.reduceEqDiff, Nat.reduceAdd, Nat.reduceMul, Nat.reduceSub, Nat.reduceBEq, Int.reduceLT, Int.reduceLE, Int.reduceEq, Int.reduceBEq, Int.reduceNeg]
  refine callP live_ok ?_
  simp -dsimp -implicitDefEqProofs only [go_sem, ↓reduceIte, reduceCtorEq, Nat.reduceLT, Nat.reduceLeDiff, Nat.reduceEqDiff, Nat.reduceAdd, Nat.reduceMul, Nat.reduceSub, Nat.reduceBEq, Int.reduceLT, Int.reduceLE, Int.reduceEq, Int.reduceBEq, Int.reduceNeg]
  refine callP (few_ok l) ?_
  simp -dsimp -implicitDefEqProofs only [go_sem, ↓reduceIte, reduceCtorEq, Nat.reduceLT, Nat.reduceLeDiff, Nat.reduceEqDiff, Nat.reduceAdd, Nat.reduceMul, Nat.reduceSub, Nat.reduceBEq, Int.reduceLT, Int.reduceLE, Int.reduceEq, Int.reduceBEq, Int.reduceNeg]
  intro hl
  refine callP (Spend_ok l ⟨_, _, _, _, _, _, _⟩ _ _ _ (by omega)) ?_
  simp -dsimp -implicitDefEqProofs only [go_sem, ↓reduceIte, reduceCtorEq, Nat.reduceLT, Nat.reduceLeDiff, Nat.reduceEqDiff, Nat.reduceAdd, Nat.reduceMul, Nat.reduceSub, Nat.reduceBEq, Int.reduceLT, Int.reduceLE, Int.reduceEq, Int.reduceBEq, Int.reduceNeg]
  refine callP (rSpend_ok l ⟨_, _, _, _, _, _, _⟩ _ _ _ (by omega)) ?_
  simp -dsimp -implicitDefEqProofs only [go_sem, ↓reduceIte, reduceCtorEq, Nat.reduceLT, Nat.reduceLeDiff, Nat.reduceEqDiff, Nat.reduceAdd, Nat.reduceMul, Nat.reduceSub, Nat.reduceBEq, Int.reduceLT, Int.reduceLE, Int.reduceEq, Int.reduceBEq, Int.reduceNeg]
  have hs := SpendV_len l M W r a now (by omega)
  refine callP (same_ok _ _ (by omega)) ?_
  simp -dsimp -implicitDefEqProofs only [go_sem, ↓reduceIte, reduceCtorEq, Nat.reduceLT, Nat.reduceLeDiff, Nat.reduceEqDiff, Nat.reduceAdd, Nat.reduceMul, Nat.reduceSub, Nat.reduceBEq, Int.reduceLT, Int.reduceLE, Int.reduceEq, Int.reduceBEq, Int.reduceNeg]
  try exact drawn (by kernel_rfl)
theorem budgetSpends_read (x0 x1 x2 x3 x4 x5 : List D) (h0 : shpG tys 6 22 x0) (h1 : shpG tys 6 3 x1) (h2 : shpG tys 6 3 x2) (h3 : shpG tys 6 3 x3) (h4 : shpG tys 6 3 x4) (h5 : shpG tys 6 3 x5) : Meets Try.prog 4 [argC Try.prog 22 x0, argC Try.prog 3 x1, argC Try.prog 3 x2, argC Try.prog 3 x3, argC Try.prog 3 x4, argC Try.prog 3 x5] (rOne (vB true)) := by
  obtain ⟨l, rfl⟩ := read_spents h0
  obtain ⟨M, rfl, _⟩ := read_int h1
  obtain ⟨W, rfl, _⟩ := read_int h2
  obtain ⟨r, rfl, _⟩ := read_int h3
  obtain ⟨a, rfl, _⟩ := read_int h4
  obtain ⟨now, rfl, _⟩ := read_int h5
  rw [arg_spents, arg_int, arg_int, arg_int, arg_int, arg_int]
  exact spends_ok l M W r a now
section
open Go.ChangeShapes Go.WideShapes Go.ChangeAt Go.RowKit
set_option maxRecDepth 100000 in
theorem budgetSpends_lifted (os : Os) (started : os.Started) (H : Type) (enc : TypeId × Value → H) :
    ReturnsInHanded {} Try.checked os 4 .any (Rows.budgetSpendsSpec.pre6 enc Try.prog Try.f4 Rows.budgetSpendsRow.domain false) (Rows.budgetSpendsSpec.post enc Try.prog Try.f4 false true false false) := by
  refine returnsInHanded_of_change (C := Try.checked) own started (by kernel_rfl) Try.func4
    (ChangeSpec.witness6 (enc := enc) (C := Try.checked) false ⟨#[], #[.slice none 0 0, .int .i64 0, .int .i64 0, .int .i64 0, .int .i64 0, .int .i64 0], []⟩ 8 (by kernel_rfl) (by kernel_rfl) (by kernel_rfl) (by kernel_rfl)) ?_
  exact row_ok (C := Try.checked) 6 4 laidOut (by kernel_rfl) rfl (by kernel_rfl) rfl (fun ds h => match ds, h with | [_, _, _, _, _, _], _ => rfl) fun dss h => match dss, h with
    | [x0, x1, x2, x3, x4, x5], .cons h0 (.cons h1 (.cons h2 (.cons h3 (.cons h4 (.cons h5 .nil))))) => budgetSpends_read x0 x1 x2 x3 x4 x5 (shp_table tysOk _ _ _ h0) (shp_table tysOk _ _ _ h1) (shp_table tysOk _ _ _ h2) (shp_table tysOk _ _ _ h3) (shp_table tysOk _ _ _ h4) (shp_table tysOk _ _ _ h5)
theorem budgetSpends_holds : Rows.BudgetSpendsSaid :=
  OpenClaim.holds_of_wide 4 Try.f4 rfl rfl rfl rfl rfl rfl rfl ⟨rfl, rfl, rfl, rfl, rfl⟩ rfl rfl rfl rfl rfl (by kernel_rfl) Try.func4 (by kernel_rfl)
    (of_decide_eq_true (by kernel_rfl)) (by unfold Func.isWrapper; rw [if_neg (of_decide_eq_false (by kernel_rfl))]; exact ⟨rfl, rfl⟩)
    (fun os started H enc _ => budgetSpends_lifted os started H enc)
end
end Go.Proofs.Ytfidbkmogileiaa
