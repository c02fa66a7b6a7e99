/- BudgetApart: two that spend apart spend in either order. -/
import Derived.Test.YtfidbkmogileiaaB8
namespace Go.Proofs.Ytfidbkmogileiaa
open Go.Eng
set_option linter.unusedSimpArgs false
set_option maxRecDepth 10000

set_option maxHeartbeats 2000000 in
theorem apart_ok (l : List Sp) (M W r a r2 a2 now : Int) : Meets Try.prog 8 [(false, [vD (spsD l)]), (false, [vI M]), (false, [vI W]), (false, [vI r]), (false, [vI a]), (false, [vI r2]), (false, [vI a2]), (false, [vI now])] (rOne (vB true)) := by
  refine meets Try.func8 rfl rfl Try.ntmps8 Try.results8 rfl ?_
  simp -dsimp -implicitDefEqProofs only [go_sem, ↓reduceIte, reduceCtorEq, Nat.reduceLT, Nat.reduceLeDiff, Nat.reduceEqDiff, Nat.reduceAdd, Nat.reduceMul, Nat.reduceSub, Nat.reduceBEq, Int.reduceLT, Int.reduceLE, Int.reduceEq, Int.reduceBEq, Int.reduceNeg]
  refine callP live_ok ?_
  simp -dsimp -implicitDefEqProofs only [go_sem, ↓reduceIte, reduceCtorEq, Nat.reduceLT, Nat.reduceLeDiff, Nat.reduceEqDiff, Nat.reduceAdd, Nat.reduceMul, Nat.reduceSub, Nat.reduceBEq, Int.reduceLT, Int.reduceLE, Int.reduceEq, Int.reduceBEq, Int.reduceNeg]
  refine callP (few_ok l) ?_
  simp -dsimp -implicitDefEqProofs only [go_sem, ↓reduceIte, reduceCtorEq, Nat.reduceLT, Nat.reduceLeDiff, Nat.reduceEqDiff, Nat.reduceAdd, Nat.reduceMul, Nat.reduceSub, Nat.reduceBEq, Int.reduceLT, Int.reduceLE, Int.reduceEq, Int.reduceBEq, Int.reduceNeg]
  intro hl
  repeat' (first | with_reducible apply And.intro | with_reducible intro _ | with_reducible exact drawn (by kernel_rfl) | omega)
  all_goals
    have hk : ¬ (r = r2 ∧ a = a2) := by omega
    refine callP (Spend_ok l ⟨_, _, _, _, _, _, _⟩ _ _ _ (by omega)) ?_
    obtain ⟨l1, c1, hs1⟩ : ∃ l' c, SpendV l M W r a now = (l', c) := ⟨_, _, rfl⟩
    obtain ⟨l2, c2, hs2⟩ : ∃ l' c, SpendV l M W r2 a2 now = (l', c) := ⟨_, _, rfl⟩
    have n1 := SpendV_short l M W r a now (by omega)
    have n2 := SpendV_short l M W r2 a2 now (by omega)
    rw [hs1] at n1
    rw [hs2] at n2
    simp only at n1 n2
    by_cases h : c1 = 0 ∧ c2 = 0
    · obtain ⟨rfl, rfl⟩ := h
      obtain ⟨u, hu1, hu2, hu3⟩ := apart_law (spend_law hs1) (spend_law hs2) (by omega) hk
      simp -dsimp -implicitDefEqProofs only [hs1, go_sem, ↓reduceIte, reduceCtorEq, Nat.reduceLT, Nat.reduceLeDiff, Nat.reduceEqDiff, Nat.reduceAdd, Nat.reduceMul, Nat.reduceSub, Nat.reduceBEq, Int.reduceLT, Int.reduceLE, Int.reduceEq, Int.reduceBEq, Int.reduceNeg]
      refine callP (Spend_ok l ⟨_, _, _, _, _, _, _⟩ _ _ _ (by omega)) ?_
      simp -dsimp -implicitDefEqProofs only [hs2, go_sem, ↓reduceIte, reduceCtorEq, Nat.reduceLT, Nat.reduceLeDiff, Nat.reduceEqDiff, Nat.reduceAdd, Nat.reduceMul, Nat.reduceSub, Nat.reduceBEq, Int.reduceLT, Int.reduceLE, Int.reduceEq, Int.reduceBEq, Int.reduceNeg]
      refine callP (Spend_ok l1 ⟨_, _, _, _, _, _, _⟩ _ _ _ (by omega)) ?_
      simp -dsimp -implicitDefEqProofs only [hu1, go_sem, ↓reduceIte, reduceCtorEq, Nat.reduceLT, Nat.reduceLeDiff, Nat.reduceEqDiff, Nat.reduceAdd, Nat.reduceMul, Nat.reduceSub, Nat.reduceBEq, Int.reduceLT, Int.reduceLE, Int.reduceEq, Int.reduceBEq, Int.reduceNeg]
      refine callP (Spend_ok l2 ⟨_, _, _, _, _, _, _⟩ _ _ _ (by omega)) ?_
      simp -dsimp -implicitDefEqProofs only [hu2, go_sem, ↓reduceIte, reduceCtorEq, Nat.reduceLT, Nat.reduceLeDiff, Nat.reduceEqDiff, Nat.reduceAdd, Nat.reduceMul, Nat.reduceSub, Nat.reduceBEq, Int.reduceLT, Int.reduceLE, Int.reduceEq, Int.reduceBEq, Int.reduceNeg]
      refine callP (same_ok u u (by omega)) ?_
      simp -dsimp -implicitDefEqProofs only [go_sem, ↓reduceIte, reduceCtorEq, Nat.reduceLT, Nat.reduceLeDiff, Nat.reduceEqDiff, Nat.reduceAdd, Nat.reduceMul, Nat.reduceSub, Nat.reduceBEq, Int.reduceLT, Int.reduceLE, Int.reduceEq, Int.reduceBEq, Int.reduceNeg]
      repeat' (first | with_reducible apply And.intro | with_reducible intro _ | with_reducible exact drawn (by kernel_rfl) | omega)
    · simp -dsimp -implicitDefEqProofs only [hs1, go_sem, ↓reduceIte, reduceCtorEq, Nat.reduceLT, Nat.reduceLeDiff, Nat.reduceEqDiff, Nat.reduceAdd, Nat.reduceMul, Nat.reduceSub, Nat.reduceBEq, Int.reduceLT, Int.reduceLE, Int.reduceEq, Int.reduceBEq, Int.reduceNeg]
      refine callP (Spend_ok l ⟨_, _, _, _, _, _, _⟩ _ _ _ (by omega)) ?_
      simp -dsimp -implicitDefEqProofs only [hs2, go_sem, ↓reduceIte, reduceCtorEq, Nat.reduceLT, Nat.reduceLeDiff, Nat.reduceEqDiff, Nat.reduceAdd, Nat.reduceMul, Nat.reduceSub, Nat.reduceBEq, Int.reduceLT, Int.reduceLE, Int.reduceEq, Int.reduceBEq, Int.reduceNeg]
      repeat' (first | with_reducible apply And.intro | with_reducible intro _ | with_reducible exact drawn (by kernel_rfl) | omega)
theorem budgetApart_read (x0 x1 x2 x3 x4 x5 x6 x7 : List D) (h0 : shpG tys 6 22 x0) (h1 : shpG tys 6 3 x1) (h2 : shpG tys 6 3 x2) (h3 : shpG tys 6 3 x3) (h4 : shpG tys 6 3 x4) (h5 : shpG tys 6 3 x5) (h6 : shpG tys 6 3 x6) (h7 : shpG tys 6 3 x7) : Meets Try.prog 8 [argC Try.prog 22 x0, argC Try.prog 3 x1, argC Try.prog 3 x2, argC Try.prog 3 x3, argC Try.prog 3 x4, argC Try.prog 3 x5, argC Try.prog 3 x6, argC Try.prog 3 x7] (rOne (vB true)) := by
  obtain ⟨l, rfl⟩ := read_spents h0
  obtain ⟨M, rfl, _⟩ := read_int h1
  obtain ⟨W, rfl, _⟩ := read_int h2
  obtain ⟨r, rfl, _⟩ := read_int h3
  obtain ⟨a, rfl, _⟩ := read_int h4
  obtain ⟨r2, rfl, _⟩ := read_int h5
  obtain ⟨a2, rfl, _⟩ := read_int h6
  obtain ⟨now, rfl, _⟩ := read_int h7
  rw [arg_spents, arg_int, arg_int, arg_int, arg_int, arg_int, arg_int, arg_int]
  exact apart_ok l M W r a r2 a2 now
section
open Go.ChangeShapes Go.WideShapes Go.ChangeAt Go.RowKit
set_option maxRecDepth 100000 in
theorem budgetApart_lifted (os : Os) (started : os.Started) (H : Type) (enc : TypeId × Value → H) :
    ReturnsInHanded {} Try.checked os 8 .any (Rows.budgetApartSpec.pre6 enc Try.prog Try.f8 Rows.budgetApartRow.domain false) (Rows.budgetApartSpec.post enc Try.prog Try.f8 false true false false) := by
  refine returnsInHanded_of_change (C := Try.checked) own started (by kernel_rfl) Try.func8
    (ChangeSpec.witness6 (enc := enc) (C := Try.checked) false ⟨#[], #[.slice none 0 0, .int .i64 0, .int .i64 0, .int .i64 0, .int .i64 0, .int .i64 0, .int .i64 0, .int .i64 0], []⟩ 8 (by kernel_rfl) (by kernel_rfl) (by kernel_rfl) (by kernel_rfl)) ?_
  exact row_ok (C := Try.checked) 6 4 laidOut (by kernel_rfl) rfl (by kernel_rfl) rfl (fun ds h => match ds, h with | [_, _, _, _, _, _, _, _], _ => rfl) fun dss h => match dss, h with
    | [x0, x1, x2, x3, x4, x5, x6, x7], .cons h0 (.cons h1 (.cons h2 (.cons h3 (.cons h4 (.cons h5 (.cons h6 (.cons h7 .nil))))))) => budgetApart_read x0 x1 x2 x3 x4 x5 x6 x7 (shp_table tysOk _ _ _ h0) (shp_table tysOk _ _ _ h1) (shp_table tysOk _ _ _ h2) (shp_table tysOk _ _ _ h3) (shp_table tysOk _ _ _ h4) (shp_table tysOk _ _ _ h5) (shp_table tysOk _ _ _ h6) (shp_table tysOk _ _ _ h7)
theorem budgetApart_holds : Rows.BudgetApartSaid :=
  OpenClaim.holds_of_wide 8 Try.f8 rfl rfl rfl rfl rfl rfl rfl ⟨rfl, rfl, rfl, rfl, rfl⟩ rfl rfl rfl rfl rfl (by kernel_rfl) Try.func8 (by kernel_rfl)
    (of_decide_eq_true (by kernel_rfl)) (by unfold Func.isWrapper; rw [if_neg (of_decide_eq_false (by kernel_rfl))]; exact ⟨rfl, rfl⟩)
    (fun os started H enc _ => budgetApart_lifted os started H enc)
end
end Go.Proofs.Ytfidbkmogileiaa
