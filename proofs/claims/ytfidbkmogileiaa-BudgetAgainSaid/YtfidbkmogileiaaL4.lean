/- BudgetAgain: a window later all is left again. -/
import Derived.Test.YtfidbkmogileiaaB8
namespace Go.Proofs.Ytfidbkmogileiaa
open Go.Eng
set_option linter.unusedSimpArgs false
set_option maxRecDepth 10000

structure AgInv (l : List Sp) (a r now : Int) where
  i : Nat
  le : i ≤ l.length
  no : ∀ x ∈ l.take i, keyB a r x = true → x.S ≤ now

set_option maxHeartbeats 2000000 in
theorem again_ok (l : List Sp) (M W r a now : Int) : Meets Try.prog 7 [(false, [vD (spsD l)]), (false, [vI M]), (false, [vI W]), (false, [vI r]), (false, [vI a]), (false, [vI now])] (rOne (vB true)) := by
  refine meets Try.func7 rfl rfl Try.ntmps7 Try.results7 rfl ?_
  simp -dsimp -implicitDefEqProofs only [go_sem, ↓reduceIte, reduceCtorEq, Nat.reduceLT, Nat.reduceLeDiff, Nat.reduceEqDiff, Nat.reduceAdd, Nat.reduceMul, Nat.reduceSub, Nat.reduceBEq, Int.reduceLT, Int.reduceLE, Int.reduceEq, Int.reduceBEq, Int.reduceNeg]
  refine callP live_ok ?_
  simp -dsimp -implicitDefEqProofs only [go_sem, ↓reduceIte, reduceCtorEq, Nat.reduceLT, Nat.reduceLeDiff, Nat.reduceEqDiff, Nat.reduceAdd, Nat.reduceMul, Nat.reduceSub, Nat.reduceBEq, Int.reduceLT, Int.reduceLE, Int.reduceEq, Int.reduceBEq, Int.reduceNeg]
  refine callP (few_ok l) ?_
  simp -dsimp -implicitDefEqProofs only [go_sem, ↓reduceIte, reduceCtorEq, Nat.reduceLT, Nat.reduceLeDiff, Nat.reduceEqDiff, Nat.reduceAdd, Nat.reduceMul, Nat.reduceSub, Nat.reduceBEq, Int.reduceLT, Int.reduceLE, Int.reduceEq, Int.reduceBEq, Int.reduceNeg]
  intro hl
  repeat' (first | with_reducible apply And.intro | with_reducible intro _ | with_reducible exact drawn (by kernel_rfl) | (refine callP (check_ok l (by omega)) ?_; simp -dsimp -implicitDefEqProofs only [go_sem, ↓reduceIte, reduceCtorEq, Nat.reduceLT, Nat.reduceLeDiff, Nat.reduceEqDiff, Nat.reduceAdd, Nat.reduceMul, Nat.reduceSub, Nat.reduceBEq, Int.reduceLT, Int.reduceLE, Int.reduceEq, Int.reduceBEq, Int.reduceNeg]) | omega)
  rename_i hc h1 h2 h3 h4 h5 h6 h7 h8 h9 h10
  have hw : IntKind.i64.wrap (1099511627776 - W) = 1099511627776 - W := by rw [wrap64] <;> omega
  rw [hw] at h10
  have hw2 : IntKind.i64.wrap (now + W) = now + W := by rw [wrap64] <;> omega
  refine callP (Spend_ok l ⟨_, _, _, _, _, _, _⟩ _ _ _ (by omega)) ?_
  obtain ⟨l', c, hs⟩ : ∃ l' c, SpendV l M W r a now = (l', c) := ⟨_, _, rfl⟩
  have n1 := SpendV_short l M W r a now (by omega)
  have hr := spend_refused (l := l) (M := M) (W := W) (r := r) (a := a) (now := now)
  rw [hs] at n1 hr
  simp only at n1
  by_cases hc0 : c = 0
  · subst hc0
    have g := spend_law hs
    have hM : M ≠ 0 := by omega
    obtain ⟨hm, hu⟩ := again_here g hM
    obtain ⟨k1, k2⟩ := begun_key l W a r now
    simp -dsimp -implicitDefEqProofs only [hs, go_sem, ↓reduceIte, reduceCtorEq, Nat.reduceLT, Nat.reduceLeDiff, Nat.reduceEqDiff, Nat.reduceAdd, Nat.reduceMul, Nat.reduceSub, Nat.reduceBEq, Int.reduceLT, Int.reduceLE, Int.reduceEq, Int.reduceBEq, Int.reduceNeg]
    refine vfor sitOk (ι := AgInv l' a r now) (fun v => ⟨149, [(16, aI v.i), (14, aO 504), (13, aP 448 0), (0, aD (spsD l)), (1, aI M), (2, aI W), (3, aI r), (4, aI a), (5, aI now)],
      [(504, some (.row 4 40 (l'.map Sp.cells) true)), (448, some (.var [.d (.v (.string ByteArray.empty)), cB false, .nils 1, .d (.v (.int .u64 0)), cI 0, cI M, cI W] true))], 576⟩) (fun v => l'.length - v.i) ⟨0, by omega, by simp⟩ ?_ ?_
    · simp -dsimp -implicitDefEqProofs only [go_sem, ↓reduceIte, reduceCtorEq, Nat.reduceLT, Nat.reduceLeDiff, Nat.reduceEqDiff, Nat.reduceAdd, Nat.reduceMul, Nat.reduceSub, Nat.reduceBEq, Int.reduceLT, Int.reduceLE, Int.reduceEq, Int.reduceBEq, Int.reduceNeg]
    intro ⟨i, hi, hno⟩
    by_cases hil : i < l'.length
    · obtain ⟨y, hy⟩ : ∃ y, l'[i]? = some y := ⟨l'[i], List.getElem?_eq_getElem hil⟩
      have hwi := wrapS hil (by omega)
      have hym := List.mem_of_getElem? hy
      have hyb := okS_bounds (okFrom_all (checkV_zero g.ck').1 y hym)
      have step : (y.A = a → y.R = r → y.S ≤ now) → ∀ x ∈ l'.take (i + 1), keyB a r x = true → x.S ≤ now := fun h x hx hk => by
        rw [takeS hy, List.mem_append] at hx
        rcases hx with hx | hx
        · exact hno x hx hk
        · rw [List.mem_singleton] at hx
          subst hx
          have := keyB_iff.1 hk
          exact h this.1 this.2
      have hlen : y.A = a → y.R = r → now < y.S → l.length = l'.length := fun e1 e2 h => again_len g hM (by rw [← hu y hym (keyB_iff.2 ⟨e1, e2⟩)]; exact h)
      simp -dsimp -implicitDefEqProofs only [hy, forall_eq', go_sem, ↓reduceIte, reduceCtorEq, Nat.reduceLT, Nat.reduceLeDiff, Nat.reduceEqDiff, Nat.reduceAdd, Nat.reduceMul, Nat.reduceSub, Nat.reduceBEq, Int.reduceLT, Int.reduceLE, Int.reduceEq, Int.reduceBEq, Int.reduceNeg]
      repeat' (first | with_reducible apply And.intro | with_reducible intro _ | with_reducible exact drawn (by kernel_rfl) | omega)
      all_goals
        refine again ⟨i + 1, by omega, step (by omega)⟩ (by simp; omega) ?_
        simp -dsimp -implicitDefEqProofs only [hwi, go_sem, ↓reduceIte, reduceCtorEq, Nat.reduceLT, Nat.reduceLeDiff, Nat.reduceEqDiff, Nat.reduceAdd, Nat.reduceMul, Nat.reduceSub, Nat.reduceBEq, Int.reduceLT, Int.reduceLE, Int.reduceEq, Int.reduceBEq, Int.reduceNeg]
    · have ht : l'.take i = l' := List.take_of_length_le (by omega)
      rw [ht] at hno
      have hl := again_left g hM (hno _ hm (keyB_iff.2 ⟨k1, k2⟩)) (by omega)
      simp -dsimp -implicitDefEqProofs only [hw2, go_sem, ↓reduceIte, reduceCtorEq, Nat.reduceLT, Nat.reduceLeDiff, Nat.reduceEqDiff, Nat.reduceAdd, Nat.reduceMul, Nat.reduceSub, Nat.reduceBEq, Int.reduceLT, Int.reduceLE, Int.reduceEq, Int.reduceBEq, Int.reduceNeg]
      repeat' (first | with_reducible apply And.intro | with_reducible intro _ | with_reducible exact drawn (by kernel_rfl) | (refine callP (Left_ok l' ⟨_, _, _, _, _, _, _⟩ _ _ _ (by omega)) ?_; simp -dsimp -implicitDefEqProofs only [hw2, hl, go_sem, ↓reduceIte, reduceCtorEq, Nat.reduceLT, Nat.reduceLeDiff, Nat.reduceEqDiff, Nat.reduceAdd, Nat.reduceMul, Nat.reduceSub, Nat.reduceBEq, Int.reduceLT, Int.reduceLE, Int.reduceEq, Int.reduceBEq, Int.reduceNeg]) | omega)
  · obtain ⟨rfl, _⟩ := hr hc0
    simp -dsimp -implicitDefEqProofs only [hs, go_sem, ↓reduceIte, reduceCtorEq, Nat.reduceLT, Nat.reduceLeDiff, Nat.reduceEqDiff, Nat.reduceAdd, Nat.reduceMul, Nat.reduceSub, Nat.reduceBEq, Int.reduceLT, Int.reduceLE, Int.reduceEq, Int.reduceBEq, Int.reduceNeg]
    repeat' (first | with_reducible apply And.intro | with_reducible intro _ | with_reducible exact drawn (by kernel_rfl) | omega)
theorem budgetAgain_read (x0 x1 x2 x3 x4 x5 : List D) (h0 : shpG tys 6 22 x0) (h1 : shpG tys 6 3 x1) (h2 : shpG tys 6 3 x2) (h3 : shpG tys 6 3 x3) (h4 : shpG tys 6 3 x4) (h5 : shpG tys 6 3 x5) : Meets Try.prog 7 [argC Try.prog 22 x0, argC Try.prog 3 x1, argC Try.prog 3 x2, argC Try.prog 3 x3, argC Try.prog 3 x4, argC Try.prog 3 x5] (rOne (vB true)) := by
  obtain ⟨l, rfl⟩ := read_spents h0
  obtain ⟨M, rfl, _⟩ := read_int h1
  obtain ⟨W, rfl, _⟩ := read_int h2
  obtain ⟨r, rfl, _⟩ := read_int h3
  obtain ⟨a, rfl, _⟩ := read_int h4
  obtain ⟨now, rfl, _⟩ := read_int h5
  rw [arg_spents, arg_int, arg_int, arg_int, arg_int, arg_int]
  exact again_ok l M W r a now
section
open Go.ChangeShapes Go.WideShapes Go.ChangeAt Go.RowKit
set_option maxRecDepth 100000 in
theorem budgetAgain_lifted (os : Os) (started : os.Started) (H : Type) (enc : TypeId × Value → H) :
    ReturnsInHanded {} Try.checked os 7 .any (Rows.budgetAgainSpec.pre6 enc Try.prog Try.f7 Rows.budgetAgainRow.domain false) (Rows.budgetAgainSpec.post enc Try.prog Try.f7 false true false false) := by
  refine returnsInHanded_of_change (C := Try.checked) own started (by kernel_rfl) Try.func7
    (ChangeSpec.witness6 (enc := enc) (C := Try.checked) false ⟨#[], #[.slice none 0 0, .int .i64 0, .int .i64 0, .int .i64 0, .int .i64 0, .int .i64 0], []⟩ 8 (by kernel_rfl) (by kernel_rfl) (by kernel_rfl) (by kernel_rfl)) ?_
  exact row_ok (C := Try.checked) 6 4 laidOut (by kernel_rfl) rfl (by kernel_rfl) rfl (fun ds h => match ds, h with | [_, _, _, _, _, _], _ => rfl) fun dss h => match dss, h with
    | [x0, x1, x2, x3, x4, x5], .cons h0 (.cons h1 (.cons h2 (.cons h3 (.cons h4 (.cons h5 .nil))))) => budgetAgain_read x0 x1 x2 x3 x4 x5 (shp_table tysOk _ _ _ h0) (shp_table tysOk _ _ _ h1) (shp_table tysOk _ _ _ h2) (shp_table tysOk _ _ _ h3) (shp_table tysOk _ _ _ h4) (shp_table tysOk _ _ _ h5)
theorem budgetAgain_holds : Rows.BudgetAgainSaid :=
  OpenClaim.holds_of_wide 7 Try.f7 rfl rfl rfl rfl rfl rfl rfl ⟨rfl, rfl, rfl, rfl, rfl⟩ rfl rfl rfl rfl rfl (by kernel_rfl) Try.func7 (by kernel_rfl)
    (of_decide_eq_true (by kernel_rfl)) (by unfold Func.isWrapper; rw [if_neg (of_decide_eq_false (by kernel_rfl))]; exact ⟨rfl, rfl⟩)
    (fun os started H enc _ => budgetAgain_lifted os started H enc)
end
end Go.Proofs.Ytfidbkmogileiaa
