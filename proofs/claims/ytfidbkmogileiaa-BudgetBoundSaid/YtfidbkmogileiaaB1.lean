/- What was spent, as data; the contracts of number, of, order, Check (both), Same. -/
import Derived.Test.YtfidbkmogileiaaTyp
namespace Go.Proofs.Ytfidbkmogileiaa
open Go.Eng
set_option linter.unusedSimpArgs false
set_option maxRecDepth 10000

theorem wrapS {i n : Nat} (h : i < n) (hn : n ≤ 4611686018427387904) : IntKind.i64.wrap ((i : Int) + 1) = ((i + 1 : Nat) : Int) := by
  rw [wrap64] <;> omega
theorem drop_at {α : Type} {l : List α} {i : Nat} {x : α} (hx : l[i]? = some x) : l.drop i = x :: l.drop (i + 1) := by
  have hil := (List.getElem?_eq_some_iff.1 hx).1
  rw [List.drop_eq_getElem_cons hil]; congr 1; exact Option.some.inj ((List.getElem?_eq_getElem hil).symm.trans hx)

def numB (n : Int) : Bool := decide (0 ≤ n) && decide (n ≤ 1099511627776)
theorem numB_true {n : Int} (h : numB n = true) : 0 ≤ n ∧ n ≤ 1099511627776 := by simpa [numB] using h
def ruleB (n : Int) : Bool := decide (0 ≤ n) && decide (n < 32)

theorem number_ok (n : Int) : Meets Try.prog 23 [(false, [vI n])] (rOne (vB (numB n))) := by
  refine meets Try.func23 rfl rfl Try.ntmps23 Try.results23 rfl ?_
  simp -dsimp -implicitDefEqProofs only [go_sem, ↓reduceIte, reduceCtorEq, Nat.reduceLT, Nat.reduceLeDiff, Nat.reduceEqDiff, Nat.reduceAdd, Nat.reduceMul, Nat.reduceSub, Nat.reduceBEq, Int.reduceLT, Int.reduceLE, Int.reduceEq, Int.reduceBEq, Int.reduceNeg]
  refine ⟨fun h => ?_, fun h => ?_⟩ <;> simp [numB]
  · exact fun _ => h
  · omega
theorem rnumber_ok (n : Int) : Meets Try.prog 26 [(false, [vI n])] (rOne (vB (numB n))) := by
  refine meets Try.func26 rfl rfl Try.ntmps26 Try.results26 rfl ?_
  simp -dsimp -implicitDefEqProofs only [go_sem, ↓reduceIte, reduceCtorEq, Nat.reduceLT, Nat.reduceLeDiff, Nat.reduceEqDiff, Nat.reduceAdd, Nat.reduceMul, Nat.reduceSub, Nat.reduceBEq, Int.reduceLT, Int.reduceLE, Int.reduceEq, Int.reduceBEq, Int.reduceNeg]
  refine ⟨fun h => ?_, fun h => ?_⟩ <;> simp [numB]
  · exact fun _ => h
  · omega
theorem rnumbered_ok (n : Int) : Meets Try.prog 27 [(false, [vI n])] (rOne (vB (ruleB n))) := by
  refine meets Try.func27 rfl rfl Try.ntmps27 Try.results27 rfl ?_
  simp -dsimp -implicitDefEqProofs only [go_sem, ↓reduceIte, reduceCtorEq, Nat.reduceLT, Nat.reduceLeDiff, Nat.reduceEqDiff, Nat.reduceAdd, Nat.reduceMul, Nat.reduceSub, Nat.reduceBEq, Int.reduceLT, Int.reduceLE, Int.reduceEq, Int.reduceBEq, Int.reduceNeg]
  refine ⟨fun h => ?_, fun h => ?_⟩ <;> simp [ruleB]
  · exact fun _ => h
  · omega

/-- What was spent: the account, the rule, since when, how many. -/
structure Sp where
  A : Int
  R : Int
  S : Int
  M : Int
  deriving DecidableEq
def Sp.cells (x : Sp) : List D := [dI x.A, dI x.R, dI x.S, dI x.M]
attribute [go_sem] Sp.cells
abbrev spsD (l : List Sp) : D := .vec 4 (l.map Sp.cells)

theorem of_ok (x : Sp) : Meets Try.prog 25 [(true, [vI x.A, vI x.R, vI x.S, vI x.M])] (rAgg [vI x.A, vI x.R]) := by
  refine meets Try.func25 rfl rfl Try.ntmps25 Try.results25 rfl ?_
  simp -dsimp -implicitDefEqProofs only [go_sem, ↓reduceIte, reduceCtorEq, Nat.reduceLT, Nat.reduceLeDiff, Nat.reduceEqDiff, Nat.reduceAdd, Nat.reduceMul, Nat.reduceSub, Nat.reduceBEq, Int.reduceLT, Int.reduceLE, Int.reduceEq, Int.reduceBEq, Int.reduceNeg]

/-- How two stand to each other. -/
def ordV (a r a' r' : Int) : Int := if a = a' ∧ r = r' then 0 else if a < a' ∨ a = a' ∧ r < r' then -1 else 1
theorem order_ok (a r a' r' : Int) : Meets Try.prog 24 [(true, [vI a, vI r]), (true, [vI a', vI r'])] (rOne (vI (ordV a r a' r'))) := by
  refine meets Try.func24 rfl rfl Try.ntmps24 Try.results24 rfl ?_
  simp -dsimp -implicitDefEqProofs only [go_sem, ↓reduceIte, reduceCtorEq, Nat.reduceLT, Nat.reduceLeDiff, Nat.reduceEqDiff, Nat.reduceAdd, Nat.reduceMul, Nat.reduceSub, Nat.reduceBEq, Int.reduceLT, Int.reduceLE, Int.reduceEq, Int.reduceBEq, Int.reduceNeg]
  unfold ordV
  refine ⟨fun h => ?_, fun h => ⟨fun h1 => ⟨fun h2 => ⟨fun h3 => ?_, fun h3 => ?_⟩, fun h2 => ?_⟩, fun h1 => ?_⟩⟩ <;> (split <;> (try split) <;> omega)

theorem ordV_lt {a r a' r' : Int} : ordV a r a' r' < 0 ↔ a < a' ∨ a = a' ∧ r < r' := by
  unfold ordV; split <;> (try split) <;> omega

def okS (x : Sp) : Bool := numB x.A && ruleB x.R && numB x.S && !decide (x.M = 0) && numB x.M
/-- All is in bounds and rises, from behind p on. -/
def okFrom : Option Sp → List Sp → Bool
  | _, [] => true
  | p, x :: r => okS x && (match p with | none => true | some q => decide (ordV q.A q.R x.A x.R < 0)) && okFrom (some x) r
def prevAt (l : List Sp) : Nat → Option Sp
  | 0 => none
  | i + 1 => l[i]?
def checkV (l : List Sp) : Int := if okFrom none l then (if 1024 < l.length then 2 else 0) else 1

structure CkInv (l : List Sp) where
  i : Nat
  le : i ≤ l.length
  eq : okFrom none l = okFrom (prevAt l i) (l.drop i)

theorem check_ok (l : List Sp) (hl : l.length ≤ 1000000) : Meets Try.prog 13 [(false, [vD (spsD l)])] (rOne (vI (checkV l))) := by
  refine meets Try.func13 rfl rfl Try.ntmps13 Try.results13 rfl ?_
  simp -dsimp -implicitDefEqProofs only [go_sem, ↓reduceIte, reduceCtorEq, Nat.reduceLT, Nat.reduceLeDiff, Nat.reduceEqDiff, Nat.reduceAdd, Nat.reduceMul, Nat.reduceSub, Nat.reduceBEq, Int.reduceLT, Int.reduceLE, Int.reduceEq, Int.reduceBEq, Int.reduceNeg]
  refine vfor sitOk (ι := CkInv l) (fun v => ⟨63, [(7, aI v.i), (6, aI l.length), (5, aD (spsD l)), (2, aI 0), (0, aD (spsD l))], [], 1⟩) (fun v => l.length - v.i) ⟨0, by omega, rfl⟩ ?_ ?_
  · simp -dsimp -implicitDefEqProofs only [go_sem, ↓reduceIte, reduceCtorEq, Nat.reduceLT, Nat.reduceLeDiff, Nat.reduceEqDiff, Nat.reduceAdd, Nat.reduceMul, Nat.reduceSub, Nat.reduceBEq, Int.reduceLT, Int.reduceLE, Int.reduceEq, Int.reduceBEq, Int.reduceNeg]
  intro ⟨i, hi, he⟩
  simp -dsimp -implicitDefEqProofs only [go_sem, ↓reduceIte, reduceCtorEq, Nat.reduceLT, Nat.reduceLeDiff, Nat.reduceEqDiff, Nat.reduceAdd, Nat.reduceMul, Nat.reduceSub, Nat.reduceBEq, Int.reduceLT, Int.reduceLE, Int.reduceEq, Int.reduceBEq, Int.reduceNeg]
  refine ⟨fun hlt => ⟨by omega, by omega, fun x hx => callP (number_ok _) ?_⟩, fun hge => ?_⟩
  · have hil : i < l.length := by omega
    have hd := drop_at hx
    have hw := wrapS hil (by omega)
    have c0 : i = 0 ∨ ∃ k y, i = k + 1 ∧ l[k]? = some y ∧ prevAt l i = some y := by
      cases i with
      | zero => exact .inl rfl
      | succ k => exact .inr ⟨k, l[k], rfl, List.getElem?_eq_getElem (by omega), List.getElem?_eq_getElem (by omega)⟩
    have bad : okS x = false → 1 = checkV l := fun h => by simp [checkV, he, hd, okFrom, h]
    rcases c0 with rfl | ⟨k, y, rfl, hy, hp⟩
    · simp -dsimp -implicitDefEqProofs only [hw, go_sem, ↓reduceIte, reduceCtorEq, Nat.reduceLT, Nat.reduceLeDiff, Nat.reduceEqDiff, Nat.reduceAdd, Nat.reduceMul, Nat.reduceSub, Nat.reduceBEq, Int.reduceLT, Int.reduceLE, Int.reduceEq, Int.reduceBEq, Int.reduceNeg]
      repeat' (first | with_reducible apply And.intro | with_reducible intro _ | with_reducible exact drawn (by kernel_rfl) | (refine callP (number_ok _) ?_; simp -dsimp -implicitDefEqProofs only [go_sem, ↓reduceIte, reduceCtorEq, Nat.reduceLT, Nat.reduceLeDiff, Nat.reduceEqDiff, Nat.reduceAdd, Nat.reduceMul, Nat.reduceSub, Nat.reduceBEq, Int.reduceLT, Int.reduceLE, Int.reduceEq, Int.reduceBEq, Int.reduceNeg]) | omega)
      all_goals try (with_reducible refine bad ?_; first | (simp [okS, *]; done) | (simp [okS, ruleB, *]; done) | (simp [okS, ruleB, *]; omega))
      refine again ⟨1, by omega, by
        have good : okS x = true := by simp [okS, ruleB, *]
        simp only [List.drop_zero] at hd
        rw [he, List.drop_zero, hd]; simp [okFrom, prevAt, good, hx]⟩ (by simp; omega) ?_
      simp -dsimp -implicitDefEqProofs only [go_sem, ↓reduceIte, reduceCtorEq, Nat.reduceLT, Nat.reduceLeDiff, Nat.reduceEqDiff, Nat.reduceAdd, Nat.reduceMul, Nat.reduceSub, Nat.reduceBEq, Int.reduceLT, Int.reduceLE, Int.reduceEq, Int.reduceBEq, Int.reduceNeg]; rfl
    · have hw2 : IntKind.i64.wrap (((k + 1 : Nat) : Int) - 1) = (k : Int) := by rw [wrap64] <;> omega
      have hw3 : l[k]? = some y := hy
      simp -dsimp -implicitDefEqProofs only [hw, hw2, hw3, forall_eq', go_sem, ↓reduceIte, reduceCtorEq, Nat.reduceLT, Nat.reduceLeDiff, Nat.reduceEqDiff, Nat.reduceAdd, Nat.reduceMul, Nat.reduceSub, Nat.reduceBEq, Int.reduceLT, Int.reduceLE, Int.reduceEq, Int.reduceBEq, Int.reduceNeg]
      repeat' (first | with_reducible apply And.intro | with_reducible intro _ | with_reducible exact drawn (by kernel_rfl) | (refine callP (number_ok _) ?_; simp -dsimp -implicitDefEqProofs only [hw, hw2, hw3, forall_eq', go_sem, ↓reduceIte, reduceCtorEq, Nat.reduceLT, Nat.reduceLeDiff, Nat.reduceEqDiff, Nat.reduceAdd, Nat.reduceMul, Nat.reduceSub, Nat.reduceBEq, Int.reduceLT, Int.reduceLE, Int.reduceEq, Int.reduceBEq, Int.reduceNeg]) | (refine callP (of_ok _) ?_; simp -dsimp -implicitDefEqProofs only [hw, hw2, hw3, forall_eq', go_sem, ↓reduceIte, reduceCtorEq, Nat.reduceLT, Nat.reduceLeDiff, Nat.reduceEqDiff, Nat.reduceAdd, Nat.reduceMul, Nat.reduceSub, Nat.reduceBEq, Int.reduceLT, Int.reduceLE, Int.reduceEq, Int.reduceBEq, Int.reduceNeg]) | (refine callP (order_ok _ _ _ _) ?_; simp -dsimp -implicitDefEqProofs only [hw, hw2, hw3, forall_eq', go_sem, ↓reduceIte, reduceCtorEq, Nat.reduceLT, Nat.reduceLeDiff, Nat.reduceEqDiff, Nat.reduceAdd, Nat.reduceMul, Nat.reduceSub, Nat.reduceBEq, Int.reduceLT, Int.reduceLE, Int.reduceEq, Int.reduceBEq, Int.reduceNeg]) | omega)
      all_goals try (with_reducible refine bad ?_; first | (simp [okS, *]; done) | (simp [okS, ruleB, *]; done) | (simp [okS, ruleB, *]; omega))
      · rename_i ho
        have ho' : ¬ ordV y.A y.R x.A x.R < 0 := by omega
        simp [checkV, he, hp, hd, okFrom, ho']
      · rename_i ho
        have good : okS x = true := by simp [okS, ruleB, *]
        refine again ⟨k + 1 + 1, by omega, by rw [he, hp, hd]; simp [okFrom, prevAt, good, hx, ho]⟩ (by simp; omega) ?_
        simp -dsimp -implicitDefEqProofs only [go_sem, ↓reduceIte, reduceCtorEq, Nat.reduceLT, Nat.reduceLeDiff, Nat.reduceEqDiff, Nat.reduceAdd, Nat.reduceMul, Nat.reduceSub, Nat.reduceBEq, Int.reduceLT, Int.reduceLE, Int.reduceEq, Int.reduceBEq, Int.reduceNeg]
  · have hd : l.drop i = [] := List.drop_eq_nil_of_le (by omega)
    refine ⟨fun h1 => ?_, fun h1 => ?_⟩ <;> simp [checkV, he, hd, okFrom] <;> omega

theorem rcheck_ok (l : List Sp) (hl : l.length ≤ 1000000) : Meets Try.prog 14 [(false, [vD (spsD l)])] (rOne (vI (checkV l))) := by
  refine meets Try.func14 rfl rfl Try.ntmps14 Try.results14 rfl ?_
  simp -dsimp -implicitDefEqProofs only [go_sem, ↓reduceIte, reduceCtorEq, Nat.reduceLT, Nat.reduceLeDiff, Nat.reduceEqDiff, Nat.reduceAdd, Nat.reduceMul, Nat.reduceSub, Nat.reduceBEq, Int.reduceLT, Int.reduceLE, Int.reduceEq, Int.reduceBEq, Int.reduceNeg]
  refine vfor sitOk (ι := CkInv l) (fun v => ⟨80, [(3, aI v.i), (2, aI 0), (0, aD (spsD l))], [], 16⟩) (fun v => l.length - v.i) ⟨0, by omega, rfl⟩ ?_ ?_
  · simp -dsimp -implicitDefEqProofs only [go_sem, ↓reduceIte, reduceCtorEq, Nat.reduceLT, Nat.reduceLeDiff, Nat.reduceEqDiff, Nat.reduceAdd, Nat.reduceMul, Nat.reduceSub, Nat.reduceBEq, Int.reduceLT, Int.reduceLE, Int.reduceEq, Int.reduceBEq, Int.reduceNeg]
  intro ⟨i, hi, he⟩
  simp -dsimp -implicitDefEqProofs only [go_sem, ↓reduceIte, reduceCtorEq, Nat.reduceLT, Nat.reduceLeDiff, Nat.reduceEqDiff, Nat.reduceAdd, Nat.reduceMul, Nat.reduceSub, Nat.reduceBEq, Int.reduceLT, Int.reduceLE, Int.reduceEq, Int.reduceBEq, Int.reduceNeg]
  refine ⟨fun hlt => ⟨by omega, by omega, fun x hx => callP (rnumber_ok _) ?_⟩, fun hge => ?_⟩
  · have hil : i < l.length := by omega
    have hd := drop_at hx
    have hw := wrapS hil (by omega)
    have c0 : i = 0 ∨ ∃ k y, i = k + 1 ∧ l[k]? = some y ∧ prevAt l i = some y := by
      cases i with
      | zero => exact .inl rfl
      | succ k => exact .inr ⟨k, l[k], rfl, List.getElem?_eq_getElem (by omega), List.getElem?_eq_getElem (by omega)⟩
    have bad : okS x = false → 1 = checkV l := fun h => by simp [checkV, he, hd, okFrom, h]
    rcases c0 with rfl | ⟨k, y, rfl, hy, hp⟩
    · simp -dsimp -implicitDefEqProofs only [hw, go_sem, ↓reduceIte, reduceCtorEq, Nat.reduceLT, Nat.reduceLeDiff, Nat.reduceEqDiff, Nat.reduceAdd, Nat.reduceMul, Nat.reduceSub, Nat.reduceBEq, Int.reduceLT, Int.reduceLE, Int.reduceEq, Int.reduceBEq, Int.reduceNeg]
      repeat' (first | with_reducible apply And.intro | with_reducible intro _ | with_reducible exact drawn (by kernel_rfl) | (refine callP (rnumber_ok _) ?_; simp -dsimp -implicitDefEqProofs only [go_sem, ↓reduceIte, reduceCtorEq, Nat.reduceLT, Nat.reduceLeDiff, Nat.reduceEqDiff, Nat.reduceAdd, Nat.reduceMul, Nat.reduceSub, Nat.reduceBEq, Int.reduceLT, Int.reduceLE, Int.reduceEq, Int.reduceBEq, Int.reduceNeg]) | (refine callP (rnumbered_ok _) ?_; simp -dsimp -implicitDefEqProofs only [go_sem, ↓reduceIte, reduceCtorEq, Nat.reduceLT, Nat.reduceLeDiff, Nat.reduceEqDiff, Nat.reduceAdd, Nat.reduceMul, Nat.reduceSub, Nat.reduceBEq, Int.reduceLT, Int.reduceLE, Int.reduceEq, Int.reduceBEq, Int.reduceNeg]) | omega)
      all_goals try (with_reducible refine bad ?_; first | (simp [okS, *]; done) | (simp [okS, ruleB, *]; done) | (simp [okS, ruleB, *]; omega))
      · rename_i hm1 hm2
        have hm3 := numB_true hm1
        exact bad (by have : x.M = 0 := by omega
                      simp [okS, this])
      refine again ⟨1, by omega, by
        rename_i hm1 hm2
        have good : okS x = true := by simp [okS, *]; omega
        simp only [List.drop_zero] at hd
        rw [he, List.drop_zero, hd]; simp [okFrom, prevAt, good, hx]⟩ (by simp; omega) ?_
      simp -dsimp -implicitDefEqProofs only [go_sem, ↓reduceIte, reduceCtorEq, Nat.reduceLT, Nat.reduceLeDiff, Nat.reduceEqDiff, Nat.reduceAdd, Nat.reduceMul, Nat.reduceSub, Nat.reduceBEq, Int.reduceLT, Int.reduceLE, Int.reduceEq, Int.reduceBEq, Int.reduceNeg]; rfl
    · have hw2 : IntKind.i64.wrap (((k + 1 : Nat) : Int) - 1) = (k : Int) := by rw [wrap64] <;> omega
      have hw3 : l[k]? = some y := hy
      simp -dsimp -implicitDefEqProofs only [hw, hw2, hw3, forall_eq', go_sem, ↓reduceIte, reduceCtorEq, Nat.reduceLT, Nat.reduceLeDiff, Nat.reduceEqDiff, Nat.reduceAdd, Nat.reduceMul, Nat.reduceSub, Nat.reduceBEq, Int.reduceLT, Int.reduceLE, Int.reduceEq, Int.reduceBEq, Int.reduceNeg]
      repeat' (first | with_reducible apply And.intro | with_reducible intro _ | with_reducible exact drawn (by kernel_rfl) | (refine callP (rnumber_ok _) ?_; simp -dsimp -implicitDefEqProofs only [hw, hw2, hw3, forall_eq', go_sem, ↓reduceIte, reduceCtorEq, Nat.reduceLT, Nat.reduceLeDiff, Nat.reduceEqDiff, Nat.reduceAdd, Nat.reduceMul, Nat.reduceSub, Nat.reduceBEq, Int.reduceLT, Int.reduceLE, Int.reduceEq, Int.reduceBEq, Int.reduceNeg]) | (refine callP (rnumbered_ok _) ?_; simp -dsimp -implicitDefEqProofs only [hw, hw2, hw3, forall_eq', go_sem, ↓reduceIte, reduceCtorEq, Nat.reduceLT, Nat.reduceLeDiff, Nat.reduceEqDiff, Nat.reduceAdd, Nat.reduceMul, Nat.reduceSub, Nat.reduceBEq, Int.reduceLT, Int.reduceLE, Int.reduceEq, Int.reduceBEq, Int.reduceNeg]) | omega)
      all_goals try (with_reducible refine bad ?_; first | (simp [okS, *]; done) | (simp [okS, ruleB, *]; done) | (simp [okS, ruleB, *]; omega))
      · rename_i hm1 hm2
        have hm3 := numB_true hm1
        exact bad (by have : x.M = 0 := by omega
                      simp [okS, this])
      · have ho : ¬ ordV y.A y.R x.A x.R < 0 := by rw [ordV_lt]; omega
        simp [checkV, he, hp, hd, okFrom, ho]
      · have ho : ordV y.A y.R x.A x.R < 0 := by rw [ordV_lt]; omega
        have good : okS x = true := by simp [okS, *]; omega
        refine again ⟨k + 1 + 1, by omega, by rw [he, hp, hd]; simp [okFrom, prevAt, good, hx, ho]⟩ (by simp; omega) ?_
        simp -dsimp -implicitDefEqProofs only [go_sem, ↓reduceIte, reduceCtorEq, Nat.reduceLT, Nat.reduceLeDiff, Nat.reduceEqDiff, Nat.reduceAdd, Nat.reduceMul, Nat.reduceSub, Nat.reduceBEq, Int.reduceLT, Int.reduceLE, Int.reduceEq, Int.reduceBEq, Int.reduceNeg]
      · have ho : ordV y.A y.R x.A x.R < 0 := by rw [ordV_lt]; omega
        have good : okS x = true := by simp [okS, *]; omega
        refine again ⟨k + 1 + 1, by omega, by rw [he, hp, hd]; simp [okFrom, prevAt, good, hx, ho]⟩ (by simp; omega) ?_
        simp -dsimp -implicitDefEqProofs only [go_sem, ↓reduceIte, reduceCtorEq, Nat.reduceLT, Nat.reduceLeDiff, Nat.reduceEqDiff, Nat.reduceAdd, Nat.reduceMul, Nat.reduceSub, Nat.reduceBEq, Int.reduceLT, Int.reduceLE, Int.reduceEq, Int.reduceBEq, Int.reduceNeg]
      · have ho : ¬ ordV y.A y.R x.A x.R < 0 := by rw [ordV_lt]; omega
        simp [checkV, he, hp, hd, okFrom, ho]
  · have hd : l.drop i = [] := List.drop_eq_nil_of_le (by omega)
    refine ⟨fun h1 => ?_, fun h1 => ?_⟩ <;> simp [checkV, he, hd, okFrom] <;> omega

structure SmInv (l l2 : List Sp) where
  i : Nat
  le : i ≤ l.length
  eq : l.take i = l2.take i

theorem same_ok (l l2 : List Sp) (hl : l.length ≤ 1000000) : Meets Try.prog 19 [(false, [vD (spsD l)]), (false, [vD (spsD l2)])] (rOne (vB (decide (l = l2)))) := by
  refine meets Try.func19 rfl rfl Try.ntmps19 Try.results19 rfl ?_
  simp -dsimp -implicitDefEqProofs only [go_sem, ↓reduceIte, reduceCtorEq, Nat.reduceLT, Nat.reduceLeDiff, Nat.reduceEqDiff, Nat.reduceAdd, Nat.reduceMul, Nat.reduceSub, Nat.reduceBEq, Int.reduceLT, Int.reduceLE, Int.reduceEq, Int.reduceBEq, Int.reduceNeg]
  refine ⟨fun h1 => ?_, fun h1 => ?_⟩
  · have : ¬ l = l2 := fun e => h1 (by rw [e])
    simp [this]
  refine vfor sitOk (ι := SmInv l l2) (fun v => ⟨26, [(5, aI v.i), (4, aB false), (0, aD (spsD l)), (1, aD (spsD l2))], [], 56⟩) (fun v => l.length - v.i) ⟨0, by omega, by simp⟩ ?_ ?_
  · simp -dsimp -implicitDefEqProofs only [go_sem, ↓reduceIte, reduceCtorEq, Nat.reduceLT, Nat.reduceLeDiff, Nat.reduceEqDiff, Nat.reduceAdd, Nat.reduceMul, Nat.reduceSub, Nat.reduceBEq, Int.reduceLT, Int.reduceLE, Int.reduceEq, Int.reduceBEq, Int.reduceNeg]
  intro ⟨i, hi, he⟩
  simp -dsimp -implicitDefEqProofs only [go_sem, ↓reduceIte, reduceCtorEq, Nat.reduceLT, Nat.reduceLeDiff, Nat.reduceEqDiff, Nat.reduceAdd, Nat.reduceMul, Nat.reduceSub, Nat.reduceBEq, Int.reduceLT, Int.reduceLE, Int.reduceEq, Int.reduceBEq, Int.reduceNeg]
  refine ⟨fun hlt => ⟨by omega, by omega, fun x hx => ⟨by omega, by omega, fun y hy => ⟨drawn (by kernel_rfl), fun c => ?_, fun c => ?_⟩⟩⟩, fun hge => ?_⟩
  · have : ¬ l = l2 := fun e => by rw [e, hy] at hx; cases hx; exact c rfl rfl rfl rfl
    simp [this]
  · have exy : x = y := by cases x; cases y; simp at c; simp [c]
    refine again ⟨i + 1, by omega, by rw [List.take_add_one, List.take_add_one, he, hx, hy, exy]⟩ (by simp; omega) ?_
    simp -dsimp -implicitDefEqProofs only [wrapS (show i < l.length by omega) (show l.length ≤ 4611686018427387904 by omega), go_sem, ↓reduceIte, reduceCtorEq, Nat.reduceLT, Nat.reduceLeDiff, Nat.reduceEqDiff, Nat.reduceAdd, Nat.reduceMul, Nat.reduceSub, Nat.reduceBEq, Int.reduceLT, Int.reduceLE, Int.reduceEq, Int.reduceBEq, Int.reduceNeg]
  · rw [List.take_of_length_le (by omega), List.take_of_length_le (by omega)] at he
    simp [he]
end Go.Proofs.Ytfidbkmogileiaa
