
/- What was spent, as data; the contracts of number, of, order, Check (both), Same. The library's functions that this layer calls. Plain laws: lists of what was spent that rise. -/
import Derived.Test.YtfidbkmogileiaaTyp
namespace Go.Proofs.Ytfidbkmogileiaa
open Go.Eng
set_option linter.unusedSimpArgs false
set_option maxRecDepth 10000

theorem wrapS {i n : Nat} (h : i < n) (hn : n ≤ 4611686018427387904) : IntKind.i64.wrap ((i : Int) + 1) = ((i + 1 : Nat) : Int) := by
  rw [wrap64] <;> omega
theorem drop_at {α : Type} {l : List α} {i : Nat} {x : α} (hx : l[i]? = some x) : l.drop i = x :: l.drop (i + 1) := by
  have hil := (List.getElem?_eq_some_iff.1 hx).1
  rw [List.drop_eq_getElem_cons hil]; congr 1; exact Option.some.inj ((List.getElem?_eq_getElem hil).symm.trans hx)

def numB (n : Int) : Bool := decide (0 ≤ n) && decide (n ≤ 1099511627776)
theorem numB_true {n : Int} (h : numB n = true) : 0 ≤ n ∧ n ≤ 1099511627776 := by simpa [numB] using h
def ruleB (n : Int) : Bool := decide (0 ≤ n) && decide (n < 32)

theorem number_ok (n : Int) : Meets Try.prog 23 [(false, [vI n])] (rOne (vB (numB n))) := by
  refine meets Try.func23 rfl rfl Try.ntmps23 Try.results23 rfl ?_
  simp -dsimp -implicitDefEqProofs only [go_sem, ↓reduceIte, reduceCtorEq, Nat.reduceLT, Nat.reduceLeDiff, Nat.reduceEqDiff, Nat.reduceAdd, Nat.reduceMul, Nat.reduceSub, Nat.reduceBEq, Int.reduceLT, Int.reduceLE, Int.reduceEq, Int.reduceBEq, Int.reduceNeg]
  refine ⟨fun h => ?_, fun h => ?_⟩ <;> simp [numB]
  · exact fun _ => h
  · omega
theorem rnumber_ok (n : Int) : Meets Try.prog 26 [(false, [vI n])] (rOne (vB (numB n))) := by
  refine meets Try.func26 rfl rfl Try.ntmps26 Try.results26 rfl ?_
  simp -dsimp -implicitDefEqProofs only [go_sem, ↓reduceIte, reduceCtorEq, Nat.reduceLT, Nat.reduceLeDiff, Nat.reduceEqDiff, Nat.reduceAdd, Nat.reduceMul, Nat.reduceSub, Nat.reduceBEq, Int.reduceLT, Int.reduceLE, Int.reduceEq, Int.reduceBEq, Int.reduceNeg]
  refine ⟨fun h => ?_, fun h => ?_⟩ <;> simp [numB]
  · exact fun _ => h
  · omega
theorem rnumbered_ok (n : Int) : Meets Try.prog 27 [(false, [vI n])] (rOne (vB (ruleB n))) := by
  refine meets Try.func27 rfl rfl Try.ntmps27 Try.results27 rfl ?_
  simp -dsimp -implicitDefEqProofs only [go_sem, ↓reduceIte, reduceCtorEq, Nat.reduceLT, Nat.reduceLeDiff, Nat.reduceEqDiff, Nat.reduceAdd, Nat.reduceMul, Nat.reduceSub, Nat.reduceBEq, Int.reduceLT, Int.reduceLE, Int.reduceEq, Int.reduceBEq, Int.reduceNeg]
  refine ⟨fun h => ?_, fun h => ?_⟩ <;> simp [ruleB]
  · exact fun _ => h
  · omega

/-- What was spent: the account, the rule, since when, how many. -/
structure Sp where
  A : Int
  R : Int
  S : Int
  M : Int
  deriving DecidableEq
def Sp.cells (x : Sp) : List D := [dI x.A, dI x.R, dI x.S, dI x.M]
attribute [go_sem] Sp.cells
abbrev spsD (l : List Sp) : D := .vec 4 (l.map Sp.cells)

theorem of_ok (x : Sp) : Meets Try.prog 25 [(true, [vI x.A, vI x.R, vI x.S, vI x.M])] (rAgg [vI x.A, vI x.R]) := by
  refine meets Try.func25 rfl rfl Try.ntmps25 Try.results25 rfl ?_
  simp -dsimp -implicitDefEqProofs only [go_sem, ↓reduceIte, reduceCtorEq, Nat.reduceLT, Nat.reduceLeDiff, Nat.reduceEqDiff, Nat.reduceAdd, Nat.reduceMul, Nat.reduceSub, Nat.reduceBEq, Int.reduceLT, Int.reduceLE, Int.reduceEq, Int.reduceBEq, Int.reduceNeg]

/-- How two stand to each other. -/
def ordV (a r a' r' : Int) : Int := if a = a' ∧ r = r' then 0 else if a < a' ∨ a = a' ∧ r < r' then -1 else 1
theorem order_ok (a r a' r' : Int) : Meets Try.prog 24 [(true, [vI a, vI r]), (true, [vI a', vI r'])] (rOne (vI (ordV a r a' r'))) := by
  refine meets Try.func24 rfl rfl Try.ntmps24 Try.results24 rfl ?_
  simp -dsimp -implicitDefEqProofs only [go_sem, ↓reduceIte, reduceCtorEq, Nat.reduceLT, Nat.reduceLeDiff, Nat.reduceEqDiff, Nat.reduceAdd, Nat.reduceMul, Nat.reduceSub, Nat.reduceBEq, Int.reduceLT, Int.reduceLE, Int.reduceEq, Int.reduceBEq, Int.reduceNeg]
  unfold ordV
  refine ⟨fun h => ?_, fun h => ⟨fun h1 => ⟨fun h2 => ⟨fun h3 => ?_, fun h3 => ?_⟩, fun h2 => ?_⟩, fun h1 => ?_⟩⟩ <;> (split <;> (try split) <;> omega)

theorem ordV_lt {a r a' r' : Int} : ordV a r a' r' < 0 ↔ a < a' ∨ a = a' ∧ r < r' := by
  unfold ordV; split <;> (try split) <;> omega

def okS (x : Sp) : Bool := numB x.A && ruleB x.R && numB x.S && !decide (x.M = 0) && numB x.M
/-- All is in bounds and rises, from behind p on. -/
def okFrom : Option Sp → List Sp → Bool
  | _, [] => true
  | p, x :: r => okS x && (match p with | none => true | some q => decide (ordV q.A q.R x.A x.R < 0)) && okFrom (some x) r
def prevAt (l : List Sp) : Nat → Option Sp
  | 0 => none
  | i + 1 => l[i]?
def checkV (l : List Sp) : Int := if okFrom none l then (if 1024 < l.length then 2 else 0) else 1

structure CkInv (l : List Sp) where
  i : Nat
  le : i ≤ l.length
  eq : okFrom none l = okFrom (prevAt l i) (l.drop i)

theorem check_ok (l : List Sp) (hl : l.length ≤ 1000000) : Meets Try.prog 13 [(false, [vD (spsD l)])] (rOne (vI (checkV l))) := by
  refine meets Try.func13 rfl rfl Try.ntmps13 Try.results13 rfl ?_
  simp -dsimp -implicitDefEqProofs only [go_sem, ↓reduceIte, reduceCtorEq, Nat.reduceLT, Nat.reduceLeDiff, Nat.reduceEqDiff, Nat.reduceAdd, Nat.reduceMul, Nat.reduceSub, Nat.reduceBEq, Int.reduceLT, Int.reduceLE, Int.reduceEq, Int.reduceBEq, Int.reduceNeg]
  refine vfor sitOk (ι := CkInv l) (fun v => ⟨63, [(7, aI v.i), (6, aI l.length), (5, aD (spsD l)), (2, aI 0), (0, aD (spsD l))], [], 1⟩) (fun v => l.length - v.i) ⟨0, by omega, rfl⟩ ?_ ?_
  · simp -dsimp -implicitDefEqProofs only [go_sem, ↓reduceIte, reduceCtorEq, Nat.reduceLT, Nat.reduceLeDiff, Nat.reduceEqDiff, Nat.reduceAdd, Nat.reduceMul, Nat.reduceSub, Nat.reduceBEq, Int.reduceLT, Int.reduceLE, Int.reduceEq, Int.reduceBEq, Int.reduceNeg]
  intro ⟨i, hi, he⟩
  simp -dsimp -implicitDefEqProofs only [go_sem, ↓reduceIte, reduceCtorEq, Nat.reduceLT, Nat.reduceLeDiff, Nat.reduceEqDiff, Nat.reduceAdd, Nat.reduceMul, Nat.reduceSub, Nat.reduceBEq, Int.reduceLT, Int.reduceLE, Int.reduceEq, Int.reduceBEq, Int.reduceNeg]
  refine ⟨fun hlt => ⟨by omega, by omega, fun x hx => callP (number_ok _) ?_⟩, fun hge => ?_⟩
  · have hil : i < l.length := by omega
    have hd := drop_at hx
    have hw := wrapS hil (by omega)
    have c0 : i = 0 ∨ ∃ k y, i = k + 1 ∧ l[k]? = some y ∧ prevAt l i = some y := by
      cases i with
      | zero => exact .inl rfl
      | succ k => exact .inr ⟨k, l[k], rfl, List.getElem?_eq_getElem (by omega), List.getElem?_eq_getElem (by omega)⟩
    have bad : okS x = false → 1 = checkV l := fun h => by simp [checkV, he, hd, okFrom, h]
    rcases c0 with rfl | ⟨k, y, rfl, hy, hp⟩
    · simp -dsimp -implicitDefEqProofs only [hw, go_sem, ↓reduceIte, reduceCtorEq, Nat.reduceLT, Nat.reduceLeDiff, Nat.reduceEqDiff, Nat.reduceAdd, Nat.reduceMul, Nat.reduceSub, Nat.reduceBEq, Int.reduceLT, Int.reduceLE, Int.reduceEq, Int.reduceBEq, Int.reduceNeg]
      repeat' (first | with_reducible apply And.intro | with_reducible intro _ | with_reducible exact drawn (by kernel_rfl) | (refine callP (number_ok _) ?_; simp -dsimp -implicitDefEqProofs only [go_sem, ↓reduceIte, reduceCtorEq, Nat.reduceLT, Nat.reduceLeDiff, Nat.reduceEqDiff, Nat.reduceAdd, Nat.reduceMul, Nat.reduceSub, Nat.reduceBEq, Int.reduceLT, Int.reduceLE, Int.reduceEq, Int.reduceBEq, Int.reduceNeg]) | omega)
      all_goals try (with_reducible refine bad ?_; first | (simp [okS, *]; done) | (simp [okS, ruleB, *]; done) | (simp [okS, ruleB, *]; omega))
      refine again ⟨1, by omega, by
        have good : okS x = true := by simp [okS, ruleB, *]
        simp only [List.drop_zero] at hd
        rw [he, List.drop_zero, hd]; simp [okFrom, prevAt, good, hx]⟩ (by simp; omega) ?_
      simp -dsimp -implicitDefEqProofs only [go_sem, ↓reduceIte, reduceCtorEq, Nat.reduceLT, Nat.reduceLeDiff, Nat.reduceEqDiff, Nat.reduceAdd, Nat.reduceMul, Nat.reduceSub, Nat.reduceBEq, Int.reduceLT, Int.reduceLE, Int.reduceEq, Int.reduceBEq, Int.reduceNeg]; rfl
    · have hw2 : IntKind.i64.wrap (((k + 1 : Nat) : Int) - 1) = (k : Int) := by rw [wrap64] <;> omega
      have hw3 : l[k]? = some y := hy
      simp -dsimp -implicitDefEqProofs only [hw, hw2, hw3, forall_eq', go_sem, ↓reduceIte, reduceCtorEq, Nat.reduceLT, Nat.reduceLeDiff, Nat.reduceEqDiff, Nat.reduceAdd, Nat.reduceMul, Nat.reduceSub, Nat.reduceBEq, Int.reduceLT, Int.reduceLE, Int.reduceEq, Int.reduceBEq, Int.reduceNeg]
      repeat' (first | with_reducible apply And.intro | with_reducible intro _ | with_reducible exact drawn (by kernel_rfl) | (refine callP (number_ok _) ?_; simp -dsimp -implicitDefEqProofs only [hw, hw2, hw3, forall_eq', go_sem, ↓reduceIte, reduceCtorEq, Nat.reduceLT, Nat.reduceLeDiff, Nat.reduceEqDiff, Nat.reduceAdd, Nat.reduceMul, Nat.reduceSub, Nat.reduceBEq, Int.reduceLT, Int.reduceLE, Int.reduceEq, Int.reduceBEq, Int.reduceNeg]) | (refine callP (of_ok _) ?_; simp -dsimp -implicitDefEqProofs only [hw, hw2, hw3, forall_eq', go_sem, ↓reduceIte, reduceCtorEq, Nat.reduceLT, Nat.reduceLeDiff, Nat.reduceEqDiff, Nat.reduceAdd, Nat.reduceMul, Nat.reduceSub, Nat.reduceBEq, Int.reduceLT, Int.reduceLE, Int.reduceEq, Int.reduceBEq, Int.reduceNeg]) | (refine callP (order_ok _ _ _ _) ?_; simp -dsimp -implicitDefEqProofs only [hw, hw2, hw3, forall_eq', go_sem, ↓reduceIte, reduceCtorEq, Nat.reduceLT, Nat.reduceLeDiff, Nat.reduceEqDiff, Nat.reduceAdd, Nat.reduceMul, Nat.reduceSub, Nat.reduceBEq, Int.reduceLT, Int.reduceLE, Int.reduceEq, Int.reduceBEq, Int.reduceNeg]) | omega)
      all_goals try (with_reducible refine bad ?_; first | (simp [okS, *]; done) | (simp [okS, ruleB, *]; done) | (simp [okS, ruleB, *]; omega))
      · rename_i ho
        have ho' : ¬ ordV y.A y.R x.A x.R < 0 := by omega
        simp [checkV, he, hp, hd, okFrom, ho']
      · rename_i ho
        have good : okS x = true := by simp [okS, ruleB, *]
        refine again ⟨k + 1 + 1, by omega, by rw [he, hp, hd]; simp [okFrom, prevAt, good, hx, ho]⟩ (by simp; omega) ?_
        simp -dsimp -implicitDefEqProofs only [go_sem, ↓reduceIte, reduceCtorEq, Nat.reduceLT, Nat.reduceLeDiff, Nat.reduceEqDiff, Nat.reduceAdd, Nat.reduceMul, Nat.reduceSub, Nat.reduceBEq, Int.reduceLT, Int.reduceLE, Int.reduceEq, Int.reduceBEq, Int.reduceNeg]
  · have hd : l.drop i = [] := List.drop_eq_nil_of_le (by omega)
    refine ⟨fun h1 => ?_, fun h1 => ?_⟩ <;> simp [checkV, he, hd, okFrom] <;> omega

theorem rcheck_ok (l : List Sp) (hl : l.length ≤ 1000000) : Meets Try.prog 14 [(false, [vD (spsD l)])] (rOne (vI (checkV l))) := by
  refine meets Try.func14 rfl rfl Try.ntmps14 Try.results14 rfl ?_
  simp -dsimp -implicitDefEqProofs only [go_sem, ↓reduceIte, reduceCtorEq, Nat.reduceLT, Nat.reduceLeDiff, Nat.reduceEqDiff, Nat.reduceAdd, Nat.reduceMul, Nat.reduceSub, Nat.reduceBEq, Int.reduceLT, Int.reduceLE, Int.reduceEq, Int.reduceBEq, Int.reduceNeg]
  refine vfor sitOk (ι := CkInv l) (fun v => ⟨80, [(3, aI v.i), (2, aI 0), (0, aD (spsD l))], [], 16⟩) (fun v => l.length - v.i) ⟨0, by omega, rfl⟩ ?_ ?_
  · simp -dsimp -implicitDefEqProofs only [go_sem, ↓reduceIte, reduceCtorEq, Nat.reduceLT, Nat.reduceLeDiff, Nat.reduceEqDiff, Nat.reduceAdd, Nat.reduceMul, Nat.reduceSub, Nat.reduceBEq, Int.reduceLT, Int.reduceLE, Int.reduceEq, Int.reduceBEq, Int.reduceNeg]
  intro ⟨i, hi, he⟩
  simp -dsimp -implicitDefEqProofs only [go_sem, ↓reduceIte, reduceCtorEq, Nat.reduceLT, Nat.reduceLeDiff, Nat.reduceEqDiff, Nat.reduceAdd, Nat.reduceMul, Nat.reduceSub, Nat.reduceBEq, Int.reduceLT, Int.reduceLE, Int.reduceEq, Int.reduceBEq, Int.reduceNeg]
  refine ⟨fun hlt => ⟨by omega, by omega, fun x hx => callP (rnumber_ok _) ?_⟩, fun hge => ?_⟩
  · have hil : i < l.length := by omega
    have hd := drop_at hx
    have hw := wrapS hil (by omega)
    have c0 : i = 0 ∨ ∃ k y, i = k + 1 ∧ l[k]? = some y ∧ prevAt l i = some y := by
      cases i with
      | zero => exact .inl rfl
      | succ k => exact .inr ⟨k, l[k], rfl, List.getElem?_eq_getElem (by omega), List.getElem?_eq_getElem (by omega)⟩
    have bad : okS x = false → 1 = checkV l := fun h => by simp [checkV, he, hd, okFrom, h]
    rcases c0 with rfl | ⟨k, y, rfl, hy, hp⟩
    · simp -dsimp -implicitDefEqProofs only [hw, go_sem, ↓reduceIte, reduceCtorEq, Nat.reduceLT, Nat.reduceLeDiff, Nat.reduceEqDiff, Nat.reduceAdd, Nat.reduceMul, Nat.reduceSub, Nat.reduceBEq, Int.reduceLT, Int.reduceLE, Int.reduceEq, Int.reduceBEq, Int.reduceNeg]
      repeat' (first | with_reducible apply And.intro | with_reducible intro _ | with_reducible exact drawn (by kernel_rfl) | (refine callP (rnumber_ok _) ?_; simp -dsimp -implicitDefEqProofs only [go_sem, ↓reduceIte, reduceCtorEq, Nat.reduceLT, Nat.reduceLeDiff, Nat.reduceEqDiff, Nat.reduceAdd, Nat.reduceMul, Nat.reduceSub, Nat.reduceBEq, Int.reduceLT, Int.reduceLE, Int.reduceEq, Int.reduceBEq, Int.reduceNeg]) | (refine callP (rnumbered_ok _) ?_; simp -dsimp -implicitDefEqProofs only [go_sem, ↓reduceIte, reduceCtorEq, Nat.reduceLT, Nat.reduceLeDiff, Nat.reduceEqDiff, Nat.reduceAdd, Nat.reduceMul, Nat.reduceSub, Nat.reduceBEq, Int.reduceLT, Int.reduceLE, Int.reduceEq, Int.reduceBEq, Int.reduceNeg]) | omega)
      all_goals try (with_reducible refine bad ?_; first | (simp [okS, *]; done) | (simp [okS, ruleB, *]; done) | (simp [okS, ruleB, *]; omega))
      · rename_i hm1 hm2
        have hm3 := numB_true hm1
        exact bad (by have : x.M = 0 := by omega
                      simp [okS, this])
      refine again ⟨1, by omega, by
        rename_i hm1 hm2
        have good : okS x = true := by simp [okS, *]; omega
        simp only [List.drop_zero] at hd
        rw [he, List.drop_zero, hd]; simp [okFrom, prevAt, good, hx]⟩ (by simp; omega) ?_
      simp -dsimp -implicitDefEqProofs only [go_sem, ↓reduceIte, reduceCtorEq, Nat.reduceLT, Nat.reduceLeDiff, Nat.reduceEqDiff, Nat.reduceAdd, Nat.reduceMul, Nat.reduceSub, Nat.reduceBEq, Int.reduceLT, Int.reduceLE, Int.reduceEq, Int.reduceBEq, Int.reduceNeg]; rfl
    · have hw2 : IntKind.i64.wrap (((k + 1 : Nat) : Int) - 1) = (k : Int) := by rw [wrap64] <;> omega
      have hw3 : l[k]? = some y := hy
      simp -dsimp -implicitDefEqProofs only [hw, hw2, hw3, forall_eq', go_sem, ↓reduceIte, reduceCtorEq, Nat.reduceLT, Nat.reduceLeDiff, Nat.reduceEqDiff, Nat.reduceAdd, Nat.reduceMul, Nat.reduceSub, Nat.reduceBEq, Int.reduceLT, Int.reduceLE, Int.reduceEq, Int.reduceBEq, Int.reduceNeg]
      repeat' (first | with_reducible apply And.intro | with_reducible intro _ | with_reducible exact drawn (by kernel_rfl) | (refine callP (rnumber_ok _) ?_; simp -dsimp -implicitDefEqProofs only [hw, hw2, hw3, forall_eq', go_sem, ↓reduceIte, reduceCtorEq, Nat.reduceLT, Nat.reduceLeDiff, Nat.reduceEqDiff, Nat.reduceAdd, Nat.reduceMul, Nat.reduceSub, Nat.reduceBEq, Int.reduceLT, Int.reduceLE, Int.reduceEq, Int.reduceBEq, Int.reduceNeg]) | (refine callP (rnumbered_ok _) ?_; simp -dsimp -implicitDefEqProofs only [hw, hw2, hw3, forall_eq', go_sem, ↓reduceIte, reduceCtorEq, Nat.reduceLT, Nat.reduceLeDiff, Nat.reduceEqDiff, Nat.reduceAdd, Nat.reduceMul, Nat.reduceSub, Nat.reduceBEq, Int.reduceLT, Int.reduceLE, Int.reduceEq, Int.reduceBEq, Int.reduceNeg]) | omega)
      all_goals try (with_reducible refine bad ?_; first | (simp [okS, *]; done) | (simp [okS, ruleB, *]; done) | (simp [okS, ruleB, *]; omega))
      · rename_i hm1 hm2
        have hm3 := numB_true hm1
        exact bad (by have : x.M = 0 := by omega
                      simp [okS, this])
      · have ho : ¬ ordV y.A y.R x.A x.R < 0 := by rw [ordV_lt]; omega
        simp [checkV, he, hp, hd, okFrom, ho]
      · have ho : ordV y.A y.R x.A x.R < 0 := by rw [ordV_lt]; omega
        have good : okS x = true := by simp [okS, *]; omega
        refine again ⟨k + 1 + 1, by omega, by rw [he, hp, hd]; simp [okFrom, prevAt, good, hx, ho]⟩ (by simp; omega) ?_
        simp -dsimp -implicitDefEqProofs only [go_sem, ↓reduceIte, reduceCtorEq, Nat.reduceLT, Nat.reduceLeDiff, Nat.reduceEqDiff, Nat.reduceAdd, Nat.reduceMul, Nat.reduceSub, Nat.reduceBEq, Int.reduceLT, Int.reduceLE, Int.reduceEq, Int.reduceBEq, Int.reduceNeg]
      · have ho : ordV y.A y.R x.A x.R < 0 := by rw [ordV_lt]; omega
        have good : okS x = true := by simp [okS, *]; omega
        refine again ⟨k + 1 + 1, by omega, by rw [he, hp, hd]; simp [okFrom, prevAt, good, hx, ho]⟩ (by simp; omega) ?_
        simp -dsimp -implicitDefEqProofs only [go_sem, ↓reduceIte, reduceCtorEq, Nat.reduceLT, Nat.reduceLeDiff, Nat.reduceEqDiff, Nat.reduceAdd, Nat.reduceMul, Nat.reduceSub, Nat.reduceBEq, Int.reduceLT, Int.reduceLE, Int.reduceEq, Int.reduceBEq, Int.reduceNeg]
      · have ho : ¬ ordV y.A y.R x.A x.R < 0 := by rw [ordV_lt]; omega
        simp [checkV, he, hp, hd, okFrom, ho]
  · have hd : l.drop i = [] := List.drop_eq_nil_of_le (by omega)
    refine ⟨fun h1 => ?_, fun h1 => ?_⟩ <;> simp [checkV, he, hd, okFrom] <;> omega

structure SmInv (l l2 : List Sp) where
  i : Nat
  le : i ≤ l.length
  eq : l.take i = l2.take i

theorem same_ok (l l2 : List Sp) (hl : l.length ≤ 1000000) : Meets Try.prog 19 [(false, [vD (spsD l)]), (false, [vD (spsD l2)])] (rOne (vB (decide (l = l2)))) := by
  refine meets Try.func19 rfl rfl Try.ntmps19 Try.results19 rfl ?_
  simp -dsimp -implicitDefEqProofs only [go_sem, ↓reduceIte, reduceCtorEq, Nat.reduceLT, Nat.reduceLeDiff, Nat.reduceEqDiff, Nat.reduceAdd, Nat.reduceMul, Nat.reduceSub, Nat.reduceBEq, Int.reduceLT, Int.reduceLE, Int.reduceEq, Int.reduceBEq, Int.reduceNeg]
  refine ⟨fun h1 => ?_, fun h1 => ?_⟩
  · have : ¬ l = l2 := fun e => h1 (by rw [e])
    simp [this]
  refine vfor sitOk (ι := SmInv l l2) (fun v => ⟨26, [(5, aI v.i), (4, aB false), (0, aD (spsD l)), (1, aD (spsD l2))], [], 56⟩) (fun v => l.length - v.i) ⟨0, by omega, by simp⟩ ?_ ?_
  · simp -dsimp -implicitDefEqProofs only [go_sem, ↓reduceIte, reduceCtorEq, Nat.reduceLT, Nat.reduceLeDiff, Nat.reduceEqDiff, Nat.reduceAdd, Nat.reduceMul, Nat.reduceSub, Nat.reduceBEq, Int.reduceLT, Int.reduceLE, Int.reduceEq, Int.reduceBEq, Int.reduceNeg]
  intro ⟨i, hi, he⟩
  simp -dsimp -implicitDefEqProofs only [go_sem, ↓reduceIte, reduceCtorEq, Nat.reduceLT, Nat.reduceLeDiff, Nat.reduceEqDiff, Nat.reduceAdd, Nat.reduceMul, Nat.reduceSub, Nat.reduceBEq, Int.reduceLT, Int.reduceLE, Int.reduceEq, Int.reduceBEq, Int.reduceNeg]
  refine ⟨fun hlt => ⟨by omega, by omega, fun x hx => ⟨by omega, by omega, fun y hy => ⟨drawn (by kernel_rfl), fun c => ?_, fun c => ?_⟩⟩⟩, fun hge => ?_⟩
  · have : ¬ l = l2 := fun e => by rw [e, hy] at hx; cases hx; exact c rfl rfl rfl rfl
    simp [this]
  · have exy : x = y := by cases x; cases y; simp at c; simp [c]
    refine again ⟨i + 1, by omega, by rw [List.take_add_one, List.take_add_one, he, hx, hy, exy]⟩ (by simp; omega) ?_
    simp -dsimp -implicitDefEqProofs only [wrapS (show i < l.length by omega) (show l.length ≤ 4611686018427387904 by omega), go_sem, ↓reduceIte, reduceCtorEq, Nat.reduceLT, Nat.reduceLeDiff, Nat.reduceEqDiff, Nat.reduceAdd, Nat.reduceMul, Nat.reduceSub, Nat.reduceBEq, Int.reduceLT, Int.reduceLE, Int.reduceEq, Int.reduceBEq, Int.reduceNeg]
  · rw [List.take_of_length_le (by omega), List.take_of_length_le (by omega)] at he
    simp [he]
end Go.Proofs.Ytfidbkmogileiaa
namespace Go.Proofs.Ytfidbkmogileiaa
open Go.Eng
set_option linter.unusedSimpArgs false
set_option maxRecDepth 10000

theorem u64_wrap {n : Int} (h1 : 0 ≤ n) (h2 : n ≤ 9223372036854775807) : IntKind.u64.wrap n = n := by
  simp [IntKind.wrap, IntKind.signed, IntKind.bits]
  omega

/-- Where the binary search ends. -/
def bs {α : Type} (c : α → Int) (l : List α) (lo hi : Nat) : Nat :=
  if lo < hi then match l[(lo + hi) / 2]? with
    | some x => if c x < 0 then bs c l ((lo + hi) / 2 + 1) hi else bs c l lo ((lo + hi) / 2)
    | none => lo
  else lo
termination_by hi - lo

def bsHit {α : Type} (c : α → Int) (l : List α) (i : Nat) : Bool := match l[i]? with
  | some x => c x == 0
  | none => false

structure BsInv {α : Type} (c : α → Int) (l : List α) where
  lo : Nat
  hi : Nat
  lh : lo ≤ hi
  hl : hi ≤ l.length
  eq : bs c l 0 l.length = bs c l lo hi

/-- Where the rows' compares rise, the search ends where they turn from below 0. -/
theorem bs_law {α : Type} {c : α → Int} {l : List α} (hs : ∀ (i j : Nat) (x y : α), i < j → l[i]? = some x → l[j]? = some y → c y < 0 → c x < 0) :
    ∀ (d lo hi : Nat), hi - lo = d → lo ≤ hi → hi ≤ l.length → (∀ j x, j < lo → l[j]? = some x → c x < 0) → (∀ j x, hi ≤ j → l[j]? = some x → ¬ c x < 0) →
      bs c l lo hi ≤ l.length ∧ (∀ j x, j < bs c l lo hi → l[j]? = some x → c x < 0) ∧ (∀ j x, bs c l lo hi ≤ j → l[j]? = some x → ¬ c x < 0) := by
  intro d
  induction d using Nat.strongRecOn with
  | _ d ih =>
    intro lo hi hd h1 h2 h3 h4
    by_cases hlt : lo < hi
    · obtain ⟨mid, hm⟩ : ∃ mid, (lo + hi) / 2 = mid := ⟨_, rfl⟩
      obtain ⟨x, hx⟩ : ∃ x, l[mid]? = some x := ⟨_, List.getElem?_eq_getElem (by omega)⟩
      rw [bs, if_pos hlt, hm, hx]
      simp only
      split
      · rename_i cc
        refine ih (hi - (mid + 1)) (by omega) _ _ rfl (by omega) h2 (fun j y hj hy => ?_) h4
        by_cases hjm : j = mid
        · subst hjm; rw [hx] at hy; cases hy; exact cc
        · exact hs j mid y x (by omega) hy hx cc
      · rename_i cc
        refine ih (mid - lo) (by omega) _ _ rfl (by omega) (by omega) h3 (fun j y hj hy => ?_)
        by_cases hjm : j = mid
        · subst hjm; rw [hx] at hy; cases hy; exact cc
        · exact fun hc => cc (hs mid j x y (by omega) hx hy hc)
    · rw [bs, if_neg hlt]
      exact ⟨by omega, h3, fun j y hj hy => h4 j y (by omega) hy⟩
theorem bs_whole {α : Type} {c : α → Int} {l : List α} (hs : ∀ (i j : Nat) (x y : α), i < j → l[i]? = some x → l[j]? = some y → c y < 0 → c x < 0) :
    bs c l 0 l.length ≤ l.length ∧ (∀ j x, j < bs c l 0 l.length → l[j]? = some x → c x < 0) ∧ (∀ j x, bs c l 0 l.length ≤ j → l[j]? = some x → ¬ c x < 0) :=
  bs_law hs l.length 0 l.length (by omega) (by omega) (Nat.le_refl _) (fun j x hj _ => by omega) (fun j x hj hx => by have := (List.getElem?_eq_some_iff.1 hx).1; omega)

theorem clone_ok (rows : List (List D)) (hl : rows.length ≤ 1000000) :
    Meets Try.prog 33 [(false, [vD (.vec 4 rows)])] (rOne (.own 4 40 rows)) := by
  refine meets Try.func33 rfl rfl Try.ntmps33 Try.results33 rfl ?_
  simp -dsimp -implicitDefEqProofs only [go_sem, ↓reduceIte, reduceCtorEq, Nat.reduceLT, Nat.reduceLeDiff, Nat.reduceEqDiff, Nat.reduceAdd, Nat.reduceMul, Nat.reduceSub, Nat.reduceBEq, Int.reduceLT, Int.reduceLE, Int.reduceEq, Int.reduceBEq, Int.reduceNeg]
  exact fun b hb => ⟨fun h => Classical.byContradiction fun hn => absurd ((hb hn).symm.trans h) (by simp), fun _ => ⟨by omega, by omega⟩⟩

/-- slices.BinarySearchFunc, whatever compares. (bsearch) -/
theorem bsearch_ok (l : List Sp) (hl : l.length ≤ 1000000) (a r : Int) (f : FuncId) (c : Sp → Int)
    (hp : ∀ x ∈ l, Meets Try.prog f ((true, x.cells.map .d) :: [(true, [vI a, vI r])]) (rOne (vI (c x)))) :
    Meets Try.prog 43 [(false, [vD (.vec 4 (l.map Sp.cells))]), (true, [vI a, vI r]), (false, [vD (.fn f [])])] (rTup [(false, [vI (bs c l 0 l.length : Nat)]), (false, [vB (bsHit c l (bs c l 0 l.length))])]) := by
  refine meets Try.func43 rfl rfl Try.ntmps43 Try.results43 rfl ?_
  simp -dsimp -implicitDefEqProofs only [go_sem, ↓reduceIte, reduceCtorEq, Nat.reduceLT, Nat.reduceLeDiff, Nat.reduceEqDiff, Nat.reduceAdd, Nat.reduceMul, Nat.reduceSub, Nat.reduceBEq, Int.reduceLT, Int.reduceLE, Int.reduceEq, Int.reduceBEq, Int.reduceNeg]
  refine vfor sitOk (ι := BsInv c l) (fun v => ⟨49, [(10, aI v.hi), (9, aI v.lo), (8, aI l.length), (7, aB false), (6, aI 0), (0, aD (.vec 4 (l.map Sp.cells))), (4, aP 0 0), (1, .cs true [cI a, cI r]), (2, aD (.fn f []))], [(0, some (.var [cI a, cI r] true))], 1⟩) (fun v => v.hi - v.lo) ⟨0, l.length, by omega, by omega, rfl⟩ ?_ ?_
  · simp -dsimp -implicitDefEqProofs only [go_sem, ↓reduceIte, reduceCtorEq, Nat.reduceLT, Nat.reduceLeDiff, Nat.reduceEqDiff, Nat.reduceAdd, Nat.reduceMul, Nat.reduceSub, Nat.reduceBEq, Int.reduceLT, Int.reduceLE, Int.reduceEq, Int.reduceBEq, Int.reduceNeg]
  intro ⟨lo, hi, hlh, hhl, hbs⟩
  obtain ⟨mid, hmid⟩ : ∃ mid, (lo + hi) / 2 = mid := ⟨_, rfl⟩
  have hw0 : IntKind.i64.wrap ((lo : Int) + (hi : Int)) = ((lo + hi : Nat) : Int) := by rw [wrap64] <;> omega
  have hw1 : IntKind.u64.wrap ((lo + hi : Nat) : Int) = ((lo + hi : Nat) : Int) := by rw [u64_wrap] <;> omega
  have hw2 : Int.fdiv ((lo + hi : Nat) : Int) (2 ^ (min (Int.toNat 1) 64)) = (mid : Int) := by
    show Int.fdiv ((lo + hi : Nat) : Int) 2 = _
    rw [Int.fdiv_eq_ediv_of_nonneg _ (by omega)]; omega
  have hw3 : IntKind.i64.wrap (mid : Int) = (mid : Int) := by rw [wrap64] <;> omega
  have hw4 : IntKind.i64.wrap ((mid : Int) + 1) = ((mid + 1 : Nat) : Int) := by rw [wrap64] <;> omega
  simp -dsimp -implicitDefEqProofs only [hw0, hw1, hw2, hw3, go_sem, ↓reduceIte, reduceCtorEq, Nat.reduceLT, Nat.reduceLeDiff, Nat.reduceEqDiff, Nat.reduceAdd, Nat.reduceMul, Nat.reduceSub, Nat.reduceBEq, Int.reduceLT, Int.reduceLE, Int.reduceEq, Int.reduceBEq, Int.reduceNeg]
  refine ⟨fun hlt => ⟨by omega, by omega, fun x hx => callP (hp x (List.mem_of_getElem? hx)) ?_⟩, fun hge => ⟨fun hin => ⟨by omega, by omega, fun x hx => callP (hp x (List.mem_of_getElem? hx)) ?_⟩, fun hout => ?_⟩⟩
  · simp -dsimp -implicitDefEqProofs only [hw4, go_sem, ↓reduceIte, reduceCtorEq, Nat.reduceLT, Nat.reduceLeDiff, Nat.reduceEqDiff, Nat.reduceAdd, Nat.reduceMul, Nat.reduceSub, Nat.reduceBEq, Int.reduceLT, Int.reduceLE, Int.reduceEq, Int.reduceBEq, Int.reduceNeg]
    refine ⟨drawn (by kernel_rfl),⟨fun c1 => ?_, fun c1 => ?_⟩⟩
    · refine again ⟨mid + 1, hi, by omega, by omega, by rw [hbs, bs, if_pos (by omega), hmid, hx]; simp [c1]⟩ (by simp; omega) ?_
      simp -dsimp -implicitDefEqProofs only [go_sem, ↓reduceIte, reduceCtorEq, Nat.reduceLT, Nat.reduceLeDiff, Nat.reduceEqDiff, Nat.reduceAdd, Nat.reduceMul, Nat.reduceSub, Nat.reduceBEq, Int.reduceLT, Int.reduceLE, Int.reduceEq, Int.reduceBEq, Int.reduceNeg]
    · have c1' : ¬ c x < 0 := by omega
      refine again ⟨lo, mid, by omega, by omega, by rw [hbs, bs, if_pos (by omega), hmid, hx]; simp [c1']⟩ (by simp; omega) ?_
      simp -dsimp -implicitDefEqProofs only [go_sem, ↓reduceIte, reduceCtorEq, Nat.reduceLT, Nat.reduceLeDiff, Nat.reduceEqDiff, Nat.reduceAdd, Nat.reduceMul, Nat.reduceSub, Nat.reduceBEq, Int.reduceLT, Int.reduceLE, Int.reduceEq, Int.reduceBEq, Int.reduceNeg]
  · have hend : bs c l 0 l.length = lo := by rw [hbs, bs, if_neg (by omega)]
    simp -dsimp -implicitDefEqProofs only [go_sem, ↓reduceIte, reduceCtorEq, Nat.reduceLT, Nat.reduceLeDiff, Nat.reduceEqDiff, Nat.reduceAdd, Nat.reduceMul, Nat.reduceSub, Nat.reduceBEq, Int.reduceLT, Int.reduceLE, Int.reduceEq, Int.reduceBEq, Int.reduceNeg]
    refine ⟨drawn (by kernel_rfl), ?_⟩
    simp [hend, bsHit, hx]
  · have hend : bs c l 0 l.length = lo := by rw [hbs, bs, if_neg (by omega)]
    have hx : l[lo]? = none := List.getElem?_eq_none (by omega)
    refine ⟨drawn (by kernel_rfl), ?_⟩
    simp [hend, bsHit, hx]

theorem ins_room {α : Type} (R rows : List α) (x : α) (i : Nat) (e1 : R.take rows.length = rows) (hi : i ≤ rows.length) (hr : rows.length + 1 ≤ R.length) :
    (splice (splice R (i + 1) (rows.drop i)) i [x]).take (rows.length + 1) = rows.take i ++ x :: rows.drop i := by
  have e2 : R.take i = rows.take i := by
    have : (R.take rows.length).take i = rows.take i := by rw [e1]
    rwa [List.take_take, Nat.min_eq_left hi] at this
  have e3 : (R.take (i + 1)).length = i + 1 := by rw [List.length_take]; omega
  obtain ⟨rest, hrest⟩ : ∃ rest, rest = R.drop (i + 1 + (rows.drop i).length) := ⟨_, rfl⟩
  have e4 : splice R (i + 1) (rows.drop i) = R.take (i + 1) ++ (rows.drop i ++ rest) := by simp [splice, hrest]
  have e5 : (R.take (i + 1) ++ (rows.drop i ++ rest)).take i = rows.take i := by
    rw [List.take_append_of_le_length (by omega), List.take_take, Nat.min_eq_left (by omega), e2]
  have e6 : (R.take (i + 1) ++ (rows.drop i ++ rest)).drop (i + 1) = rows.drop i ++ rest := List.drop_left' e3
  rw [e4]
  simp only [splice, e5, List.length_cons, List.length_nil, Nat.zero_add, e6]
  have e7 : rows.take i ++ [x] ++ (rows.drop i ++ rest) = (rows.take i ++ x :: rows.drop i) ++ rest := by simp
  rw [e7, List.take_left']
  simp; omega
theorem ins_new {α : Type} (R rows : List α) (x z : α) (i : Nat) (e1 : R.take rows.length = rows) (hi : i ≤ rows.length) :
    splice (splice (R.take i ++ List.replicate (rows.length + 1 - i) z) i [x]) (i + 1) (rows.drop i) = rows.take i ++ x :: rows.drop i := by
  have e2 : R.take i = rows.take i := by
    have : (R.take rows.length).take i = rows.take i := by rw [e1]
    rwa [List.take_take, Nat.min_eq_left hi] at this
  have e3 : (rows.take i).length = i := by rw [List.length_take]; omega
  rw [e2]
  obtain ⟨m, hm⟩ : ∃ m, rows.length + 1 - i = m + 1 := ⟨rows.length - i, by omega⟩
  rw [hm, List.replicate_succ]
  have e4 : splice (rows.take i ++ z :: List.replicate m z) i [x] = (rows.take i ++ [x]) ++ List.replicate m z := by
    simp only [splice, List.length_cons, List.length_nil, Nat.zero_add]
    rw [List.take_left' e3, show rows.take i ++ z :: List.replicate m z = (rows.take i ++ [z]) ++ List.replicate m z by simp, List.drop_left' (by simp; omega)]
  have e5 : (rows.take i ++ [x] ++ List.replicate m z).take (i + 1) = rows.take i ++ [x] := List.take_left' (by rw [List.length_append, e3]; rfl)
  have e6 : (rows.take i ++ [x] ++ List.replicate m z).drop (i + 1 + (rows.drop i).length) = [] := List.drop_eq_nil_of_le (by
    rw [List.length_append, List.length_append, e3, List.length_replicate, List.length_drop, List.length_singleton]; omega)
  rw [e4]
  simp only [splice]
  rw [e5, e6]
  simp
theorem ins_end {α : Type} (R rows : List α) (x : α) (e1 : R.take rows.length = rows) (hr : rows.length ≤ R.length) : (splice R rows.length [x]).take (rows.length + 1) = rows ++ [x] := by
  have h := take_splice2 R [x] rows.length hr
  rw [e1] at h
  exact h

/-- slices.Insert of one. (insert) -/
theorem insert_ok (rows : List (List D)) (x : List D) (i : Nat) (hi : i ≤ rows.length) (hl : rows.length ≤ 1000000) :
    Meets Try.prog 45 [(false, [.own 4 40 rows]), (false, [vI i]), (false, [.own 4 40 [x]])] (rOne (.own 4 40 (rows.take i ++ x :: rows.drop i))) := by
  refine meetsA Try.func45 rfl rfl Try.ntmps45 Try.results45 rfl ?_
  refine awp_spread 0 0 [(1, aI i), (2, aO 1)] [(1, some (.row 4 40 [x] true))] (Nat.zero_le _) rfl rfl ?_ ?_ fun junk hj => awp_vc sitOk ?_
  · simp -dsimp -implicitDefEqProofs only [resComps, go_sem, ↓reduceIte, reduceCtorEq, Nat.reduceLT, Nat.reduceLeDiff, Nat.reduceEqDiff, Nat.reduceAdd, Nat.reduceMul, Nat.reduceSub, Nat.reduceBEq, Int.reduceLT, Int.reduceLE, Int.reduceEq, Int.reduceBEq, Int.reduceNeg]
  · simp -dsimp -implicitDefEqProofs only [resComps, go_sem, ↓reduceIte, reduceCtorEq, Nat.reduceLT, Nat.reduceLeDiff, Nat.reduceEqDiff, Nat.reduceAdd, Nat.reduceMul, Nat.reduceSub, Nat.reduceBEq, Int.reduceLT, Int.reduceLE, Int.reduceEq, Int.reduceBEq, Int.reduceNeg]
  obtain ⟨R, hR⟩ : ∃ R, R = rows ++ junk := ⟨_, rfl⟩
  have e1 : R.take rows.length = rows := by rw [hR, List.take_left']; rfl
  have e0 : rows.length ≤ R.length := by rw [hR]; simp
  rw [← hR]
  clear hR hj
  have hw1 : IntKind.i64.wrap ((rows.length : Int) + 1) = ((rows.length + 1 : Nat) : Int) := by rw [wrap64] <;> omega
  have hw2 : IntKind.i64.wrap (((rows.length + 1 : Nat) : Int) - i) = ((rows.length + 1 - i : Nat) : Int) := by rw [wrap64] <;> omega
  have hw3 : IntKind.i64.wrap ((i : Int) + 1) = ((i + 1 : Nat) : Int) := by rw [wrap64] <;> omega
  have hc1 : (0 : Int) ≤ ((rows.length + 1 - i : Nat) : Int) := by omega
  have hc2 : ((rows.length + 1 - i : Nat) : Int) ≤ 9223372036854775807 := by omega
  have e2 : (R.take i).length = i := by rw [List.length_take]; omega
  have e3 : i + (rows.length + 1 - i) = rows.length + 1 := by omega
  have e4 : rows.length + 1 - i - 0 = rows.length + 1 - i := by omega
  have e5 : min 1 (rows.length + 1 - i) = 1 := by omega
  have e6 : ∀ z : List D, (splice (R.take i ++ List.replicate (rows.length + 1 - i) z) i [x]).length = rows.length + 1 := fun z => by
    have h : (R.take i ++ List.replicate (rows.length + 1 - i) z).length = rows.length + 1 := by rw [List.length_append, e2, List.length_replicate]; omega
    rw [splice_len (by rw [h, List.length_singleton]; omega), h]
  have e7 : i + (rows.length - i) = rows.length := by omega
  have e8 : (R.drop i).take (rows.length - i) = rows.drop i := by
    have : (R.take rows.length).drop i = rows.drop i := by rw [e1]
    rw [← this, List.drop_take]
  have e9 : rows.length + 1 - (i + 1) = rows.length - i := by omega
  have e10 : (rows.drop i).length = rows.length - i := by simp
  have e11 : (rows.drop i).take (rows.length - i) = rows.drop i := List.take_of_length_le (by simp)
  have e12 : i + 1 + (rows.length - i) = rows.length + 1 := by omega
  have e13 : ((R.drop i).take (rows.length + 1 - i)).take (rows.length - i) = rows.drop i := by rw [List.take_take, Nat.min_eq_left (by omega), e8]
  have e14 : min (rows.length + 1 - i) (rows.length - i) = rows.length - i := by omega
  have e15 : rows.length + 1 - i + i = rows.length + 1 := by omega
  have e16 : i + (rows.length + 1 - i) - i = rows.length + 1 - i := by omega
  have hend : (i : Int) = (rows.length : Int) → rows.take i ++ x :: rows.drop i = rows ++ [x] := fun h => by
    have : i = rows.length := by omega
    subst this
    simp
  by_cases hroom : rows.length + 1 ≤ R.length
  · have e17 : ((R.drop i).take (rows.length + 1 - i)).length = rows.length + 1 - i := by simp; omega
    have hl1 : (splice R (i + 1) (rows.drop i)).length = R.length := splice_len (by simp; omega)
    simp -dsimp -implicitDefEqProofs only [e0, e1, hw1, hw2, hw3, hc1, hc2, e2, e3, e4, e5, e6, e7, e8, e9, e10, e11, e12, e13, e14, e16, Nat.min_self, List.length_replicate, List.length_append, hroom, e17, go_sem, ↓reduceIte, reduceCtorEq, Nat.reduceLT, Nat.reduceLeDiff, Nat.reduceEqDiff, Nat.reduceAdd, Nat.reduceMul, Nat.reduceSub, Nat.reduceBEq, Int.reduceLT, Int.reduceLE, Int.reduceEq, Int.reduceBEq, Int.reduceNeg]
    repeat' (first | with_reducible apply And.intro | with_reducible intro _ | with_reducible exact drawn (by kernel_rfl) | omega)
    · rw [splice_len (by rw [List.length_singleton]; omega)]; exact hroom
    · rename_i h
      rw [hend h, ins_end R rows x e1 e0]
    · rw [splice_len (by rw [List.length_singleton, hl1]; omega), hl1]; exact hroom
    · exact (ins_room R rows x i e1 hi hroom).symm
  · simp -dsimp -implicitDefEqProofs only [e0, e1, hw1, hw2, hw3, hc1, hc2, e2, e3, e4, e5, e6, e7, e8, e9, e10, e11, e12, e13, e14, e16, Nat.min_self, List.length_replicate, List.length_append, hroom, go_sem, ↓reduceIte, reduceCtorEq, Nat.reduceLT, Nat.reduceLeDiff, Nat.reduceEqDiff, Nat.reduceAdd, Nat.reduceMul, Nat.reduceSub, Nat.reduceBEq, Int.reduceLT, Int.reduceLE, Int.reduceEq, Int.reduceBEq, Int.reduceNeg]
    repeat' (first | with_reducible apply And.intro | with_reducible intro _ | with_reducible exact drawn (by kernel_rfl) | omega)
    · rename_i h
      exact (hend h).symm
    · exact ins_new R rows x _ i e1 hi
end Go.Proofs.Ytfidbkmogileiaa
namespace Go.Proofs.Ytfidbkmogileiaa
open Go.Eng
set_option linter.unusedSimpArgs false

theorem ordV_zero {a r a' r' : Int} : ordV a r a' r' = 0 ↔ a = a' ∧ r = r' := by
  unfold ordV; split
  · rename_i h; exact ⟨fun _ => h, fun _ => rfl⟩
  · rename_i h; exact ⟨fun h' => by split at h' <;> omega, fun h' => absurd h' h⟩

/-- They rise. -/
def Rises : List Sp → Prop
  | [] => True
  | x :: r => (∀ y ∈ r, ordV x.A x.R y.A y.R < 0) ∧ Rises r

theorem ordV_trans {a r a' r' a2 r2 : Int} (h : ordV a r a' r' < 0) (h' : ordV a' r' a2 r2 < 0) : ordV a r a2 r2 < 0 := by
  rw [ordV_lt] at *; omega

theorem rises_cons {p : Sp} : ∀ {l : List Sp}, okFrom (some p) l = true → (∀ y ∈ l, ordV p.A p.R y.A y.R < 0) ∧ Rises l
  | [], _ => ⟨by simp, trivial⟩
  | x :: r, h => by
    simp only [okFrom, Bool.and_eq_true, decide_eq_true_eq] at h
    obtain ⟨⟨_, h2⟩, h3⟩ := h
    obtain ⟨q1, q2⟩ := rises_cons h3
    refine ⟨fun y hy => ?_, q1, q2⟩
    rcases List.mem_cons.1 hy with rfl | hy
    · exact h2
    · exact ordV_trans h2 (q1 y hy)
theorem okFrom_all {p : Option Sp} : ∀ {l : List Sp}, okFrom p l = true → ∀ x ∈ l, okS x = true
  | [], _, x, hx => by simp at hx
  | y :: r, h, x, hx => by
    simp only [okFrom, Bool.and_eq_true] at h
    rcases List.mem_cons.1 hx with rfl | hx
    · exact h.1.1
    · exact okFrom_all h.2 x hx
theorem okFrom_rises {l : List Sp} (h : okFrom none l = true) : Rises l := by
  cases l with
  | nil => trivial
  | cons x r =>
    simp only [okFrom, Bool.and_eq_true] at h
    exact rises_cons h.2
theorem okFrom_of {p : Option Sp} : ∀ {l : List Sp}, (∀ x ∈ l, okS x = true) → Rises l → (∀ q, p = some q → ∀ x ∈ l, ordV q.A q.R x.A x.R < 0) → okFrom p l = true
  | [], _, _, _ => rfl
  | x :: r, h1, h2, h3 => by
    simp only [okFrom, Bool.and_eq_true]
    refine ⟨⟨h1 x (by simp), ?_⟩, okFrom_of (fun y hy => h1 y (by simp [hy])) h2.2 fun q hq y hy => ?_⟩
    · cases p with
      | none => rfl
      | some q => simpa using h3 q rfl x (by simp)
    · cases hq; exact h2.1 y hy
theorem checkV_zero {l : List Sp} (h : checkV l = 0) : okFrom none l = true ∧ l.length ≤ 1024 := by
  unfold checkV at h
  split at h
  · rename_i h1
    split at h
    · omega
    · exact ⟨h1, by omega⟩
  · omega
theorem checkV_of {l : List Sp} (h1 : okFrom none l = true) (h2 : l.length ≤ 1024) : checkV l = 0 := by
  simp [checkV, h1]; omega

theorem rises_get : ∀ {l : List Sp}, Rises l → ∀ (i j : Nat) (x y : Sp), i < j → l[i]? = some x → l[j]? = some y → ordV x.A x.R y.A y.R < 0
  | [], _, i, j, x, y, _, hx, _ => by simp at hx
  | z :: r, h, i, j, x, y, hij, hx, hy => by
    obtain ⟨j, rfl⟩ : ∃ j', j = j' + 1 := ⟨j - 1, by omega⟩
    simp only [List.getElem?_cons_succ] at hy
    cases i with
    | zero =>
      simp only [List.getElem?_cons_zero, Option.some.injEq] at hx
      subst hx
      exact h.1 y (List.mem_of_getElem? hy)
    | succ i =>
      simp only [List.getElem?_cons_succ] at hx
      exact rises_get h.2 i j x y (by omega) hx hy

def keyB (a r : Int) (x : Sp) : Bool := x.A == a && x.R == r
theorem keyB_iff {a r : Int} {x : Sp} : keyB a r x = true ↔ x.A = a ∧ x.R = r := by simp [keyB]
def cmpS (a r : Int) (x : Sp) : Int := ordV x.A x.R a r

theorem cmpS_mono {a r : Int} {l : List Sp} (h : Rises l) (i j : Nat) (x y : Sp) (hij : i < j) (hx : l[i]? = some x) (hy : l[j]? = some y) (hc : cmpS a r y < 0) : cmpS a r x < 0 :=
  ordV_trans (rises_get h i j x y hij hx hy) hc

/-- Where the search ends, if it hits, and if not. -/
theorem search_law {a r : Int} {l : List Sp} (h : Rises l) :
    (∃ i x, bs (cmpS a r) l 0 l.length = i ∧ bsHit (cmpS a r) l i = true ∧ l[i]? = some x ∧ keyB a r x = true) ∨
      ∃ i, bs (cmpS a r) l 0 l.length = i ∧ bsHit (cmpS a r) l i = false ∧ i ≤ l.length ∧ (∀ x ∈ l, keyB a r x = false) ∧ (∀ j x, j < i → l[j]? = some x → cmpS a r x < 0) ∧ (∀ j x, i ≤ j → l[j]? = some x → ¬ cmpS a r x < 0) := by
  obtain ⟨h1, h2, h3⟩ := bs_whole (cmpS_mono (a := a) (r := r) h)
  obtain ⟨i, hi⟩ : ∃ i, bs (cmpS a r) l 0 l.length = i := ⟨_, rfl⟩
  rw [hi] at h1 h2 h3
  have key0 : ∀ x, keyB a r x = true ↔ cmpS a r x = 0 := fun x => by rw [keyB_iff, cmpS, ordV_zero]
  cases hb : bsHit (cmpS a r) l i with
  | true =>
    unfold bsHit at hb
    cases hx : l[i]? with
    | none => rw [hx] at hb; cases hb
    | some x =>
      rw [hx] at hb
      exact .inl ⟨i, x, hi, by simp [bsHit, hx]; simpa using hb, hx, (key0 x).2 (by simpa using hb)⟩
  | false =>
    refine .inr ⟨i, hi, hb, h1, fun x hx => ?_, h2, h3⟩
    obtain ⟨j, hj⟩ := List.getElem?_of_mem hx
    cases hk : keyB a r x with
    | false => rfl
    | true =>
      exfalso
      have hc := (key0 x).1 hk
      by_cases hlt : j < i
      · have := h2 j x hlt hj; omega
      · by_cases he : j = i
        · subst he
          simp [bsHit, hj, hc] at hb
        · have hil : i < l.length := by have := (List.getElem?_eq_some_iff.1 hj).1; omega
          have h5 := rises_get h i j l[i] x (by omega) (List.getElem?_eq_getElem hil) hj
          have h6 := h3 i l[i] (Nat.le_refl _) (List.getElem?_eq_getElem hil)
          obtain ⟨rfl, rfl⟩ := keyB_iff.1 hk
          exact h6 h5

/-- The window that is on. -/
def onS (l : List Sp) (W a r now : Int) : Option Sp := match l.find? (keyB a r) with
  | some x => if W ≤ now - x.S then none else some x
  | none => none
theorem find_at {a r : Int} {l : List Sp} (h : Rises l) {i : Nat} {x : Sp} (hx : l[i]? = some x) (hk : keyB a r x = true) : l.find? (keyB a r) = some x := by
  rw [List.find?_eq_some_iff_getElem]
  have hil := (List.getElem?_eq_some_iff.1 hx).1
  refine ⟨hk, i, hil, Option.some.inj ((List.getElem?_eq_getElem hil).symm.trans hx), fun j hj => ?_⟩
  have := rises_get h j i l[j] x hj (List.getElem?_eq_getElem (by omega)) hx
  obtain ⟨rfl, rfl⟩ := keyB_iff.1 hk
  cases hk2 : keyB x.A x.R l[j] with
  | false => rfl
  | true => obtain ⟨e1, e2⟩ := keyB_iff.1 hk2; rw [ordV_lt] at this; omega
theorem find_none {a r : Int} {l : List Sp} (h : ∀ x ∈ l, keyB a r x = false) : l.find? (keyB a r) = none :=
  List.find?_eq_none.2 fun x hx => by simp [h x hx]

def leftV (l : List Sp) (M W a r now : Int) : Int := if M = 0 then 1099511627776 else match onS l W a r now with
  | some x => max 0 (M - x.M)
  | none => M

/-- One in its place. -/
def put (x : Sp) : List Sp → List Sp
  | [] => [x]
  | y :: r => if cmpS x.A x.R y < 0 then y :: put x r else if keyB x.A x.R y then x :: r else x :: y :: r

theorem put_skip {x : Sp} : ∀ {l : List Sp} {i : Nat}, i ≤ l.length → (∀ j y, j < i → l[j]? = some y → cmpS x.A x.R y < 0) → put x l = l.take i ++ put x (l.drop i)
  | l, 0, _, _ => by simp
  | [], i + 1, h, _ => by simp at h
  | y :: r, i + 1, h, hs => by
    have h0 := hs 0 y (by omega) rfl
    simp only [put, if_pos h0, List.take_succ_cons, List.drop_succ_cons, List.cons_append]
    rw [put_skip (by simpa using h) fun j z hj hz => hs (j + 1) z (by omega) (by simpa using hz)]
theorem put_hit {x y : Sp} {l : List Sp} (h : Rises l) {i : Nat} (hy : l[i]? = some y) (hk : keyB x.A x.R y = true) : put x l = l.set i x := by
  have hil := (List.getElem?_eq_some_iff.1 hy).1
  obtain ⟨e1, e2⟩ := keyB_iff.1 hk
  rw [put_skip (i := i) (by omega) fun j z hj hz => by
    have := rises_get h j i z y hj hz hy
    rw [cmpS, ← e1, ← e2]; exact this, drop_at hy]
  have h0 : ¬ cmpS x.A x.R y < 0 := by
    have : cmpS x.A x.R y = 0 := by rw [cmpS, ordV_zero]; exact ⟨e1, e2⟩
    omega
  simp only [put, if_neg h0, hk, if_true]
  rw [List.set_eq_take_append_cons_drop, if_pos hil]
theorem put_miss {x : Sp} {l : List Sp} {i : Nat} (hi : i ≤ l.length) (h1 : ∀ j y, j < i → l[j]? = some y → cmpS x.A x.R y < 0) (h2 : ∀ j y, i ≤ j → l[j]? = some y → ¬ cmpS x.A x.R y < 0) (h3 : ∀ y ∈ l, keyB x.A x.R y = false) :
    put x l = l.take i ++ x :: l.drop i := by
  rw [put_skip hi h1]
  congr 1
  cases hd : l.drop i with
  | nil => rfl
  | cons y r =>
    have hy : l[i]? = some y := by
      have : (l.drop i)[0]? = some y := by rw [hd]; rfl
      simpa using this
    simp only [put, if_neg (h2 i y (Nat.le_refl _) hy), h3 y (List.mem_of_getElem? hy)]
    rfl
theorem put_filter {x : Sp} : ∀ {l : List Sp}, Rises l → put x l = l.filter (fun y => decide (cmpS x.A x.R y < 0)) ++ x :: l.filter (fun y => !decide (cmpS x.A x.R y < 0) && !keyB x.A x.R y)
  | [], _ => rfl
  | y :: r, h => by
    by_cases h0 : cmpS x.A x.R y < 0
    · simp only [put, if_pos h0]
      rw [put_filter h.2]
      simp [h0]
    · have hr : ∀ z ∈ r, ¬ cmpS x.A x.R z < 0 := fun z hz hc => h0 (ordV_trans (h.1 z hz) hc)
      have hk : ∀ z ∈ r, keyB x.A x.R z = false := fun z hz => by
        cases hkz : keyB x.A x.R z with
        | false => rfl
        | true =>
          obtain ⟨e1, e2⟩ := keyB_iff.1 hkz
          have := h.1 z hz
          rw [e1, e2] at this
          exact absurd this h0
      have e1 : r.filter (fun y => decide (cmpS x.A x.R y < 0)) = [] := List.filter_eq_nil_iff.2 fun z hz => by simp [hr z hz]
      have e2 : r.filter (fun y => !decide (cmpS x.A x.R y < 0) && !keyB x.A x.R y) = r := List.filter_eq_self.2 fun z hz => by simp [hr z hz, hk z hz]
      simp only [put, if_neg h0]
      cases hky : keyB x.A x.R y with
      | true => simp [h0, hky, e1, e2]
      | false => simp [h0, hky, e1, e2]

def begun (l : List Sp) (W a r now : Int) : Sp := match onS l W a r now with
  | some s => ⟨a, r, s.S, s.M + 1⟩
  | none => ⟨a, r, now, 1⟩
/-- What is spent. -/
def spendV (l : List Sp) (M W a r now : Int) : List Sp × Int :=
  if M = 0 then (l, 0) else if leftV l M W a r now = 0 then ([], 170)
  else if 1024 < (put (begun l W a r now) l).length then ([], 2) else (put (begun l W a r now) l, 0)

def rmB (M W : Int) : Bool := numB M && numB W && (M == 0 || decide (0 < W))
def mayB (M W r a now : Int) : Bool := rmB M W && ruleB r && numB a && numB now

def LeftV (l : List Sp) (M W r a now : Int) : Int := if checkV l ≠ 0 ∨ mayB M W r a now = false then 0 else leftV l M W a r now
def SpendV (l : List Sp) (M W r a now : Int) : List Sp × Int := if checkV l ≠ 0 then ([], checkV l) else if mayB M W r a now = false then ([], 1) else spendV l M W a r now
end Go.Proofs.Ytfidbkmogileiaa
