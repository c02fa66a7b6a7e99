/- Best. -/
import Derived.Test.YtfgejhlgenaniaaDoorZ10
namespace Go.Proofs.YtfgejhlgenaniaaDoor
open Go.Eng
set_option linter.unusedSimpArgs false
set_option maxRecDepth 10000

structure Zn where
  A : Bs
  R : List Rec
  deriving DecidableEq
def Zn.cells (z : Zn) : List D := [dT z.A, recsD z.R]
attribute [go_sem] Zn.cells
abbrev zonesD (l : List Zn) : D := .vec 2 (l.map Zn.cells)
/-- Is the zone taken, where one was? -/
def takesB (l : List Zn) (n : Bs) (z : Zn) (p : Option Nat) : Bool := underB n z.A && (match p with
  | none => true
  | some j => match l[j]? with
    | some y => decide (y.A.length < z.A.length)
    | none => false) && checkV z.A z.R == 0
def bestAt (l : List Zn) (n : Bs) : Nat → Option Nat
  | 0 => none
  | i + 1 => match l[i]? with
    | some z => if takesB l n z (bestAt l n i) then some i else bestAt l n i
    | none => bestAt l n i
def bestV (l : List Zn) (n : Bs) : Option Nat := if isName n then bestAt l n l.length else none
def optN : Option Nat → Int
  | some j => (j : Nat)
  | none => 0
theorem takes_some {l : List Zn} {n : Bs} {z y : Zn} {j : Nat} (h : l[j]? = some y) : takesB l n z (some j) = (underB n z.A && decide ((y.A.length : Int) < (z.A.length : Int)) && checkV z.A z.R == 0) := by
  unfold takesB; simp only [h]
  congr 2
  rw [decide_eq_decide]; omega
theorem bestAt_lt {l : List Zn} {n : Bs} : ∀ {i j : Nat}, bestAt l n i = some j → j < i ∧ j < l.length
  | 0, j, h => by cases h
  | i + 1, j, h => by
    unfold bestAt at h
    split at h
    · rename_i z hz
      split at h
      · cases h; exact ⟨by omega, (List.getElem?_eq_some_iff.1 hz).1⟩
      · have := bestAt_lt h; exact ⟨by omega, this.2⟩
    · have := bestAt_lt h; exact ⟨by omega, this.2⟩
structure BtInv (l : List Zn) where
  i : Nat
  le : i ≤ l.length
theorem best_ok (l : List Zn) (n : Bs) (hl : l.length ≤ 1000000) (hz : ∀ z ∈ l, z.R.length ≤ 1000000) : Meets Tryd.prog 17 [(false, [vD (zonesD l)]), (false, [vS n])] (rTup [(false, [vI (optN (bestV l n))]), (false, [vB (bestV l n).isSome])]) := by
  refine meets Tryd.func17 rfl rfl Tryd.ntmps17 Tryd.results17 rfl ?_
  simp -dsimp -implicitDefEqProofs only [go_sem, ↓reduceIte, reduceCtorEq, Nat.reduceLT, Nat.reduceLeDiff, Nat.reduceEqDiff, Nat.reduceAdd, Nat.reduceMul, Nat.reduceSub, Nat.reduceBEq, Int.reduceLT, Int.reduceLE, Int.reduceEq, Int.reduceBEq, Int.reduceNeg]
  refine callP (named_ok n) ?_
  cases hn : isName n with
  | false =>
    have : bestV l n = none := by unfold bestV; simp [hn]
    rw [this]
    simp -dsimp -implicitDefEqProofs only [hn, optN, go_sem, ↓reduceIte, reduceCtorEq, Nat.reduceLT, Nat.reduceLeDiff, Nat.reduceEqDiff, Nat.reduceAdd, Nat.reduceMul, Nat.reduceSub, Nat.reduceBEq, Int.reduceLT, Int.reduceLE, Int.reduceEq, Int.reduceBEq, Int.reduceNeg]
  | true =>
    have : bestV l n = bestAt l n l.length := by unfold bestV; simp [hn]
    rw [this]
    simp -dsimp -implicitDefEqProofs only [hn, go_sem, ↓reduceIte, reduceCtorEq, Nat.reduceLT, Nat.reduceLeDiff, Nat.reduceEqDiff, Nat.reduceAdd, Nat.reduceMul, Nat.reduceSub, Nat.reduceBEq, Int.reduceLT, Int.reduceLE, Int.reduceEq, Int.reduceBEq, Int.reduceNeg]
    refine vfor sitOk (ι := BtInv l) (fun v => ⟨47, [(13, aI v.i), (12, aI l.length), (11, aD (zonesD l)), (5, aB (bestAt l n v.i).isSome), (4, aI (optN (bestAt l n v.i))), (1, aS n), (0, aD (zonesD l))], [], 120⟩) (fun v => l.length - v.i) ⟨0, by omega⟩ ?_ ?_
    · simp -dsimp -implicitDefEqProofs only [bestAt, optN, go_sem, ↓reduceIte, reduceCtorEq, Nat.reduceLT, Nat.reduceLeDiff, Nat.reduceEqDiff, Nat.reduceAdd, Nat.reduceMul, Nat.reduceSub, Nat.reduceBEq, Int.reduceLT, Int.reduceLE, Int.reduceEq, Int.reduceBEq, Int.reduceNeg]
    intro ⟨i, hi⟩
    simp -dsimp -implicitDefEqProofs only [go_sem, ↓reduceIte, reduceCtorEq, Nat.reduceLT, Nat.reduceLeDiff, Nat.reduceEqDiff, Nat.reduceAdd, Nat.reduceMul, Nat.reduceSub, Nat.reduceBEq, Int.reduceLT, Int.reduceLE, Int.reduceEq, Int.reduceBEq, Int.reduceNeg]
    refine ⟨fun hlt => ?_, fun hge => ?_⟩
    · have hil : i < l.length := by omega
      obtain ⟨z, hx⟩ : ∃ z, l[i]? = some z := ⟨_, List.getElem?_eq_getElem hil⟩
      have hw := wrapS hil (by omega)
      have hzr := hz z (List.mem_of_getElem? hx)
      have hstep : bestAt l n (i + 1) = if takesB l n z (bestAt l n i) then some i else bestAt l n i := by
        conv => lhs; unfold bestAt
        rw [hx]
      cases hb : bestAt l n i with
      | none =>
        rw [hb] at hstep
        simp -dsimp -implicitDefEqProofs only [hx, forall_eq', hw, optN, go_sem, ↓reduceIte, reduceCtorEq, Nat.reduceLT, Nat.reduceLeDiff, Nat.reduceEqDiff, Nat.reduceAdd, Nat.reduceMul, Nat.reduceSub, Nat.reduceBEq, Int.reduceLT, Int.reduceLE, Int.reduceEq, Int.reduceBEq, Int.reduceNeg]
        refine ⟨by omega, hil, ?_⟩
        repeat' (first | with_reducible apply And.intro | with_reducible intro _ | with_reducible exact drawn (by kernel_rfl) | (refine callP (under_ok _ _) ?_; simp -dsimp -implicitDefEqProofs only [hx, forall_eq', hw, optN, go_sem, ↓reduceIte, reduceCtorEq, Nat.reduceLT, Nat.reduceLeDiff, Nat.reduceEqDiff, Nat.reduceAdd, Nat.reduceMul, Nat.reduceSub, Nat.reduceBEq, Int.reduceLT, Int.reduceLE, Int.reduceEq, Int.reduceBEq, Int.reduceNeg]) | (refine callP (zcheck_ok _ _ hzr) ?_; simp -dsimp -implicitDefEqProofs only [hx, forall_eq', hw, optN, go_sem, ↓reduceIte, reduceCtorEq, Nat.reduceLT, Nat.reduceLeDiff, Nat.reduceEqDiff, Nat.reduceAdd, Nat.reduceMul, Nat.reduceSub, Nat.reduceBEq, Int.reduceLT, Int.reduceLE, Int.reduceEq, Int.reduceBEq, Int.reduceNeg]) | omega)
        all_goals first
          | (have e : bestAt l n (i + 1) = some i := by rw [hstep]; simp [takesB, *]
             refine again ⟨i + 1, by omega⟩ (by simp; omega) ?_
             simp -dsimp -implicitDefEqProofs only [e, hw, optN, Option.isSome_some, go_sem, ↓reduceIte, reduceCtorEq, Nat.reduceLT, Nat.reduceLeDiff, Nat.reduceEqDiff, Nat.reduceAdd, Nat.reduceMul, Nat.reduceSub, Nat.reduceBEq, Int.reduceLT, Int.reduceLE, Int.reduceEq, Int.reduceBEq, Int.reduceNeg]
             done)
          | (have e : bestAt l n (i + 1) = none := by rw [hstep]; simp [takesB, *]
             refine again ⟨i + 1, by omega⟩ (by simp; omega) ?_
             simp -dsimp -implicitDefEqProofs only [e, hw, optN, Option.isSome_none, go_sem, ↓reduceIte, reduceCtorEq, Nat.reduceLT, Nat.reduceLeDiff, Nat.reduceEqDiff, Nat.reduceAdd, Nat.reduceMul, Nat.reduceSub, Nat.reduceBEq, Int.reduceLT, Int.reduceLE, Int.reduceEq, Int.reduceBEq, Int.reduceNeg]
             done)
          | trace_state
      | some j =>
        rw [hb] at hstep
        obtain ⟨hj1, hj2⟩ := bestAt_lt hb
        obtain ⟨y, hy⟩ : ∃ y, l[j]? = some y := ⟨_, List.getElem?_eq_getElem hj2⟩
        rw [takes_some hy] at hstep
        simp -dsimp -implicitDefEqProofs only [hx, forall_eq', hw, optN, hy, go_sem, ↓reduceIte, reduceCtorEq, Nat.reduceLT, Nat.reduceLeDiff, Nat.reduceEqDiff, Nat.reduceAdd, Nat.reduceMul, Nat.reduceSub, Nat.reduceBEq, Int.reduceLT, Int.reduceLE, Int.reduceEq, Int.reduceBEq, Int.reduceNeg]
        refine ⟨by omega, hil, ?_⟩
        repeat' (first | with_reducible apply And.intro | with_reducible intro _ | with_reducible exact drawn (by kernel_rfl) | (refine callP (under_ok _ _) ?_; simp -dsimp -implicitDefEqProofs only [hx, forall_eq', hw, optN, hy, go_sem, ↓reduceIte, reduceCtorEq, Nat.reduceLT, Nat.reduceLeDiff, Nat.reduceEqDiff, Nat.reduceAdd, Nat.reduceMul, Nat.reduceSub, Nat.reduceBEq, Int.reduceLT, Int.reduceLE, Int.reduceEq, Int.reduceBEq, Int.reduceNeg]) | (refine callP (zcheck_ok _ _ hzr) ?_; simp -dsimp -implicitDefEqProofs only [hx, forall_eq', hw, optN, hy, go_sem, ↓reduceIte, reduceCtorEq, Nat.reduceLT, Nat.reduceLeDiff, Nat.reduceEqDiff, Nat.reduceAdd, Nat.reduceMul, Nat.reduceSub, Nat.reduceBEq, Int.reduceLT, Int.reduceLE, Int.reduceEq, Int.reduceBEq, Int.reduceNeg]) | omega)
        all_goals first
          | (have e : bestAt l n (i + 1) = some i := by rw [hstep, if_pos]; simp only [Bool.and_eq_true, decide_eq_true_eq, beq_iff_eq]; exact ⟨⟨by assumption, by assumption⟩, by assumption⟩
             refine again ⟨i + 1, by omega⟩ (by simp; omega) ?_
             simp -dsimp -implicitDefEqProofs only [e, hw, optN, Option.isSome_some, go_sem, ↓reduceIte, reduceCtorEq, Nat.reduceLT, Nat.reduceLeDiff, Nat.reduceEqDiff, Nat.reduceAdd, Nat.reduceMul, Nat.reduceSub, Nat.reduceBEq, Int.reduceLT, Int.reduceLE, Int.reduceEq, Int.reduceBEq, Int.reduceNeg]
             done)
          | (have e : bestAt l n (i + 1) = some j := by
               rw [hstep, if_neg]
               simp only [Bool.and_eq_true, decide_eq_true_eq, beq_iff_eq]
               intro ⟨⟨q1, q2⟩, q3⟩
               first | omega | (simp_all; done)
             refine again ⟨i + 1, by omega⟩ (by simp; omega) ?_
             simp -dsimp -implicitDefEqProofs only [e, hw, optN, Option.isSome_some, go_sem, ↓reduceIte, reduceCtorEq, Nat.reduceLT, Nat.reduceLeDiff, Nat.reduceEqDiff, Nat.reduceAdd, Nat.reduceMul, Nat.reduceSub, Nat.reduceBEq, Int.reduceLT, Int.reduceLE, Int.reduceEq, Int.reduceBEq, Int.reduceNeg]
             done)
          | trace_state
    · have hil : i = l.length := by omega
      subst hil
      exact ⟨rfl, rfl⟩
end Go.Proofs.YtfgejhlgenaniaaDoor
