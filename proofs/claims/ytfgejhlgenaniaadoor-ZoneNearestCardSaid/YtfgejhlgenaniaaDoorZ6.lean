/- The contracts of crowded, Check, New. -/
import Derived.Test.YtfgejhlgenaniaaDoorZ5
namespace Go.Proofs.YtfgejhlgenaniaaDoor
open Go.Eng
set_option linter.unusedSimpArgs false
set_option maxRecDepth 10000

/-- The records of a name. -/
def atB (l : List Rec) (n : Bs) : List Rec := l.filter fun r => r.N == n
def crowdB (l : List Rec) (n : Bs) : Bool := (atB l n).any (fun r => r.K == 4) && decide (1 < (atB l n).length)
structure CwInv (l : List Rec) where
  i : Nat
  le : i ≤ l.length
theorem atB_step {l : List Rec} {i : Nat} {x : Rec} (n : Bs) (h : l[i]? = some x) : atB (l.take (i + 1)) n = atB (l.take i) n ++ (if x.N = n then [x] else []) := by
  unfold atB
  rw [List.take_add_one, h]
  simp only [Option.toList_some, List.filter_append, List.filter_cons, List.filter_nil, beq_iff_eq]
theorem atB_len (l : List Rec) (n : Bs) : (atB l n).length ≤ l.length := List.length_filter_le ..

theorem crowded_ok (a : Bs) (l : List Rec) (n : Bs) (hl : l.length ≤ 1000000) : Meets Tryd.prog 57 [zoneA a l, (false, [vS n])] (rOne (vB (crowdB l n))) := by
  refine meets Tryd.func57 rfl rfl Tryd.ntmps57 Tryd.results57 rfl ?_
  simp -dsimp -implicitDefEqProofs only [go_sem, ↓reduceIte, reduceCtorEq, Nat.reduceLT, Nat.reduceLeDiff, Nat.reduceEqDiff, Nat.reduceAdd, Nat.reduceMul, Nat.reduceSub, Nat.reduceBEq, Int.reduceLT, Int.reduceLE, Int.reduceEq, Int.reduceBEq, Int.reduceNeg]
  refine callW rfl Tryd.func39 rfl rfl Tryd.ntmps39 Tryd.results39 rfl ?_
  simp -dsimp -implicitDefEqProofs only [retH, go_sem, ↓reduceIte, reduceCtorEq, Nat.reduceLT, Nat.reduceLeDiff, Nat.reduceEqDiff, Nat.reduceAdd, Nat.reduceMul, Nat.reduceSub, Nat.reduceBEq, Int.reduceLT, Int.reduceLE, Int.reduceEq, Int.reduceBEq, Int.reduceNeg]
  refine vrange sitOk rfl [] [(6, aP 24 0), (5, aP 16 0)] rfl rfl ?_ Tryd.func65 rfl rfl Tryd.ntmps65 Tryd.results65 rfl ?_
  · simp -dsimp -implicitDefEqProofs only [go_sem, ↓reduceIte, reduceCtorEq, Nat.reduceLT, Nat.reduceLeDiff, Nat.reduceEqDiff, Nat.reduceAdd, Nat.reduceMul, Nat.reduceSub, Nat.reduceBEq, Int.reduceLT, Int.reduceLE, Int.reduceEq, Int.reduceBEq, Int.reduceNeg]
  simp -dsimp -implicitDefEqProofs only [go_sem, ↓reduceIte, reduceCtorEq, Nat.reduceLT, Nat.reduceLeDiff, Nat.reduceEqDiff, Nat.reduceAdd, Nat.reduceMul, Nat.reduceSub, Nat.reduceBEq, Int.reduceLT, Int.reduceLE, Int.reduceEq, Int.reduceBEq, Int.reduceNeg]
  generalize hL : Lp.mk 25 _ _ _ _ _ = L
  refine vfor sitOk (ι := CwInv l) (fun v => ⟨24, [(9, aI v.i), (8, aI l.length), (7, aD (recsD l)), (0, .cs false [.yld 128]), (1, aP 64 0), (2, aP 72 0)],
    [(128, some (.lp L)), (72, some (.var [cS n] true)), (64, some (.var [cS a, cD (recsD l)] true)), (24, some (.var [cB ((atB (l.take v.i) n).any (fun r => r.K == 4))] true)), (16, some (.var [cI ((atB (l.take v.i) n).length : Nat)] true)), (0, some (.var [cS a, cD (recsD l)] true))], 500⟩) (fun v => l.length - v.i) ⟨0, by omega⟩ ?_ ?_
  · simp -dsimp -implicitDefEqProofs only [← hL, go_sem, ↓reduceIte, reduceCtorEq, Nat.reduceLT, Nat.reduceLeDiff, Nat.reduceEqDiff, Nat.reduceAdd, Nat.reduceMul, Nat.reduceSub, Nat.reduceBEq, Int.reduceLT, Int.reduceLE, Int.reduceEq, Int.reduceBEq, Int.reduceNeg]
    simp [atB]
  intro ⟨i, hi⟩
  have hal := atB_len (l.take i) n
  have htl : (l.take i).length ≤ l.length := by simp; omega
  simp -dsimp -implicitDefEqProofs only [go_sem, ↓reduceIte, reduceCtorEq, Nat.reduceLT, Nat.reduceLeDiff, Nat.reduceEqDiff, Nat.reduceAdd, Nat.reduceMul, Nat.reduceSub, Nat.reduceBEq, Int.reduceLT, Int.reduceLE, Int.reduceEq, Int.reduceBEq, Int.reduceNeg]
  refine ⟨fun hlt => ?_, fun hge => ?_⟩
  · have hil : i < l.length := by omega
    obtain ⟨x, hx⟩ : ∃ x, l[i]? = some x := ⟨_, List.getElem?_eq_getElem hil⟩
    have hst := atB_step n hx
    have hw := wrapS hil (by omega)
    have hw2 : IntKind.i64.wrap (((atB (l.take i) n).length : Int) + 1) = (((atB (l.take i) n).length + 1 : Nat) : Int) := by rw [wrap64] <;> omega
    simp -dsimp -implicitDefEqProofs only [hx, forall_eq', hw, go_sem, ↓reduceIte, reduceCtorEq, Nat.reduceLT, Nat.reduceLeDiff, Nat.reduceEqDiff, Nat.reduceAdd, Nat.reduceMul, Nat.reduceSub, Nat.reduceBEq, Int.reduceLT, Int.reduceLE, Int.reduceEq, Int.reduceBEq, Int.reduceNeg]
    refine ⟨by omega, hil, fun h => yieldW sitOk ?_, fun h => ?_⟩
    · simp -dsimp -implicitDefEqProofs only [← hL, go_sem, ↓reduceIte, reduceCtorEq, Nat.reduceLT, Nat.reduceLeDiff, Nat.reduceEqDiff, Nat.reduceAdd, Nat.reduceMul, Nat.reduceSub, Nat.reduceBEq, Int.reduceLT, Int.reduceLE, Int.reduceEq, Int.reduceBEq, Int.reduceNeg]
      intro ro
      rw [if_pos h] at hst
      refine ⟨fun h2 => ?_, fun h2 => ?_⟩
      · refine again ⟨i + 1, by omega⟩ (by simp; omega) ?_
        simp -dsimp -implicitDefEqProofs only [← hL, hw, hw2, hst, h2, List.any_append, List.length_append, List.any_cons, List.any_nil, go_sem, ↓reduceIte, reduceCtorEq, Nat.reduceLT, Nat.reduceLeDiff, Nat.reduceEqDiff, Nat.reduceAdd, Nat.reduceMul, Nat.reduceSub, Nat.reduceBEq, Int.reduceLT, Int.reduceLE, Int.reduceEq, Int.reduceBEq, Int.reduceNeg]
      · refine again ⟨i + 1, by omega⟩ (by simp; omega) ?_
        simp -dsimp -implicitDefEqProofs only [← hL, hw, hw2, hst, h2, List.any_append, List.length_append, List.any_cons, List.any_nil, go_sem, ↓reduceIte, reduceCtorEq, Nat.reduceLT, Nat.reduceLeDiff, Nat.reduceEqDiff, Nat.reduceAdd, Nat.reduceMul, Nat.reduceSub, Nat.reduceBEq, Int.reduceLT, Int.reduceLE, Int.reduceEq, Int.reduceBEq, Int.reduceNeg]
    · rw [if_neg h, List.append_nil] at hst
      refine again ⟨i + 1, by omega⟩ (by simp; omega) ?_
      simp -dsimp -implicitDefEqProofs only [← hL, hw, hst, go_sem, ↓reduceIte, reduceCtorEq, Nat.reduceLT, Nat.reduceLeDiff, Nat.reduceEqDiff, Nat.reduceAdd, Nat.reduceMul, Nat.reduceSub, Nat.reduceBEq, Int.reduceLT, Int.reduceLE, Int.reduceEq, Int.reduceBEq, Int.reduceNeg]
  · have hil : i = l.length := by omega
    subst hil
    rw [List.take_length] at *
    simp -dsimp -implicitDefEqProofs only [retH, ← hL, go_sem, ↓reduceIte, reduceCtorEq, Nat.reduceLT, Nat.reduceLeDiff, Nat.reduceEqDiff, Nat.reduceAdd, Nat.reduceMul, Nat.reduceSub, Nat.reduceBEq, Int.reduceLT, Int.reduceLE, Int.reduceEq, Int.reduceBEq, Int.reduceNeg]
    unfold crowdB
    exact ⟨fun h => by rw [h, Bool.true_and, decide_eq_decide]; omega, fun h => by rw [h]; rfl⟩

/-- What Check asks of the record in place i. -/
def goodAt (a : Bs) (l : List Rec) (i : Nat) : Bool := match l[i]? with
  | some r => formB r && underB r.N a && (match i with | 0 => true | j + 1 => match l[j]? with | some q => decide (ordR q r < 0) | none => true) && !crowdB l r.N
  | none => true
def apexB (a : Bs) : Bool := a == [] || isName a
def okZ (a : Bs) (l : List Rec) : Bool := apexB a && (List.range l.length).all (goodAt a l)
def checkV (a : Bs) (l : List Rec) : Int := if okZ a l then (if 64 < l.length then 2 else 0) else 1
structure ZcInv (a : Bs) (l : List Rec) where
  i : Nat
  le : i ≤ l.length
  ok : ∀ j, j < i → goodAt a l j = true
theorem range_bad {n i : Nat} {f : Nat → Bool} (hi : i < n) (h : f i = false) : (List.range n).all f = false := by
  rw [Bool.eq_false_iff]
  intro hh
  rw [List.all_eq_true] at hh
  rw [hh i (List.mem_range.2 hi)] at h; cases h
theorem range_good {n : Nat} {f : Nat → Bool} (h : ∀ j, j < n → f j = true) : (List.range n).all f = true :=
  List.all_eq_true.2 fun j hj => h j (List.mem_range.1 hj)
theorem checkV_bad {a : Bs} {l : List Rec} {i : Nat} (hi : i < l.length) (h : goodAt a l i = false) : checkV a l = 1 := by
  unfold checkV okZ; rw [range_bad hi h]; simp
theorem checkV_apex {a : Bs} {l : List Rec} (h : apexB a = false) : checkV a l = 1 := by
  unfold checkV okZ; rw [h]; simp
theorem checkV_good {a : Bs} {l : List Rec} (h : apexB a = true) (h2 : ∀ j, j < l.length → goodAt a l j = true) : checkV a l = if 64 < l.length then 2 else 0 := by
  unfold checkV okZ; rw [h, range_good h2]; simp
theorem goodAt_0 {a : Bs} {l : List Rec} {r : Rec} (h : l[0]? = some r) : goodAt a l 0 = (formB r && underB r.N a && !crowdB l r.N) := by
  unfold goodAt; rw [h]; simp
theorem goodAt_S {a : Bs} {l : List Rec} {r q : Rec} {i : Nat} (h : l[i + 1]? = some r) (hq : l[i]? = some q) : goodAt a l (i + 1) = (formB r && underB r.N a && decide (ordR q r < 0) && !crowdB l r.N) := by
  unfold goodAt; rw [h]; simp [hq]

theorem zcheck_ok (a : Bs) (l : List Rec) (hl : l.length ≤ 1000000) : Meets Tryd.prog 25 [zoneA a l] (rOne (vI (checkV a l))) := by
  refine meets Tryd.func25 rfl rfl Tryd.ntmps25 Tryd.results25 rfl ?_
  simp -dsimp -implicitDefEqProofs only [go_sem, ↓reduceIte, reduceCtorEq, Nat.reduceLT, Nat.reduceLeDiff, Nat.reduceEqDiff, Nat.reduceAdd, Nat.reduceMul, Nat.reduceSub, Nat.reduceBEq, Int.reduceLT, Int.reduceLE, Int.reduceEq, Int.reduceBEq, Int.reduceNeg]
  cases hap : apexB a with
  | false =>
    have h1 : ¬ a = [] := by intro h; subst h; simp [apexB] at hap
    have h2 : isName a = false := by simpa [apexB, h1] using hap
    simp -dsimp -implicitDefEqProofs only [h1, go_sem, ↓reduceIte, reduceCtorEq, Nat.reduceLT, Nat.reduceLeDiff, Nat.reduceEqDiff, Nat.reduceAdd, Nat.reduceMul, Nat.reduceSub, Nat.reduceBEq, Int.reduceLT, Int.reduceLE, Int.reduceEq, Int.reduceBEq, Int.reduceNeg]
    refine callP (named_ok a) ?_
    simp -dsimp -implicitDefEqProofs only [h2, checkV_apex hap, go_sem, ↓reduceIte, reduceCtorEq, Nat.reduceLT, Nat.reduceLeDiff, Nat.reduceEqDiff, Nat.reduceAdd, Nat.reduceMul, Nat.reduceSub, Nat.reduceBEq, Int.reduceLT, Int.reduceLE, Int.reduceEq, Int.reduceBEq, Int.reduceNeg]
  | true =>
  have hstart : a = [] ∨ (¬ a = [] ∧ isName a = true) := by
    by_cases h : a = []
    · exact .inl h
    · exact .inr ⟨h, by simpa [apexB, h] using hap⟩
  rcases hstart with rfl | ⟨h1, h2⟩
  · skip
    simp -dsimp -implicitDefEqProofs only [go_sem, ↓reduceIte, reduceCtorEq, Nat.reduceLT, Nat.reduceLeDiff, Nat.reduceEqDiff, Nat.reduceAdd, Nat.reduceMul, Nat.reduceSub, Nat.reduceBEq, Int.reduceLT, Int.reduceLE, Int.reduceEq, Int.reduceBEq, Int.reduceNeg]
    refine vfor sitOk (ι := ZcInv [] l) (fun v => ⟨59, [(17, aI v.i), (16, aI l.length), (15, aD (recsD l)), (1, aP 0 0)], [(0, some (.var [cS [], cD (recsD l)] true))], 120⟩) (fun v => l.length - v.i) ⟨0, by omega, fun j hj => by omega⟩ ?_ ?_
    · simp -dsimp -implicitDefEqProofs only [go_sem, ↓reduceIte, reduceCtorEq, Nat.reduceLT, Nat.reduceLeDiff, Nat.reduceEqDiff, Nat.reduceAdd, Nat.reduceMul, Nat.reduceSub, Nat.reduceBEq, Int.reduceLT, Int.reduceLE, Int.reduceEq, Int.reduceBEq, Int.reduceNeg]
    intro ⟨i, hi, hok⟩
    simp -dsimp -implicitDefEqProofs only [go_sem, ↓reduceIte, reduceCtorEq, Nat.reduceLT, Nat.reduceLeDiff, Nat.reduceEqDiff, Nat.reduceAdd, Nat.reduceMul, Nat.reduceSub, Nat.reduceBEq, Int.reduceLT, Int.reduceLE, Int.reduceEq, Int.reduceBEq, Int.reduceNeg]
    refine ⟨fun hlt => ?_, fun hge => ?_⟩
    · have hil : i < l.length := by omega
      obtain ⟨x, hx⟩ : ∃ x, l[i]? = some x := ⟨_, List.getElem?_eq_getElem hil⟩
      have hw := wrapS hil (by omega)
      have bad : goodAt [] l i = false → 1 = checkV [] l := fun h => (checkV_bad hil h).symm
      have next : goodAt [] l i = true → ∀ j, j < i + 1 → goodAt [] l j = true := fun h j hj => by
        by_cases hji : j = i
        · subst hji; exact h
        · exact hok j (by omega)
      cases i with
      | zero =>
        have hg := goodAt_0 (a := []) hx
        simp -dsimp -implicitDefEqProofs only [hx, forall_eq', hw, go_sem, ↓reduceIte, reduceCtorEq, Nat.reduceLT, Nat.reduceLeDiff, Nat.reduceEqDiff, Nat.reduceAdd, Nat.reduceMul, Nat.reduceSub, Nat.reduceBEq, Int.reduceLT, Int.reduceLE, Int.reduceEq, Int.reduceBEq, Int.reduceNeg]
        repeat' (first | with_reducible apply And.intro | with_reducible intro _ | with_reducible exact drawn (by kernel_rfl) | (refine callP (formed_ok _) ?_; simp -dsimp -implicitDefEqProofs only [hx, forall_eq', hw, go_sem, ↓reduceIte, reduceCtorEq, Nat.reduceLT, Nat.reduceLeDiff, Nat.reduceEqDiff, Nat.reduceAdd, Nat.reduceMul, Nat.reduceSub, Nat.reduceBEq, Int.reduceLT, Int.reduceLE, Int.reduceEq, Int.reduceBEq, Int.reduceNeg]) | (refine callP (under_ok _ _) ?_; simp -dsimp -implicitDefEqProofs only [hx, forall_eq', hw, go_sem, ↓reduceIte, reduceCtorEq, Nat.reduceLT, Nat.reduceLeDiff, Nat.reduceEqDiff, Nat.reduceAdd, Nat.reduceMul, Nat.reduceSub, Nat.reduceBEq, Int.reduceLT, Int.reduceLE, Int.reduceEq, Int.reduceBEq, Int.reduceNeg]) | (refine callP (crowded_ok _ _ _ hl) ?_; simp -dsimp -implicitDefEqProofs only [hx, forall_eq', hw, go_sem, ↓reduceIte, reduceCtorEq, Nat.reduceLT, Nat.reduceLeDiff, Nat.reduceEqDiff, Nat.reduceAdd, Nat.reduceMul, Nat.reduceSub, Nat.reduceBEq, Int.reduceLT, Int.reduceLE, Int.reduceEq, Int.reduceBEq, Int.reduceNeg]) | omega)
        all_goals first
          | (with_reducible refine bad ?_; rw [hg]; simp [*]; done)
          | (refine again ⟨1, by omega, next (by rw [hg]; simp [*])⟩ (by simp; omega) ?_
             simp -dsimp -implicitDefEqProofs only [go_sem, ↓reduceIte, reduceCtorEq, Nat.reduceLT, Nat.reduceLeDiff, Nat.reduceEqDiff, Nat.reduceAdd, Nat.reduceMul, Nat.reduceSub, Nat.reduceBEq, Int.reduceLT, Int.reduceLE, Int.reduceEq, Int.reduceBEq, Int.reduceNeg]
             rfl)
          | trace_state
      | succ k =>
        obtain ⟨y, hy⟩ : ∃ y, l[k]? = some y := ⟨_, List.getElem?_eq_getElem (by omega)⟩
        have hg := goodAt_S (a := []) hx hy
        have hw2 : IntKind.i64.wrap (((k + 1 : Nat) : Int) - 1) = (k : Int) := by rw [wrap64] <;> omega
        have hyl : k < l.length := by omega
        simp -dsimp -implicitDefEqProofs only [hx, hy, forall_eq', hw, hw2, go_sem, ↓reduceIte, reduceCtorEq, Nat.reduceLT, Nat.reduceLeDiff, Nat.reduceEqDiff, Nat.reduceAdd, Nat.reduceMul, Nat.reduceSub, Nat.reduceBEq, Int.reduceLT, Int.reduceLE, Int.reduceEq, Int.reduceBEq, Int.reduceNeg]
        repeat' (first | with_reducible apply And.intro | with_reducible intro _ | with_reducible exact drawn (by kernel_rfl) | (refine callP (formed_ok _) ?_; simp -dsimp -implicitDefEqProofs only [hx, hy, forall_eq', hw, hw2, go_sem, ↓reduceIte, reduceCtorEq, Nat.reduceLT, Nat.reduceLeDiff, Nat.reduceEqDiff, Nat.reduceAdd, Nat.reduceMul, Nat.reduceSub, Nat.reduceBEq, Int.reduceLT, Int.reduceLE, Int.reduceEq, Int.reduceBEq, Int.reduceNeg]) | (refine callP (under_ok _ _) ?_; simp -dsimp -implicitDefEqProofs only [hx, hy, forall_eq', hw, hw2, go_sem, ↓reduceIte, reduceCtorEq, Nat.reduceLT, Nat.reduceLeDiff, Nat.reduceEqDiff, Nat.reduceAdd, Nat.reduceMul, Nat.reduceSub, Nat.reduceBEq, Int.reduceLT, Int.reduceLE, Int.reduceEq, Int.reduceBEq, Int.reduceNeg]) | (refine callP (order_ok _ _) ?_; simp -dsimp -implicitDefEqProofs only [hx, hy, forall_eq', hw, hw2, go_sem, ↓reduceIte, reduceCtorEq, Nat.reduceLT, Nat.reduceLeDiff, Nat.reduceEqDiff, Nat.reduceAdd, Nat.reduceMul, Nat.reduceSub, Nat.reduceBEq, Int.reduceLT, Int.reduceLE, Int.reduceEq, Int.reduceBEq, Int.reduceNeg]) | (refine callP (crowded_ok _ _ _ hl) ?_; simp -dsimp -implicitDefEqProofs only [hx, hy, forall_eq', hw, hw2, go_sem, ↓reduceIte, reduceCtorEq, Nat.reduceLT, Nat.reduceLeDiff, Nat.reduceEqDiff, Nat.reduceAdd, Nat.reduceMul, Nat.reduceSub, Nat.reduceBEq, Int.reduceLT, Int.reduceLE, Int.reduceEq, Int.reduceBEq, Int.reduceNeg]) | omega)
        all_goals first
          | (with_reducible refine bad ?_; rw [hg]; simp [*]; done)
          | (with_reducible refine bad ?_; rw [hg]; simp [*]; omega)
          | (refine again ⟨k + 1 + 1, by omega, next (by rw [hg]; simp [*])⟩ (by simp; omega) ?_
             simp -dsimp -implicitDefEqProofs only [go_sem, ↓reduceIte, reduceCtorEq, Nat.reduceLT, Nat.reduceLeDiff, Nat.reduceEqDiff, Nat.reduceAdd, Nat.reduceMul, Nat.reduceSub, Nat.reduceBEq, Int.reduceLT, Int.reduceLE, Int.reduceEq, Int.reduceBEq, Int.reduceNeg]; done)
          | trace_state
    · have hil : i = l.length := by omega
      subst hil
      rw [checkV_good hap hok]
      refine ⟨fun h => ?_, fun h => ?_⟩
      · rw [if_pos (by omega)]
      · rw [if_neg (by omega)]

  · simp -dsimp -implicitDefEqProofs only [h1, go_sem, ↓reduceIte, reduceCtorEq, Nat.reduceLT, Nat.reduceLeDiff, Nat.reduceEqDiff, Nat.reduceAdd, Nat.reduceMul, Nat.reduceSub, Nat.reduceBEq, Int.reduceLT, Int.reduceLE, Int.reduceEq, Int.reduceBEq, Int.reduceNeg]
    refine callP (named_ok a) ?_
    simp -dsimp -implicitDefEqProofs only [h2, go_sem, ↓reduceIte, reduceCtorEq, Nat.reduceLT, Nat.reduceLeDiff, Nat.reduceEqDiff, Nat.reduceAdd, Nat.reduceMul, Nat.reduceSub, Nat.reduceBEq, Int.reduceLT, Int.reduceLE, Int.reduceEq, Int.reduceBEq, Int.reduceNeg]
    refine vfor sitOk (ι := ZcInv a l) (fun v => ⟨59, [(17, aI v.i), (16, aI l.length), (15, aD (recsD l)), (1, aP 0 0)], [(0, some (.var [cS a, cD (recsD l)] true))], 120⟩) (fun v => l.length - v.i) ⟨0, by omega, fun j hj => by omega⟩ ?_ ?_
    · simp -dsimp -implicitDefEqProofs only [go_sem, ↓reduceIte, reduceCtorEq, Nat.reduceLT, Nat.reduceLeDiff, Nat.reduceEqDiff, Nat.reduceAdd, Nat.reduceMul, Nat.reduceSub, Nat.reduceBEq, Int.reduceLT, Int.reduceLE, Int.reduceEq, Int.reduceBEq, Int.reduceNeg]
    intro ⟨i, hi, hok⟩
    simp -dsimp -implicitDefEqProofs only [go_sem, ↓reduceIte, reduceCtorEq, Nat.reduceLT, Nat.reduceLeDiff, Nat.reduceEqDiff, Nat.reduceAdd, Nat.reduceMul, Nat.reduceSub, Nat.reduceBEq, Int.reduceLT, Int.reduceLE, Int.reduceEq, Int.reduceBEq, Int.reduceNeg]
    refine ⟨fun hlt => ?_, fun hge => ?_⟩
    · have hil : i < l.length := by omega
      obtain ⟨x, hx⟩ : ∃ x, l[i]? = some x := ⟨_, List.getElem?_eq_getElem hil⟩
      have hw := wrapS hil (by omega)
      have bad : goodAt a l i = false → 1 = checkV a l := fun h => (checkV_bad hil h).symm
      have next : goodAt a l i = true → ∀ j, j < i + 1 → goodAt a l j = true := fun h j hj => by
        by_cases hji : j = i
        · subst hji; exact h
        · exact hok j (by omega)
      cases i with
      | zero =>
        have hg := goodAt_0 (a := a) hx
        simp -dsimp -implicitDefEqProofs only [hx, forall_eq', hw, go_sem, ↓reduceIte, reduceCtorEq, Nat.reduceLT, Nat.reduceLeDiff, Nat.reduceEqDiff, Nat.reduceAdd, Nat.reduceMul, Nat.reduceSub, Nat.reduceBEq, Int.reduceLT, Int.reduceLE, Int.reduceEq, Int.reduceBEq, Int.reduceNeg]
        repeat' (first | with_reducible apply And.intro | with_reducible intro _ | with_reducible exact drawn (by kernel_rfl) | (refine callP (formed_ok _) ?_; simp -dsimp -implicitDefEqProofs only [hx, forall_eq', hw, go_sem, ↓reduceIte, reduceCtorEq, Nat.reduceLT, Nat.reduceLeDiff, Nat.reduceEqDiff, Nat.reduceAdd, Nat.reduceMul, Nat.reduceSub, Nat.reduceBEq, Int.reduceLT, Int.reduceLE, Int.reduceEq, Int.reduceBEq, Int.reduceNeg]) | (refine callP (under_ok _ _) ?_; simp -dsimp -implicitDefEqProofs only [hx, forall_eq', hw, go_sem, ↓reduceIte, reduceCtorEq, Nat.reduceLT, Nat.reduceLeDiff, Nat.reduceEqDiff, Nat.reduceAdd, Nat.reduceMul, Nat.reduceSub, Nat.reduceBEq, Int.reduceLT, Int.reduceLE, Int.reduceEq, Int.reduceBEq, Int.reduceNeg]) | (refine callP (crowded_ok _ _ _ hl) ?_; simp -dsimp -implicitDefEqProofs only [hx, forall_eq', hw, go_sem, ↓reduceIte, reduceCtorEq, Nat.reduceLT, Nat.reduceLeDiff, Nat.reduceEqDiff, Nat.reduceAdd, Nat.reduceMul, Nat.reduceSub, Nat.reduceBEq, Int.reduceLT, Int.reduceLE, Int.reduceEq, Int.reduceBEq, Int.reduceNeg]) | omega)
        all_goals first
          | (with_reducible refine bad ?_; rw [hg]; simp [*]; done)
          | (refine again ⟨1, by omega, next (by rw [hg]; simp [*])⟩ (by simp; omega) ?_
             simp -dsimp -implicitDefEqProofs only [go_sem, ↓reduceIte, reduceCtorEq, Nat.reduceLT, Nat.reduceLeDiff, Nat.reduceEqDiff, Nat.reduceAdd, Nat.reduceMul, Nat.reduceSub, Nat.reduceBEq, Int.reduceLT, Int.reduceLE, Int.reduceEq, Int.reduceBEq, Int.reduceNeg]
             rfl)
          | trace_state
      | succ k =>
        obtain ⟨y, hy⟩ : ∃ y, l[k]? = some y := ⟨_, List.getElem?_eq_getElem (by omega)⟩
        have hg := goodAt_S (a := a) hx hy
        have hw2 : IntKind.i64.wrap (((k + 1 : Nat) : Int) - 1) = (k : Int) := by rw [wrap64] <;> omega
        have hyl : k < l.length := by omega
        simp -dsimp -implicitDefEqProofs only [hx, hy, forall_eq', hw, hw2, go_sem, ↓reduceIte, reduceCtorEq, Nat.reduceLT, Nat.reduceLeDiff, Nat.reduceEqDiff, Nat.reduceAdd, Nat.reduceMul, Nat.reduceSub, Nat.reduceBEq, Int.reduceLT, Int.reduceLE, Int.reduceEq, Int.reduceBEq, Int.reduceNeg]
        repeat' (first | with_reducible apply And.intro | with_reducible intro _ | with_reducible exact drawn (by kernel_rfl) | (refine callP (formed_ok _) ?_; simp -dsimp -implicitDefEqProofs only [hx, hy, forall_eq', hw, hw2, go_sem, ↓reduceIte, reduceCtorEq, Nat.reduceLT, Nat.reduceLeDiff, Nat.reduceEqDiff, Nat.reduceAdd, Nat.reduceMul, Nat.reduceSub, Nat.reduceBEq, Int.reduceLT, Int.reduceLE, Int.reduceEq, Int.reduceBEq, Int.reduceNeg]) | (refine callP (under_ok _ _) ?_; simp -dsimp -implicitDefEqProofs only [hx, hy, forall_eq', hw, hw2, go_sem, ↓reduceIte, reduceCtorEq, Nat.reduceLT, Nat.reduceLeDiff, Nat.reduceEqDiff, Nat.reduceAdd, Nat.reduceMul, Nat.reduceSub, Nat.reduceBEq, Int.reduceLT, Int.reduceLE, Int.reduceEq, Int.reduceBEq, Int.reduceNeg]) | (refine callP (order_ok _ _) ?_; simp -dsimp -implicitDefEqProofs only [hx, hy, forall_eq', hw, hw2, go_sem, ↓reduceIte, reduceCtorEq, Nat.reduceLT, Nat.reduceLeDiff, Nat.reduceEqDiff, Nat.reduceAdd, Nat.reduceMul, Nat.reduceSub, Nat.reduceBEq, Int.reduceLT, Int.reduceLE, Int.reduceEq, Int.reduceBEq, Int.reduceNeg]) | (refine callP (crowded_ok _ _ _ hl) ?_; simp -dsimp -implicitDefEqProofs only [hx, hy, forall_eq', hw, hw2, go_sem, ↓reduceIte, reduceCtorEq, Nat.reduceLT, Nat.reduceLeDiff, Nat.reduceEqDiff, Nat.reduceAdd, Nat.reduceMul, Nat.reduceSub, Nat.reduceBEq, Int.reduceLT, Int.reduceLE, Int.reduceEq, Int.reduceBEq, Int.reduceNeg]) | omega)
        all_goals first
          | (with_reducible refine bad ?_; rw [hg]; simp [*]; done)
          | (with_reducible refine bad ?_; rw [hg]; simp [*]; omega)
          | (refine again ⟨k + 1 + 1, by omega, next (by rw [hg]; simp [*])⟩ (by simp; omega) ?_
             simp -dsimp -implicitDefEqProofs only [go_sem, ↓reduceIte, reduceCtorEq, Nat.reduceLT, Nat.reduceLeDiff, Nat.reduceEqDiff, Nat.reduceAdd, Nat.reduceMul, Nat.reduceSub, Nat.reduceBEq, Int.reduceLT, Int.reduceLE, Int.reduceEq, Int.reduceBEq, Int.reduceNeg]; done)
          | trace_state
    · have hil : i = l.length := by omega
      subst hil
      rw [checkV_good hap hok]
      refine ⟨fun h => ?_, fun h => ?_⟩
      · rw [if_pos (by omega)]
      · rw [if_neg (by omega)]


theorem new_ok (a : Bs) : Meets Tryd.prog 29 [(false, [vS a])] (rTup [if apexB a then zoneA a [] else zoneA [] [], (false, [vI (if apexB a then 0 else 1)])]) := by
  have h0 : apexB [] = true := rfl
  cases hap : apexB a with
  | false =>
    have h1 : ¬ a = [] := by intro h; subst h; simp [apexB] at hap
    have h2 : isName a = false := by simpa [apexB, h1] using hap
    refine meets Tryd.func29 rfl rfl Tryd.ntmps29 Tryd.results29 rfl ?_
    simp -dsimp -implicitDefEqProofs only [h1, Bool.false_eq_true, go_sem, ↓reduceIte, reduceCtorEq, Nat.reduceLT, Nat.reduceLeDiff, Nat.reduceEqDiff, Nat.reduceAdd, Nat.reduceMul, Nat.reduceSub, Nat.reduceBEq, Int.reduceLT, Int.reduceLE, Int.reduceEq, Int.reduceBEq, Int.reduceNeg]
    refine callP (named_ok a) ?_
    simp -dsimp -implicitDefEqProofs only [h2, go_sem, ↓reduceIte, reduceCtorEq, Nat.reduceLT, Nat.reduceLeDiff, Nat.reduceEqDiff, Nat.reduceAdd, Nat.reduceMul, Nat.reduceSub, Nat.reduceBEq, Int.reduceLT, Int.reduceLE, Int.reduceEq, Int.reduceBEq, Int.reduceNeg]
  | true =>
    by_cases h1 : a = []
    · subst h1
      refine meets Tryd.func29 rfl rfl Tryd.ntmps29 Tryd.results29 rfl ?_
      simp -dsimp -implicitDefEqProofs only [go_sem, ↓reduceIte, reduceCtorEq, Nat.reduceLT, Nat.reduceLeDiff, Nat.reduceEqDiff, Nat.reduceAdd, Nat.reduceMul, Nat.reduceSub, Nat.reduceBEq, Int.reduceLT, Int.reduceLE, Int.reduceEq, Int.reduceBEq, Int.reduceNeg]
    · have h2 : isName a = true := by simpa [apexB, h1] using hap
      refine meets Tryd.func29 rfl rfl Tryd.ntmps29 Tryd.results29 rfl ?_
      simp -dsimp -implicitDefEqProofs only [h1, go_sem, ↓reduceIte, reduceCtorEq, Nat.reduceLT, Nat.reduceLeDiff, Nat.reduceEqDiff, Nat.reduceAdd, Nat.reduceMul, Nat.reduceSub, Nat.reduceBEq, Int.reduceLT, Int.reduceLE, Int.reduceEq, Int.reduceBEq, Int.reduceNeg]
      refine callP (named_ok a) ?_
      simp -dsimp -implicitDefEqProofs only [h2, go_sem, ↓reduceIte, reduceCtorEq, Nat.reduceLT, Nat.reduceLeDiff, Nat.reduceEqDiff, Nat.reduceAdd, Nat.reduceMul, Nat.reduceSub, Nat.reduceBEq, Int.reduceLT, Int.reduceLE, Int.reduceEq, Int.reduceBEq, Int.reduceNeg]
end Go.Proofs.YtfgejhlgenaniaaDoor
