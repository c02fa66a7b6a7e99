/- The contracts of limited, on, left, Left (both). -/
import Derived.Test.YtfidbkmogileiaaB3
namespace Go.Proofs.Ytfidbkmogileiaa
open Go.Eng
set_option linter.unusedSimpArgs false
set_option maxRecDepth 10000

/-- A rule: what is not looked at, then most and window. -/
structure Ru where
  n : D
  al : D
  p : D
  k : D
  lf : D
  M : Int
  W : Int
abbrev Ru.cells (x : Ru) : List D := [x.n, x.al, x.p, x.k, x.lf, dI x.M, dI x.W]
abbrev Ru.arg (x : Ru) : Bool × List CV := (true, [vD x.n, vD x.al, vD x.p, vD x.k, vD x.lf, vI x.M, vI x.W])

theorem limited_ok (x : Ru) (rule account now : Int) : Meets Try.prog 28 [x.arg, (false, [vI rule]), (false, [vI account]), (false, [vI now])]
    (rTup [(true, [vI x.M, vI x.W, vI account, vI rule, vI now]), (false, [vB (mayB x.M x.W rule account now)])]) := by
  refine meets Try.func28 rfl rfl Try.ntmps28 Try.results28 rfl ?_
  simp -dsimp -implicitDefEqProofs only [go_sem, ↓reduceIte, reduceCtorEq, Nat.reduceLT, Nat.reduceLeDiff, Nat.reduceEqDiff, Nat.reduceAdd, Nat.reduceMul, Nat.reduceSub, Nat.reduceBEq, Int.reduceLT, Int.reduceLE, Int.reduceEq, Int.reduceBEq, Int.reduceNeg]
  repeat' (first | with_reducible apply And.intro | with_reducible intro _ | with_reducible exact drawn (by kernel_rfl) | (refine callP (number_ok _) ?_; simp -dsimp -implicitDefEqProofs only [go_sem, ↓reduceIte, reduceCtorEq, Nat.reduceLT, Nat.reduceLeDiff, Nat.reduceEqDiff, Nat.reduceAdd, Nat.reduceMul, Nat.reduceSub, Nat.reduceBEq, Int.reduceLT, Int.reduceLE, Int.reduceEq, Int.reduceBEq, Int.reduceNeg]) | omega)
  all_goals first
    | (simp [mayB, rmB, ruleB, *]; done)
    | (simp [mayB, rmB, ruleB, *]; omega)
    | (simp [mayB, rmB, ruleB, show numB 0 = true from rfl, *]; done)
    | trace_state

theorem rmay_ok (x : Ru) : Meets Try.prog 42 [x.arg] (rOne (vB (rmB x.M x.W))) := by
  have hW : decide (1 ≤ x.W) = decide (0 < x.W) := by rw [decide_eq_decide]; omega
  refine meets Try.func42 rfl rfl Try.ntmps42 Try.results42 rfl ?_
  simp -dsimp -implicitDefEqProofs only [go_sem, ↓reduceIte, reduceCtorEq, Nat.reduceLT, Nat.reduceLeDiff, Nat.reduceEqDiff, Nat.reduceAdd, Nat.reduceMul, Nat.reduceSub, Nat.reduceBEq, Int.reduceLT, Int.reduceLE, Int.reduceEq, Int.reduceBEq, Int.reduceNeg]
  repeat' (first | with_reducible apply And.intro | with_reducible intro _ | with_reducible exact drawn (by kernel_rfl) | (refine callP (rnumber_ok _) ?_; simp -dsimp -implicitDefEqProofs only [go_sem, ↓reduceIte, reduceCtorEq, Nat.reduceLT, Nat.reduceLeDiff, Nat.reduceEqDiff, Nat.reduceAdd, Nat.reduceMul, Nat.reduceSub, Nat.reduceBEq, Int.reduceLT, Int.reduceLE, Int.reduceEq, Int.reduceBEq, Int.reduceNeg]) | omega)
  all_goals first
    | (simp [rmB, *]; done)
    | (simp [rmB, show numB 0 = true from rfl, *]; done)
    | trace_state

theorem rasked_ok (x : Ru) (rule account now : Int) : Meets Try.prog 30 [x.arg, (false, [vI rule]), (false, [vI account]), (false, [vI now])] (rOne (vB (mayB x.M x.W rule account now))) := by
  refine meets Try.func30 rfl rfl Try.ntmps30 Try.results30 rfl ?_
  simp -dsimp -implicitDefEqProofs only [go_sem, ↓reduceIte, reduceCtorEq, Nat.reduceLT, Nat.reduceLeDiff, Nat.reduceEqDiff, Nat.reduceAdd, Nat.reduceMul, Nat.reduceSub, Nat.reduceBEq, Int.reduceLT, Int.reduceLE, Int.reduceEq, Int.reduceBEq, Int.reduceNeg]
  repeat' (first | with_reducible apply And.intro | with_reducible intro _ | with_reducible exact drawn (by kernel_rfl) | (refine callP (rmay_ok ⟨_, _, _, _, _, _, _⟩) ?_; simp -dsimp -implicitDefEqProofs only [go_sem, ↓reduceIte, reduceCtorEq, Nat.reduceLT, Nat.reduceLeDiff, Nat.reduceEqDiff, Nat.reduceAdd, Nat.reduceMul, Nat.reduceSub, Nat.reduceBEq, Int.reduceLT, Int.reduceLE, Int.reduceEq, Int.reduceBEq, Int.reduceNeg]) | (refine callP (rnumber_ok _) ?_; simp -dsimp -implicitDefEqProofs only [go_sem, ↓reduceIte, reduceCtorEq, Nat.reduceLT, Nat.reduceLeDiff, Nat.reduceEqDiff, Nat.reduceAdd, Nat.reduceMul, Nat.reduceSub, Nat.reduceBEq, Int.reduceLT, Int.reduceLE, Int.reduceEq, Int.reduceBEq, Int.reduceNeg]) | (refine callP (rnumbered_ok _) ?_; simp -dsimp -implicitDefEqProofs only [go_sem, ↓reduceIte, reduceCtorEq, Nat.reduceLT, Nat.reduceLeDiff, Nat.reduceEqDiff, Nat.reduceAdd, Nat.reduceMul, Nat.reduceSub, Nat.reduceBEq, Int.reduceLT, Int.reduceLE, Int.reduceEq, Int.reduceBEq, Int.reduceNeg]) | omega)
  all_goals first
    | (simp [mayB, *]; done)
    | trace_state

theorem cmp1_ok (x : Sp) (a r : Int) : Meets Try.prog 49 [(true, [vI x.A, vI x.R, vI x.S, vI x.M]), (true, [vI a, vI r])] (rOne (vI (cmpS a r x))) := by
  refine meets Try.func49 rfl rfl Try.ntmps49 Try.results49 rfl ?_
  simp -dsimp -implicitDefEqProofs only [go_sem, ↓reduceIte, reduceCtorEq, Nat.reduceLT, Nat.reduceLeDiff, Nat.reduceEqDiff, Nat.reduceAdd, Nat.reduceMul, Nat.reduceSub, Nat.reduceBEq, Int.reduceLT, Int.reduceLE, Int.reduceEq, Int.reduceBEq, Int.reduceNeg]
  repeat' (first | with_reducible apply And.intro | with_reducible intro _ | with_reducible exact drawn (by kernel_rfl) | (refine callP (of_ok x) ?_; simp -dsimp -implicitDefEqProofs only [go_sem, ↓reduceIte, reduceCtorEq, Nat.reduceLT, Nat.reduceLeDiff, Nat.reduceEqDiff, Nat.reduceAdd, Nat.reduceMul, Nat.reduceSub, Nat.reduceBEq, Int.reduceLT, Int.reduceLE, Int.reduceEq, Int.reduceBEq, Int.reduceNeg]) | (refine callP (order_ok _ _ _ _) ?_; simp -dsimp -implicitDefEqProofs only [go_sem, ↓reduceIte, reduceCtorEq, Nat.reduceLT, Nat.reduceLeDiff, Nat.reduceEqDiff, Nat.reduceAdd, Nat.reduceMul, Nat.reduceSub, Nat.reduceBEq, Int.reduceLT, Int.reduceLE, Int.reduceEq, Int.reduceBEq, Int.reduceNeg]) | omega)
  rfl
theorem cmp2_ok (x : Sp) (a r : Int) : Meets Try.prog 44 [(true, [vI x.A, vI x.R, vI x.S, vI x.M]), (true, [vI a, vI r])] (rOne (vI (cmpS a r x))) := by
  refine meets Try.func44 rfl rfl Try.ntmps44 Try.results44 rfl ?_
  simp -dsimp -implicitDefEqProofs only [go_sem, ↓reduceIte, reduceCtorEq, Nat.reduceLT, Nat.reduceLeDiff, Nat.reduceEqDiff, Nat.reduceAdd, Nat.reduceMul, Nat.reduceSub, Nat.reduceBEq, Int.reduceLT, Int.reduceLE, Int.reduceEq, Int.reduceBEq, Int.reduceNeg]
  repeat' (first | with_reducible apply And.intro | with_reducible intro _ | with_reducible exact drawn (by kernel_rfl) | (refine callP (of_ok x) ?_; simp -dsimp -implicitDefEqProofs only [go_sem, ↓reduceIte, reduceCtorEq, Nat.reduceLT, Nat.reduceLeDiff, Nat.reduceEqDiff, Nat.reduceAdd, Nat.reduceMul, Nat.reduceSub, Nat.reduceBEq, Int.reduceLT, Int.reduceLE, Int.reduceEq, Int.reduceBEq, Int.reduceNeg]) | (refine callP (order_ok _ _ _ _) ?_; simp -dsimp -implicitDefEqProofs only [go_sem, ↓reduceIte, reduceCtorEq, Nat.reduceLT, Nat.reduceLeDiff, Nat.reduceEqDiff, Nat.reduceAdd, Nat.reduceMul, Nat.reduceSub, Nat.reduceBEq, Int.reduceLT, Int.reduceLE, Int.reduceEq, Int.reduceBEq, Int.reduceNeg]) | omega)
  rfl

def ptrS : Option Sp → CV
  | some x => vD (.pt x.cells)
  | none => vD (.v (.pointer none))

theorem okS_bounds {x : Sp} (h : okS x = true) : (0 ≤ x.A ∧ x.A ≤ 1099511627776) ∧ (0 ≤ x.R ∧ x.R < 32) ∧ (0 ≤ x.S ∧ x.S ≤ 1099511627776) ∧ 1 ≤ x.M ∧ x.M ≤ 1099511627776 := by
  simp [okS, numB, ruleB] at h; omega

theorem on_ok (l : List Sp) (M W a r now : Int) (hc : checkV l = 0) (hn : 0 ≤ now ∧ now ≤ 1099511627776) :
    Meets Try.prog 41 [(true, [vI M, vI W, vI a, vI r, vI now]), (false, [vD (spsD l)])] (rOne (ptrS (onS l W a r now))) := by
  obtain ⟨hok, hlen⟩ := checkV_zero hc
  have hri := okFrom_rises hok
  refine meets Try.func41 rfl rfl Try.ntmps41 Try.results41 rfl ?_
  simp -dsimp -implicitDefEqProofs only [go_sem, ↓reduceIte, reduceCtorEq, Nat.reduceLT, Nat.reduceLeDiff, Nat.reduceEqDiff, Nat.reduceAdd, Nat.reduceMul, Nat.reduceSub, Nat.reduceBEq, Int.reduceLT, Int.reduceLE, Int.reduceEq, Int.reduceBEq, Int.reduceNeg]
  refine callP (bsearch_ok l (by omega) a r _ (cmpS a r) fun x _ => cmp1_ok x a r) ?_
  rcases search_law (a := a) (r := r) hri with ⟨i, x, hi, hhit, hx, hk⟩ | ⟨i, hi, hhit, _, hno, _⟩
  · have hf := find_at hri hx hk
    have hb := okS_bounds (okFrom_all hok x (List.mem_of_getElem? hx))
    have hil := (List.getElem?_eq_some_iff.1 hx).1
    have hw : IntKind.i64.wrap (now - x.S) = now - x.S := by rw [wrap64] <;> omega
    simp -dsimp -implicitDefEqProofs only [hi, hhit, hx, forall_eq', hw, onS, hf, go_sem, ↓reduceIte, reduceCtorEq, Nat.reduceLT, Nat.reduceLeDiff, Nat.reduceEqDiff, Nat.reduceAdd, Nat.reduceMul, Nat.reduceSub, Nat.reduceBEq, Int.reduceLT, Int.reduceLE, Int.reduceEq, Int.reduceBEq, Int.reduceNeg]
    repeat' (first | with_reducible apply And.intro | with_reducible intro _ | with_reducible exact drawn (by kernel_rfl) | omega)
    · rename_i h; rw [if_pos h]; simp -dsimp -implicitDefEqProofs only [ptrS, go_sem, ↓reduceIte, reduceCtorEq, Nat.reduceLT, Nat.reduceLeDiff, Nat.reduceEqDiff, Nat.reduceAdd, Nat.reduceMul, Nat.reduceSub, Nat.reduceBEq, Int.reduceLT, Int.reduceLE, Int.reduceEq, Int.reduceBEq, Int.reduceNeg]
    · rename_i h; rw [if_neg (by omega)]; simp -dsimp -implicitDefEqProofs only [ptrS, go_sem, ↓reduceIte, reduceCtorEq, Nat.reduceLT, Nat.reduceLeDiff, Nat.reduceEqDiff, Nat.reduceAdd, Nat.reduceMul, Nat.reduceSub, Nat.reduceBEq, Int.reduceLT, Int.reduceLE, Int.reduceEq, Int.reduceBEq, Int.reduceNeg]
  · have hf := find_none hno
    simp -dsimp -implicitDefEqProofs only [hi, hhit, onS, hf, go_sem, ↓reduceIte, reduceCtorEq, Nat.reduceLT, Nat.reduceLeDiff, Nat.reduceEqDiff, Nat.reduceAdd, Nat.reduceMul, Nat.reduceSub, Nat.reduceBEq, Int.reduceLT, Int.reduceLE, Int.reduceEq, Int.reduceBEq, Int.reduceNeg]
    repeat' (first | with_reducible apply And.intro | with_reducible intro _ | with_reducible exact drawn (by kernel_rfl) | omega)
    simp -dsimp -implicitDefEqProofs only [ptrS, go_sem, ↓reduceIte, reduceCtorEq, Nat.reduceLT, Nat.reduceLeDiff, Nat.reduceEqDiff, Nat.reduceAdd, Nat.reduceMul, Nat.reduceSub, Nat.reduceBEq, Int.reduceLT, Int.reduceLE, Int.reduceEq, Int.reduceBEq, Int.reduceNeg]

theorem left_ok (l : List Sp) (M W a r now : Int) (hM : numB M = true) (hc : checkV l = 0) (hn : 0 ≤ now ∧ now ≤ 1099511627776) :
    Meets Try.prog 29 [(true, [vI M, vI W, vI a, vI r, vI now]), (false, [vD (spsD l)])] (rOne (vI (leftV l M W a r now))) := by
  obtain ⟨hok, hlen⟩ := checkV_zero hc
  have hM' := numB_true hM
  refine meets Try.func29 rfl rfl Try.ntmps29 Try.results29 rfl ?_
  simp -dsimp -implicitDefEqProofs only [go_sem, ↓reduceIte, reduceCtorEq, Nat.reduceLT, Nat.reduceLeDiff, Nat.reduceEqDiff, Nat.reduceAdd, Nat.reduceMul, Nat.reduceSub, Nat.reduceBEq, Int.reduceLT, Int.reduceLE, Int.reduceEq, Int.reduceBEq, Int.reduceNeg]
  refine ⟨fun h => by simp [leftV, h], fun h => ?_⟩
  cases ho : onS l W a r now with
  | none =>
    refine callP (ho ▸ on_ok l M W a r now hc hn) ?_
    simp -dsimp -implicitDefEqProofs only [ptrS, go_sem, ↓reduceIte, reduceCtorEq, Nat.reduceLT, Nat.reduceLeDiff, Nat.reduceEqDiff, Nat.reduceAdd, Nat.reduceMul, Nat.reduceSub, Nat.reduceBEq, Int.reduceLT, Int.reduceLE, Int.reduceEq, Int.reduceBEq, Int.reduceNeg]
    simp [leftV, h, ho]
  | some x =>
    have hx : okS x = true := by
      unfold onS at ho
      split at ho
      · rename_i y hy
        split at ho
        · cases ho
        · cases ho; exact okFrom_all hok _ (List.mem_of_find?_eq_some hy)
      · cases ho
    have hb := okS_bounds hx
    have hw : IntKind.i64.wrap (M - x.M) = M - x.M := by rw [wrap64] <;> omega
    refine callP (ho ▸ on_ok l M W a r now hc hn) ?_
    simp -dsimp -implicitDefEqProofs only [ptrS, hw, go_sem, ↓reduceIte, reduceCtorEq, Nat.reduceLT, Nat.reduceLeDiff, Nat.reduceEqDiff, Nat.reduceAdd, Nat.reduceMul, Nat.reduceSub, Nat.reduceBEq, Int.reduceLT, Int.reduceLE, Int.reduceEq, Int.reduceBEq, Int.reduceNeg]
    refine ⟨drawn (by kernel_rfl), ?_⟩
    simp [leftV, h, ho]
    split <;> omega

theorem Left_ok (l : List Sp) (x : Ru) (rule account now : Int) (hl : l.length ≤ 1000000) : Meets Try.prog 15 [(false, [vD (spsD l)]), x.arg, (false, [vI rule]), (false, [vI account]), (false, [vI now])] (rOne (vI (LeftV l x.M x.W rule account now))) := by
  refine meets Try.func15 rfl rfl Try.ntmps15 Try.results15 rfl ?_
  simp -dsimp -implicitDefEqProofs only [go_sem, ↓reduceIte, reduceCtorEq, Nat.reduceLT, Nat.reduceLeDiff, Nat.reduceEqDiff, Nat.reduceAdd, Nat.reduceMul, Nat.reduceSub, Nat.reduceBEq, Int.reduceLT, Int.reduceLE, Int.reduceEq, Int.reduceBEq, Int.reduceNeg]
  repeat' (first | with_reducible apply And.intro | with_reducible intro _ | with_reducible exact drawn (by kernel_rfl) | (refine callP (limited_ok ⟨_, _, _, _, _, _, _⟩ _ _ _) ?_; simp -dsimp -implicitDefEqProofs only [go_sem, ↓reduceIte, reduceCtorEq, Nat.reduceLT, Nat.reduceLeDiff, Nat.reduceEqDiff, Nat.reduceAdd, Nat.reduceMul, Nat.reduceSub, Nat.reduceBEq, Int.reduceLT, Int.reduceLE, Int.reduceEq, Int.reduceBEq, Int.reduceNeg]) | (refine callP (check_ok l hl) ?_; simp -dsimp -implicitDefEqProofs only [go_sem, ↓reduceIte, reduceCtorEq, Nat.reduceLT, Nat.reduceLeDiff, Nat.reduceEqDiff, Nat.reduceAdd, Nat.reduceMul, Nat.reduceSub, Nat.reduceBEq, Int.reduceLT, Int.reduceLE, Int.reduceEq, Int.reduceBEq, Int.reduceNeg]) | omega)
  · simp [LeftV, *]
  · rename_i hm hc
    have hm' : mayB x.M x.W rule account now = true := hm
    simp only [mayB, rmB, Bool.and_eq_true] at hm
    refine callP (left_ok l x.M x.W account rule now hm.1.1.1.1.1 hc (numB_true hm.2)) ?_
    simp -dsimp -implicitDefEqProofs only [go_sem, ↓reduceIte, reduceCtorEq, Nat.reduceLT, Nat.reduceLeDiff, Nat.reduceEqDiff, Nat.reduceAdd, Nat.reduceMul, Nat.reduceSub, Nat.reduceBEq, Int.reduceLT, Int.reduceLE, Int.reduceEq, Int.reduceBEq, Int.reduceNeg]
    simp [LeftV, hc, hm']
  · simp [LeftV, *]

structure FdInv (p : Sp → Bool) (l : List Sp) where
  i : Nat
  le : i ≤ l.length
  no : ∀ x ∈ l.take i, p x = false
theorem take_no {p : Sp → Bool} {l : List Sp} {i : Nat} {x : Sp} (h : ∀ x ∈ l.take i, p x = false) (hx : l[i]? = some x) (hp : p x = false) : ∀ y ∈ l.take (i + 1), p y = false := fun y hy => by
  rw [List.take_add_one, hx] at hy
  rcases List.mem_append.1 hy with hy | hy
  · exact h y hy
  · simp at hy; rw [hy]; exact hp
theorem find_here {p : Sp → Bool} {l : List Sp} {i : Nat} {x : Sp} (h : ∀ x ∈ l.take i, p x = false) (hx : l[i]? = some x) (hp : p x = true) : l.findIdx? p = some i := by
  rw [List.findIdx?_eq_some_iff_getElem]
  have hil := (List.getElem?_eq_some_iff.1 hx).1
  refine ⟨hil, ?_, fun j hj => ?_⟩
  · rw [List.getElem?_eq_getElem hil] at hx; cases hx; exact hp
  · have := h l[j] (List.mem_take_iff_getElem.2 ⟨j, by omega, rfl⟩)
    simp [this]

theorem rfind_ok (l : List Sp) (r a : Int) (hl : l.length ≤ 1000000) : Meets Try.prog 34 [(false, [vD (spsD l)]), (false, [vI r]), (false, [vI a])] (rOne (vI (match l.findIdx? (keyB a r) with | some i => i | none => -1))) := by
  refine meets Try.func34 rfl rfl Try.ntmps34 Try.results34 rfl ?_
  simp -dsimp -implicitDefEqProofs only [go_sem, ↓reduceIte, reduceCtorEq, Nat.reduceLT, Nat.reduceLeDiff, Nat.reduceEqDiff, Nat.reduceAdd, Nat.reduceMul, Nat.reduceSub, Nat.reduceBEq, Int.reduceLT, Int.reduceLE, Int.reduceEq, Int.reduceBEq, Int.reduceNeg]
  refine vfor sitOk (ι := FdInv (keyB a r) l) (fun v => ⟨31, [(7, aI v.i), (6, aI 0), (0, aD (spsD l)), (1, aI r), (2, aI a)], [], 16⟩) (fun v => l.length - v.i) ⟨0, by omega, by simp⟩ ?_ ?_
  · simp -dsimp -implicitDefEqProofs only [go_sem, ↓reduceIte, reduceCtorEq, Nat.reduceLT, Nat.reduceLeDiff, Nat.reduceEqDiff, Nat.reduceAdd, Nat.reduceMul, Nat.reduceSub, Nat.reduceBEq, Int.reduceLT, Int.reduceLE, Int.reduceEq, Int.reduceBEq, Int.reduceNeg]
  intro ⟨i, hi, hno⟩
  simp -dsimp -implicitDefEqProofs only [go_sem, ↓reduceIte, reduceCtorEq, Nat.reduceLT, Nat.reduceLeDiff, Nat.reduceEqDiff, Nat.reduceAdd, Nat.reduceMul, Nat.reduceSub, Nat.reduceBEq, Int.reduceLT, Int.reduceLE, Int.reduceEq, Int.reduceBEq, Int.reduceNeg]
  refine ⟨fun hlt => ⟨by omega, by omega, fun x hx => ?_⟩, fun hge => ?_⟩
  · have hil : i < l.length := by omega
    have hw := wrapS hil (by omega)
    simp -dsimp -implicitDefEqProofs only [hx, forall_eq', hw, go_sem, ↓reduceIte, reduceCtorEq, Nat.reduceLT, Nat.reduceLeDiff, Nat.reduceEqDiff, Nat.reduceAdd, Nat.reduceMul, Nat.reduceSub, Nat.reduceBEq, Int.reduceLT, Int.reduceLE, Int.reduceEq, Int.reduceBEq, Int.reduceNeg]
    repeat' (first | with_reducible apply And.intro | with_reducible intro _ | with_reducible exact drawn (by kernel_rfl) | omega)
    · rename_i h1 h2
      have : l.findIdx? (keyB a r) = some i := find_here hno hx (keyB_iff.2 ⟨h1, h2⟩)
      simp [this]
    · rename_i h1 h2
      refine again ⟨i + 1, by omega, take_no hno hx (by simp [keyB, h2])⟩ (by simp; omega) ?_
      simp -dsimp -implicitDefEqProofs only [hw, go_sem, ↓reduceIte, reduceCtorEq, Nat.reduceLT, Nat.reduceLeDiff, Nat.reduceEqDiff, Nat.reduceAdd, Nat.reduceMul, Nat.reduceSub, Nat.reduceBEq, Int.reduceLT, Int.reduceLE, Int.reduceEq, Int.reduceBEq, Int.reduceNeg]
    · rename_i h1
      refine again ⟨i + 1, by omega, take_no hno hx (by simp [keyB, h1])⟩ (by simp; omega) ?_
      simp -dsimp -implicitDefEqProofs only [hw, go_sem, ↓reduceIte, reduceCtorEq, Nat.reduceLT, Nat.reduceLeDiff, Nat.reduceEqDiff, Nat.reduceAdd, Nat.reduceMul, Nat.reduceSub, Nat.reduceBEq, Int.reduceLT, Int.reduceLE, Int.reduceEq, Int.reduceBEq, Int.reduceNeg]
  · rw [List.take_of_length_le (by omega)] at hno
    have : l.findIdx? (keyB a r) = none := List.findIdx?_eq_none_iff.2 fun x hx => hno x hx
    simp [this]

theorem find_split {p : Sp → Bool} (l : List Sp) : (l.findIdx? p = none ∧ l.find? p = none) ∨ ∃ i x, l.findIdx? p = some i ∧ l[i]? = some x ∧ p x = true ∧ l.find? p = some x := by
  cases h : l.findIdx? p with
  | none => exact .inl ⟨rfl, List.find?_eq_none.2 fun x hx => by have := List.findIdx?_eq_none_iff.1 h x hx; simp [this]⟩
  | some i =>
    obtain ⟨hi, hp, hno⟩ := List.findIdx?_eq_some_iff_getElem.1 h
    exact .inr ⟨i, l[i], rfl, List.getElem?_eq_getElem hi, hp, List.find?_eq_some_iff_getElem.2 ⟨hp, i, hi, rfl, fun j hj => by have := hno j hj; simpa using this⟩⟩

theorem rhad_ok (l : List Sp) (x : Ru) (r a now : Int) (hc : checkV l = 0) (hn : 0 ≤ now ∧ now ≤ 1099511627776) :
    Meets Try.prog 31 [(false, [vD (spsD l)]), x.arg, (false, [vI r]), (false, [vI a]), (false, [vI now])] (rOne (vI (match onS l x.W a r now with | some s => s.M | none => 0))) := by
  obtain ⟨hok, hlen⟩ := checkV_zero hc
  refine meets Try.func31 rfl rfl Try.ntmps31 Try.results31 rfl ?_
  simp -dsimp -implicitDefEqProofs only [go_sem, ↓reduceIte, reduceCtorEq, Nat.reduceLT, Nat.reduceLeDiff, Nat.reduceEqDiff, Nat.reduceAdd, Nat.reduceMul, Nat.reduceSub, Nat.reduceBEq, Int.reduceLT, Int.reduceLE, Int.reduceEq, Int.reduceBEq, Int.reduceNeg]
  refine callP (rfind_ok l r a (by omega)) ?_
  rcases find_split (p := keyB a r) l with ⟨h1, h2⟩ | ⟨i, y, h1, hy, hk, h2⟩
  · simp -dsimp -implicitDefEqProofs only [h1, h2, onS, go_sem, ↓reduceIte, reduceCtorEq, Nat.reduceLT, Nat.reduceLeDiff, Nat.reduceEqDiff, Nat.reduceAdd, Nat.reduceMul, Nat.reduceSub, Nat.reduceBEq, Int.reduceLT, Int.reduceLE, Int.reduceEq, Int.reduceBEq, Int.reduceNeg]
    repeat' (first | with_reducible apply And.intro | with_reducible intro _ | with_reducible exact drawn (by kernel_rfl) | omega)
  · have hb := okS_bounds (okFrom_all hok y (List.mem_of_getElem? hy))
    have hil := (List.getElem?_eq_some_iff.1 hy).1
    have hw : IntKind.i64.wrap (now - y.S) = now - y.S := by rw [wrap64] <;> omega
    simp -dsimp -implicitDefEqProofs only [h1, h2, onS, hy, forall_eq', hw, go_sem, ↓reduceIte, reduceCtorEq, Nat.reduceLT, Nat.reduceLeDiff, Nat.reduceEqDiff, Nat.reduceAdd, Nat.reduceMul, Nat.reduceSub, Nat.reduceBEq, Int.reduceLT, Int.reduceLE, Int.reduceEq, Int.reduceBEq, Int.reduceNeg]
    repeat' (first | with_reducible apply And.intro | with_reducible intro _ | with_reducible exact drawn (by kernel_rfl) | omega)
    · rename_i h; rw [if_pos h]
    · rename_i h; rw [if_neg (by omega)]

theorem rLeft_ok (l : List Sp) (x : Ru) (rule account now : Int) (hl : l.length ≤ 1000000) : Meets Try.prog 16 [(false, [vD (spsD l)]), x.arg, (false, [vI rule]), (false, [vI account]), (false, [vI now])] (rOne (vI (LeftV l x.M x.W rule account now))) := by
  refine meets Try.func16 rfl rfl Try.ntmps16 Try.results16 rfl ?_
  simp -dsimp -implicitDefEqProofs only [go_sem, ↓reduceIte, reduceCtorEq, Nat.reduceLT, Nat.reduceLeDiff, Nat.reduceEqDiff, Nat.reduceAdd, Nat.reduceMul, Nat.reduceSub, Nat.reduceBEq, Int.reduceLT, Int.reduceLE, Int.reduceEq, Int.reduceBEq, Int.reduceNeg]
  repeat' (first | with_reducible apply And.intro | with_reducible intro _ | with_reducible exact drawn (by kernel_rfl) | (refine callP (rasked_ok ⟨_, _, _, _, _, _, _⟩ _ _ _) ?_; simp -dsimp -implicitDefEqProofs only [go_sem, ↓reduceIte, reduceCtorEq, Nat.reduceLT, Nat.reduceLeDiff, Nat.reduceEqDiff, Nat.reduceAdd, Nat.reduceMul, Nat.reduceSub, Nat.reduceBEq, Int.reduceLT, Int.reduceLE, Int.reduceEq, Int.reduceBEq, Int.reduceNeg]) | (refine callP (rcheck_ok l hl) ?_; simp -dsimp -implicitDefEqProofs only [go_sem, ↓reduceIte, reduceCtorEq, Nat.reduceLT, Nat.reduceLeDiff, Nat.reduceEqDiff, Nat.reduceAdd, Nat.reduceMul, Nat.reduceSub, Nat.reduceBEq, Int.reduceLT, Int.reduceLE, Int.reduceEq, Int.reduceBEq, Int.reduceNeg]) | omega)
  · simp [LeftV, *]
  · rename_i hc hm h0
    have e : LeftV l x.M x.W rule account now = leftV l x.M x.W account rule now := by simp [LeftV, hc, hm]
    rw [e]; simp [leftV, h0]
  · rename_i hc hm h0
    have hm' := hm
    simp only [mayB, rmB, Bool.and_eq_true] at hm
    have hM := numB_true hm.1.1.1.1.1
    obtain ⟨hok, hlen⟩ := checkV_zero hc
    cases ho : onS l x.W account rule now with
    | none =>
      have hw : IntKind.i64.wrap (x.M - 0) = x.M := by rw [wrap64] <;> omega
      refine callP (ho ▸ rhad_ok l x rule account now hc (numB_true hm.2)) ?_
      simp -dsimp -implicitDefEqProofs only [hw, go_sem, ↓reduceIte, reduceCtorEq, Nat.reduceLT, Nat.reduceLeDiff, Nat.reduceEqDiff, Nat.reduceAdd, Nat.reduceMul, Nat.reduceSub, Nat.reduceBEq, Int.reduceLT, Int.reduceLE, Int.reduceEq, Int.reduceBEq, Int.reduceNeg]
      refine ⟨drawn (by kernel_rfl), ?_⟩
      simp [LeftV, leftV, hc, hm', h0, ho]
      omega
    | some s =>
      have hx : okS s = true := by
        unfold onS at ho
        split at ho
        · rename_i y hy
          split at ho
          · cases ho
          · cases ho; exact okFrom_all hok _ (List.mem_of_find?_eq_some hy)
        · cases ho
      have hb := okS_bounds hx
      have hw : IntKind.i64.wrap (x.M - s.M) = x.M - s.M := by rw [wrap64] <;> omega
      refine callP (ho ▸ rhad_ok l x rule account now hc (numB_true hm.2)) ?_
      simp -dsimp -implicitDefEqProofs only [hw, go_sem, ↓reduceIte, reduceCtorEq, Nat.reduceLT, Nat.reduceLeDiff, Nat.reduceEqDiff, Nat.reduceAdd, Nat.reduceMul, Nat.reduceSub, Nat.reduceBEq, Int.reduceLT, Int.reduceLE, Int.reduceEq, Int.reduceBEq, Int.reduceNeg]
      refine ⟨drawn (by kernel_rfl), ?_⟩
      simp [LeftV, leftV, hc, hm', h0, ho]
      split <;> omega
  · simp [LeftV, *]
end Go.Proofs.Ytfidbkmogileiaa
