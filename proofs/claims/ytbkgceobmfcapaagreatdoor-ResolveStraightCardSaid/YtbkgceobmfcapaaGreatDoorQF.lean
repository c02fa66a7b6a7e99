
/- The document's answer: Recs, Same, Few; until. until, one. The document's example. Plain laws of Find. Readers of arguments: caches, zones. -/
import Derived.Test.YtbkgceobmfcapaaGreatDoorQE
namespace Go.Proofs.YtbkgceobmfcapaaGreatDoor
open Go.Eng
set_option linter.unusedSimpArgs false
set_option maxRecDepth 10000

theorem rrecs14_ok (l m : List Rec) (hl : l.length ≤ 1000000) : Meets Tryz.prog 14 [(false, [vD (recsD l)]), (false, [vD (recsD m)])] (rOne (vB (decide (l = m)))) := by
  by_cases hlen : l.length = m.length
  · have hli : (l.length : Int) = (m.length : Int) := by omega
    refine meets Tryz.func14 rfl rfl Tryz.ntmps14 Tryz.results14 rfl ?_
    simp -dsimp -implicitDefEqProofs only [hli, go_sem, ↓reduceIte, reduceCtorEq, Nat.reduceLT, Nat.reduceLeDiff, Nat.reduceEqDiff, Nat.reduceAdd, Nat.reduceMul, Nat.reduceSub, Nat.reduceBEq, Int.reduceLT, Int.reduceLE, Int.reduceEq, Int.reduceBEq, Int.reduceNeg]
    refine vfor sitOk (ι := ReInv l m) (fun v => ⟨26, [(5, aI v.i), (0, aD (recsD l)), (1, aD (recsD m))], [], 56⟩) (fun v => l.length - v.i) ⟨0, by omega, by simp⟩ ?_ ?_
    · simp -dsimp -implicitDefEqProofs only [go_sem, ↓reduceIte, reduceCtorEq, Nat.reduceLT, Nat.reduceLeDiff, Nat.reduceEqDiff, Nat.reduceAdd, Nat.reduceMul, Nat.reduceSub, Nat.reduceBEq, Int.reduceLT, Int.reduceLE, Int.reduceEq, Int.reduceBEq, Int.reduceNeg]
    intro ⟨i, hi, hok⟩
    simp -dsimp -implicitDefEqProofs only [go_sem, ↓reduceIte, reduceCtorEq, Nat.reduceLT, Nat.reduceLeDiff, Nat.reduceEqDiff, Nat.reduceAdd, Nat.reduceMul, Nat.reduceSub, Nat.reduceBEq, Int.reduceLT, Int.reduceLE, Int.reduceEq, Int.reduceBEq, Int.reduceNeg]
    refine ⟨fun hlt => ?_, fun hge => ?_⟩
    · have hil : i < l.length := by omega
      have him : i < m.length := by omega
      obtain ⟨x, hx⟩ : ∃ x, l[i]? = some x := ⟨_, List.getElem?_eq_getElem hil⟩
      obtain ⟨y, hy⟩ : ∃ y, m[i]? = some y := ⟨_, List.getElem?_eq_getElem him⟩
      have hw := wrapS hil (by omega)
      have hbad : ¬ x = y → false = decide (l = m) := fun h => (decide_eq_false fun e => h (by rw [e, hy] at hx; cases hx; rfl)).symm
      have hgood : x = y → l.take (i + 1) = m.take (i + 1) := fun e => by rw [List.take_add_one, List.take_add_one, hok, hx, hy, e]
      simp -dsimp -implicitDefEqProofs only [hx, hy, forall_eq', hw, go_sem, ↓reduceIte, reduceCtorEq, Nat.reduceLT, Nat.reduceLeDiff, Nat.reduceEqDiff, Nat.reduceAdd, Nat.reduceMul, Nat.reduceSub, Nat.reduceBEq, Int.reduceLT, Int.reduceLE, Int.reduceEq, Int.reduceBEq, Int.reduceNeg]
      repeat' (first | with_reducible apply And.intro | with_reducible intro _ | with_reducible exact drawn (by kernel_rfl) | omega)
      · rename_i h
        exact hbad fun e => by subst e; exact h rfl rfl rfl rfl
      · rename_i h
        have e : x = y := by cases x; cases y; simp at h; obtain ⟨h1, h2, h3, h4⟩ := h; subst h1; subst h2; subst h3; subst h4; rfl
        refine again ⟨i + 1, by omega, hgood e⟩ (by simp; omega) ?_
        simp -dsimp -implicitDefEqProofs only [hw, go_sem, ↓reduceIte, reduceCtorEq, Nat.reduceLT, Nat.reduceLeDiff, Nat.reduceEqDiff, Nat.reduceAdd, Nat.reduceMul, Nat.reduceSub, Nat.reduceBEq, Int.reduceLT, Int.reduceLE, Int.reduceEq, Int.reduceBEq, Int.reduceNeg]
    · have hil : i = l.length := by omega
      subst hil
      rw [List.take_length] at hok
      have : l = m := by rw [hok, hlen, List.take_length]
      exact (decide_eq_true this).symm
  · have hli : ¬ (l.length : Int) = (m.length : Int) := by omega
    have : decide (l = m) = false := decide_eq_false fun h => hlen (by rw [h])
    rw [this]
    refine meets Tryz.func14 rfl rfl Tryz.ntmps14 Tryz.results14 rfl ?_
    simp -dsimp -implicitDefEqProofs only [hli, go_sem, ↓reduceIte, reduceCtorEq, Nat.reduceLT, Nat.reduceLeDiff, Nat.reduceEqDiff, Nat.reduceAdd, Nat.reduceMul, Nat.reduceSub, Nat.reduceBEq, Int.reduceLT, Int.reduceLE, Int.reduceEq, Int.reduceBEq, Int.reduceNeg]
structure SeInv (l m : List Kp) where
  i : Nat
  le : i ≤ l.length
  eq : l.take i = m.take i
set_option maxHeartbeats 4000000 in
theorem rsame14_ok (l m : List Kp) (hl : l.length ≤ 1000000) (hr : ∀ k ∈ l, k.R.length ≤ 1000000) : Meets Tryz.prog 15 [cacheA l, cacheA m] (rOne (vB (decide (l = m)))) := by
  by_cases hlen : l.length = m.length
  · have hli : (l.length : Int) = (m.length : Int) := by omega
    refine meets Tryz.func15 rfl rfl Tryz.ntmps15 Tryz.results15 rfl ?_
    simp -dsimp -implicitDefEqProofs only [hli, go_sem, ↓reduceIte, reduceCtorEq, Nat.reduceLT, Nat.reduceLeDiff, Nat.reduceEqDiff, Nat.reduceAdd, Nat.reduceMul, Nat.reduceSub, Nat.reduceBEq, Int.reduceLT, Int.reduceLE, Int.reduceEq, Int.reduceBEq, Int.reduceNeg]
    refine vfor sitOk (ι := SeInv l m) (fun v => ⟨61, [(5, aI v.i), (3, aP 8 0), (2, aP 0 0)], [(8, some (.var [cD (kpsD m)] true)), (0, some (.var [cD (kpsD l)] true))], 56⟩) (fun v => l.length - v.i) ⟨0, by omega, by simp⟩ ?_ ?_
    · simp -dsimp -implicitDefEqProofs only [go_sem, ↓reduceIte, reduceCtorEq, Nat.reduceLT, Nat.reduceLeDiff, Nat.reduceEqDiff, Nat.reduceAdd, Nat.reduceMul, Nat.reduceSub, Nat.reduceBEq, Int.reduceLT, Int.reduceLE, Int.reduceEq, Int.reduceBEq, Int.reduceNeg]
    intro ⟨i, hi, hok⟩
    by_cases hil : i < l.length
    · have him : i < m.length := by omega
      obtain ⟨x, hx⟩ : ∃ x, l[i]? = some x := ⟨_, List.getElem?_eq_getElem hil⟩
      obtain ⟨y, hy⟩ : ∃ y, m[i]? = some y := ⟨_, List.getElem?_eq_getElem him⟩
      have hw := wrapS hil (by omega)
      have hbad : ¬ x = y → false = decide (l = m) := fun h => (decide_eq_false fun e => h (by rw [e, hy] at hx; cases hx; rfl)).symm
      have hgood : x = y → l.take (i + 1) = m.take (i + 1) := fun e => by rw [List.take_add_one, List.take_add_one, hok, hx, hy, e]
      have hxy : x = y ↔ x.N = y.N ∧ x.K = y.K ∧ x.U = y.U ∧ x.R = y.R := ⟨fun e => by rw [e]; exact ⟨rfl, rfl, rfl, rfl⟩, fun e => by cases x; cases y; obtain ⟨rfl, rfl, rfl, rfl⟩ := e; rfl⟩
      have hxl := hr x (List.mem_of_getElem? hx)
      have hlt : (i : Int) < (m.length : Int) := by omega
      simp -dsimp -implicitDefEqProofs only [hli, hlt, hx, hy, forall_eq', hw, go_sem, ↓reduceIte, reduceCtorEq, Nat.reduceLT, Nat.reduceLeDiff, Nat.reduceEqDiff, Nat.reduceAdd, Nat.reduceMul, Nat.reduceSub, Nat.reduceBEq, Int.reduceLT, Int.reduceLE, Int.reduceEq, Int.reduceBEq, Int.reduceNeg]
      refine ⟨by omega, hil, by omega, him, drawn (by kernel_rfl), callP (rrecs14_ok x.R y.R hxl) ?_⟩
      by_cases he : x = y
      · obtain ⟨h1, h2, h3, h4⟩ := hxy.1 he
        have h5 : decide (x.R = y.R) = true := decide_eq_true h4
        simp -dsimp -implicitDefEqProofs only [h1, h2, h3, h5, go_sem, ↓reduceIte, reduceCtorEq, Nat.reduceLT, Nat.reduceLeDiff, Nat.reduceEqDiff, Nat.reduceAdd, Nat.reduceMul, Nat.reduceSub, Nat.reduceBEq, Int.reduceLT, Int.reduceLE, Int.reduceEq, Int.reduceBEq, Int.reduceNeg]
        refine again ⟨i + 1, by omega, hgood he⟩ (by simp; omega) ?_
        simp -dsimp -implicitDefEqProofs only [hw, go_sem, ↓reduceIte, reduceCtorEq, Nat.reduceLT, Nat.reduceLeDiff, Nat.reduceEqDiff, Nat.reduceAdd, Nat.reduceMul, Nat.reduceSub, Nat.reduceBEq, Int.reduceLT, Int.reduceLE, Int.reduceEq, Int.reduceBEq, Int.reduceNeg]
      · rw [← hbad he]
        simp -dsimp -implicitDefEqProofs only [go_sem, ↓reduceIte, reduceCtorEq, Nat.reduceLT, Nat.reduceLeDiff, Nat.reduceEqDiff, Nat.reduceAdd, Nat.reduceMul, Nat.reduceSub, Nat.reduceBEq, Int.reduceLT, Int.reduceLE, Int.reduceEq, Int.reduceBEq, Int.reduceNeg]
        exact fun h1 h2 h3 h4 => absurd (hxy.2 ⟨h1, h2, h3, h4⟩) he
    · have hie : i = l.length := by omega
      subst hie
      have hlt : ¬ (m.length : Int) < (m.length : Int) := by omega
      rw [List.take_length] at hok
      have : l = m := by rw [hok, hlen, List.take_length]
      rw [decide_eq_true this]
      simp -dsimp -implicitDefEqProofs only [hli, hlt, go_sem, ↓reduceIte, reduceCtorEq, Nat.reduceLT, Nat.reduceLeDiff, Nat.reduceEqDiff, Nat.reduceAdd, Nat.reduceMul, Nat.reduceSub, Nat.reduceBEq, Int.reduceLT, Int.reduceLE, Int.reduceEq, Int.reduceBEq, Int.reduceNeg]
  · have hli : ¬ (l.length : Int) = (m.length : Int) := by omega
    have : decide (l = m) = false := decide_eq_false fun h => hlen (by rw [h])
    rw [this]
    refine meets Tryz.func15 rfl rfl Tryz.ntmps15 Tryz.results15 rfl ?_
    simp -dsimp -implicitDefEqProofs only [hli, go_sem, ↓reduceIte, reduceCtorEq, Nat.reduceLT, Nat.reduceLeDiff, Nat.reduceEqDiff, Nat.reduceAdd, Nat.reduceMul, Nat.reduceSub, Nat.reduceBEq, Int.reduceLT, Int.reduceLE, Int.reduceEq, Int.reduceBEq, Int.reduceNeg]
def fewK (k : Kp) : Bool := decide (k.R.length ≤ 70) && decide (k.N.length ≤ 200)
def fewC (L : List Kp) : Bool := (L.take 140).all fewK && decide (L.length ≤ 140)
theorem rfewC_ok (L : List Kp) : Meets Tryz.prog 26 [cacheA L] (rOne (vB (fewC L))) := by
  refine meets Tryz.func26 rfl rfl Tryz.ntmps26 Tryz.results26 rfl ?_
  simp -dsimp -implicitDefEqProofs only [go_sem, ↓reduceIte, reduceCtorEq, Nat.reduceLT, Nat.reduceLeDiff, Nat.reduceEqDiff, Nat.reduceAdd, Nat.reduceMul, Nat.reduceSub, Nat.reduceBEq, Int.reduceLT, Int.reduceLE, Int.reduceEq, Int.reduceBEq, Int.reduceNeg]
  refine vfor sitOk (ι := AllInv 140 fewK L) (fun v => ⟨37, [(3, aI v.i), (1, aP 0 0)], [(0, some (.var [cD (kpsD L)] true))], 100⟩) (fun v => L.length - v.i) ⟨0, by omega, by omega, fun j x hj => by omega⟩ ?_ ?_
  · simp -dsimp -implicitDefEqProofs only [go_sem, ↓reduceIte, reduceCtorEq, Nat.reduceLT, Nat.reduceLeDiff, Nat.reduceEqDiff, Nat.reduceAdd, Nat.reduceMul, Nat.reduceSub, Nat.reduceBEq, Int.reduceLT, Int.reduceLE, Int.reduceEq, Int.reduceBEq, Int.reduceNeg]
  intro ⟨i, hi, hm, hok⟩
  simp -dsimp -implicitDefEqProofs only [go_sem, ↓reduceIte, reduceCtorEq, Nat.reduceLT, Nat.reduceLeDiff, Nat.reduceEqDiff, Nat.reduceAdd, Nat.reduceMul, Nat.reduceSub, Nat.reduceBEq, Int.reduceLT, Int.reduceLE, Int.reduceEq, Int.reduceBEq, Int.reduceNeg]
  have fin : (i = L.length ∨ i = 140) → decide ((L.length : Int) ≤ 140) = fewC L := fun h => by
    unfold fewC
    rw [all_take h hok hm, Bool.true_and, decide_eq_decide]; omega
  refine ⟨fun hlt => ⟨fun h20 => ?_, fun h20 => fin (.inr (by omega))⟩, fun hge => fin (.inl (by omega))⟩
  have hil : i < L.length := by omega
  obtain ⟨x, hx⟩ : ∃ x, L[i]? = some x := ⟨_, List.getElem?_eq_getElem hil⟩
  have bad : fewK x = false → false = fewC L := fun h => by unfold fewC; rw [all_take_bad hx (by omega) h]; rfl
  have hw : IntKind.i64.wrap ((i : Int) + 1) = ((i + 1 : Nat) : Int) := by rw [wrap64] <;> omega
  have good : (x.R.length : Int) ≤ 70 → (x.N.length : Int) ≤ 200 → ∀ j y, j < i + 1 → L[j]? = some y → fewK y = true := fun h1 h2 j y hj hy => by
    by_cases hji : j = i
    · subst hji; rw [hx] at hy; cases hy
      unfold fewK
      rw [decide_eq_true (by omega), decide_eq_true (by omega)]; rfl
    · exact hok j y (by omega) hy
  simp -dsimp -implicitDefEqProofs only [hx, forall_eq', go_sem, ↓reduceIte, reduceCtorEq, Nat.reduceLT, Nat.reduceLeDiff, Nat.reduceEqDiff, Nat.reduceAdd, Nat.reduceMul, Nat.reduceSub, Nat.reduceBEq, Int.reduceLT, Int.reduceLE, Int.reduceEq, Int.reduceBEq, Int.reduceNeg]
  refine ⟨by omega, hil, fun h1 => ⟨by omega, hil, fun h2 => ?_, fun h2 => ?_⟩, fun h1 => ?_⟩
  · exact bad (by unfold fewK; rw [decide_eq_false (by omega : ¬ x.N.length ≤ 200), Bool.and_false])
  · refine again ⟨i + 1, by omega, by omega, good h1 h2⟩ (by simp; omega) ?_
    simp -dsimp -implicitDefEqProofs only [hw, go_sem, ↓reduceIte, reduceCtorEq, Nat.reduceLT, Nat.reduceLeDiff, Nat.reduceEqDiff, Nat.reduceAdd, Nat.reduceMul, Nat.reduceSub, Nat.reduceBEq, Int.reduceLT, Int.reduceLE, Int.reduceEq, Int.reduceBEq, Int.reduceNeg]
  · exact bad (by unfold fewK; rw [decide_eq_false (by omega : ¬ x.R.length ≤ 70), Bool.false_and])
theorem few14_ok (n : Nt) (L : List Kp) (name : Bs) : Meets Tryz.prog 11 [n.arg, cacheA L, (false, [vS name])] (rOne (vB (fewN n && fewC L && decide (name.length ≤ 200)))) := by
  refine meets Tryz.func11 rfl rfl Tryz.ntmps11 Tryz.results11 rfl ?_
  simp -dsimp -implicitDefEqProofs only [go_sem, ↓reduceIte, reduceCtorEq, Nat.reduceLT, Nat.reduceLeDiff, Nat.reduceEqDiff, Nat.reduceAdd, Nat.reduceMul, Nat.reduceSub, Nat.reduceBEq, Int.reduceLT, Int.reduceLE, Int.reduceEq, Int.reduceBEq, Int.reduceNeg]
  refine callP (rfewN_ok n) ?_
  simp -dsimp -implicitDefEqProofs only [go_sem, ↓reduceIte, reduceCtorEq, Nat.reduceLT, Nat.reduceLeDiff, Nat.reduceEqDiff, Nat.reduceAdd, Nat.reduceMul, Nat.reduceSub, Nat.reduceBEq, Int.reduceLT, Int.reduceLE, Int.reduceEq, Int.reduceBEq, Int.reduceNeg]
  refine callP (rfewC_ok L) ?_
  simp -dsimp -implicitDefEqProofs only [go_sem, ↓reduceIte, reduceCtorEq, Nat.reduceLT, Nat.reduceLeDiff, Nat.reduceEqDiff, Nat.reduceAdd, Nat.reduceMul, Nat.reduceSub, Nat.reduceBEq, Int.reduceLT, Int.reduceLE, Int.reduceEq, Int.reduceBEq, Int.reduceNeg]
  refine ⟨drawn (by kernel_rfl), fun h1 => ⟨fun h2 => ?_, fun h2 => ?_⟩, fun h1 => ?_⟩
  · rw [h1, h2, Bool.true_and, Bool.true_and, decide_eq_decide]; omega
  · rw [h2, Bool.and_false, Bool.false_and]
  · rw [h1, Bool.false_and, Bool.false_and]
end Go.Proofs.YtbkgceobmfcapaaGreatDoor
namespace Go.Proofs.YtbkgceobmfcapaaGreatDoor
open Go.Eng
set_option linter.unusedSimpArgs false
set_option maxRecDepth 10000

def untilV (L : List Kp) (name : Bs) (k : Int) : Int := match kpF L name k with
  | some x => x.U
  | none => 0
theorem kq_eq {x : Kp} {name : Bs} {k : Int} : (koQ.cmp (kQ x) (name, k) == 0) = true ↔ x.N = name ∧ x.K = k := by
  rw [beq_iff_eq, koQ.eq0]
  exact ⟨fun e => ⟨congrArg Prod.fst e, congrArg Prod.snd e⟩, fun e => Prod.ext e.1 e.2⟩
structure UtInv (L : List Kp) (name : Bs) (k : Int) where
  i : Nat
  le : i ≤ L.length
  no : ∀ j x, j < i → L[j]? = some x → ¬ (x.N = name ∧ x.K = k)
theorem kp_first {L : List Kp} {name : Bs} {k : Int} : ∀ {i : Nat} {x : Kp}, (∀ j y, j < i → L[j]? = some y → ¬ (y.N = name ∧ y.K = k)) → L[i]? = some x → x.N = name ∧ x.K = k → kpF L name k = some x := by
  intro i x hno hx he
  have hil := (List.getElem?_eq_some_iff.1 hx)
  have hlt := hil.1
  unfold kpF findK
  rw [List.find?_eq_some_iff_getElem]
  refine ⟨kq_eq.2 he, i, hil.1, hil.2, fun j hj => ?_⟩
  have hjl : j < L.length := by omega
  have := hno j L[j] hj (List.getElem?_eq_getElem hjl)
  rw [Bool.not_eq_true', Bool.eq_false_iff]
  exact fun h => this (kq_eq.1 h)
theorem until_ok (L : List Kp) (hl : L.length ≤ 1000000) (name : Bs) (k : Int) : Meets Tryz.prog 17 [cacheA L, (false, [vS name]), (false, [vI k])] (rOne (vI (untilV L name k))) := by
  refine meets Tryz.func17 rfl rfl Tryz.ntmps17 Tryz.results17 rfl ?_
  simp -dsimp -implicitDefEqProofs only [go_sem, ↓reduceIte, reduceCtorEq, Nat.reduceLT, Nat.reduceLeDiff, Nat.reduceEqDiff, Nat.reduceAdd, Nat.reduceMul, Nat.reduceSub, Nat.reduceBEq, Int.reduceLT, Int.reduceLE, Int.reduceEq, Int.reduceBEq, Int.reduceNeg]
  refine vfor sitOk (ι := UtInv L name k) (fun v => ⟨39, [(7, aI v.i), (3, aP 0 0), (1, aS name), (2, aI k)], [(0, some (.var [cD (kpsD L)] true))], 100⟩) (fun v => L.length - v.i) ⟨0, by omega, fun j x hj => by omega⟩ ?_ ?_
  · simp -dsimp -implicitDefEqProofs only [go_sem, ↓reduceIte, reduceCtorEq, Nat.reduceLT, Nat.reduceLeDiff, Nat.reduceEqDiff, Nat.reduceAdd, Nat.reduceMul, Nat.reduceSub, Nat.reduceBEq, Int.reduceLT, Int.reduceLE, Int.reduceEq, Int.reduceBEq, Int.reduceNeg]
  intro ⟨i, hi, hno⟩
  simp -dsimp -implicitDefEqProofs only [go_sem, ↓reduceIte, reduceCtorEq, Nat.reduceLT, Nat.reduceLeDiff, Nat.reduceEqDiff, Nat.reduceAdd, Nat.reduceMul, Nat.reduceSub, Nat.reduceBEq, Int.reduceLT, Int.reduceLE, Int.reduceEq, Int.reduceBEq, Int.reduceNeg]
  refine ⟨fun hlt => ?_, fun hge => ?_⟩
  · have hil : i < L.length := by omega
    obtain ⟨x, hx⟩ : ∃ x, L[i]? = some x := ⟨_, List.getElem?_eq_getElem hil⟩
    have hw := wrapS hil (by omega)
    have hgo : ¬ (x.N = name ∧ x.K = k) → ∀ j y, j < i + 1 → L[j]? = some y → ¬ (y.N = name ∧ y.K = k) := fun h j y hj hy => by
      by_cases hji : j = i
      · subst hji; rw [hx] at hy; cases hy; exact h
      · exact hno j y (by omega) hy
    have hyes : x.N = name → x.K = k → x.U = untilV L name k := fun h1 h2 => by
      unfold untilV; rw [kp_first hno hx ⟨h1, h2⟩]
    simp -dsimp -implicitDefEqProofs only [hx, forall_eq', hw, go_sem, ↓reduceIte, reduceCtorEq, Nat.reduceLT, Nat.reduceLeDiff, Nat.reduceEqDiff, Nat.reduceAdd, Nat.reduceMul, Nat.reduceSub, Nat.reduceBEq, Int.reduceLT, Int.reduceLE, Int.reduceEq, Int.reduceBEq, Int.reduceNeg]
    repeat' (first | with_reducible apply And.intro | with_reducible intro _ | with_reducible exact drawn (by kernel_rfl) | omega)
    all_goals first
      | omega
      | (refine hyes ?_ ?_ <;> assumption)
      | (refine again ⟨i + 1, by omega, hgo fun e => ?_⟩ (by simp; omega) ?_
         · first
             | exact absurd e.1 (by assumption)
             | exact absurd e.2 (by assumption)
         · simp -dsimp -implicitDefEqProofs only [hw, go_sem, ↓reduceIte, reduceCtorEq, Nat.reduceLT, Nat.reduceLeDiff, Nat.reduceEqDiff, Nat.reduceAdd, Nat.reduceMul, Nat.reduceSub, Nat.reduceBEq, Int.reduceLT, Int.reduceLE, Int.reduceEq, Int.reduceBEq, Int.reduceNeg])
  · have hil : i = L.length := by omega
    subst hil
    unfold untilV
    have : kpF L name k = none := find_none.2 fun x hx e => by
      obtain ⟨j, hj⟩ := List.mem_iff_getElem?.1 hx
      exact hno j x (List.getElem?_eq_some_iff.1 hj).1 hj ⟨congrArg Prod.fst e, congrArg Prod.snd e⟩
    rw [this]
theorem one_ok (z : Zn) : Meets Tryz.prog 21 [z.arg] (rAgg [vD (svsD [⟨0, [z]⟩]), vI 0, vD (bnsD []), vD (cksD [])]) := by
  refine meetsF Tryz.func21 rfl rfl Tryz.ntmps21 Tryz.results21 rfl ?_
  simp -dsimp -implicitDefEqProofs only [go_sem, ↓reduceIte, reduceCtorEq, Nat.reduceLT, Nat.reduceLeDiff, Nat.reduceEqDiff, Nat.reduceAdd, Nat.reduceMul, Nat.reduceSub, Nat.reduceBEq, Int.reduceLT, Int.reduceLE, Int.reduceEq, Int.reduceBEq, Int.reduceNeg]
  refine retF [40] ?_
  simp -dsimp -implicitDefEqProofs only [go_sem, ↓reduceIte, reduceCtorEq, Nat.reduceLT, Nat.reduceLeDiff, Nat.reduceEqDiff, Nat.reduceAdd, Nat.reduceMul, Nat.reduceSub, Nat.reduceBEq, Int.reduceLT, Int.reduceLE, Int.reduceEq, Int.reduceBEq, Int.reduceNeg]
end Go.Proofs.YtbkgceobmfcapaaGreatDoor
namespace Go.Proofs.YtbkgceobmfcapaaGreatDoor
open Go.Eng
set_option linter.unusedSimpArgs false
set_option maxRecDepth 10000

def lvR : Rec := ⟨[97], 1, [120], 9⟩
def lvZ : Zn := ⟨[], [lvR, ⟨[98], 4, [97], 5⟩]⟩
def lvN : Nt := ⟨[⟨0, [lvZ]⟩], 0, [], []⟩
def lv0 : Nt := ⟨[], 0, [], []⟩
def lv1 : Kp := ⟨[98], 1, [lvR], 6⟩
def lv2 : Kp := ⟨[99], 1, [], 11⟩
theorem lv_e1 : findE lvN (-1) [] 1 [98] 1 = 0 := by kernel_rfl
theorem lv_l1 : findL lvN (-1) [] 1 [98] 1 = [lvR] := by kernel_rfl
theorem lv_c1 : findC lvN (-1) [] 1 [98] 1 = [lv1] := by kernel_rfl
theorem lv_e2 : findE lvN (-1) [lv1] 1 [99] 1 = 131 := by kernel_rfl
theorem lv_l2 : findL lvN (-1) [lv1] 1 [99] 1 = [] := by kernel_rfl
theorem lv_c2 : findC lvN (-1) [lv1] 1 [99] 1 = [lv1, lv2] := by kernel_rfl
theorem lv_h5 : heldV [lv1, lv2] 5 [98] 1 = some [lvR] := by kernel_rfl
theorem lv_h6 : heldV [lv1, lv2] 6 [98] 1 = none := by kernel_rfl
theorem lv_e3 : findE lv0 (-1) [lv1, lv2] 1 [98] 1 = 0 := by kernel_rfl
theorem lv_e4 : findE lv0 (-1) [lv1, lv2] 6 [98] 1 = 130 := by kernel_rfl
theorem lv_c4 : findC lv0 (-1) [lv1, lv2] 6 [98] 1 = [lv1, lv2] := by kernel_rfl
theorem lv_t : trimL [lv1, lv2] 6 = [lv2] := by kernel_rfl
theorem lv_k : chkC [lv1, lv2] = 0 := by kernel_rfl
theorem lv_k1 : chkC [⟨[], 0, [], 0⟩] = 1 := by kernel_rfl
theorem lv_sz : Sz lvN ∧ Sz lv0 := by
  constructor
  all_goals
    refine sz_of ?_ ?_ ?_
    all_goals first
      | kernel_rfl
      | (simp [lvN, lv0]; done)
theorem lv_cz : Cz [] ∧ Cz [lv1] ∧ Cz [lv1, lv2] := ⟨⟨by simp, by simp⟩, ⟨by simp, by simp [lv1]⟩, ⟨by simp, by simp [lv1, lv2]⟩⟩
set_option maxHeartbeats 4000000 in
theorem live14_ok : Meets Tryz.prog 10 [] (rOne (vB true)) := by
  have hz := lv_sz
  have hc := lv_cz
  have o1 := one_ok lvZ
  have f1 := find14_ok lvN hz.1 (-1) [] hc.1 1 [98] 1
  rw [lv_e1, lv_l1, lv_c1] at f1
  have f2 := find14_ok lvN hz.1 (-1) [lv1] hc.2.1 1 [99] 1
  rw [lv_e2, lv_l2, lv_c2] at f2
  have h5 := held_ok [lv1, lv2] (by simp) (by simp [lv1, lv2]) 5 [98] 1
  rw [lv_h5, show heldR (some [lvR]) = [lvR] from rfl] at h5
  have h6 := held_ok [lv1, lv2] (by simp) (by simp [lv1, lv2]) 6 [98] 1
  rw [lv_h6, show heldR none = [] from rfl] at h6
  have f3 := find14_ok lv0 hz.2 (-1) [lv1, lv2] hc.2.2 1 [98] 1
  rw [lv_e3] at f3
  have f4 := find14_ok lv0 hz.2 (-1) [lv1, lv2] hc.2.2 6 [98] 1
  rw [lv_e4, lv_c4] at f4
  have t1 := trim14_ok [lv1, lv2] (by simp) (by simp [lv1, lv2]) 6
  rw [lv_t] at t1
  have c1 := ccheck_ok [lv1, lv2] (by simp) (by simp [lv1, lv2])
  rw [lv_k] at c1
  have c2 := ccheck_ok [⟨[], 0, [], 0⟩] (by simp) (by simp)
  rw [lv_k1] at c2
  have ht1 : Int.toNat 1 = 1 := rfl
  refine meets Tryz.func10 rfl rfl Tryz.ntmps10 Tryz.results10 rfl ?_
  simp -dsimp -implicitDefEqProofs only [go_sem, ↓reduceIte, reduceCtorEq, Nat.reduceLT, Nat.reduceLeDiff, Nat.reduceEqDiff, Nat.reduceAdd, Nat.reduceMul, Nat.reduceSub, Nat.reduceBEq, Int.reduceLT, Int.reduceLE, Int.reduceEq, Int.reduceBEq, Int.reduceNeg]
  refine callP o1 ?_
  simp -dsimp -implicitDefEqProofs only [go_sem, ↓reduceIte, reduceCtorEq, Nat.reduceLT, Nat.reduceLeDiff, Nat.reduceEqDiff, Nat.reduceAdd, Nat.reduceMul, Nat.reduceSub, Nat.reduceBEq, Int.reduceLT, Int.reduceLE, Int.reduceEq, Int.reduceBEq, Int.reduceNeg]
  refine callP f1 ?_
  simp -dsimp -implicitDefEqProofs only [go_sem, ↓reduceIte, reduceCtorEq, Nat.reduceLT, Nat.reduceLeDiff, Nat.reduceEqDiff, Nat.reduceAdd, Nat.reduceMul, Nat.reduceSub, Nat.reduceBEq, Int.reduceLT, Int.reduceLE, Int.reduceEq, Int.reduceBEq, Int.reduceNeg]
  refine callP f2 ?_
  simp -dsimp -implicitDefEqProofs only [go_sem, ↓reduceIte, reduceCtorEq, Nat.reduceLT, Nat.reduceLeDiff, Nat.reduceEqDiff, Nat.reduceAdd, Nat.reduceMul, Nat.reduceSub, Nat.reduceBEq, Int.reduceLT, Int.reduceLE, Int.reduceEq, Int.reduceBEq, Int.reduceNeg]
  refine callP h5 ?_
  simp -dsimp -implicitDefEqProofs only [go_sem, ↓reduceIte, reduceCtorEq, Nat.reduceLT, Nat.reduceLeDiff, Nat.reduceEqDiff, Nat.reduceAdd, Nat.reduceMul, Nat.reduceSub, Nat.reduceBEq, Int.reduceLT, Int.reduceLE, Int.reduceEq, Int.reduceBEq, Int.reduceNeg]
  refine callP h6 ?_
  simp -dsimp -implicitDefEqProofs only [go_sem, ↓reduceIte, reduceCtorEq, Nat.reduceLT, Nat.reduceLeDiff, Nat.reduceEqDiff, Nat.reduceAdd, Nat.reduceMul, Nat.reduceSub, Nat.reduceBEq, Int.reduceLT, Int.reduceLE, Int.reduceEq, Int.reduceBEq, Int.reduceNeg]
  refine callP f3 ?_
  simp -dsimp -implicitDefEqProofs only [go_sem, ↓reduceIte, reduceCtorEq, Nat.reduceLT, Nat.reduceLeDiff, Nat.reduceEqDiff, Nat.reduceAdd, Nat.reduceMul, Nat.reduceSub, Nat.reduceBEq, Int.reduceLT, Int.reduceLE, Int.reduceEq, Int.reduceBEq, Int.reduceNeg]
  refine callP f4 ?_
  simp -dsimp -implicitDefEqProofs only [List.append_eq, List.cons_append, List.nil_append, List.length_cons, List.length_nil, List.map_cons, List.map_nil, List.getElem?_cons_zero, List.getElem?_cons_succ, Option.some.injEq, forall_eq', ht1, lvR, lv1, lv2, go_sem, ↓reduceIte, reduceCtorEq, Nat.reduceLT, Nat.reduceLeDiff, Nat.reduceEqDiff, Nat.reduceAdd, Nat.reduceMul, Nat.reduceSub, Nat.reduceBEq, Int.reduceLT, Int.reduceLE, Int.reduceEq, Int.reduceBEq, Int.reduceNeg]
  refine callP t1 ?_
  simp -dsimp -implicitDefEqProofs only [List.append_eq, List.cons_append, List.nil_append, List.length_cons, List.length_nil, List.map_cons, List.map_nil, List.getElem?_cons_zero, List.getElem?_cons_succ, Option.some.injEq, forall_eq', ht1, lvR, lv1, lv2, go_sem, ↓reduceIte, reduceCtorEq, Nat.reduceLT, Nat.reduceLeDiff, Nat.reduceEqDiff, Nat.reduceAdd, Nat.reduceMul, Nat.reduceSub, Nat.reduceBEq, Int.reduceLT, Int.reduceLE, Int.reduceEq, Int.reduceBEq, Int.reduceNeg]
  refine callP c1 ?_
  simp -dsimp -implicitDefEqProofs only [List.append_eq, List.cons_append, List.nil_append, List.length_cons, List.length_nil, List.map_cons, List.map_nil, List.getElem?_cons_zero, List.getElem?_cons_succ, Option.some.injEq, forall_eq', ht1, lvR, lv1, lv2, go_sem, ↓reduceIte, reduceCtorEq, Nat.reduceLT, Nat.reduceLeDiff, Nat.reduceEqDiff, Nat.reduceAdd, Nat.reduceMul, Nat.reduceSub, Nat.reduceBEq, Int.reduceLT, Int.reduceLE, Int.reduceEq, Int.reduceBEq, Int.reduceNeg]
  refine callP c2 ?_
  simp -dsimp -implicitDefEqProofs only [List.append_eq, List.cons_append, List.nil_append, List.length_cons, List.length_nil, List.map_cons, List.map_nil, List.getElem?_cons_zero, List.getElem?_cons_succ, Option.some.injEq, forall_eq', ht1, lvR, lv1, lv2, go_sem, ↓reduceIte, reduceCtorEq, Nat.reduceLT, Nat.reduceLeDiff, Nat.reduceEqDiff, Nat.reduceAdd, Nat.reduceMul, Nat.reduceSub, Nat.reduceBEq, Int.reduceLT, Int.reduceLE, Int.reduceEq, Int.reduceBEq, Int.reduceNeg]
  exact drawn (by kernel_rfl)
end Go.Proofs.YtbkgceobmfcapaaGreatDoor
namespace Go.Proofs.YtbkgceobmfcapaaGreatDoor
open Go.Eng
set_option linter.unusedSimpArgs false
set_option maxRecDepth 10000

theorem okF_iff {e : Int} : okF e = true ↔ e = 0 ∨ e = 130 ∨ e = 131 := by
  unfold okF
  simp [or_assoc]
/-- What Find asks ahead of all. -/
structure Fg (n : Nt) (seen : Int) (L : List Kp) (now : Int) (name : Bs) (k : Int) : Prop where
  c : chkC L = 0
  t : chkN n = 0
  q : goodQ n seen now k = true
  s : isName name = true
theorem find_good {n : Nt} {seen : Int} {L : List Kp} {now : Int} {name : Bs} {k : Int} (h : okF (findE n seen L now name k) = true) : Fg n seen L now name k := by
  have h := okF_iff.1 h
  unfold findE at h
  split at h
  · rcases chkC_vals L with h1 | h1 | h1 <;> rw [h1] at h <;> omega
  · rename_i h0
    split at h
    · rcases chkN_vals n with h1 | h1 | h1 <;> rw [h1] at h <;> omega
    · rename_i h1
      split at h
      · omega
      · rename_i h2
        split at h
        · omega
        · rename_i h3
          exact ⟨Classical.not_not.1 h0, Classical.not_not.1 h1, by simpa using h2, by simpa using h3⟩
theorem find_e {n : Nt} {seen : Int} {L : List Kp} {now : Int} {name : Bs} {k : Int} (g : Fg n seen L now name k) : findE n seen L now name k = match heldV L now name k with
    | some R => if R = [] then 131 else 0
    | none => (wayV n seen name k).E := by
  unfold findE
  rw [if_neg (by rw [g.c]; simp), if_neg (by rw [g.t]; simp), if_neg (by rw [g.q]; simp), if_neg (by rw [g.s]; simp)]
  cases heldV L now name k <;> rfl
theorem find_hit {n : Nt} {seen : Int} {L : List Kp} {now : Int} {name : Bs} {k : Int} (g : Fg n seen L now name k) {R : List Rec} (h : heldV L now name k = some R) :
    findE n seen L now name k = (if R = [] then 131 else 0) ∧ findL n seen L now name k = R ∧ findC n seen L now name k = L := by
  have he := find_e g
  rw [h] at he
  have he : findE n seen L now name k = if R = [] then 131 else 0 := he
  have hok : okF (findE n seen L now name k) = true := by rw [he]; split <;> rfl
  refine ⟨he, ?_, ?_⟩
  · unfold findL; rw [hok, h]; rfl
  · unfold findC; rw [hok, h]; rfl
theorem find_miss {n : Nt} {seen : Int} {L : List Kp} {now : Int} {name : Bs} {k : Int} (g : Fg n seen L now name k) (h : heldV L now name k = none) :
    findE n seen L now name k = (wayV n seen name k).E ∧ findL n seen L now name k = (wayV n seen name k).L ∧ findC n seen L now name k = if (wayV n seen name k).E = 130 then L else keepV (trimL L now) (keptOf n seen now name k) := by
  have he := find_e g
  rw [h] at he
  have he : findE n seen L now name k = (wayV n seen name k).E := he
  have hok : okF (findE n seen L now name k) = true := by
    rw [he]; exact okF_iff.2 (wayV_ok n seen name k).kind
  refine ⟨he, ?_, ?_⟩
  · unfold findL; rw [hok, h]; rfl
  · unfold findC; rw [hok, h]; rfl
theorem find_bad' {n : Nt} {seen : Int} {L : List Kp} {now : Int} {name : Bs} {k : Int} (h : okF (findE n seen L now name k) = false) : findL n seen L now name k = [] ∧ findC n seen L now name k = [] :=
  let b := find_bad rfl h
  ⟨b.1, b.2.1⟩
theorem quest {n : Nt} {seen now k : Int} (h : goodQ n seen now k = true) : 0 ≤ now ∧ now ≤ 1099511627776 ∧ -1 ≤ seen ∧ seen < n.N ∧ kindB k = true := by
  unfold goodQ timeB at h
  simp only [Bool.and_eq_true, decide_eq_true_eq] at h
  exact ⟨h.1.1.1.1, h.1.1.1.2, h.1.1.2, h.1.2, h.2⟩
theorem quest_of {n : Nt} {seen now k : Int} (h : 0 ≤ now ∧ now ≤ 1099511627776 ∧ -1 ≤ seen ∧ seen < n.N ∧ kindB k = true) : goodQ n seen now k = true := by
  unfold goodQ timeB
  simp only [Bool.and_eq_true, decide_eq_true_eq]
  exact ⟨⟨⟨⟨h.1, h.2.1⟩, h.2.2.1⟩, h.2.2.2.1⟩, h.2.2.2.2⟩
/-- What was found on the way, and is not lost. -/
theorem way_kept {n : Nt} {seen : Int} {name : Bs} {k : Int} (h : (wayV n seen name k).E ≠ 130) : 1 ≤ (wayV n seen name k).F ∧ (wayV n seen name k).F ≤ 1000 ∧ (wayV n seen name k).L.length ≤ 64 ∧ (∀ r ∈ (wayV n seen name k).L, r.K = k) ∧
    (((wayV n seen name k).E = 0 ∧ (wayV n seen name k).L ≠ []) ∨ ((wayV n seen name k).E = 131 ∧ (wayV n seen name k).L = [] ∧ (wayV n seen name k).F = 10)) := by
  have hwo := wayV_ok n seen name k
  rcases hwo.kind with h0 | h0 | h0
  · obtain ⟨h1, h2, h3, h4, addr, nm, z, hz, _, hL⟩ := hwo.some h0
    exact ⟨h2, h3, h4, fun r hr => by rw [hL] at hr; exact (mem_ofL hr).2.2, .inl ⟨h0, h1⟩⟩
  · exact absurd h0 h
  · have hw := hwo.none h0
    rw [hw]
    simp
theorem may_kept {n : Nt} {seen now : Int} {name : Bs} {k : Int} {L : List Kp} (g : Fg n seen L now name k) (h : (wayV n seen name k).E ≠ 130) : mayB (keptOf n seen now name k) = true := by
  obtain ⟨h1, h2, h3, h4, _⟩ := way_kept h
  obtain ⟨q1, q2, _, _, q5⟩ := quest g.q
  unfold mayB keptOf timeB
  simp only [Bool.and_eq_true, decide_eq_true_eq, List.all_eq_true, beq_iff_eq]
  exact ⟨⟨⟨⟨g.s, q5⟩, by omega, by omega⟩, h3⟩, h4⟩
theorem fc14_ok {n : Nt} {seen : Int} {L : List Kp} {now : Int} {name : Bs} {k : Int} (g : Fg n seen L now name k) : chkC (findC n seen L now name k) = 0 := by
  cases hh : heldV L now name k with
  | some R => rw [(find_hit g hh).2.2]; exact g.c
  | none =>
    rw [(find_miss g hh).2.2]
    by_cases hl : (wayV n seen name k).E = 130
    · rw [if_pos hl]; exact g.c
    · rw [if_neg hl]
      exact keep_ok (trim_ok g.c now) (may_kept g hl)
theorem chk_cz {L : List Kp} (h : chkC L = 0) : Cz L := by
  obtain ⟨h1, h2, _⟩ := chkC_iff.1 h
  refine ⟨by omega, fun x hx => ?_⟩
  have := h2 x hx
  unfold mayB at this
  simp only [Bool.and_eq_true, decide_eq_true_eq] at this
  have := this.1.2
  omega
theorem nil_cz : Cz [] := ⟨by simp, by simp⟩
theorem fc14_cz (n : Nt) (seen : Int) (L : List Kp) (now : Int) (name : Bs) (k : Int) : Cz (findC n seen L now name k) := by
  cases h : okF (findE n seen L now name k) with
  | false => rw [(find_bad' h).2]; exact nil_cz
  | true => exact chk_cz (fc14_ok (find_good h))
theorem held_len {L : List Kp} (hc : Cz L) {now : Int} {name : Bs} {k : Int} {R : List Rec} (h : heldV L now name k = some R) : R.length ≤ 1000 := by
  unfold heldV at h
  split at h
  · split at h
    · rename_i x hx
      split at h
      · cases h
        exact hc.r x (find_some hx).1
      · cases h
    · cases h
  · cases h
theorem findL_len (n : Nt) (seen : Int) {L : List Kp} (hc : Cz L) (now : Int) (name : Bs) (k : Int) : (findL n seen L now name k).length ≤ 1000 := by
  cases h : okF (findE n seen L now name k) with
  | false => rw [(find_bad' h).1]; simp
  | true =>
    have g := find_good h
    cases hh : heldV L now name k with
    | some R => rw [(find_hit g hh).2.1]; exact held_len hc hh
    | none =>
      rw [(find_miss g hh).2.1]
      by_cases hl : (wayV n seen name k).E = 130
      · rw [(wayV_ok n seen name k).lost hl]; simp [lostW]
      · have := (way_kept hl).2.2.1; omega
theorem few_cz {L : List Kp} (h : fewC L = true) : Cz L := by
  unfold fewC at h
  simp only [Bool.and_eq_true, decide_eq_true_eq] at h
  refine ⟨by omega, fun x hx => ?_⟩
  have h1 := h.1
  rw [List.take_of_length_le (by omega), List.all_eq_true] at h1
  have := h1 x hx
  unfold fewK at this
  simp only [Bool.and_eq_true, decide_eq_true_eq] at this
  omega
end Go.Proofs.YtbkgceobmfcapaaGreatDoor
namespace Go.Proofs.YtbkgceobmfcapaaGreatDoor
open Go.Eng
set_option linter.unusedSimpArgs false
set_option maxRecDepth 10000

theorem arg_cache (ds : List D) : argC Tryz.prog 29 ds = (true, ds.map .d) := by
  unfold argC; rw [show isStruct Tryz.prog 29 = true from by kernel_rfl]
theorem read_recs {rr : List (List D)} (h : ∀ r ∈ rr, ∃ x : Rec, r = x.cells) : ∃ R : List Rec, rr = R.map Rec.cells := read_rows h
theorem read_cache {ds : List D} (h : shpG tys 10 29 ds) : ∃ L : List Kp, ds = [kpsD L] := by
  simp -dsimp -implicitDefEqProofs only [shpG, tileG, go_sem] at h
  obtain ⟨_, _, ⟨rl, rfl, _, hl⟩, rfl, rfl⟩ := h
  obtain ⟨L, rfl⟩ := read_rows (cells := Kp.cells) fun r hr => by
    obtain ⟨_, _, ⟨s, rfl, _⟩, rfl, _, _, ⟨b, rfl, _⟩, rfl, _, _, ⟨rr, rfl, _, hrr⟩, rfl, _, _, ⟨u, rfl, _⟩, rfl, rfl⟩ := hl r hr
    obtain ⟨n, rfl⟩ := bytes_all s
    obtain ⟨R, rfl⟩ := read_rows (cells := Rec.cells) fun r hr => by
      obtain ⟨_, _, ⟨a, rfl, _⟩, rfl, _, _, ⟨b, rfl, _⟩, rfl, _, _, ⟨c, rfl, _⟩, rfl, _, _, ⟨d, rfl, _⟩, rfl, rfl⟩ := hrr r hr
      obtain ⟨l, rfl⟩ := bytes_all a
      obtain ⟨m, rfl⟩ := bytes_all c
      exact ⟨⟨l, b, m, d⟩, rfl⟩
    exact ⟨⟨n, b, R, u⟩, rfl⟩
  exact ⟨L, rfl⟩
theorem read_zone {ds : List D} (h : shpG tys 10 48 ds) : ∃ z : Zn, ds = z.cells := by
  simp -dsimp -implicitDefEqProofs only [shpG, tileG, go_sem] at h
  obtain ⟨_, _, ⟨s, rfl, _⟩, rfl, _, _, ⟨rr, rfl, _, hrr⟩, rfl, rfl⟩ := h
  obtain ⟨n, rfl⟩ := bytes_all s
  obtain ⟨R, rfl⟩ := read_rows (cells := Rec.cells) fun r hr => by
    obtain ⟨_, _, ⟨a, rfl, _⟩, rfl, _, _, ⟨b, rfl, _⟩, rfl, _, _, ⟨c, rfl, _⟩, rfl, _, _, ⟨d, rfl, _⟩, rfl, rfl⟩ := hrr r hr
    obtain ⟨l, rfl⟩ := bytes_all a
    obtain ⟨m, rfl⟩ := bytes_all c
    exact ⟨⟨l, b, m, d⟩, rfl⟩
  exact ⟨⟨n, R⟩, rfl⟩
end Go.Proofs.YtbkgceobmfcapaaGreatDoor
