
/- The document's net: Little, Few. The document's net: Same; small nets. -/
import Derived.Test.YtolpobgfcokoaaaGreatDoorRF
open Nat renaming reduceLT → rn1, reduceLeDiff → rn2, reduceEqDiff → rn3, reduceAdd → rn4, reduceMul → rn5, reduceSub → rn6, reduceBEq → rn7
open Int renaming reduceLT → ri1, reduceLE → ri2, reduceEq → ri3, reduceBEq → ri4, reduceNeg → ri5
namespace Go.Proofs.YtolpobgfcokoaaaGreatDoor
open Go.Eng
set_option linter.unusedSimpArgs false
set_option maxRecDepth 10000

def shortR (r : Rec) : Bool := decide (r.N.length ≤ 200) && decide (r.V.length ≤ 200)
def littleB (z : Zn) : Bool := (z.R.take 100).all shortR && decide (z.R.length ≤ 80) && decide (z.A.length ≤ 200)
structure AllInv {α : Type} (m : Nat) (f : α → Bool) (l : List α) where
  i : Nat
  le : i ≤ l.length
  lm : i ≤ m
  ok : ∀ j x, j < i → l[j]? = some x → f x = true
theorem all_take {α : Type} {m : Nat} {f : α → Bool} {l : List α} {i : Nat} (h : i = l.length ∨ i = m) (hok : ∀ j x, j < i → l[j]? = some x → f x = true) (_hi : i ≤ m) : (l.take m).all f = true := by
  rw [List.all_eq_true]
  intro x hx
  obtain ⟨j, hj⟩ := List.mem_iff_getElem?.1 hx
  rw [List.getElem?_take] at hj
  split at hj
  · have := (List.getElem?_eq_some_iff.1 hj).1
    exact hok j x (by omega) hj
  · cases hj
theorem all_take_bad {α : Type} {m : Nat} {f : α → Bool} {l : List α} {i : Nat} {x : α} (hx : l[i]? = some x) (hm : i < m) (h : f x = false) : (l.take m).all f = false := by
  refine all_bad (i := i) (x := x) ?_ h
  rw [List.getElem?_take, if_pos hm]; exact hx
theorem little_ok (z : Zn) : Meets Tryz.prog 71 [z.arg] (rOne (vB (littleB z))) := by
  refine meets Tryz.func71 rfl rfl Tryz.ntmps71 Tryz.results71 rfl ?_
  simp -dsimp -implicitDefEqProofs only [go_sem, ↓reduceIte, reduceCtorEq, rn1, rn2, rn3, rn4, rn5, rn6, rn7, ri1, ri2, ri3, ri4, ri5]
  refine vfor sitOk (ι := AllInv 100 shortR z.R) (fun v => ⟨43, [(3, aI v.i), (1, aP 0 0)], [(0, some (.var [cS z.A, cD (recsD z.R)] true))], 100⟩) (fun v => z.R.length - v.i) ⟨0, by omega, by omega, fun j x hj => by omega⟩ ?_ ?_
  · simp -dsimp -implicitDefEqProofs only [go_sem, ↓reduceIte, reduceCtorEq, rn1, rn2, rn3, rn4, rn5, rn6, rn7, ri1, ri2, ri3, ri4, ri5]
  intro ⟨i, hi, hm, hok⟩
  simp -dsimp -implicitDefEqProofs only [go_sem, ↓reduceIte, reduceCtorEq, rn1, rn2, rn3, rn4, rn5, rn6, rn7, ri1, ri2, ri3, ri4, ri5]
  have fin : (i = z.R.length ∨ i = 100) → ((z.R.length : Int) ≤ 80 → decide ((z.A.length : Int) ≤ 200) = littleB z) ∧ (80 < (z.R.length : Int) → false = littleB z) := fun h => by
    unfold littleB
    rw [all_take h hok hm]
    refine ⟨fun h1 => ?_, fun h1 => ?_⟩
    · rw [decide_eq_true (by omega : z.R.length ≤ 80), Bool.true_and, Bool.true_and, decide_eq_decide]; omega
    · rw [decide_eq_false (by omega : ¬ z.R.length ≤ 80)]; rfl
  refine ⟨fun hlt => ⟨fun h100 => ?_, fun h100 => fin (.inr (by omega))⟩, fun hge => fin (.inl (by omega))⟩
  have hil : i < z.R.length := by omega
  obtain ⟨x, hx⟩ : ∃ x, z.R[i]? = some x := ⟨_, List.getElem?_eq_getElem hil⟩
  have bad : shortR x = false → false = littleB z := fun h => by unfold littleB; rw [all_take_bad hx (by omega) h]; rfl
  have hw : IntKind.i64.wrap ((i : Int) + 1) = ((i + 1 : Nat) : Int) := by rw [wrap64] <;> omega
  refine ⟨by omega, hil, fun y hy => ?_⟩
  rw [hx] at hy
  cases hy
  refine ⟨fun h1 => ⟨by omega, hil, fun y hy => ?_⟩, fun h1 => bad (by unfold shortR; rw [decide_eq_false (by omega : ¬ x.N.length ≤ 200)]; rfl)⟩
  rw [hx] at hy
  cases hy
  refine ⟨fun h2 => bad (by unfold shortR; rw [decide_eq_false (by omega : ¬ x.V.length ≤ 200), Bool.and_false]), fun h2 => ?_⟩
  refine again ⟨i + 1, by omega, by omega, fun j y hj hy => ?_⟩ (by simp; omega) ?_
  · by_cases hji : j = i
    · subst hji; rw [hx] at hy; cases hy
      unfold shortR
      rw [decide_eq_true (by omega), decide_eq_true (by omega)]; rfl
    · exact hok j y (by omega) hy
  · simp -dsimp -implicitDefEqProofs only [hw, go_sem, ↓reduceIte, reduceCtorEq, rn1, rn2, rn3, rn4, rn5, rn6, rn7, ri1, ri2, ri3, ri4, ri5]
def fewS (s : Sv) : Bool := (s.Z.take 20).all littleB && decide (s.Z.length ≤ 12)
def fewN (n : Nt) : Bool := (n.V.take 20).all fewS && decide (n.V.length ≤ 12) && decide (n.B.length ≤ 80) && decide (n.C.length ≤ 80)
theorem rfewN_ok (n : Nt) : Meets Tryz.prog 32 [n.arg] (rOne (vB (fewN n))) := by
  refine meets Tryz.func32 rfl rfl Tryz.ntmps32 Tryz.results32 rfl ?_
  simp -dsimp -implicitDefEqProofs only [go_sem, ↓reduceIte, reduceCtorEq, rn1, rn2, rn3, rn4, rn5, rn6, rn7, ri1, ri2, ri3, ri4, ri5]
  refine vfor sitOk (ι := AllInv 20 fewS n.V) (fun v => ⟨66, [(3, aI v.i), (1, aP 0 0)], [(0, some (.var [cD (svsD n.V), cI n.N, cD (bnsD n.B), cD (cksD n.C)] true))], 100⟩) (fun v => n.V.length - v.i) ⟨0, by omega, by omega, fun j x hj => by omega⟩ ?_ ?_
  · simp -dsimp -implicitDefEqProofs only [go_sem, ↓reduceIte, reduceCtorEq, rn1, rn2, rn3, rn4, rn5, rn6, rn7, ri1, ri2, ri3, ri4, ri5]
  intro ⟨i, hi, hm, hok⟩
  simp -dsimp -implicitDefEqProofs only [go_sem, ↓reduceIte, reduceCtorEq, rn1, rn2, rn3, rn4, rn5, rn6, rn7, ri1, ri2, ri3, ri4, ri5]
  have fin : (i = n.V.length ∨ i = 20) → ((n.V.length : Int) ≤ 12 → ((n.B.length : Int) ≤ 80 → decide ((n.C.length : Int) ≤ 80) = fewN n) ∧ (80 < (n.B.length : Int) → false = fewN n)) ∧ (12 < (n.V.length : Int) → false = fewN n) := fun h => by
    unfold fewN
    rw [all_take h hok hm]
    refine ⟨fun h1 => ⟨fun h2 => ?_, fun h2 => ?_⟩, fun h1 => ?_⟩
    · rw [decide_eq_true (by omega : n.V.length ≤ 12), decide_eq_true (by omega : n.B.length ≤ 80), Bool.true_and, Bool.true_and, Bool.true_and, decide_eq_decide]; omega
    · rw [decide_eq_false (by omega : ¬ n.B.length ≤ 80), Bool.and_false, Bool.false_and]
    · rw [decide_eq_false (by omega : ¬ n.V.length ≤ 12), Bool.and_false, Bool.false_and, Bool.false_and]
  refine ⟨fun hlt => ⟨fun h20 => ?_, fun h20 => fin (.inr (by omega))⟩, fun hge => fin (.inl (by omega))⟩
  have hil : i < n.V.length := by omega
  obtain ⟨x, hx⟩ : ∃ x, n.V[i]? = some x := ⟨_, List.getElem?_eq_getElem hil⟩
  have bad : fewS x = false → false = fewN n := fun h => by unfold fewN; rw [all_take_bad hx (by omega) h]; rfl
  have hw : IntKind.i64.wrap ((i : Int) + 1) = ((i + 1 : Nat) : Int) := by rw [wrap64] <;> omega
  refine vfor sitOk (ι := AllInv 20 littleB x.Z) (fun v => ⟨66, [(4, aI v.i), (3, aI i), (1, aP 0 0)], [(0, some (.var [cD (svsD n.V), cI n.N, cD (bnsD n.B), cD (cksD n.C)] true))], 300⟩) (fun v => x.Z.length - v.i) ⟨0, by omega, by omega, fun j x hj => by omega⟩ ?_ ?_
  · simp -dsimp -implicitDefEqProofs only [go_sem, ↓reduceIte, reduceCtorEq, rn1, rn2, rn3, rn4, rn5, rn6, rn7, ri1, ri2, ri3, ri4, ri5]
  intro ⟨k, hk, hkm, hokk⟩
  have hwk : IntKind.i64.wrap ((k : Int) + 1) = ((k + 1 : Nat) : Int) := by rw [wrap64] <;> omega
  simp -dsimp -implicitDefEqProofs only [hx, forall_eq', go_sem, ↓reduceIte, reduceCtorEq, rn1, rn2, rn3, rn4, rn5, rn6, rn7, ri1, ri2, ri3, ri4, ri5]
  have bad12 : 12 < (x.Z.length : Int) → false = fewN n := fun h => bad (by unfold fewS; rw [decide_eq_false (by omega : ¬ x.Z.length ≤ 12), Bool.and_false])
  have okS : (k = x.Z.length ∨ k = 20) → (x.Z.length : Int) ≤ 12 → ∀ j y, j < i + 1 → n.V[j]? = some y → fewS y = true := fun h h12 j y hj hy => by
    by_cases hji : j = i
    · subst hji; rw [hx] at hy; cases hy
      unfold fewS
      rw [all_take h hokk hkm, decide_eq_true (by omega : x.Z.length ≤ 12)]; rfl
    · exact hok j y (by omega) hy
  refine ⟨by omega, hil, fun hlt2 => ⟨fun hk20 => ⟨by omega, hil, by omega, by omega, fun z hz => callP (little_ok z) ?_⟩, fun hk20 => ⟨by omega, hil, bad12, fun h12 => ?_⟩⟩, fun hge2 => ⟨by omega, hil, bad12, fun h12 => ?_⟩⟩
  · simp -dsimp -implicitDefEqProofs only [go_sem, ↓reduceIte, reduceCtorEq, rn1, rn2, rn3, rn4, rn5, rn6, rn7, ri1, ri2, ri3, ri4, ri5]
    refine ⟨fun hl => ?_, fun hl => ?_⟩
    all_goals first
      | (refine again ⟨k + 1, by omega, by omega, fun j y hj hy => by
          by_cases hjk : j = k
          · subst hjk; rw [hz] at hy; cases hy; exact hl
          · exact hokk j y (by omega) hy⟩ (by simp; omega) ?_
         simp -dsimp -implicitDefEqProofs only [hwk, go_sem, ↓reduceIte, reduceCtorEq, rn1, rn2, rn3, rn4, rn5, rn6, rn7, ri1, ri2, ri3, ri4, ri5]
         done)
      | exact bad (by unfold fewS; rw [all_take_bad hz (by omega) hl]; rfl)
  · refine again ⟨i + 1, by omega, by omega, okS (.inr (by omega)) h12⟩ (by simp; omega) ?_
    simp -dsimp -implicitDefEqProofs only [hw, go_sem, ↓reduceIte, reduceCtorEq, rn1, rn2, rn3, rn4, rn5, rn6, rn7, ri1, ri2, ri3, ri4, ri5]
  · refine again ⟨i + 1, by omega, by omega, okS (.inl (by omega)) h12⟩ (by simp; omega) ?_
    simp -dsimp -implicitDefEqProofs only [hw, go_sem, ↓reduceIte, reduceCtorEq, rn1, rn2, rn3, rn4, rn5, rn6, rn7, ri1, ri2, ri3, ri4, ri5]
end Go.Proofs.YtolpobgfcokoaaaGreatDoor
namespace Go.Proofs.YtolpobgfcokoaaaGreatDoor
open Go.Eng
set_option linter.unusedSimpArgs false
set_option maxRecDepth 10000

theorem few_sz {n : Nt} (h : fewN n = true) : n.V.length ≤ 12 ∧ n.B.length ≤ 80 ∧ n.C.length ≤ 80 ∧ (∀ s ∈ n.V, s.Z.length ≤ 12) ∧ ∀ s ∈ n.V, ∀ z ∈ s.Z, z.R.length ≤ 80 := by
  unfold fewN at h
  simp only [Bool.and_eq_true, decide_eq_true_eq] at h
  obtain ⟨⟨⟨h1, h2⟩, h3⟩, h4⟩ := h
  rw [List.take_of_length_le (by omega)] at h1
  have hs : ∀ s ∈ n.V, s.Z.length ≤ 12 ∧ ∀ z ∈ s.Z, z.R.length ≤ 80 := fun s hs => by
    have := List.all_eq_true.1 h1 s hs
    unfold fewS at this
    simp only [Bool.and_eq_true, decide_eq_true_eq] at this
    refine ⟨this.2, fun z hz => ?_⟩
    have h5 := this.1
    rw [List.take_of_length_le (by omega)] at h5
    have h6 := List.all_eq_true.1 h5 z hz
    unfold littleB at h6
    simp only [Bool.and_eq_true, decide_eq_true_eq] at h6
    exact h6.1.2
  exact ⟨h2, h3, h4, fun s h => (hs s h).1, fun s h => (hs s h).2⟩
theorem sz_of {n : Nt} (h : fewN n = true) (hk : ∀ c ∈ n.C, -9223372036854775808 ≤ c.B ∧ c.B ≤ 9223372036854775807) (hw : ∀ c ∈ n.C, c.W.length ≤ 9223372036854775807) : Sz n := by
  obtain ⟨h1, h2, h3, h4, h5⟩ := few_sz h
  exact ⟨by omega, by omega, by omega, fun s hs => by have := h4 s hs; omega, fun s hs z hz => by have := h5 s hs z hz; omega, hk, hw⟩
theorem nt_ext {a b : Nt} (h1 : a.V = b.V) (h2 : a.N = b.N) (h3 : a.B = b.B) (h4 : a.C = b.C) : a = b := by
  cases a; cases b; simp at h1 h2 h3 h4; subst h1; subst h2; subst h3; subst h4; rfl
end Go.Proofs.YtolpobgfcokoaaaGreatDoor
