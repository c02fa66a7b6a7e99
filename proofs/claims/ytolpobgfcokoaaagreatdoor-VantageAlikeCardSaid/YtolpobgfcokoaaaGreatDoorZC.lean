
/- The document's answer: Form, Ahead, alone, Check, New, place. The document's answer: alone, Check, New, place, Put, Drop. -/
import Derived.Test.YtolpobgfcokoaaaGreatDoorZB
open Nat renaming reduceLT → rn1, reduceLeDiff → rn2, reduceEqDiff → rn3, reduceAdd → rn4, reduceMul → rn5, reduceSub → rn6, reduceBEq → rn7
open Int renaming reduceLT → ri1, reduceLE → ri2, reduceEq → ri3, reduceBEq → ri4, reduceNeg → ri5
namespace Go.Proofs.YtolpobgfcokoaaaGreatDoor
open Go.Eng
set_option linter.unusedSimpArgs false
set_option maxRecDepth 10000

theorem rname_ok (l : Bs) : Meets Tryz.prog 171 [(false, [vS l])] (rOne (vB (isName l))) := by
  refine meets Tryz.func171 rfl rfl Tryz.ntmps171 Tryz.results171 rfl ?_
  simp -dsimp -implicitDefEqProofs only [go_sem, ↓reduceIte, reduceCtorEq, rn1, rn2, rn3, rn4, rn5, rn6, rn7, ri1, ri2, ri3, ri4, ri5]
  refine callP (rcheckN_ok l) ?_
  simp -dsimp -implicitDefEqProofs only [go_sem, ↓reduceIte, reduceCtorEq, rn1, rn2, rn3, rn4, rn5, rn6, rn7, ri1, ri2, ri3, ri4, ri5]
  cases isName l <;> rfl
structure RpInv (l : Bs) where
  i : Nat
  le : i ≤ l.length
  ok : ∀ j c, j < i → l[j]? = some c → plainC c = true
theorem rplain_ok (l : Bs) : Meets Tryz.prog 210 [(false, [vS l])] (rOne (vB (plainB l))) := by
  by_cases h1 : l.length < 1
  · have h0 : (l.length : Int) < 1 := by omega
    have : plainB l = false := by unfold plainB; rw [show decide (0 < l.length) = false from decide_eq_false (by omega)]; simp
    refine meets Tryz.func210 rfl rfl Tryz.ntmps210 Tryz.results210 rfl ?_
    simp -dsimp -implicitDefEqProofs only [h0, this, go_sem, ↓reduceIte, reduceCtorEq, rn1, rn2, rn3, rn4, rn5, rn6, rn7, ri1, ri2, ri3, ri4, ri5]
  by_cases h2 : 64 < l.length
  · have h0 : ¬ (l.length : Int) < 1 := by omega
    have h3 : (64 : Int) < (l.length : Int) := by omega
    have : plainB l = false := by unfold plainB; rw [show decide (l.length ≤ 64) = false from decide_eq_false (by omega)]; simp
    refine meets Tryz.func210 rfl rfl Tryz.ntmps210 Tryz.results210 rfl ?_
    simp -dsimp -implicitDefEqProofs only [h0, h3, this, go_sem, ↓reduceIte, reduceCtorEq, rn1, rn2, rn3, rn4, rn5, rn6, rn7, ri1, ri2, ri3, ri4, ri5]
  have h0 : ¬ (l.length : Int) < 1 := by omega
  have h3 : ¬ (64 : Int) < (l.length : Int) := by omega
  have hp : plainB l = l.all plainC := by
    unfold plainB; rw [show decide (0 < l.length) = true from decide_eq_true (by omega), show decide (l.length ≤ 64) = true from decide_eq_true (by omega)]; simp
  rw [hp]
  refine meets Tryz.func210 rfl rfl Tryz.ntmps210 Tryz.results210 rfl ?_
  simp -dsimp -implicitDefEqProofs only [h0, h3, go_sem, ↓reduceIte, reduceCtorEq, rn1, rn2, rn3, rn4, rn5, rn6, rn7, ri1, ri2, ri3, ri4, ri5]
  refine vfor sitOk (ι := RpInv l) (fun v => ⟨28, [(3, aI v.i), (0, aS l)], [], 80⟩) (fun v => l.length - v.i) ⟨0, by omega, fun j c hj => by omega⟩ ?_ ?_
  · simp -dsimp -implicitDefEqProofs only [go_sem, ↓reduceIte, reduceCtorEq, rn1, rn2, rn3, rn4, rn5, rn6, rn7, ri1, ri2, ri3, ri4, ri5]
  intro ⟨i, hi, hok⟩
  simp -dsimp -implicitDefEqProofs only [go_sem, ↓reduceIte, reduceCtorEq, rn1, rn2, rn3, rn4, rn5, rn6, rn7, ri1, ri2, ri3, ri4, ri5]
  refine ⟨fun hlt => ?_, fun hge => ?_⟩
  · have hil : i < l.length := by omega
    obtain ⟨c, hc⟩ : ∃ c, l[i]? = some c := ⟨_, List.getElem?_eq_getElem hil⟩
    have hw := wrapS hil (by omega)
    simp -dsimp -implicitDefEqProofs only [hc, forall_eq', hw, go_sem, ↓reduceIte, reduceCtorEq, rn1, rn2, rn3, rn4, rn5, rn6, rn7, ri1, ri2, ri3, ri4, ri5]
    repeat' (first | with_reducible apply And.intro | with_reducible intro _ | with_reducible exact drawn (by kernel_rfl) | omega)
    all_goals first
      | omega
      | (rw [all_bad hc (by simp [plainC]; omega)]; done)
      | (refine again ⟨i + 1, by omega, fun j x hj hx => by
          by_cases hji : j = i
          · subst hji; rw [hc] at hx; cases hx; simp [plainC]; omega
          · exact hok j x (by omega) hx⟩ (by simp; omega) ?_
         simp -dsimp -implicitDefEqProofs only [go_sem, ↓reduceIte, reduceCtorEq, rn1, rn2, rn3, rn4, rn5, rn6, rn7, ri1, ri2, ri3, ri4, ri5])
  · exact (all_get fun j c hj hc => hok j c (by omega) hc).symm
theorem rform_ok (r : Rec) : Meets Tryz.prog 199 [r.arg] (rOne (vB (formB r))) := by
  refine meets Tryz.func199 rfl rfl Tryz.ntmps199 Tryz.results199 rfl ?_
  simp -dsimp -implicitDefEqProofs only [go_sem, ↓reduceIte, reduceCtorEq, rn1, rn2, rn3, rn4, rn5, rn6, rn7, ri1, ri2, ri3, ri4, ri5]
  refine callP (rname_ok _) ?_
  cases hn : isName r.N with
  | false =>
    have : formB r = false := by simp [formB, hn]
    simp -dsimp -implicitDefEqProofs only [hn, this, go_sem, ↓reduceIte, reduceCtorEq, rn1, rn2, rn3, rn4, rn5, rn6, rn7, ri1, ri2, ri3, ri4, ri5]
  | true =>
  by_cases hL : 1 ≤ r.L ∧ r.L ≤ 1000
  · have h1 : ¬ r.L < 1 := by omega
    have h2 : ¬ 1000 < r.L := by omega
    have hf : formB r = fitsB r.K r.V := by
      unfold formB
      rw [hn, show decide (1 ≤ r.L) = true from decide_eq_true (by omega), show decide (r.L ≤ 1000) = true from decide_eq_true (by omega)]; simp
    rw [hf]
    obtain ⟨N, K, V, L⟩ := r
    simp only at hn h1 h2
    by_cases hv : V.length = 1
    · match V, hv with
      | [c], _ =>
        simp -dsimp -implicitDefEqProofs only [hn, h1, h2, go_sem, ↓reduceIte, reduceCtorEq, rn1, rn2, rn3, rn4, rn5, rn6, rn7, ri1, ri2, ri3, ri4, ri5]
        repeat' (first | with_reducible apply And.intro | with_reducible intro _ | with_reducible exact drawn (by kernel_rfl) | (refine callP (rplain_ok _) ?_; simp -dsimp -implicitDefEqProofs only [go_sem, ↓reduceIte, reduceCtorEq, rn1, rn2, rn3, rn4, rn5, rn6, rn7, ri1, ri2, ri3, ri4, ri5]) | (refine callP (rname_ok _) ?_; simp -dsimp -implicitDefEqProofs only [go_sem, ↓reduceIte, reduceCtorEq, rn1, rn2, rn3, rn4, rn5, rn6, rn7, ri1, ri2, ri3, ri4, ri5]) | omega)
        all_goals first
          | (simp [fitsB, *]; done)
          | (simp [fitsB, digitB, *]; done)
          | (rw [show fitsB K [c] = digitB [c] from by unfold fitsB; rw [if_neg (by omega), if_pos (by assumption)]]
             rw [show digitB [c] = (decide (48 ≤ c.toNat) && decide (c.toNat ≤ 55)) from rfl, show decide (48 ≤ c.toNat) = true from decide_eq_true (by omega), Bool.true_and, decide_eq_decide]; omega)
          | (rw [show fitsB K [c] = digitB [c] from by unfold fitsB; rw [if_neg (by omega), if_pos (by assumption)]]
             rw [show digitB [c] = (decide (48 ≤ c.toNat) && decide (c.toNat ≤ 55)) from rfl, show decide (48 ≤ c.toNat) = false from decide_eq_false (by omega), Bool.false_and])
          | trace_state
    · have hv1 : ¬ (V.length : Int) = 1 := by omega
      have hdl := digitB_len hv1
      simp -dsimp -implicitDefEqProofs only [hn, h1, h2, hv1, go_sem, ↓reduceIte, reduceCtorEq, rn1, rn2, rn3, rn4, rn5, rn6, rn7, ri1, ri2, ri3, ri4, ri5]
      repeat' (first | with_reducible apply And.intro | with_reducible intro _ | with_reducible exact drawn (by kernel_rfl) | (refine callP (rplain_ok _) ?_; simp -dsimp -implicitDefEqProofs only [go_sem, ↓reduceIte, reduceCtorEq, rn1, rn2, rn3, rn4, rn5, rn6, rn7, ri1, ri2, ri3, ri4, ri5]) | (refine callP (rname_ok _) ?_; simp -dsimp -implicitDefEqProofs only [go_sem, ↓reduceIte, reduceCtorEq, rn1, rn2, rn3, rn4, rn5, rn6, rn7, ri1, ri2, ri3, ri4, ri5]) | omega)
      all_goals first
        | (simp [fitsB, *]; done)
        | trace_state
  · have hf : formB r = false := by
      unfold formB
      by_cases h : 1 ≤ r.L
      · rw [show decide (r.L ≤ 1000) = false from decide_eq_false (by omega)]; simp
      · rw [show decide (1 ≤ r.L) = false from decide_eq_false (by omega)]; simp
    rw [hf]
    simp -dsimp -implicitDefEqProofs only [hn, go_sem, ↓reduceIte, reduceCtorEq, rn1, rn2, rn3, rn4, rn5, rn6, rn7, ri1, ri2, ri3, ri4, ri5]
    repeat' (first | with_reducible apply And.intro | with_reducible intro _ | with_reducible exact drawn (by kernel_rfl) | omega)
    all_goals (exfalso; omega)

def aheadB (a b : Rec) : Bool := decide (Ah a b)
theorem rahead_ok (a b : Rec) : Meets Tryz.prog 200 [a.arg, b.arg] (rOne (vB (aheadB a b))) := by
  refine meets Tryz.func200 rfl rfl Tryz.ntmps200 Tryz.results200 rfl ?_
  simp -dsimp -implicitDefEqProofs only [go_sem, ↓reduceIte, reduceCtorEq, rn1, rn2, rn3, rn4, rn5, rn6, rn7, ri1, ri2, ri3, ri4, ri5]
  refine ⟨fun h1 => ?_, fun h1 => ⟨fun h2 => ?_, fun h2 => ?_⟩⟩
  all_goals (unfold aheadB; rw [decide_eq_decide]; unfold Ah; simp [h1, lt_irr])
  · simp [h2]
  · simp [h2]
end Go.Proofs.YtolpobgfcokoaaaGreatDoor
namespace Go.Proofs.YtolpobgfcokoaaaGreatDoor
open Go.Eng
set_option linter.unusedSimpArgs false
set_option maxRecDepth 10000

structure RaInv (l : List Rec) where
  i : Nat
  lo : 1 ≤ i
  ok : ∀ j, j < i → j < l.length → aloneAt l j = true
theorem ralone_ok (l : List Rec) (hl : l.length ≤ 1000000) : Meets Tryz.prog 201 [(false, [vD (recsD l)])] (rOne (vB (aloneB l))) := by
  refine meets Tryz.func201 rfl rfl Tryz.ntmps201 Tryz.results201 rfl ?_
  simp -dsimp -implicitDefEqProofs only [go_sem, ↓reduceIte, reduceCtorEq, rn1, rn2, rn3, rn4, rn5, rn6, rn7, ri1, ri2, ri3, ri4, ri5]
  refine vfor sitOk (ι := RaInv l) (fun v => ⟨39, [(3, aI v.i), (0, aD (recsD l))], [], 16⟩) (fun v => l.length - v.i) ⟨1, by omega, fun j hj _ => by cases j with | zero => rfl | succ j => omega⟩ ?_ ?_
  · simp -dsimp -implicitDefEqProofs only [go_sem, ↓reduceIte, reduceCtorEq, rn1, rn2, rn3, rn4, rn5, rn6, rn7, ri1, ri2, ri3, ri4, ri5]
  intro ⟨i, hlo, hok⟩
  obtain ⟨k, rfl⟩ : ∃ k, i = k + 1 := ⟨i - 1, by omega⟩
  simp -dsimp -implicitDefEqProofs only [go_sem, ↓reduceIte, reduceCtorEq, rn1, rn2, rn3, rn4, rn5, rn6, rn7, ri1, ri2, ri3, ri4, ri5]
  refine ⟨fun hlt => ?_, fun hge => ?_⟩
  · have hil : k + 1 < l.length := by omega
    obtain ⟨x, hx⟩ : ∃ x, l[k]? = some x := ⟨_, List.getElem?_eq_getElem (by omega)⟩
    obtain ⟨y, hy⟩ : ∃ y, l[k + 1]? = some y := ⟨_, List.getElem?_eq_getElem hil⟩
    have hw := wrapS hil (by omega)
    have hw2 : IntKind.i64.wrap (((k + 1 : Nat) : Int) - 1) = (k : Int) := by rw [wrap64] <;> omega
    have hkl : k < l.length := by omega
    have hat : aloneAt l (k + 1) = !(x.N == y.N && (x.K == 4 || y.K == 4)) := by simp only [aloneAt, hx, hy]
    have bad : aloneAt l (k + 1) = false → false = aloneB l := fun h => (range_bad hil h).symm
    have next : aloneAt l (k + 1) = true → ∀ j, j < k + 1 + 1 → j < l.length → aloneAt l j = true := fun h j hj hjl => by
      by_cases hjk : j = k + 1
      · subst hjk; exact h
      · exact hok j (by omega) hjl
    simp -dsimp -implicitDefEqProofs only [hx, hy, forall_eq', hw, hw2, go_sem, ↓reduceIte, reduceCtorEq, rn1, rn2, rn3, rn4, rn5, rn6, rn7, ri1, ri2, ri3, ri4, ri5]
    repeat' (first | with_reducible apply And.intro | with_reducible intro _ | with_reducible exact drawn (by kernel_rfl) | omega)
    all_goals first
      | (with_reducible refine bad ?_; rw [hat]; simp [*]; done)
      | (refine again ⟨k + 1 + 1, by omega, next (by rw [hat]; simp [*])⟩ (by simp; omega) ?_
         simp -dsimp -implicitDefEqProofs only [go_sem, ↓reduceIte, reduceCtorEq, rn1, rn2, rn3, rn4, rn5, rn6, rn7, ri1, ri2, ri3, ri4, ri5]
         done)
      | trace_state
  · have : aloneB l = true := range_good fun j hj => hok j (by omega) hj
    rw [this]
def goodR (a : Bs) (l : List Rec) (i : Nat) : Bool := match l[i]? with
  | some r => formB r && underB r.N a && (match i with | 0 => true | j + 1 => match l[j]? with | some q => aheadB q r | none => true)
  | none => true
theorem goodR_0 {a : Bs} {l : List Rec} {r : Rec} (h : l[0]? = some r) : goodR a l 0 = (formB r && underB r.N a) := by
  unfold goodR; rw [h]; simp
theorem goodR_S {a : Bs} {l : List Rec} {r q : Rec} {i : Nat} (h : l[i + 1]? = some r) (hq : l[i]? = some q) : goodR a l (i + 1) = (formB r && underB r.N a && aheadB q r) := by
  unfold goodR; rw [h]; simp [hq]
theorem good_R {a : Bs} {l : List Rec} {i : Nat} (h : goodAt a l i = true) : goodR a l i = true := by
  unfold goodAt at h
  unfold goodR
  split at h
  · rename_i r hr
    rw [hr]
    simp only [Bool.and_eq_true] at h ⊢
    refine ⟨h.1.1, ?_⟩
    have h2 := h.1.2
    cases i with
    | zero => rfl
    | succ j =>
      simp only at h2 ⊢
      cases hq : l[j]? with
      | none => rfl
      | some q => rw [hq] at h2; simp only [decide_eq_true_eq] at h2; exact decide_eq_true (ordR_lt.1 h2)
  · rename_i hr; rw [hr]
theorem okZ_R {a : Bs} {l : List Rec} : okZ a l = (apexB a && (List.range l.length).all (goodR a l) && aloneB l) := by
  rw [Bool.eq_iff_iff]
  constructor
  · intro h
    have hok := ok_of h
    simp only [okZ, Bool.and_eq_true] at h
    simp only [Bool.and_eq_true]
    refine ⟨⟨h.1, range_good fun j hj => good_R (List.all_eq_true.1 h.2 j (List.mem_range.2 hj))⟩, (alone_law hok.rise).2 hok.alone⟩
  · intro h
    simp only [Bool.and_eq_true] at h
    obtain ⟨⟨h1, h2⟩, h3⟩ := h
    have all := fun i hi => List.all_eq_true.1 h2 i (List.mem_range.2 hi)
    have parts : ∀ r ∈ l, formB r = true ∧ underB r.N a = true := fun r hr => by
      obtain ⟨i, hi⟩ := List.mem_iff_getElem?.1 hr
      have hg := all i (List.getElem?_eq_some_iff.1 hi).1
      unfold goodR at hg
      rw [hi] at hg
      simp only [Bool.and_eq_true] at hg
      exact hg.1
    have hrise : Rises l := rises_of fun i x y hx hy => by
      have hg := all (i + 1) (List.getElem?_eq_some_iff.1 hy).1
      rw [goodR_S hy hx] at hg
      simp only [Bool.and_eq_true] at hg
      exact of_decide_eq_true hg.2
    exact ok_to ⟨h1, fun r hr => (parts r hr).1, fun r hr => (parts r hr).2, hrise, (alone_law hrise).1 h3⟩
theorem checkV_badR {a : Bs} {l : List Rec} {i : Nat} (hi : i < l.length) (h : goodR a l i = false) : checkV a l = 1 := by
  unfold checkV; rw [okZ_R, range_bad hi h]; simp
theorem checkV_endR {a : Bs} {l : List Rec} (h : apexB a = true) (h2 : ∀ j, j < l.length → goodR a l j = true) : checkV a l = if aloneB l then (if 64 < l.length then 2 else 0) else 1 := by
  unfold checkV; rw [okZ_R, h, range_good h2]; simp
structure RcqInv (a : Bs) (l : List Rec) where
  i : Nat
  le : i ≤ l.length
  ok : ∀ j, j < i → goodR a l j = true

theorem rcheck_ok (a : Bs) (l : List Rec) (hl : l.length ≤ 1000000) : Meets Tryz.prog 167 [zoneA a l] (rOne (vI (checkV a l))) := by
  have fin : apexB a = true → (∀ j, j < l.length → goodR a l j = true) → (aloneB l = false → 1 = checkV a l) ∧ (aloneB l = true → (64 < (l.length : Int) → 2 = checkV a l) ∧ ((l.length : Int) ≤ 64 → 0 = checkV a l)) := fun h1 h2 => by
    rw [checkV_endR h1 h2]
    refine ⟨fun h => by simp [h], fun h => ⟨fun h3 => ?_, fun h3 => ?_⟩⟩
    · rw [h, if_pos rfl, if_pos (by omega)]
    · rw [h, if_pos rfl, if_neg (by omega)]
  refine meets Tryz.func167 rfl rfl Tryz.ntmps167 Tryz.results167 rfl ?_
  simp -dsimp -implicitDefEqProofs only [go_sem, ↓reduceIte, reduceCtorEq, rn1, rn2, rn3, rn4, rn5, rn6, rn7, ri1, ri2, ri3, ri4, ri5]
  cases hap : apexB a with
  | false =>
    have h1 : ¬ a = [] := by intro h; subst h; simp [apexB] at hap
    have h2 : isName a = false := by simpa [apexB, h1] using hap
    simp -dsimp -implicitDefEqProofs only [h1, go_sem, ↓reduceIte, reduceCtorEq, rn1, rn2, rn3, rn4, rn5, rn6, rn7, ri1, ri2, ri3, ri4, ri5]
    refine callP (rname_ok a) ?_
    simp -dsimp -implicitDefEqProofs only [h2, checkV_apex hap, go_sem, ↓reduceIte, reduceCtorEq, rn1, rn2, rn3, rn4, rn5, rn6, rn7, ri1, ri2, ri3, ri4, ri5]
  | true =>
  have hstart : a = [] ∨ (¬ a = [] ∧ isName a = true) := by
    by_cases h : a = []
    · exact .inl h
    · exact .inr ⟨h, by simpa [apexB, h] using hap⟩
  rcases hstart with rfl | ⟨h1, h2⟩
  · skip
    simp -dsimp -implicitDefEqProofs only [go_sem, ↓reduceIte, reduceCtorEq, rn1, rn2, rn3, rn4, rn5, rn6, rn7, ri1, ri2, ri3, ri4, ri5]
    refine vfor sitOk (ι := RcqInv [] l) (fun v => ⟨60, [(3, aI v.i), (1, aP 0 0)], [(0, some (.var [cS [], cD (recsD l)] true))], 100⟩) (fun v => l.length - v.i) ⟨0, by omega, fun j hj => by omega⟩ ?_ ?_
    · simp -dsimp -implicitDefEqProofs only [go_sem, ↓reduceIte, reduceCtorEq, rn1, rn2, rn3, rn4, rn5, rn6, rn7, ri1, ri2, ri3, ri4, ri5]
    intro ⟨i, hi, hok⟩
    simp -dsimp -implicitDefEqProofs only [go_sem, ↓reduceIte, reduceCtorEq, rn1, rn2, rn3, rn4, rn5, rn6, rn7, ri1, ri2, ri3, ri4, ri5]
    refine ⟨fun hlt => ?_, fun hge => ?_⟩
    · have hil : i < l.length := by omega
      obtain ⟨x, hx⟩ : ∃ x, l[i]? = some x := ⟨_, List.getElem?_eq_getElem hil⟩
      have hw := wrapS hil (by omega)
      have bad : goodR [] l i = false → 1 = checkV [] l := fun h => (checkV_badR hil h).symm
      have next : goodR [] l i = true → ∀ j, j < i + 1 → goodR [] l j = true := fun h j hj => by
        by_cases hji : j = i
        · subst hji; exact h
        · exact hok j (by omega)
      cases i with
      | zero =>
        have hg := goodR_0 (a := []) hx
        simp -dsimp -implicitDefEqProofs only [hx, forall_eq', hw, go_sem, ↓reduceIte, reduceCtorEq, rn1, rn2, rn3, rn4, rn5, rn6, rn7, ri1, ri2, ri3, ri4, ri5]
        repeat' (first | with_reducible apply And.intro | with_reducible intro _ | with_reducible exact drawn (by kernel_rfl) | (refine callP (rform_ok _) ?_; simp -dsimp -implicitDefEqProofs only [hx, forall_eq', hw, go_sem, ↓reduceIte, reduceCtorEq, rn1, rn2, rn3, rn4, rn5, rn6, rn7, ri1, ri2, ri3, ri4, ri5]) | (refine callP (runder_ok _ _) ?_; simp -dsimp -implicitDefEqProofs only [hx, forall_eq', hw, go_sem, ↓reduceIte, reduceCtorEq, rn1, rn2, rn3, rn4, rn5, rn6, rn7, ri1, ri2, ri3, ri4, ri5]) | omega)
        all_goals first
          | (with_reducible refine bad ?_; rw [hg]; simp [*]; done)
          | (refine again ⟨1, by omega, next (by rw [hg]; simp [*])⟩ (by simp; omega) ?_
             simp -dsimp -implicitDefEqProofs only [go_sem, ↓reduceIte, reduceCtorEq, rn1, rn2, rn3, rn4, rn5, rn6, rn7, ri1, ri2, ri3, ri4, ri5]
             rfl)
          | trace_state
      | succ k =>
        obtain ⟨y, hy⟩ : ∃ y, l[k]? = some y := ⟨_, List.getElem?_eq_getElem (by omega)⟩
        have hg := goodR_S (a := []) hx hy
        have hw2 : IntKind.i64.wrap (((k + 1 : Nat) : Int) - 1) = (k : Int) := by rw [wrap64] <;> omega
        have hyl : k < l.length := by omega
        simp -dsimp -implicitDefEqProofs only [hx, hy, forall_eq', hw, hw2, go_sem, ↓reduceIte, reduceCtorEq, rn1, rn2, rn3, rn4, rn5, rn6, rn7, ri1, ri2, ri3, ri4, ri5]
        repeat' (first | with_reducible apply And.intro | with_reducible intro _ | with_reducible exact drawn (by kernel_rfl) | (refine callP (rform_ok _) ?_; simp -dsimp -implicitDefEqProofs only [hx, hy, forall_eq', hw, hw2, go_sem, ↓reduceIte, reduceCtorEq, rn1, rn2, rn3, rn4, rn5, rn6, rn7, ri1, ri2, ri3, ri4, ri5]) | (refine callP (runder_ok _ _) ?_; simp -dsimp -implicitDefEqProofs only [hx, hy, forall_eq', hw, hw2, go_sem, ↓reduceIte, reduceCtorEq, rn1, rn2, rn3, rn4, rn5, rn6, rn7, ri1, ri2, ri3, ri4, ri5]) | (refine callP (rahead_ok _ _) ?_; simp -dsimp -implicitDefEqProofs only [hx, hy, forall_eq', hw, hw2, go_sem, ↓reduceIte, reduceCtorEq, rn1, rn2, rn3, rn4, rn5, rn6, rn7, ri1, ri2, ri3, ri4, ri5]) | omega)
        all_goals first
          | (with_reducible refine bad ?_; rw [hg]; simp [*]; done)
          | (refine again ⟨k + 1 + 1, by omega, next (by rw [hg]; simp [*])⟩ (by simp; omega) ?_
             simp -dsimp -implicitDefEqProofs only [go_sem, ↓reduceIte, reduceCtorEq, rn1, rn2, rn3, rn4, rn5, rn6, rn7, ri1, ri2, ri3, ri4, ri5]; done)
          | trace_state
    · refine callP (ralone_ok l hl) ?_
      simp -dsimp -implicitDefEqProofs only [go_sem, ↓reduceIte, reduceCtorEq, rn1, rn2, rn3, rn4, rn5, rn6, rn7, ri1, ri2, ri3, ri4, ri5]
      exact fin hap fun j hj => hok j (by omega)
  · simp -dsimp -implicitDefEqProofs only [h1, go_sem, ↓reduceIte, reduceCtorEq, rn1, rn2, rn3, rn4, rn5, rn6, rn7, ri1, ri2, ri3, ri4, ri5]
    refine callP (rname_ok a) ?_
    simp -dsimp -implicitDefEqProofs only [h2, go_sem, ↓reduceIte, reduceCtorEq, rn1, rn2, rn3, rn4, rn5, rn6, rn7, ri1, ri2, ri3, ri4, ri5]
    refine vfor sitOk (ι := RcqInv a l) (fun v => ⟨60, [(3, aI v.i), (1, aP 0 0)], [(0, some (.var [cS a, cD (recsD l)] true))], 100⟩) (fun v => l.length - v.i) ⟨0, by omega, fun j hj => by omega⟩ ?_ ?_
    · simp -dsimp -implicitDefEqProofs only [go_sem, ↓reduceIte, reduceCtorEq, rn1, rn2, rn3, rn4, rn5, rn6, rn7, ri1, ri2, ri3, ri4, ri5]
    intro ⟨i, hi, hok⟩
    simp -dsimp -implicitDefEqProofs only [go_sem, ↓reduceIte, reduceCtorEq, rn1, rn2, rn3, rn4, rn5, rn6, rn7, ri1, ri2, ri3, ri4, ri5]
    refine ⟨fun hlt => ?_, fun hge => ?_⟩
    · have hil : i < l.length := by omega
      obtain ⟨x, hx⟩ : ∃ x, l[i]? = some x := ⟨_, List.getElem?_eq_getElem hil⟩
      have hw := wrapS hil (by omega)
      have bad : goodR a l i = false → 1 = checkV a l := fun h => (checkV_badR hil h).symm
      have next : goodR a l i = true → ∀ j, j < i + 1 → goodR a l j = true := fun h j hj => by
        by_cases hji : j = i
        · subst hji; exact h
        · exact hok j (by omega)
      cases i with
      | zero =>
        have hg := goodR_0 (a := a) hx
        simp -dsimp -implicitDefEqProofs only [hx, forall_eq', hw, go_sem, ↓reduceIte, reduceCtorEq, rn1, rn2, rn3, rn4, rn5, rn6, rn7, ri1, ri2, ri3, ri4, ri5]
        repeat' (first | with_reducible apply And.intro | with_reducible intro _ | with_reducible exact drawn (by kernel_rfl) | (refine callP (rform_ok _) ?_; simp -dsimp -implicitDefEqProofs only [hx, forall_eq', hw, go_sem, ↓reduceIte, reduceCtorEq, rn1, rn2, rn3, rn4, rn5, rn6, rn7, ri1, ri2, ri3, ri4, ri5]) | (refine callP (runder_ok _ _) ?_; simp -dsimp -implicitDefEqProofs only [hx, forall_eq', hw, go_sem, ↓reduceIte, reduceCtorEq, rn1, rn2, rn3, rn4, rn5, rn6, rn7, ri1, ri2, ri3, ri4, ri5]) | omega)
        all_goals first
          | (with_reducible refine bad ?_; rw [hg]; simp [*]; done)
          | (refine again ⟨1, by omega, next (by rw [hg]; simp [*])⟩ (by simp; omega) ?_
             simp -dsimp -implicitDefEqProofs only [go_sem, ↓reduceIte, reduceCtorEq, rn1, rn2, rn3, rn4, rn5, rn6, rn7, ri1, ri2, ri3, ri4, ri5]
             rfl)
          | trace_state
      | succ k =>
        obtain ⟨y, hy⟩ : ∃ y, l[k]? = some y := ⟨_, List.getElem?_eq_getElem (by omega)⟩
        have hg := goodR_S (a := a) hx hy
        have hw2 : IntKind.i64.wrap (((k + 1 : Nat) : Int) - 1) = (k : Int) := by rw [wrap64] <;> omega
        have hyl : k < l.length := by omega
        simp -dsimp -implicitDefEqProofs only [hx, hy, forall_eq', hw, hw2, go_sem, ↓reduceIte, reduceCtorEq, rn1, rn2, rn3, rn4, rn5, rn6, rn7, ri1, ri2, ri3, ri4, ri5]
        repeat' (first | with_reducible apply And.intro | with_reducible intro _ | with_reducible exact drawn (by kernel_rfl) | (refine callP (rform_ok _) ?_; simp -dsimp -implicitDefEqProofs only [hx, hy, forall_eq', hw, hw2, go_sem, ↓reduceIte, reduceCtorEq, rn1, rn2, rn3, rn4, rn5, rn6, rn7, ri1, ri2, ri3, ri4, ri5]) | (refine callP (runder_ok _ _) ?_; simp -dsimp -implicitDefEqProofs only [hx, hy, forall_eq', hw, hw2, go_sem, ↓reduceIte, reduceCtorEq, rn1, rn2, rn3, rn4, rn5, rn6, rn7, ri1, ri2, ri3, ri4, ri5]) | (refine callP (rahead_ok _ _) ?_; simp -dsimp -implicitDefEqProofs only [hx, hy, forall_eq', hw, hw2, go_sem, ↓reduceIte, reduceCtorEq, rn1, rn2, rn3, rn4, rn5, rn6, rn7, ri1, ri2, ri3, ri4, ri5]) | omega)
        all_goals first
          | (with_reducible refine bad ?_; rw [hg]; simp [*]; done)
          | (refine again ⟨k + 1 + 1, by omega, next (by rw [hg]; simp [*])⟩ (by simp; omega) ?_
             simp -dsimp -implicitDefEqProofs only [go_sem, ↓reduceIte, reduceCtorEq, rn1, rn2, rn3, rn4, rn5, rn6, rn7, ri1, ri2, ri3, ri4, ri5]; done)
          | trace_state
    · refine callP (ralone_ok l hl) ?_
      simp -dsimp -implicitDefEqProofs only [go_sem, ↓reduceIte, reduceCtorEq, rn1, rn2, rn3, rn4, rn5, rn6, rn7, ri1, ri2, ri3, ri4, ri5]
      exact fin hap fun j hj => hok j (by omega)
end Go.Proofs.YtolpobgfcokoaaaGreatDoor
