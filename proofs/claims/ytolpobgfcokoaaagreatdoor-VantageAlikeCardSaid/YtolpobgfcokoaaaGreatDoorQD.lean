
/- The document's answer: may, ahead, Check. The document's answer: Held, Trim, Recs, Same, Few. The document's answer: asked. -/
import Derived.Test.YtolpobgfcokoaaaGreatDoorQC
open Nat renaming reduceLT → rn1, reduceLeDiff → rn2, reduceEqDiff → rn3, reduceAdd → rn4, reduceMul → rn5, reduceSub → rn6, reduceBEq → rn7
open Int renaming reduceLT → ri1, reduceLE → ri2, reduceEq → ri3, reduceBEq → ri4, reduceNeg → ri5
namespace Go.Proofs.YtolpobgfcokoaaaGreatDoor
open Go.Eng
set_option linter.unusedSimpArgs false
set_option maxRecDepth 10000

theorem rkind_ok (k : Int) : Meets Tryz.prog 80 [(false, [vI k])] (rOne (vB (kindB k))) := by
  refine meets Tryz.func80 rfl rfl Tryz.ntmps80 Tryz.results80 rfl ?_
  simp -dsimp -implicitDefEqProofs only [go_sem, ↓reduceIte, reduceCtorEq, rn1, rn2, rn3, rn4, rn5, rn6, rn7, ri1, ri2, ri3, ri4, ri5]
  repeat' (first | with_reducible apply And.intro | with_reducible intro _ | with_reducible exact drawn (by kernel_rfl) | omega)
  all_goals unfold kindB
  · rename_i h1
    rw [decide_eq_true h1]; rfl
  · rename_i h1
    rw [show decide (1 ≤ k) = false from decide_eq_false (by omega)]; rfl
theorem rin_ok (t : Int) : Meets Tryz.prog 79 [(false, [vI t])] (rOne (vB (timeB t))) := by
  refine meets Tryz.func79 rfl rfl Tryz.ntmps79 Tryz.results79 rfl ?_
  simp -dsimp -implicitDefEqProofs only [go_sem, ↓reduceIte, reduceCtorEq, rn1, rn2, rn3, rn4, rn5, rn6, rn7, ri1, ri2, ri3, ri4, ri5]
  repeat' (first | with_reducible apply And.intro | with_reducible intro _ | with_reducible exact drawn (by kernel_rfl) | omega)
  all_goals unfold timeB
  · rename_i h1
    rw [decide_eq_true h1]; rfl
  · rename_i h1
    rw [show decide (0 ≤ t) = false from decide_eq_false (by omega)]; rfl
theorem koQ_lt (a b : Kp) : koQ.cmp (kQ a) (kQ b) < 0 ↔ a.N < b.N ∨ (a.N = b.N ∧ a.K < b.K) := by
  show or2 (koS.cmp a.N b.N) (koI.cmp a.K b.K) < 0 ↔ _
  rw [or2_neg, koS.eq0]
  show cmpB a.N b.N < 0 ∨ (a.N = b.N ∧ cmpI a.K b.K < 0) ↔ _
  rw [cmpB_lt, cmpI_lt]
theorem rahead14_ok (a b : Kp) : Meets Tryz.prog 118 [a.arg, b.arg] (rOne (vB (decide (koQ.cmp (kQ a) (kQ b) < 0)))) := by
  have h := koQ_lt a b
  generalize koQ.cmp (kQ a) (kQ b) = z at *
  refine meets Tryz.func118 rfl rfl Tryz.ntmps118 Tryz.results118 rfl ?_
  simp -dsimp -implicitDefEqProofs only [go_sem, ↓reduceIte, reduceCtorEq, rn1, rn2, rn3, rn4, rn5, rn6, rn7, ri1, ri2, ri3, ri4, ri5]
  refine ⟨fun h1 => ⟨fun h2 => ?_, fun h2 => ?_⟩, fun h1 => (decide_eq_true (h.2 (.inl h1))).symm⟩
  · rw [decide_eq_decide, h]
    exact ⟨fun e => .inr ⟨h2, e⟩, fun e => e.elim (fun e => absurd e h1) fun e => e.2⟩
  · exact (decide_eq_false fun e => (h.1 e).elim h1 fun e => h2 e.1).symm
set_option maxHeartbeats 4000000 in
theorem rmay_ok (k : Kp) (hl : k.R.length ≤ 1000000) : Meets Tryz.prog 117 [k.arg] (rOne (vB (mayB k))) := by
  refine meets Tryz.func117 rfl rfl Tryz.ntmps117 Tryz.results117 rfl ?_
  simp -dsimp -implicitDefEqProofs only [go_sem, ↓reduceIte, reduceCtorEq, rn1, rn2, rn3, rn4, rn5, rn6, rn7, ri1, ri2, ri3, ri4, ri5]
  refine callP (rcheckN_ok k.N) ?_
  cases hn : isName k.N with
  | false =>
    have hv : mayB k = false := by unfold mayB; rw [hn]; rfl
    rw [hv]
    simp -dsimp -implicitDefEqProofs only [hn, Bool.false_eq_true, go_sem, ↓reduceIte, reduceCtorEq, rn1, rn2, rn3, rn4, rn5, rn6, rn7, ri1, ri2, ri3, ri4, ri5]
  | true =>
    simp -dsimp -implicitDefEqProofs only [hn, go_sem, ↓reduceIte, reduceCtorEq, rn1, rn2, rn3, rn4, rn5, rn6, rn7, ri1, ri2, ri3, ri4, ri5]
    refine callP (rkind_ok k.K) ?_
    simp -dsimp -implicitDefEqProofs only [go_sem, ↓reduceIte, reduceCtorEq, rn1, rn2, rn3, rn4, rn5, rn6, rn7, ri1, ri2, ri3, ri4, ri5]
    refine ⟨fun hk => callP (rin_ok k.U) ?_, fun hk => ?_⟩
    · simp -dsimp -implicitDefEqProofs only [go_sem, ↓reduceIte, reduceCtorEq, rn1, rn2, rn3, rn4, rn5, rn6, rn7, ri1, ri2, ri3, ri4, ri5]
      refine ⟨fun ht => ⟨fun h64 => ?_, fun h64 => ?_⟩, fun ht => ?_⟩
      · unfold mayB; rw [decide_eq_false (by omega : ¬ k.R.length ≤ 64)]; simp
      · have hm : mayB k = k.R.all fun r => r.K == k.K := by unfold mayB; rw [hn, hk, ht, decide_eq_true (by omega : k.R.length ≤ 64)]; rfl
        rw [hm]
        refine vfor sitOk (ι := KkInv k.K k.R) (fun v => ⟨42, [(3, aI v.i), (1, aP 0 0)], [(0, some (.var [cS k.N, cI k.K, cD (recsD k.R), cI k.U] true))], 400⟩) (fun v => k.R.length - v.i) ⟨0, by omega, fun j x hj => by omega⟩ ?_ ?_
        · simp -dsimp -implicitDefEqProofs only [go_sem, ↓reduceIte, reduceCtorEq, rn1, rn2, rn3, rn4, rn5, rn6, rn7, ri1, ri2, ri3, ri4, ri5]
        intro ⟨i, hi, hok⟩
        simp -dsimp -implicitDefEqProofs only [go_sem, ↓reduceIte, reduceCtorEq, rn1, rn2, rn3, rn4, rn5, rn6, rn7, ri1, ri2, ri3, ri4, ri5]
        refine ⟨fun hlt => ?_, fun hge => ?_⟩
        · have hil : i < k.R.length := by omega
          obtain ⟨x, hx⟩ : ∃ x, k.R[i]? = some x := ⟨_, List.getElem?_eq_getElem hil⟩
          have hw := wrapS hil (by omega)
          simp -dsimp -implicitDefEqProofs only [hx, forall_eq', hw, go_sem, ↓reduceIte, reduceCtorEq, rn1, rn2, rn3, rn4, rn5, rn6, rn7, ri1, ri2, ri3, ri4, ri5]
          refine ⟨by omega, hil, drawn (by kernel_rfl), fun hc => ?_, fun hc => ?_⟩
          · exact (all_bad hx (by simpa using hc)).symm
          · refine again ⟨i + 1, by omega, fun j y hj hy => by
              by_cases hji : j = i
              · subst hji; rw [hx] at hy; cases hy; exact hc
              · exact hok j y (by omega) hy⟩ (by simp; omega) ?_
            simp -dsimp -implicitDefEqProofs only [hw, go_sem, ↓reduceIte, reduceCtorEq, rn1, rn2, rn3, rn4, rn5, rn6, rn7, ri1, ri2, ri3, ri4, ri5]
        · have hil : i = k.R.length := by omega
          subst hil
          have hb : (k.R.all fun r => r.K == k.K) = true := all_get fun j c hj hc => by simpa using hok j c (by omega) hc
          rw [hb]
      · unfold mayB; rw [ht]; simp
    · have hv : mayB k = false := by unfold mayB; rw [hk]; simp
      rw [hv]
theorem rccheck_ok (L : List Kp) (hl : L.length ≤ 1000000) (hr : ∀ k ∈ L, k.R.length ≤ 1000000) : Meets Tryz.prog 77 [cacheA L] (rOne (vI (chkC L))) := by
  refine meets Tryz.func77 rfl rfl Tryz.ntmps77 Tryz.results77 rfl ?_
  simp -dsimp -implicitDefEqProofs only [go_sem, ↓reduceIte, reduceCtorEq, rn1, rn2, rn3, rn4, rn5, rn6, rn7, ri1, ri2, ri3, ri4, ri5]
  refine ⟨fun h => ?_, fun h => ?_⟩
  · unfold chkC; rw [if_pos (by omega)]
  · refine vfor sitOk (ι := RsInv oQ mayB L) (fun v => ⟨41, [(3, aI v.i), (1, aP 0 0)], [(0, some (.var [cD (kpsD L)] true))], 100⟩) (fun v => L.length - v.i) ⟨0, by omega, fun j hj => by omega⟩ ?_ ?_
    · simp -dsimp -implicitDefEqProofs only [go_sem, ↓reduceIte, reduceCtorEq, rn1, rn2, rn3, rn4, rn5, rn6, rn7, ri1, ri2, ri3, ri4, ri5]
    intro ⟨i, hi, hok⟩
    simp -dsimp -implicitDefEqProofs only [go_sem, ↓reduceIte, reduceCtorEq, rn1, rn2, rn3, rn4, rn5, rn6, rn7, ri1, ri2, ri3, ri4, ri5]
    refine ⟨fun hlt => ?_, fun hge => ?_⟩
    · have hil : i < L.length := by omega
      obtain ⟨x, hx⟩ : ∃ x, L[i]? = some x := ⟨_, List.getElem?_eq_getElem hil⟩
      have hw := wrapS hil (by omega)
      have hxl := hr x (List.mem_of_getElem? hx)
      have bad : risesAt oQ mayB L i = false → 1 = chkC L := fun h2 => by
        unfold chkC cacheOk; rw [if_neg (by omega), rises_bad hil h2]; rfl
      by_cases h0 : i = 0
      · have hat : risesAt oQ mayB L i = mayB x := by subst h0; exact rises_at0 _ _ hx
        have hzz : ¬ (0 : Int) < (i : Int) := by omega
        simp -dsimp -implicitDefEqProofs only [hx, forall_eq', hw, hzz, go_sem, ↓reduceIte, reduceCtorEq, rn1, rn2, rn3, rn4, rn5, rn6, rn7, ri1, ri2, ri3, ri4, ri5]
        refine ⟨by omega, hil, callP (rmay_ok x hxl) ?_⟩
        simp -dsimp -implicitDefEqProofs only [hx, forall_eq', hw, hzz, go_sem, ↓reduceIte, reduceCtorEq, rn1, rn2, rn3, rn4, rn5, rn6, rn7, ri1, ri2, ri3, ri4, ri5]
        refine ⟨fun hm => ⟨drawn (by kernel_rfl), again ⟨i + 1, by omega, next_at hok (by rw [hat, hm])⟩ (by simp; omega) ?_⟩, fun hm => ⟨drawn (by kernel_rfl), bad (by rw [hat, hm])⟩⟩
        simp -dsimp -implicitDefEqProofs only [hw, go_sem, ↓reduceIte, reduceCtorEq, rn1, rn2, rn3, rn4, rn5, rn6, rn7, ri1, ri2, ri3, ri4, ri5]
      · obtain ⟨p, hp⟩ : ∃ p, L[i - 1]? = some p := ⟨_, List.getElem?_eq_getElem (by omega)⟩
        have hat : risesAt oQ mayB L i = (mayB x && decide (koQ.cmp (kQ p) (kQ x) < 0)) := by
          obtain ⟨k, rfl⟩ : ∃ k, i = k + 1 := ⟨i - 1, by omega⟩
          exact rises_atS _ _ hx hp
        have hw2 : IntKind.i64.wrap ((i : Int) - 1) = ((i - 1 : Nat) : Int) := by rw [wrap64] <;> omega
        have hzz : (0 : Int) < (i : Int) := by omega
        simp -dsimp -implicitDefEqProofs only [hx, forall_eq', hw, hzz, hw2, hp, go_sem, ↓reduceIte, reduceCtorEq, rn1, rn2, rn3, rn4, rn5, rn6, rn7, ri1, ri2, ri3, ri4, ri5]
        refine ⟨by omega, hil, callP (rmay_ok x hxl) ?_⟩
        simp -dsimp -implicitDefEqProofs only [hx, forall_eq', hw, hzz, hw2, hp, go_sem, ↓reduceIte, reduceCtorEq, rn1, rn2, rn3, rn4, rn5, rn6, rn7, ri1, ri2, ri3, ri4, ri5]
        refine ⟨fun hm => ⟨by omega, by omega, by omega, by omega, callP (rahead14_ok p x) ?_⟩, fun hm => ⟨drawn (by kernel_rfl), bad (by rw [hat, hm]; rfl)⟩⟩
        simp -dsimp -implicitDefEqProofs only [hw, go_sem, ↓reduceIte, reduceCtorEq, rn1, rn2, rn3, rn4, rn5, rn6, rn7, ri1, ri2, ri3, ri4, ri5]
        refine ⟨drawn (by kernel_rfl), fun h2 => ?_, fun h2 => ?_⟩
        · exact bad (by rw [hat, hm, decide_eq_false (by omega)]; rfl)
        · refine again ⟨i + 1, by omega, next_at hok (by rw [hat, hm, decide_eq_true (by omega)]; rfl)⟩ (by simp; omega) ?_
          simp -dsimp -implicitDefEqProofs only [hw, go_sem, ↓reduceIte, reduceCtorEq, rn1, rn2, rn3, rn4, rn5, rn6, rn7, ri1, ri2, ri3, ri4, ri5]
    · have hil : i = L.length := by omega
      subst hil
      unfold chkC cacheOk
      rw [if_neg (by omega), risesB_true hok]
      rfl
end Go.Proofs.YtolpobgfcokoaaaGreatDoor
namespace Go.Proofs.YtolpobgfcokoaaaGreatDoor
open Go.Eng
set_option linter.unusedSimpArgs false
set_option maxRecDepth 10000

theorem held_some {L : List Kp} (h0 : chkC L = 0) {x : Kp} (hx : x ∈ L) {now : Int} (hu : now < x.U) : heldV L now x.N x.K = some x.R := by
  obtain ⟨_, _, hri⟩ := chkC_iff.1 h0
  have hf : kpF L x.N x.K = some x := (find_iff hri).2 ⟨hx, rfl⟩
  unfold heldV
  rw [if_pos h0, hf]
  exact if_pos hu
theorem held_none {L : List Kp} (h0 : chkC L = 0) {now : Int} {name : Bs} {k : Int} (h : ∀ x ∈ L, ¬ (x.N = name ∧ x.K = k ∧ now < x.U)) : heldV L now name k = none := by
  obtain ⟨_, _, hri⟩ := chkC_iff.1 h0
  unfold heldV
  rw [if_pos h0]
  cases hf : kpF L name k with
  | none => rfl
  | some x =>
    have hx := (find_iff hri).1 hf
    have h1 := congrArg Prod.fst hx.2
    have h2 := congrArg Prod.snd hx.2
    exact if_neg fun hu => h x hx.1 ⟨h1, h2, hu⟩
structure HdInv (L : List Kp) (now : Int) (name : Bs) (k : Int) where
  i : Nat
  le : i ≤ L.length
  no : ∀ j x, j < i → L[j]? = some x → ¬ (x.N = name ∧ x.K = k ∧ now < x.U)
set_option maxHeartbeats 4000000 in
theorem rheld_ok (L : List Kp) (hl : L.length ≤ 1000000) (hr : ∀ k ∈ L, k.R.length ≤ 1000000) (now : Int) (name : Bs) (k : Int) : Meets Tryz.prog 82 [cacheA L, (false, [vI now]), (false, [vS name]), (false, [vI k])]
    (rTup [(false, [.own 4 52 ((heldR (heldV L now name k)).map Rec.cells)]), (false, [vB (heldV L now name k).isSome])]) := by
  refine meets Tryz.func82 rfl rfl Tryz.ntmps82 Tryz.results82 rfl ?_
  simp -dsimp -implicitDefEqProofs only [go_sem, ↓reduceIte, reduceCtorEq, rn1, rn2, rn3, rn4, rn5, rn6, rn7, ri1, ri2, ri3, ri4, ri5]
  refine callP (rccheck_ok L hl hr) ?_
  by_cases h0 : chkC L = 0
  · simp -dsimp -implicitDefEqProofs only [h0, go_sem, ↓reduceIte, reduceCtorEq, rn1, rn2, rn3, rn4, rn5, rn6, rn7, ri1, ri2, ri3, ri4, ri5]
    refine vfor sitOk (ι := HdInv L now name k) (fun v => ⟨57, [(10, aI v.i), (4, aP 0 0), (1, aI now), (2, aS name), (3, aI k)], [(0, some (.var [cD (kpsD L)] true))], 100⟩) (fun v => L.length - v.i) ⟨0, by omega, fun j x hj => by omega⟩ ?_ ?_
    · simp -dsimp -implicitDefEqProofs only [go_sem, ↓reduceIte, reduceCtorEq, rn1, rn2, rn3, rn4, rn5, rn6, rn7, ri1, ri2, ri3, ri4, ri5]
    intro ⟨i, hi, hno⟩
    simp -dsimp -implicitDefEqProofs only [go_sem, ↓reduceIte, reduceCtorEq, rn1, rn2, rn3, rn4, rn5, rn6, rn7, ri1, ri2, ri3, ri4, ri5]
    refine ⟨fun hlt => ?_, fun hge => ?_⟩
    · have hil : i < L.length := by omega
      obtain ⟨x, hx⟩ : ∃ x, L[i]? = some x := ⟨_, List.getElem?_eq_getElem hil⟩
      have hw := wrapS hil (by omega)
      have hxl := hr x (List.mem_of_getElem? hx)
      have hgo : ¬ (x.N = name ∧ x.K = k ∧ now < x.U) → ∀ j y, j < i + 1 → L[j]? = some y → ¬ (y.N = name ∧ y.K = k ∧ now < y.U) := fun h j y hj hy => by
        by_cases hji : j = i
        · subst hji; rw [hx] at hy; cases hy; exact h
        · exact hno j y (by omega) hy
      by_cases hm : x.N = name ∧ x.K = k ∧ now < x.U
      · obtain ⟨h1, h2, h3⟩ := hm
        subst h1; subst h2
        rw [held_some h0 (List.mem_of_getElem? hx) h3]
        simp -dsimp -implicitDefEqProofs only [hx, forall_eq', hw, h3, go_sem, ↓reduceIte, reduceCtorEq, rn1, rn2, rn3, rn4, rn5, rn6, rn7, ri1, ri2, ri3, ri4, ri5]
        exact ⟨by omega, hil, by omega, hil, by omega, hil, ⟨by omega, hil, ⟨by omega, by omega⟩, rfl⟩, fun h => by omega⟩
      · have hgo := hgo hm
        simp -dsimp -implicitDefEqProofs only [hx, forall_eq', hw, go_sem, ↓reduceIte, reduceCtorEq, rn1, rn2, rn3, rn4, rn5, rn6, rn7, ri1, ri2, ri3, ri4, ri5]
        refine ⟨by omega, hil, fun h1 => ⟨by omega, hil, fun h2 => ⟨by omega, hil, fun h3 => absurd ⟨h1, h2, h3⟩ hm, fun h3 => ?_⟩, fun h2 => ?_⟩, fun h1 => ?_⟩
        all_goals
          refine again ⟨i + 1, by omega, hgo⟩ (by simp; omega) ?_
          simp -dsimp -implicitDefEqProofs only [hw, go_sem, ↓reduceIte, reduceCtorEq, rn1, rn2, rn3, rn4, rn5, rn6, rn7, ri1, ri2, ri3, ri4, ri5]
    · have hil : i = L.length := by omega
      subst hil
      rw [held_none h0 fun x hx => by
        obtain ⟨j, hj⟩ := List.mem_iff_getElem?.1 hx
        exact hno j x (List.getElem?_eq_some_iff.1 hj).1 hj]
      exact ⟨rfl, rfl⟩
  · have hv : heldV L now name k = none := by unfold heldV; rw [if_neg h0]
    rw [hv]
    simp -dsimp -implicitDefEqProofs only [h0, go_sem, ↓reduceIte, reduceCtorEq, rn1, rn2, rn3, rn4, rn5, rn6, rn7, ri1, ri2, ri3, ri4, ri5]
    rfl
theorem rcopied_ok (k : Kp) (hl : k.R.length ≤ 1000000) : Meets Tryz.prog 126 [k.arg] (rAgg [vS k.N, vI k.K, vD (recsD k.R), vI k.U]) := by
  refine meetsF Tryz.func126 rfl rfl Tryz.ntmps126 Tryz.results126 rfl ?_
  simp -dsimp -implicitDefEqProofs only [go_sem, ↓reduceIte, reduceCtorEq, rn1, rn2, rn3, rn4, rn5, rn6, rn7, ri1, ri2, ri3, ri4, ri5]
  refine ⟨⟨by omega, by omega⟩, retF [40] ?_⟩
  simp -dsimp -implicitDefEqProofs only [go_sem, ↓reduceIte, reduceCtorEq, rn1, rn2, rn3, rn4, rn5, rn6, rn7, ri1, ri2, ri3, ri4, ri5]
theorem rtrim_ok (L : List Kp) (hl : L.length ≤ 1000000) (hr : ∀ k ∈ L, k.R.length ≤ 1000000) (now : Int) : Meets Tryz.prog 85 [cacheA L, (false, [vI now])] (rAgg [.own 4 79 ((trimL L now).map Kp.cells)]) := by
  refine meets Tryz.func85 rfl rfl Tryz.ntmps85 Tryz.results85 rfl ?_
  simp -dsimp -implicitDefEqProofs only [go_sem, ↓reduceIte, reduceCtorEq, rn1, rn2, rn3, rn4, rn5, rn6, rn7, ri1, ri2, ri3, ri4, ri5]
  refine callP (rccheck_ok L hl hr) ?_
  by_cases h0 : chkC L = 0
  · have ht : trimL L now = L.filter fun k => decide (now < k.U) := by unfold trimL; rw [if_pos h0]
    rw [ht]
    simp -dsimp -implicitDefEqProofs only [h0, go_sem, ↓reduceIte, reduceCtorEq, rn1, rn2, rn3, rn4, rn5, rn6, rn7, ri1, ri2, ri3, ri4, ri5]
    refine vown 16 0 79 rfl ?_
    simp -dsimp -implicitDefEqProofs only [go_sem, ↓reduceIte, reduceCtorEq, rn1, rn2, rn3, rn4, rn5, rn6, rn7, ri1, ri2, ri3, ri4, ri5]
    refine vforR sitOk [(400, 56)] (ι := TrInv L) (fun v => ⟨38, [(6, aI v.i), (5, aP 16 0), (4, aP 8 0), (2, aP 0 0), (1, aI now)], [(400, some (.row 4 79 (((L.take v.i).filter fun k => decide (now < k.U)).map Kp.cells) true)), (16, some (.var [.own 400] true)), (8, some (.var [.nils 4] true)), (0, some (.var [cD (kpsD L)] true))], 401⟩) (fun v => L.length - v.i) ⟨0, by omega⟩ ?_ ?_
    · simp -dsimp -implicitDefEqProofs only [go_sem, ↓reduceIte, reduceCtorEq, rn1, rn2, rn3, rn4, rn5, rn6, rn7, ri1, ri2, ri3, ri4, ri5]
      rfl
    intro ⟨i, hi⟩
    have hfl : ((L.take i).filter fun k => decide (now < k.U)).length ≤ i := Nat.le_trans (List.length_filter_le _ _) (by simp; omega)
    simp -dsimp -implicitDefEqProofs only [go_sem, ↓reduceIte, reduceCtorEq, rn1, rn2, rn3, rn4, rn5, rn6, rn7, ri1, ri2, ri3, ri4, ri5]
    refine ⟨fun hlt => ?_, fun hge => ?_⟩
    · have hil : i < L.length := by omega
      obtain ⟨x, hx⟩ : ∃ x, L[i]? = some x := ⟨_, List.getElem?_eq_getElem hil⟩
      have hw := wrapS hil (by omega)
      have hxl := hr x (List.mem_of_getElem? hx)
      have hst : (L.take (i + 1)).filter (fun k => decide (now < k.U)) = (L.take i).filter (fun k => decide (now < k.U)) ++ if now < x.U then [x] else [] := by
        rw [List.take_add_one, hx, List.filter_append]
        congr 1
        by_cases h : now < x.U <;> simp [h]
      have hput : ((L.take i).filter fun k => decide (now < k.U)).map Kp.cells ++ [[dT x.N, dI x.K, recsD x.R, dI x.U]] = ((L.take i).filter (fun k => decide (now < k.U)) ++ [x]).map Kp.cells := by simp [Kp.cells]
      simp -dsimp -implicitDefEqProofs only [hx, forall_eq', hw, go_sem, ↓reduceIte, reduceCtorEq, rn1, rn2, rn3, rn4, rn5, rn6, rn7, ri1, ri2, ri3, ri4, ri5]
      refine ⟨by omega, hil, fun hu => ⟨by omega, hil, ?_⟩, fun hu => ?_⟩
      · rw [if_pos hu] at hst
        refine callP (rcopied_ok x hxl) ?_
        simp -dsimp -implicitDefEqProofs only [go_sem, ↓reduceIte, reduceCtorEq, rn1, rn2, rn3, rn4, rn5, rn6, rn7, ri1, ri2, ri3, ri4, ri5]
        refine ⟨⟨by omega, by omega⟩, drawn (by kernel_rfl), againO 400 16 0 ⟨i + 1, by omega⟩ (by simp; omega) ?_⟩
        simp -dsimp -implicitDefEqProofs only [hw, hst, hput, go_sem, ↓reduceIte, reduceCtorEq, rn1, rn2, rn3, rn4, rn5, rn6, rn7, ri1, ri2, ri3, ri4, ri5]
      · rw [if_neg (by omega), List.append_nil] at hst
        refine againO 400 16 0 ⟨i + 1, by omega⟩ (by simp; omega) ?_
        simp -dsimp -implicitDefEqProofs only [hw, hst, go_sem, ↓reduceIte, reduceCtorEq, rn1, rn2, rn3, rn4, rn5, rn6, rn7, ri1, ri2, ri3, ri4, ri5]
    · have hil : i = L.length := by omega
      subst hil
      rw [List.take_length]
  · have ht : trimL L now = [] := by unfold trimL; rw [if_neg h0]
    rw [ht]
    simp -dsimp -implicitDefEqProofs only [h0, go_sem, ↓reduceIte, reduceCtorEq, rn1, rn2, rn3, rn4, rn5, rn6, rn7, ri1, ri2, ri3, ri4, ri5]
end Go.Proofs.YtolpobgfcokoaaaGreatDoor
namespace Go.Proofs.YtolpobgfcokoaaaGreatDoor
open Go.Eng
set_option linter.unusedSimpArgs false
set_option maxRecDepth 10000

structure RqInv (n : Nt) (seen k : Int) (w : Wy) where
  i : Nat
  addr : Int
  name : Bs
  life : Int
  le : i ≤ 12
  eq : w = askG n seen k (12 - i) addr name life
set_option maxHeartbeats 4000000 in
theorem rasked_ok (n : Nt) (hz : Sz n) (seen : Int) (name : Bs) (k : Int) : Meets Tryz.prog 83 [n.arg, (false, [vI seen]), (false, [vS name]), (false, [vI k])]
    (rAgg [vD (recsD (wayV n seen name k).L), vI (wayV n seen name k).F, vI (wayV n seen name k).E]) := by
  refine meets Tryz.func83 rfl rfl Tryz.ntmps83 Tryz.results83 rfl ?_
  simp -dsimp -implicitDefEqProofs only [go_sem, ↓reduceIte, reduceCtorEq, rn1, rn2, rn3, rn4, rn5, rn6, rn7, ri1, ri2, ri3, ri4, ri5]
  refine vfor sitOk (ι := RqInv n seen k (wayV n seen name k)) (fun v => ⟨91, [(11, aI v.i), (10, aI v.life), (9, aI v.addr), (8, aP 8 0), (4, aP 0 0), (1, aI seen), (2, aS v.name), (3, aI k)], [(8, some (.var [.nils 4, cI 0, cI 0] true)), (0, some (.var [cD (svsD n.V), cI n.N, cD (bnsD n.B), cD (cksD n.C)] true))], 200⟩) (fun v => 12 - v.i) ⟨0, 0, name, 1000, by omega, rfl⟩ ?_ ?_
  · simp -dsimp -implicitDefEqProofs only [go_sem, ↓reduceIte, reduceCtorEq, rn1, rn2, rn3, rn4, rn5, rn6, rn7, ri1, ri2, ri3, ri4, ri5]
  intro ⟨i, addr, nm, life, hi, heq⟩
  simp -dsimp -implicitDefEqProofs only [go_sem, ↓reduceIte, reduceCtorEq, rn1, rn2, rn3, rn4, rn5, rn6, rn7, ri1, ri2, ri3, ri4, ri5]
  refine ⟨fun hlt => ?_, fun hge => ?_⟩
  · have hil : i < 12 := by omega
    have hw : IntKind.i64.wrap ((i : Int) + 1) = ((i + 1 : Nat) : Int) := by rw [wrap64] <;> omega
    obtain ⟨f, hf⟩ : ∃ f, 12 - i = f + 1 := ⟨12 - i - 1, by omega⟩
    rw [hf] at heq
    have hf2 : 12 - (i + 1) = f := by omega
    have hsl := srvS_len hz seen addr
    refine callP (rsrv_ok n hz seen addr) ?_
    simp -dsimp -implicitDefEqProofs only [go_sem, ↓reduceIte, reduceCtorEq, rn1, rn2, rn3, rn4, rn5, rn6, rn7, ri1, ri2, ri3, ri4, ri5]
    refine callP (rbest_ok _ nm (by omega) (fun z h => by have := hsl.2 z h; omega)) ?_
    cases hb : srvB n seen addr with
    | false =>
      have hlost : wayV n seen name k = lostW := by
        rw [heq]; unfold askG stepA; rw [hb]; rfl
      simp -dsimp -implicitDefEqProofs only [hb, go_sem, ↓reduceIte, reduceCtorEq, rn1, rn2, rn3, rn4, rn5, rn6, rn7, ri1, ri2, ri3, ri4, ri5]
      rw [hlost]
      exact ⟨rfl, rfl, rfl⟩
    | true =>
      cases hv : bestV (srvS n seen addr).Z nm with
      | none =>
        have hlost : wayV n seen name k = lostW := by
          rw [heq]; unfold askG stepA; rw [hb, hv]; rfl
        simp -dsimp -implicitDefEqProofs only [hb, hv, go_sem, ↓reduceIte, reduceCtorEq, rn1, rn2, rn3, rn4, rn5, rn6, rn7, ri1, ri2, ri3, ri4, ri5]
        rw [hlost]
        exact ⟨rfl, rfl, rfl⟩
      | some j =>
        have hj : j < (srvS n seen addr).Z.length := by
          unfold bestV at hv
          split at hv
          · exact (bestAt_lt hv).2
          · cases hv
        obtain ⟨z, hzj⟩ : ∃ z, (srvS n seen addr).Z[j]? = some z := ⟨_, List.getElem?_eq_getElem hj⟩
        have hzl := hsl.2 z (List.mem_of_getElem? hzj)
        simp -dsimp -implicitDefEqProofs only [hb, hv, optN, hzj, forall_eq', go_sem, ↓reduceIte, reduceCtorEq, rn1, rn2, rn3, rn4, rn5, rn6, rn7, ri1, ri2, ri3, ri4, ri5]
        refine ⟨by omega, hj, ?_⟩
        refine callP (rask_ok z.A z.R nm k (by omega)) ?_
        by_cases he : askE z.A z.R nm k = 0
        · have hst : stepA n seen k addr nm = some (askV z.A z.R nm k) := by
            unfold stepA; rw [hb, if_pos rfl, hv]; simp only [hzj]; rw [if_pos he]
          have heq2 : wayV n seen name k = if (askV z.A z.R nm k).K = 4 then askG n seen k f (askV z.A z.R nm k).T nm (leastL life (askV z.A z.R nm k).R)
              else if (askV z.A z.R nm k).K = 5 then askG n seen k f 0 (askV z.A z.R nm k).A (leastL life (askV z.A z.R nm k).R)
              else if (askV z.A z.R nm k).K = 1 then ⟨(askV z.A z.R nm k).R, leastL life (askV z.A z.R nm k).R, 0⟩ else ⟨[], 10, 131⟩ := by
            rw [heq]
            conv => lhs; unfold askG
            rw [hst]
          have hrl : (askV z.A z.R nm k).R.length ≤ 1000000 := by
            unfold askV
            rw [if_pos he]
            have hsub : (askW z.A z.R nm k).R.length ≤ 1000 := by
              unfold askW
              split
              · simp
              · split
                · exact Nat.le_trans (Nat.le_trans (List.length_filter_le _ _) (List.length_filter_le _ _)) hzl
                · split
                  · exact Nat.le_trans (Nat.le_trans (List.length_filter_le _ _) (List.length_filter_le _ _)) hzl
                  · split <;> simp
            omega
          generalize askV z.A z.R nm k = A at *
          simp -dsimp -implicitDefEqProofs only [he, go_sem, ↓reduceIte, reduceCtorEq, rn1, rn2, rn3, rn4, rn5, rn6, rn7, ri1, ri2, ri3, ri4, ri5]
          refine vfor sitOk (ι := LlInv A.R) (fun v => ⟨91, [(18, aI v.i), (16, aP 504 0), (11, aI i), (10, aI (leastL life (A.R.take v.i))), (9, aI addr), (8, aP 8 0), (4, aP 0 0), (1, aI seen), (2, aS nm), (3, aI k)], [(504, some (.var [cI A.K, cD (recsD A.R), cI A.T, cS A.A] true)), (8, some (.var [.nils 4, cI 0, cI 0] true)), (0, some (.var [cD (svsD n.V), cI n.N, cD (bnsD n.B), cD (cksD n.C)] true))], 600⟩) (fun v => A.R.length - v.i) ⟨0, by omega⟩ ?_ ?_
          · simp -dsimp -implicitDefEqProofs only [go_sem, ↓reduceIte, reduceCtorEq, rn1, rn2, rn3, rn4, rn5, rn6, rn7, ri1, ri2, ri3, ri4, ri5]
            rfl
          intro ⟨m, hm⟩
          simp -dsimp -implicitDefEqProofs only [go_sem, ↓reduceIte, reduceCtorEq, rn1, rn2, rn3, rn4, rn5, rn6, rn7, ri1, ri2, ri3, ri4, ri5]
          refine ⟨fun hlt2 => ?_, fun hge2 => ?_⟩
          · have hml : m < A.R.length := by omega
            obtain ⟨x, hx⟩ : ∃ x, A.R[m]? = some x := ⟨_, List.getElem?_eq_getElem hml⟩
            have hwm := wrapS hml (by omega)
            have hstp := leastL_step life hx
            simp -dsimp -implicitDefEqProofs only [hx, forall_eq', hwm, go_sem, ↓reduceIte, reduceCtorEq, rn1, rn2, rn3, rn4, rn5, rn6, rn7, ri1, ri2, ri3, ri4, ri5]
            refine ⟨by omega, hml, again ⟨m + 1, by omega⟩ (by simp; omega) ?_⟩
            simp -dsimp -implicitDefEqProofs only [hwm, hstp, go_sem, ↓reduceIte, reduceCtorEq, rn1, rn2, rn3, rn4, rn5, rn6, rn7, ri1, ri2, ri3, ri4, ri5]
            split <;> omega
          · have hml : m = A.R.length := by omega
            subst hml
            rw [List.take_length]
            by_cases h1 : A.K = 1
            · have h4 : ¬ A.K = 4 := by omega
              have h5 : ¬ A.K = 5 := by omega
              rw [if_neg h4, if_neg h5, if_pos h1] at heq2
              simp -dsimp -implicitDefEqProofs only [h1, go_sem, ↓reduceIte, reduceCtorEq, rn1, rn2, rn3, rn4, rn5, rn6, rn7, ri1, ri2, ri3, ri4, ri5]
              rw [heq2]
              exact ⟨rfl, rfl, rfl⟩
            · by_cases h4 : A.K = 4
              · rw [if_pos h4] at heq2
                simp -dsimp -implicitDefEqProofs only [h1, h4, go_sem, ↓reduceIte, reduceCtorEq, rn1, rn2, rn3, rn4, rn5, rn6, rn7, ri1, ri2, ri3, ri4, ri5]
                refine again ⟨i + 1, A.T, nm, leastL life A.R, by omega, by rw [hf2]; exact heq2⟩ (by simp; omega) ?_
                simp -dsimp -implicitDefEqProofs only [hw, go_sem, ↓reduceIte, reduceCtorEq, rn1, rn2, rn3, rn4, rn5, rn6, rn7, ri1, ri2, ri3, ri4, ri5]
              · rw [if_neg h4] at heq2
                by_cases h5 : A.K = 5
                · rw [if_pos h5] at heq2
                  simp -dsimp -implicitDefEqProofs only [h1, h4, h5, go_sem, ↓reduceIte, reduceCtorEq, rn1, rn2, rn3, rn4, rn5, rn6, rn7, ri1, ri2, ri3, ri4, ri5]
                  refine again ⟨i + 1, 0, A.A, leastL life A.R, by omega, by rw [hf2]; exact heq2⟩ (by simp; omega) ?_
                  simp -dsimp -implicitDefEqProofs only [hw, go_sem, ↓reduceIte, reduceCtorEq, rn1, rn2, rn3, rn4, rn5, rn6, rn7, ri1, ri2, ri3, ri4, ri5]
                · rw [if_neg h5, if_neg h1] at heq2
                  simp -dsimp -implicitDefEqProofs only [h1, h4, h5, go_sem, ↓reduceIte, reduceCtorEq, rn1, rn2, rn3, rn4, rn5, rn6, rn7, ri1, ri2, ri3, ri4, ri5]
                  rw [heq2]
                  exact ⟨rfl, rfl, rfl⟩
        · have hlost : wayV n seen name k = lostW := by
            rw [heq]; unfold askG stepA; rw [hb, if_pos rfl, hv]; simp only [hzj]; rw [if_neg he]
          simp -dsimp -implicitDefEqProofs only [he, go_sem, ↓reduceIte, reduceCtorEq, rn1, rn2, rn3, rn4, rn5, rn6, rn7, ri1, ri2, ri3, ri4, ri5]
          rw [hlost]
          exact ⟨rfl, rfl, rfl⟩
  · have hil : i = 12 := by omega
    subst hil
    have hlost : wayV n seen name k = lostW := heq
    rw [hlost]
    exact ⟨rfl, rfl, rfl⟩
end Go.Proofs.YtolpobgfcokoaaaGreatDoor
