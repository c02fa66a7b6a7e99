/- ZoneAll: the law's contract. -/
import Derived.Test.YtfgejhlgenaniaaDoorK5
namespace Go.Proofs.YtfgejhlgenaniaaDoor
open Go.Eng
set_option linter.unusedSimpArgs false
set_option maxRecDepth 10000

theorem ask_bad {a : Bs} {l : List Rec} {n : Bs} {k : Int} (h : askE a l n k ≠ 0) : askV a l n k = ⟨0, [], 0, []⟩ := by
  unfold askV; rw [if_neg h]
theorem ask_found {a : Bs} {l : List Rec} {n : Bs} {k : Int} (h : askE a l n k = 0) (h1 : (askV a l n k).K = 1) : askV a l n k = ⟨1, ofL l n k, 0, []⟩ ∧ ofL l n k ≠ [] := by
  unfold askV at *
  rw [if_pos h] at *
  unfold askW at *
  split at h1
  · simp at h1
  · split at h1
    · simp at h1
    · rename_i h2
      rw [if_neg h2]
      split at h1
      · rename_i h3
        rw [if_pos h3]
        exact ⟨rfl, h3⟩
      · split at h1 <;> simp at h1
theorem ofL_at {l : List Rec} {i : Nat} {x : Rec} {n : Bs} {k : Int} (hx : l[i]? = some x) (h : x.N = n ∧ x.K = k) : (ofL l n k)[(ofL (l.take i) n k).length]? = some x := by
  have e : ofL l n k = ofL (l.take i) n k ++ (x :: ofL (l.drop (i + 1)) n k) := by
    unfold ofL
    rw [atB_split n hx, if_pos h.1, List.filter_append, List.filter_append, List.filter_cons, if_pos (by simp [h.2])]
    rfl
  rw [e, List.getElem?_append_right (Nat.le_refl _), Nat.sub_self]
  rfl
theorem zall_ok (a : Bs) (l : List Rec) (n : Bs) (k : Int) : Meets Tryd.prog 5 [zoneA a l, (false, [vS n]), (false, [vI k])] (rOne (vB true)) := by
  refine meets Tryd.func5 rfl rfl Tryd.ntmps5 Tryd.results5 rfl ?_
  simp -dsimp -implicitDefEqProofs only [go_sem, ↓reduceIte, reduceCtorEq, Nat.reduceLT, Nat.reduceLeDiff, Nat.reduceEqDiff, Nat.reduceAdd, Nat.reduceMul, Nat.reduceSub, Nat.reduceBEq, Int.reduceLT, Int.reduceLE, Int.reduceEq, Int.reduceBEq, Int.reduceNeg]
  refine callP live_ok ?_
  simp -dsimp -implicitDefEqProofs only [go_sem, ↓reduceIte, reduceCtorEq, Nat.reduceLT, Nat.reduceLeDiff, Nat.reduceEqDiff, Nat.reduceAdd, Nat.reduceMul, Nat.reduceSub, Nat.reduceBEq, Int.reduceLT, Int.reduceLE, Int.reduceEq, Int.reduceBEq, Int.reduceNeg]
  refine callP (few_ok a l) ?_
  simp -dsimp -implicitDefEqProofs only [go_sem, ↓reduceIte, reduceCtorEq, Nat.reduceLT, Nat.reduceLeDiff, Nat.reduceEqDiff, Nat.reduceAdd, Nat.reduceMul, Nat.reduceSub, Nat.reduceBEq, Int.reduceLT, Int.reduceLE, Int.reduceEq, Int.reduceBEq, Int.reduceNeg]
  intro hf hn
  refine callP (ask_ok a l n k (by omega)) ?_
  by_cases h0 : askE a l n k = 0
  · by_cases h1 : (askV a l n k).K = 1
    · obtain ⟨e1, hne⟩ := ask_found h0 h1
      rw [e1]
      simp -dsimp -implicitDefEqProofs only [h0, go_sem, ↓reduceIte, reduceCtorEq, Nat.reduceLT, Nat.reduceLeDiff, Nat.reduceEqDiff, Nat.reduceAdd, Nat.reduceMul, Nat.reduceSub, Nat.reduceBEq, Int.reduceLT, Int.reduceLE, Int.reduceEq, Int.reduceBEq, Int.reduceNeg]
      refine vfreeze 120 rfl (vfreeze 152 rfl ?_)
      simp -dsimp -implicitDefEqProofs only [go_sem, ↓reduceIte, reduceCtorEq, Nat.reduceLT, Nat.reduceLeDiff, Nat.reduceEqDiff, Nat.reduceAdd, Nat.reduceMul, Nat.reduceSub, Nat.reduceBEq, Int.reduceLT, Int.reduceLE, Int.reduceEq, Int.reduceBEq, Int.reduceNeg]
      refine vfor sitOk (ι := CwInv l) (fun v => ⟨112, [(10, aI v.i), (9, aI (ofL (l.take v.i) n k).length), (7, aP 152 0), (3, aP 0 0), (1, aS n), (2, aI k)], [(152, some (.var [cI 1, cD (recsD (ofL l n k)), cI 0, cS []] false)), (0, some (.var [cS a, cD (recsD l)] true))], 300⟩) (fun v => l.length - v.i) ⟨0, by omega⟩ ?_ ?_
      · simp -dsimp -implicitDefEqProofs only [go_sem, ↓reduceIte, reduceCtorEq, Nat.reduceLT, Nat.reduceLeDiff, Nat.reduceEqDiff, Nat.reduceAdd, Nat.reduceMul, Nat.reduceSub, Nat.reduceBEq, Int.reduceLT, Int.reduceLE, Int.reduceEq, Int.reduceBEq, Int.reduceNeg]
        rfl
      intro ⟨i, hi⟩
      simp -dsimp -implicitDefEqProofs only [go_sem, ↓reduceIte, reduceCtorEq, Nat.reduceLT, Nat.reduceLeDiff, Nat.reduceEqDiff, Nat.reduceAdd, Nat.reduceMul, Nat.reduceSub, Nat.reduceBEq, Int.reduceLT, Int.reduceLE, Int.reduceEq, Int.reduceBEq, Int.reduceNeg]
      refine ⟨fun hlt => ?_, fun hge => ?_⟩
      · have hil : i < l.length := by omega
        obtain ⟨x, hx⟩ : ∃ x, l[i]? = some x := ⟨_, List.getElem?_eq_getElem hil⟩
        have hst := ofL_step n k hx
        have hat := ofL_at (n := n) (k := k) hx
        have hw := wrapS hil (by omega)
        have hlen := ofL_len (l.take i) n k
        have htl : (l.take i).length ≤ l.length := by simp; omega
        have hw2 : IntKind.i64.wrap (((ofL (l.take i) n k).length : Int) + 1) = ((ofL (l.take i) n k).length : Int) + 1 := by rw [wrap64] <;> omega
        simp -dsimp -implicitDefEqProofs only [hx, forall_eq', hw, go_sem, ↓reduceIte, reduceCtorEq, Nat.reduceLT, Nat.reduceLeDiff, Nat.reduceEqDiff, Nat.reduceAdd, Nat.reduceMul, Nat.reduceSub, Nat.reduceBEq, Int.reduceLT, Int.reduceLE, Int.reduceEq, Int.reduceBEq, Int.reduceNeg]
        refine ⟨by omega, hil, fun hN => ⟨by omega, hil, fun hK => ?_, fun hK => ?_⟩, fun hN => ?_⟩
        · rw [if_neg (fun e => hK e.2), List.append_nil] at hst
          refine again ⟨i + 1, by omega⟩ (by simp; omega) ?_
          simp -dsimp -implicitDefEqProofs only [hw, hst, go_sem, ↓reduceIte, reduceCtorEq, Nat.reduceLT, Nat.reduceLeDiff, Nat.reduceEqDiff, Nat.reduceAdd, Nat.reduceMul, Nat.reduceSub, Nat.reduceBEq, Int.reduceLT, Int.reduceLE, Int.reduceEq, Int.reduceBEq, Int.reduceNeg]
        · rw [if_pos ⟨hN, hK⟩] at hst
          have hlt2 := (List.getElem?_eq_some_iff.1 (hat ⟨hN, hK⟩)).1
          refine ⟨fun _ => ⟨by omega, hlt2, fun y hy => ?_⟩, fun h => absurd hlt2 (by omega)⟩
          rw [hat ⟨hN, hK⟩] at hy
          cases hy
          refine ⟨by omega, hil, drawn (by kernel_rfl), fun h => absurd rfl (h rfl rfl rfl), fun _ => ?_⟩
          refine again ⟨i + 1, by omega⟩ (by simp; omega) ?_
          simp -dsimp -implicitDefEqProofs only [hw, hw2, hst, List.length_append, List.length_cons, List.length_nil, go_sem, ↓reduceIte, reduceCtorEq, Nat.reduceLT, Nat.reduceLeDiff, Nat.reduceEqDiff, Nat.reduceAdd, Nat.reduceMul, Nat.reduceSub, Nat.reduceBEq, Int.reduceLT, Int.reduceLE, Int.reduceEq, Int.reduceBEq, Int.reduceNeg]
          omega
        · rw [if_neg (fun e => hN e.1), List.append_nil] at hst
          refine again ⟨i + 1, by omega⟩ (by simp; omega) ?_
          simp -dsimp -implicitDefEqProofs only [hw, hst, go_sem, ↓reduceIte, reduceCtorEq, Nat.reduceLT, Nat.reduceLeDiff, Nat.reduceEqDiff, Nat.reduceAdd, Nat.reduceMul, Nat.reduceSub, Nat.reduceBEq, Int.reduceLT, Int.reduceLE, Int.reduceEq, Int.reduceBEq, Int.reduceNeg]
      · have hil : i = l.length := by omega
        subst hil
        rw [List.take_length] at *
        have hpos := List.length_pos_iff.2 hne
        simp -dsimp -implicitDefEqProofs only [go_sem, ↓reduceIte, reduceCtorEq, Nat.reduceLT, Nat.reduceLeDiff, Nat.reduceEqDiff, Nat.reduceAdd, Nat.reduceMul, Nat.reduceSub, Nat.reduceBEq, Int.reduceLT, Int.reduceLE, Int.reduceEq, Int.reduceBEq, Int.reduceNeg]
        omega
    · simp -dsimp -implicitDefEqProofs only [h0, h1, go_sem, ↓reduceIte, reduceCtorEq, Nat.reduceLT, Nat.reduceLeDiff, Nat.reduceEqDiff, Nat.reduceAdd, Nat.reduceMul, Nat.reduceSub, Nat.reduceBEq, Int.reduceLT, Int.reduceLE, Int.reduceEq, Int.reduceBEq, Int.reduceNeg]
  · rw [ask_bad h0]
    simp -dsimp -implicitDefEqProofs only [h0, go_sem, ↓reduceIte, reduceCtorEq, Nat.reduceLT, Nat.reduceLeDiff, Nat.reduceEqDiff, Nat.reduceAdd, Nat.reduceMul, Nat.reduceSub, Nat.reduceBEq, Int.reduceLT, Int.reduceLE, Int.reduceEq, Int.reduceBEq, Int.reduceNeg]
end Go.Proofs.YtfgejhlgenaniaaDoor
