/- A walk over bends. Who is redirected: integers sorted, each once. route.Bent; the document's. -/
import Derived.Test.YtbgcpopmippbiaaGreatDoorQF
import Derived.Test.YtbgcpopmippbiaaGreatDoorSrt
open Nat renaming reduceLT → rn1, reduceLeDiff → rn2, reduceEqDiff → rn3, reduceAdd → rn4, reduceMul → rn5, reduceSub → rn6, reduceBEq → rn7
open Int renaming reduceLT → ri1, reduceLE → ri2, reduceEq → ri3, reduceBEq → ri4, reduceNeg → ri5
namespace Go.Proofs.YtbgcpopmippbiaaGreatDoor
open Go.Eng
structure WoInv (l : List Bn) where
  i : Nat
  le : i ≤ l.length
end Go.Proofs.YtbgcpopmippbiaaGreatDoor
namespace Go.Proofs.YtbgcpopmippbiaaGreatDoor
open Go.Eng
set_option linter.unusedSimpArgs false
set_option maxRecDepth 10000

abbrev kI (x : Int) : Int := x
theorem mem_sortI {zs : List Int} {x : Int} : x ∈ sortI zs ↔ x ∈ zs := List.mem_mergeSort
theorem sortI_le (zs : List Int) : (sortI zs).Pairwise (fun a b => a ≤ b) := by
  have := List.pairwise_mergeSort (le := fun x y : Int => decide (x ≤ y)) (fun a b c h1 h2 => by simp at *; omega) (fun a b => by simp; omega) zs
  exact this.imp fun h => by simpa using h
/-- What Compact makes of integers that do not fall. -/
theorem compact_spec {zs : List Int} (hs : zs.Pairwise (fun a b => a ≤ b)) : ∀ m, m ≤ zs.length → Ris koI kI (Lib.compactUpTo zs.toArray m) ∧ (∀ x, x ∈ Lib.compactUpTo zs.toArray m ↔ x ∈ zs.take m) := by
  have hget : ∀ i (hi : i < zs.length), zs.toArray[i]! = zs[i] := fun i hi => by rw [getElem!_pos zs.toArray i (by simpa using hi)]; simp
  intro m
  induction m with
  | zero => intro _; exact ⟨by simp [Lib.compactUpTo, Ris], by simp [Lib.compactUpTo]⟩
  | succ m ih =>
    intro hm
    obtain ⟨h1, h2⟩ := ih (by omega)
    have htk : zs.take (m + 1) = zs.take m ++ [zs[m]] := by rw [List.take_add_one, List.getElem?_eq_getElem (by omega)]; rfl
    rw [Lib.compactUpTo_succ]
    cases hk : Lib.keeps zs.toArray m with
    | true =>
      simp only [if_true]
      rw [hget m (by omega)]
      refine ⟨ris_append.2 ⟨h1, ris_cons.2 ⟨by simp, List.Pairwise.nil⟩, fun x hx y hy => ?_⟩, fun x => ?_⟩
      · rw [List.mem_singleton] at hy
        subst hy
        have hxt := (h2 x).1 hx
        obtain ⟨i, hi⟩ := List.mem_iff_getElem?.1 hxt
        rw [List.getElem?_take] at hi
        split at hi
        · rename_i him
          obtain ⟨hi1, hi2⟩ := List.getElem?_eq_some_iff.1 hi
          have hne : zs[m] ≠ zs[m - 1] := by
            unfold Lib.keeps at hk
            rw [decide_eq_true_eq, hget m (by omega), hget (m - 1) (by omega)] at hk
            rcases hk with hk | hk
            · omega
            · exact hk
          have hle1 : zs[m - 1] ≤ zs[m] := List.pairwise_iff_getElem.1 hs (m - 1) m (by omega) (by omega) (by omega)
          have hle2 : x ≤ zs[m - 1] := by
            rcases Nat.lt_or_ge i (m - 1) with h | h
            · rw [← hi2]; exact List.pairwise_iff_getElem.1 hs i (m - 1) (by omega) (by omega) h
            · have : i = m - 1 := by omega
              subst this; omega
          show cmpI x zs[m] < 0
          rw [cmpI_lt]; omega
        · cases hi
      · rw [List.mem_append, htk, List.mem_append, h2]
    | false =>
      simp only [Bool.false_eq_true, if_false, List.append_nil]
      refine ⟨h1, fun x => ?_⟩
      have hm0 : ¬ m = 0 := by
        intro e
        unfold Lib.keeps at hk
        simp [e] at hk
      have he : zs[m] = zs[m - 1] := by
        unfold Lib.keeps at hk
        rw [decide_eq_false_iff_not, hget m (by omega), hget (m - 1) (by omega)] at hk
        exact Classical.byContradiction fun h => hk (.inr h)
      rw [h2, htk, List.mem_append, List.mem_singleton]
      constructor
      · exact .inl
      · rintro (h | h)
        · exact h
        · rw [h, he]
          refine List.mem_iff_getElem?.2 ⟨m - 1, ?_⟩
          rw [List.getElem?_take, if_pos (by omega), List.getElem?_eq_getElem]
/-- Integers, each once, as they rise. -/
def riseI (zs : List Int) : List Int := Lib.compact (sortI zs)
theorem riseI_ris (zs : List Int) : Ris koI kI (riseI zs) := (compact_spec (sortI_le zs) _ (by simp)).1
theorem mem_riseI {zs : List Int} {x : Int} : x ∈ riseI zs ↔ x ∈ zs := by
  unfold riseI Lib.compact
  rw [(compact_spec (sortI_le zs) _ (by simp)).2, List.take_of_length_le (by simp), mem_sortI]
theorem riseI_eq {zs l : List Int} (hr : Ris koI kI l) (h : ∀ x, x ∈ l ↔ x ∈ zs) : riseI zs = l := ris_ext (riseI_ris zs) hr fun x => by rw [mem_riseI, h]
def bentL (n : Nt) : List Int := riseI (n.B.map Bn.S)
end Go.Proofs.YtbgcpopmippbiaaGreatDoor
namespace Go.Proofs.YtbgcpopmippbiaaGreatDoor
open Go.Eng
set_option linter.unusedSimpArgs false
set_option maxRecDepth 10000

theorem bent_ok (n : Nt) (hl : n.B.length ≤ 1000000) : Meets Tryz.prog 13 [n.arg] (rOne (.own 1 3 ((bentL n).map rowI))) := by
  refine meets Tryz.func13 rfl rfl Tryz.ntmps13 Tryz.results13 rfl ?_
  simp -dsimp -implicitDefEqProofs only [go_sem, ↓reduceIte, reduceCtorEq, rn1, rn2, rn3, rn4, rn5, rn6, rn7, ri1, ri2, ri3, ri4, ri5]
  refine vownE 3 3 rfl ?_
  refine vforT sitOk 400 3 (ι := WoInv n.B) (fun v => ⟨23, [(9, aI v.i), (8, aI n.B.length), (7, aD (bnsD n.B)), (3, aO 400), (1, aP 0 0)], [(400, some (.row 1 3 (((n.B.take v.i).map Bn.S).map rowI) true)), (0, some (.var [cD (svsD n.V), cI n.N, cD (bnsD n.B), cD (cksD n.C)] true))], 401⟩) (fun v => n.B.length - v.i) ⟨0, by omega⟩ ?_ ?_
  · simp -dsimp -implicitDefEqProofs only [go_sem, ↓reduceIte, reduceCtorEq, rn1, rn2, rn3, rn4, rn5, rn6, rn7, ri1, ri2, ri3, ri4, ri5]
  intro ⟨i, hi⟩
  have htl : (n.B.take i).length = i := by simp; omega
  simp -dsimp -implicitDefEqProofs only [go_sem, ↓reduceIte, reduceCtorEq, rn1, rn2, rn3, rn4, rn5, rn6, rn7, ri1, ri2, ri3, ri4, ri5]
  refine ⟨fun hlt => ?_, fun hge => ?_⟩
  · have hil : i < n.B.length := by omega
    obtain ⟨x, hx⟩ : ∃ x, n.B[i]? = some x := ⟨_, List.getElem?_eq_getElem hil⟩
    have hw := wrapS hil (by omega)
    have hst : ((n.B.take i).map Bn.S).map rowI ++ [[dI x.S]] = ((n.B.take (i + 1)).map Bn.S).map rowI := by
      rw [List.take_add_one, hx]; simp [rowI]
    simp -dsimp -implicitDefEqProofs only [hx, forall_eq', hw, htl, List.length_map, go_sem, ↓reduceIte, reduceCtorEq, rn1, rn2, rn3, rn4, rn5, rn6, rn7, ri1, ri2, ri3, ri4, ri5]
    refine ⟨by omega, hil, by omega, againT 400 3 ⟨i + 1, by omega⟩ (by simp; omega) ?_⟩
    simp -dsimp -implicitDefEqProofs only [hw, hst, go_sem, ↓reduceIte, reduceCtorEq, rn1, rn2, rn3, rn4, rn5, rn6, rn7, ri1, ri2, ri3, ri4, ri5]
  · have hil : i = n.B.length := by omega
    subst hil
    rw [List.take_length] at *
    refine vsort (n.B.map Bn.S) (by simp; omega) rfl rfl ?_
    simp -dsimp -implicitDefEqProofs only [go_sem, ↓reduceIte, reduceCtorEq, rn1, rn2, rn3, rn4, rn5, rn6, rn7, ri1, ri2, ri3, ri4, ri5]
    refine callE [true] ?_
    simp -dsimp -implicitDefEqProofs only [go_sem, ↓reduceIte, reduceCtorEq, rn1, rn2, rn3, rn4, rn5, rn6, rn7, ri1, ri2, ri3, ri4, ri5]
    refine ⟨_, compact_ok (sortI (n.B.map Bn.S)) (by rw [sortI_len]; simp; omega), ?_⟩
    simp -dsimp -implicitDefEqProofs only [go_sem, ↓reduceIte, reduceCtorEq, rn1, rn2, rn3, rn4, rn5, rn6, rn7, ri1, ri2, ri3, ri4, ri5]
    rfl
end Go.Proofs.YtbgcpopmippbiaaGreatDoor
