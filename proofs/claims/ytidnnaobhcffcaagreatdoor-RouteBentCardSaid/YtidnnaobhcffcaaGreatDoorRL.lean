
/- Who is redirected: integers sorted, each once. route.Bent; the document's. RouteLooks, RouteBent: the laws' contracts. -/
import Derived.Test.YtidnnaobhcffcaaGreatDoorRK
import Derived.Test.YtidnnaobhcffcaaGreatDoorSrt
namespace Go.Proofs.YtidnnaobhcffcaaGreatDoor
open Go.Eng
set_option linter.unusedSimpArgs false
set_option maxRecDepth 10000

abbrev kI (x : Int) : Int := x
theorem mem_sortI {zs : List Int} {x : Int} : x ∈ sortI zs ↔ x ∈ zs := List.mem_mergeSort
theorem sortI_le (zs : List Int) : (sortI zs).Pairwise (fun a b => a ≤ b) := by
  have := List.pairwise_mergeSort (le := fun x y : Int => decide (x ≤ y)) (fun a b c h1 h2 => by simp at *; omega) (fun a b => by simp; omega) zs
  exact this.imp fun h => by simpa using h
/-- What Compact makes of integers that do not fall. -/
theorem compact_spec {zs : List Int} (hs : zs.Pairwise (fun a b => a ≤ b)) : ∀ m, m ≤ zs.length → Ris koI kI (Lib.compactUpTo zs.toArray m) ∧ (∀ x, x ∈ Lib.compactUpTo zs.toArray m ↔ x ∈ zs.take m) := by
  have hget : ∀ i (hi : i < zs.length), zs.toArray[i]! = zs[i] := fun i hi => by rw [getElem!_pos zs.toArray i (by simpa using hi)]; simp
  intro m
  induction m with
  | zero => intro _; exact ⟨by simp [Lib.compactUpTo, Ris], by simp [Lib.compactUpTo]⟩
  | succ m ih =>
    intro hm
    obtain ⟨h1, h2⟩ := ih (by omega)
    have htk : zs.take (m + 1) = zs.take m ++ [zs[m]] := by rw [List.take_add_one, List.getElem?_eq_getElem (by omega)]; rfl
    rw [Lib.compactUpTo_succ]
    cases hk : Lib.keeps zs.toArray m with
    | true =>
      simp only [if_true]
      rw [hget m (by omega)]
      refine ⟨ris_append.2 ⟨h1, ris_cons.2 ⟨by simp, List.Pairwise.nil⟩, fun x hx y hy => ?_⟩, fun x => ?_⟩
      · rw [List.mem_singleton] at hy
        subst hy
        have hxt := (h2 x).1 hx
        obtain ⟨i, hi⟩ := List.mem_iff_getElem?.1 hxt
        rw [List.getElem?_take] at hi
        split at hi
        · rename_i him
          obtain ⟨hi1, hi2⟩ := List.getElem?_eq_some_iff.1 hi
          have hne : zs[m] ≠ zs[m - 1] := by
            unfold Lib.keeps at hk
            rw [decide_eq_true_eq, hget m (by omega), hget (m - 1) (by omega)] at hk
            rcases hk with hk | hk
            · omega
            · exact hk
          have hle1 : zs[m - 1] ≤ zs[m] := List.pairwise_iff_getElem.1 hs (m - 1) m (by omega) (by omega) (by omega)
          have hle2 : x ≤ zs[m - 1] := by
            rcases Nat.lt_or_ge i (m - 1) with h | h
            · rw [← hi2]; exact List.pairwise_iff_getElem.1 hs i (m - 1) (by omega) (by omega) h
            · have : i = m - 1 := by omega
              subst this; omega
          show cmpI x zs[m] < 0
          rw [cmpI_lt]; omega
        · cases hi
      · rw [List.mem_append, htk, List.mem_append, h2]
    | false =>
      simp only [Bool.false_eq_true, if_false, List.append_nil]
      refine ⟨h1, fun x => ?_⟩
      have hm0 : ¬ m = 0 := by
        intro e
        unfold Lib.keeps at hk
        simp [e] at hk
      have he : zs[m] = zs[m - 1] := by
        unfold Lib.keeps at hk
        rw [decide_eq_false_iff_not, hget m (by omega), hget (m - 1) (by omega)] at hk
        exact Classical.byContradiction fun h => hk (.inr h)
      rw [h2, htk, List.mem_append, List.mem_singleton]
      constructor
      · exact .inl
      · rintro (h | h)
        · exact h
        · rw [h, he]
          refine List.mem_iff_getElem?.2 ⟨m - 1, ?_⟩
          rw [List.getElem?_take, if_pos (by omega), List.getElem?_eq_getElem]
/-- Integers, each once, as they rise. -/
def riseI (zs : List Int) : List Int := Lib.compact (sortI zs)
theorem riseI_ris (zs : List Int) : Ris koI kI (riseI zs) := (compact_spec (sortI_le zs) _ (by simp)).1
theorem mem_riseI {zs : List Int} {x : Int} : x ∈ riseI zs ↔ x ∈ zs := by
  unfold riseI Lib.compact
  rw [(compact_spec (sortI_le zs) _ (by simp)).2, List.take_of_length_le (by simp), mem_sortI]
theorem riseI_len (zs : List Int) : (riseI zs).length ≤ zs.length := by
  unfold riseI Lib.compact Lib.compactUpTo
  rw [List.length_map]
  exact Nat.le_trans (List.length_filter_le _ _) (by simp [sortI_len])
theorem riseI_eq {zs l : List Int} (hr : Ris koI kI l) (h : ∀ x, x ∈ l ↔ x ∈ zs) : riseI zs = l := ris_ext (riseI_ris zs) hr fun x => by rw [mem_riseI, h]
def bentL (n : Nt) : List Int := riseI (n.B.map Bn.S)
end Go.Proofs.YtidnnaobhcffcaaGreatDoor
namespace Go.Proofs.YtidnnaobhcffcaaGreatDoor
open Go.Eng
set_option linter.unusedSimpArgs false
set_option maxRecDepth 10000

theorem riseI_nil : riseI [] = [] := by
  have := riseI_len []
  exact List.eq_nil_of_length_eq_zero (by simpa using this)
theorem bent_ok (n : Nt) (hl : n.B.length ≤ 1000000) : Meets Tryz.prog 13 [n.arg] (rOne (.own 1 3 ((bentL n).map rowI))) := by
  by_cases hb : n.B = []
  · have := bent0_ok n hb
    rw [show bentL n = [] by unfold bentL; rw [hb]; exact riseI_nil]
    exact this
  · refine meets Tryz.func13 rfl rfl Tryz.ntmps13 Tryz.results13 rfl ?_
    simp -dsimp -implicitDefEqProofs only [go_sem, ↓reduceIte, reduceCtorEq, Nat.reduceLT, Nat.reduceLeDiff, Nat.reduceEqDiff, Nat.reduceAdd, Nat.reduceMul, Nat.reduceSub, Nat.reduceBEq, Int.reduceLT, Int.reduceLE, Int.reduceEq, Int.reduceBEq, Int.reduceNeg]
    refine vownE 3 3 rfl ?_
    refine vforT sitOk 400 3 (ι := WoInv n.B) (fun v => ⟨23, [(9, aI v.i), (8, aI n.B.length), (7, aD (bnsD n.B)), (3, aO 400), (1, aP 0 0)], [(400, some (.row 1 3 (((n.B.take v.i).map Bn.S).map rowI) true)), (0, some (.var [cD (svsD n.V), cI n.N, cD (bnsD n.B), cD (cksD n.C)] true))], 401⟩) (fun v => n.B.length - v.i) ⟨0, by omega⟩ ?_ ?_
    · simp -dsimp -implicitDefEqProofs only [go_sem, ↓reduceIte, reduceCtorEq, Nat.reduceLT, Nat.reduceLeDiff, Nat.reduceEqDiff, Nat.reduceAdd, Nat.reduceMul, Nat.reduceSub, Nat.reduceBEq, Int.reduceLT, Int.reduceLE, Int.reduceEq, Int.reduceBEq, Int.reduceNeg]
    intro ⟨i, hi⟩
    have htl : (n.B.take i).length = i := by simp; omega
    simp -dsimp -implicitDefEqProofs only [go_sem, ↓reduceIte, reduceCtorEq, Nat.reduceLT, Nat.reduceLeDiff, Nat.reduceEqDiff, Nat.reduceAdd, Nat.reduceMul, Nat.reduceSub, Nat.reduceBEq, Int.reduceLT, Int.reduceLE, Int.reduceEq, Int.reduceBEq, Int.reduceNeg]
    refine ⟨fun hlt => ?_, fun hge => ?_⟩
    · have hil : i < n.B.length := by omega
      obtain ⟨x, hx⟩ : ∃ x, n.B[i]? = some x := ⟨_, List.getElem?_eq_getElem hil⟩
      have hw := wrapS hil (by omega)
      have hst : ((n.B.take i).map Bn.S).map rowI ++ [[dI x.S]] = ((n.B.take (i + 1)).map Bn.S).map rowI := by
        rw [List.take_add_one, hx]; simp [rowI]
      simp -dsimp -implicitDefEqProofs only [hx, forall_eq', hw, htl, List.length_map, go_sem, ↓reduceIte, reduceCtorEq, Nat.reduceLT, Nat.reduceLeDiff, Nat.reduceEqDiff, Nat.reduceAdd, Nat.reduceMul, Nat.reduceSub, Nat.reduceBEq, Int.reduceLT, Int.reduceLE, Int.reduceEq, Int.reduceBEq, Int.reduceNeg]
      refine ⟨by omega, hil, by omega, againT 400 3 ⟨i + 1, by omega⟩ (by simp; omega) ?_⟩
      simp -dsimp -implicitDefEqProofs only [hw, hst, go_sem, ↓reduceIte, reduceCtorEq, Nat.reduceLT, Nat.reduceLeDiff, Nat.reduceEqDiff, Nat.reduceAdd, Nat.reduceMul, Nat.reduceSub, Nat.reduceBEq, Int.reduceLT, Int.reduceLE, Int.reduceEq, Int.reduceBEq, Int.reduceNeg]
    · have hil : i = n.B.length := by omega
      subst hil
      rw [List.take_length] at *
      have hnn : n.B.map Bn.S ≠ [] := by simpa using hb
      refine vsort (n.B.map Bn.S) hnn (by simp; omega) rfl rfl ?_
      simp -dsimp -implicitDefEqProofs only [go_sem, ↓reduceIte, reduceCtorEq, Nat.reduceLT, Nat.reduceLeDiff, Nat.reduceEqDiff, Nat.reduceAdd, Nat.reduceMul, Nat.reduceSub, Nat.reduceBEq, Int.reduceLT, Int.reduceLE, Int.reduceEq, Int.reduceBEq, Int.reduceNeg]
      refine callE [true] ?_
      simp -dsimp -implicitDefEqProofs only [go_sem, ↓reduceIte, reduceCtorEq, Nat.reduceLT, Nat.reduceLeDiff, Nat.reduceEqDiff, Nat.reduceAdd, Nat.reduceMul, Nat.reduceSub, Nat.reduceBEq, Int.reduceLT, Int.reduceLE, Int.reduceEq, Int.reduceBEq, Int.reduceNeg]
      refine ⟨_, compact_ok (sortI (n.B.map Bn.S)) (by rw [sortI_len]; simp; omega), ?_⟩
      simp -dsimp -implicitDefEqProofs only [go_sem, ↓reduceIte, reduceCtorEq, Nat.reduceLT, Nat.reduceLeDiff, Nat.reduceEqDiff, Nat.reduceAdd, Nat.reduceMul, Nat.reduceSub, Nat.reduceBEq, Int.reduceLT, Int.reduceLE, Int.reduceEq, Int.reduceBEq, Int.reduceNeg]
      rfl
theorem riseI_next (zs : List Int) (x : Int) : riseI (zs ++ [x]) = withK koI kI (riseI zs) x :=
  riseI_eq (with_ris (riseI_ris zs) x) fun y => by
    rw [mem_with (riseI_ris zs), mem_riseI, List.mem_append, List.mem_singleton]
    constructor
    · rintro (h | ⟨h, _⟩)
      · exact .inr h
      · exact .inl h
    · rintro (h | h)
      · by_cases e : y = x
        · exact .inl e
        · exact .inr ⟨h, e⟩
      · exact .inl h
theorem rbent_ok (n : Nt) (hl : n.B.length ≤ 1000000) : Meets Tryz.prog 14 [n.arg] (rOne (.own 1 3 ((bentL n).map rowI))) := by
  refine meets Tryz.func14 rfl rfl Tryz.ntmps14 Tryz.results14 rfl ?_
  simp -dsimp -implicitDefEqProofs only [go_sem, ↓reduceIte, reduceCtorEq, Nat.reduceLT, Nat.reduceLeDiff, Nat.reduceEqDiff, Nat.reduceAdd, Nat.reduceMul, Nat.reduceSub, Nat.reduceBEq, Int.reduceLT, Int.reduceLE, Int.reduceEq, Int.reduceBEq, Int.reduceNeg]
  refine vownE 3 3 rfl ?_
  refine vforT sitOk 400 3 (ι := WoInv n.B) (fun v => ⟨63, [(4, aI v.i), (3, aO 400), (1, aP 0 0)], [(400, some (.row 1 3 ((riseI ((n.B.take v.i).map Bn.S)).map rowI) true)), (0, some (.var [cD (svsD n.V), cI n.N, cD (bnsD n.B), cD (cksD n.C)] true))], 401⟩) (fun v => n.B.length - v.i) ⟨0, by omega⟩ ?_ ?_
  · simp -dsimp -implicitDefEqProofs only [go_sem, ↓reduceIte, reduceCtorEq, Nat.reduceLT, Nat.reduceLeDiff, Nat.reduceEqDiff, Nat.reduceAdd, Nat.reduceMul, Nat.reduceSub, Nat.reduceBEq, Int.reduceLT, Int.reduceLE, Int.reduceEq, Int.reduceBEq, Int.reduceNeg]
    rw [riseI_nil]
    rfl
  intro ⟨i, hi⟩
  have htl : (n.B.take i).length = i := by simp; omega
  simp -dsimp -implicitDefEqProofs only [go_sem, ↓reduceIte, reduceCtorEq, Nat.reduceLT, Nat.reduceLeDiff, Nat.reduceEqDiff, Nat.reduceAdd, Nat.reduceMul, Nat.reduceSub, Nat.reduceBEq, Int.reduceLT, Int.reduceLE, Int.reduceEq, Int.reduceBEq, Int.reduceNeg]
  refine ⟨fun hlt => ?_, fun hge => ?_⟩
  · have hil : i < n.B.length := by omega
    obtain ⟨x, hx⟩ : ∃ x, n.B[i]? = some x := ⟨_, List.getElem?_eq_getElem hil⟩
    have hw := wrapS hil (by omega)
    have hst : riseI ((n.B.take (i + 1)).map Bn.S) = withK koI kI (riseI ((n.B.take i).map Bn.S)) x.S := by
      rw [← riseI_next, List.take_add_one, hx]; simp
    have hLl := riseI_len ((n.B.take i).map Bn.S)
    rw [List.length_map, htl] at hLl
    have hr := riseI_ris ((n.B.take i).map Bn.S)
    generalize riseI ((n.B.take i).map Bn.S) = L at *
    simp -dsimp -implicitDefEqProofs only [hx, forall_eq', hw, go_sem, ↓reduceIte, reduceCtorEq, Nat.reduceLT, Nat.reduceLeDiff, Nat.reduceEqDiff, Nat.reduceAdd, Nat.reduceMul, Nat.reduceSub, Nat.reduceBEq, Int.reduceLT, Int.reduceLE, Int.reduceEq, Int.reduceBEq, Int.reduceNeg]
    refine ⟨by omega, hil, ?_⟩
    refine vfor sitOk (ι := BfInv koI kI L x.S) (fun v => ⟨63, [(6, aI v.i), (5, aI x.S), (4, aI i), (3, aO 400), (1, aP 0 0)], [(400, some (.row 1 3 (L.map rowI) true)), (0, some (.var [cD (svsD n.V), cI n.N, cD (bnsD n.B), cD (cksD n.C)] true))], 600⟩) (fun v => L.length - v.i) ⟨0, by omega, fun j x hj => by omega⟩ ?_ ?_
    · simp -dsimp -implicitDefEqProofs only [go_sem, ↓reduceIte, reduceCtorEq, Nat.reduceLT, Nat.reduceLeDiff, Nat.reduceEqDiff, Nat.reduceAdd, Nat.reduceMul, Nat.reduceSub, Nat.reduceBEq, Int.reduceLT, Int.reduceLE, Int.reduceEq, Int.reduceBEq, Int.reduceNeg]
    intro ⟨k, hk, hok⟩
    have fin := fun (h : ∀ y, L[k]? = some y → ¬ y < x.S) => with_at (x := x.S) hr hok fun y hy hlt => h y hy (cmpI_lt.1 hlt)
    have hml : ((L.map rowI).take k).length = k := by simp; omega
    have hdl : (((L.map rowI).drop k).take (L.length - k)).length = L.length - k := by simp
    have hd3 : ((L.map rowI).drop k).length = L.length - k := by simp
    have hd2 : ((L.map rowI).drop k).take (L.length - k) = (L.map rowI).drop k := List.take_of_length_le (by simp)
    have hput : withK koI kI L x.S = L.take k ++ x.S :: L.drop k → (L.map rowI).take k ++ ([dI x.S] :: (L.map rowI).drop k) = (withK koI kI L x.S).map rowI := fun h => by
      rw [h]; simp [List.map_append, List.map_take, List.map_drop, rowI]
    by_cases hkl : k < L.length
    · obtain ⟨y, hy⟩ : ∃ y, L[k]? = some y := ⟨_, List.getElem?_eq_getElem hkl⟩
      have hwk := wrapS hkl (by omega)
      have hlt2 : (k : Int) < (L.length : Int) := by omega
      by_cases hc : y < x.S
      · have hc2 : ¬ x.S ≤ y := by omega
        simp -dsimp -implicitDefEqProofs only [hlt2, hy, forall_eq', hc, hc2, go_sem, ↓reduceIte, reduceCtorEq, Nat.reduceLT, Nat.reduceLeDiff, Nat.reduceEqDiff, Nat.reduceAdd, Nat.reduceMul, Nat.reduceSub, Nat.reduceBEq, Int.reduceLT, Int.reduceLE, Int.reduceEq, Int.reduceBEq, Int.reduceNeg]
        refine ⟨by omega, hkl, again ⟨k + 1, by omega, bf_next hok hy (cmpI_lt.2 hc)⟩ (by simp; omega) ?_⟩
        simp -dsimp -implicitDefEqProofs only [hwk, go_sem, ↓reduceIte, reduceCtorEq, Nat.reduceLT, Nat.reduceLeDiff, Nat.reduceEqDiff, Nat.reduceAdd, Nat.reduceMul, Nat.reduceSub, Nat.reduceBEq, Int.reduceLT, Int.reduceLE, Int.reduceEq, Int.reduceBEq, Int.reduceNeg]
      · obtain ⟨w1, w2⟩ := fin fun z hz => by rw [hy] at hz; cases hz; exact hc
        have hc2 : x.S ≤ y := by omega
        by_cases he : y = x.S
        · have hself : withK koI kI L x.S = L := with_self hr (he ▸ List.mem_of_getElem? hy)
          rw [hself] at hst
          have hir : ¬ x.S < x.S := by omega
          simp -dsimp -implicitDefEqProofs only [hlt2, hy, forall_eq', he, hir, go_sem, ↓reduceIte, reduceCtorEq, Nat.reduceLT, Nat.reduceLeDiff, Nat.reduceEqDiff, Nat.reduceAdd, Nat.reduceMul, Nat.reduceSub, Nat.reduceBEq, Int.reduceLT, Int.reduceLE, Int.reduceEq, Int.reduceBEq, Int.reduceNeg]
          refine ⟨by omega, hkl, by omega, hkl, againT 400 3 ⟨i + 1, by omega⟩ (by simp; omega) ?_⟩
          simp -dsimp -implicitDefEqProofs only [hw, hst, go_sem, ↓reduceIte, reduceCtorEq, Nat.reduceLT, Nat.reduceLeDiff, Nat.reduceEqDiff, Nat.reduceAdd, Nat.reduceMul, Nat.reduceSub, Nat.reduceBEq, Int.reduceLT, Int.reduceLE, Int.reduceEq, Int.reduceBEq, Int.reduceNeg]
        · have hp := hput (w2 fun z hz => by rw [hy] at hz; cases hz; exact he)
          simp -dsimp -implicitDefEqProofs only [hlt2, hy, forall_eq', hc, hc2, he, hml, hdl, hd2, hd3, List.append_assoc, List.singleton_append, hp, List.length_append, List.length_map, go_sem, ↓reduceIte, reduceCtorEq, Nat.reduceLT, Nat.reduceLeDiff, Nat.reduceEqDiff, Nat.reduceAdd, Nat.reduceMul, Nat.reduceSub, Nat.reduceBEq, Int.reduceLT, Int.reduceLE, Int.reduceEq, Int.reduceBEq, Int.reduceNeg]
          refine ⟨by omega, hkl, by omega, hkl, by omega, by omega, by omega, by omega, by omega, by omega, by omega, againT 400 3 ⟨i + 1, by omega⟩ (by simp; omega) ?_⟩
          simp -dsimp -implicitDefEqProofs only [hw, hst, go_sem, ↓reduceIte, reduceCtorEq, Nat.reduceLT, Nat.reduceLeDiff, Nat.reduceEqDiff, Nat.reduceAdd, Nat.reduceMul, Nat.reduceSub, Nat.reduceBEq, Int.reduceLT, Int.reduceLE, Int.reduceEq, Int.reduceBEq, Int.reduceNeg]
    · have hlt2 : ¬ (k : Int) < (L.length : Int) := by omega
      have hn : L[k]? = none := List.getElem?_eq_none_iff.2 (by omega)
      obtain ⟨w1, w2⟩ := fin fun y hy => by rw [hn] at hy; cases hy
      have hp := hput (w2 fun y hy => by rw [hn] at hy; cases hy)
      simp -dsimp -implicitDefEqProofs only [hlt2, hml, hdl, hd2, hd3, List.append_assoc, List.singleton_append, hp, List.length_append, List.length_map, go_sem, ↓reduceIte, reduceCtorEq, Nat.reduceLT, Nat.reduceLeDiff, Nat.reduceEqDiff, Nat.reduceAdd, Nat.reduceMul, Nat.reduceSub, Nat.reduceBEq, Int.reduceLT, Int.reduceLE, Int.reduceEq, Int.reduceBEq, Int.reduceNeg]
      refine ⟨by omega, by omega, by omega, by omega, by omega, by omega, by omega, againT 400 3 ⟨i + 1, by omega⟩ (by simp; omega) ?_⟩
      simp -dsimp -implicitDefEqProofs only [hw, hst, go_sem, ↓reduceIte, reduceCtorEq, Nat.reduceLT, Nat.reduceLeDiff, Nat.reduceEqDiff, Nat.reduceAdd, Nat.reduceMul, Nat.reduceSub, Nat.reduceBEq, Int.reduceLT, Int.reduceLE, Int.reduceEq, Int.reduceBEq, Int.reduceNeg]
  · have hil : i = n.B.length := by omega
    subst hil
    rw [List.take_length] at *
    rfl
end Go.Proofs.YtidnnaobhcffcaaGreatDoor
namespace Go.Proofs.YtidnnaobhcffcaaGreatDoor
open Go.Eng
set_option linter.unusedSimpArgs false
set_option maxRecDepth 10000

structure LiInv (l : List Int) where
  i : Nat
  le : i ≤ l.length
theorem rlooks13_ok (n : Nt) (who : Bs) (now : Int) (hk : ∀ c ∈ n.C, -9223372036854775808 ≤ c.B ∧ c.B ≤ 9223372036854775807) (hw : ∀ c ∈ n.C, c.W.length ≤ 9223372036854775807) (hn1 : -9223372036854775808 ≤ now) (hn2 : now ≤ 9223372036854775807) :
    Meets Tryz.prog 3 [n.arg, (false, [vS who]), (false, [vI now])] (rOne (vB true)) := by
  refine meets Tryz.func3 rfl rfl Tryz.ntmps3 Tryz.results3 rfl ?_
  simp -dsimp -implicitDefEqProofs only [go_sem, ↓reduceIte, reduceCtorEq, Nat.reduceLT, Nat.reduceLeDiff, Nat.reduceEqDiff, Nat.reduceAdd, Nat.reduceMul, Nat.reduceSub, Nat.reduceBEq, Int.reduceLT, Int.reduceLE, Int.reduceEq, Int.reduceBEq, Int.reduceNeg]
  refine callP live13_ok ?_
  simp -dsimp -implicitDefEqProofs only [go_sem, ↓reduceIte, reduceCtorEq, Nat.reduceLT, Nat.reduceLeDiff, Nat.reduceEqDiff, Nat.reduceAdd, Nat.reduceMul, Nat.reduceSub, Nat.reduceBEq, Int.reduceLT, Int.reduceLE, Int.reduceEq, Int.reduceBEq, Int.reduceNeg]
  refine callP (rfewN_ok n) ?_
  simp -dsimp -implicitDefEqProofs only [go_sem, ↓reduceIte, reduceCtorEq, Nat.reduceLT, Nat.reduceLeDiff, Nat.reduceEqDiff, Nat.reduceAdd, Nat.reduceMul, Nat.reduceSub, Nat.reduceBEq, Int.reduceLT, Int.reduceLE, Int.reduceEq, Int.reduceBEq, Int.reduceNeg]
  intro hf
  have hz := sz_of hf hk hw
  have hfz := few_sz hf
  refine callP (bent_ok n (by omega)) ?_
  simp -dsimp -implicitDefEqProofs only [go_sem, ↓reduceIte, reduceCtorEq, Nat.reduceLT, Nat.reduceLeDiff, Nat.reduceEqDiff, Nat.reduceAdd, Nat.reduceMul, Nat.reduceSub, Nat.reduceBEq, Int.reduceLT, Int.reduceLE, Int.reduceEq, Int.reduceBEq, Int.reduceNeg]
  refine callP (rbent_ok n (by omega)) ?_
  simp -dsimp -implicitDefEqProofs only [go_sem, ↓reduceIte, reduceCtorEq, Nat.reduceLT, Nat.reduceLeDiff, Nat.reduceEqDiff, Nat.reduceAdd, Nat.reduceMul, Nat.reduceSub, Nat.reduceBEq, Int.reduceLT, Int.reduceLE, Int.reduceEq, Int.reduceBEq, Int.reduceNeg]
  have hbl := riseI_len (n.B.map Bn.S)
  rw [List.length_map] at hbl
  unfold bentL
  generalize riseI (n.B.map Bn.S) = L at *
  refine vfor sitOk (ι := LiInv L) (fun v => ⟨55, [(9, aI v.i), (8, aO 88), (7, aO 64), (3, aP 0 0), (1, aS who), (2, aI now)], [(88, some (.row 1 3 (L.map rowI) true)), (64, some (.row 1 3 (L.map rowI) true)), (0, some (.var [cD (svsD n.V), cI n.N, cD (bnsD n.B), cD (cksD n.C)] true))], 200⟩) (fun v => L.length - v.i) ⟨0, by omega⟩ ?_ ?_
  · simp -dsimp -implicitDefEqProofs only [go_sem, ↓reduceIte, reduceCtorEq, Nat.reduceLT, Nat.reduceLeDiff, Nat.reduceEqDiff, Nat.reduceAdd, Nat.reduceMul, Nat.reduceSub, Nat.reduceBEq, Int.reduceLT, Int.reduceLE, Int.reduceEq, Int.reduceBEq, Int.reduceNeg]
  intro ⟨i, hi⟩
  simp -dsimp -implicitDefEqProofs only [go_sem, ↓reduceIte, reduceCtorEq, Nat.reduceLT, Nat.reduceLeDiff, Nat.reduceEqDiff, Nat.reduceAdd, Nat.reduceMul, Nat.reduceSub, Nat.reduceBEq, Int.reduceLT, Int.reduceLE, Int.reduceEq, Int.reduceBEq, Int.reduceNeg]
  refine ⟨fun hlt => ?_, fun hge => ?_⟩
  · have hil : i < L.length := by omega
    obtain ⟨x, hx⟩ : ∃ x, L[i]? = some x := ⟨_, List.getElem?_eq_getElem hil⟩
    have hwi := wrapS hil (by omega)
    simp -dsimp -implicitDefEqProofs only [hx, forall_eq', hwi, go_sem, ↓reduceIte, reduceCtorEq, Nat.reduceLT, Nat.reduceLeDiff, Nat.reduceEqDiff, Nat.reduceAdd, Nat.reduceMul, Nat.reduceSub, Nat.reduceBEq, Int.reduceLT, Int.reduceLE, Int.reduceEq, Int.reduceBEq, Int.reduceNeg]
    repeat' (first | with_reducible apply And.intro | with_reducible intro _ | with_reducible exact drawn (by kernel_rfl) | omega)
    refine again ⟨i + 1, by omega⟩ (by simp; omega) ?_
    simp -dsimp -implicitDefEqProofs only [hwi, go_sem, ↓reduceIte, reduceCtorEq, Nat.reduceLT, Nat.reduceLeDiff, Nat.reduceEqDiff, Nat.reduceAdd, Nat.reduceMul, Nat.reduceSub, Nat.reduceBEq, Int.reduceLT, Int.reduceLE, Int.reduceEq, Int.reduceBEq, Int.reduceNeg]
  · refine callP (check_okN n hz) ?_
    simp -dsimp -implicitDefEqProofs only [go_sem, ↓reduceIte, reduceCtorEq, Nat.reduceLT, Nat.reduceLeDiff, Nat.reduceEqDiff, Nat.reduceAdd, Nat.reduceMul, Nat.reduceSub, Nat.reduceBEq, Int.reduceLT, Int.reduceLE, Int.reduceEq, Int.reduceBEq, Int.reduceNeg]
    refine callP (rcheck_okN n hz) ?_
    simp -dsimp -implicitDefEqProofs only [go_sem, ↓reduceIte, reduceCtorEq, Nat.reduceLT, Nat.reduceLeDiff, Nat.reduceEqDiff, Nat.reduceAdd, Nat.reduceMul, Nat.reduceSub, Nat.reduceBEq, Int.reduceLT, Int.reduceLE, Int.reduceEq, Int.reduceBEq, Int.reduceNeg]
    refine callP (clock_ok n who now (by omega)) ?_
    simp -dsimp -implicitDefEqProofs only [go_sem, ↓reduceIte, reduceCtorEq, Nat.reduceLT, Nat.reduceLeDiff, Nat.reduceEqDiff, Nat.reduceAdd, Nat.reduceMul, Nat.reduceSub, Nat.reduceBEq, Int.reduceLT, Int.reduceLE, Int.reduceEq, Int.reduceBEq, Int.reduceNeg]
    refine callP (rclock_ok n who now (by omega) hn1 hn2) ?_
    simp -dsimp -implicitDefEqProofs only [go_sem, ↓reduceIte, reduceCtorEq, Nat.reduceLT, Nat.reduceLeDiff, Nat.reduceEqDiff, Nat.reduceAdd, Nat.reduceMul, Nat.reduceSub, Nat.reduceBEq, Int.reduceLT, Int.reduceLE, Int.reduceEq, Int.reduceBEq, Int.reduceNeg]
    exact drawn (by kernel_rfl)
theorem bent_in {n : Nt} (h : chkN n = 0) : ∀ x ∈ bentL n, 0 ≤ x ∧ x < n.N := fun x hx => by
  obtain ⟨_, _, _, hb, _, _⟩ := chk_iff.1 h
  obtain ⟨hb1, _⟩ := bns_parts hb
  obtain ⟨b, hbm, rfl⟩ := List.mem_map.1 (mem_riseI.1 hx)
  have h1 := hb1 b hbm
  unfold bendB at h1
  simp only [Bool.and_eq_true, decide_eq_true_eq] at h1
  exact ⟨h1.1.1.1.1, h1.1.1.1.2⟩
theorem not_bent {n : Nt} {seen : Int} (h : seen ∉ bentL n) (addr t : Int) : bnF n ⟨seen, addr, t⟩ = none := find_none.2 fun b hb e =>
  h (mem_riseI.2 (List.mem_map.2 ⟨b, hb, congrArg Prod.fst e⟩))
/-- Who is not redirected sees what nobody redirected does. -/
theorem straight_seen {n : Nt} {seen : Int} (h0 : 0 ≤ seen) (h1 : seen < n.N) (h : seen ∉ bentL n) (addr : Int) : srvB n seen addr = srvB n (-1) addr ∧ srvS n seen addr = srvS n (-1) addr := by
  have e1 : srvB n seen addr = srvB n (-1) addr := by
    unfold srvB
    rw [decide_eq_true (by omega : (-1 : Int) ≤ seen), decide_eq_true h1, decide_eq_true (by omega : (-1 : Int) ≤ -1), decide_eq_true (by omega : (-1 : Int) < n.N)]
  refine ⟨e1, ?_⟩
  unfold srvS
  rw [e1]
  cases hb : srvB n (-1) addr with
  | false => rfl
  | true =>
    have hc := (srvB_iff.1 hb).2.2.2
    have e2 : srvZ n seen addr = srvZ n (-1) addr := by
      unfold srvZ
      rw [not_bent h addr 0, no_bend hc (.inl (by omega)) 0]
      rfl
    rw [e2]
theorem rbent13_ok (n : Nt) (seen addr : Int) (hk : ∀ c ∈ n.C, -9223372036854775808 ≤ c.B ∧ c.B ≤ 9223372036854775807) (hw : ∀ c ∈ n.C, c.W.length ≤ 9223372036854775807) :
    Meets Tryz.prog 9 [n.arg, (false, [vI seen]), (false, [vI addr])] (rOne (vB true)) := by
  refine meets Tryz.func9 rfl rfl Tryz.ntmps9 Tryz.results9 rfl ?_
  simp -dsimp -implicitDefEqProofs only [go_sem, ↓reduceIte, reduceCtorEq, Nat.reduceLT, Nat.reduceLeDiff, Nat.reduceEqDiff, Nat.reduceAdd, Nat.reduceMul, Nat.reduceSub, Nat.reduceBEq, Int.reduceLT, Int.reduceLE, Int.reduceEq, Int.reduceBEq, Int.reduceNeg]
  refine callP live13_ok ?_
  simp -dsimp -implicitDefEqProofs only [go_sem, ↓reduceIte, reduceCtorEq, Nat.reduceLT, Nat.reduceLeDiff, Nat.reduceEqDiff, Nat.reduceAdd, Nat.reduceMul, Nat.reduceSub, Nat.reduceBEq, Int.reduceLT, Int.reduceLE, Int.reduceEq, Int.reduceBEq, Int.reduceNeg]
  refine callP (rfewN_ok n) ?_
  simp -dsimp -implicitDefEqProofs only [go_sem, ↓reduceIte, reduceCtorEq, Nat.reduceLT, Nat.reduceLeDiff, Nat.reduceEqDiff, Nat.reduceAdd, Nat.reduceMul, Nat.reduceSub, Nat.reduceBEq, Int.reduceLT, Int.reduceLE, Int.reduceEq, Int.reduceBEq, Int.reduceNeg]
  intro hf
  have hz := sz_of hf hk hw
  have hfz := few_sz hf
  refine callP (check_okN n hz) ?_
  simp -dsimp -implicitDefEqProofs only [go_sem, ↓reduceIte, reduceCtorEq, Nat.reduceLT, Nat.reduceLeDiff, Nat.reduceEqDiff, Nat.reduceAdd, Nat.reduceMul, Nat.reduceSub, Nat.reduceBEq, Int.reduceLT, Int.reduceLE, Int.reduceEq, Int.reduceBEq, Int.reduceNeg]
  intro h0
  refine callP (bent_ok n (by omega)) ?_
  simp -dsimp -implicitDefEqProofs only [go_sem, ↓reduceIte, reduceCtorEq, Nat.reduceLT, Nat.reduceLeDiff, Nat.reduceEqDiff, Nat.reduceAdd, Nat.reduceMul, Nat.reduceSub, Nat.reduceBEq, Int.reduceLT, Int.reduceLE, Int.reduceEq, Int.reduceBEq, Int.reduceNeg]
  have hbl := riseI_len (n.B.map Bn.S)
  rw [List.length_map] at hbl
  have hin := bent_in h0
  have hL : ∀ x, x ∈ bentL n ↔ x ∈ n.B.map Bn.S := fun x => mem_riseI
  have hst := fun h1 h2 h => straight_seen (n := n) (seen := seen) h1 h2 h addr
  have hri := riseI_ris (n.B.map Bn.S)
  have hl0 := srvS_len hz seen addr
  change (bentL n).length ≤ _ at hbl
  change Ris koI kI (bentL n) at hri
  generalize bentL n = L at *
  refine vfor sitOk (ι := LiInv L) (fun v => ⟨130, [(9, aI v.i), (8, aB (decide (seen ∈ L.take v.i))), (7, aO 104), (3, aP 0 0), (1, aI seen), (2, aI addr)], [(104, some (.row 1 3 (L.map rowI) true)), (0, some (.var [cD (svsD n.V), cI n.N, cD (bnsD n.B), cD (cksD n.C)] true))], 200⟩) (fun v => L.length - v.i) ⟨0, by omega⟩ ?_ ?_
  · simp -dsimp -implicitDefEqProofs only [go_sem, ↓reduceIte, reduceCtorEq, Nat.reduceLT, Nat.reduceLeDiff, Nat.reduceEqDiff, Nat.reduceAdd, Nat.reduceMul, Nat.reduceSub, Nat.reduceBEq, Int.reduceLT, Int.reduceLE, Int.reduceEq, Int.reduceBEq, Int.reduceNeg]
  intro ⟨i, hi⟩
  simp -dsimp -implicitDefEqProofs only [go_sem, ↓reduceIte, reduceCtorEq, Nat.reduceLT, Nat.reduceLeDiff, Nat.reduceEqDiff, Nat.reduceAdd, Nat.reduceMul, Nat.reduceSub, Nat.reduceBEq, Int.reduceLT, Int.reduceLE, Int.reduceEq, Int.reduceBEq, Int.reduceNeg]
  refine ⟨fun hlt => ?_, fun hge => ?_⟩
  · have hil : i < L.length := by omega
    obtain ⟨x, hx⟩ : ∃ x, L[i]? = some x := ⟨_, List.getElem?_eq_getElem hil⟩
    have hwi := wrapS hil (by omega)
    have hxm := hin x (List.mem_of_getElem? hx)
    have hxn : ¬ x < 0 := by omega
    have hxN : ¬ n.N ≤ x := by omega
    have hnx : decide (seen ∈ L.take (i + 1)) = (decide (seen ∈ L.take i) || (x == seen)) := by
      rw [List.take_add_one, hx, Bool.eq_iff_iff]
      simp only [decide_eq_true_eq, Bool.or_eq_true, List.mem_append, Option.toList_some, List.mem_singleton, beq_iff_eq]
      exact ⟨fun h => h.imp_right Eq.symm, fun h => h.imp_right Eq.symm⟩
    by_cases hi0 : i = 0
    · have hz0 : ¬ (0 : Int) < (i : Int) := by omega
      have hq : x < n.N := hxm.2
      have hq2 : 0 ≤ x := hxm.1
      have hq3 : (i : Int) ≤ 0 := by omega
      simp -dsimp -implicitDefEqProofs only [hx, forall_eq', hwi, hq, hq2, hq3, hxn, hxN, hz0, go_sem, ↓reduceIte, reduceCtorEq, Nat.reduceLT, Nat.reduceLeDiff, Nat.reduceEqDiff, Nat.reduceAdd, Nat.reduceMul, Nat.reduceSub, Nat.reduceBEq, Int.reduceLT, Int.reduceLE, Int.reduceEq, Int.reduceBEq, Int.reduceNeg]
      refine ⟨⟨by omega, by omega⟩, hil, ⟨by omega, by omega⟩, hil, drawn (by kernel_rfl), fun hs => ⟨⟨by omega, by omega⟩, hil, ?_⟩, fun hs => ?_⟩
      · rw [show decide (seen ∈ L.take i) = false from decide_eq_false hs, Bool.false_or] at hnx
        refine again ⟨i + 1, by omega⟩ (by simp; omega) ?_
        simp -dsimp -implicitDefEqProofs only [hwi, hnx, go_sem, ↓reduceIte, reduceCtorEq, Nat.reduceLT, Nat.reduceLeDiff, Nat.reduceEqDiff, Nat.reduceAdd, Nat.reduceMul, Nat.reduceSub, Nat.reduceBEq, Int.reduceLT, Int.reduceLE, Int.reduceEq, Int.reduceBEq, Int.reduceNeg]
      · rw [show decide (seen ∈ L.take i) = true from decide_eq_true hs, Bool.true_or] at hnx
        refine again ⟨i + 1, by omega⟩ (by simp; omega) ?_
        simp -dsimp -implicitDefEqProofs only [hwi, hnx, go_sem, ↓reduceIte, reduceCtorEq, Nat.reduceLT, Nat.reduceLeDiff, Nat.reduceEqDiff, Nat.reduceAdd, Nat.reduceMul, Nat.reduceSub, Nat.reduceBEq, Int.reduceLT, Int.reduceLE, Int.reduceEq, Int.reduceBEq, Int.reduceNeg]
    · obtain ⟨p, hp⟩ : ∃ p, L[i - 1]? = some p := ⟨_, List.getElem?_eq_getElem (by omega)⟩
      have hw2 : IntKind.i64.wrap ((i : Int) - 1) = ((i - 1 : Nat) : Int) := by rw [wrap64] <;> omega
      have hz0 : (0 : Int) < (i : Int) := by omega
      have hpx2 : p < x := cmpI_lt.1 (ris_at hri (show i - 1 < i by omega) hp hx)
      have hpx : ¬ x ≤ p := by omega
      have hq : x < n.N := hxm.2
      have hq2 : 0 ≤ x := hxm.1
      have hq3 : ¬ (i : Int) ≤ 0 := by omega
      simp -dsimp -implicitDefEqProofs only [hx, forall_eq', hwi, hq, hq2, hq3, hxn, hxN, hz0, hw2, hp, hpx, hpx2, go_sem, ↓reduceIte, reduceCtorEq, Nat.reduceLT, Nat.reduceLeDiff, Nat.reduceEqDiff, Nat.reduceAdd, Nat.reduceMul, Nat.reduceSub, Nat.reduceBEq, Int.reduceLT, Int.reduceLE, Int.reduceEq, Int.reduceBEq, Int.reduceNeg]
      refine ⟨⟨by omega, by omega⟩, hil, ⟨by omega, by omega⟩, hil, ⟨by omega, by omega⟩, by omega, ⟨by omega, by omega⟩, hil, drawn (by kernel_rfl), fun hs => ⟨⟨by omega, by omega⟩, hil, ?_⟩, fun hs => ?_⟩
      · rw [show decide (seen ∈ L.take i) = false from decide_eq_false hs, Bool.false_or] at hnx
        refine again ⟨i + 1, by omega⟩ (by simp; omega) ?_
        simp -dsimp -implicitDefEqProofs only [hwi, hnx, go_sem, ↓reduceIte, reduceCtorEq, Nat.reduceLT, Nat.reduceLeDiff, Nat.reduceEqDiff, Nat.reduceAdd, Nat.reduceMul, Nat.reduceSub, Nat.reduceBEq, Int.reduceLT, Int.reduceLE, Int.reduceEq, Int.reduceBEq, Int.reduceNeg]
      · rw [show decide (seen ∈ L.take i) = true from decide_eq_true hs, Bool.true_or] at hnx
        refine again ⟨i + 1, by omega⟩ (by simp; omega) ?_
        simp -dsimp -implicitDefEqProofs only [hwi, hnx, go_sem, ↓reduceIte, reduceCtorEq, Nat.reduceLT, Nat.reduceLeDiff, Nat.reduceEqDiff, Nat.reduceAdd, Nat.reduceMul, Nat.reduceSub, Nat.reduceBEq, Int.reduceLT, Int.reduceLE, Int.reduceEq, Int.reduceBEq, Int.reduceNeg]
  · have hil : i = L.length := by omega
    subst hil
    rw [List.take_length]
    refine vfor sitOk (ι := WoInv n.B) (fun v => ⟨130, [(11, aI v.i), (10, aB ((n.B.take v.i).any fun b => b.S == seen)), (8, aB (decide (seen ∈ L))), (7, aO 104), (3, aP 0 0), (1, aI seen), (2, aI addr)], [(104, some (.row 1 3 (L.map rowI) true)), (0, some (.var [cD (svsD n.V), cI n.N, cD (bnsD n.B), cD (cksD n.C)] true))], 400⟩) (fun v => n.B.length - v.i) ⟨0, by omega⟩ ?_ ?_
    · simp -dsimp -implicitDefEqProofs only [go_sem, ↓reduceIte, reduceCtorEq, Nat.reduceLT, Nat.reduceLeDiff, Nat.reduceEqDiff, Nat.reduceAdd, Nat.reduceMul, Nat.reduceSub, Nat.reduceBEq, Int.reduceLT, Int.reduceLE, Int.reduceEq, Int.reduceBEq, Int.reduceNeg]
      rfl
    intro ⟨i, hi⟩
    simp -dsimp -implicitDefEqProofs only [go_sem, ↓reduceIte, reduceCtorEq, Nat.reduceLT, Nat.reduceLeDiff, Nat.reduceEqDiff, Nat.reduceAdd, Nat.reduceMul, Nat.reduceSub, Nat.reduceBEq, Int.reduceLT, Int.reduceLE, Int.reduceEq, Int.reduceBEq, Int.reduceNeg]
    refine ⟨fun hlt => ?_, fun hge => ?_⟩
    · have hil : i < n.B.length := by omega
      obtain ⟨x, hx⟩ : ∃ x, n.B[i]? = some x := ⟨_, List.getElem?_eq_getElem hil⟩
      have hwi := wrapS hil (by omega)
      have hnx : ((n.B.take (i + 1)).any fun b => b.S == seen) = (((n.B.take i).any fun b => b.S == seen) || (x.S == seen)) := by
        rw [List.take_add_one, hx, List.any_append]; simp
      simp -dsimp -implicitDefEqProofs only [hx, forall_eq', hwi, go_sem, ↓reduceIte, reduceCtorEq, Nat.reduceLT, Nat.reduceLeDiff, Nat.reduceEqDiff, Nat.reduceAdd, Nat.reduceMul, Nat.reduceSub, Nat.reduceBEq, Int.reduceLT, Int.reduceLE, Int.reduceEq, Int.reduceBEq, Int.reduceNeg]
      refine ⟨fun hs => ⟨by omega, hil, ?_⟩, fun hs => ?_⟩
      · rw [hs, Bool.false_or] at hnx
        refine again ⟨i + 1, by omega⟩ (by simp; omega) ?_
        simp -dsimp -implicitDefEqProofs only [hwi, hnx, go_sem, ↓reduceIte, reduceCtorEq, Nat.reduceLT, Nat.reduceLeDiff, Nat.reduceEqDiff, Nat.reduceAdd, Nat.reduceMul, Nat.reduceSub, Nat.reduceBEq, Int.reduceLT, Int.reduceLE, Int.reduceEq, Int.reduceBEq, Int.reduceNeg]
      · rw [hs, Bool.true_or] at hnx
        refine again ⟨i + 1, by omega⟩ (by simp; omega) ?_
        simp -dsimp -implicitDefEqProofs only [hwi, hnx, go_sem, ↓reduceIte, reduceCtorEq, Nat.reduceLT, Nat.reduceLeDiff, Nat.reduceEqDiff, Nat.reduceAdd, Nat.reduceMul, Nat.reduceSub, Nat.reduceBEq, Int.reduceLT, Int.reduceLE, Int.reduceEq, Int.reduceBEq, Int.reduceNeg]
    · have hil : i = n.B.length := by omega
      subst hil
      rw [List.take_length]
      have hmet : (n.B.any fun b => b.S == seen) = decide (seen ∈ L) := by
        rw [Bool.eq_iff_iff, List.any_eq_true, decide_eq_true_eq, hL, List.mem_map]
        simp only [beq_iff_eq]
      rw [hmet]
      refine ⟨fun h => absurd rfl h, fun _ => ?_⟩
      refine callP (srv_ok n hz seen addr) ?_
      simp -dsimp -implicitDefEqProofs only [go_sem, ↓reduceIte, reduceCtorEq, Nat.reduceLT, Nat.reduceLeDiff, Nat.reduceEqDiff, Nat.reduceAdd, Nat.reduceMul, Nat.reduceSub, Nat.reduceBEq, Int.reduceLT, Int.reduceLE, Int.reduceEq, Int.reduceBEq, Int.reduceNeg]
      refine callP (srv_ok n hz (-1) addr) ?_
      by_cases hs : seen ∈ L
      · simp -dsimp -implicitDefEqProofs only [hs, go_sem, ↓reduceIte, reduceCtorEq, Nat.reduceLT, Nat.reduceLeDiff, Nat.reduceEqDiff, Nat.reduceAdd, Nat.reduceMul, Nat.reduceSub, Nat.reduceBEq, Int.reduceLT, Int.reduceLE, Int.reduceEq, Int.reduceBEq, Int.reduceNeg]
      · by_cases hr1 : 0 ≤ seen ∧ seen < n.N
        · obtain ⟨t1, t2⟩ := hst hr1.1 hr1.2 hs
          have u1 : ¬ seen < 0 := by omega
          have u2 : ¬ n.N ≤ seen := by omega
          rw [t2] at hl0
          simp -dsimp -implicitDefEqProofs only [hs, t1, t2, u1, u2, hr1.1, hr1.2, go_sem, ↓reduceIte, reduceCtorEq, Nat.reduceLT, Nat.reduceLeDiff, Nat.reduceEqDiff, Nat.reduceAdd, Nat.reduceMul, Nat.reduceSub, Nat.reduceBEq, Int.reduceLT, Int.reduceLE, Int.reduceEq, Int.reduceBEq, Int.reduceNeg]
          refine callP (samez_ok _ (srvS n (-1) addr).Z hl0.1 hl0.2) ?_
          simp -dsimp -implicitDefEqProofs only [decide_true, go_sem, ↓reduceIte, reduceCtorEq, Nat.reduceLT, Nat.reduceLeDiff, Nat.reduceEqDiff, Nat.reduceAdd, Nat.reduceMul, Nat.reduceSub, Nat.reduceBEq, Int.reduceLT, Int.reduceLE, Int.reduceEq, Int.reduceBEq, Int.reduceNeg]
        · simp -dsimp -implicitDefEqProofs only [hs, go_sem, ↓reduceIte, reduceCtorEq, Nat.reduceLT, Nat.reduceLeDiff, Nat.reduceEqDiff, Nat.reduceAdd, Nat.reduceMul, Nat.reduceSub, Nat.reduceBEq, Int.reduceLT, Int.reduceLE, Int.reduceEq, Int.reduceBEq, Int.reduceNeg]
          repeat' (first | with_reducible apply And.intro | with_reducible intro _ | with_reducible exact drawn (by kernel_rfl) | omega)
          all_goals (exfalso; exact hr1 ⟨by omega, by omega⟩)
end Go.Proofs.YtidnnaobhcffcaaGreatDoor
