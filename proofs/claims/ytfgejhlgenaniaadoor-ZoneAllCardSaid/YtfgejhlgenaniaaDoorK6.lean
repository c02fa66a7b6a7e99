/- ZoneTells: the law's contract. -/
import Derived.Test.YtfgejhlgenaniaaDoorK4
namespace Go.Proofs.YtfgejhlgenaniaaDoor
open Go.Eng
set_option linter.unusedSimpArgs false
set_option maxRecDepth 10000

theorem form_parts {r : Rec} (h : formB r = true) : isName r.N = true ∧ 1 ≤ r.K ∧ r.K ≤ 5 := by
  unfold formB at h
  simp only [Bool.and_eq_true, decide_eq_true_eq] at h
  refine ⟨by simp_all, ?_⟩
  unfold fitsB at h
  split at h
  · omega
  · split at h
    · omega
    · split at h
      · omega
      · simp at h
theorem mem_ofL {l : List Rec} {n : Bs} {k : Int} {r : Rec} : r ∈ ofL l n k ↔ r ∈ l ∧ r.N = n ∧ r.K = k := by
  unfold ofL; rw [List.mem_filter, mem_atB]; simp [and_assoc]
theorem alias_none {a : Bs} {l : List Rec} (hk : Ok a l) {r : Rec} (hr : r ∈ l) : aliasL l r.N r.K = [] := by
  unfold aliasL
  rw [List.filter_eq_nil_iff]
  intro s hs
  obtain ⟨hs1, hs2⟩ := mem_atB.1 hs
  simp only [Bool.and_eq_true, beq_iff_eq, bne_iff_ne, ne_eq, not_and, Classical.not_not]
  intro h4
  refine Classical.byContradiction fun hn => ?_
  have hc := hk.alone r hr
  obtain ⟨i, hi⟩ := List.mem_iff_getElem?.1 hr
  obtain ⟨j, hj⟩ := List.mem_iff_getElem?.1 hs1
  have hij : i ≠ j := fun e => by subst e; rw [hi] at hj; cases hj; exact hn h4
  rcases Nat.lt_or_gt_of_ne hij with h | h
  · rw [crowd_mk h hi hj rfl hs2 (.inr h4)] at hc; cases hc
  · rw [crowd_mk h hj hi hs2 rfl (.inl h4)] at hc; cases hc
/-- What is put is told. -/
theorem tells_put {a : Bs} {l : List Rec} {r : Rec} (h : putE a l r = 0) : checkV a (putL l r) = 0 ∧ askE a (putL l r) r.N r.K = 0 ∧ ((askV a (putL l r) r.N r.K).K = 4 ∨ ((askV a (putL l r) r.N r.K).K = 1 ∧ r ∈ (askV a (putL l r) r.N r.K).R)) := by
  obtain ⟨⟨hk, hl⟩, f1, u1, c1, n1, k1⟩ := put_ok_parts h
  have hc : checkV a (putL l r) = 0 := check_zero.2 ⟨k1, n1⟩
  have he : askE a (putL l r) r.N r.K = 0 := by unfold askE; rw [if_pos hc, if_pos (form_parts f1), if_pos u1]
  refine ⟨hc, he, ?_⟩
  have hm := mem_put_self hk.rise r
  unfold askV
  rw [if_pos he]
  unfold askW
  split
  · exact .inl rfl
  · have hof : r ∈ ofL (putL l r) r.N r.K := mem_ofL.2 ⟨hm, rfl, rfl⟩
    rw [if_neg (by rw [alias_none k1 hm]; simp), if_pos (List.ne_nil_of_mem hof)]
    exact .inr ⟨rfl, hof⟩
/-- What is told stands in the zone. -/
theorem ask_mem {a : Bs} {l : List Rec} {n : Bs} {k : Int} {r : Rec} (h : r ∈ (askV a l n k).R) : r ∈ l ∨ (askV a l n k).K = 4 := by
  unfold askV at *
  split at h
  · rename_i h0
    rw [if_pos h0]
    unfold askW at *
    split at h
    · rename_i c hc
      exact .inr rfl
    · left
      split at h
      · unfold aliasL at h; exact (mem_atB.1 (List.mem_filter.1 h).1).1
      · split at h
        · exact (mem_ofL.1 h).1
        · split at h <;> simp at h
  · simp at h
theorem tells_drop {a : Bs} {l : List Rec} {r : Rec} (hk : Ok a l) (hl : l.length ≤ 64) (hr : r ∈ l) (f1 : formB r = true) (u1 : underB r.N a = true) :
    dropE a l r = 0 ∧ dropA a l r = a ∧ dropR a l r = dropL l r ∧ checkV a (dropL l r) = 0 ∧ askE a (dropL l r) r.N r.K = 0 ∧ ((askV a (dropL l r) r.N r.K).K = 4 ∨ r ∉ (askV a (dropL l r) r.N r.K).R) ∧ (dropL l r).length + 1 = l.length := by
  have hh : hitR l r = true := (hit_iff hk.rise r).2 ⟨r, hr, Pl.rfl' r⟩
  have hd := drop_ok_law hk hh
  have hlen := drop_length hk.rise hh
  have h0 : dropE a l r = 0 := by unfold dropE; rw [if_pos (check_zero.2 ⟨hk, hl⟩), if_pos hh]
  have hc : checkV a (dropL l r) = 0 := check_zero.2 ⟨hd, by omega⟩
  have he : askE a (dropL l r) r.N r.K = 0 := by unfold askE; rw [if_pos hc, if_pos (form_parts f1), if_pos u1]
  refine ⟨h0, by unfold dropA; rw [if_pos h0], by unfold dropR; rw [if_pos h0]; rfl, hc, he, ?_, hlen⟩
  by_cases hm : r ∈ (askV a (dropL l r) r.N r.K).R
  · rcases ask_mem hm with h | h
    · exact absurd (Pl.rfl' r) ((mem_drop hk.rise hh).1 h).2
    · exact .inl h
  · exact .inr hm
theorem ztells_ok (a : Bs) (l : List Rec) (r : Rec) : Meets Tryd.prog 10 [zoneA a l, r.arg] (rOne (vB true)) := by
  refine meets Tryd.func10 rfl rfl Tryd.ntmps10 Tryd.results10 rfl ?_
  simp -dsimp -implicitDefEqProofs only [go_sem, ↓reduceIte, reduceCtorEq, Nat.reduceLT, Nat.reduceLeDiff, Nat.reduceEqDiff, Nat.reduceAdd, Nat.reduceMul, Nat.reduceSub, Nat.reduceBEq, Int.reduceLT, Int.reduceLE, Int.reduceEq, Int.reduceBEq, Int.reduceNeg]
  refine callP live_ok ?_
  simp -dsimp -implicitDefEqProofs only [go_sem, ↓reduceIte, reduceCtorEq, Nat.reduceLT, Nat.reduceLeDiff, Nat.reduceEqDiff, Nat.reduceAdd, Nat.reduceMul, Nat.reduceSub, Nat.reduceBEq, Int.reduceLT, Int.reduceLE, Int.reduceEq, Int.reduceBEq, Int.reduceNeg]
  refine callP (few_ok a l) ?_
  simp -dsimp -implicitDefEqProofs only [go_sem, ↓reduceIte, reduceCtorEq, Nat.reduceLT, Nat.reduceLeDiff, Nat.reduceEqDiff, Nat.reduceAdd, Nat.reduceMul, Nat.reduceSub, Nat.reduceBEq, Int.reduceLT, Int.reduceLE, Int.reduceEq, Int.reduceBEq, Int.reduceNeg]
  intro hf
  refine callP (fewRec_ok r) ?_
  simp -dsimp -implicitDefEqProofs only [go_sem, ↓reduceIte, reduceCtorEq, Nat.reduceLT, Nat.reduceLeDiff, Nat.reduceEqDiff, Nat.reduceAdd, Nat.reduceMul, Nat.reduceSub, Nat.reduceBEq, Int.reduceLT, Int.reduceLE, Int.reduceEq, Int.reduceBEq, Int.reduceNeg]
  intro hr
  refine callP (put_ok a l r (by omega)) ?_
  by_cases h1 : putE a l r = 0
  · obtain ⟨⟨hk, hl⟩, f1, u1, c1, n1, k1⟩ := put_ok_parts h1
    have e1 : putA a l r = a := by unfold putA; rw [if_pos h1]
    have e2 : putR a l r = putL l r := by unfold putR; rw [if_pos h1]
    obtain ⟨hc, he, hor⟩ := tells_put h1
    obtain ⟨d1, d2, d3, d4, d5, d6, d7⟩ := tells_drop k1 n1 (mem_put_self hk.rise r) f1 u1
    have hR := askV_len a (putL l r) r.N r.K
    have hR' := askV_len a (dropL (putL l r) r) r.N r.K
    simp -dsimp -implicitDefEqProofs only [h1, e1, e2, go_sem, ↓reduceIte, reduceCtorEq, Nat.reduceLT, Nat.reduceLeDiff, Nat.reduceEqDiff, Nat.reduceAdd, Nat.reduceMul, Nat.reduceSub, Nat.reduceBEq, Int.reduceLT, Int.reduceLE, Int.reduceEq, Int.reduceBEq, Int.reduceNeg]
    refine callP (ask_ok a (putL l r) r.N r.K (by omega)) ?_
    simp -dsimp -implicitDefEqProofs only [go_sem, ↓reduceIte, reduceCtorEq, Nat.reduceLT, Nat.reduceLeDiff, Nat.reduceEqDiff, Nat.reduceAdd, Nat.reduceMul, Nat.reduceSub, Nat.reduceBEq, Int.reduceLT, Int.reduceLE, Int.reduceEq, Int.reduceBEq, Int.reduceNeg]
    refine callP (zcheck_ok a (putL l r) (by omega)) ?_
    generalize askV a (putL l r) r.N r.K = x at *
    have hlp := putL_len l r
    have hw : IntKind.i64.wrap (((putL l r).length : Int) - 1) = ((dropL (putL l r) r).length : Int) := by rw [wrap64] <;> omega
    rcases hor with h4 | ⟨h41, hmem⟩
    · simp -dsimp -implicitDefEqProofs only [hc, he, h4, go_sem, ↓reduceIte, reduceCtorEq, Nat.reduceLT, Nat.reduceLeDiff, Nat.reduceEqDiff, Nat.reduceAdd, Nat.reduceMul, Nat.reduceSub, Nat.reduceBEq, Int.reduceLT, Int.reduceLE, Int.reduceEq, Int.reduceBEq, Int.reduceNeg]
      refine callP (drop_ok a (putL l r) r (by omega)) ?_
      simp -dsimp -implicitDefEqProofs only [d1, d2, d3, go_sem, ↓reduceIte, reduceCtorEq, Nat.reduceLT, Nat.reduceLeDiff, Nat.reduceEqDiff, Nat.reduceAdd, Nat.reduceMul, Nat.reduceSub, Nat.reduceBEq, Int.reduceLT, Int.reduceLE, Int.reduceEq, Int.reduceBEq, Int.reduceNeg]
      refine callP (ask_ok a (dropL (putL l r) r) r.N r.K (by omega)) ?_
      simp -dsimp -implicitDefEqProofs only [d5, go_sem, ↓reduceIte, reduceCtorEq, Nat.reduceLT, Nat.reduceLeDiff, Nat.reduceEqDiff, Nat.reduceAdd, Nat.reduceMul, Nat.reduceSub, Nat.reduceBEq, Int.reduceLT, Int.reduceLE, Int.reduceEq, Int.reduceBEq, Int.reduceNeg]
      refine callP (zcheck_ok a (dropL (putL l r) r) (by omega)) ?_
      generalize askV a (dropL (putL l r) r) r.N r.K = y at *
      simp -dsimp -implicitDefEqProofs only [d4, go_sem, ↓reduceIte, reduceCtorEq, Nat.reduceLT, Nat.reduceLeDiff, Nat.reduceEqDiff, Nat.reduceAdd, Nat.reduceMul, Nat.reduceSub, Nat.reduceBEq, Int.reduceLT, Int.reduceLE, Int.reduceEq, Int.reduceBEq, Int.reduceNeg]
      by_cases hy : y.K = 4
      · simp -dsimp -implicitDefEqProofs only [hy, hw, go_sem, ↓reduceIte, reduceCtorEq, Nat.reduceLT, Nat.reduceLeDiff, Nat.reduceEqDiff, Nat.reduceAdd, Nat.reduceMul, Nat.reduceSub, Nat.reduceBEq, Int.reduceLT, Int.reduceLE, Int.reduceEq, Int.reduceBEq, Int.reduceNeg]
      · have hn := d6.resolve_left hy
        simp -dsimp -implicitDefEqProofs only [hy, go_sem, ↓reduceIte, reduceCtorEq, Nat.reduceLT, Nat.reduceLeDiff, Nat.reduceEqDiff, Nat.reduceAdd, Nat.reduceMul, Nat.reduceSub, Nat.reduceBEq, Int.reduceLT, Int.reduceLE, Int.reduceEq, Int.reduceBEq, Int.reduceNeg]
        refine callP (has_ok y.R r (by omega)) ?_
        simp -dsimp -implicitDefEqProofs only [hn, hw, go_sem, ↓reduceIte, reduceCtorEq, Nat.reduceLT, Nat.reduceLeDiff, Nat.reduceEqDiff, Nat.reduceAdd, Nat.reduceMul, Nat.reduceSub, Nat.reduceBEq, Int.reduceLT, Int.reduceLE, Int.reduceEq, Int.reduceBEq, Int.reduceNeg]
    · simp -dsimp -implicitDefEqProofs only [hc, he, h41, go_sem, ↓reduceIte, reduceCtorEq, Nat.reduceLT, Nat.reduceLeDiff, Nat.reduceEqDiff, Nat.reduceAdd, Nat.reduceMul, Nat.reduceSub, Nat.reduceBEq, Int.reduceLT, Int.reduceLE, Int.reduceEq, Int.reduceBEq, Int.reduceNeg]
      refine callP (has_ok x.R r (by omega)) ?_
      simp -dsimp -implicitDefEqProofs only [hmem, go_sem, ↓reduceIte, reduceCtorEq, Nat.reduceLT, Nat.reduceLeDiff, Nat.reduceEqDiff, Nat.reduceAdd, Nat.reduceMul, Nat.reduceSub, Nat.reduceBEq, Int.reduceLT, Int.reduceLE, Int.reduceEq, Int.reduceBEq, Int.reduceNeg]
      refine callP (drop_ok a (putL l r) r (by omega)) ?_
      simp -dsimp -implicitDefEqProofs only [d1, d2, d3, go_sem, ↓reduceIte, reduceCtorEq, Nat.reduceLT, Nat.reduceLeDiff, Nat.reduceEqDiff, Nat.reduceAdd, Nat.reduceMul, Nat.reduceSub, Nat.reduceBEq, Int.reduceLT, Int.reduceLE, Int.reduceEq, Int.reduceBEq, Int.reduceNeg]
      refine callP (ask_ok a (dropL (putL l r) r) r.N r.K (by omega)) ?_
      simp -dsimp -implicitDefEqProofs only [d5, go_sem, ↓reduceIte, reduceCtorEq, Nat.reduceLT, Nat.reduceLeDiff, Nat.reduceEqDiff, Nat.reduceAdd, Nat.reduceMul, Nat.reduceSub, Nat.reduceBEq, Int.reduceLT, Int.reduceLE, Int.reduceEq, Int.reduceBEq, Int.reduceNeg]
      refine callP (zcheck_ok a (dropL (putL l r) r) (by omega)) ?_
      generalize askV a (dropL (putL l r) r) r.N r.K = y at *
      simp -dsimp -implicitDefEqProofs only [d4, go_sem, ↓reduceIte, reduceCtorEq, Nat.reduceLT, Nat.reduceLeDiff, Nat.reduceEqDiff, Nat.reduceAdd, Nat.reduceMul, Nat.reduceSub, Nat.reduceBEq, Int.reduceLT, Int.reduceLE, Int.reduceEq, Int.reduceBEq, Int.reduceNeg]
      by_cases hy : y.K = 4
      · simp -dsimp -implicitDefEqProofs only [hy, hw, go_sem, ↓reduceIte, reduceCtorEq, Nat.reduceLT, Nat.reduceLeDiff, Nat.reduceEqDiff, Nat.reduceAdd, Nat.reduceMul, Nat.reduceSub, Nat.reduceBEq, Int.reduceLT, Int.reduceLE, Int.reduceEq, Int.reduceBEq, Int.reduceNeg]
      · have hn := d6.resolve_left hy
        simp -dsimp -implicitDefEqProofs only [hy, go_sem, ↓reduceIte, reduceCtorEq, Nat.reduceLT, Nat.reduceLeDiff, Nat.reduceEqDiff, Nat.reduceAdd, Nat.reduceMul, Nat.reduceSub, Nat.reduceBEq, Int.reduceLT, Int.reduceLE, Int.reduceEq, Int.reduceBEq, Int.reduceNeg]
        refine callP (has_ok y.R r (by omega)) ?_
        simp -dsimp -implicitDefEqProofs only [hn, hw, go_sem, ↓reduceIte, reduceCtorEq, Nat.reduceLT, Nat.reduceLeDiff, Nat.reduceEqDiff, Nat.reduceAdd, Nat.reduceMul, Nat.reduceSub, Nat.reduceBEq, Int.reduceLT, Int.reduceLE, Int.reduceEq, Int.reduceBEq, Int.reduceNeg]
  · have e1 : putA a l r = [] := by unfold putA; rw [if_neg h1]
    have e2 : putR a l r = [] := by unfold putR; rw [if_neg h1]
    simp -dsimp -implicitDefEqProofs only [h1, e1, e2, go_sem, ↓reduceIte, reduceCtorEq, Nat.reduceLT, Nat.reduceLeDiff, Nat.reduceEqDiff, Nat.reduceAdd, Nat.reduceMul, Nat.reduceSub, Nat.reduceBEq, Int.reduceLT, Int.reduceLE, Int.reduceEq, Int.reduceBEq, Int.reduceNeg]
end Go.Proofs.YtfgejhlgenaniaaDoor
