/- ZoneOrder: the law's contract. -/
import Derived.Test.YtfgejhlgenaniaaDoorZ21
namespace Go.Proofs.YtfgejhlgenaniaaDoor
open Go.Eng
set_option linter.unusedSimpArgs false
set_option maxRecDepth 10000

theorem put_ok_parts {a : Bs} {l : List Rec} {r : Rec} (h : putE a l r = 0) : (Ok a l ∧ l.length ≤ 64) ∧ formB r = true ∧ underB r.N a = true ∧ crowdB (putL l r) r.N = false ∧ (putL l r).length ≤ 64 ∧ Ok a (putL l r) := by
  unfold putE at h
  split at h
  · rename_i h0
    have hk := check_zero.1 h0
    split at h
    · rename_i h1
      split at h
      · rename_i h2
        split at h
        · cases h
        · rename_i h3
          split at h
          · cases h
          · have h3' : crowdB (putL l r) r.N = false := by simpa using h3
            exact ⟨hk, h1, h2, h3', by omega, put_ok_law hk.1 h1 h2 h3'⟩
      · cases h
    · cases h
  · rename_i h0; exact absurd h h0
theorem putE_zone {a : Bs} {l : List Rec} {r : Rec} (hk : Ok a l) (hl : l.length ≤ 64) (h1 : formB r = true) (h2 : underB r.N a = true) : putE a l r = if crowdB (putL l r) r.N then 120 else if 64 < (putL l r).length then 2 else 0 := by
  unfold putE; rw [if_pos (check_zero.2 ⟨hk, hl⟩), if_pos h1, if_pos h2]
/-- In whatever order. -/
theorem order_law {a : Bs} {l : List Rec} {r s : Rec} (h1 : putE a l r = 0) (h2 : putE a l s = 0) :
    putE a (putL l r) s = putE a (putL l s) r ∧ ((Pl r s ∧ r.L ≠ s.L) ∨ (putA a (putL l r) s = putA a (putL l s) r ∧ putR a (putL l r) s = putR a (putL l s) r)) ∧
      (Pl r s → putE a (putL l r) s = 0 ∧ (putR a (putL l r) s).length = (putL l r).length) := by
  obtain ⟨⟨hk, hl⟩, f1, u1, c1, n1, k1⟩ := put_ok_parts h1
  obtain ⟨_, f2, u2, c2, n2, k2⟩ := put_ok_parts h2
  have e1 := putE_zone k1 n1 f2 u2
  have e2 := putE_zone k2 n2 f1 u1
  by_cases hp : Pl r s
  · have o1 := put_over hk.rise hp
    have o2 := put_over hk.rise (Pl.symm hp)
    rw [o1, c2, if_neg (by simp), if_neg (by omega)] at e1
    rw [o2, c1, if_neg (by simp), if_neg (by omega)] at e2
    refine ⟨e1.trans e2.symm, ?_, fun _ => ⟨e1, ?_⟩⟩
    · by_cases hL : r.L = s.L
      · have hrs : r = s := by
          obtain ⟨p1, p2, p3⟩ := hp
          cases r; cases s; simp at p1 p2 p3 hL; subst p1; subst p2; subst p3; subst hL; rfl
        subst hrs
        exact .inr ⟨rfl, rfl⟩
      · exact .inl ⟨hp, hL⟩
    · unfold putR
      rw [if_pos e1, o1, put_pl_length hk.rise hp]
  · have hc := put_comm hk.rise hp
    have hcr : crowdB (putL (putL l r) s) s.N = crowdB (putL (putL l s) r) r.N := by
      by_cases hn : r.N = s.N
      · rw [hc, hn]
      · have q1 : crowdB (putL (putL l s) r) r.N = crowdB (putL l r) r.N := by
          rw [← hc]; exact crowd_other (put_other k1.rise s (fun e => hn e.symm))
        have q2 : crowdB (putL (putL l r) s) s.N = crowdB (putL l s) s.N := by
          rw [hc]; exact crowd_other (put_other k2.rise r hn)
        rw [q1, q2, c1, c2]
    have he : putE a (putL l r) s = putE a (putL l s) r := by rw [e1, e2, hcr, hc]
    refine ⟨he, .inr ⟨?_, ?_⟩, fun h => absurd h hp⟩
    · unfold putA; rw [he]
    · unfold putR; rw [he, hc]
theorem putR_len' (a : Bs) (l : List Rec) (r : Rec) : (putR a l r).length ≤ l.length + 1 := by
  unfold putR
  have := putL_len l r
  split <;> simp <;> omega
theorem zorder_ok (a : Bs) (l : List Rec) (r s : Rec) : Meets Tryd.prog 7 [zoneA a l, r.arg, s.arg] (rOne (vB true)) := by
  refine meets Tryd.func7 rfl rfl Tryd.ntmps7 Tryd.results7 rfl ?_
  simp -dsimp -implicitDefEqProofs only [go_sem, ↓reduceIte, reduceCtorEq, Nat.reduceLT, Nat.reduceLeDiff, Nat.reduceEqDiff, Nat.reduceAdd, Nat.reduceMul, Nat.reduceSub, Nat.reduceBEq, Int.reduceLT, Int.reduceLE, Int.reduceEq, Int.reduceBEq, Int.reduceNeg]
  refine callP live_ok ?_
  simp -dsimp -implicitDefEqProofs only [go_sem, ↓reduceIte, reduceCtorEq, Nat.reduceLT, Nat.reduceLeDiff, Nat.reduceEqDiff, Nat.reduceAdd, Nat.reduceMul, Nat.reduceSub, Nat.reduceBEq, Int.reduceLT, Int.reduceLE, Int.reduceEq, Int.reduceBEq, Int.reduceNeg]
  refine callP (few_ok a l) ?_
  simp -dsimp -implicitDefEqProofs only [go_sem, ↓reduceIte, reduceCtorEq, Nat.reduceLT, Nat.reduceLeDiff, Nat.reduceEqDiff, Nat.reduceAdd, Nat.reduceMul, Nat.reduceSub, Nat.reduceBEq, Int.reduceLT, Int.reduceLE, Int.reduceEq, Int.reduceBEq, Int.reduceNeg]
  intro hf
  refine callP (fewRec_ok r) ?_
  simp -dsimp -implicitDefEqProofs only [go_sem, ↓reduceIte, reduceCtorEq, Nat.reduceLT, Nat.reduceLeDiff, Nat.reduceEqDiff, Nat.reduceAdd, Nat.reduceMul, Nat.reduceSub, Nat.reduceBEq, Int.reduceLT, Int.reduceLE, Int.reduceEq, Int.reduceBEq, Int.reduceNeg]
  intro hr
  refine callP (fewRec_ok s) ?_
  simp -dsimp -implicitDefEqProofs only [go_sem, ↓reduceIte, reduceCtorEq, Nat.reduceLT, Nat.reduceLeDiff, Nat.reduceEqDiff, Nat.reduceAdd, Nat.reduceMul, Nat.reduceSub, Nat.reduceBEq, Int.reduceLT, Int.reduceLE, Int.reduceEq, Int.reduceBEq, Int.reduceNeg]
  intro hs
  refine callP (put_ok a l r (by omega)) ?_
  simp -dsimp -implicitDefEqProofs only [go_sem, ↓reduceIte, reduceCtorEq, Nat.reduceLT, Nat.reduceLeDiff, Nat.reduceEqDiff, Nat.reduceAdd, Nat.reduceMul, Nat.reduceSub, Nat.reduceBEq, Int.reduceLT, Int.reduceLE, Int.reduceEq, Int.reduceBEq, Int.reduceNeg]
  refine callP (put_ok a l s (by omega)) ?_
  by_cases h1 : putE a l r = 0
  · by_cases h2 : putE a l s = 0
    · obtain ⟨g1, g2, g3⟩ := order_law h1 h2
      obtain ⟨⟨hk, hl⟩, f1, u1, c1, n1, k1⟩ := put_ok_parts h1
      obtain ⟨_, f2, u2, c2, n2, k2⟩ := put_ok_parts h2
      have e1 : putA a l r = a := by unfold putA; rw [if_pos h1]
      have e2 : putR a l r = putL l r := by unfold putR; rw [if_pos h1]
      have e3 : putA a l s = a := by unfold putA; rw [if_pos h2]
      have e4 : putR a l s = putL l s := by unfold putR; rw [if_pos h2]
      have n3 := putR_len' a (putL l r) s
      have n4 := putR_len' a (putL l s) r
      simp -dsimp -implicitDefEqProofs only [h1, h2, e1, e2, e3, e4, go_sem, ↓reduceIte, reduceCtorEq, Nat.reduceLT, Nat.reduceLeDiff, Nat.reduceEqDiff, Nat.reduceAdd, Nat.reduceMul, Nat.reduceSub, Nat.reduceBEq, Int.reduceLT, Int.reduceLE, Int.reduceEq, Int.reduceBEq, Int.reduceNeg]
      refine ⟨fun hn => ⟨fun hkk => ?_, fun hkk => ?_⟩, fun hn => ?_⟩
      · refine callP (put_ok a (putL l r) s (by omega)) ?_
        simp -dsimp -implicitDefEqProofs only [go_sem, ↓reduceIte, reduceCtorEq, Nat.reduceLT, Nat.reduceLeDiff, Nat.reduceEqDiff, Nat.reduceAdd, Nat.reduceMul, Nat.reduceSub, Nat.reduceBEq, Int.reduceLT, Int.reduceLE, Int.reduceEq, Int.reduceBEq, Int.reduceNeg]
        refine callP (put_ok a (putL l s) r (by omega)) ?_
        by_cases hv : r.V = s.V
        · have hp : Pl r s := ⟨hn, hkk, hv⟩
          obtain ⟨e5, e6⟩ := g3 hp
          have e7 : putE a (putL l s) r = 0 := g1 ▸ e5
          have hvb : (r.V == s.V) = true := by simp [hv]
          by_cases hL : r.L = s.L
          · obtain ⟨q1, q2⟩ := g2.resolve_left (fun h => h.2 hL)
            simp -dsimp -implicitDefEqProofs only [e5, e7, hvb, hL, go_sem, ↓reduceIte, reduceCtorEq, Nat.reduceLT, Nat.reduceLeDiff, Nat.reduceEqDiff, Nat.reduceAdd, Nat.reduceMul, Nat.reduceSub, Nat.reduceBEq, Int.reduceLT, Int.reduceLE, Int.reduceEq, Int.reduceBEq, Int.reduceNeg]
            refine callP (rsame_ok _ _ _ (putR a (putL l s) r) (by omega)) ?_
            simp -dsimp -implicitDefEqProofs only [q1, q2, go_sem, ↓reduceIte, reduceCtorEq, Nat.reduceLT, Nat.reduceLeDiff, Nat.reduceEqDiff, Nat.reduceAdd, Nat.reduceMul, Nat.reduceSub, Nat.reduceBEq, Int.reduceLT, Int.reduceLE, Int.reduceEq, Int.reduceBEq, Int.reduceNeg]
            rw [← q2, e6]
          · simp -dsimp -implicitDefEqProofs only [e5, e7, hvb, hL, go_sem, ↓reduceIte, reduceCtorEq, Nat.reduceLT, Nat.reduceLeDiff, Nat.reduceEqDiff, Nat.reduceAdd, Nat.reduceMul, Nat.reduceSub, Nat.reduceBEq, Int.reduceLT, Int.reduceLE, Int.reduceEq, Int.reduceBEq, Int.reduceNeg]
            rw [e6]
        · obtain ⟨q1, q2⟩ := g2.resolve_left (fun h => hv h.1.2.2)
          have hvb : (r.V == s.V) = false := by simp [hv]
          simp -dsimp -implicitDefEqProofs only [g1, hvb, go_sem, ↓reduceIte, reduceCtorEq, Nat.reduceLT, Nat.reduceLeDiff, Nat.reduceEqDiff, Nat.reduceAdd, Nat.reduceMul, Nat.reduceSub, Nat.reduceBEq, Int.reduceLT, Int.reduceLE, Int.reduceEq, Int.reduceBEq, Int.reduceNeg]
          refine callP (rsame_ok _ _ _ (putR a (putL l s) r) (by omega)) ?_
          simp -dsimp -implicitDefEqProofs only [q1, q2, go_sem, ↓reduceIte, reduceCtorEq, Nat.reduceLT, Nat.reduceLeDiff, Nat.reduceEqDiff, Nat.reduceAdd, Nat.reduceMul, Nat.reduceSub, Nat.reduceBEq, Int.reduceLT, Int.reduceLE, Int.reduceEq, Int.reduceBEq, Int.reduceNeg]
      · obtain ⟨q1, q2⟩ := g2.resolve_left (fun h => hkk h.1.2.1)
        refine callP (put_ok a (putL l r) s (by omega)) ?_
        simp -dsimp -implicitDefEqProofs only [go_sem, ↓reduceIte, reduceCtorEq, Nat.reduceLT, Nat.reduceLeDiff, Nat.reduceEqDiff, Nat.reduceAdd, Nat.reduceMul, Nat.reduceSub, Nat.reduceBEq, Int.reduceLT, Int.reduceLE, Int.reduceEq, Int.reduceBEq, Int.reduceNeg]
        refine callP (put_ok a (putL l s) r (by omega)) ?_
        simp -dsimp -implicitDefEqProofs only [g1, go_sem, ↓reduceIte, reduceCtorEq, Nat.reduceLT, Nat.reduceLeDiff, Nat.reduceEqDiff, Nat.reduceAdd, Nat.reduceMul, Nat.reduceSub, Nat.reduceBEq, Int.reduceLT, Int.reduceLE, Int.reduceEq, Int.reduceBEq, Int.reduceNeg]
        refine callP (rsame_ok _ _ _ (putR a (putL l s) r) (by omega)) ?_
        simp -dsimp -implicitDefEqProofs only [q1, q2, go_sem, ↓reduceIte, reduceCtorEq, Nat.reduceLT, Nat.reduceLeDiff, Nat.reduceEqDiff, Nat.reduceAdd, Nat.reduceMul, Nat.reduceSub, Nat.reduceBEq, Int.reduceLT, Int.reduceLE, Int.reduceEq, Int.reduceBEq, Int.reduceNeg]
      · obtain ⟨q1, q2⟩ := g2.resolve_left (fun h => hn h.1.1)
        refine callP (put_ok a (putL l r) s (by omega)) ?_
        simp -dsimp -implicitDefEqProofs only [go_sem, ↓reduceIte, reduceCtorEq, Nat.reduceLT, Nat.reduceLeDiff, Nat.reduceEqDiff, Nat.reduceAdd, Nat.reduceMul, Nat.reduceSub, Nat.reduceBEq, Int.reduceLT, Int.reduceLE, Int.reduceEq, Int.reduceBEq, Int.reduceNeg]
        refine callP (put_ok a (putL l s) r (by omega)) ?_
        simp -dsimp -implicitDefEqProofs only [g1, go_sem, ↓reduceIte, reduceCtorEq, Nat.reduceLT, Nat.reduceLeDiff, Nat.reduceEqDiff, Nat.reduceAdd, Nat.reduceMul, Nat.reduceSub, Nat.reduceBEq, Int.reduceLT, Int.reduceLE, Int.reduceEq, Int.reduceBEq, Int.reduceNeg]
        refine callP (rsame_ok _ _ _ (putR a (putL l s) r) (by omega)) ?_
        simp -dsimp -implicitDefEqProofs only [q1, q2, go_sem, ↓reduceIte, reduceCtorEq, Nat.reduceLT, Nat.reduceLeDiff, Nat.reduceEqDiff, Nat.reduceAdd, Nat.reduceMul, Nat.reduceSub, Nat.reduceBEq, Int.reduceLT, Int.reduceLE, Int.reduceEq, Int.reduceBEq, Int.reduceNeg]
    · simp -dsimp -implicitDefEqProofs only [h1, h2, go_sem, ↓reduceIte, reduceCtorEq, Nat.reduceLT, Nat.reduceLeDiff, Nat.reduceEqDiff, Nat.reduceAdd, Nat.reduceMul, Nat.reduceSub, Nat.reduceBEq, Int.reduceLT, Int.reduceLE, Int.reduceEq, Int.reduceBEq, Int.reduceNeg]
  · simp -dsimp -implicitDefEqProofs only [h1, go_sem, ↓reduceIte, reduceCtorEq, Nat.reduceLT, Nat.reduceLeDiff, Nat.reduceEqDiff, Nat.reduceAdd, Nat.reduceMul, Nat.reduceSub, Nat.reduceBEq, Int.reduceLT, Int.reduceLE, Int.reduceEq, Int.reduceBEq, Int.reduceNeg]
end Go.Proofs.YtfgejhlgenaniaaDoor
