/- ZoneBack: the law's contract. -/
import Derived.Test.YtfgejhlgenaniaaDoorK6
namespace Go.Proofs.YtfgejhlgenaniaaDoor
open Go.Eng
set_option linter.unusedSimpArgs false
set_option maxRecDepth 10000

theorem back_law {a : Bs} {l : List Rec} (hk : Ok a l) (hl : l.length ≤ 64) {r : Rec} (hr : r ∈ l) :
    (dropE a l r = 0 ∧ dropA a l r = a ∧ dropR a l r = dropL l r) ∧ (putE a (dropL l r) r = 0 ∧ putA a (dropL l r) r = a ∧ putR a (dropL l r) r = l) ∧
    (putE a l r = 0 ∧ putA a l r = a ∧ putR a l r = l) ∧ dropE a (dropL l r) r = 120 ∧ (dropL l r).length ≤ 64 := by
  have f1 := hk.form r hr
  have u1 := hk.und r hr
  obtain ⟨d1, d2, d3, d4, d5, d6, d7⟩ := tells_drop hk hl hr f1 u1
  have hh : hitR l r = true := (hit_iff hk.rise r).2 ⟨r, hr, Pl.rfl' r⟩
  have hd := drop_ok_law hk hh
  have hback : putL (dropL l r) r = l := by
    refine rises_ext (putL_rises hd.rise r) hk.rise fun x => ?_
    rw [mem_put hd.rise, mem_drop hk.rise hh]
    constructor
    · rintro (rfl | ⟨⟨h, _⟩, _⟩)
      · exact hr
      · exact h
    · intro hx
      by_cases hp : Pl x r
      · exact .inl (pl_eq hk.rise hx hr hp)
      · exact .inr ⟨⟨hx, hp⟩, hp⟩
  have hself := put_self hk.rise hr
  have hc := hk.alone r hr
  have p1 : putE a (dropL l r) r = 0 := by
    rw [putE_zone hd (by omega) f1 u1, hback, hc, if_neg (by simp), if_neg (by omega)]
  have p2 : putE a l r = 0 := by
    rw [putE_zone hk (by omega) f1 u1, hself, hc, if_neg (by simp), if_neg (by omega)]
  refine ⟨⟨d1, d2, d3⟩, ⟨p1, by unfold putA; rw [if_pos p1], by unfold putR; rw [if_pos p1, hback]⟩, ⟨p2, by unfold putA; rw [if_pos p2], by unfold putR; rw [if_pos p2, hself]⟩, ?_, by omega⟩
  have hn : hitR (dropL l r) r = false := by
    rw [Bool.eq_false_iff]
    intro h
    obtain ⟨x, hx, hp⟩ := (hit_iff hd.rise r).1 h
    exact ((mem_drop hk.rise hh).1 hx).2 hp
  unfold dropE
  rw [if_pos d4, hn, if_neg (by simp)]
theorem read_u8 {ds : List D} (h : shpG tys 6 5 ds) : ∃ n : Nat, n < 256 ∧ ds = [.v (.int .u8 (n : Int))] := by
  obtain ⟨x, rfl, h1, h2⟩ : ∃ x, ds = [.v (.int .u8 x)] ∧ IntKind.u8.min ≤ x ∧ x ≤ IntKind.u8.max := h
  have h1' : 0 ≤ x := h1
  have h2' : x ≤ 255 := h2
  exact ⟨x.toNat, by omega, by rw [Int.toNat_of_nonneg h1']⟩
theorem zback_ok (a : Bs) (l : List Rec) (k : Nat) (hk : k < 256) : Meets Tryd.prog 11 [zoneA a l, (false, [vD (.v (.int .u8 (k : Int)))])] (rOne (vB true)) := by
  refine meets Tryd.func11 rfl rfl Tryd.ntmps11 Tryd.results11 rfl ?_
  simp -dsimp -implicitDefEqProofs only [go_sem, ↓reduceIte, reduceCtorEq, Nat.reduceLT, Nat.reduceLeDiff, Nat.reduceEqDiff, Nat.reduceAdd, Nat.reduceMul, Nat.reduceSub, Nat.reduceBEq, Int.reduceLT, Int.reduceLE, Int.reduceEq, Int.reduceBEq, Int.reduceNeg]
  refine callP live_ok ?_
  simp -dsimp -implicitDefEqProofs only [go_sem, ↓reduceIte, reduceCtorEq, Nat.reduceLT, Nat.reduceLeDiff, Nat.reduceEqDiff, Nat.reduceAdd, Nat.reduceMul, Nat.reduceSub, Nat.reduceBEq, Int.reduceLT, Int.reduceLE, Int.reduceEq, Int.reduceBEq, Int.reduceNeg]
  refine callP (few_ok a l) ?_
  simp -dsimp -implicitDefEqProofs only [go_sem, ↓reduceIte, reduceCtorEq, Nat.reduceLT, Nat.reduceLeDiff, Nat.reduceEqDiff, Nat.reduceAdd, Nat.reduceMul, Nat.reduceSub, Nat.reduceBEq, Int.reduceLT, Int.reduceLE, Int.reduceEq, Int.reduceBEq, Int.reduceNeg]
  intro hf
  refine callP (zcheck_ok a l (by omega)) ?_
  simp -dsimp -implicitDefEqProofs only [go_sem, ↓reduceIte, reduceCtorEq, Nat.reduceLT, Nat.reduceLeDiff, Nat.reduceEqDiff, Nat.reduceAdd, Nat.reduceMul, Nat.reduceSub, Nat.reduceBEq, Int.reduceLT, Int.reduceLE, Int.reduceEq, Int.reduceBEq, Int.reduceNeg]
  intro h0 hne
  obtain ⟨ho, hl⟩ := check_zero.1 h0
  have hlt : k % l.length < l.length := Nat.mod_lt _ (by omega)
  obtain ⟨r, hx⟩ : ∃ r, l[k % l.length]? = some r := ⟨_, List.getElem?_eq_getElem hlt⟩
  have hw : IntKind.i64.wrap (k : Int) = (k : Int) := by rw [wrap64] <;> omega
  have hm : Int.tmod (k : Int) (l.length : Int) = ((k % l.length : Nat) : Int) := rfl
  obtain ⟨⟨d1, d2, d3⟩, ⟨p1, p2, p3⟩, ⟨q1, q2, q3⟩, g1, g2⟩ := back_law ho hl (List.mem_of_getElem? hx)
  refine ⟨hne, ?_⟩
  simp -dsimp -implicitDefEqProofs only [hw, hm, hne, hx, forall_eq', go_sem, ↓reduceIte, reduceCtorEq, Nat.reduceLT, Nat.reduceLeDiff, Nat.reduceEqDiff, Nat.reduceAdd, Nat.reduceMul, Nat.reduceSub, Nat.reduceBEq, Int.reduceLT, Int.reduceLE, Int.reduceEq, Int.reduceBEq, Int.reduceNeg]
  refine ⟨by omega, hlt, drawn (by kernel_rfl), ?_⟩
  refine callP (drop_ok a l r (by omega)) ?_
  simp -dsimp -implicitDefEqProofs only [d1, d2, d3, go_sem, ↓reduceIte, reduceCtorEq, Nat.reduceLT, Nat.reduceLeDiff, Nat.reduceEqDiff, Nat.reduceAdd, Nat.reduceMul, Nat.reduceSub, Nat.reduceBEq, Int.reduceLT, Int.reduceLE, Int.reduceEq, Int.reduceBEq, Int.reduceNeg]
  refine callP (put_ok a (dropL l r) r (by omega)) ?_
  simp -dsimp -implicitDefEqProofs only [p1, p2, p3, go_sem, ↓reduceIte, reduceCtorEq, Nat.reduceLT, Nat.reduceLeDiff, Nat.reduceEqDiff, Nat.reduceAdd, Nat.reduceMul, Nat.reduceSub, Nat.reduceBEq, Int.reduceLT, Int.reduceLE, Int.reduceEq, Int.reduceBEq, Int.reduceNeg]
  refine callP (put_ok a l r (by omega)) ?_
  simp -dsimp -implicitDefEqProofs only [q1, q2, q3, go_sem, ↓reduceIte, reduceCtorEq, Nat.reduceLT, Nat.reduceLeDiff, Nat.reduceEqDiff, Nat.reduceAdd, Nat.reduceMul, Nat.reduceSub, Nat.reduceBEq, Int.reduceLT, Int.reduceLE, Int.reduceEq, Int.reduceBEq, Int.reduceNeg]
  refine callP (drop_ok a (dropL l r) r (by omega)) ?_
  simp -dsimp -implicitDefEqProofs only [g1, go_sem, ↓reduceIte, reduceCtorEq, Nat.reduceLT, Nat.reduceLeDiff, Nat.reduceEqDiff, Nat.reduceAdd, Nat.reduceMul, Nat.reduceSub, Nat.reduceBEq, Int.reduceLT, Int.reduceLE, Int.reduceEq, Int.reduceBEq, Int.reduceNeg]
  refine callP (rsame_ok _ _ l l (by omega)) ?_
  simp -dsimp -implicitDefEqProofs only [go_sem, ↓reduceIte, reduceCtorEq, Nat.reduceLT, Nat.reduceLeDiff, Nat.reduceEqDiff, Nat.reduceAdd, Nat.reduceMul, Nat.reduceSub, Nat.reduceBEq, Int.reduceLT, Int.reduceLE, Int.reduceEq, Int.reduceBEq, Int.reduceNeg]
  refine callP (rsame_ok _ _ l l (by omega)) ?_
  simp -dsimp -implicitDefEqProofs only [go_sem, ↓reduceIte, reduceCtorEq, Nat.reduceLT, Nat.reduceLeDiff, Nat.reduceEqDiff, Nat.reduceAdd, Nat.reduceMul, Nat.reduceSub, Nat.reduceBEq, Int.reduceLT, Int.reduceLE, Int.reduceEq, Int.reduceBEq, Int.reduceNeg]
end Go.Proofs.YtfgejhlgenaniaaDoor
