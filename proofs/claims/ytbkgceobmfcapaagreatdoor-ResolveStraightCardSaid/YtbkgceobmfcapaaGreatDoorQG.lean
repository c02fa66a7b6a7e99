
/- ResolveFinds: the law's contract. ResolveKept: the law's contract. ResolveStays: the law's contract. ResolveOthers: the law's contract. Plain laws of a net of one zone. ResolveAlias: the law's contract. -/
import Derived.Test.YtbkgceobmfcapaaGreatDoorQF
namespace Go.Proofs.YtbkgceobmfcapaaGreatDoor
open Go.Eng
set_option linter.unusedSimpArgs false
set_option maxRecDepth 10000

theorem rfinds14_ok (n : Nt) (seen : Int) (L : List Kp) (now : Int) (name : Bs) (k : Int) (hk : ∀ c ∈ n.C, -9223372036854775808 ≤ c.B ∧ c.B ≤ 9223372036854775807) (hw : ∀ c ∈ n.C, c.W.length ≤ 9223372036854775807) :
    Meets Tryz.prog 3 [n.arg, (false, [vI seen]), cacheA L, (false, [vI now]), (false, [vS name]), (false, [vI k])] (rOne (vB true)) := by
  refine meets Tryz.func3 rfl rfl Tryz.ntmps3 Tryz.results3 rfl ?_
  simp -dsimp -implicitDefEqProofs only [go_sem, ↓reduceIte, reduceCtorEq, Nat.reduceLT, Nat.reduceLeDiff, Nat.reduceEqDiff, Nat.reduceAdd, Nat.reduceMul, Nat.reduceSub, Nat.reduceBEq, Int.reduceLT, Int.reduceLE, Int.reduceEq, Int.reduceBEq, Int.reduceNeg]
  refine callP live14_ok ?_
  simp -dsimp -implicitDefEqProofs only [go_sem, ↓reduceIte, reduceCtorEq, Nat.reduceLT, Nat.reduceLeDiff, Nat.reduceEqDiff, Nat.reduceAdd, Nat.reduceMul, Nat.reduceSub, Nat.reduceBEq, Int.reduceLT, Int.reduceLE, Int.reduceEq, Int.reduceBEq, Int.reduceNeg]
  refine callP (few14_ok n L name) ?_
  cases hf : fewN n && fewC L && decide (name.length ≤ 200) with
  | false => simp -dsimp -implicitDefEqProofs only [hf, go_sem, ↓reduceIte, reduceCtorEq, Nat.reduceLT, Nat.reduceLeDiff, Nat.reduceEqDiff, Nat.reduceAdd, Nat.reduceMul, Nat.reduceSub, Nat.reduceBEq, Int.reduceLT, Int.reduceLE, Int.reduceEq, Int.reduceBEq, Int.reduceNeg]
  | true =>
    have hf2 := hf
    simp only [Bool.and_eq_true, decide_eq_true_eq] at hf2
    obtain ⟨⟨hfn, hfc⟩, hfl⟩ := hf2
    have hz := sz_of hfn hk hw
    have hc := few_cz hfc
    have hfl := findL_len n seen hc now name k
    have hcz := fc14_cz n seen L now name k
    simp -dsimp -implicitDefEqProofs only [hf, go_sem, ↓reduceIte, reduceCtorEq, Nat.reduceLT, Nat.reduceLeDiff, Nat.reduceEqDiff, Nat.reduceAdd, Nat.reduceMul, Nat.reduceSub, Nat.reduceBEq, Int.reduceLT, Int.reduceLE, Int.reduceEq, Int.reduceBEq, Int.reduceNeg]
    refine callP (find14_ok n hz seen L hc now name k) ?_
    simp -dsimp -implicitDefEqProofs only [go_sem, ↓reduceIte, reduceCtorEq, Nat.reduceLT, Nat.reduceLeDiff, Nat.reduceEqDiff, Nat.reduceAdd, Nat.reduceMul, Nat.reduceSub, Nat.reduceBEq, Int.reduceLT, Int.reduceLE, Int.reduceEq, Int.reduceBEq, Int.reduceNeg]
    refine callP (rfind14_ok n hz seen L hc now name k) ?_
    simp -dsimp -implicitDefEqProofs only [go_sem, ↓reduceIte, reduceCtorEq, Nat.reduceLT, Nat.reduceLeDiff, Nat.reduceEqDiff, Nat.reduceAdd, Nat.reduceMul, Nat.reduceSub, Nat.reduceBEq, Int.reduceLT, Int.reduceLE, Int.reduceEq, Int.reduceBEq, Int.reduceNeg]
    refine callP (rrecs14_ok _ _ (by omega)) ?_
    simp -dsimp -implicitDefEqProofs only [decide_true, go_sem, ↓reduceIte, reduceCtorEq, Nat.reduceLT, Nat.reduceLeDiff, Nat.reduceEqDiff, Nat.reduceAdd, Nat.reduceMul, Nat.reduceSub, Nat.reduceBEq, Int.reduceLT, Int.reduceLE, Int.reduceEq, Int.reduceBEq, Int.reduceNeg]
    refine callP (rsame14_ok _ _ (by have := hcz.l; omega) (fun x hx => by have := hcz.r x hx; omega)) ?_
    simp -dsimp -implicitDefEqProofs only [decide_true, go_sem, ↓reduceIte, reduceCtorEq, Nat.reduceLT, Nat.reduceLeDiff, Nat.reduceEqDiff, Nat.reduceAdd, Nat.reduceMul, Nat.reduceSub, Nat.reduceBEq, Int.reduceLT, Int.reduceLE, Int.reduceEq, Int.reduceBEq, Int.reduceNeg]
end Go.Proofs.YtbkgceobmfcapaaGreatDoor
namespace Go.Proofs.YtbkgceobmfcapaaGreatDoor
open Go.Eng
set_option linter.unusedSimpArgs false
set_option maxRecDepth 10000

/-- What was found: the cache has it, until then. -/
theorem kept_law {n : Nt} {seen : Int} {L : List Kp} {now : Int} {name : Bs} {k : Int} (h : findE n seen L now name k = 0 ∨ findE n seen L now name k = 131) (hnow : now ≤ 1099511627776 - 2000) :
    Fg n seen L now name k ∧ (findE n seen L now name k = if findL n seen L now name k = [] then 131 else 0) ∧
    ∃ x, kpF (findC n seen L now name k) name k = some x ∧ now < x.U ∧ x.U ≤ 1099511627776 ∧ x.R = findL n seen L now name k := by
  have g := find_good (okF_iff.2 (h.elim .inl fun e => .inr (.inr e)))
  refine ⟨g, ?_⟩
  have hc := fc14_ok g
  have top : ∀ x, kpF (findC n seen L now name k) name k = some x → x.U ≤ 1099511627776 := fun x hx => by
    have hm := (chkC_iff.1 hc).2.1 x (find_some hx).1
    unfold mayB timeB at hm
    simp only [Bool.and_eq_true, decide_eq_true_eq] at hm
    exact hm.1.1.2.2
  cases hh : heldV L now name k with
  | some R =>
    obtain ⟨e1, e2, e3⟩ := find_hit g hh
    rw [e1, e2]
    refine ⟨rfl, ?_⟩
    have hv := hh
    unfold heldV at hv
    rw [if_pos g.c] at hv
    cases hf : kpF L name k with
    | none => rw [hf] at hv; cases hv
    | some x =>
      rw [hf] at hv
      have hv : (if now < x.U then some x.R else none) = some R := hv
      by_cases hu : now < x.U
      · rw [if_pos hu] at hv
        have hx : kpF (findC n seen L now name k) name k = some x := by rw [e3]; exact hf
        exact ⟨x, hx, hu, top x hx, Option.some.inj hv⟩
      · rw [if_neg hu] at hv; cases hv
  | none =>
    obtain ⟨e1, e2, e3⟩ := find_miss g hh
    rw [e1] at h
    have hl : (wayV n seen name k).E ≠ 130 := by omega
    rw [if_neg hl] at e3
    obtain ⟨w1, w2, w3, w4, w5⟩ := way_kept hl
    obtain ⟨q1, q2, _, _, _⟩ := quest g.q
    rw [e1, e2]
    refine ⟨?_, ?_⟩
    · rcases w5 with ⟨a, b⟩ | ⟨a, b, _⟩
      · rw [a, if_neg b]
      · rw [a, if_pos b]
    · have hx : kpF (findC n seen L now name k) name k = some (keptOf n seen now name k) := by rw [e3]; exact keep_find (trim_ok g.c now) _
      refine ⟨_, hx, ?_, top _ hx, rfl⟩
      show now < min (now + (wayV n seen name k).F) 1099511627776
      omega
theorem way_nil (name : Bs) (k : Int) : wayV lv0 (-1) name k = lostW := by
  unfold wayV askG stepA
  rw [show srvB lv0 (-1) 0 = false from by kernel_rfl]
  rfl
theorem held_at {X : List Kp} (h : chkC X = 0) {name : Bs} {k : Int} {x : Kp} (hx : kpF X name k = some x) (t : Int) : heldV X t name k = if t < x.U then some x.R else none := by
  unfold heldV
  rw [if_pos h, hx]
set_option maxHeartbeats 4000000 in
theorem rkept14_ok (n : Nt) (seen : Int) (L : List Kp) (now : Int) (name : Bs) (k : Int) (o : Nt) (from_ : Int) (later : Int) (hk : ∀ c ∈ n.C, -9223372036854775808 ≤ c.B ∧ c.B ≤ 9223372036854775807) (hw : ∀ c ∈ n.C, c.W.length ≤ 9223372036854775807)
    (hk2 : ∀ c ∈ o.C, -9223372036854775808 ≤ c.B ∧ c.B ≤ 9223372036854775807) (hw2 : ∀ c ∈ o.C, c.W.length ≤ 9223372036854775807) :
    Meets Tryz.prog 4 [n.arg, (false, [vI seen]), cacheA L, (false, [vI now]), (false, [vS name]), (false, [vI k]), o.arg, (false, [vI from_]), (false, [vI later])] (rOne (vB true)) := by
  refine meets Tryz.func4 rfl rfl Tryz.ntmps4 Tryz.results4 rfl ?_
  simp -dsimp -implicitDefEqProofs only [go_sem, ↓reduceIte, reduceCtorEq, Nat.reduceLT, Nat.reduceLeDiff, Nat.reduceEqDiff, Nat.reduceAdd, Nat.reduceMul, Nat.reduceSub, Nat.reduceBEq, Int.reduceLT, Int.reduceLE, Int.reduceEq, Int.reduceBEq, Int.reduceNeg]
  refine callP live14_ok ?_
  simp -dsimp -implicitDefEqProofs only [go_sem, ↓reduceIte, reduceCtorEq, Nat.reduceLT, Nat.reduceLeDiff, Nat.reduceEqDiff, Nat.reduceAdd, Nat.reduceMul, Nat.reduceSub, Nat.reduceBEq, Int.reduceLT, Int.reduceLE, Int.reduceEq, Int.reduceBEq, Int.reduceNeg]
  refine callP (few14_ok n L name) ?_
  cases hf : fewN n && fewC L && decide (name.length ≤ 200) with
  | false => simp -dsimp -implicitDefEqProofs only [hf, go_sem, ↓reduceIte, reduceCtorEq, Nat.reduceLT, Nat.reduceLeDiff, Nat.reduceEqDiff, Nat.reduceAdd, Nat.reduceMul, Nat.reduceSub, Nat.reduceBEq, Int.reduceLT, Int.reduceLE, Int.reduceEq, Int.reduceBEq, Int.reduceNeg]
  | true =>
    have hf2 := hf
    simp only [Bool.and_eq_true, decide_eq_true_eq] at hf2
    obtain ⟨⟨hfn, hfc⟩, hfl⟩ := hf2
    have hz := sz_of hfn hk hw
    have hc := few_cz hfc
    simp -dsimp -implicitDefEqProofs only [hf, go_sem, ↓reduceIte, reduceCtorEq, Nat.reduceLT, Nat.reduceLeDiff, Nat.reduceEqDiff, Nat.reduceAdd, Nat.reduceMul, Nat.reduceSub, Nat.reduceBEq, Int.reduceLT, Int.reduceLE, Int.reduceEq, Int.reduceBEq, Int.reduceNeg]
    refine callP (few14_ok o [] []) ?_
    cases hfo : fewN o && fewC [] && decide (([] : Bs).length ≤ 200) with
    | false => simp -dsimp -implicitDefEqProofs only [hfo, go_sem, ↓reduceIte, reduceCtorEq, Nat.reduceLT, Nat.reduceLeDiff, Nat.reduceEqDiff, Nat.reduceAdd, Nat.reduceMul, Nat.reduceSub, Nat.reduceBEq, Int.reduceLT, Int.reduceLE, Int.reduceEq, Int.reduceBEq, Int.reduceNeg]
    | true =>
      have hf2 := hfo
      simp only [Bool.and_eq_true, decide_eq_true_eq] at hf2
      have hzo := sz_of hf2.1.1 hk2 hw2
      simp -dsimp -implicitDefEqProofs only [hfo, go_sem, ↓reduceIte, reduceCtorEq, Nat.reduceLT, Nat.reduceLeDiff, Nat.reduceEqDiff, Nat.reduceAdd, Nat.reduceMul, Nat.reduceSub, Nat.reduceBEq, Int.reduceLT, Int.reduceLE, Int.reduceEq, Int.reduceBEq, Int.reduceNeg]
      refine callP (check_okN o hzo) ?_
      by_cases ho : chkN o = 0
      · simp -dsimp -implicitDefEqProofs only [ho, go_sem, ↓reduceIte, reduceCtorEq, Nat.reduceLT, Nat.reduceLeDiff, Nat.reduceEqDiff, Nat.reduceAdd, Nat.reduceMul, Nat.reduceSub, Nat.reduceBEq, Int.reduceLT, Int.reduceLE, Int.reduceEq, Int.reduceBEq, Int.reduceNeg]
        intro q1 q2 q3
        refine callP (find14_ok n hz seen L hc now name k) ?_
        by_cases hE : findE n seen L now name k = 0 ∨ findE n seen L now name k = 131
        · obtain ⟨g, hEl, x, hx, hu1, hu2, hR⟩ := kept_law hE (by omega)
          have hcX := fc14_ok g
          have hcz := fc14_cz n seen L now name k
          have hll := findL_len n seen hc now name k
          have hut : untilV (findC n seen L now name k) name k = x.U := by unfold untilV; rw [hx]
          have huo := until_ok (findC n seen L now name k) (by have := hcz.l; omega) name k
          rw [hut] at huo
          obtain ⟨g1, _, _, _, g5⟩ := quest g.q
          have hg2 : now ≤ later → later < x.U → Fg o from_ (findC n seen L now name k) later name k := fun a b => ⟨hcX, ho, quest_of ⟨by omega, by omega, by omega, by omega, g5⟩, g.s⟩
          have hg3 : Fg lv0 (-1) (findC n seen L now name k) x.U name k := ⟨hcX, by kernel_rfl, quest_of ⟨by omega, by omega, by omega, by show (-1 : Int) < 0; omega, g5⟩, g.s⟩
          have hm3 := (find_miss hg3 (by rw [held_at hcX hx, if_neg (by omega)])).1
          rw [way_nil] at hm3
          have f3 := find14_ok lv0 lv_sz.2 (-1) (findC n seen L now name k) hcz x.U name k
          rw [hm3] at f3
          have f2 := find14_ok o hzo from_ (findC n seen L now name k) hcz later name k
          have hf2 : now ≤ later → later < x.U → findE o from_ (findC n seen L now name k) later name k = findE n seen L now name k ∧ findL o from_ (findC n seen L now name k) later name k = findL n seen L now name k ∧ findC o from_ (findC n seen L now name k) later name k = findC n seen L now name k := fun a b => by
            obtain ⟨a1, a2, a3⟩ := find_hit (hg2 a b) (R := x.R) (by rw [held_at hcX hx, if_pos (by omega)])
            rw [a1, a2, a3, hR, ← hEl]; exact ⟨rfl, rfl, rfl⟩
          have hu3 : ¬ x.U ≤ now := by omega
          have e0 : lostW.E = 130 := rfl
          have hrr := rrecs14_ok (findL n seen L now name k) (findL n seen L now name k) (by omega)
          have hss := rsame14_ok (findC n seen L now name k) (findC n seen L now name k) (by have := hcz.l; omega) (fun x hx => by have := hcz.r x hx; omega)
          rw [decide_eq_true rfl] at hrr hss
          by_cases hRR : findL n seen L now name k = []
          · rw [if_pos hRR] at hEl
            have hlen : ((findL n seen L now name k).length : Int) = 0 := by rw [hRR]; rfl
            simp -dsimp -implicitDefEqProofs only [hEl, go_sem, ↓reduceIte, reduceCtorEq, Nat.reduceLT, Nat.reduceLeDiff, Nat.reduceEqDiff, Nat.reduceAdd, Nat.reduceMul, Nat.reduceSub, Nat.reduceBEq, Int.reduceLT, Int.reduceLE, Int.reduceEq, Int.reduceBEq, Int.reduceNeg]
            refine callP huo ?_
            simp -dsimp -implicitDefEqProofs only [hu3, hlen, go_sem, ↓reduceIte, reduceCtorEq, Nat.reduceLT, Nat.reduceLeDiff, Nat.reduceEqDiff, Nat.reduceAdd, Nat.reduceMul, Nat.reduceSub, Nat.reduceBEq, Int.reduceLT, Int.reduceLE, Int.reduceEq, Int.reduceBEq, Int.reduceNeg]
            intro a b
            obtain ⟨b1, b2, b3⟩ := hf2 a b
            rw [b1, b2, b3] at f2
            refine callP f2 ?_
            simp -dsimp -implicitDefEqProofs only [hEl, go_sem, ↓reduceIte, reduceCtorEq, Nat.reduceLT, Nat.reduceLeDiff, Nat.reduceEqDiff, Nat.reduceAdd, Nat.reduceMul, Nat.reduceSub, Nat.reduceBEq, Int.reduceLT, Int.reduceLE, Int.reduceEq, Int.reduceBEq, Int.reduceNeg]
            refine callP hrr ?_
            simp -dsimp -implicitDefEqProofs only [go_sem, ↓reduceIte, reduceCtorEq, Nat.reduceLT, Nat.reduceLeDiff, Nat.reduceEqDiff, Nat.reduceAdd, Nat.reduceMul, Nat.reduceSub, Nat.reduceBEq, Int.reduceLT, Int.reduceLE, Int.reduceEq, Int.reduceBEq, Int.reduceNeg]
            refine callP hss ?_
            simp -dsimp -implicitDefEqProofs only [go_sem, ↓reduceIte, reduceCtorEq, Nat.reduceLT, Nat.reduceLeDiff, Nat.reduceEqDiff, Nat.reduceAdd, Nat.reduceMul, Nat.reduceSub, Nat.reduceBEq, Int.reduceLT, Int.reduceLE, Int.reduceEq, Int.reduceBEq, Int.reduceNeg]
            refine callP f3 ?_
            simp -dsimp -implicitDefEqProofs only [e0, hEl, go_sem, ↓reduceIte, reduceCtorEq, Nat.reduceLT, Nat.reduceLeDiff, Nat.reduceEqDiff, Nat.reduceAdd, Nat.reduceMul, Nat.reduceSub, Nat.reduceBEq, Int.reduceLT, Int.reduceLE, Int.reduceEq, Int.reduceBEq, Int.reduceNeg]
          · rw [if_neg hRR] at hEl
            have hpos : (0 : Int) < ((findL n seen L now name k).length : Int) := by
              have := List.length_pos_iff.2 hRR; omega
            simp -dsimp -implicitDefEqProofs only [hEl, go_sem, ↓reduceIte, reduceCtorEq, Nat.reduceLT, Nat.reduceLeDiff, Nat.reduceEqDiff, Nat.reduceAdd, Nat.reduceMul, Nat.reduceSub, Nat.reduceBEq, Int.reduceLT, Int.reduceLE, Int.reduceEq, Int.reduceBEq, Int.reduceNeg]
            refine callP huo ?_
            simp -dsimp -implicitDefEqProofs only [hu3, hpos, go_sem, ↓reduceIte, reduceCtorEq, Nat.reduceLT, Nat.reduceLeDiff, Nat.reduceEqDiff, Nat.reduceAdd, Nat.reduceMul, Nat.reduceSub, Nat.reduceBEq, Int.reduceLT, Int.reduceLE, Int.reduceEq, Int.reduceBEq, Int.reduceNeg]
            intro a b
            obtain ⟨b1, b2, b3⟩ := hf2 a b
            rw [b1, b2, b3] at f2
            refine callP f2 ?_
            simp -dsimp -implicitDefEqProofs only [hEl, go_sem, ↓reduceIte, reduceCtorEq, Nat.reduceLT, Nat.reduceLeDiff, Nat.reduceEqDiff, Nat.reduceAdd, Nat.reduceMul, Nat.reduceSub, Nat.reduceBEq, Int.reduceLT, Int.reduceLE, Int.reduceEq, Int.reduceBEq, Int.reduceNeg]
            refine callP hrr ?_
            simp -dsimp -implicitDefEqProofs only [go_sem, ↓reduceIte, reduceCtorEq, Nat.reduceLT, Nat.reduceLeDiff, Nat.reduceEqDiff, Nat.reduceAdd, Nat.reduceMul, Nat.reduceSub, Nat.reduceBEq, Int.reduceLT, Int.reduceLE, Int.reduceEq, Int.reduceBEq, Int.reduceNeg]
            refine callP hss ?_
            simp -dsimp -implicitDefEqProofs only [go_sem, ↓reduceIte, reduceCtorEq, Nat.reduceLT, Nat.reduceLeDiff, Nat.reduceEqDiff, Nat.reduceAdd, Nat.reduceMul, Nat.reduceSub, Nat.reduceBEq, Int.reduceLT, Int.reduceLE, Int.reduceEq, Int.reduceBEq, Int.reduceNeg]
            refine callP f3 ?_
            simp -dsimp -implicitDefEqProofs only [e0, hEl, go_sem, ↓reduceIte, reduceCtorEq, Nat.reduceLT, Nat.reduceLeDiff, Nat.reduceEqDiff, Nat.reduceAdd, Nat.reduceMul, Nat.reduceSub, Nat.reduceBEq, Int.reduceLT, Int.reduceLE, Int.reduceEq, Int.reduceBEq, Int.reduceNeg]
        · have he1 : ¬ findE n seen L now name k = 0 := fun e => hE (.inl e)
          have he2 : ¬ findE n seen L now name k = 131 := fun e => hE (.inr e)
          simp -dsimp -implicitDefEqProofs only [he1, he2, go_sem, ↓reduceIte, reduceCtorEq, Nat.reduceLT, Nat.reduceLeDiff, Nat.reduceEqDiff, Nat.reduceAdd, Nat.reduceMul, Nat.reduceSub, Nat.reduceBEq, Int.reduceLT, Int.reduceLE, Int.reduceEq, Int.reduceBEq, Int.reduceNeg]
      · simp -dsimp -implicitDefEqProofs only [ho, go_sem, ↓reduceIte, reduceCtorEq, Nat.reduceLT, Nat.reduceLeDiff, Nat.reduceEqDiff, Nat.reduceAdd, Nat.reduceMul, Nat.reduceSub, Nat.reduceBEq, Int.reduceLT, Int.reduceLE, Int.reduceEq, Int.reduceBEq, Int.reduceNeg]
end Go.Proofs.YtbkgceobmfcapaaGreatDoor
namespace Go.Proofs.YtbkgceobmfcapaaGreatDoor
open Go.Eng
set_option linter.unusedSimpArgs false
set_option maxRecDepth 10000

set_option maxHeartbeats 4000000 in
theorem rstays14_ok (n : Nt) (seen : Int) (L : List Kp) (now : Int) (name : Bs) (k : Int) (hk : ∀ c ∈ n.C, -9223372036854775808 ≤ c.B ∧ c.B ≤ 9223372036854775807) (hw : ∀ c ∈ n.C, c.W.length ≤ 9223372036854775807) :
    Meets Tryz.prog 6 [n.arg, (false, [vI seen]), cacheA L, (false, [vI now]), (false, [vS name]), (false, [vI k])] (rOne (vB true)) := by
  refine meets Tryz.func6 rfl rfl Tryz.ntmps6 Tryz.results6 rfl ?_
  simp -dsimp -implicitDefEqProofs only [go_sem, ↓reduceIte, reduceCtorEq, Nat.reduceLT, Nat.reduceLeDiff, Nat.reduceEqDiff, Nat.reduceAdd, Nat.reduceMul, Nat.reduceSub, Nat.reduceBEq, Int.reduceLT, Int.reduceLE, Int.reduceEq, Int.reduceBEq, Int.reduceNeg]
  refine callP live14_ok ?_
  simp -dsimp -implicitDefEqProofs only [go_sem, ↓reduceIte, reduceCtorEq, Nat.reduceLT, Nat.reduceLeDiff, Nat.reduceEqDiff, Nat.reduceAdd, Nat.reduceMul, Nat.reduceSub, Nat.reduceBEq, Int.reduceLT, Int.reduceLE, Int.reduceEq, Int.reduceBEq, Int.reduceNeg]
  refine callP (few14_ok n L name) ?_
  cases hf : fewN n && fewC L && decide (name.length ≤ 200) with
  | false => simp -dsimp -implicitDefEqProofs only [hf, go_sem, ↓reduceIte, reduceCtorEq, Nat.reduceLT, Nat.reduceLeDiff, Nat.reduceEqDiff, Nat.reduceAdd, Nat.reduceMul, Nat.reduceSub, Nat.reduceBEq, Int.reduceLT, Int.reduceLE, Int.reduceEq, Int.reduceBEq, Int.reduceNeg]
  | true =>
    have hf2 := hf
    simp only [Bool.and_eq_true, decide_eq_true_eq] at hf2
    obtain ⟨⟨hfn, hfc⟩, hfl⟩ := hf2
    have hz := sz_of hfn hk hw
    have hc := few_cz hfc
    have hcl := hc.l
    have hcr : ∀ x ∈ L, x.R.length ≤ 1000000 := fun x hx => by have := hc.r x hx; omega
    have hcz := fc14_cz n seen L now name k
    have hczl := hcz.l
    have hczr : ∀ x ∈ findC n seen L now name k, x.R.length ≤ 1000000 := fun x hx => by have := hcz.r x hx; omega
    have hho := held_ok L (by omega) hcr now name k
    have hff := find14_ok n hz seen L hc now name k
    have hck := ccheck_ok (findC n seen L now name k) (by omega) hczr
    have hss := rsame14_ok (findC n seen L now name k) L (by omega) hczr
    cases hok : okF (findE n seen L now name k) with
    | false =>
      have hb := find_bad' hok
      have e0 : ¬ findE n seen L now name k = 0 := fun e => by rw [e] at hok; cases hok
      have e1 : ¬ findE n seen L now name k = 130 := fun e => by rw [e] at hok; cases hok
      have e2 : ¬ findE n seen L now name k = 131 := fun e => by rw [e] at hok; cases hok
      rw [hb.1, hb.2] at hff
      simp -dsimp -implicitDefEqProofs only [hf, go_sem, ↓reduceIte, reduceCtorEq, Nat.reduceLT, Nat.reduceLeDiff, Nat.reduceEqDiff, Nat.reduceAdd, Nat.reduceMul, Nat.reduceSub, Nat.reduceBEq, Int.reduceLT, Int.reduceLE, Int.reduceEq, Int.reduceBEq, Int.reduceNeg]
      refine callP hho ?_
      simp -dsimp -implicitDefEqProofs only [go_sem, ↓reduceIte, reduceCtorEq, Nat.reduceLT, Nat.reduceLeDiff, Nat.reduceEqDiff, Nat.reduceAdd, Nat.reduceMul, Nat.reduceSub, Nat.reduceBEq, Int.reduceLT, Int.reduceLE, Int.reduceEq, Int.reduceBEq, Int.reduceNeg]
      refine callP hff ?_
      simp -dsimp -implicitDefEqProofs only [e0, e1, e2, go_sem, ↓reduceIte, reduceCtorEq, Nat.reduceLT, Nat.reduceLeDiff, Nat.reduceEqDiff, Nat.reduceAdd, Nat.reduceMul, Nat.reduceSub, Nat.reduceBEq, Int.reduceLT, Int.reduceLE, Int.reduceEq, Int.reduceBEq, Int.reduceNeg]
    | true =>
      have g := find_good hok
      rw [fc14_ok g] at hck
      cases hh : heldV L now name k with
      | some R =>
        obtain ⟨h1, h2, h3⟩ := find_hit g hh
        rw [hh] at hho
        rw [h3] at hck hss
        rw [decide_eq_true rfl] at hss
        rw [h1, h2, h3] at hff
        simp -dsimp -implicitDefEqProofs only [hf, go_sem, ↓reduceIte, reduceCtorEq, Nat.reduceLT, Nat.reduceLeDiff, Nat.reduceEqDiff, Nat.reduceAdd, Nat.reduceMul, Nat.reduceSub, Nat.reduceBEq, Int.reduceLT, Int.reduceLE, Int.reduceEq, Int.reduceBEq, Int.reduceNeg]
        refine callP hho ?_
        simp -dsimp -implicitDefEqProofs only [go_sem, ↓reduceIte, reduceCtorEq, Nat.reduceLT, Nat.reduceLeDiff, Nat.reduceEqDiff, Nat.reduceAdd, Nat.reduceMul, Nat.reduceSub, Nat.reduceBEq, Int.reduceLT, Int.reduceLE, Int.reduceEq, Int.reduceBEq, Int.reduceNeg]
        refine callP hff ?_
        by_cases hR : R = []
        · simp -dsimp -implicitDefEqProofs only [hR, go_sem, ↓reduceIte, reduceCtorEq, Nat.reduceLT, Nat.reduceLeDiff, Nat.reduceEqDiff, Nat.reduceAdd, Nat.reduceMul, Nat.reduceSub, Nat.reduceBEq, Int.reduceLT, Int.reduceLE, Int.reduceEq, Int.reduceBEq, Int.reduceNeg]
          refine callP hck ?_
          simp -dsimp -implicitDefEqProofs only [go_sem, ↓reduceIte, reduceCtorEq, Nat.reduceLT, Nat.reduceLeDiff, Nat.reduceEqDiff, Nat.reduceAdd, Nat.reduceMul, Nat.reduceSub, Nat.reduceBEq, Int.reduceLT, Int.reduceLE, Int.reduceEq, Int.reduceBEq, Int.reduceNeg]
          refine callP hss ?_
          simp -dsimp -implicitDefEqProofs only [go_sem, ↓reduceIte, reduceCtorEq, Nat.reduceLT, Nat.reduceLeDiff, Nat.reduceEqDiff, Nat.reduceAdd, Nat.reduceMul, Nat.reduceSub, Nat.reduceBEq, Int.reduceLT, Int.reduceLE, Int.reduceEq, Int.reduceBEq, Int.reduceNeg]
        · simp -dsimp -implicitDefEqProofs only [hR, go_sem, ↓reduceIte, reduceCtorEq, Nat.reduceLT, Nat.reduceLeDiff, Nat.reduceEqDiff, Nat.reduceAdd, Nat.reduceMul, Nat.reduceSub, Nat.reduceBEq, Int.reduceLT, Int.reduceLE, Int.reduceEq, Int.reduceBEq, Int.reduceNeg]
          refine callP hck ?_
          simp -dsimp -implicitDefEqProofs only [go_sem, ↓reduceIte, reduceCtorEq, Nat.reduceLT, Nat.reduceLeDiff, Nat.reduceEqDiff, Nat.reduceAdd, Nat.reduceMul, Nat.reduceSub, Nat.reduceBEq, Int.reduceLT, Int.reduceLE, Int.reduceEq, Int.reduceBEq, Int.reduceNeg]
          refine callP hss ?_
          simp -dsimp -implicitDefEqProofs only [go_sem, ↓reduceIte, reduceCtorEq, Nat.reduceLT, Nat.reduceLeDiff, Nat.reduceEqDiff, Nat.reduceAdd, Nat.reduceMul, Nat.reduceSub, Nat.reduceBEq, Int.reduceLT, Int.reduceLE, Int.reduceEq, Int.reduceBEq, Int.reduceNeg]
      | none =>
        obtain ⟨h1, h2, h3⟩ := find_miss g hh
        rw [hh] at hho
        by_cases hl : (wayV n seen name k).E = 130
        · rw [if_pos hl] at h3
          rw [hl] at h1
          rw [(wayV_ok n seen name k).lost hl, show lostW.L = [] from rfl] at h2
          rw [h3] at hck hss
          rw [decide_eq_true rfl] at hss
          rw [h1, h2, h3] at hff
          simp -dsimp -implicitDefEqProofs only [hf, go_sem, ↓reduceIte, reduceCtorEq, Nat.reduceLT, Nat.reduceLeDiff, Nat.reduceEqDiff, Nat.reduceAdd, Nat.reduceMul, Nat.reduceSub, Nat.reduceBEq, Int.reduceLT, Int.reduceLE, Int.reduceEq, Int.reduceBEq, Int.reduceNeg]
          refine callP hho ?_
          simp -dsimp -implicitDefEqProofs only [go_sem, ↓reduceIte, reduceCtorEq, Nat.reduceLT, Nat.reduceLeDiff, Nat.reduceEqDiff, Nat.reduceAdd, Nat.reduceMul, Nat.reduceSub, Nat.reduceBEq, Int.reduceLT, Int.reduceLE, Int.reduceEq, Int.reduceBEq, Int.reduceNeg]
          refine callP hff ?_
          simp -dsimp -implicitDefEqProofs only [go_sem, ↓reduceIte, reduceCtorEq, Nat.reduceLT, Nat.reduceLeDiff, Nat.reduceEqDiff, Nat.reduceAdd, Nat.reduceMul, Nat.reduceSub, Nat.reduceBEq, Int.reduceLT, Int.reduceLE, Int.reduceEq, Int.reduceBEq, Int.reduceNeg]
          refine callP hck ?_
          simp -dsimp -implicitDefEqProofs only [go_sem, ↓reduceIte, reduceCtorEq, Nat.reduceLT, Nat.reduceLeDiff, Nat.reduceEqDiff, Nat.reduceAdd, Nat.reduceMul, Nat.reduceSub, Nat.reduceBEq, Int.reduceLT, Int.reduceLE, Int.reduceEq, Int.reduceBEq, Int.reduceNeg]
          refine callP hss ?_
          simp -dsimp -implicitDefEqProofs only [go_sem, ↓reduceIte, reduceCtorEq, Nat.reduceLT, Nat.reduceLeDiff, Nat.reduceEqDiff, Nat.reduceAdd, Nat.reduceMul, Nat.reduceSub, Nat.reduceBEq, Int.reduceLT, Int.reduceLE, Int.reduceEq, Int.reduceBEq, Int.reduceNeg]
        · rw [if_neg hl] at h3
          obtain ⟨w1, w2, w3, w4, w5⟩ := way_kept hl
          obtain ⟨q1, q2, _, _, _⟩ := quest g.q
          have hut : untilV (findC n seen L now name k) name k = min (now + (wayV n seen name k).F) 1099511627776 := by
            have hx : kpF (findC n seen L now name k) name k = some (keptOf n seen now name k) := by rw [h3]; exact keep_find (trim_ok g.c now) _
            unfold untilV; rw [hx]; rfl
          have huo := until_ok (findC n seen L now name k) (by omega) name k
          rw [hut] at huo
          simp -dsimp -implicitDefEqProofs only [hf, go_sem, ↓reduceIte, reduceCtorEq, Nat.reduceLT, Nat.reduceLeDiff, Nat.reduceEqDiff, Nat.reduceAdd, Nat.reduceMul, Nat.reduceSub, Nat.reduceBEq, Int.reduceLT, Int.reduceLE, Int.reduceEq, Int.reduceBEq, Int.reduceNeg]
          refine callP hho ?_
          simp -dsimp -implicitDefEqProofs only [go_sem, ↓reduceIte, reduceCtorEq, Nat.reduceLT, Nat.reduceLeDiff, Nat.reduceEqDiff, Nat.reduceAdd, Nat.reduceMul, Nat.reduceSub, Nat.reduceBEq, Int.reduceLT, Int.reduceLE, Int.reduceEq, Int.reduceBEq, Int.reduceNeg]
          refine callP hff ?_
          rcases w5 with ⟨a, b⟩ | ⟨a, b, c⟩
          · rw [a] at h1
            simp -dsimp -implicitDefEqProofs only [h1, go_sem, ↓reduceIte, reduceCtorEq, Nat.reduceLT, Nat.reduceLeDiff, Nat.reduceEqDiff, Nat.reduceAdd, Nat.reduceMul, Nat.reduceSub, Nat.reduceBEq, Int.reduceLT, Int.reduceLE, Int.reduceEq, Int.reduceBEq, Int.reduceNeg]
            refine callP hck ?_
            simp -dsimp -implicitDefEqProofs only [go_sem, ↓reduceIte, reduceCtorEq, Nat.reduceLT, Nat.reduceLeDiff, Nat.reduceEqDiff, Nat.reduceAdd, Nat.reduceMul, Nat.reduceSub, Nat.reduceBEq, Int.reduceLT, Int.reduceLE, Int.reduceEq, Int.reduceBEq, Int.reduceNeg]
            refine callP hss ?_
            simp -dsimp -implicitDefEqProofs only [h1, go_sem, ↓reduceIte, reduceCtorEq, Nat.reduceLT, Nat.reduceLeDiff, Nat.reduceEqDiff, Nat.reduceAdd, Nat.reduceMul, Nat.reduceSub, Nat.reduceBEq, Int.reduceLT, Int.reduceLE, Int.reduceEq, Int.reduceBEq, Int.reduceNeg]
            refine callP huo ?_
            simp -dsimp -implicitDefEqProofs only [h1, go_sem, ↓reduceIte, reduceCtorEq, Nat.reduceLT, Nat.reduceLeDiff, Nat.reduceEqDiff, Nat.reduceAdd, Nat.reduceMul, Nat.reduceSub, Nat.reduceBEq, Int.reduceLT, Int.reduceLE, Int.reduceEq, Int.reduceBEq, Int.reduceNeg]
            intro hn
            have hwr : IntKind.i64.wrap (min (now + (wayV n seen name k).F) 1099511627776 - now) = (wayV n seen name k).F := by rw [wrap64] <;> omega
            rw [hwr]
            exact ⟨fun _ _ => by omega, fun _ => by omega⟩
          · rw [a] at h1
            simp -dsimp -implicitDefEqProofs only [h1, go_sem, ↓reduceIte, reduceCtorEq, Nat.reduceLT, Nat.reduceLeDiff, Nat.reduceEqDiff, Nat.reduceAdd, Nat.reduceMul, Nat.reduceSub, Nat.reduceBEq, Int.reduceLT, Int.reduceLE, Int.reduceEq, Int.reduceBEq, Int.reduceNeg]
            refine callP hck ?_
            simp -dsimp -implicitDefEqProofs only [go_sem, ↓reduceIte, reduceCtorEq, Nat.reduceLT, Nat.reduceLeDiff, Nat.reduceEqDiff, Nat.reduceAdd, Nat.reduceMul, Nat.reduceSub, Nat.reduceBEq, Int.reduceLT, Int.reduceLE, Int.reduceEq, Int.reduceBEq, Int.reduceNeg]
            refine callP hss ?_
            simp -dsimp -implicitDefEqProofs only [h1, go_sem, ↓reduceIte, reduceCtorEq, Nat.reduceLT, Nat.reduceLeDiff, Nat.reduceEqDiff, Nat.reduceAdd, Nat.reduceMul, Nat.reduceSub, Nat.reduceBEq, Int.reduceLT, Int.reduceLE, Int.reduceEq, Int.reduceBEq, Int.reduceNeg]
            refine callP huo ?_
            simp -dsimp -implicitDefEqProofs only [h1, c, go_sem, ↓reduceIte, reduceCtorEq, Nat.reduceLT, Nat.reduceLeDiff, Nat.reduceEqDiff, Nat.reduceAdd, Nat.reduceMul, Nat.reduceSub, Nat.reduceBEq, Int.reduceLT, Int.reduceLE, Int.reduceEq, Int.reduceBEq, Int.reduceNeg]
            intro hn
            have hwr : IntKind.i64.wrap (min (now + 10) 1099511627776 - now) = 10 := by rw [wrap64] <;> omega
            rw [hwr]
            exact ⟨fun _ => ⟨fun _ => rfl, fun _ => by omega⟩, fun _ => by omega⟩
end Go.Proofs.YtbkgceobmfcapaaGreatDoor
namespace Go.Proofs.YtbkgceobmfcapaaGreatDoor
open Go.Eng
set_option linter.unusedSimpArgs false
set_option maxRecDepth 10000

/-- What is kept of other names. -/
theorem others_law {n : Nt} {seen : Int} {L : List Kp} {now : Int} {name : Bs} {k : Int} (g : Fg n seen L now name k) (hl : L.length < 128) {other : Bs} {its : Int} (hne : ¬ (other = name ∧ its = k)) :
    heldV (findC n seen L now name k) now other its = heldV L now other its := by
  have hX := fc14_ok g
  cases hh : heldV L now name k with
  | some R => rw [(find_hit g hh).2.2]
  | none =>
    have h3 := (find_miss g hh).2.2
    by_cases h : (wayV n seen name k).E = 130
    · rw [if_pos h] at h3; rw [h3]
    · rw [if_neg h] at h3
      rw [h3] at hX ⊢
      have ht := trim_ok g.c now
      have hf : kpF (keepV (trimL L now) (keptOf n seen now name k)) other its = (kpF L other its).filter fun y => decide (now < y.U) := by
        rw [keep_other ht (by unfold trimL; rw [if_pos g.c]; exact Nat.lt_of_le_of_lt (List.length_filter_le _ _) hl) _ hne]
        unfold trimL
        rw [if_pos g.c]
        exact find_filter (chkC_iff.1 g.c).2.2 _ _
      unfold heldV
      rw [if_pos hX, if_pos g.c, hf]
      cases kpF L other its with
      | none => rfl
      | some x =>
        have e : Option.filter (fun y => decide (now < y.U)) (some x) = if now < x.U then some x else none := by simp [Option.filter]
        rw [e]
        by_cases hu : now < x.U
        · rw [if_pos hu]
        · rw [if_neg hu]; exact (if_neg hu).symm
set_option maxHeartbeats 4000000 in
theorem rothers14_ok (n : Nt) (seen : Int) (L : List Kp) (now : Int) (name : Bs) (k : Int) (other : Bs) (its : Int) (hk : ∀ c ∈ n.C, -9223372036854775808 ≤ c.B ∧ c.B ≤ 9223372036854775807) (hw : ∀ c ∈ n.C, c.W.length ≤ 9223372036854775807) :
    Meets Tryz.prog 7 [n.arg, (false, [vI seen]), cacheA L, (false, [vI now]), (false, [vS name]), (false, [vI k]), (false, [vS other]), (false, [vI its])] (rOne (vB true)) := by
  refine meets Tryz.func7 rfl rfl Tryz.ntmps7 Tryz.results7 rfl ?_
  simp -dsimp -implicitDefEqProofs only [go_sem, ↓reduceIte, reduceCtorEq, Nat.reduceLT, Nat.reduceLeDiff, Nat.reduceEqDiff, Nat.reduceAdd, Nat.reduceMul, Nat.reduceSub, Nat.reduceBEq, Int.reduceLT, Int.reduceLE, Int.reduceEq, Int.reduceBEq, Int.reduceNeg]
  refine callP live14_ok ?_
  simp -dsimp -implicitDefEqProofs only [go_sem, ↓reduceIte, reduceCtorEq, Nat.reduceLT, Nat.reduceLeDiff, Nat.reduceEqDiff, Nat.reduceAdd, Nat.reduceMul, Nat.reduceSub, Nat.reduceBEq, Int.reduceLT, Int.reduceLE, Int.reduceEq, Int.reduceBEq, Int.reduceNeg]
  refine callP (few14_ok n L name) ?_
  cases hf : fewN n && fewC L && decide (name.length ≤ 200) with
  | false => simp -dsimp -implicitDefEqProofs only [hf, go_sem, ↓reduceIte, reduceCtorEq, Nat.reduceLT, Nat.reduceLeDiff, Nat.reduceEqDiff, Nat.reduceAdd, Nat.reduceMul, Nat.reduceSub, Nat.reduceBEq, Int.reduceLT, Int.reduceLE, Int.reduceEq, Int.reduceBEq, Int.reduceNeg]
  | true =>
    have hf2 := hf
    simp only [Bool.and_eq_true, decide_eq_true_eq] at hf2
    obtain ⟨⟨hfn, hfc⟩, hfl⟩ := hf2
    have hz := sz_of hfn hk hw
    have hc := few_cz hfc
    have hcl := hc.l
    have hcr : ∀ x ∈ L, x.R.length ≤ 1000000 := fun x hx => by have := hc.r x hx; omega
    have hcz := fc14_cz n seen L now name k
    have hczl := hcz.l
    have hczr : ∀ x ∈ findC n seen L now name k, x.R.length ≤ 1000000 := fun x hx => by have := hcz.r x hx; omega
    have hff := find14_ok n hz seen L hc now name k
    have h1 := held_ok L (by omega) hcr now other its
    have h2 := held_ok (findC n seen L now name k) (by omega) hczr now other its
    have hrl : (heldR (heldV L now other its)).length ≤ 1000000 := by
      cases hh : heldV L now other its with
      | none => simp [heldR]
      | some R => have := held_len hc hh; show R.length ≤ _; omega
    have hrr := rrecs14_ok (heldR (heldV L now other its)) (heldR (heldV L now other its)) hrl
    rw [decide_eq_true rfl] at hrr
    simp -dsimp -implicitDefEqProofs only [hf, go_sem, ↓reduceIte, reduceCtorEq, Nat.reduceLT, Nat.reduceLeDiff, Nat.reduceEqDiff, Nat.reduceAdd, Nat.reduceMul, Nat.reduceSub, Nat.reduceBEq, Int.reduceLT, Int.reduceLE, Int.reduceEq, Int.reduceBEq, Int.reduceNeg]
    intro q1 q2
    refine ⟨fun a b => ?_, fun a => ?_⟩
    all_goals
      have hne : ¬ (other = name ∧ its = k) := fun e => by
        first
          | exact absurd e.2 (by assumption)
          | exact absurd e.1 (by assumption)
      refine callP hff ?_
      cases hok : okF (findE n seen L now name k) with
      | false =>
        have e0 : ¬ findE n seen L now name k = 0 := fun e => by rw [e] at hok; cases hok
        have e1 : ¬ findE n seen L now name k = 130 := fun e => by rw [e] at hok; cases hok
        have e2 : ¬ findE n seen L now name k = 131 := fun e => by rw [e] at hok; cases hok
        simp -dsimp -implicitDefEqProofs only [e0, e1, e2, go_sem, ↓reduceIte, reduceCtorEq, Nat.reduceLT, Nat.reduceLeDiff, Nat.reduceEqDiff, Nat.reduceAdd, Nat.reduceMul, Nat.reduceSub, Nat.reduceBEq, Int.reduceLT, Int.reduceLE, Int.reduceEq, Int.reduceBEq, Int.reduceNeg]
      | true =>
        have ho := others_law (find_good hok) (by omega) hne
        rw [ho] at h2
        rcases okF_iff.1 hok with he | he | he
        all_goals
          simp -dsimp -implicitDefEqProofs only [he, go_sem, ↓reduceIte, reduceCtorEq, Nat.reduceLT, Nat.reduceLeDiff, Nat.reduceEqDiff, Nat.reduceAdd, Nat.reduceMul, Nat.reduceSub, Nat.reduceBEq, Int.reduceLT, Int.reduceLE, Int.reduceEq, Int.reduceBEq, Int.reduceNeg]
          refine callP h1 ?_
          simp -dsimp -implicitDefEqProofs only [go_sem, ↓reduceIte, reduceCtorEq, Nat.reduceLT, Nat.reduceLeDiff, Nat.reduceEqDiff, Nat.reduceAdd, Nat.reduceMul, Nat.reduceSub, Nat.reduceBEq, Int.reduceLT, Int.reduceLE, Int.reduceEq, Int.reduceBEq, Int.reduceNeg]
          refine callP h2 ?_
          simp -dsimp -implicitDefEqProofs only [go_sem, ↓reduceIte, reduceCtorEq, Nat.reduceLT, Nat.reduceLeDiff, Nat.reduceEqDiff, Nat.reduceAdd, Nat.reduceMul, Nat.reduceSub, Nat.reduceBEq, Int.reduceLT, Int.reduceLE, Int.reduceEq, Int.reduceBEq, Int.reduceNeg]
          refine callP hrr ?_
          simp -dsimp -implicitDefEqProofs only [go_sem, ↓reduceIte, reduceCtorEq, Nat.reduceLT, Nat.reduceLeDiff, Nat.reduceEqDiff, Nat.reduceAdd, Nat.reduceMul, Nat.reduceSub, Nat.reduceBEq, Int.reduceLT, Int.reduceLE, Int.reduceEq, Int.reduceBEq, Int.reduceNeg]
end Go.Proofs.YtbkgceobmfcapaaGreatDoor
namespace Go.Proofs.YtbkgceobmfcapaaGreatDoor
open Go.Eng
set_option linter.unusedSimpArgs false
set_option maxRecDepth 10000

def oneN (z : Zn) : Nt := ⟨[⟨0, [z]⟩], 0, [], []⟩
theorem ris_single {α κ : Type} {o : KO κ} {key : α → κ} (x : α) : Ris o key [x] := ris_cons.2 ⟨by simp, ris_nil⟩
theorem one_chk {z : Zn} : chkN (oneN z) = 0 ↔ checkV z.A z.R = 0 := by
  rw [chk_iff]
  constructor
  · rintro ⟨_, _, hv, _, _, _⟩
    have h1 := (svs_parts hv).1 ⟨0, [z]⟩ (by simp [oneN])
    unfold svB at h1
    simp only [Bool.and_eq_true] at h1
    have h2 : zoneB z = true := (rises_iff.1 h1.2).1 z (by simp)
    simpa [zoneB] using h2
  · intro h
    have hz : zoneB z = true := by simpa [zoneB] using h
    have h1 : zsOk [z] = true := rises_iff.2 ⟨fun x hx => by rw [List.mem_singleton.1 hx]; exact hz, ris_single z⟩
    refine ⟨by show (0 : Int) ≤ 0; omega, by show (0 : Int) ≤ 8; omega, ?_, rfl, rfl, rfl⟩
    refine rises_iff.2 ⟨fun x hx => ?_, ris_single _⟩
    rw [List.mem_singleton.1 hx]
    unfold svB
    rw [show addrB (Sv.A ⟨0, [z]⟩) = true from rfl, show zsOk (Sv.Z ⟨0, [z]⟩) = true from h1]
    rfl
theorem one_srv {z : Zn} (h : checkV z.A z.R = 0) : srvB (oneN z) (-1) 0 = true ∧ srvS (oneN z) (-1) 0 = ⟨0, [z]⟩ := by
  have hb : srvB (oneN z) (-1) 0 = true := srvB_iff.2 ⟨rfl, by omega, by show (-1 : Int) < 0; omega, one_chk.2 h⟩
  exact ⟨hb, by rw [srvS_yes hb]; rfl⟩
theorem one_no {z : Zn} {a : Int} (ha : a ≠ 0) : srvB (oneN z) (-1) a = false := by
  rw [Bool.eq_false_iff]
  intro h
  have h1 := (srvB_iff.1 h).1
  cases hf : svF (oneN z) a with
  | none => rw [hf] at h1; cases h1
  | some s =>
    have h2 := find_some hf
    have h3 : s = ⟨0, [z]⟩ := by simpa [oneN] using h2.1
    have h4 := h2.2
    rw [h3] at h4
    exact ha h4.symm
theorem one_best {z : Zn} (h : checkV z.A z.R = 0) {name : Bs} (hn : isName name = true) (hu : underB name z.A = true) : bestV [z] name = some 0 := by
  unfold bestV
  rw [if_pos hn]
  show (if takesB [z] name z none then some 0 else none) = some 0
  rw [if_pos]
  unfold takesB
  rw [hu, h]
  rfl
theorem one_step {z : Zn} {name : Bs} {k : Int} (h : askE z.A z.R name k = 0) : stepA (oneN z) (-1) k 0 name = some (askW z.A z.R name k) := by
  obtain ⟨h1, h2, _, _, h5⟩ := askE_zero h
  obtain ⟨s1, s2⟩ := one_srv h1
  unfold stepA
  rw [s1, s2, if_pos rfl, one_best h1 h2 h5]
  show (if askE z.A z.R name k = 0 then some (askV z.A z.R name k) else none) = _
  rw [if_pos h]
  unfold askV
  rw [if_pos h]
theorem one_far {z : Zn} {name : Bs} {k : Int} {a : Int} (ha : a ≠ 0) : stepA (oneN z) (-1) k a name = none := by
  unfold stepA
  rw [one_no ha]
  rfl
theorem under_root {name : Bs} (h : isName name = true) : underB name [] = true := by
  unfold underB
  rw [h]
  rfl
/-- What a net of one zone is asked. -/
theorem one_good {z : Zn} (ha : z.A = []) {now : Int} {name : Bs} {k : Int} : Fg (oneN z) (-1) [] now name k ↔ askE z.A z.R name k = 0 ∧ 0 ≤ now ∧ now ≤ 1099511627776 := by
  constructor
  · intro g
    obtain ⟨q1, q2, _, _, q5⟩ := quest g.q
    unfold kindB at q5
    simp only [Bool.and_eq_true, decide_eq_true_eq] at q5
    refine ⟨?_, q1, q2⟩
    unfold askE
    rw [if_pos (one_chk.1 g.t), if_pos ⟨g.s, q5.1, q5.2⟩, ha, if_pos (under_root g.s)]
  · rintro ⟨h, h1, h2⟩
    obtain ⟨a1, a2, a3, a4, _⟩ := askE_zero h
    exact ⟨rfl, one_chk.2 a1, quest_of ⟨h1, h2, by omega, by show (-1 : Int) < 0; omega, by unfold kindB; rw [decide_eq_true a3, decide_eq_true a4]; rfl⟩, a2⟩
theorem held_nil (now : Int) (name : Bs) (k : Int) : heldV [] now name k = none := by
  unfold heldV
  rw [if_pos (show chkC [] = 0 from rfl)]
  rfl
/-- A way that does not stop early is the same with more steps, and from any life. -/
theorem way_more {n : Nt} {seen k : Int} : ∀ (f : Nat) (addr : Int) (name : Bs) (life life2 : Int), (askG n seen k f addr name life).E ≠ 130 →
    (askG n seen k (f + 1) addr name life2).E = (askG n seen k f addr name life).E ∧ (askG n seen k (f + 1) addr name life2).L = (askG n seen k f addr name life).L
  | 0, _, _, _, _, h => absurd rfl h
  | f + 1, addr, name, life, life2, h => by
    unfold askG at h ⊢
    cases hs : stepA n seen k addr name with
    | none => rw [hs] at h; exact absurd rfl h
    | some a =>
      rw [hs] at h
      simp only at h ⊢
      by_cases h4 : a.K = 4
      · rw [if_pos h4] at h
        rw [if_pos h4, if_pos h4]
        exact way_more f _ _ _ _ h
      · rw [if_neg h4] at h
        rw [if_neg h4, if_neg h4]
        by_cases h5 : a.K = 5
        · rw [if_pos h5] at h
          rw [if_pos h5, if_pos h5]
          exact way_more f _ _ _ _ h
        · rw [if_neg h5, if_neg h5]
          by_cases h1 : a.K = 1
          · rw [if_pos h1, if_pos h1]; exact ⟨rfl, rfl⟩
          · rw [if_neg h1, if_neg h1]; exact ⟨rfl, rfl⟩
/-- A cut leads nowhere. -/
theorem one_cut {z : Zn} {name : Bs} {k : Int} (h : askE z.A z.R name k = 0) (hk : (askW z.A z.R name k).K = 4) : ∀ (f : Nat) (addr life : Int), askG (oneN z) (-1) k f addr name life = lostW
  | 0, _, _ => rfl
  | f + 1, addr, life => by
    unfold askG
    by_cases ha : addr = 0
    · rw [ha, one_step h]
      simp only
      rw [if_pos hk]
      exact one_cut h hk f _ _
    · rw [one_far ha]
theorem one_way {z : Zn} {name : Bs} {k : Int} (h : askE z.A z.R name k = 0) : wayV (oneN z) (-1) name k =
    if (askW z.A z.R name k).K = 4 then lostW
    else if (askW z.A z.R name k).K = 5 then askG (oneN z) (-1) k 11 0 (askW z.A z.R name k).A (leastL 1000 (askW z.A z.R name k).R)
    else if (askW z.A z.R name k).K = 1 then ⟨(askW z.A z.R name k).R, leastL 1000 (askW z.A z.R name k).R, 0⟩
    else ⟨[], 10, 131⟩ := by
  unfold wayV
  by_cases h4 : (askW z.A z.R name k).K = 4
  · rw [if_pos h4]; exact one_cut h h4 12 0 1000
  · rw [if_neg h4]
    conv => lhs; unfold askG
    rw [one_step h]
    simp only
    rw [if_neg h4]
/-- An alias is a name. -/
theorem alias_name {z : Zn} {name : Bs} {k : Int} (h : askE z.A z.R name k = 0) (hk : (askW z.A z.R name k).K = 5) : isName (askW z.A z.R name k).A = true := by
  obtain ⟨h1, _⟩ := askE_zero h
  rcases askW_cases z.A z.R name k with ⟨c, _, e⟩ | ⟨h2, e⟩ | ⟨_, e⟩ | ⟨_, e | e⟩ <;> rw [e] at hk ⊢
  · cases hk
  · show isName (lastV (aliasL z.R name k)) = true
    cases hl : (aliasL z.R name k).getLast? with
    | none => exact absurd (List.getLast?_eq_none_iff.1 hl) h2
    | some r =>
      unfold lastV
      rw [hl]
      have hm : r ∈ aliasL z.R name k := List.mem_of_getLast? hl
      unfold aliasL atB at hm
      simp only [List.mem_filter, Bool.and_eq_true, beq_iff_eq] at hm
      have hf := (good_mem h1 hm.1.1).1
      unfold formB fitsB at hf
      rw [hm.2.1] at hf
      simp only [Bool.and_eq_true] at hf
      simpa using hf.1.1.1
  · cases hk
  · cases hk
  · cases hk
end Go.Proofs.YtbkgceobmfcapaaGreatDoor
namespace Go.Proofs.YtbkgceobmfcapaaGreatDoor
open Go.Eng
set_option linter.unusedSimpArgs false
set_option maxRecDepth 10000

set_option maxHeartbeats 4000000 in
theorem ralias14_ok (z : Zn) (now : Int) (name : Bs) (k : Int) : Meets Tryz.prog 8 [z.arg, (false, [vI now]), (false, [vS name]), (false, [vI k])] (rOne (vB true)) := by
  refine meets Tryz.func8 rfl rfl Tryz.ntmps8 Tryz.results8 rfl ?_
  simp -dsimp -implicitDefEqProofs only [go_sem, ↓reduceIte, reduceCtorEq, Nat.reduceLT, Nat.reduceLeDiff, Nat.reduceEqDiff, Nat.reduceAdd, Nat.reduceMul, Nat.reduceSub, Nat.reduceBEq, Int.reduceLT, Int.reduceLE, Int.reduceEq, Int.reduceBEq, Int.reduceNeg]
  refine callP live14_ok ?_
  simp -dsimp -implicitDefEqProofs only [go_sem, ↓reduceIte, reduceCtorEq, Nat.reduceLT, Nat.reduceLeDiff, Nat.reduceEqDiff, Nat.reduceAdd, Nat.reduceMul, Nat.reduceSub, Nat.reduceBEq, Int.reduceLT, Int.reduceLE, Int.reduceEq, Int.reduceBEq, Int.reduceNeg]
  refine callP (one_ok z) ?_
  simp -dsimp -implicitDefEqProofs only [go_sem, ↓reduceIte, reduceCtorEq, Nat.reduceLT, Nat.reduceLeDiff, Nat.reduceEqDiff, Nat.reduceAdd, Nat.reduceMul, Nat.reduceSub, Nat.reduceBEq, Int.reduceLT, Int.reduceLE, Int.reduceEq, Int.reduceBEq, Int.reduceNeg]
  refine callP (few14_ok (oneN z) [] name) ?_
  cases hf : fewN (oneN z) && fewC [] && decide (name.length ≤ 200) with
  | false => simp -dsimp -implicitDefEqProofs only [hf, go_sem, ↓reduceIte, reduceCtorEq, Nat.reduceLT, Nat.reduceLeDiff, Nat.reduceEqDiff, Nat.reduceAdd, Nat.reduceMul, Nat.reduceSub, Nat.reduceBEq, Int.reduceLT, Int.reduceLE, Int.reduceEq, Int.reduceBEq, Int.reduceNeg]
  | true =>
    by_cases ha : z.A = []
    · have hf2 := hf
      simp only [Bool.and_eq_true, decide_eq_true_eq] at hf2
      obtain ⟨⟨hfn, _⟩, hfl⟩ := hf2
      have hz := sz_of hfn (fun c hc => by cases hc) (fun c hc => by cases hc)
      have hzr := hz.r ⟨0, [z]⟩ (by simp [oneN]) z (by simp)
      have hff := find14_ok (oneN z) hz (-1) [] nil_cz now name k
      have haa := ask_ok z.A z.R name k (by omega)
      have hll := findL_len (oneN z) (-1) nil_cz now name k
      simp -dsimp -implicitDefEqProofs only [hf, ha, go_sem, ↓reduceIte, reduceCtorEq, Nat.reduceLT, Nat.reduceLeDiff, Nat.reduceEqDiff, Nat.reduceAdd, Nat.reduceMul, Nat.reduceSub, Nat.reduceBEq, Int.reduceLT, Int.reduceLE, Int.reduceEq, Int.reduceBEq, Int.reduceNeg]
      rw [ha] at haa
      refine callP haa ?_
      simp -dsimp -implicitDefEqProofs only [go_sem, ↓reduceIte, reduceCtorEq, Nat.reduceLT, Nat.reduceLeDiff, Nat.reduceEqDiff, Nat.reduceAdd, Nat.reduceMul, Nat.reduceSub, Nat.reduceBEq, Int.reduceLT, Int.reduceLE, Int.reduceEq, Int.reduceBEq, Int.reduceNeg]
      refine callP hff ?_
      by_cases G : askE z.A z.R name k = 0 ∧ 0 ≤ now ∧ now ≤ 1099511627776
      · have g := (one_good ha).2 G
        obtain ⟨G1, G2, G3⟩ := G
        obtain ⟨m1, m2, _⟩ := find_miss g (held_nil now name k)
        have hw := one_way G1
        have hav : askV z.A z.R name k = askW z.A z.R name k := by unfold askV; rw [if_pos G1]
        have hal := alias_name (z := z) (name := name) (k := k) G1
        have n1 : ¬ now < 0 := by omega
        have n2 : ¬ 1099511627776 < now := by omega
        have hlR : (findL (oneN z) (-1) [] now name k).length ≤ 1000000 := by omega
        have hrr := fun m => rrecs14_ok (findL (oneN z) (-1) [] now name k) m hlR
        by_cases h1 : (askW z.A z.R name k).K = 1
        · rw [if_neg (by omega), if_neg (by omega), if_pos h1] at hw
          rw [hw] at m1 m2
          have m1 : findE (oneN z) (-1) [] now name k = 0 := m1
          have m2 : findL (oneN z) (-1) [] now name k = (askW z.A z.R name k).R := m2
          have hrr := hrr (askW z.A z.R name k).R
          rw [m2, decide_eq_true rfl] at hrr
          rw [ha] at *
          simp -dsimp -implicitDefEqProofs only [G1, n1, n2, hav, h1, m1, m2, go_sem, ↓reduceIte, reduceCtorEq, Nat.reduceLT, Nat.reduceLeDiff, Nat.reduceEqDiff, Nat.reduceAdd, Nat.reduceMul, Nat.reduceSub, Nat.reduceBEq, Int.reduceLT, Int.reduceLE, Int.reduceEq, Int.reduceBEq, Int.reduceNeg]
          refine callP hrr ?_
          simp -dsimp -implicitDefEqProofs only [m1, go_sem, ↓reduceIte, reduceCtorEq, Nat.reduceLT, Nat.reduceLeDiff, Nat.reduceEqDiff, Nat.reduceAdd, Nat.reduceMul, Nat.reduceSub, Nat.reduceBEq, Int.reduceLT, Int.reduceLE, Int.reduceEq, Int.reduceBEq, Int.reduceNeg]
        · by_cases h5 : (askW z.A z.R name k).K = 5
          · rw [if_neg (by omega), if_pos h5] at hw
            have g2 : Fg (oneN z) (-1) [] now (askW z.A z.R name k).A k := ⟨g.c, g.t, g.q, hal h5⟩
            obtain ⟨p1, p2, _⟩ := find_miss g2 (held_nil now _ k)
            have f2 := find14_ok (oneN z) hz (-1) [] nil_cz now (askW z.A z.R name k).A k
            have hmore := way_more (n := oneN z) (seen := -1) (k := k) 11 0 (askW z.A z.R name k).A (leastL 1000 (askW z.A z.R name k).R) 1000
            rw [← hw, ← m1, ← m2] at hmore
            have hrr := hrr (findL (oneN z) (-1) [] now (askW z.A z.R name k).A k)
            by_cases hl : findE (oneN z) (-1) [] now name k = 130
            · rw [ha] at *
              simp -dsimp -implicitDefEqProofs only [G1, n1, n2, hav, h1, h5, hl, go_sem, ↓reduceIte, reduceCtorEq, Nat.reduceLT, Nat.reduceLeDiff, Nat.reduceEqDiff, Nat.reduceAdd, Nat.reduceMul, Nat.reduceSub, Nat.reduceBEq, Int.reduceLT, Int.reduceLE, Int.reduceEq, Int.reduceBEq, Int.reduceNeg]
              refine callP f2 ?_
              simp -dsimp -implicitDefEqProofs only [go_sem, ↓reduceIte, reduceCtorEq, Nat.reduceLT, Nat.reduceLeDiff, Nat.reduceEqDiff, Nat.reduceAdd, Nat.reduceMul, Nat.reduceSub, Nat.reduceBEq, Int.reduceLT, Int.reduceLE, Int.reduceEq, Int.reduceBEq, Int.reduceNeg]
              refine callP hrr ?_
              simp -dsimp -implicitDefEqProofs only [hl, go_sem, ↓reduceIte, reduceCtorEq, Nat.reduceLT, Nat.reduceLeDiff, Nat.reduceEqDiff, Nat.reduceAdd, Nat.reduceMul, Nat.reduceSub, Nat.reduceBEq, Int.reduceLT, Int.reduceLE, Int.reduceEq, Int.reduceBEq, Int.reduceNeg]
            · obtain ⟨r1, r2⟩ := hmore hl
              have e1 : findE (oneN z) (-1) [] now (askW z.A z.R name k).A k = findE (oneN z) (-1) [] now name k := by rw [p1]; exact r1
              have e2 : findL (oneN z) (-1) [] now (askW z.A z.R name k).A k = findL (oneN z) (-1) [] now name k := by rw [p2]; exact r2
              rw [e1, e2] at f2
              rw [e2, decide_eq_true rfl] at hrr
              rw [ha] at *
              simp -dsimp -implicitDefEqProofs only [G1, n1, n2, hav, h1, h5, hl, go_sem, ↓reduceIte, reduceCtorEq, Nat.reduceLT, Nat.reduceLeDiff, Nat.reduceEqDiff, Nat.reduceAdd, Nat.reduceMul, Nat.reduceSub, Nat.reduceBEq, Int.reduceLT, Int.reduceLE, Int.reduceEq, Int.reduceBEq, Int.reduceNeg]
              refine callP f2 ?_
              simp -dsimp -implicitDefEqProofs only [go_sem, ↓reduceIte, reduceCtorEq, Nat.reduceLT, Nat.reduceLeDiff, Nat.reduceEqDiff, Nat.reduceAdd, Nat.reduceMul, Nat.reduceSub, Nat.reduceBEq, Int.reduceLT, Int.reduceLE, Int.reduceEq, Int.reduceBEq, Int.reduceNeg]
              refine callP hrr ?_
              simp -dsimp -implicitDefEqProofs only [hl, go_sem, ↓reduceIte, reduceCtorEq, Nat.reduceLT, Nat.reduceLeDiff, Nat.reduceEqDiff, Nat.reduceAdd, Nat.reduceMul, Nat.reduceSub, Nat.reduceBEq, Int.reduceLT, Int.reduceLE, Int.reduceEq, Int.reduceBEq, Int.reduceNeg]
          · rw [if_neg h5, if_neg h1] at hw
            by_cases h4 : (askW z.A z.R name k).K = 4
            · rw [if_pos h4] at hw
              rw [hw] at m1 m2
              have m1 : findE (oneN z) (-1) [] now name k = 130 := m1
              have m2 : findL (oneN z) (-1) [] now name k = [] := m2
              rw [ha] at *
              simp -dsimp -implicitDefEqProofs only [G1, n1, n2, hav, h1, h5, h4, m1, m2, go_sem, ↓reduceIte, reduceCtorEq, Nat.reduceLT, Nat.reduceLeDiff, Nat.reduceEqDiff, Nat.reduceAdd, Nat.reduceMul, Nat.reduceSub, Nat.reduceBEq, Int.reduceLT, Int.reduceLE, Int.reduceEq, Int.reduceBEq, Int.reduceNeg]
            · rw [if_neg h4] at hw
              rw [hw] at m1 m2
              have m1 : findE (oneN z) (-1) [] now name k = 131 := m1
              have m2 : findL (oneN z) (-1) [] now name k = [] := m2
              rw [ha] at *
              simp -dsimp -implicitDefEqProofs only [G1, n1, n2, hav, h1, h5, h4, m1, m2, go_sem, ↓reduceIte, reduceCtorEq, Nat.reduceLT, Nat.reduceLeDiff, Nat.reduceEqDiff, Nat.reduceAdd, Nat.reduceMul, Nat.reduceSub, Nat.reduceBEq, Int.reduceLT, Int.reduceLE, Int.reduceEq, Int.reduceBEq, Int.reduceNeg]
      · have hne : ¬ findE (oneN z) (-1) [] now name k = 0 := fun e => G ((one_good ha).1 (find_good (by rw [e]; rfl)))
        rw [ha] at *
        simp -dsimp -implicitDefEqProofs only [hne, go_sem, ↓reduceIte, reduceCtorEq, Nat.reduceLT, Nat.reduceLeDiff, Nat.reduceEqDiff, Nat.reduceAdd, Nat.reduceMul, Nat.reduceSub, Nat.reduceBEq, Int.reduceLT, Int.reduceLE, Int.reduceEq, Int.reduceBEq, Int.reduceNeg]
        exact fun a b c => absurd ⟨a, b, c⟩ G
    · simp -dsimp -implicitDefEqProofs only [hf, ha, go_sem, ↓reduceIte, reduceCtorEq, Nat.reduceLT, Nat.reduceLeDiff, Nat.reduceEqDiff, Nat.reduceAdd, Nat.reduceMul, Nat.reduceSub, Nat.reduceBEq, Int.reduceLT, Int.reduceLE, Int.reduceEq, Int.reduceBEq, Int.reduceNeg]
end Go.Proofs.YtbkgceobmfcapaaGreatDoor
