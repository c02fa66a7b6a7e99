
/- share: may, Weight, Public. share.Check. share.Split. -/
import Derived.Test.YtijfncaphfaijaaGreatDoorCE
namespace Go.Proofs.YtijfncaphfaijaaGreatDoor
open Go.Eng
set_option linter.unusedSimpArgs false
set_option maxRecDepth 10000

/-- Numbers of signers that are right. -/
structure IdsOk (ids : List Nat) : Prop where
  h0 : 0 < ids.length
  hl : ids.length ≤ 7
  nd : ids.Nodup
  all : ∀ k ∈ ids, 1 ≤ k ∧ k < 100
theorem may_ok (l : List Sh) (h : IdsOk (l.map Sh.id)) (hx : ∀ s ∈ l, s.x < 1152921504606845789) : Meets Tryz.prog 80 [(false, [vD (shD l)])] (rOne (vB true)) := by
  have hl : l.length ≤ 7 := by have := h.hl; rwa [List.length_map] at this
  have h1 := ids_ok l (by omega)
  have h2 := right_ok (l.map Sh.id) h.h0 h.hl h.nd h.all
  refine meets Tryz.func80 rfl rfl Tryz.ntmps80 Tryz.results80 rfl ?_
  simp -dsimp -implicitDefEqProofs only [go_sem, ↓reduceIte, reduceCtorEq, Nat.reduceLT, Nat.reduceLeDiff, Nat.reduceEqDiff, Nat.reduceAdd, Nat.reduceMul, Nat.reduceSub, Nat.reduceBEq, Int.reduceLT, Int.reduceLE, Int.reduceEq, Int.reduceBEq, Int.reduceNeg]
  refine vfor sitOk (ι := MpInv l) (fun v => ⟨18, [(7, aI v.i), (6, aI l.length), (5, aD (shD l)), (0, aD (shD l))], [], 48⟩) (fun v => l.length - v.i) ⟨0, by omega⟩ ?_ ?_
  · simp -dsimp -implicitDefEqProofs only [go_sem, ↓reduceIte, reduceCtorEq, Nat.reduceLT, Nat.reduceLeDiff, Nat.reduceEqDiff, Nat.reduceAdd, Nat.reduceMul, Nat.reduceSub, Nat.reduceBEq, Int.reduceLT, Int.reduceLE, Int.reduceEq, Int.reduceBEq, Int.reduceNeg]
  intro ⟨i, hi⟩
  by_cases hil : i < l.length
  · have c1 : ((i : Int) < (l.length : Int)) = True := by simp; omega
    obtain ⟨s, hs⟩ := get_of hil
    have w2 : IntKind.i64.wrap ((i : Int) + 1) = ((i + 1 : Nat) : Int) := by rw [wrap64] <;> omega
    have hsx := hx s (List.mem_of_getElem? hs)
    have c2 : ((1152921504606845789 : Int) ≤ (s.x : Int)) = False := by simp; omega
    simp -dsimp -implicitDefEqProofs only [c1, hs, forall_eq', w2, Sh.cells, c2, go_sem, ↓reduceIte, reduceCtorEq, Nat.reduceLT, Nat.reduceLeDiff, Nat.reduceEqDiff, Nat.reduceAdd, Nat.reduceMul, Nat.reduceSub, Nat.reduceBEq, Int.reduceLT, Int.reduceLE, Int.reduceEq, Int.reduceBEq, Int.reduceNeg]
    refine ⟨by omega, hil, ?_⟩
    intro _
    refine again ⟨i + 1, by omega⟩ (by simp; omega) ?_
    simp -dsimp -implicitDefEqProofs only [w2, go_sem, ↓reduceIte, reduceCtorEq, Nat.reduceLT, Nat.reduceLeDiff, Nat.reduceEqDiff, Nat.reduceAdd, Nat.reduceMul, Nat.reduceSub, Nat.reduceBEq, Int.reduceLT, Int.reduceLE, Int.reduceEq, Int.reduceBEq, Int.reduceNeg]
  · have c1 : ((i : Int) < (l.length : Int)) = False := by simp; omega
    simp -dsimp -implicitDefEqProofs only [c1, go_sem, ↓reduceIte, reduceCtorEq, Nat.reduceLT, Nat.reduceLeDiff, Nat.reduceEqDiff, Nat.reduceAdd, Nat.reduceMul, Nat.reduceSub, Nat.reduceBEq, Int.reduceLT, Int.reduceLE, Int.reduceEq, Int.reduceBEq, Int.reduceNeg]
    refine callP h1 ?_
    simp -dsimp -implicitDefEqProofs only [go_sem, ↓reduceIte, reduceCtorEq, Nat.reduceLT, Nat.reduceLeDiff, Nat.reduceEqDiff, Nat.reduceAdd, Nat.reduceMul, Nat.reduceSub, Nat.reduceBEq, Int.reduceLT, Int.reduceLE, Int.reduceEq, Int.reduceBEq, Int.reduceNeg]
    refine callP h2 ?_
    simp -dsimp -implicitDefEqProofs only [go_sem, ↓reduceIte, reduceCtorEq, Nat.reduceLT, Nat.reduceLeDiff, Nat.reduceEqDiff, Nat.reduceAdd, Nat.reduceMul, Nat.reduceSub, Nat.reduceBEq, Int.reduceLT, Int.reduceLE, Int.reduceEq, Int.reduceBEq, Int.reduceNeg]
structure FdInv (ids : List Nat) (id : Nat) where
  i : Nat
  hi : i ≤ ids.length
  hn : id ∉ ids.take i
theorem weight_ok (ids : List Nat) (id : Nat) (h : IdsOk ids) (hm : id ∈ ids) (hw : LwOk ids 0) : Meets Tryz.prog 185 [(false, [vD (idD ids)]), (false, [vI id])] (rTup [(false, [vU64 (lwt ids 0 id : Nat)]), (false, [vI 0])]) := by
  have hl := h.hl
  have h1 := right_ok ids h.h0 h.hl h.nd h.all
  have h2 := weights_ok ids 0
  have h3 := wt_ok ids 0 id (by omega) (fun k hk => (h.all k hk).2) (h.all id hm).2 (by decide) (gcd_of_inv (hw.inv id hm))
  refine meets Tryz.func185 rfl rfl Tryz.ntmps185 Tryz.results185 rfl ?_
  simp -dsimp -implicitDefEqProofs only [go_sem, ↓reduceIte, reduceCtorEq, Nat.reduceLT, Nat.reduceLeDiff, Nat.reduceEqDiff, Nat.reduceAdd, Nat.reduceMul, Nat.reduceSub, Nat.reduceBEq, Int.reduceLT, Int.reduceLE, Int.reduceEq, Int.reduceBEq, Int.reduceNeg]
  refine vfor sitOk (ι := FdInv ids id) (fun v => ⟨26, [(10, aI v.i), (9, aI ids.length), (8, aD (idD ids)), (0, aD (idD ids)), (1, aI id)], [], 48⟩) (fun v => ids.length - v.i) ⟨0, by omega, by simp⟩ ?_ ?_
  · simp -dsimp -implicitDefEqProofs only [go_sem, ↓reduceIte, reduceCtorEq, Nat.reduceLT, Nat.reduceLeDiff, Nat.reduceEqDiff, Nat.reduceAdd, Nat.reduceMul, Nat.reduceSub, Nat.reduceBEq, Int.reduceLT, Int.reduceLE, Int.reduceEq, Int.reduceBEq, Int.reduceNeg]
  intro ⟨i, hi, hn⟩
  have hil : i < ids.length := by
    by_cases hil : i < ids.length
    · exact hil
    · rw [List.take_of_length_le (by omega)] at hn
      exact absurd hm hn
  have c1 : ((i : Int) < (ids.length : Int)) = True := by simp; omega
  obtain ⟨k, hk⟩ := get_of hil
  have w2 : IntKind.i64.wrap ((i : Int) + 1) = ((i + 1 : Nat) : Int) := by rw [wrap64] <;> omega
  by_cases hki : k = id
  · subst hki
    simp -dsimp -implicitDefEqProofs only [c1, hk, forall_eq', w2, go_sem, ↓reduceIte, reduceCtorEq, Nat.reduceLT, Nat.reduceLeDiff, Nat.reduceEqDiff, Nat.reduceAdd, Nat.reduceMul, Nat.reduceSub, Nat.reduceBEq, Int.reduceLT, Int.reduceLE, Int.reduceEq, Int.reduceBEq, Int.reduceNeg]
    refine ⟨by omega, hil, callP h1 ?_⟩
    simp -dsimp -implicitDefEqProofs only [go_sem, ↓reduceIte, reduceCtorEq, Nat.reduceLT, Nat.reduceLeDiff, Nat.reduceEqDiff, Nat.reduceAdd, Nat.reduceMul, Nat.reduceSub, Nat.reduceBEq, Int.reduceLT, Int.reduceLE, Int.reduceEq, Int.reduceBEq, Int.reduceNeg]
    refine callP h2 ?_
    simp -dsimp -implicitDefEqProofs only [go_sem, ↓reduceIte, reduceCtorEq, Nat.reduceLT, Nat.reduceLeDiff, Nat.reduceEqDiff, Nat.reduceAdd, Nat.reduceMul, Nat.reduceSub, Nat.reduceBEq, Int.reduceLT, Int.reduceLE, Int.reduceEq, Int.reduceBEq, Int.reduceNeg]
    refine callP h3 ?_
    simp -dsimp -implicitDefEqProofs only [go_sem, ↓reduceIte, reduceCtorEq, Nat.reduceLT, Nat.reduceLeDiff, Nat.reduceEqDiff, Nat.reduceAdd, Nat.reduceMul, Nat.reduceSub, Nat.reduceBEq, Int.reduceLT, Int.reduceLE, Int.reduceEq, Int.reduceBEq, Int.reduceNeg]
  · have c2 : ((k : Int) = (id : Int)) = False := by simp; omega
    simp -dsimp -implicitDefEqProofs only [c1, hk, forall_eq', w2, c2, go_sem, ↓reduceIte, reduceCtorEq, Nat.reduceLT, Nat.reduceLeDiff, Nat.reduceEqDiff, Nat.reduceAdd, Nat.reduceMul, Nat.reduceSub, Nat.reduceBEq, Int.reduceLT, Int.reduceLE, Int.reduceEq, Int.reduceBEq, Int.reduceNeg]
    refine ⟨by omega, hil, again ⟨i + 1, by omega, ?_⟩ (by simp; omega) ?_⟩
    · rw [List.take_add_one, hk, List.mem_append]
      simp only [Option.toList_some, List.mem_singleton, not_or]
      exact ⟨hn, fun e => hki e.symm⟩
    simp -dsimp -implicitDefEqProofs only [w2, go_sem, ↓reduceIte, reduceCtorEq, Nat.reduceLT, Nat.reduceLeDiff, Nat.reduceEqDiff, Nat.reduceAdd, Nat.reduceMul, Nat.reduceSub, Nat.reduceBEq, Int.reduceLT, Int.reduceLE, Int.reduceEq, Int.reduceBEq, Int.reduceNeg]
/-- The public side of a share. -/
def Sh.pub (s : Sh) : Sh := ⟨s.id, 4 ^ s.x % 2305843009213691579⟩
theorem pub1_ok (s : Sh) (hx : s.x < 18446744073709551616) : Meets Tryz.prog 82 [(true, [vI s.id, vU64 s.x])] (rAgg [vI s.pub.id, vU64 s.pub.x]) := by
  have h1 := base_ok s.x hx
  refine meets Tryz.func82 rfl rfl Tryz.ntmps82 Tryz.results82 rfl ?_
  simp -dsimp -implicitDefEqProofs only [go_sem, ↓reduceIte, reduceCtorEq, Nat.reduceLT, Nat.reduceLeDiff, Nat.reduceEqDiff, Nat.reduceAdd, Nat.reduceMul, Nat.reduceSub, Nat.reduceBEq, Int.reduceLT, Int.reduceLE, Int.reduceEq, Int.reduceBEq, Int.reduceNeg]
  refine callP h1 ?_
  simp -dsimp -implicitDefEqProofs only [go_sem, ↓reduceIte, reduceCtorEq, Nat.reduceLT, Nat.reduceLeDiff, Nat.reduceEqDiff, Nat.reduceAdd, Nat.reduceMul, Nat.reduceSub, Nat.reduceBEq, Int.reduceLT, Int.reduceLE, Int.reduceEq, Int.reduceBEq, Int.reduceNeg]
  exact ⟨drawn (by kernel_rfl), rfl, rfl⟩
theorem mapP_ok (l : List Sh) (hl : l.length ≤ 100) (hx : ∀ s ∈ l, s.x < 1152921504606845789) : Meets Tryz.prog 81 [(false, [vD (shD l)]), (false, [vD (.fn 82 [])])] (rOne (.own 2 79 (shR (l.map Sh.pub)))) := by
  refine meets Tryz.func81 rfl rfl Tryz.ntmps81 Tryz.results81 rfl ?_
  simp -dsimp -implicitDefEqProofs only [go_sem, ↓reduceIte, reduceCtorEq, Nat.reduceLT, Nat.reduceLeDiff, Nat.reduceEqDiff, Nat.reduceAdd, Nat.reduceMul, Nat.reduceSub, Nat.reduceBEq, Int.reduceLT, Int.reduceLE, Int.reduceEq, Int.reduceBEq, Int.reduceNeg]
  refine vfor sitOk (ι := MpInv l) (fun v => ⟨23, [(11, aI v.i), (10, aI l.length), (9, aD (shD l)), (5, aO 8), (1, aD (.fn 82 []))], [(8, some (.row 2 79 (shR ((l.take v.i).map Sh.pub)) true))], 48⟩) (fun v => l.length - v.i) ⟨0, by omega⟩ ?_ ?_
  · simp -dsimp -implicitDefEqProofs only [go_sem, ↓reduceIte, reduceCtorEq, Nat.reduceLT, Nat.reduceLeDiff, Nat.reduceEqDiff, Nat.reduceAdd, Nat.reduceMul, Nat.reduceSub, Nat.reduceBEq, Int.reduceLT, Int.reduceLE, Int.reduceEq, Int.reduceBEq, Int.reduceNeg]
  intro ⟨i, hi⟩
  by_cases hil : i < l.length
  · have c1 : ((i : Int) < (l.length : Int)) = True := by simp; omega
    obtain ⟨s, hs⟩ := get_of hil
    have w2 : IntKind.i64.wrap ((i : Int) + 1) = ((i + 1 : Nat) : Int) := by rw [wrap64] <;> omega
    have ht : l.take (i + 1) = l.take i ++ [s] := by rw [List.take_add_one, hs]; rfl
    have htl : (l.take i).length ≤ 100 := by rw [List.length_take]; omega
    have hsx := hx s (List.mem_of_getElem? hs)
    simp -dsimp -implicitDefEqProofs only [c1, hs, forall_eq', w2, Sh.cells, go_sem, ↓reduceIte, reduceCtorEq, Nat.reduceLT, Nat.reduceLeDiff, Nat.reduceEqDiff, Nat.reduceAdd, Nat.reduceMul, Nat.reduceSub, Nat.reduceBEq, Int.reduceLT, Int.reduceLE, Int.reduceEq, Int.reduceBEq, Int.reduceNeg]
    refine ⟨by omega, hil, callP (pub1_ok s (by omega)) ?_⟩
    simp -dsimp -implicitDefEqProofs only [Sh.cells, go_sem, ↓reduceIte, reduceCtorEq, Nat.reduceLT, Nat.reduceLeDiff, Nat.reduceEqDiff, Nat.reduceAdd, Nat.reduceMul, Nat.reduceSub, Nat.reduceBEq, Int.reduceLT, Int.reduceLE, Int.reduceEq, Int.reduceBEq, Int.reduceNeg]
    refine ⟨⟨by omega, by omega⟩, againT 8 5 ⟨i + 1, by omega⟩ (by simp; omega) ?_⟩
    simp -dsimp -implicitDefEqProofs only [w2, ht, List.map_append, List.map_cons, List.map_nil, Sh.cells, go_sem, ↓reduceIte, reduceCtorEq, Nat.reduceLT, Nat.reduceLeDiff, Nat.reduceEqDiff, Nat.reduceAdd, Nat.reduceMul, Nat.reduceSub, Nat.reduceBEq, Int.reduceLT, Int.reduceLE, Int.reduceEq, Int.reduceBEq, Int.reduceNeg]
  · have c1 : ((i : Int) < (l.length : Int)) = False := by simp; omega
    obtain rfl : i = l.length := by omega
    simp -dsimp -implicitDefEqProofs only [c1, List.take_length, go_sem, ↓reduceIte, reduceCtorEq, Nat.reduceLT, Nat.reduceLeDiff, Nat.reduceEqDiff, Nat.reduceAdd, Nat.reduceMul, Nat.reduceSub, Nat.reduceBEq, Int.reduceLT, Int.reduceLE, Int.reduceEq, Int.reduceBEq, Int.reduceNeg]
theorem spublic_ok (l : List Sh) (h : IdsOk (l.map Sh.id)) (hx : ∀ s ∈ l, s.x < 1152921504606845789) : Meets Tryz.prog 28 [(false, [vD (shD l)])] (rTup [(false, [.own 2 79 (shR (l.map Sh.pub))]), (false, [vI 0])]) := by
  have hl : l.length ≤ 7 := by have := h.hl; rwa [List.length_map] at this
  have h1 := may_ok l h hx
  have h2 := mapP_ok l (by omega) hx
  refine meets Tryz.func28 rfl rfl Tryz.ntmps28 Tryz.results28 rfl ?_
  simp -dsimp -implicitDefEqProofs only [go_sem, ↓reduceIte, reduceCtorEq, Nat.reduceLT, Nat.reduceLeDiff, Nat.reduceEqDiff, Nat.reduceAdd, Nat.reduceMul, Nat.reduceSub, Nat.reduceBEq, Int.reduceLT, Int.reduceLE, Int.reduceEq, Int.reduceBEq, Int.reduceNeg]
  refine callP h1 ?_
  simp -dsimp -implicitDefEqProofs only [go_sem, ↓reduceIte, reduceCtorEq, Nat.reduceLT, Nat.reduceLeDiff, Nat.reduceEqDiff, Nat.reduceAdd, Nat.reduceMul, Nat.reduceSub, Nat.reduceBEq, Int.reduceLT, Int.reduceLE, Int.reduceEq, Int.reduceBEq, Int.reduceNeg]
  refine callP h2 ?_
  simp -dsimp -implicitDefEqProofs only [go_sem, ↓reduceIte, reduceCtorEq, Nat.reduceLT, Nat.reduceLeDiff, Nat.reduceEqDiff, Nat.reduceAdd, Nat.reduceMul, Nat.reduceSub, Nat.reduceBEq, Int.reduceLT, Int.reduceLE, Int.reduceEq, Int.reduceBEq, Int.reduceNeg]
end Go.Proofs.YtijfncaphfaijaaGreatDoor
namespace Go.Proofs.YtijfncaphfaijaaGreatDoor
open Go.Eng
set_option linter.unusedSimpArgs false
set_option maxRecDepth 10000

/-- A product of what is made of each. -/
def prW (f : Sh → Nat) : List Sh → Nat → Nat
  | [], a => a
  | s :: r, a => prW f r (a * f s % 2305843009213691579)
def fW (ids : List Nat) (x : Nat) (s : Sh) : Nat := s.x ^ lwt ids x s.id % 2305843009213691579
def InG (x : Nat) : Prop := 0 < x ∧ x < 2305843009213691579 ∧ x ^ 1152921504606845789 % 2305843009213691579 = 1
theorem inG_ok {x : Nat} (h : InG x) : Meets Tryz.prog 42 [(false, [vU64 x])] (rOne (vB true)) := by
  have h1 := in_ok x (by have := h.2.1; omega)
  rwa [decide_eq_true h.1, decide_eq_true h.2.1, decide_eq_true h.2.2] at h1
/-- Parts that are right. -/
structure PkOk (t : Nat) (l : List Sh) : Prop where
  ids : IdsOk (l.map Sh.id)
  t1 : 1 ≤ t
  tl : t ≤ l.length
  inn : ∀ s ∈ l, InG s.x
  lw : ∀ s ∈ l.drop t, LwOk ((l.take t).map Sh.id) s.id
  pr : ∀ s ∈ l.drop t, prW (fW ((l.take t).map Sh.id) s.id) (l.take t) 1 = s.x
theorem lwt_lt (ids : List Nat) (x id : Nat) : lwt ids x id < 1152921504606845789 := Nat.mod_lt _ (by decide)
structure PcInv (l : List Sh) (f : Sh → Nat) where
  i : Nat
  a : Nat
  hi : i ≤ l.length
  ha : prW f (l.drop i) a = prW f l 1
  la : a < 2305843009213691579
theorem scheck_ok (t : Nat) (l : List Sh) (h : PkOk t l) : Meets Tryz.prog 142 [(false, [vI t]), (false, [vD (shD l)])] (rOne (vI 0)) := by
  have hl : l.length ≤ 7 := by have := h.ids.hl; rwa [List.length_map] at this
  have hl0 : 0 < l.length := by have := h.ids.h0; rwa [List.length_map] at this
  have ht1 := h.t1
  have htl := h.tl
  have h1 := ids_ok l (by omega)
  have h2 := right_ok (l.map Sh.id) h.ids.h0 h.ids.hl h.ids.nd h.ids.all
  have c1 : ((t : Int) < 1) = False := by simp; omega
  have c2 : ((7 : Int) < (t : Int)) = False := by simp; omega
  have c3 : ((0 : Int) < (l.length : Int)) = True := by simp; omega
  refine meets Tryz.func142 rfl rfl Tryz.ntmps142 Tryz.results142 rfl ?_
  simp -dsimp -implicitDefEqProofs only [c1, c2, c3, go_sem, ↓reduceIte, reduceCtorEq, Nat.reduceLT, Nat.reduceLeDiff, Nat.reduceEqDiff, Nat.reduceAdd, Nat.reduceMul, Nat.reduceSub, Nat.reduceBEq, Int.reduceLT, Int.reduceLE, Int.reduceEq, Int.reduceBEq, Int.reduceNeg]
  refine callP h1 ?_
  simp -dsimp -implicitDefEqProofs only [go_sem, ↓reduceIte, reduceCtorEq, Nat.reduceLT, Nat.reduceLeDiff, Nat.reduceEqDiff, Nat.reduceAdd, Nat.reduceMul, Nat.reduceSub, Nat.reduceBEq, Int.reduceLT, Int.reduceLE, Int.reduceEq, Int.reduceBEq, Int.reduceNeg]
  refine callP h2 ?_
  simp -dsimp -implicitDefEqProofs only [go_sem, ↓reduceIte, reduceCtorEq, Nat.reduceLT, Nat.reduceLeDiff, Nat.reduceEqDiff, Nat.reduceAdd, Nat.reduceMul, Nat.reduceSub, Nat.reduceBEq, Int.reduceLT, Int.reduceLE, Int.reduceEq, Int.reduceBEq, Int.reduceNeg]
  refine vfor sitOk (ι := MpInv l) (fun v => ⟨86, [(34, aI v.i), (33, aI l.length), (32, aD (shD l)), (0, aI t), (1, aD (shD l))], [], 168⟩) (fun v => l.length - v.i) ⟨0, by omega⟩ ?_ ?_
  · simp -dsimp -implicitDefEqProofs only [go_sem, ↓reduceIte, reduceCtorEq, Nat.reduceLT, Nat.reduceLeDiff, Nat.reduceEqDiff, Nat.reduceAdd, Nat.reduceMul, Nat.reduceSub, Nat.reduceBEq, Int.reduceLT, Int.reduceLE, Int.reduceEq, Int.reduceBEq, Int.reduceNeg]
  intro ⟨i, hi⟩
  by_cases hil : i < l.length
  · have c1 : ((i : Int) < (l.length : Int)) = True := by simp; omega
    obtain ⟨s, hs⟩ := get_of hil
    have w2 : IntKind.i64.wrap ((i : Int) + 1) = ((i + 1 : Nat) : Int) := by rw [wrap64] <;> omega
    have h3 := inG_ok (h.inn s (List.mem_of_getElem? hs))
    simp -dsimp -implicitDefEqProofs only [c1, hs, forall_eq', Sh.cells, go_sem, ↓reduceIte, reduceCtorEq, Nat.reduceLT, Nat.reduceLeDiff, Nat.reduceEqDiff, Nat.reduceAdd, Nat.reduceMul, Nat.reduceSub, Nat.reduceBEq, Int.reduceLT, Int.reduceLE, Int.reduceEq, Int.reduceBEq, Int.reduceNeg]
    refine ⟨by omega, hil, callP h3 ?_⟩
    simp -dsimp -implicitDefEqProofs only [go_sem, ↓reduceIte, reduceCtorEq, Nat.reduceLT, Nat.reduceLeDiff, Nat.reduceEqDiff, Nat.reduceAdd, Nat.reduceMul, Nat.reduceSub, Nat.reduceBEq, Int.reduceLT, Int.reduceLE, Int.reduceEq, Int.reduceBEq, Int.reduceNeg]
    refine again ⟨i + 1, by omega⟩ (by simp; omega) ?_
    simp -dsimp -implicitDefEqProofs only [w2, go_sem, ↓reduceIte, reduceCtorEq, Nat.reduceLT, Nat.reduceLeDiff, Nat.reduceEqDiff, Nat.reduceAdd, Nat.reduceMul, Nat.reduceSub, Nat.reduceBEq, Int.reduceLT, Int.reduceLE, Int.reduceEq, Int.reduceBEq, Int.reduceNeg]
  · have c4 : ((i : Int) < (l.length : Int)) = False := by simp; omega
    have c5 : ((l.length : Int) < (t : Int)) = False := by simp; omega
    have c6 : ((t : Int) = 0) = False := by simp; omega
    have hlw := h.lw
    have hpr := h.pr
    obtain ⟨F, hF⟩ : ∃ F, F = l.take t := ⟨_, rfl⟩
    obtain ⟨R, hR⟩ : ∃ R, R = l.drop t := ⟨_, rfl⟩
    have e1 : List.drop t (List.take l.length (l.map Sh.cells)) = R.map Sh.cells := by rw [List.take_of_length_le (by simp), hR, List.map_drop]
    have e2 : List.take t (l.map Sh.cells) = F.map Sh.cells := by rw [hF, List.map_take]
    rw [← hF] at hlw hpr
    rw [← hR] at hlw hpr
    have hFl : F.length ≤ 7 := by rw [hF, List.length_take]; omega
    have hRl : R.length ≤ 7 := by rw [hR, List.length_drop]; omega
    have hFm : ∀ s ∈ F, s ∈ l := fun s hs => List.mem_of_mem_take (hF ▸ hs)
    have hRm : ∀ s ∈ R, s ∈ l := fun s hs => List.mem_of_mem_drop (hR ▸ hs)
    have hFi : ∀ k ∈ F.map Sh.id, k < 100 := fun k hk => by
      obtain ⟨s, hs, rfl⟩ := List.mem_map.1 hk
      exact (h.ids.all _ (List.mem_map.2 ⟨s, hFm s hs, rfl⟩)).2
    clear hF hR
    simp -dsimp -implicitDefEqProofs only [c4, c5, c6, Int.toNat_natCast, e1, e2, go_sem, ↓reduceIte, reduceCtorEq, Nat.reduceLT, Nat.reduceLeDiff, Nat.reduceEqDiff, Nat.reduceAdd, Nat.reduceMul, Nat.reduceSub, Nat.reduceBEq, Int.reduceLT, Int.reduceLE, Int.reduceEq, Int.reduceBEq, Int.reduceNeg]
    refine ⟨by omega, by omega, drawn (by kernel_rfl), ?_⟩
    refine vfor sitOk (ι := MpInv R) (fun v => ⟨86, [(55, aI v.i), (54, aI R.length), (53, aD (shD R)), (7, aD (shD F))], [], 296⟩) (fun v => R.length - v.i) ⟨0, by omega⟩ ?_ ?_
    · simp -dsimp -implicitDefEqProofs only [go_sem, ↓reduceIte, reduceCtorEq, Nat.reduceLT, Nat.reduceLeDiff, Nat.reduceEqDiff, Nat.reduceAdd, Nat.reduceMul, Nat.reduceSub, Nat.reduceBEq, Int.reduceLT, Int.reduceLE, Int.reduceEq, Int.reduceBEq, Int.reduceNeg]
    intro ⟨j, hj⟩
    by_cases hjl : j < R.length
    · have d1 : ((j : Int) < (R.length : Int)) = True := by simp; omega
      obtain ⟨s, hs⟩ := get_of hjl
      have hsm := List.mem_of_getElem? hs
      have hsl := hRm s hsm
      have hin := h.inn s hsl
      have hid := (h.ids.all _ (List.mem_map.2 ⟨s, hsl, rfl⟩)).2
      have w3 : IntKind.i64.wrap ((j : Int) + 1) = ((j + 1 : Nat) : Int) := by rw [wrap64] <;> omega
      have w4 : IntKind.u64.wrap (s.id : Int) = ((s.id : Nat) : Int) := wS _ (by omega)
      have h3 := ids_ok F (by omega)
      have h4 := weights_ok (F.map Sh.id) s.id
      have lw := hlw s hsm
      have pr := hpr s hsm
      simp -dsimp -implicitDefEqProofs only [d1, hs, forall_eq', Sh.cells, go_sem, ↓reduceIte, reduceCtorEq, Nat.reduceLT, Nat.reduceLeDiff, Nat.reduceEqDiff, Nat.reduceAdd, Nat.reduceMul, Nat.reduceSub, Nat.reduceBEq, Int.reduceLT, Int.reduceLE, Int.reduceEq, Int.reduceBEq, Int.reduceNeg]
      refine ⟨by omega, hjl, callP h3 ?_⟩
      simp -dsimp -implicitDefEqProofs only [w4, go_sem, ↓reduceIte, reduceCtorEq, Nat.reduceLT, Nat.reduceLeDiff, Nat.reduceEqDiff, Nat.reduceAdd, Nat.reduceMul, Nat.reduceSub, Nat.reduceBEq, Int.reduceLT, Int.reduceLE, Int.reduceEq, Int.reduceBEq, Int.reduceNeg]
      refine callP h4 ?_
      simp -dsimp -implicitDefEqProofs only [w4, go_sem, ↓reduceIte, reduceCtorEq, Nat.reduceLT, Nat.reduceLeDiff, Nat.reduceEqDiff, Nat.reduceAdd, Nat.reduceMul, Nat.reduceSub, Nat.reduceBEq, Int.reduceLT, Int.reduceLE, Int.reduceEq, Int.reduceBEq, Int.reduceNeg]
      refine ⟨drawn (by kernel_rfl), ?_⟩
      refine vfor sitOk (ι := PcInv F (fW (F.map Sh.id) s.id)) (fun v => ⟨86, [(67, aI v.i), (66, aI F.length), (65, aD (shD F)), (12, .cs false [.d (.v (.int .u64 (v.a : Int)))]), (11, aD (wtD (F.map Sh.id) s.id)), (10, aP 320 0), (55, aI j), (54, aI R.length), (53, aD (shD R)), (7, aD (shD F))], [(320, some (.var [cI s.id, cU s.x] true))], 424⟩) (fun v => F.length - v.i) ⟨0, 1, by omega, rfl, by decide⟩ ?_ ?_
      · simp -dsimp -implicitDefEqProofs only [go_sem, ↓reduceIte, reduceCtorEq, Nat.reduceLT, Nat.reduceLeDiff, Nat.reduceEqDiff, Nat.reduceAdd, Nat.reduceMul, Nat.reduceSub, Nat.reduceBEq, Int.reduceLT, Int.reduceLE, Int.reduceEq, Int.reduceBEq, Int.reduceNeg]
      intro ⟨k, a, hk, ha, la⟩
      by_cases hkl : k < F.length
      · have f1 : ((k : Int) < (F.length : Int)) = True := by simp; omega
        obtain ⟨q, hq⟩ := get_of hkl
        have hqm := List.mem_of_getElem? hq
        have hqi : q.id ∈ F.map Sh.id := List.mem_map.2 ⟨q, hqm, rfl⟩
        have hqin := h.inn q (hFm q hqm)
        have w5 : IntKind.i64.wrap ((k : Int) + 1) = ((k + 1 : Nat) : Int) := by rw [wrap64] <;> omega
        have h5 := wt_ok (F.map Sh.id) s.id q.id (by rw [List.length_map]; omega) hFi (hFi _ hqi) (by omega) (gcd_of_inv (lw.inv q.id hqi))
        have hlt := lwt_lt (F.map Sh.id) s.id q.id
        have h6 := pow_ok q.x (lwt (F.map Sh.id) s.id q.id) (by have := hqin.2.1; omega) (by omega)
        have h7 := gmul_ok a (fW (F.map Sh.id) s.id q) (by omega) (mod_w (by decide) (by decide))
        rw [drop_get hq] at ha
        simp -dsimp -implicitDefEqProofs only [f1, hq, forall_eq', Sh.cells, go_sem, ↓reduceIte, reduceCtorEq, Nat.reduceLT, Nat.reduceLeDiff, Nat.reduceEqDiff, Nat.reduceAdd, Nat.reduceMul, Nat.reduceSub, Nat.reduceBEq, Int.reduceLT, Int.reduceLE, Int.reduceEq, Int.reduceBEq, Int.reduceNeg]
        refine ⟨by omega, hkl, callP h5 ?_⟩
        simp -dsimp -implicitDefEqProofs only [go_sem, ↓reduceIte, reduceCtorEq, Nat.reduceLT, Nat.reduceLeDiff, Nat.reduceEqDiff, Nat.reduceAdd, Nat.reduceMul, Nat.reduceSub, Nat.reduceBEq, Int.reduceLT, Int.reduceLE, Int.reduceEq, Int.reduceBEq, Int.reduceNeg]
        refine callP h6 ?_
        simp -dsimp -implicitDefEqProofs only [go_sem, ↓reduceIte, reduceCtorEq, Nat.reduceLT, Nat.reduceLeDiff, Nat.reduceEqDiff, Nat.reduceAdd, Nat.reduceMul, Nat.reduceSub, Nat.reduceBEq, Int.reduceLT, Int.reduceLE, Int.reduceEq, Int.reduceBEq, Int.reduceNeg]
        refine callP h7 ?_
        simp -dsimp -implicitDefEqProofs only [go_sem, ↓reduceIte, reduceCtorEq, Nat.reduceLT, Nat.reduceLeDiff, Nat.reduceEqDiff, Nat.reduceAdd, Nat.reduceMul, Nat.reduceSub, Nat.reduceBEq, Int.reduceLT, Int.reduceLE, Int.reduceEq, Int.reduceBEq, Int.reduceNeg]
        refine ⟨drawn (by kernel_rfl), ?_⟩
        refine again ⟨k + 1, a * fW (F.map Sh.id) s.id q % 2305843009213691579, by omega, ha, Nat.mod_lt _ (by decide)⟩ (by simp; omega) ?_
        simp -dsimp -implicitDefEqProofs only [w5, go_sem, ↓reduceIte, reduceCtorEq, Nat.reduceLT, Nat.reduceLeDiff, Nat.reduceEqDiff, Nat.reduceAdd, Nat.reduceMul, Nat.reduceSub, Nat.reduceBEq, Int.reduceLT, Int.reduceLE, Int.reduceEq, Int.reduceBEq, Int.reduceNeg]
      · have f1 : ((k : Int) < (F.length : Int)) = False := by simp; omega
        have hd : F.drop k = [] := List.drop_eq_nil_iff.2 (by omega)
        rw [hd] at ha
        have ha' : a = s.x := by rw [← pr, ← ha]; rfl
        subst ha'
        simp -dsimp -implicitDefEqProofs only [f1, go_sem, ↓reduceIte, reduceCtorEq, Nat.reduceLT, Nat.reduceLeDiff, Nat.reduceEqDiff, Nat.reduceAdd, Nat.reduceMul, Nat.reduceSub, Nat.reduceBEq, Int.reduceLT, Int.reduceLE, Int.reduceEq, Int.reduceBEq, Int.reduceNeg]
        refine again ⟨j + 1, by omega⟩ (by simp; omega) ?_
        simp -dsimp -implicitDefEqProofs only [w3, go_sem, ↓reduceIte, reduceCtorEq, Nat.reduceLT, Nat.reduceLeDiff, Nat.reduceEqDiff, Nat.reduceAdd, Nat.reduceMul, Nat.reduceSub, Nat.reduceBEq, Int.reduceLT, Int.reduceLE, Int.reduceEq, Int.reduceBEq, Int.reduceNeg]
    · have d1 : ((j : Int) < (R.length : Int)) = False := by simp; omega
      simp -dsimp -implicitDefEqProofs only [d1, go_sem, ↓reduceIte, reduceCtorEq, Nat.reduceLT, Nat.reduceLeDiff, Nat.reduceEqDiff, Nat.reduceAdd, Nat.reduceMul, Nat.reduceSub, Nat.reduceBEq, Int.reduceLT, Int.reduceLE, Int.reduceEq, Int.reduceBEq, Int.reduceNeg]
end Go.Proofs.YtijfncaphfaijaaGreatDoor
namespace Go.Proofs.YtijfncaphfaijaaGreatDoor
open Go.Eng
set_option linter.unusedSimpArgs false
set_option maxRecDepth 10000

def shaT : ByteArray := ⟨#[115, 104, 97, 114, 101]⟩
noncomputable def coN (seed : List Int) (secret i : Nat) : Nat := if i = 0 then secret else tagN 1152921504606845789 shaT [seed, [(i : Int)]]
noncomputable def polyL (seed : List Int) (secret t : Nat) : List Nat := (List.range t).map (coN seed secret)
theorem polyL_len (seed : List Int) (secret t : Nat) : (polyL seed secret t).length = t := by simp [polyL]
theorem polyL_get {seed : List Int} {secret t i : Nat} (h : i < t) : (polyL seed secret t)[i]? = some (coN seed secret i) := by simp [polyL, List.getElem?_range h]
/-- The shares. -/
noncomputable def spL (seed : List Int) (secret t n : Nat) : List Sh := (List.range n).map fun k => ⟨k + 1, evN (k + 1) (polyL seed secret t) 0 1⟩
theorem spL_len (seed : List Int) (secret t n : Nat) : (spL seed secret t n).length = n := by simp [spL]
theorem spL_get {seed : List Int} {secret t n k : Nat} (h : k < n) : (spL seed secret t n)[k]? = some ⟨k + 1, evN (k + 1) (polyL seed secret t) 0 1⟩ := by simp [spL, List.getElem?_range h]
structure P1Inv (p : List Nat) where
  i : Nat
  w : List Nat
  hi : i ≤ p.length
  hw : w.length = p.length
  hj : ∀ j, j < i → w[j]? = p[j]?
structure P2Inv (p : List Sh) where
  i : Nat
  w : List Sh
  hi : i ≤ p.length
  hw : w.length = p.length
  hj : ∀ j, j < i → w[j]? = p[j]?
  hk : ∀ j, i ≤ j → j < p.length → w[j]? = some ⟨0, 0⟩
structure P3Inv (k : Nat) (p : List Nat) where
  i : Nat
  a : Nat
  b : Nat
  hi : i ≤ p.length
  ok : evN (k + 1) (p.drop i) a b = evN (k + 1) p 0 1
  la : a < 1152921504606845789
  lb : b < 1152921504606845789
abbrev woR (l : List Nat) : List (List D) := l.map fun (n : Nat) => [.v (.int .u64 (n : Int))]
theorem woR_set (w : List Nat) (i v : Nat) : (woR w).set i [.v (.int .u64 (v : Int))] = woR (w.set i v) := by unfold woR; rw [List.map_set]
theorem shR_set (w : List Sh) (i id x : Nat) : (shR w).set i [.v (.int .i64 (id : Int)), .v (.int .u64 (x : Int))] = shR (w.set i ⟨id, x⟩) := by unfold shR; rw [List.map_set]; rfl
theorem split_ok (seed : List Int) (secret t n : Nat) (hs : seed.length ≤ 10000) (hx : secret < 1152921504606845789) (ht : 1 ≤ t) (htn : t ≤ n) (hn : n ≤ 7) :
    Meets Tryz.prog 27 [(false, [vU64 secret]), (false, [vI t]), (false, [vI n]), (false, [vD (byD seed)])] (rTup [(false, [.own 2 79 (shR (spL seed secret t n))]), (false, [vI 0])]) := by
  have c1 : ((t : Int) < 1) = False := by simp; omega
  have c2 : ((n : Int) < (t : Int)) = False := by simp; omega
  have c3 : ((7 : Int) < (n : Int)) = False := by simp; omega
  have c4 : ((1152921504606845789 : Int) ≤ (secret : Int)) = False := by simp; omega
  obtain ⟨p, hp⟩ : ∃ p, p = polyL seed secret t := ⟨_, rfl⟩
  have hpl : p.length = t := by rw [hp, polyL_len]
  refine meets Tryz.func27 rfl rfl Tryz.ntmps27 Tryz.results27 rfl ?_
  simp -dsimp -implicitDefEqProofs only [c1, c2, c3, c4, mkA, go_sem, ↓reduceIte, reduceCtorEq, Nat.reduceLT, Nat.reduceLeDiff, Nat.reduceEqDiff, Nat.reduceAdd, Nat.reduceMul, Nat.reduceSub, Nat.reduceBEq, Int.reduceLT, Int.reduceLE, Int.reduceEq, Int.reduceBEq, Int.reduceNeg]
  refine ⟨⟨by omega, by omega, by omega⟩, ?_⟩
  refine vfor sitOk (ι := P1Inv p) (fun v => ⟨96, [(36, aI v.i), (35, aI t), (34, aO 144), (10, aO 144), (0, .cs false [.d (.v (.int .u64 (secret : Int)))]), (1, aI t), (2, aI n), (3, aD (byD seed))], [(144, some (.row 1 25 (woR v.w) true))], 184⟩) (fun v => t - v.i) ⟨0, List.replicate t 0, by omega, by simp [hpl], fun j hj => by omega⟩ ?_ ?_
  · simp -dsimp -implicitDefEqProofs only [List.length_replicate, List.map_replicate, go_sem, ↓reduceIte, reduceCtorEq, Nat.reduceLT, Nat.reduceLeDiff, Nat.reduceEqDiff, Nat.reduceAdd, Nat.reduceMul, Nat.reduceSub, Nat.reduceBEq, Int.reduceLT, Int.reduceLE, Int.reduceEq, Int.reduceBEq, Int.reduceNeg]
  intro ⟨i, w, hi, hw, hj⟩
  by_cases hit : i < t
  · have d1 : ((i : Int) < (t : Int)) = True := by simp; omega
    have d2 : (i < w.length) = True := by simp; omega
    have w2 : IntKind.i64.wrap ((i : Int) + 1) = ((i + 1 : Nat) : Int) := by rw [wrap64] <;> omega
    have w3 : IntKind.u8.wrap (i : Int) = ((i : Nat) : Int) := by rw [IntKind.wrap_u8]; omega
    by_cases hi0 : i = 0
    · subst hi0
      have c0 : ((0 : Int) < (t : Int)) = True := by simp; omega
      have c5 : ((0 : Int) < (w.length : Int)) = True := by simp; omega
      simp -dsimp -implicitDefEqProofs only [c0, c5, d1, d2, w2, go_sem, ↓reduceIte, reduceCtorEq, Nat.reduceLT, Nat.reduceLeDiff, Nat.reduceEqDiff, Nat.reduceAdd, Nat.reduceMul, Nat.reduceSub, Nat.reduceBEq, Int.reduceLT, Int.reduceLE, Int.reduceEq, Int.reduceBEq, Int.reduceNeg]
      intro x hx0
      refine again ⟨1, w.set 0 secret, by omega, by simp [hw], fun j hj' => ?_⟩ (by simp; omega) ?_
      · have : j = 0 := by omega
        subst this
        rw [List.getElem?_set_self (by omega), hp, polyL_get (by omega)]
        rfl
      simp -dsimp -implicitDefEqProofs only [woR_set, i01, go_sem, ↓reduceIte, reduceCtorEq, Nat.reduceLT, Nat.reduceLeDiff, Nat.reduceEqDiff, Nat.reduceAdd, Nat.reduceMul, Nat.reduceSub, Nat.reduceBEq, Int.reduceLT, Int.reduceLE, Int.reduceEq, Int.reduceBEq, Int.reduceNeg]
    · have d3 : ((0 : Int) < (i : Int)) = True := by simp; omega
      have hl : (frmL [seed, [(i : Int)]]).length ≤ 549755813888 := by simp [frmL, putL_len]; omega
      have h1 := tagged_ok shaT [seed, [(i : Int)]] (by decide) hl
      have hsn := sumN_ok (frm shaT [seed, [(i : Int)]]) (by rw [frm_len]; have : shaT.size = 5 := rfl; omega)
      obtain ⟨_, h3⟩ := numN_ok lzR _ _ hsn.1 hsn.2.1
      simp -dsimp -implicitDefEqProofs only [d1, d2, d3, w2, w3, go_sem, ↓reduceIte, reduceCtorEq, Nat.reduceLT, Nat.reduceLeDiff, Nat.reduceEqDiff, Nat.reduceAdd, Nat.reduceMul, Nat.reduceSub, Nat.reduceBEq, Int.reduceLT, Int.reduceLE, Int.reduceEq, Int.reduceBEq, Int.reduceNeg]
      refine ⟨by omega, fun x hx0 => callP h1 ?_⟩
      simp -dsimp -implicitDefEqProofs only [woR_set, go_sem, ↓reduceIte, reduceCtorEq, Nat.reduceLT, Nat.reduceLeDiff, Nat.reduceEqDiff, Nat.reduceAdd, Nat.reduceMul, Nat.reduceSub, Nat.reduceBEq, Int.reduceLT, Int.reduceLE, Int.reduceEq, Int.reduceBEq, Int.reduceNeg]
      refine callP h3 ?_
      simp -dsimp -implicitDefEqProofs only [woR_set, go_sem, ↓reduceIte, reduceCtorEq, Nat.reduceLT, Nat.reduceLeDiff, Nat.reduceEqDiff, Nat.reduceAdd, Nat.reduceMul, Nat.reduceSub, Nat.reduceBEq, Int.reduceLT, Int.reduceLE, Int.reduceEq, Int.reduceBEq, Int.reduceNeg]
      refine ⟨⟨by omega, by rw [List.length_set]; omega⟩, by rw [List.length_set]; omega, fun x hx1 => ?_⟩
      refine again ⟨i + 1, w.set i (coN seed secret i), by omega, by simp [hw], fun j hj' => ?_⟩ (by simp; omega) ?_
      · by_cases hji : j = i
        · subst hji
          rw [List.getElem?_set_self (by omega), hp, polyL_get hit]
        · rw [List.getElem?_set_ne (by omega)]
          exact hj j (by omega)
      have hco : coN seed secret i = numN 1152921504606845789 (sumN (frm shaT [seed, [(i : Int)]])).a (sumN (frm shaT [seed, [(i : Int)]])).b := by unfold coN; rw [if_neg hi0]; rfl
      simp -dsimp -implicitDefEqProofs only [woR_set, List.set_set, w2, hco, go_sem, ↓reduceIte, reduceCtorEq, Nat.reduceLT, Nat.reduceLeDiff, Nat.reduceEqDiff, Nat.reduceAdd, Nat.reduceMul, Nat.reduceSub, Nat.reduceBEq, Int.reduceLT, Int.reduceLE, Int.reduceEq, Int.reduceBEq, Int.reduceNeg]
  · have d1 : ((i : Int) < (t : Int)) = False := by simp; omega
    have hwp : w = p := by
      refine List.ext_getElem? fun j => ?_
      by_cases hjt : j < i
      · exact hj j hjt
      · rw [List.getElem?_eq_none (by omega), List.getElem?_eq_none (by omega)]
    subst hwp
    simp -dsimp -implicitDefEqProofs only [d1, mkA, go_sem, ↓reduceIte, reduceCtorEq, Nat.reduceLT, Nat.reduceLeDiff, Nat.reduceEqDiff, Nat.reduceAdd, Nat.reduceMul, Nat.reduceSub, Nat.reduceBEq, Int.reduceLT, Int.reduceLE, Int.reduceEq, Int.reduceBEq, Int.reduceNeg]
    refine ⟨⟨by omega, by omega, by omega⟩, ?_⟩
    refine vfor sitOk (ι := P2Inv (spL seed secret t n)) (fun v => ⟨96, [(60, aI v.i), (59, aI n), (58, aO 200), (12, aO 200), (10, aO 144)], [(200, some (.row 2 79 (shR v.w) true)), (144, some (.row 1 25 (woR w) true))], 240⟩) (fun v => n - v.i) ⟨0, List.replicate n ⟨0, 0⟩, by omega, by simp [spL_len], fun j hj => by omega, fun j hj hjn => ?_⟩ ?_ ?_
    · rw [spL_len] at hjn
      rw [List.getElem?_replicate, if_pos hjn]
    · simp -dsimp -implicitDefEqProofs only [List.length_replicate, List.map_replicate, go_sem, ↓reduceIte, reduceCtorEq, Nat.reduceLT, Nat.reduceLeDiff, Nat.reduceEqDiff, Nat.reduceAdd, Nat.reduceMul, Nat.reduceSub, Nat.reduceBEq, Int.reduceLT, Int.reduceLE, Int.reduceEq, Int.reduceBEq, Int.reduceNeg]
      rfl
    intro ⟨k, u, hk, hu, hlo, hup⟩
    rw [spL_len] at hk hu
    by_cases hkn : k < n
    · have e1 : ((k : Int) < (n : Int)) = True := by simp; omega
      have e2 : IntKind.i64.wrap ((k : Int) + 1) = ((k + 1 : Nat) : Int) := by rw [wrap64] <;> omega
      have hg := hup k (Nat.le_refl _) (by rw [spL_len]; exact hkn)
      simp -dsimp -implicitDefEqProofs only [e1, e2, hg, forall_eq', Sh.cells, go_sem, ↓reduceIte, reduceCtorEq, Nat.reduceLT, Nat.reduceLeDiff, Nat.reduceEqDiff, Nat.reduceAdd, Nat.reduceMul, Nat.reduceSub, Nat.reduceBEq, Int.reduceLT, Int.reduceLE, Int.reduceEq, Int.reduceBEq, Int.reduceNeg]
      refine ⟨by omega, by omega, ?_⟩
      have hco : ∀ c ∈ w, c < 1152921504606845789 := fun c hc => by
        rw [hp] at hc
        obtain ⟨i, hi, rfl⟩ := List.mem_map.1 hc
        unfold coN
        split
        · exact hx
        · exact tagN_lt shaT _ (by decide) (by simp [frmL, putL_len]; omega)
      refine vfor sitOk (ι := P3Inv k w) (fun v => ⟨96, [(71, aI v.i), (70, aI w.length), (69, aO 144), (14, .cs false [.d (.v (.int .u64 (v.b : Int)))]), (13, aI k), (60, aI k), (59, aI n), (58, aO 200), (12, aO 200), (10, aO 144)], [(200, some (.row 2 79 (shR (u.set k ⟨k + 1, v.a⟩)) true)), (144, some (.row 1 25 (woR w) true))], 352⟩) (fun v => w.length - v.i) ⟨0, 0, 1, by omega, rfl, by decide, by decide⟩ ?_ ?_
      · have hs0 := shR_set u k (k + 1) 0
        simp -dsimp -implicitDefEqProofs only [← hs0, go_sem, ↓reduceIte, reduceCtorEq, Nat.reduceLT, Nat.reduceLeDiff, Nat.reduceEqDiff, Nat.reduceAdd, Nat.reduceMul, Nat.reduceSub, Nat.reduceBEq, Int.reduceLT, Int.reduceLE, Int.reduceEq, Int.reduceBEq, Int.reduceNeg]
      intro ⟨i, a, b, hi, ok, la, lb⟩
      by_cases hiw : i < w.length
      · have f1 : ((i : Int) < (w.length : Int)) = True := by simp; omega
        have f2 : IntKind.i64.wrap ((i : Int) + 1) = ((i + 1 : Nat) : Int) := by rw [wrap64] <;> omega
        obtain ⟨c, hc⟩ := get_of hiw
        have hcl := hco c (List.mem_of_getElem? hc)
        have hgk : (u.set k ⟨k + 1, a⟩)[k]? = some ⟨k + 1, a⟩ := List.getElem?_set_self (by omega)
        have f3 : IntKind.u64.wrap ((k + 1 : Nat) : Int) = ((k + 1 : Nat) : Int) := wS _ (by omega)
        have h1 := mulR_ok c b (by omega) (by omega)
        have h2 := addR_ok a (c * b % 1152921504606845789)
        have h3 := mulR_ok b (k + 1) (by omega) (by omega)
        rw [drop_get hc, evN] at ok
        have hlu : (u.set k ⟨k + 1, a⟩).length = n := by rw [List.length_set]; exact hu
        simp -dsimp -implicitDefEqProofs only [f1, e2, f3, hc, forall_eq', hgk, Sh.cells, go_sem, ↓reduceIte, reduceCtorEq, Nat.reduceLT, Nat.reduceLeDiff, Nat.reduceEqDiff, Nat.reduceAdd, Nat.reduceMul, Nat.reduceSub, Nat.reduceBEq, Int.reduceLT, Int.reduceLE, Int.reduceEq, Int.reduceBEq, Int.reduceNeg]
        refine ⟨by omega, hiw, ⟨by omega, by omega⟩, by omega, callP h1 ?_⟩
        simp -dsimp -implicitDefEqProofs only [go_sem, ↓reduceIte, reduceCtorEq, Nat.reduceLT, Nat.reduceLeDiff, Nat.reduceEqDiff, Nat.reduceAdd, Nat.reduceMul, Nat.reduceSub, Nat.reduceBEq, Int.reduceLT, Int.reduceLE, Int.reduceEq, Int.reduceBEq, Int.reduceNeg]
        refine callP h2 ?_
        simp -dsimp -implicitDefEqProofs only [hgk, forall_eq', Sh.cells, e2, f3, shR_set, List.set_set, go_sem, ↓reduceIte, reduceCtorEq, Nat.reduceLT, Nat.reduceLeDiff, Nat.reduceEqDiff, Nat.reduceAdd, Nat.reduceMul, Nat.reduceSub, Nat.reduceBEq, Int.reduceLT, Int.reduceLE, Int.reduceEq, Int.reduceBEq, Int.reduceNeg]
        refine ⟨⟨by omega, by omega⟩, by omega, drawn (by kernel_rfl), callP h3 ?_⟩
        simp -dsimp -implicitDefEqProofs only [go_sem, ↓reduceIte, reduceCtorEq, Nat.reduceLT, Nat.reduceLeDiff, Nat.reduceEqDiff, Nat.reduceAdd, Nat.reduceMul, Nat.reduceSub, Nat.reduceBEq, Int.reduceLT, Int.reduceLE, Int.reduceEq, Int.reduceBEq, Int.reduceNeg]
        refine again ⟨i + 1, (a + c * b % 1152921504606845789) % 1152921504606845789, b * (k + 1) % 1152921504606845789, by omega, ok, Nat.mod_lt _ (by decide), Nat.mod_lt _ (by decide)⟩ (by simp; omega) ?_
        simp -dsimp -implicitDefEqProofs only [f2, go_sem, ↓reduceIte, reduceCtorEq, Nat.reduceLT, Nat.reduceLeDiff, Nat.reduceEqDiff, Nat.reduceAdd, Nat.reduceMul, Nat.reduceSub, Nat.reduceBEq, Int.reduceLT, Int.reduceLE, Int.reduceEq, Int.reduceBEq, Int.reduceNeg]
      · have f1 : ((i : Int) < (w.length : Int)) = False := by simp; omega
        have hd : w.drop i = [] := List.drop_eq_nil_iff.2 (by omega)
        rw [hd, evN] at ok
        subst ok
        simp -dsimp -implicitDefEqProofs only [f1, go_sem, ↓reduceIte, reduceCtorEq, Nat.reduceLT, Nat.reduceLeDiff, Nat.reduceEqDiff, Nat.reduceAdd, Nat.reduceMul, Nat.reduceSub, Nat.reduceBEq, Int.reduceLT, Int.reduceLE, Int.reduceEq, Int.reduceBEq, Int.reduceNeg]
        refine again ⟨k + 1, u.set k ⟨k + 1, evN (k + 1) w 0 1⟩, by rw [spL_len]; omega, by rw [List.length_set, spL_len]; exact hu, fun j hj' => ?_, fun j hj' hjn => ?_⟩ (by simp; omega) ?_
        · by_cases hjk : j = k
          · subst hjk
            rw [List.getElem?_set_self (by omega), spL_get hkn, hp]
          · rw [List.getElem?_set_ne (by omega)]
            exact hlo j (by omega)
        · rw [List.getElem?_set_ne (by omega)]
          exact hup j (by omega) hjn
        simp -dsimp -implicitDefEqProofs only [e2, go_sem, ↓reduceIte, reduceCtorEq, Nat.reduceLT, Nat.reduceLeDiff, Nat.reduceEqDiff, Nat.reduceAdd, Nat.reduceMul, Nat.reduceSub, Nat.reduceBEq, Int.reduceLT, Int.reduceLE, Int.reduceEq, Int.reduceBEq, Int.reduceNeg]
    · have e1 : ((k : Int) < (n : Int)) = False := by simp; omega
      have huw : u = spL seed secret t n := by
        refine List.ext_getElem? fun j => ?_
        by_cases hjt : j < k
        · exact hlo j hjt
        · rw [List.getElem?_eq_none (by omega), List.getElem?_eq_none (by rw [spL_len]; omega)]
      subst huw
      simp -dsimp -implicitDefEqProofs only [e1, go_sem, ↓reduceIte, reduceCtorEq, Nat.reduceLT, Nat.reduceLeDiff, Nat.reduceEqDiff, Nat.reduceAdd, Nat.reduceMul, Nat.reduceSub, Nat.reduceBEq, Int.reduceLT, Int.reduceLE, Int.reduceEq, Int.reduceBEq, Int.reduceNeg]
end Go.Proofs.YtijfncaphfaijaaGreatDoor
