
/- cert: a certificate's items. cert: what has form, how great it is; Check, Body. cert: formed, Check, Body. path.Link. -/
import Derived.Test.YtijfncaphfaijaaGreatDoorQA
namespace Go.Proofs.YtijfncaphfaijaaGreatDoor
open Go.Eng
set_option linter.unusedSimpArgs false
set_option maxRecDepth 10000

/-- A certificate, without promises. -/
structure Ct where
  serial : Nat
  issuer : Bs
  subject : Bs
  key : Nat
  names : List Bs
  frm : Nat
  til : Nat
  ca : Bool
  depth : Nat
  permit : List Bs
  e : Nat
  s : Nat
abbrev stD (l : List Bs) : D := .vec 1 (l.map fun s => [dT s])
def Ct.cells (c : Ct) : List D := [.v (.int .i64 (c.serial : Int)), dT c.issuer, dT c.subject, .v (.int .u64 (c.key : Int)), stD c.names, .v (.int .i64 (c.frm : Int)), .v (.int .i64 (c.til : Int)), .v (.bool c.ca), .v (.int .i64 (c.depth : Int)), stD c.permit, .vec 6 [], .v (.int .u64 (c.e : Int)), .v (.int .u64 (c.s : Int))]
abbrev ctV (c : Ct) : List CV := [vI c.serial, vS c.issuer, vS c.subject, vU64 c.key, vD (stD c.names), vI c.frm, vI c.til, vB c.ca, vI c.depth, vD (stD c.permit), vD (.vec 6 []), vU64 c.e, vU64 c.s]
def preI (c : Ct) : It := sqI [inI c.serial, txI c.issuer, txI c.subject, inI c.key, sqI (c.names.map txI), inI c.frm, inI c.til, boI c.ca, inI c.depth, sqI (c.permit.map txI)]
def bodyI (c : Ct) : It := sqI [preI c, sqI []]
def wholeI (c : Ct) : It := sqI [bodyI c, sqI [inI c.e, inI c.s]]
theorem big_ok (n : Nat) (hn : n < 9223372036854775808) : Meets Tryz.prog 100 [(false, [vU64 n])] (rAgg (itV (inI n))) := by
  have w1 : IntKind.i64.wrap (n : Int) = (n : Int) := by rw [wrap64] <;> omega
  have h1 := int_ok (n : Int)
  refine meets Tryz.func100 rfl rfl Tryz.ntmps100 Tryz.results100 rfl ?_
  simp -dsimp -implicitDefEqProofs only [w1, go_sem, ↓reduceIte, reduceCtorEq, Nat.reduceLT, Nat.reduceLeDiff, Nat.reduceEqDiff, Nat.reduceAdd, Nat.reduceMul, Nat.reduceSub, Nat.reduceBEq, Int.reduceLT, Int.reduceLE, Int.reduceEq, Int.reduceBEq, Int.reduceNeg]
  refine callP h1 ?_
  simp -dsimp -implicitDefEqProofs only [go_sem, ↓reduceIte, reduceCtorEq, Nat.reduceLT, Nat.reduceLeDiff, Nat.reduceEqDiff, Nat.reduceAdd, Nat.reduceMul, Nat.reduceSub, Nat.reduceBEq, Int.reduceLT, Int.reduceLE, Int.reduceEq, Int.reduceBEq, Int.reduceNeg]
theorem itC_of (x : It) : itC x = [.v (.int .i64 (x.tag : Int)), byD x.b, itL x.l] := by cases x; exact itC_eq _ _ _
theorem seqR_ok {rows : List (List D)} (l : List It) (hl : l.length ≤ 1000) (h : rows = l.map itC) : Meets Tryz.prog 96 [(false, [vD (.vec 3 rows)])] (rAgg (itV (sqI l))) := by rw [h]; exact seq_ok l hl
structure SsInv (l : List Bs) where
  i : Nat
  hi : i ≤ l.length
theorem seqS_ok (l : List Bs) (hl : l.length ≤ 8) (hs : ∀ s ∈ l, s.length ≤ 1000) : Meets Tryz.prog 153 [(false, [vD (stD l)]), (false, [vD (.fn 152 [])])] (rAgg (itV (sqI (l.map txI)))) := by
  refine meets Tryz.func153 rfl rfl Tryz.ntmps153 Tryz.results153 rfl ?_
  simp -dsimp -implicitDefEqProofs only [go_sem, ↓reduceIte, reduceCtorEq, Nat.reduceLT, Nat.reduceLeDiff, Nat.reduceEqDiff, Nat.reduceAdd, Nat.reduceMul, Nat.reduceSub, Nat.reduceBEq, Int.reduceLT, Int.reduceLE, Int.reduceEq, Int.reduceBEq, Int.reduceNeg]
  refine vownE 5 65 rfl ?_
  refine vfor sitOk (ι := SsInv l) (fun v => ⟨23, [(10, aI v.i), (9, aI l.length), (8, aD (stD l)), (5, aO 40), (4, aP 0 0), (1, aD (.fn 152 []))], [(40, some (.row 3 65 (((l.take v.i).map txI).map itC) true)), (0, some (.var [cI 0, .nils 1, .nils 3] true))], 41⟩) (fun v => l.length - v.i) ⟨0, by omega⟩ ?_ ?_
  · simp -dsimp -implicitDefEqProofs only [go_sem, ↓reduceIte, reduceCtorEq, Nat.reduceLT, Nat.reduceLeDiff, Nat.reduceEqDiff, Nat.reduceAdd, Nat.reduceMul, Nat.reduceSub, Nat.reduceBEq, Int.reduceLT, Int.reduceLE, Int.reduceEq, Int.reduceBEq, Int.reduceNeg]
  intro ⟨i, hi⟩
  by_cases hil : i < l.length
  · have c1 : ((i : Int) < (l.length : Int)) = True := by simp; omega
    obtain ⟨x, hx⟩ : ∃ x, l[i]? = some x := ⟨_, List.getElem?_eq_getElem hil⟩
    have w2 : IntKind.i64.wrap ((i : Int) + 1) = ((i + 1 : Nat) : Int) := by rw [wrap64] <;> omega
    have h1 := text_ok x (by have := hs x (List.mem_of_getElem? hx); omega)
    have ht : l.take (i + 1) = l.take i ++ [x] := by rw [List.take_add_one, hx]; rfl
    have htl : (l.take i).length ≤ 8 := by rw [List.length_take]; omega
    have hc : itC (txI x) = [.v (.int .i64 ((txI x).tag : Int)), byD (txI x).b, itL (txI x).l] := itC_eq _ _ _
    simp -dsimp -implicitDefEqProofs only [c1, hx, forall_eq', w2, go_sem, ↓reduceIte, reduceCtorEq, Nat.reduceLT, Nat.reduceLeDiff, Nat.reduceEqDiff, Nat.reduceAdd, Nat.reduceMul, Nat.reduceSub, Nat.reduceBEq, Int.reduceLT, Int.reduceLE, Int.reduceEq, Int.reduceBEq, Int.reduceNeg]
    refine ⟨by omega, hil, callP h1 ?_⟩
    simp -dsimp -implicitDefEqProofs only [go_sem, ↓reduceIte, reduceCtorEq, Nat.reduceLT, Nat.reduceLeDiff, Nat.reduceEqDiff, Nat.reduceAdd, Nat.reduceMul, Nat.reduceSub, Nat.reduceBEq, Int.reduceLT, Int.reduceLE, Int.reduceEq, Int.reduceBEq, Int.reduceNeg]
    refine ⟨⟨by omega, by omega⟩, againT 40 5 ⟨i + 1, by omega⟩ (by simp; omega) ?_⟩
    simp -dsimp -implicitDefEqProofs only [w2, ht, List.map_append, List.map_cons, List.map_nil, hc, go_sem, ↓reduceIte, reduceCtorEq, Nat.reduceLT, Nat.reduceLeDiff, Nat.reduceEqDiff, Nat.reduceAdd, Nat.reduceMul, Nat.reduceSub, Nat.reduceBEq, Int.reduceLT, Int.reduceLE, Int.reduceEq, Int.reduceBEq, Int.reduceNeg]
  · have c1 : ((i : Int) < (l.length : Int)) = False := by simp; omega
    obtain rfl : i = l.length := by omega
    have h1 := seq_ok (l.map txI) (by rw [List.length_map]; omega)
    simp -dsimp -implicitDefEqProofs only [c1, List.take_length, go_sem, ↓reduceIte, reduceCtorEq, Nat.reduceLT, Nat.reduceLeDiff, Nat.reduceEqDiff, Nat.reduceAdd, Nat.reduceMul, Nat.reduceSub, Nat.reduceBEq, Int.reduceLT, Int.reduceLE, Int.reduceEq, Int.reduceBEq, Int.reduceNeg]
    refine callP h1 ?_
    simp -dsimp -implicitDefEqProofs only [go_sem, ↓reduceIte, reduceCtorEq, Nat.reduceLT, Nat.reduceLeDiff, Nat.reduceEqDiff, Nat.reduceAdd, Nat.reduceMul, Nat.reduceSub, Nat.reduceBEq, Int.reduceLT, Int.reduceLE, Int.reduceEq, Int.reduceBEq, Int.reduceNeg]
theorem seqP_ok : Meets Tryz.prog 98 [(false, [vD (.vec 6 [])]), (false, [vD (.fn 99 [])])] (rAgg (itV (sqI []))) := by
  have h1 := seq_ok [] (by decide)
  refine meets Tryz.func98 rfl rfl Tryz.ntmps98 Tryz.results98 rfl ?_
  simp -dsimp -implicitDefEqProofs only [go_sem, ↓reduceIte, reduceCtorEq, Nat.reduceLT, Nat.reduceLeDiff, Nat.reduceEqDiff, Nat.reduceAdd, Nat.reduceMul, Nat.reduceSub, Nat.reduceBEq, Int.reduceLT, Int.reduceLE, Int.reduceEq, Int.reduceBEq, Int.reduceNeg]
  refine vrounds 2 sitOk ?_
  simp -dsimp -implicitDefEqProofs only [go_sem, ↓reduceIte, reduceCtorEq, Nat.reduceLT, Nat.reduceLeDiff, Nat.reduceEqDiff, Nat.reduceAdd, Nat.reduceMul, Nat.reduceSub, Nat.reduceBEq, Int.reduceLT, Int.reduceLE, Int.reduceEq, Int.reduceBEq, Int.reduceNeg]
  refine vround ?_
  simp -dsimp -implicitDefEqProofs only [go_sem, ↓reduceIte, reduceCtorEq, Nat.reduceLT, Nat.reduceLeDiff, Nat.reduceEqDiff, Nat.reduceAdd, Nat.reduceMul, Nat.reduceSub, Nat.reduceBEq, Int.reduceLT, Int.reduceLE, Int.reduceEq, Int.reduceBEq, Int.reduceNeg]
  refine callP h1 ?_
  simp -dsimp -implicitDefEqProofs only [go_sem, ↓reduceIte, reduceCtorEq, Nat.reduceLT, Nat.reduceLeDiff, Nat.reduceEqDiff, Nat.reduceAdd, Nat.reduceMul, Nat.reduceSub, Nat.reduceBEq, Int.reduceLT, Int.reduceLE, Int.reduceEq, Int.reduceBEq, Int.reduceNeg]
theorem pre_ok (c : Ct) (hi : c.issuer.length ≤ 1000) (hs : c.subject.length ≤ 1000) (hk : c.key < 9223372036854775808) (hn : c.names.length ≤ 8) (hns : ∀ s ∈ c.names, s.length ≤ 1000) (hp : c.permit.length ≤ 8) (hps : ∀ s ∈ c.permit, s.length ≤ 1000) :
    Meets Tryz.prog 97 [(true, ctV c)] (rAgg (itV (preI c))) := by
  have h1 := int_ok c.serial
  have h2 := text_ok c.issuer (by omega)
  have h3 := text_ok c.subject (by omega)
  have h4 := big_ok c.key hk
  have h5 := seqS_ok c.names hn hns
  have h6 := int_ok c.frm
  have h7 := int_ok c.til
  have h8 := bool_ok c.ca
  have h9 := int_ok c.depth
  have h10 := seqS_ok c.permit hp hps
  refine meets Tryz.func97 rfl rfl Tryz.ntmps97 Tryz.results97 rfl ?_
  simp -dsimp -implicitDefEqProofs only [go_sem, ↓reduceIte, reduceCtorEq, Nat.reduceLT, Nat.reduceLeDiff, Nat.reduceEqDiff, Nat.reduceAdd, Nat.reduceMul, Nat.reduceSub, Nat.reduceBEq, Int.reduceLT, Int.reduceLE, Int.reduceEq, Int.reduceBEq, Int.reduceNeg]
  refine callP h1 ?_
  simp -dsimp -implicitDefEqProofs only [go_sem, ↓reduceIte, reduceCtorEq, Nat.reduceLT, Nat.reduceLeDiff, Nat.reduceEqDiff, Nat.reduceAdd, Nat.reduceMul, Nat.reduceSub, Nat.reduceBEq, Int.reduceLT, Int.reduceLE, Int.reduceEq, Int.reduceBEq, Int.reduceNeg]
  refine callP h2 ?_
  simp -dsimp -implicitDefEqProofs only [go_sem, ↓reduceIte, reduceCtorEq, Nat.reduceLT, Nat.reduceLeDiff, Nat.reduceEqDiff, Nat.reduceAdd, Nat.reduceMul, Nat.reduceSub, Nat.reduceBEq, Int.reduceLT, Int.reduceLE, Int.reduceEq, Int.reduceBEq, Int.reduceNeg]
  refine callP h3 ?_
  simp -dsimp -implicitDefEqProofs only [go_sem, ↓reduceIte, reduceCtorEq, Nat.reduceLT, Nat.reduceLeDiff, Nat.reduceEqDiff, Nat.reduceAdd, Nat.reduceMul, Nat.reduceSub, Nat.reduceBEq, Int.reduceLT, Int.reduceLE, Int.reduceEq, Int.reduceBEq, Int.reduceNeg]
  refine callP h4 ?_
  simp -dsimp -implicitDefEqProofs only [go_sem, ↓reduceIte, reduceCtorEq, Nat.reduceLT, Nat.reduceLeDiff, Nat.reduceEqDiff, Nat.reduceAdd, Nat.reduceMul, Nat.reduceSub, Nat.reduceBEq, Int.reduceLT, Int.reduceLE, Int.reduceEq, Int.reduceBEq, Int.reduceNeg]
  refine callP h5 ?_
  simp -dsimp -implicitDefEqProofs only [go_sem, ↓reduceIte, reduceCtorEq, Nat.reduceLT, Nat.reduceLeDiff, Nat.reduceEqDiff, Nat.reduceAdd, Nat.reduceMul, Nat.reduceSub, Nat.reduceBEq, Int.reduceLT, Int.reduceLE, Int.reduceEq, Int.reduceBEq, Int.reduceNeg]
  refine callP h6 ?_
  simp -dsimp -implicitDefEqProofs only [go_sem, ↓reduceIte, reduceCtorEq, Nat.reduceLT, Nat.reduceLeDiff, Nat.reduceEqDiff, Nat.reduceAdd, Nat.reduceMul, Nat.reduceSub, Nat.reduceBEq, Int.reduceLT, Int.reduceLE, Int.reduceEq, Int.reduceBEq, Int.reduceNeg]
  refine callP h7 ?_
  simp -dsimp -implicitDefEqProofs only [go_sem, ↓reduceIte, reduceCtorEq, Nat.reduceLT, Nat.reduceLeDiff, Nat.reduceEqDiff, Nat.reduceAdd, Nat.reduceMul, Nat.reduceSub, Nat.reduceBEq, Int.reduceLT, Int.reduceLE, Int.reduceEq, Int.reduceBEq, Int.reduceNeg]
  refine callP h8 ?_
  simp -dsimp -implicitDefEqProofs only [go_sem, ↓reduceIte, reduceCtorEq, Nat.reduceLT, Nat.reduceLeDiff, Nat.reduceEqDiff, Nat.reduceAdd, Nat.reduceMul, Nat.reduceSub, Nat.reduceBEq, Int.reduceLT, Int.reduceLE, Int.reduceEq, Int.reduceBEq, Int.reduceNeg]
  refine callP h9 ?_
  simp -dsimp -implicitDefEqProofs only [go_sem, ↓reduceIte, reduceCtorEq, Nat.reduceLT, Nat.reduceLeDiff, Nat.reduceEqDiff, Nat.reduceAdd, Nat.reduceMul, Nat.reduceSub, Nat.reduceBEq, Int.reduceLT, Int.reduceLE, Int.reduceEq, Int.reduceBEq, Int.reduceNeg]
  refine callP h10 ?_
  simp -dsimp -implicitDefEqProofs only [go_sem, ↓reduceIte, reduceCtorEq, Nat.reduceLT, Nat.reduceLeDiff, Nat.reduceEqDiff, Nat.reduceAdd, Nat.reduceMul, Nat.reduceSub, Nat.reduceBEq, Int.reduceLT, Int.reduceLE, Int.reduceEq, Int.reduceBEq, Int.reduceNeg]
  refine callP (seqR_ok [inI c.serial, txI c.issuer, txI c.subject, inI c.key, sqI (c.names.map txI), inI c.frm, inI c.til, boI c.ca, inI c.depth, sqI (c.permit.map txI)] (by simp) (by simp only [List.map_cons, List.map_nil, itC_of])) ?_
  simp -dsimp -implicitDefEqProofs only [go_sem, ↓reduceIte, reduceCtorEq, Nat.reduceLT, Nat.reduceLeDiff, Nat.reduceEqDiff, Nat.reduceAdd, Nat.reduceMul, Nat.reduceSub, Nat.reduceBEq, Int.reduceLT, Int.reduceLE, Int.reduceEq, Int.reduceBEq, Int.reduceNeg]
  exact ⟨drawn (by kernel_rfl), rfl, rfl, rfl⟩
theorem body_ok (c : Ct) (hi : c.issuer.length ≤ 1000) (hs : c.subject.length ≤ 1000) (hk : c.key < 9223372036854775808) (hn : c.names.length ≤ 8) (hns : ∀ s ∈ c.names, s.length ≤ 1000) (hp : c.permit.length ≤ 8) (hps : ∀ s ∈ c.permit, s.length ≤ 1000) :
    Meets Tryz.prog 54 [(true, ctV c)] (rAgg (itV (bodyI c))) := by
  have h1 := pre_ok c hi hs hk hn hns hp hps
  refine meets Tryz.func54 rfl rfl Tryz.ntmps54 Tryz.results54 rfl ?_
  simp -dsimp -implicitDefEqProofs only [go_sem, ↓reduceIte, reduceCtorEq, Nat.reduceLT, Nat.reduceLeDiff, Nat.reduceEqDiff, Nat.reduceAdd, Nat.reduceMul, Nat.reduceSub, Nat.reduceBEq, Int.reduceLT, Int.reduceLE, Int.reduceEq, Int.reduceBEq, Int.reduceNeg]
  refine callP h1 ?_
  simp -dsimp -implicitDefEqProofs only [go_sem, ↓reduceIte, reduceCtorEq, Nat.reduceLT, Nat.reduceLeDiff, Nat.reduceEqDiff, Nat.reduceAdd, Nat.reduceMul, Nat.reduceSub, Nat.reduceBEq, Int.reduceLT, Int.reduceLE, Int.reduceEq, Int.reduceBEq, Int.reduceNeg]
  refine callP seqP_ok ?_
  simp -dsimp -implicitDefEqProofs only [go_sem, ↓reduceIte, reduceCtorEq, Nat.reduceLT, Nat.reduceLeDiff, Nat.reduceEqDiff, Nat.reduceAdd, Nat.reduceMul, Nat.reduceSub, Nat.reduceBEq, Int.reduceLT, Int.reduceLE, Int.reduceEq, Int.reduceBEq, Int.reduceNeg]
  refine callP (seqR_ok [preI c, sqI []] (by simp) (by simp only [List.map_cons, List.map_nil, itC_of])) ?_
  simp -dsimp -implicitDefEqProofs only [go_sem, ↓reduceIte, reduceCtorEq, Nat.reduceLT, Nat.reduceLeDiff, Nat.reduceEqDiff, Nat.reduceAdd, Nat.reduceMul, Nat.reduceSub, Nat.reduceBEq, Int.reduceLT, Int.reduceLE, Int.reduceEq, Int.reduceBEq, Int.reduceNeg]
  exact ⟨drawn (by kernel_rfl), rfl, rfl, rfl⟩
theorem whole_ok (c : Ct) (hi : c.issuer.length ≤ 1000) (hs : c.subject.length ≤ 1000) (hk : c.key < 9223372036854775808) (hn : c.names.length ≤ 8) (hns : ∀ s ∈ c.names, s.length ≤ 1000) (hp : c.permit.length ≤ 8) (hps : ∀ s ∈ c.permit, s.length ≤ 1000) (he : c.e < 9223372036854775808) (hss : c.s < 9223372036854775808) :
    Meets Tryz.prog 110 [(true, ctV c)] (rAgg (itV (wholeI c))) := by
  have h1 := body_ok c hi hs hk hn hns hp hps
  have h2 := big_ok c.e he
  have h3 := big_ok c.s hss
  refine meets Tryz.func110 rfl rfl Tryz.ntmps110 Tryz.results110 rfl ?_
  simp -dsimp -implicitDefEqProofs only [go_sem, ↓reduceIte, reduceCtorEq, Nat.reduceLT, Nat.reduceLeDiff, Nat.reduceEqDiff, Nat.reduceAdd, Nat.reduceMul, Nat.reduceSub, Nat.reduceBEq, Int.reduceLT, Int.reduceLE, Int.reduceEq, Int.reduceBEq, Int.reduceNeg]
  refine callP h1 ?_
  simp -dsimp -implicitDefEqProofs only [go_sem, ↓reduceIte, reduceCtorEq, Nat.reduceLT, Nat.reduceLeDiff, Nat.reduceEqDiff, Nat.reduceAdd, Nat.reduceMul, Nat.reduceSub, Nat.reduceBEq, Int.reduceLT, Int.reduceLE, Int.reduceEq, Int.reduceBEq, Int.reduceNeg]
  refine callP h2 ?_
  simp -dsimp -implicitDefEqProofs only [go_sem, ↓reduceIte, reduceCtorEq, Nat.reduceLT, Nat.reduceLeDiff, Nat.reduceEqDiff, Nat.reduceAdd, Nat.reduceMul, Nat.reduceSub, Nat.reduceBEq, Int.reduceLT, Int.reduceLE, Int.reduceEq, Int.reduceBEq, Int.reduceNeg]
  refine callP h3 ?_
  simp -dsimp -implicitDefEqProofs only [go_sem, ↓reduceIte, reduceCtorEq, Nat.reduceLT, Nat.reduceLeDiff, Nat.reduceEqDiff, Nat.reduceAdd, Nat.reduceMul, Nat.reduceSub, Nat.reduceBEq, Int.reduceLT, Int.reduceLE, Int.reduceEq, Int.reduceBEq, Int.reduceNeg]
  refine callP (seqR_ok [inI c.e, inI c.s] (by simp) (by simp only [List.map_cons, List.map_nil, itC_of])) ?_
  simp -dsimp -implicitDefEqProofs only [go_sem, ↓reduceIte, reduceCtorEq, Nat.reduceLT, Nat.reduceLeDiff, Nat.reduceEqDiff, Nat.reduceAdd, Nat.reduceMul, Nat.reduceSub, Nat.reduceBEq, Int.reduceLT, Int.reduceLE, Int.reduceEq, Int.reduceBEq, Int.reduceNeg]
  refine callP (seqR_ok [bodyI c, sqI [inI c.e, inI c.s]] (by simp) (by simp only [List.map_cons, List.map_nil, itC_of])) ?_
  simp -dsimp -implicitDefEqProofs only [go_sem, ↓reduceIte, reduceCtorEq, Nat.reduceLT, Nat.reduceLeDiff, Nat.reduceEqDiff, Nat.reduceAdd, Nat.reduceMul, Nat.reduceSub, Nat.reduceBEq, Int.reduceLT, Int.reduceLE, Int.reduceEq, Int.reduceBEq, Int.reduceNeg]
  exact ⟨drawn (by kernel_rfl), rfl, rfl, rfl⟩
end Go.Proofs.YtijfncaphfaijaaGreatDoor
namespace Go.Proofs.YtijfncaphfaijaaGreatDoor
open Go.Eng
set_option linter.unusedSimpArgs false
set_option maxRecDepth 10000

theorem enc_len (x : It) : (enc x).length ≤ 4 + (con x).length := by
  rw [enc_eq, List.length_cons, List.length_append]
  have := lenB_le (con x).length
  omega
theorem con_len (x : It) : (con x).length = x.b.length + (encs x.l).length := by unfold con; rw [List.length_append]
theorem encs_cons (x : It) (r : List It) : (encs (x :: r)).length = (enc x).length + (encs r).length := by rw [encs, List.length_append]
theorem encs_nil : (encs []).length = 0 := by rw [encs]; rfl
theorem cutZ_sub : ∀ l : List Int, (cutZ l).length ≤ l.length
  | [] => Nat.le_refl _
  | a :: r => by
    rw [cutZ]
    split
    · exact Nat.le_refl _
    · have := cutZ_sub r; rw [List.length_cons]; omega
theorem cutZ_least : ∀ l : List Int, l ≠ [] → leastB (cutZ l) = true
  | [], h => absurd rfl h
  | a :: r, _ => by
    rw [cutZ]
    split
    · rename_i h
      rcases h with h | h
      · subst h; rfl
      · exact h
    · rename_i h
      exact cutZ_least r fun e => h (.inl e)
theorem inI_len (n : Int) : (enc (inI n)).length ≤ 12 := by
  have h1 := enc_len (inI n)
  have h2 := con_len (inI n)
  have h3 := cutZ_sub (intL n)
  have h4 : (inI n).b.length = (cutZ (intL n)).length := rfl
  have h5 : (encs (inI n).l).length = 0 := encs_nil
  have h6 : (intL n).length = 8 := rfl
  omega
theorem txI_len (s : Bs) : (enc (txI s)).length ≤ 4 + s.length := by
  have h1 := enc_len (txI s)
  have h2 := con_len (txI s)
  have h4 : (txI s).b.length = s.length := List.length_map ..
  have h5 : (encs (txI s).l).length = 0 := encs_nil
  omega
theorem boI_len (v : Bool) : (enc (boI v)).length ≤ 5 := by
  have h1 := enc_len (boI v)
  have h2 := con_len (boI v)
  have h4 : (boI v).b.length = 1 := rfl
  have h5 : (encs (boI v).l).length = 0 := encs_nil
  omega
theorem sqI_len (l : List It) : (enc (sqI l)).length ≤ 4 + (encs l).length := by
  have h1 := enc_len (sqI l)
  have h2 := con_len (sqI l)
  have h4 : (sqI l).b.length = 0 := rfl
  have h5 : (encs (sqI l).l).length = (encs l).length := rfl
  omega
theorem in_it (d : Nat) (n : Int) : itOk (d + 1) (inI n) := by
  have h3 := cutZ_sub (intL n)
  have h6 : (intL n).length = 8 := rfl
  refine ⟨.inr ⟨rfl, .inl ⟨rfl, cutZ_least _ (by simp [intL])⟩⟩, ?_, by show (0 : Nat) ≤ 1000; omega, fun y hy => by cases hy⟩
  show (cutZ (intL n)).length ≤ 1000
  omega
/-- A text that may be. -/
def PrS (s : Bs) : Prop := ∀ c ∈ s, 32 ≤ c.toNat ∧ c.toNat ≤ 126
theorem tx_it (d : Nat) (s : Bs) (h : PrS s) (hl : s.length ≤ 64) : itOk (d + 1) (txI s) := by
  refine ⟨.inr ⟨rfl, .inr (.inl ⟨rfl, fun c hc => ?_⟩)⟩, ?_, by show (0 : Nat) ≤ 1000; omega, fun y hy => by cases hy⟩
  · obtain ⟨x, hx, rfl⟩ := List.mem_map.1 (show c ∈ s.map fun c => (c.toNat : Int) from hc)
    have := h x hx
    omega
  · show (s.map fun c => (c.toNat : Int)).length ≤ 1000
    rw [List.length_map]; omega
theorem bo_it (d : Nat) (v : Bool) : itOk (d + 1) (boI v) := by
  refine ⟨.inr ⟨rfl, .inr (.inr ⟨rfl, ?_⟩)⟩, by show (1 : Nat) ≤ 1000; omega, by show (0 : Nat) ≤ 1000; omega, fun y hy => by cases hy⟩
  cases v
  · exact .inl rfl
  · exact .inr rfl
theorem sq_it (d : Nat) (l : List It) (hl : l.length ≤ 1000) (h : ∀ y ∈ l, itOk d y) : itOk (d + 1) (sqI l) :=
  ⟨.inl ⟨rfl, rfl⟩, by show (0 : Nat) ≤ 1000; omega, hl, h⟩
/-- Texts that may be. -/
def TsOk (l : List Bs) : Prop := l.length ≤ 1 ∧ ∀ s ∈ l, PrS s ∧ s.length ≤ 64
theorem txs_it (d : Nat) {l : List Bs} (h : TsOk l) : itOk (d + 2) (sqI (l.map txI)) := by
  refine sq_it (d + 1) _ (by rw [List.length_map]; have := h.1; omega) fun y hy => ?_
  obtain ⟨s, hs, rfl⟩ := List.mem_map.1 hy
  exact tx_it d s (h.2 s hs).1 (h.2 s hs).2
theorem txs_len {l : List Bs} (h : TsOk l) : (enc (sqI (l.map txI))).length ≤ 72 := by
  have h1 := sqI_len (l.map txI)
  have h2 : (encs (l.map txI)).length ≤ 68 := by
    rcases l with _ | ⟨s, _ | ⟨t, r⟩⟩
    · rw [List.map_nil, encs_nil]; omega
    · rw [List.map_cons, List.map_nil, encs_cons, encs_nil]
      have := txI_len s
      have := (h.2 s (List.mem_cons_self ..)).2
      omega
    · have := h.1; simp at this
  omega
/-- A certificate whose fields are within bounds. -/
structure CtB (c : Ct) : Prop where
  i : PrS c.issuer ∧ c.issuer.length ≤ 64
  s : PrS c.subject ∧ c.subject.length ≤ 64
  key : c.key < 2305843009213691579
  n : TsOk c.names
  p : TsOk c.permit
  e : c.e < 1152921504606845789
  sg : c.s < 1152921504606845789
theorem pre_it {c : Ct} (h : CtB c) (d : Nat) : itOk (d + 3) (preI c) := by
  refine sq_it (d + 2) _ (by simp) fun y hy => ?_
  simp only [List.mem_cons, List.not_mem_nil, or_false] at hy
  rcases hy with rfl | rfl | rfl | rfl | rfl | rfl | rfl | rfl | rfl | rfl
  · exact in_it _ _
  · exact tx_it _ _ h.i.1 h.i.2
  · exact tx_it _ _ h.s.1 h.s.2
  · exact in_it _ _
  · exact txs_it _ h.n
  · exact in_it _ _
  · exact in_it _ _
  · exact bo_it _ _
  · exact in_it _ _
  · exact txs_it _ h.p
theorem body_it {c : Ct} (h : CtB c) (d : Nat) : itOk (d + 4) (bodyI c) := by
  refine sq_it (d + 3) _ (by simp) fun y hy => ?_
  simp only [List.mem_cons, List.not_mem_nil, or_false] at hy
  rcases hy with rfl | rfl
  · exact pre_it h d
  · exact sq_it (d + 2) [] (by simp) fun y hy => by cases hy
theorem whole_it {c : Ct} (h : CtB c) (d : Nat) : itOk (d + 5) (wholeI c) := by
  refine sq_it (d + 4) _ (by simp) fun y hy => ?_
  simp only [List.mem_cons, List.not_mem_nil, or_false] at hy
  rcases hy with rfl | rfl
  · exact body_it h d
  · refine sq_it (d + 3) _ (by simp) fun y hy => ?_
    simp only [List.mem_cons, List.not_mem_nil, or_false] at hy
    rcases hy with rfl | rfl
    · exact in_it _ _
    · exact in_it _ _
theorem body_len {c : Ct} (h : CtB c) : (enc (bodyI c)).length ≤ 1000 := by
  have h1 := sqI_len [preI c, sqI []]
  have h2 := sqI_len [inI c.serial, txI c.issuer, txI c.subject, inI c.key, sqI (c.names.map txI), inI c.frm, inI c.til, boI c.ca, inI c.depth, sqI (c.permit.map txI)]
  have h3 := sqI_len []
  simp only [encs_cons, encs_nil] at h1 h2 h3
  have a1 := inI_len c.serial
  have a2 := txI_len c.issuer
  have a3 := txI_len c.subject
  have a4 := inI_len c.key
  have a5 := txs_len h.n
  have a6 := inI_len c.frm
  have a7 := inI_len c.til
  have a8 := boI_len c.ca
  have a9 := inI_len c.depth
  have a10 := txs_len h.p
  have b1 := h.i.2
  have b2 := h.s.2
  have h2' : (enc (preI c)).length ≤ _ := h2
  have h1' : (enc (bodyI c)).length ≤ _ := h1
  omega
theorem whole_len {c : Ct} (h : CtB c) : (enc (wholeI c)).length ≤ 2000 := by
  have h1 := sqI_len [bodyI c, sqI [inI c.e, inI c.s]]
  have h2 := sqI_len [inI c.e, inI c.s]
  simp only [encs_cons, encs_nil] at h1 h2
  have a1 := inI_len c.e
  have a2 := inI_len c.s
  have a3 := body_len h
  have h1' : (enc (wholeI c)).length ≤ _ := h1
  omega
end Go.Proofs.YtijfncaphfaijaaGreatDoor
namespace Go.Proofs.YtijfncaphfaijaaGreatDoor
open Go.Eng
set_option linter.unusedSimpArgs false
set_option maxRecDepth 10000

def rootS : Bs := [114, 111, 111, 116]
def midS : Bs := [109, 105, 100]
theorem text_root : Meets Tryz.prog 164 [(false, [vS rootS])] (rOne (vB true)) := meets_run X0_ok 200 (by kernel_rfl)
theorem text_mid : Meets Tryz.prog 164 [(false, [vS midS])] (rOne (vB true)) := meets_run X0_ok 200 (by kernel_rfl)
theorem number_ok (n : Nat) (h : n ≤ 1099511627776) : Meets Tryz.prog 163 [(false, [vI n])] (rOne (vB true)) := by
  have c1 : ((0 : Int) ≤ (n : Int)) = True := by simp
  have c2 : ((n : Int) ≤ 1099511627776) = True := by simp; omega
  refine meets Tryz.func163 rfl rfl Tryz.ntmps163 Tryz.results163 rfl ?_
  simp -dsimp -implicitDefEqProofs only [c1, c2, go_sem, ↓reduceIte, reduceCtorEq, Nat.reduceLT, Nat.reduceLeDiff, Nat.reduceEqDiff, Nat.reduceAdd, Nat.reduceMul, Nat.reduceSub, Nat.reduceBEq, Int.reduceLT, Int.reduceLE, Int.reduceEq, Int.reduceBEq, Int.reduceNeg]
theorem signed_ok (e s : Nat) (he : e < 1152921504606845789) (hs : s < 1152921504606845789) : Meets Tryz.prog 165 [(true, [vU64 e, vU64 s])] (rOne (vB true)) := by
  have c1 : ((if (e : Int) < (s : Int) then (s : Int) else (e : Int)) < 1152921504606845789) = True := by simp only [eq_iff_iff, iff_true]; split <;> omega
  refine meets Tryz.func165 rfl rfl Tryz.ntmps165 Tryz.results165 rfl ?_
  simp -dsimp -implicitDefEqProofs only [c1, go_sem, ↓reduceIte, reduceCtorEq, Nat.reduceLT, Nat.reduceLeDiff, Nat.reduceEqDiff, Nat.reduceAdd, Nat.reduceMul, Nat.reduceSub, Nat.reduceBEq, Int.reduceLT, Int.reduceLE, Int.reduceEq, Int.reduceBEq, Int.reduceNeg]
theorem list0_ok (f : FuncId) : Meets Tryz.prog 166 [(false, [vD (stD [])]), (false, [vI 0]), (false, [vI 8]), (false, [vD (.fn f [])])] (rOne (vB true)) := by
  refine meets Tryz.func166 rfl rfl Tryz.ntmps166 Tryz.results166 rfl ?_
  simp -dsimp -implicitDefEqProofs only [go_sem, ↓reduceIte, reduceCtorEq, Nat.reduceLT, Nat.reduceLeDiff, Nat.reduceEqDiff, Nat.reduceAdd, Nat.reduceMul, Nat.reduceSub, Nat.reduceBEq, Int.reduceLT, Int.reduceLE, Int.reduceEq, Int.reduceBEq, Int.reduceNeg]
  refine vrounds 2 sitOk ?_
  simp -dsimp -implicitDefEqProofs only [go_sem, ↓reduceIte, reduceCtorEq, Nat.reduceLT, Nat.reduceLeDiff, Nat.reduceEqDiff, Nat.reduceAdd, Nat.reduceMul, Nat.reduceSub, Nat.reduceBEq, Int.reduceLT, Int.reduceLE, Int.reduceEq, Int.reduceBEq, Int.reduceNeg]
  refine vround ?_
  simp -dsimp -implicitDefEqProofs only [go_sem, ↓reduceIte, reduceCtorEq, Nat.reduceLT, Nat.reduceLeDiff, Nat.reduceEqDiff, Nat.reduceAdd, Nat.reduceMul, Nat.reduceSub, Nat.reduceBEq, Int.reduceLT, Int.reduceLE, Int.reduceEq, Int.reduceBEq, Int.reduceNeg]
theorem list1_ok (s : Bs) (f : FuncId) (lo : Nat) (hlo : lo ≤ 1) (h : Meets Tryz.prog f [(false, [vS s])] (rOne (vI 0))) : Meets Tryz.prog 166 [(false, [vD (stD [s])]), (false, [vI lo]), (false, [vI 8]), (false, [vD (.fn f [])])] (rOne (vB true)) := by
  have c1 : ((lo : Int) ≤ 1) = True := by simp; omega
  have hk : hasK [] (.string (bytes s)) = false := rfl
  refine meets Tryz.func166 rfl rfl Tryz.ntmps166 Tryz.results166 rfl ?_
  simp -dsimp -implicitDefEqProofs only [go_sem, ↓reduceIte, reduceCtorEq, Nat.reduceLT, Nat.reduceLeDiff, Nat.reduceEqDiff, Nat.reduceAdd, Nat.reduceMul, Nat.reduceSub, Nat.reduceBEq, Int.reduceLT, Int.reduceLE, Int.reduceEq, Int.reduceBEq, Int.reduceNeg]
  refine vrounds 3 sitOk ?_
  simp -dsimp -implicitDefEqProofs only [go_sem, ↓reduceIte, reduceCtorEq, Nat.reduceLT, Nat.reduceLeDiff, Nat.reduceEqDiff, Nat.reduceAdd, Nat.reduceMul, Nat.reduceSub, Nat.reduceBEq, Int.reduceLT, Int.reduceLE, Int.reduceEq, Int.reduceBEq, Int.reduceNeg]
  refine vround ?_
  simp -dsimp -implicitDefEqProofs only [hk, go_sem, ↓reduceIte, reduceCtorEq, Nat.reduceLT, Nat.reduceLeDiff, Nat.reduceEqDiff, Nat.reduceAdd, Nat.reduceMul, Nat.reduceSub, Nat.reduceBEq, Int.reduceLT, Int.reduceLE, Int.reduceEq, Int.reduceBEq, Int.reduceNeg]
  refine callP h ?_
  simp -dsimp -implicitDefEqProofs only [i01, go_sem, ↓reduceIte, reduceCtorEq, Nat.reduceLT, Nat.reduceLeDiff, Nat.reduceEqDiff, Nat.reduceAdd, Nat.reduceMul, Nat.reduceSub, Nat.reduceBEq, Int.reduceLT, Int.reduceLE, Int.reduceEq, Int.reduceBEq, Int.reduceNeg]
  refine vround ?_
  simp -dsimp -implicitDefEqProofs only [c1, go_sem, ↓reduceIte, reduceCtorEq, Nat.reduceLT, Nat.reduceLeDiff, Nat.reduceEqDiff, Nat.reduceAdd, Nat.reduceMul, Nat.reduceSub, Nat.reduceBEq, Int.reduceLT, Int.reduceLE, Int.reduceEq, Int.reduceBEq, Int.reduceNeg]
/-- What any certificate has. -/
structure CgOk (c : Ct) : Prop where
  b : CtB c
  n1 : c.serial ≤ 1099511627776
  n2 : c.frm ≤ 1099511627776
  n3 : c.til ≤ 1099511627776
  lt : c.frm < c.til
  k0 : 0 < c.key
  ti : Meets Tryz.prog 164 [(false, [vS c.issuer])] (rOne (vB true))
/-- An authority's. -/
structure CaOk (c : Ct) : Prop where
  g : CgOk c
  ca : c.ca = true
  ts : Meets Tryz.prog 164 [(false, [vS c.subject])] (rOne (vB true))
  n : c.names = []
  d : c.depth ≤ 4
  p : c.permit = [] ∨ ∃ p, c.permit = [p] ∧ patOk p = true
/-- A leaf's. -/
structure LfOk (c : Ct) : Prop where
  g : CgOk c
  ca : c.ca = false
  s : c.subject = []
  n : ∃ n, c.names = [n] ∧ isName n = true
  d : c.depth = 0
  p : c.permit = []
theorem formed_ca (c : Ct) (h : CaOk c) : Meets Tryz.prog 109 [(true, ctV c)] (rOne (vB true)) := by
  obtain ⟨⟨b, n1, n2, n3, lt, k0, ti⟩, ca, ts, n, d, p⟩ := h
  have h1 := number_ok c.serial n1
  have h2 := number_ok c.frm n2
  have h3 := number_ok c.til n3
  have h4 := signed_ok c.e c.s b.e b.sg
  have hk := b.key
  have c1 : ((c.til : Int) ≤ (c.frm : Int)) = False := by simp; omega
  have c2 : ((c.key : Int) = 0) = False := by simp; omega
  have c3 : ((2305843009213691579 : Int) ≤ (c.key : Int)) = False := by simp; omega
  have c4 : ((0 : Int) ≤ (c.depth : Int)) = True := by simp
  have c5 : ((c.depth : Int) ≤ 4) = True := by simp; omega
  have hl : Meets Tryz.prog 166 [(false, [vD (stD c.permit)]), (false, [vI 0]), (false, [vI 8]), (false, [vD (.fn 12 [])])] (rOne (vB true)) := by
    rcases p with p | ⟨q, p, hq⟩
    · rw [p]; exact list0_ok _
    · rw [p]
      have := patternE_ok q
      rw [hq] at this
      exact list1_ok q _ 0 (by decide) this
  refine meets Tryz.func109 rfl rfl Tryz.ntmps109 Tryz.results109 rfl ?_
  simp -dsimp -implicitDefEqProofs only [go_sem, ↓reduceIte, reduceCtorEq, Nat.reduceLT, Nat.reduceLeDiff, Nat.reduceEqDiff, Nat.reduceAdd, Nat.reduceMul, Nat.reduceSub, Nat.reduceBEq, Int.reduceLT, Int.reduceLE, Int.reduceEq, Int.reduceBEq, Int.reduceNeg]
  refine vrounds 2 sitOk ?_
  simp -dsimp -implicitDefEqProofs only [go_sem, ↓reduceIte, reduceCtorEq, Nat.reduceLT, Nat.reduceLeDiff, Nat.reduceEqDiff, Nat.reduceAdd, Nat.reduceMul, Nat.reduceSub, Nat.reduceBEq, Int.reduceLT, Int.reduceLE, Int.reduceEq, Int.reduceBEq, Int.reduceNeg]
  refine vround ?_
  simp -dsimp -implicitDefEqProofs only [go_sem, ↓reduceIte, reduceCtorEq, Nat.reduceLT, Nat.reduceLeDiff, Nat.reduceEqDiff, Nat.reduceAdd, Nat.reduceMul, Nat.reduceSub, Nat.reduceBEq, Int.reduceLT, Int.reduceLE, Int.reduceEq, Int.reduceBEq, Int.reduceNeg]
  refine callP h1 ?_
  simp -dsimp -implicitDefEqProofs only [go_sem, ↓reduceIte, reduceCtorEq, Nat.reduceLT, Nat.reduceLeDiff, Nat.reduceEqDiff, Nat.reduceAdd, Nat.reduceMul, Nat.reduceSub, Nat.reduceBEq, Int.reduceLT, Int.reduceLE, Int.reduceEq, Int.reduceBEq, Int.reduceNeg]
  refine callP h2 ?_
  simp -dsimp -implicitDefEqProofs only [go_sem, ↓reduceIte, reduceCtorEq, Nat.reduceLT, Nat.reduceLeDiff, Nat.reduceEqDiff, Nat.reduceAdd, Nat.reduceMul, Nat.reduceSub, Nat.reduceBEq, Int.reduceLT, Int.reduceLE, Int.reduceEq, Int.reduceBEq, Int.reduceNeg]
  refine callP h3 ?_
  simp -dsimp -implicitDefEqProofs only [c1, go_sem, ↓reduceIte, reduceCtorEq, Nat.reduceLT, Nat.reduceLeDiff, Nat.reduceEqDiff, Nat.reduceAdd, Nat.reduceMul, Nat.reduceSub, Nat.reduceBEq, Int.reduceLT, Int.reduceLE, Int.reduceEq, Int.reduceBEq, Int.reduceNeg]
  refine callP ti ?_
  simp -dsimp -implicitDefEqProofs only [c2, c3, go_sem, ↓reduceIte, reduceCtorEq, Nat.reduceLT, Nat.reduceLeDiff, Nat.reduceEqDiff, Nat.reduceAdd, Nat.reduceMul, Nat.reduceSub, Nat.reduceBEq, Int.reduceLT, Int.reduceLE, Int.reduceEq, Int.reduceBEq, Int.reduceNeg]
  refine callP h4 ?_
  simp -dsimp -implicitDefEqProofs only [ca, go_sem, ↓reduceIte, reduceCtorEq, Nat.reduceLT, Nat.reduceLeDiff, Nat.reduceEqDiff, Nat.reduceAdd, Nat.reduceMul, Nat.reduceSub, Nat.reduceBEq, Int.reduceLT, Int.reduceLE, Int.reduceEq, Int.reduceBEq, Int.reduceNeg]
  refine callP ts ?_
  simp -dsimp -implicitDefEqProofs only [n, c4, c5, go_sem, ↓reduceIte, reduceCtorEq, Nat.reduceLT, Nat.reduceLeDiff, Nat.reduceEqDiff, Nat.reduceAdd, Nat.reduceMul, Nat.reduceSub, Nat.reduceBEq, Int.reduceLT, Int.reduceLE, Int.reduceEq, Int.reduceBEq, Int.reduceNeg]
  refine callP hl ?_
  simp -dsimp -implicitDefEqProofs only [go_sem, ↓reduceIte, reduceCtorEq, Nat.reduceLT, Nat.reduceLeDiff, Nat.reduceEqDiff, Nat.reduceAdd, Nat.reduceMul, Nat.reduceSub, Nat.reduceBEq, Int.reduceLT, Int.reduceLE, Int.reduceEq, Int.reduceBEq, Int.reduceNeg]
theorem formed_leaf (c : Ct) (h : LfOk c) : Meets Tryz.prog 109 [(true, ctV c)] (rOne (vB true)) := by
  obtain ⟨⟨b, n1, n2, n3, lt, k0, ti⟩, ca, sb, ⟨nm, n, hn⟩, d, p⟩ := h
  have h1 := number_ok c.serial n1
  have h2 := number_ok c.frm n2
  have h3 := number_ok c.til n3
  have h4 := signed_ok c.e c.s b.e b.sg
  have hk := b.key
  have c1 : ((c.til : Int) ≤ (c.frm : Int)) = False := by simp; omega
  have c2 : ((c.key : Int) = 0) = False := by simp; omega
  have c3 : ((2305843009213691579 : Int) ≤ (c.key : Int)) = False := by simp; omega
  have hl : Meets Tryz.prog 166 [(false, [vD (stD c.names)]), (false, [vI 1]), (false, [vI 8]), (false, [vD (.fn 11 [])])] (rOne (vB true)) := by
    rw [n]
    have := check_ok nm
    rw [hn] at this
    exact list1_ok nm _ 1 (by decide) this
  refine meets Tryz.func109 rfl rfl Tryz.ntmps109 Tryz.results109 rfl ?_
  simp -dsimp -implicitDefEqProofs only [go_sem, ↓reduceIte, reduceCtorEq, Nat.reduceLT, Nat.reduceLeDiff, Nat.reduceEqDiff, Nat.reduceAdd, Nat.reduceMul, Nat.reduceSub, Nat.reduceBEq, Int.reduceLT, Int.reduceLE, Int.reduceEq, Int.reduceBEq, Int.reduceNeg]
  refine vrounds 2 sitOk ?_
  simp -dsimp -implicitDefEqProofs only [go_sem, ↓reduceIte, reduceCtorEq, Nat.reduceLT, Nat.reduceLeDiff, Nat.reduceEqDiff, Nat.reduceAdd, Nat.reduceMul, Nat.reduceSub, Nat.reduceBEq, Int.reduceLT, Int.reduceLE, Int.reduceEq, Int.reduceBEq, Int.reduceNeg]
  refine vround ?_
  simp -dsimp -implicitDefEqProofs only [go_sem, ↓reduceIte, reduceCtorEq, Nat.reduceLT, Nat.reduceLeDiff, Nat.reduceEqDiff, Nat.reduceAdd, Nat.reduceMul, Nat.reduceSub, Nat.reduceBEq, Int.reduceLT, Int.reduceLE, Int.reduceEq, Int.reduceBEq, Int.reduceNeg]
  refine callP h1 ?_
  simp -dsimp -implicitDefEqProofs only [go_sem, ↓reduceIte, reduceCtorEq, Nat.reduceLT, Nat.reduceLeDiff, Nat.reduceEqDiff, Nat.reduceAdd, Nat.reduceMul, Nat.reduceSub, Nat.reduceBEq, Int.reduceLT, Int.reduceLE, Int.reduceEq, Int.reduceBEq, Int.reduceNeg]
  refine callP h2 ?_
  simp -dsimp -implicitDefEqProofs only [go_sem, ↓reduceIte, reduceCtorEq, Nat.reduceLT, Nat.reduceLeDiff, Nat.reduceEqDiff, Nat.reduceAdd, Nat.reduceMul, Nat.reduceSub, Nat.reduceBEq, Int.reduceLT, Int.reduceLE, Int.reduceEq, Int.reduceBEq, Int.reduceNeg]
  refine callP h3 ?_
  simp -dsimp -implicitDefEqProofs only [c1, go_sem, ↓reduceIte, reduceCtorEq, Nat.reduceLT, Nat.reduceLeDiff, Nat.reduceEqDiff, Nat.reduceAdd, Nat.reduceMul, Nat.reduceSub, Nat.reduceBEq, Int.reduceLT, Int.reduceLE, Int.reduceEq, Int.reduceBEq, Int.reduceNeg]
  refine callP ti ?_
  simp -dsimp -implicitDefEqProofs only [c2, c3, go_sem, ↓reduceIte, reduceCtorEq, Nat.reduceLT, Nat.reduceLeDiff, Nat.reduceEqDiff, Nat.reduceAdd, Nat.reduceMul, Nat.reduceSub, Nat.reduceBEq, Int.reduceLT, Int.reduceLE, Int.reduceEq, Int.reduceBEq, Int.reduceNeg]
  refine callP h4 ?_
  simp -dsimp -implicitDefEqProofs only [ca, sb, go_sem, ↓reduceIte, reduceCtorEq, Nat.reduceLT, Nat.reduceLeDiff, Nat.reduceEqDiff, Nat.reduceAdd, Nat.reduceMul, Nat.reduceSub, Nat.reduceBEq, Int.reduceLT, Int.reduceLE, Int.reduceEq, Int.reduceBEq, Int.reduceNeg]
  refine callP hl ?_
  simp -dsimp -implicitDefEqProofs only [d, p, go_sem, ↓reduceIte, reduceCtorEq, Nat.reduceLT, Nat.reduceLeDiff, Nat.reduceEqDiff, Nat.reduceAdd, Nat.reduceMul, Nat.reduceSub, Nat.reduceBEq, Int.reduceLT, Int.reduceLE, Int.reduceEq, Int.reduceBEq, Int.reduceNeg]
theorem pr_small {c : Ct} (b : CtB c) : c.issuer.length ≤ 1000 ∧ c.subject.length ≤ 1000 ∧ c.key < 9223372036854775808 ∧ c.names.length ≤ 8 ∧ (∀ s ∈ c.names, s.length ≤ 1000) ∧ c.permit.length ≤ 8 ∧ (∀ s ∈ c.permit, s.length ≤ 1000) := by
  have h1 := b.i.2
  have h2 := b.s.2
  have h3 := b.key
  have h4 := b.n.1
  have h5 := b.p.1
  exact ⟨by omega, by omega, by omega, by omega, fun s hs => by have := (b.n.2 s hs).2; omega, by omega, fun s hs => by have := (b.p.2 s hs).2; omega⟩
theorem ccheck_ok (c : Ct) (hf : Meets Tryz.prog 109 [(true, ctV c)] (rOne (vB true))) (b : CtB c) : Meets Tryz.prog 66 [(true, ctV c)] (rOne (vI 0)) := by
  obtain ⟨s1, s2, s3, s4, s5, s6, s7⟩ := pr_small b
  have h1 := whole_ok c s1 s2 s3 s4 s5 s6 s7 (by have := b.e; omega) (by have := b.sg; omega)
  have hl := whole_len b
  have h2 := put8_ok (wholeI c) (whole_it b 3) (by omega)
  have c1 : ((2048 : Int) < ((enc (wholeI c)).length : Int)) = False := by simp; omega
  refine meets Tryz.func66 rfl rfl Tryz.ntmps66 Tryz.results66 rfl ?_
  simp -dsimp -implicitDefEqProofs only [go_sem, ↓reduceIte, reduceCtorEq, Nat.reduceLT, Nat.reduceLeDiff, Nat.reduceEqDiff, Nat.reduceAdd, Nat.reduceMul, Nat.reduceSub, Nat.reduceBEq, Int.reduceLT, Int.reduceLE, Int.reduceEq, Int.reduceBEq, Int.reduceNeg]
  refine callP hf ?_
  simp -dsimp -implicitDefEqProofs only [go_sem, ↓reduceIte, reduceCtorEq, Nat.reduceLT, Nat.reduceLeDiff, Nat.reduceEqDiff, Nat.reduceAdd, Nat.reduceMul, Nat.reduceSub, Nat.reduceBEq, Int.reduceLT, Int.reduceLE, Int.reduceEq, Int.reduceBEq, Int.reduceNeg]
  refine callP h1 ?_
  simp -dsimp -implicitDefEqProofs only [go_sem, ↓reduceIte, reduceCtorEq, Nat.reduceLT, Nat.reduceLeDiff, Nat.reduceEqDiff, Nat.reduceAdd, Nat.reduceMul, Nat.reduceSub, Nat.reduceBEq, Int.reduceLT, Int.reduceLE, Int.reduceEq, Int.reduceBEq, Int.reduceNeg]
  refine callP h2 ?_
  simp -dsimp -implicitDefEqProofs only [c1, go_sem, ↓reduceIte, reduceCtorEq, Nat.reduceLT, Nat.reduceLeDiff, Nat.reduceEqDiff, Nat.reduceAdd, Nat.reduceMul, Nat.reduceSub, Nat.reduceBEq, Int.reduceLT, Int.reduceLE, Int.reduceEq, Int.reduceBEq, Int.reduceNeg]
  trace_state
theorem cbody_ok (c : Ct) (hf : Meets Tryz.prog 109 [(true, ctV c)] (rOne (vB true))) (b : CtB c) : Meets Tryz.prog 16 [(true, ctV c)] (rTup [(false, [vD (byD (enc (bodyI c)))]), (false, [vI 0])]) := by
  obtain ⟨s1, s2, s3, s4, s5, s6, s7⟩ := pr_small b
  have h1 := ccheck_ok c hf b
  have h2 := body_ok c s1 s2 s3 s4 s5 s6 s7
  have hl := body_len b
  have h3 := put8_ok (bodyI c) (body_it b 4) (by omega)
  refine meets Tryz.func16 rfl rfl Tryz.ntmps16 Tryz.results16 rfl ?_
  simp -dsimp -implicitDefEqProofs only [go_sem, ↓reduceIte, reduceCtorEq, Nat.reduceLT, Nat.reduceLeDiff, Nat.reduceEqDiff, Nat.reduceAdd, Nat.reduceMul, Nat.reduceSub, Nat.reduceBEq, Int.reduceLT, Int.reduceLE, Int.reduceEq, Int.reduceBEq, Int.reduceNeg]
  refine callW rfl Tryz.func53 rfl rfl Tryz.ntmps53 Tryz.results53 rfl ?_
  simp -dsimp -implicitDefEqProofs only [retH, go_sem, ↓reduceIte, reduceCtorEq, Nat.reduceLT, Nat.reduceLeDiff, Nat.reduceEqDiff, Nat.reduceAdd, Nat.reduceMul, Nat.reduceSub, Nat.reduceBEq, Int.reduceLT, Int.reduceLE, Int.reduceEq, Int.reduceBEq, Int.reduceNeg]
  refine callP h1 ?_
  simp -dsimp -implicitDefEqProofs only [retH, go_sem, ↓reduceIte, reduceCtorEq, Nat.reduceLT, Nat.reduceLeDiff, Nat.reduceEqDiff, Nat.reduceAdd, Nat.reduceMul, Nat.reduceSub, Nat.reduceBEq, Int.reduceLT, Int.reduceLE, Int.reduceEq, Int.reduceBEq, Int.reduceNeg]
  refine callP h2 ?_
  simp -dsimp -implicitDefEqProofs only [retH, go_sem, ↓reduceIte, reduceCtorEq, Nat.reduceLT, Nat.reduceLeDiff, Nat.reduceEqDiff, Nat.reduceAdd, Nat.reduceMul, Nat.reduceSub, Nat.reduceBEq, Int.reduceLT, Int.reduceLE, Int.reduceEq, Int.reduceBEq, Int.reduceNeg]
  refine callP h3 ?_
  simp -dsimp -implicitDefEqProofs only [retH, go_sem, ↓reduceIte, reduceCtorEq, Nat.reduceLT, Nat.reduceLeDiff, Nat.reduceEqDiff, Nat.reduceAdd, Nat.reduceMul, Nat.reduceSub, Nat.reduceBEq, Int.reduceLT, Int.reduceLE, Int.reduceEq, Int.reduceBEq, Int.reduceNeg]
  trace_state
end Go.Proofs.YtijfncaphfaijaaGreatDoor
namespace Go.Proofs.YtijfncaphfaijaaGreatDoor
open Go.Eng
set_option linter.unusedSimpArgs false
set_option maxRecDepth 10000

/-- What a key signed is right. -/
theorem sig_good (s : Nat) (msg : List Int) (h : msg.length ≤ 10000) : chaN (4 ^ sigS s msg % 2305843009213691579 * invN 2305843009213691579 (pw4 s ^ sigE s msg % 2305843009213691579) % 2305843009213691579) (pw4 s) msg = sigE s msg := by
  have hmm : pw4 s ^ sigE s msg % 2305843009213691579 % 2305843009213691579 = pw4 s ^ sigE s msg % 2305843009213691579 := Nat.mod_mod _ _
  have hg : Nat.gcd (pw4 s ^ sigE s msg % 2305843009213691579) 2305843009213691579 = 1 := by rw [← pw4_mul]; exact gcd_pw _
  have hio := invN_ok (m := 2305843009213691579) (a := pw4 s ^ sigE s msg % 2305843009213691579) (by decide) (by rw [hmm]; exact hg)
  have h1 := sign_eq s (sigE s msg) (nonN s msg) _ hio.2.2
  show chaN (4 ^ ((sigE s msg * s % 1152921504606845789 + nonN s msg) % 1152921504606845789) % 2305843009213691579 * _ % 2305843009213691579) _ msg = _
  exact congrArg (fun x => chaN x (pw4 s) msg) h1
theorem link_ok (c p : Ct) (s : Nat) (h1 : Meets Tryz.prog 66 [(true, ctV c)] (rOne (vI 0))) (h2 : Meets Tryz.prog 66 [(true, ctV p)] (rOne (vI 0)))
    (h3 : Meets Tryz.prog 16 [(true, ctV c)] (rTup [(false, [vD (byD (enc (bodyI c)))]), (false, [vI 0])])) (hl : (enc (bodyI c)).length ≤ 10000)
    (ca : p.ca = true) (iss : c.issuer = p.subject) (key : p.key = pw4 s) (he : c.e = sigE s (enc (bodyI c))) (hs : c.s = sigS s (enc (bodyI c))) : Meets Tryz.prog 21 [(true, ctV c), (true, ctV p)] (rOne (vI 0)) := by
  have c1 : (c.issuer = p.subject) = True := by simp [iss]
  refine meets Tryz.func21 rfl rfl Tryz.ntmps21 Tryz.results21 rfl ?_
  simp -dsimp -implicitDefEqProofs only [go_sem, ↓reduceIte, reduceCtorEq, Nat.reduceLT, Nat.reduceLeDiff, Nat.reduceEqDiff, Nat.reduceAdd, Nat.reduceMul, Nat.reduceSub, Nat.reduceBEq, Int.reduceLT, Int.reduceLE, Int.reduceEq, Int.reduceBEq, Int.reduceNeg]
  have hg := sigchk_ok (pw4 s) (sigE s (enc (bodyI c))) (sigS s (enc (bodyI c))) (enc (bodyI c)) hl (pw4_in s).1 (pw4_in s).2.1 (pw4_in s).2.2 (chaN_lt _ _ _ hl) (Nat.mod_lt _ (by decide)) (by rw [← pw4_mul]; exact gcd_pw _) (sig_good s _ hl)
  rw [← key, ← he, ← hs] at hg
  refine vrounds 3 sitOk ?_
  simp -dsimp -implicitDefEqProofs only [go_sem, ↓reduceIte, reduceCtorEq, Nat.reduceLT, Nat.reduceLeDiff, Nat.reduceEqDiff, Nat.reduceAdd, Nat.reduceMul, Nat.reduceSub, Nat.reduceBEq, Int.reduceLT, Int.reduceLE, Int.reduceEq, Int.reduceBEq, Int.reduceNeg]
  refine vround ?_
  simp -dsimp -implicitDefEqProofs only [go_sem, ↓reduceIte, reduceCtorEq, Nat.reduceLT, Nat.reduceLeDiff, Nat.reduceEqDiff, Nat.reduceAdd, Nat.reduceMul, Nat.reduceSub, Nat.reduceBEq, Int.reduceLT, Int.reduceLE, Int.reduceEq, Int.reduceBEq, Int.reduceNeg]
  refine callP h1 ?_
  simp -dsimp -implicitDefEqProofs only [i01, Int.toNat_one, go_sem, ↓reduceIte, reduceCtorEq, Nat.reduceLT, Nat.reduceLeDiff, Nat.reduceEqDiff, Nat.reduceAdd, Nat.reduceMul, Nat.reduceSub, Nat.reduceBEq, Int.reduceLT, Int.reduceLE, Int.reduceEq, Int.reduceBEq, Int.reduceNeg]
  refine vround ?_
  simp -dsimp -implicitDefEqProofs only [i01, Int.toNat_one, go_sem, ↓reduceIte, reduceCtorEq, Nat.reduceLT, Nat.reduceLeDiff, Nat.reduceEqDiff, Nat.reduceAdd, Nat.reduceMul, Nat.reduceSub, Nat.reduceBEq, Int.reduceLT, Int.reduceLE, Int.reduceEq, Int.reduceBEq, Int.reduceNeg]

  refine callP h2 ?_
  simp -dsimp -implicitDefEqProofs only [i12, Int.toNat_one, go_sem, ↓reduceIte, reduceCtorEq, Nat.reduceLT, Nat.reduceLeDiff, Nat.reduceEqDiff, Nat.reduceAdd, Nat.reduceMul, Nat.reduceSub, Nat.reduceBEq, Int.reduceLT, Int.reduceLE, Int.reduceEq, Int.reduceBEq, Int.reduceNeg]
  refine vround ?_
  simp -dsimp -implicitDefEqProofs only [ca, c1, go_sem, ↓reduceIte, reduceCtorEq, Nat.reduceLT, Nat.reduceLeDiff, Nat.reduceEqDiff, Nat.reduceAdd, Nat.reduceMul, Nat.reduceSub, Nat.reduceBEq, Int.reduceLT, Int.reduceLE, Int.reduceEq, Int.reduceBEq, Int.reduceNeg]
  refine callP h3 ?_
  simp -dsimp -implicitDefEqProofs only [go_sem, ↓reduceIte, reduceCtorEq, Nat.reduceLT, Nat.reduceLeDiff, Nat.reduceEqDiff, Nat.reduceAdd, Nat.reduceMul, Nat.reduceSub, Nat.reduceBEq, Int.reduceLT, Int.reduceLE, Int.reduceEq, Int.reduceBEq, Int.reduceNeg]
  refine callP hg ?_
  simp -dsimp -implicitDefEqProofs only [go_sem, ↓reduceIte, reduceCtorEq, Nat.reduceLT, Nat.reduceLeDiff, Nat.reduceEqDiff, Nat.reduceAdd, Nat.reduceMul, Nat.reduceSub, Nat.reduceBEq, Int.reduceLT, Int.reduceLE, Int.reduceEq, Int.reduceBEq, Int.reduceNeg]
theorem nolink_ok (c p : Ct) (h1 : Meets Tryz.prog 66 [(true, ctV c)] (rOne (vI 0))) (h2 : Meets Tryz.prog 66 [(true, ctV p)] (rOne (vI 0)))
    (ca : p.ca = true) (iss : c.issuer ≠ p.subject) : Meets Tryz.prog 21 [(true, ctV c), (true, ctV p)] (rOne (vI 191)) := by
  have c1 : (c.issuer = p.subject) = False := by simp [iss]
  refine meets Tryz.func21 rfl rfl Tryz.ntmps21 Tryz.results21 rfl ?_
  simp -dsimp -implicitDefEqProofs only [go_sem, ↓reduceIte, reduceCtorEq, Nat.reduceLT, Nat.reduceLeDiff, Nat.reduceEqDiff, Nat.reduceAdd, Nat.reduceMul, Nat.reduceSub, Nat.reduceBEq, Int.reduceLT, Int.reduceLE, Int.reduceEq, Int.reduceBEq, Int.reduceNeg]
  refine vrounds 3 sitOk ?_
  simp -dsimp -implicitDefEqProofs only [go_sem, ↓reduceIte, reduceCtorEq, Nat.reduceLT, Nat.reduceLeDiff, Nat.reduceEqDiff, Nat.reduceAdd, Nat.reduceMul, Nat.reduceSub, Nat.reduceBEq, Int.reduceLT, Int.reduceLE, Int.reduceEq, Int.reduceBEq, Int.reduceNeg]
  refine vround ?_
  simp -dsimp -implicitDefEqProofs only [go_sem, ↓reduceIte, reduceCtorEq, Nat.reduceLT, Nat.reduceLeDiff, Nat.reduceEqDiff, Nat.reduceAdd, Nat.reduceMul, Nat.reduceSub, Nat.reduceBEq, Int.reduceLT, Int.reduceLE, Int.reduceEq, Int.reduceBEq, Int.reduceNeg]
  refine callP h1 ?_
  simp -dsimp -implicitDefEqProofs only [i01, Int.toNat_one, go_sem, ↓reduceIte, reduceCtorEq, Nat.reduceLT, Nat.reduceLeDiff, Nat.reduceEqDiff, Nat.reduceAdd, Nat.reduceMul, Nat.reduceSub, Nat.reduceBEq, Int.reduceLT, Int.reduceLE, Int.reduceEq, Int.reduceBEq, Int.reduceNeg]
  refine vround ?_
  simp -dsimp -implicitDefEqProofs only [Int.toNat_one, go_sem, ↓reduceIte, reduceCtorEq, Nat.reduceLT, Nat.reduceLeDiff, Nat.reduceEqDiff, Nat.reduceAdd, Nat.reduceMul, Nat.reduceSub, Nat.reduceBEq, Int.reduceLT, Int.reduceLE, Int.reduceEq, Int.reduceBEq, Int.reduceNeg]
  refine callP h2 ?_
  simp -dsimp -implicitDefEqProofs only [i12, Int.toNat_one, go_sem, ↓reduceIte, reduceCtorEq, Nat.reduceLT, Nat.reduceLeDiff, Nat.reduceEqDiff, Nat.reduceAdd, Nat.reduceMul, Nat.reduceSub, Nat.reduceBEq, Int.reduceLT, Int.reduceLE, Int.reduceEq, Int.reduceBEq, Int.reduceNeg]
  refine vround ?_
  simp -dsimp -implicitDefEqProofs only [ca, c1, go_sem, ↓reduceIte, reduceCtorEq, Nat.reduceLT, Nat.reduceLeDiff, Nat.reduceEqDiff, Nat.reduceAdd, Nat.reduceMul, Nat.reduceSub, Nat.reduceBEq, Int.reduceLT, Int.reduceLE, Int.reduceEq, Int.reduceBEq, Int.reduceNeg]
end Go.Proofs.YtijfncaphfaijaaGreatDoor
