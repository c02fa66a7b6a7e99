
/- names: patterns. der: items made. der: which items may be. der: an item's bytes. -/
import Derived.Test.YtijfncaphfaijaaGreatDoorPZ
namespace Go.Proofs.YtijfncaphfaijaaGreatDoor
open Go.Eng
set_option linter.unusedSimpArgs false
set_option maxRecDepth 10000

structure NnInv (l : Bs) where
  s : Bs
  eq : (splitB l).all labelB = (splitB s).all labelB
  le : s.length ≤ l.length

/-- A text of so many labels and bytes at most. -/
def isNm (m k : Nat) (l : Bs) : Bool := decide (l.length ≤ k) && decide ((splitB l).length ≤ m) && (splitB l).all labelB
theorem name2_ok (m k : Nat) (l : Bs) (hk : k ≤ 64) : Meets Tryz.prog 94 [(false, [vS l]), (false, [vI m]), (false, [vI k])] (rOne (vB (isNm m k l))) := by
  have hcount := splitB_length l
  refine meets Tryz.func94 rfl rfl Tryz.ntmps94 Tryz.results94 rfl ?_
  simp -dsimp -implicitDefEqProofs only [go_sem, ↓reduceIte, reduceCtorEq, Nat.reduceLT, Nat.reduceLeDiff, Nat.reduceEqDiff, Nat.reduceAdd, Nat.reduceMul, Nat.reduceSub, Nat.reduceBEq, Int.reduceLT, Int.reduceLE, Int.reduceEq, Int.reduceBEq, Int.reduceNeg]
  refine ⟨fun h1 => callP (count_ok l 46) ?_, fun h1 => by unfold isNm; rw [show decide (l.length ≤ k) = false by simp; omega]; simp⟩
  simp -dsimp -implicitDefEqProofs only [go_sem, ↓reduceIte, reduceCtorEq, Nat.reduceLT, Nat.reduceLeDiff, Nat.reduceEqDiff, Nat.reduceAdd, Nat.reduceMul, Nat.reduceSub, Nat.reduceBEq, Int.reduceLT, Int.reduceLE, Int.reduceEq, Int.reduceBEq, Int.reduceNeg]
  refine ⟨fun h2 => by unfold isNm; rw [show decide ((splitB l).length ≤ m) = false by simp; omega]; simp, fun h2 => ?_⟩
  refine callW rfl Tryz.func148 rfl rfl Tryz.ntmps148 Tryz.results148 rfl ?_
  simp -dsimp -implicitDefEqProofs only [go_sem, ↓reduceIte, reduceCtorEq, Nat.reduceLT, Nat.reduceLeDiff, Nat.reduceEqDiff, Nat.reduceAdd, Nat.reduceMul, Nat.reduceSub, Nat.reduceBEq, Int.reduceLT, Int.reduceLE, Int.reduceEq, Int.reduceBEq, Int.reduceNeg]
  refine callW rfl Tryz.func191 rfl rfl Tryz.ntmps191 Tryz.results191 rfl ?_
  simp -dsimp -implicitDefEqProofs only [retH, go_sem, ↓reduceIte, reduceCtorEq, Nat.reduceLT, Nat.reduceLeDiff, Nat.reduceEqDiff, Nat.reduceAdd, Nat.reduceMul, Nat.reduceSub, Nat.reduceBEq, Int.reduceLT, Int.reduceLE, Int.reduceEq, Int.reduceBEq, Int.reduceNeg]
  refine vrange sitOk rfl [] [(6, aP 0 0)] rfl rfl ?_ Tryz.func222 rfl rfl Tryz.ntmps222 Tryz.results222 rfl ?_
  · simp -dsimp -implicitDefEqProofs only [go_sem, ↓reduceIte, reduceCtorEq, Nat.reduceLT, Nat.reduceLeDiff, Nat.reduceEqDiff, Nat.reduceAdd, Nat.reduceMul, Nat.reduceSub, Nat.reduceBEq, Int.reduceLT, Int.reduceLE, Int.reduceEq, Int.reduceBEq, Int.reduceNeg]
  simp -dsimp -implicitDefEqProofs only [go_sem, ↓reduceIte, reduceCtorEq, Nat.reduceLT, Nat.reduceLeDiff, Nat.reduceEqDiff, Nat.reduceAdd, Nat.reduceMul, Nat.reduceSub, Nat.reduceBEq, Int.reduceLT, Int.reduceLE, Int.reduceEq, Int.reduceBEq, Int.reduceNeg]
  generalize hL : Lp.mk 24 _ _ _ _ _ = L
  refine vfor sitOk (ι := NnInv l) (fun v => ⟨52, [(0, .cs false [.yld 216]), (1, aP 128 0), (2, aP 120 0), (3, aP 136 0)], [(216, some (.lp L)), (136, some (.var [cI 0] true)), (128, some (.var [cS [46]] true)), (120, some (.var [cS v.s] true)), (0, some (.var [cB false] true))], 500⟩) (fun v => v.s.length) ⟨l, rfl, Nat.le_refl _⟩ ?_ ?_
  · simp -dsimp -implicitDefEqProofs only [← hL, go_sem, ↓reduceIte, reduceCtorEq, Nat.reduceLT, Nat.reduceLeDiff, Nat.reduceEqDiff, Nat.reduceAdd, Nat.reduceMul, Nat.reduceSub, Nat.reduceBEq, Int.reduceLT, Int.reduceLE, Int.reduceEq, Int.reduceBEq, Int.reduceNeg]
  intro ⟨s, he, hle⟩
  simp -dsimp -implicitDefEqProofs only [go_sem, ↓reduceIte, reduceCtorEq, Nat.reduceLT, Nat.reduceLeDiff, Nat.reduceEqDiff, Nat.reduceAdd, Nat.reduceMul, Nat.reduceSub, Nat.reduceBEq, Int.reduceLT, Int.reduceLE, Int.reduceEq, Int.reduceBEq, Int.reduceNeg]
  refine callP (index_ok s 46) ?_
  rcases dot_cases s with ⟨hi, hn⟩ | ⟨a, b, rfl, ha, hi⟩
  · simp -dsimp -implicitDefEqProofs only [hi, go_sem, ↓reduceIte, reduceCtorEq, Nat.reduceLT, Nat.reduceLeDiff, Nat.reduceEqDiff, Nat.reduceAdd, Nat.reduceMul, Nat.reduceSub, Nat.reduceBEq, Int.reduceLT, Int.reduceLE, Int.reduceEq, Int.reduceBEq, Int.reduceNeg]
    refine yieldW sitOk ?_
    simp -dsimp -implicitDefEqProofs only [← hL, go_sem, ↓reduceIte, reduceCtorEq, Nat.reduceLT, Nat.reduceLeDiff, Nat.reduceEqDiff, Nat.reduceAdd, Nat.reduceMul, Nat.reduceSub, Nat.reduceBEq, Int.reduceLT, Int.reduceLE, Int.reduceEq, Int.reduceBEq, Int.reduceNeg]
    intro ro
    refine callP (label_ok s) ?_
    have hs : (splitB l).all labelB = labelB s := by rw [he, splitB_none hn]; simp
    simp -dsimp -implicitDefEqProofs only [retH, ← hL, go_sem, ↓reduceIte, reduceCtorEq, Nat.reduceLT, Nat.reduceLeDiff, Nat.reduceEqDiff, Nat.reduceAdd, Nat.reduceMul, Nat.reduceSub, Nat.reduceBEq, Int.reduceLT, Int.reduceLE, Int.reduceEq, Int.reduceBEq, Int.reduceNeg]
    refine ⟨fun h => ?_, fun h => ?_⟩
    all_goals simp [isNm, hs, h]
    all_goals omega
  · have hw : IntKind.i64.wrap ((a.length : Int) + 0) = (a.length : Int) := by rw [wrap64] <;> simp at hle ⊢ <;> omega
    have hw2 : IntKind.i64.wrap ((a.length : Int) + 1) = ((a.length + 1 : Nat) : Int) := by rw [wrap64] <;> simp at hle ⊢ <;> omega
    have hs : (splitB l).all labelB = (labelB a && (splitB b).all labelB) := by rw [he, splitB_dot ha]; simp
    have hlen : (a.length : Int) ≤ ((a ++ 46 :: b).length : Nat) := by simp; omega
    have hlen2 : ((a.length + 1 : Nat) : Int) ≤ ((a ++ 46 :: b).length : Nat) := by simp; omega
    have ht : (a ++ 46 :: b).take a.length = a := by simp
    have hd : ((a ++ 46 :: b).drop (a.length + 1)) = b := by simp
    have h0 : ¬ ((a.length : Int) < 0) := by omega
    simp -dsimp -implicitDefEqProofs only [hi, hw, hw2, hlen, hlen2, ht, hd, h0, go_sem, ↓reduceIte, reduceCtorEq, Nat.reduceLT, Nat.reduceLeDiff, Nat.reduceEqDiff, Nat.reduceAdd, Nat.reduceMul, Nat.reduceSub, Nat.reduceBEq, Int.reduceLT, Int.reduceLE, Int.reduceEq, Int.reduceBEq, Int.reduceNeg]
    refine ⟨by omega, yieldW sitOk ?_⟩
    simp -dsimp -implicitDefEqProofs only [← hL, go_sem, ↓reduceIte, reduceCtorEq, Nat.reduceLT, Nat.reduceLeDiff, Nat.reduceEqDiff, Nat.reduceAdd, Nat.reduceMul, Nat.reduceSub, Nat.reduceBEq, Int.reduceLT, Int.reduceLE, Int.reduceEq, Int.reduceBEq, Int.reduceNeg]
    intro ro
    refine callP (label_ok a) ?_
    simp -dsimp -implicitDefEqProofs only [hi, hw, hw2, hlen, hlen2, ht, hd, h0, go_sem, ↓reduceIte, reduceCtorEq, Nat.reduceLT, Nat.reduceLeDiff, Nat.reduceEqDiff, Nat.reduceAdd, Nat.reduceMul, Nat.reduceSub, Nat.reduceBEq, Int.reduceLT, Int.reduceLE, Int.reduceEq, Int.reduceBEq, Int.reduceNeg]
    refine ⟨fun h => ?_, fun h => ?_⟩
    · simp -dsimp -implicitDefEqProofs only [retH, ← hL, go_sem, ↓reduceIte, reduceCtorEq, Nat.reduceLT, Nat.reduceLeDiff, Nat.reduceEqDiff, Nat.reduceAdd, Nat.reduceMul, Nat.reduceSub, Nat.reduceBEq, Int.reduceLT, Int.reduceLE, Int.reduceEq, Int.reduceBEq, Int.reduceNeg]
      simp [isNm, hs, h]
    · refine ⟨by omega, again ⟨b, by rw [hs, h]; simp, by simp at hle; omega⟩ (by simp; omega) ?_⟩
      simp -dsimp -implicitDefEqProofs only [← hL, go_sem, ↓reduceIte, reduceCtorEq, Nat.reduceLT, Nat.reduceLeDiff, Nat.reduceEqDiff, Nat.reduceAdd, Nat.reduceMul, Nat.reduceSub, Nat.reduceBEq, Int.reduceLT, Int.reduceLE, Int.reduceEq, Int.reduceBEq, Int.reduceNeg]
def starB (l : Bs) : Bool := decide (2 ≤ l.length) && (l.take 2 == [42, 46])
def patOf (l : Bs) : Bs := if isName l then l else if starB l then l.drop 2 else l
def patSt (l : Bs) : Bool := !isName l && starB l
def patOk (l : Bs) : Bool := isName l || (starB l && isNm 7 62 (l.drop 2))
def matchB (p s : Bs) : Bool := if !(patOk p) || !(isName s) then false else if patSt p then belowB s (patOf p) else patOf p == s
theorem hasP_ok (l : Bs) : Meets Tryz.prog 194 [(false, [vS l]), (false, [vS [42, 46]])] (rOne (vB (starB l))) := by
  refine meets Tryz.func194 rfl rfl Tryz.ntmps194 Tryz.results194 rfl ?_
  simp -dsimp -implicitDefEqProofs only [tn2, go_sem, ↓reduceIte, reduceCtorEq, Nat.reduceLT, Nat.reduceLeDiff, Nat.reduceEqDiff, Nat.reduceAdd, Nat.reduceMul, Nat.reduceSub, Nat.reduceBEq, Int.reduceLT, Int.reduceLE, Int.reduceEq, Int.reduceBEq, Int.reduceNeg]
  refine ⟨fun h => ⟨h, ?_⟩, fun h => ?_⟩
  · unfold starB; rw [decide_eq_true (by omega), Bool.true_and]
  · unfold starB; rw [decide_eq_false (by omega), Bool.false_and]
theorem cutP0_ok (l : Bs) : Meets Tryz.prog 150 [(false, [vS l]), (false, [vS [42, 46]])] (rTup [(false, [vS (if starB l then l.drop 2 else l)]), (false, [vB (starB l)])]) := by
  have h1 := hasP_ok l
  refine meets Tryz.func150 rfl rfl Tryz.ntmps150 Tryz.results150 rfl ?_
  simp -dsimp -implicitDefEqProofs only [go_sem, ↓reduceIte, reduceCtorEq, Nat.reduceLT, Nat.reduceLeDiff, Nat.reduceEqDiff, Nat.reduceAdd, Nat.reduceMul, Nat.reduceSub, Nat.reduceBEq, Int.reduceLT, Int.reduceLE, Int.reduceEq, Int.reduceBEq, Int.reduceNeg]
  refine callP h1 ?_
  cases hs : starB l with
  | true =>
    simp -dsimp -implicitDefEqProofs only [tn2, go_sem, ↓reduceIte, reduceCtorEq, Nat.reduceLT, Nat.reduceLeDiff, Nat.reduceEqDiff, Nat.reduceAdd, Nat.reduceMul, Nat.reduceSub, Nat.reduceBEq, Int.reduceLT, Int.reduceLE, Int.reduceEq, Int.reduceBEq, Int.reduceNeg]
    unfold starB at hs
    simp only [Bool.and_eq_true, decide_eq_true_eq] at hs
    omega
  | false =>
    simp -dsimp -implicitDefEqProofs only [go_sem, ↓reduceIte, reduceCtorEq, Nat.reduceLT, Nat.reduceLeDiff, Nat.reduceEqDiff, Nat.reduceAdd, Nat.reduceMul, Nat.reduceSub, Nat.reduceBEq, Int.reduceLT, Int.reduceLE, Int.reduceEq, Int.reduceBEq, Int.reduceNeg]
theorem cutP_ok (l : Bs) : Meets Tryz.prog 95 [(false, [vS l]), (false, [vS [42, 46]])] (rTup [(false, [vS (if starB l then l.drop 2 else l)]), (false, [vB (starB l)])]) := by
  have h1 := cutP0_ok l
  refine meets Tryz.func95 rfl rfl Tryz.ntmps95 Tryz.results95 rfl ?_
  simp -dsimp -implicitDefEqProofs only [go_sem, ↓reduceIte, reduceCtorEq, Nat.reduceLT, Nat.reduceLeDiff, Nat.reduceEqDiff, Nat.reduceAdd, Nat.reduceMul, Nat.reduceSub, Nat.reduceBEq, Int.reduceLT, Int.reduceLE, Int.reduceEq, Int.reduceBEq, Int.reduceNeg]
  refine callP h1 ?_
  simp -dsimp -implicitDefEqProofs only [go_sem, ↓reduceIte, reduceCtorEq, Nat.reduceLT, Nat.reduceLeDiff, Nat.reduceEqDiff, Nat.reduceAdd, Nat.reduceMul, Nat.reduceSub, Nat.reduceBEq, Int.reduceLT, Int.reduceLE, Int.reduceEq, Int.reduceBEq, Int.reduceNeg]
theorem pattern_ok (l : Bs) : Meets Tryz.prog 50 [(false, [vS l])] (rTup [(false, [vS (patOf l)]), (false, [vB (patSt l)]), (false, [vB (patOk l)])]) := by
  have h1 := is_ok l
  have h2 := cutP_ok l
  have h3 := name2_ok 7 62 (l.drop 2) (by decide)
  refine meets Tryz.func50 rfl rfl Tryz.ntmps50 Tryz.results50 rfl ?_
  simp -dsimp -implicitDefEqProofs only [go_sem, ↓reduceIte, reduceCtorEq, Nat.reduceLT, Nat.reduceLeDiff, Nat.reduceEqDiff, Nat.reduceAdd, Nat.reduceMul, Nat.reduceSub, Nat.reduceBEq, Int.reduceLT, Int.reduceLE, Int.reduceEq, Int.reduceBEq, Int.reduceNeg]
  refine callP h1 ?_
  cases hn : isName l with
  | true =>
    simp -dsimp -implicitDefEqProofs only [hn, go_sem, ↓reduceIte, reduceCtorEq, Nat.reduceLT, Nat.reduceLeDiff, Nat.reduceEqDiff, Nat.reduceAdd, Nat.reduceMul, Nat.reduceSub, Nat.reduceBEq, Int.reduceLT, Int.reduceLE, Int.reduceEq, Int.reduceBEq, Int.reduceNeg]
    simp [patOf, patSt, patOk, hn]
  | false =>
    simp -dsimp -implicitDefEqProofs only [hn, go_sem, ↓reduceIte, reduceCtorEq, Nat.reduceLT, Nat.reduceLeDiff, Nat.reduceEqDiff, Nat.reduceAdd, Nat.reduceMul, Nat.reduceSub, Nat.reduceBEq, Int.reduceLT, Int.reduceLE, Int.reduceEq, Int.reduceBEq, Int.reduceNeg]
    refine callP h2 ?_
    cases hs : starB l with
    | true =>
      simp -dsimp -implicitDefEqProofs only [hn, hs, go_sem, ↓reduceIte, reduceCtorEq, Nat.reduceLT, Nat.reduceLeDiff, Nat.reduceEqDiff, Nat.reduceAdd, Nat.reduceMul, Nat.reduceSub, Nat.reduceBEq, Int.reduceLT, Int.reduceLE, Int.reduceEq, Int.reduceBEq, Int.reduceNeg]
      refine callP h3 ?_
      simp -dsimp -implicitDefEqProofs only [go_sem, ↓reduceIte, reduceCtorEq, Nat.reduceLT, Nat.reduceLeDiff, Nat.reduceEqDiff, Nat.reduceAdd, Nat.reduceMul, Nat.reduceSub, Nat.reduceBEq, Int.reduceLT, Int.reduceLE, Int.reduceEq, Int.reduceBEq, Int.reduceNeg]
      simp [patOf, patSt, patOk, hn, hs]
    | false =>
      simp -dsimp -implicitDefEqProofs only [hn, hs, go_sem, ↓reduceIte, reduceCtorEq, Nat.reduceLT, Nat.reduceLeDiff, Nat.reduceEqDiff, Nat.reduceAdd, Nat.reduceMul, Nat.reduceSub, Nat.reduceBEq, Int.reduceLT, Int.reduceLE, Int.reduceEq, Int.reduceBEq, Int.reduceNeg]
      simp [patOf, patSt, patOk, hn, hs]
theorem patternE_ok (l : Bs) : Meets Tryz.prog 12 [(false, [vS l])] (rOne (vI (if patOk l then 0 else 110))) := by
  have h1 := pattern_ok l
  have h2 := told_ok (patOk l)
  refine meets Tryz.func12 rfl rfl Tryz.ntmps12 Tryz.results12 rfl ?_
  simp -dsimp -implicitDefEqProofs only [go_sem, ↓reduceIte, reduceCtorEq, Nat.reduceLT, Nat.reduceLeDiff, Nat.reduceEqDiff, Nat.reduceAdd, Nat.reduceMul, Nat.reduceSub, Nat.reduceBEq, Int.reduceLT, Int.reduceLE, Int.reduceEq, Int.reduceBEq, Int.reduceNeg]
  refine callP h1 ?_
  simp -dsimp -implicitDefEqProofs only [go_sem, ↓reduceIte, reduceCtorEq, Nat.reduceLT, Nat.reduceLeDiff, Nat.reduceEqDiff, Nat.reduceAdd, Nat.reduceMul, Nat.reduceSub, Nat.reduceBEq, Int.reduceLT, Int.reduceLE, Int.reduceEq, Int.reduceBEq, Int.reduceNeg]
  refine callP h2 ?_
  simp -dsimp -implicitDefEqProofs only [go_sem, ↓reduceIte, reduceCtorEq, Nat.reduceLT, Nat.reduceLeDiff, Nat.reduceEqDiff, Nat.reduceAdd, Nat.reduceMul, Nat.reduceSub, Nat.reduceBEq, Int.reduceLT, Int.reduceLE, Int.reduceEq, Int.reduceBEq, Int.reduceNeg]
theorem match_ok (p s : Bs) : Meets Tryz.prog 18 [(false, [vS p]), (false, [vS s])] (rOne (vB (matchB p s))) := by
  have h1 := pattern_ok p
  have h2 := is_ok s
  have h3 := below_ok s (patOf p)
  refine meets Tryz.func18 rfl rfl Tryz.ntmps18 Tryz.results18 rfl ?_
  simp -dsimp -implicitDefEqProofs only [go_sem, ↓reduceIte, reduceCtorEq, Nat.reduceLT, Nat.reduceLeDiff, Nat.reduceEqDiff, Nat.reduceAdd, Nat.reduceMul, Nat.reduceSub, Nat.reduceBEq, Int.reduceLT, Int.reduceLE, Int.reduceEq, Int.reduceBEq, Int.reduceNeg]
  refine callP h1 ?_
  cases ho : patOk p with
  | false =>
    simp -dsimp -implicitDefEqProofs only [ho, go_sem, ↓reduceIte, reduceCtorEq, Nat.reduceLT, Nat.reduceLeDiff, Nat.reduceEqDiff, Nat.reduceAdd, Nat.reduceMul, Nat.reduceSub, Nat.reduceBEq, Int.reduceLT, Int.reduceLE, Int.reduceEq, Int.reduceBEq, Int.reduceNeg]
    simp [matchB, ho]
  | true =>
    simp -dsimp -implicitDefEqProofs only [ho, go_sem, ↓reduceIte, reduceCtorEq, Nat.reduceLT, Nat.reduceLeDiff, Nat.reduceEqDiff, Nat.reduceAdd, Nat.reduceMul, Nat.reduceSub, Nat.reduceBEq, Int.reduceLT, Int.reduceLE, Int.reduceEq, Int.reduceBEq, Int.reduceNeg]
    refine callP h2 ?_
    cases hi : isName s with
    | false =>
      simp -dsimp -implicitDefEqProofs only [hi, go_sem, ↓reduceIte, reduceCtorEq, Nat.reduceLT, Nat.reduceLeDiff, Nat.reduceEqDiff, Nat.reduceAdd, Nat.reduceMul, Nat.reduceSub, Nat.reduceBEq, Int.reduceLT, Int.reduceLE, Int.reduceEq, Int.reduceBEq, Int.reduceNeg]
      simp [matchB, ho, hi]
    | true =>
      cases ht : patSt p with
      | true =>
        simp -dsimp -implicitDefEqProofs only [hi, ht, go_sem, ↓reduceIte, reduceCtorEq, Nat.reduceLT, Nat.reduceLeDiff, Nat.reduceEqDiff, Nat.reduceAdd, Nat.reduceMul, Nat.reduceSub, Nat.reduceBEq, Int.reduceLT, Int.reduceLE, Int.reduceEq, Int.reduceBEq, Int.reduceNeg]
        refine callP h3 ?_
        simp -dsimp -implicitDefEqProofs only [go_sem, ↓reduceIte, reduceCtorEq, Nat.reduceLT, Nat.reduceLeDiff, Nat.reduceEqDiff, Nat.reduceAdd, Nat.reduceMul, Nat.reduceSub, Nat.reduceBEq, Int.reduceLT, Int.reduceLE, Int.reduceEq, Int.reduceBEq, Int.reduceNeg]
        simp [matchB, ho, hi, ht]
      | false =>
        simp -dsimp -implicitDefEqProofs only [hi, ht, go_sem, ↓reduceIte, reduceCtorEq, Nat.reduceLT, Nat.reduceLeDiff, Nat.reduceEqDiff, Nat.reduceAdd, Nat.reduceMul, Nat.reduceSub, Nat.reduceBEq, Int.reduceLT, Int.reduceLE, Int.reduceEq, Int.reduceBEq, Int.reduceNeg]
        simp [matchB, ho, hi, ht]
end Go.Proofs.YtijfncaphfaijaaGreatDoor
namespace Go.Proofs.YtijfncaphfaijaaGreatDoor
open Go.Eng
set_option linter.unusedSimpArgs false
set_option maxRecDepth 10000

/-- An item. -/
inductive It where
  | mk (tag : Nat) (b : List Int) (l : List It)
def It.tag : It → Nat
  | .mk t _ _ => t
def It.b : It → List Int
  | .mk _ b _ => b
def It.l : It → List It
  | .mk _ _ l => l
mutual
def itC : It → List D
  | .mk t b l => [.v (.int .i64 (t : Int)), byD b, .vec 3 (itsC l)]
def itsC : List It → List (List D)
  | [] => []
  | x :: r => itC x :: itsC r
end
theorem itsC_map : ∀ l : List It, itsC l = l.map itC
  | [] => rfl
  | x :: r => by rw [itsC, List.map_cons, itsC_map r]
abbrev itL (l : List It) : D := .vec 3 (l.map itC)
theorem itC_eq (t : Nat) (b : List Int) (l : List It) : itC (.mk t b l) = [.v (.int .i64 (t : Int)), byD b, itL l] := by rw [itC, itsC_map]
/-- An item, as it is handed over. -/
abbrev itV (x : It) : List CV := [vI x.tag, vD (byD x.b), vD (itL x.l)]
theorem cloneB_ok (rows : List (List D)) (hl : rows.length ≤ 1000000) :
    Meets Tryz.prog 70 [(false, [vD (.vec 1 rows)])] (rOne (.own 1 5 rows)) := by
  refine meets Tryz.func70 rfl rfl Tryz.ntmps70 Tryz.results70 rfl ?_
  simp -dsimp -implicitDefEqProofs only [go_sem, ↓reduceIte, reduceCtorEq, Nat.reduceLT, Nat.reduceLeDiff, Nat.reduceEqDiff, Nat.reduceAdd, Nat.reduceMul, Nat.reduceSub, Nat.reduceBEq, Int.reduceLT, Int.reduceLE, Int.reduceEq, Int.reduceBEq, Int.reduceNeg]
  exact fun b hb => ⟨fun h => Classical.byContradiction fun hn => absurd ((hb hn).symm.trans h) (by simp), fun _ => ⟨by omega, by omega⟩⟩
theorem cloneI_ok (rows : List (List D)) (hl : rows.length ≤ 1000000) :
    Meets Tryz.prog 151 [(false, [vD (.vec 3 rows)])] (rOne (.own 3 65 rows)) := by
  refine meets Tryz.func151 rfl rfl Tryz.ntmps151 Tryz.results151 rfl ?_
  simp -dsimp -implicitDefEqProofs only [go_sem, ↓reduceIte, reduceCtorEq, Nat.reduceLT, Nat.reduceLeDiff, Nat.reduceEqDiff, Nat.reduceAdd, Nat.reduceMul, Nat.reduceSub, Nat.reduceBEq, Int.reduceLT, Int.reduceLE, Int.reduceEq, Int.reduceBEq, Int.reduceNeg]
  exact fun b hb => ⟨fun h => Classical.byContradiction fun hn => absurd ((hb hn).symm.trans h) (by simp), fun _ => ⟨by omega, by omega⟩⟩
def txI (s : Bs) : It := .mk 12 (s.map fun c => (c.toNat : Int)) []
theorem text_ok (s : Bs) (hl : s.length ≤ 1000000) : Meets Tryz.prog 152 [(false, [vS s])] (rAgg (itV (txI s))) := by
  refine meets Tryz.func152 rfl rfl Tryz.ntmps152 Tryz.results152 rfl ?_
  simp -dsimp -implicitDefEqProofs only [go_sem, ↓reduceIte, reduceCtorEq, Nat.reduceLT, Nat.reduceLeDiff, Nat.reduceEqDiff, Nat.reduceAdd, Nat.reduceMul, Nat.reduceSub, Nat.reduceBEq, Int.reduceLT, Int.reduceLE, Int.reduceEq, Int.reduceBEq, Int.reduceNeg]
  refine ⟨by omega, rfl, ?_, rfl⟩
  show strRows (bytes s) = (s.map fun c => (c.toNat : Int)).map fun b => [.v (.int .u8 b)]
  rw [List.map_map]
  rfl
def boI (v : Bool) : It := .mk 1 [if v then 255 else 0] []
theorem bool_ok (v : Bool) : Meets Tryz.prog 154 [(false, [vB v])] (rAgg (itV (boI v))) := by
  refine meetsF Tryz.func154 rfl rfl Tryz.ntmps154 Tryz.results154 rfl ?_
  simp -dsimp -implicitDefEqProofs only [go_sem, ↓reduceIte, reduceCtorEq, Nat.reduceLT, Nat.reduceLeDiff, Nat.reduceEqDiff, Nat.reduceAdd, Nat.reduceMul, Nat.reduceSub, Nat.reduceBEq, Int.reduceLT, Int.reduceLE, Int.reduceEq, Int.reduceBEq, Int.reduceNeg]
  refine ⟨fun h => ?_, fun h => ?_⟩
  · subst h
    refine retF [8] ?_
    simp -dsimp -implicitDefEqProofs only [go_sem, ↓reduceIte, reduceCtorEq, Nat.reduceLT, Nat.reduceLeDiff, Nat.reduceEqDiff, Nat.reduceAdd, Nat.reduceMul, Nat.reduceSub, Nat.reduceBEq, Int.reduceLT, Int.reduceLE, Int.reduceEq, Int.reduceBEq, Int.reduceNeg]
    exact ⟨rfl, rfl, rfl⟩
  · subst h
    refine retF [8] ?_
    simp -dsimp -implicitDefEqProofs only [go_sem, ↓reduceIte, reduceCtorEq, Nat.reduceLT, Nat.reduceLeDiff, Nat.reduceEqDiff, Nat.reduceAdd, Nat.reduceMul, Nat.reduceSub, Nat.reduceBEq, Int.reduceLT, Int.reduceLE, Int.reduceEq, Int.reduceBEq, Int.reduceNeg]
    exact ⟨rfl, rfl, rfl⟩
def sqI (l : List It) : It := .mk 48 [] l
theorem seq_ok (l : List It) (hl : l.length ≤ 1000) : Meets Tryz.prog 96 [(false, [vD (itL l)])] (rAgg (itV (sqI l))) := by
  have h1 := cloneI_ok (l.map itC) (by rw [List.length_map]; omega)
  refine meetsF Tryz.func96 rfl rfl Tryz.ntmps96 Tryz.results96 rfl ?_
  simp -dsimp -implicitDefEqProofs only [go_sem, ↓reduceIte, reduceCtorEq, Nat.reduceLT, Nat.reduceLeDiff, Nat.reduceEqDiff, Nat.reduceAdd, Nat.reduceMul, Nat.reduceSub, Nat.reduceBEq, Int.reduceLT, Int.reduceLE, Int.reduceEq, Int.reduceBEq, Int.reduceNeg]
  refine callP h1 ?_
  simp -dsimp -implicitDefEqProofs only [go_sem, ↓reduceIte, reduceCtorEq, Nat.reduceLT, Nat.reduceLeDiff, Nat.reduceEqDiff, Nat.reduceAdd, Nat.reduceMul, Nat.reduceSub, Nat.reduceBEq, Int.reduceLT, Int.reduceLE, Int.reduceEq, Int.reduceBEq, Int.reduceNeg]
  refine retF [16] ?_
  simp -dsimp -implicitDefEqProofs only [go_sem, ↓reduceIte, reduceCtorEq, Nat.reduceLT, Nat.reduceLeDiff, Nat.reduceEqDiff, Nat.reduceAdd, Nat.reduceMul, Nat.reduceSub, Nat.reduceBEq, Int.reduceLT, Int.reduceLE, Int.reduceEq, Int.reduceBEq, Int.reduceNeg]
  exact ⟨rfl, rfl, rfl⟩
/-- Are they an int's bytes, as few as there have to be? -/
def leastB : List Int → Bool
  | [] => false
  | [_] => true
  | a :: b :: r => decide (r.length + 2 ≤ 8) && !(decide (a = IntKind.u8.wrap (0 - Int.fdiv b 128)))
theorem least_ok (l : List Int) (hl : l.length ≤ 1000000) : Meets Tryz.prog 69 [(false, [vD (byD l)])] (rOne (vB (leastB l))) := by
  have e7 : (2 : Int) ^ min (Int.toNat 7) 8 = 128 := by decide
  refine meets Tryz.func69 rfl rfl Tryz.ntmps69 Tryz.results69 rfl ?_
  rcases l with _ | ⟨a, _ | ⟨b, r⟩⟩
  · simp -dsimp -implicitDefEqProofs only [go_sem, ↓reduceIte, reduceCtorEq, Nat.reduceLT, Nat.reduceLeDiff, Nat.reduceEqDiff, Nat.reduceAdd, Nat.reduceMul, Nat.reduceSub, Nat.reduceBEq, Int.reduceLT, Int.reduceLE, Int.reduceEq, Int.reduceBEq, Int.reduceNeg]
    rfl
  · simp -dsimp -implicitDefEqProofs only [go_sem, ↓reduceIte, reduceCtorEq, Nat.reduceLT, Nat.reduceLeDiff, Nat.reduceEqDiff, Nat.reduceAdd, Nat.reduceMul, Nat.reduceSub, Nat.reduceBEq, Int.reduceLT, Int.reduceLE, Int.reduceEq, Int.reduceBEq, Int.reduceNeg]
    rfl
  · have c1 : (((r.length + 1 + 1 : Nat) : Int) = 0) = False := by simp; omega
    have c2 : (((r.length + 1 + 1 : Nat) : Int) = 1) = False := by simp; omega
    simp -dsimp -implicitDefEqProofs only [c1, c2, tn1, e7, go_sem, ↓reduceIte, reduceCtorEq, Nat.reduceLT, Nat.reduceLeDiff, Nat.reduceEqDiff, Nat.reduceAdd, Nat.reduceMul, Nat.reduceSub, Nat.reduceBEq, Int.reduceLT, Int.reduceLE, Int.reduceEq, Int.reduceBEq, Int.reduceNeg]
    refine ⟨fun h => ?_, fun h => ?_⟩
    · rw [leastB, decide_eq_true (by omega), Bool.true_and]
      by_cases e : a = IntKind.u8.wrap (0 - Int.fdiv b 128)
      · rw [decide_eq_true e, bne_eq_false_iff_eq.2 e]; rfl
      · rw [decide_eq_false e, bne_iff_ne.2 e]; rfl
    · rw [leastB, decide_eq_false (by omega), Bool.false_and]
def cutZ : List Int → List Int
  | [] => []
  | a :: r => if r = [] ∨ leastB (a :: r) = true then a :: r else cutZ r
theorem cutZ_cut {a b : Int} {r : List Int} (h : leastB (a :: b :: r) = false) : cutZ (a :: b :: r) = cutZ (b :: r) := by
  conv => lhs; rw [cutZ]
  rw [if_neg (by rw [h]; simp)]
theorem cutZ_stop {a : Int} {r : List Int} (h : r = [] ∨ leastB (a :: r) = true) : cutZ (a :: r) = a :: r := by
  rw [cutZ, if_pos h]
def intL (n : Int) : List Int := [IntKind.u8.wrap (Int.fdiv n 72057594037927936), IntKind.u8.wrap (Int.fdiv n 281474976710656), IntKind.u8.wrap (Int.fdiv n 1099511627776), IntKind.u8.wrap (Int.fdiv n 4294967296), IntKind.u8.wrap (Int.fdiv n 16777216), IntKind.u8.wrap (Int.fdiv n 65536), IntKind.u8.wrap (Int.fdiv n 256), IntKind.u8.wrap (Int.fdiv n 1)]
def inI (n : Int) : It := .mk 2 (cutZ (intL n)) []
structure CzInv (n : Int) where
  l : List Int
  ok : cutZ l = cutZ (intL n)
  h0 : 0 < l.length
  h8 : l.length ≤ 8
theorem int_ok (n : Int) : Meets Tryz.prog 23 [(false, [vI n])] (rAgg (itV (inI n))) := by
  have a0 : IntKind.i64.wrap (8 * 0) = 0 := by decide
  have b0 : IntKind.i64.wrap (56 - 0) = 56 := by decide
  have c0 : (2 : Int) ^ min (Int.toNat 56) 64 = 72057594037927936 := by decide
  have d0 : IntKind.i64.wrap ((0 : Int) + 1) = 1 := by decide
  have e0 : Int.toNat 0 = 0 := rfl
  have a1 : IntKind.i64.wrap (8 * 1) = 8 := by decide
  have b1 : IntKind.i64.wrap (56 - 8) = 48 := by decide
  have c1 : (2 : Int) ^ min (Int.toNat 48) 64 = 281474976710656 := by decide
  have d1 : IntKind.i64.wrap ((1 : Int) + 1) = 2 := by decide
  have e1 : Int.toNat 1 = 1 := rfl
  have a2 : IntKind.i64.wrap (8 * 2) = 16 := by decide
  have b2 : IntKind.i64.wrap (56 - 16) = 40 := by decide
  have c2 : (2 : Int) ^ min (Int.toNat 40) 64 = 1099511627776 := by decide
  have d2 : IntKind.i64.wrap ((2 : Int) + 1) = 3 := by decide
  have e2 : Int.toNat 2 = 2 := rfl
  have a3 : IntKind.i64.wrap (8 * 3) = 24 := by decide
  have b3 : IntKind.i64.wrap (56 - 24) = 32 := by decide
  have c3 : (2 : Int) ^ min (Int.toNat 32) 64 = 4294967296 := by decide
  have d3 : IntKind.i64.wrap ((3 : Int) + 1) = 4 := by decide
  have e3 : Int.toNat 3 = 3 := rfl
  have a4 : IntKind.i64.wrap (8 * 4) = 32 := by decide
  have b4 : IntKind.i64.wrap (56 - 32) = 24 := by decide
  have c4 : (2 : Int) ^ min (Int.toNat 24) 64 = 16777216 := by decide
  have d4 : IntKind.i64.wrap ((4 : Int) + 1) = 5 := by decide
  have e4 : Int.toNat 4 = 4 := rfl
  have a5 : IntKind.i64.wrap (8 * 5) = 40 := by decide
  have b5 : IntKind.i64.wrap (56 - 40) = 16 := by decide
  have c5 : (2 : Int) ^ min (Int.toNat 16) 64 = 65536 := by decide
  have d5 : IntKind.i64.wrap ((5 : Int) + 1) = 6 := by decide
  have e5 : Int.toNat 5 = 5 := rfl
  have a6 : IntKind.i64.wrap (8 * 6) = 48 := by decide
  have b6 : IntKind.i64.wrap (56 - 48) = 8 := by decide
  have c6 : (2 : Int) ^ min (Int.toNat 8) 64 = 256 := by decide
  have d6 : IntKind.i64.wrap ((6 : Int) + 1) = 7 := by decide
  have e6 : Int.toNat 6 = 6 := rfl
  have a7 : IntKind.i64.wrap (8 * 7) = 56 := by decide
  have b7 : IntKind.i64.wrap (56 - 56) = 0 := by decide
  have c7 : (2 : Int) ^ min 0 64 = 1 := by decide
  have tn8 : Int.toNat 8 = 8 := rfl
  have d7 : IntKind.i64.wrap ((7 : Int) + 1) = 8 := by decide
  have e7 : Int.toNat 7 = 7 := rfl
  refine meetsF Tryz.func23 rfl rfl Tryz.ntmps23 Tryz.results23 rfl ?_
  simp -dsimp -implicitDefEqProofs only [go_sem, ↓reduceIte, reduceCtorEq, Nat.reduceLT, Nat.reduceLeDiff, Nat.reduceEqDiff, Nat.reduceAdd, Nat.reduceMul, Nat.reduceSub, Nat.reduceBEq, Int.reduceLT, Int.reduceLE, Int.reduceEq, Int.reduceBEq, Int.reduceNeg]
  refine vrounds 9 sitOk ?_
  simp -dsimp -implicitDefEqProofs only [go_sem, ↓reduceIte, reduceCtorEq, Nat.reduceLT, Nat.reduceLeDiff, Nat.reduceEqDiff, Nat.reduceAdd, Nat.reduceMul, Nat.reduceSub, Nat.reduceBEq, Int.reduceLT, Int.reduceLE, Int.reduceEq, Int.reduceBEq, Int.reduceNeg]
  refine vround ?_
  simp -dsimp -implicitDefEqProofs only [a0, b0, c0, d0, e0, Option.map_some, go_sem, ↓reduceIte, reduceCtorEq, Nat.reduceLT, Nat.reduceLeDiff, Nat.reduceEqDiff, Nat.reduceAdd, Nat.reduceMul, Nat.reduceSub, Nat.reduceBEq, Int.reduceLT, Int.reduceLE, Int.reduceEq, Int.reduceBEq, Int.reduceNeg]
  refine vround ?_
  simp -dsimp -implicitDefEqProofs only [a1, b1, c1, d1, e1, Option.map_some, go_sem, ↓reduceIte, reduceCtorEq, Nat.reduceLT, Nat.reduceLeDiff, Nat.reduceEqDiff, Nat.reduceAdd, Nat.reduceMul, Nat.reduceSub, Nat.reduceBEq, Int.reduceLT, Int.reduceLE, Int.reduceEq, Int.reduceBEq, Int.reduceNeg]
  refine vround ?_
  simp -dsimp -implicitDefEqProofs only [a2, b2, c2, d2, e2, Option.map_some, go_sem, ↓reduceIte, reduceCtorEq, Nat.reduceLT, Nat.reduceLeDiff, Nat.reduceEqDiff, Nat.reduceAdd, Nat.reduceMul, Nat.reduceSub, Nat.reduceBEq, Int.reduceLT, Int.reduceLE, Int.reduceEq, Int.reduceBEq, Int.reduceNeg]
  refine vround ?_
  simp -dsimp -implicitDefEqProofs only [a3, b3, c3, d3, e3, Option.map_some, go_sem, ↓reduceIte, reduceCtorEq, Nat.reduceLT, Nat.reduceLeDiff, Nat.reduceEqDiff, Nat.reduceAdd, Nat.reduceMul, Nat.reduceSub, Nat.reduceBEq, Int.reduceLT, Int.reduceLE, Int.reduceEq, Int.reduceBEq, Int.reduceNeg]
  refine vround ?_
  simp -dsimp -implicitDefEqProofs only [a4, b4, c4, d4, e4, Option.map_some, go_sem, ↓reduceIte, reduceCtorEq, Nat.reduceLT, Nat.reduceLeDiff, Nat.reduceEqDiff, Nat.reduceAdd, Nat.reduceMul, Nat.reduceSub, Nat.reduceBEq, Int.reduceLT, Int.reduceLE, Int.reduceEq, Int.reduceBEq, Int.reduceNeg]
  refine vround ?_
  simp -dsimp -implicitDefEqProofs only [a5, b5, c5, d5, e5, Option.map_some, go_sem, ↓reduceIte, reduceCtorEq, Nat.reduceLT, Nat.reduceLeDiff, Nat.reduceEqDiff, Nat.reduceAdd, Nat.reduceMul, Nat.reduceSub, Nat.reduceBEq, Int.reduceLT, Int.reduceLE, Int.reduceEq, Int.reduceBEq, Int.reduceNeg]
  refine vround ?_
  simp -dsimp -implicitDefEqProofs only [a6, b6, c6, d6, e6, Option.map_some, go_sem, ↓reduceIte, reduceCtorEq, Nat.reduceLT, Nat.reduceLeDiff, Nat.reduceEqDiff, Nat.reduceAdd, Nat.reduceMul, Nat.reduceSub, Nat.reduceBEq, Int.reduceLT, Int.reduceLE, Int.reduceEq, Int.reduceBEq, Int.reduceNeg]
  refine vround ?_
  simp -dsimp -implicitDefEqProofs only [a7, b7, c7, d7, e7, Option.map_some, go_sem, ↓reduceIte, reduceCtorEq, Nat.reduceLT, Nat.reduceLeDiff, Nat.reduceEqDiff, Nat.reduceAdd, Nat.reduceMul, Nat.reduceSub, Nat.reduceBEq, Int.reduceLT, Int.reduceLE, Int.reduceEq, Int.reduceBEq, Int.reduceNeg]
  refine vround ?_
  simp -dsimp -implicitDefEqProofs only [tn8, go_sem, ↓reduceIte, reduceCtorEq, Nat.reduceLT, Nat.reduceLeDiff, Nat.reduceEqDiff, Nat.reduceAdd, Nat.reduceMul, Nat.reduceSub, Nat.reduceBEq, Int.reduceLT, Int.reduceLE, Int.reduceEq, Int.reduceBEq, Int.reduceNeg]
  refine vfor sitOk (ι := CzInv n) (fun v => ⟨32, [(5, aD (byD v.l)), (2, aP 0 0)], [(0, some (.var [cI 0, .nils 1, .nils 3] true))], 504⟩) (fun v => v.l.length) ⟨intL n, rfl, by simp [intL], by simp [intL]⟩ ?_ ?_
  · simp -dsimp -implicitDefEqProofs only [go_sem, ↓reduceIte, reduceCtorEq, Nat.reduceLT, Nat.reduceLeDiff, Nat.reduceEqDiff, Nat.reduceAdd, Nat.reduceMul, Nat.reduceSub, Nat.reduceBEq, Int.reduceLT, Int.reduceLE, Int.reduceEq, Int.reduceBEq, Int.reduceNeg]
    rfl
  intro ⟨l, ok, h0, h8⟩
  rcases l with _ | ⟨a, _ | ⟨b, r⟩⟩
  · simp at h0
  · have hcl := cloneB_ok (byR [a]) (by show 1 ≤ 1000000; omega)
    simp -dsimp -implicitDefEqProofs only [go_sem, ↓reduceIte, reduceCtorEq, Nat.reduceLT, Nat.reduceLeDiff, Nat.reduceEqDiff, Nat.reduceAdd, Nat.reduceMul, Nat.reduceSub, Nat.reduceBEq, Int.reduceLT, Int.reduceLE, Int.reduceEq, Int.reduceBEq, Int.reduceNeg]
    refine callP hcl ?_
    simp -dsimp -implicitDefEqProofs only [go_sem, ↓reduceIte, reduceCtorEq, Nat.reduceLT, Nat.reduceLeDiff, Nat.reduceEqDiff, Nat.reduceAdd, Nat.reduceMul, Nat.reduceSub, Nat.reduceBEq, Int.reduceLT, Int.reduceLE, Int.reduceEq, Int.reduceBEq, Int.reduceNeg]
    refine retF [576] ?_
    rw [cutZ_stop (.inl rfl)] at ok
    have hi : inI n = .mk 2 [a] [] := by unfold inI; rw [← ok]
    rw [hi]
    simp -dsimp -implicitDefEqProofs only [go_sem, ↓reduceIte, reduceCtorEq, Nat.reduceLT, Nat.reduceLeDiff, Nat.reduceEqDiff, Nat.reduceAdd, Nat.reduceMul, Nat.reduceSub, Nat.reduceBEq, Int.reduceLT, Int.reduceLE, Int.reduceEq, Int.reduceBEq, Int.reduceNeg]
    exact ⟨rfl, rfl, rfl⟩
  · have hle := least_ok (a :: b :: r) (by omega)
    have f1 : (1 < ((r.length + 1 + 1 : Nat) : Int)) = True := by simp; omega
    cases hb : leastB (a :: b :: r) with
    | true =>
      rw [hb] at hle
      simp -dsimp -implicitDefEqProofs only [f1, go_sem, ↓reduceIte, reduceCtorEq, Nat.reduceLT, Nat.reduceLeDiff, Nat.reduceEqDiff, Nat.reduceAdd, Nat.reduceMul, Nat.reduceSub, Nat.reduceBEq, Int.reduceLT, Int.reduceLE, Int.reduceEq, Int.reduceBEq, Int.reduceNeg]
      refine callP hle ?_
      simp -dsimp -implicitDefEqProofs only [go_sem, ↓reduceIte, reduceCtorEq, Nat.reduceLT, Nat.reduceLeDiff, Nat.reduceEqDiff, Nat.reduceAdd, Nat.reduceMul, Nat.reduceSub, Nat.reduceBEq, Int.reduceLT, Int.reduceLE, Int.reduceEq, Int.reduceBEq, Int.reduceNeg]
      have hcl := cloneB_ok (byR (a :: b :: r)) (by rw [List.length_map]; omega)
      refine callP hcl ?_
      simp -dsimp -implicitDefEqProofs only [go_sem, ↓reduceIte, reduceCtorEq, Nat.reduceLT, Nat.reduceLeDiff, Nat.reduceEqDiff, Nat.reduceAdd, Nat.reduceMul, Nat.reduceSub, Nat.reduceBEq, Int.reduceLT, Int.reduceLE, Int.reduceEq, Int.reduceBEq, Int.reduceNeg]
      refine retF [576] ?_
      rw [cutZ_stop (.inr hb)] at ok
      have hi : inI n = .mk 2 (a :: b :: r) [] := by unfold inI; rw [← ok]
      rw [hi]
      simp -dsimp -implicitDefEqProofs only [go_sem, ↓reduceIte, reduceCtorEq, Nat.reduceLT, Nat.reduceLeDiff, Nat.reduceEqDiff, Nat.reduceAdd, Nat.reduceMul, Nat.reduceSub, Nat.reduceBEq, Int.reduceLT, Int.reduceLE, Int.reduceEq, Int.reduceBEq, Int.reduceNeg]
      exact ⟨rfl, rfl, rfl⟩
    | false =>
      rw [hb] at hle
      simp -dsimp -implicitDefEqProofs only [f1, go_sem, ↓reduceIte, reduceCtorEq, Nat.reduceLT, Nat.reduceLeDiff, Nat.reduceEqDiff, Nat.reduceAdd, Nat.reduceMul, Nat.reduceSub, Nat.reduceBEq, Int.reduceLT, Int.reduceLE, Int.reduceEq, Int.reduceBEq, Int.reduceNeg]
      refine callP hle ?_
      simp -dsimp -implicitDefEqProofs only [tn1, go_sem, ↓reduceIte, reduceCtorEq, Nat.reduceLT, Nat.reduceLeDiff, Nat.reduceEqDiff, Nat.reduceAdd, Nat.reduceMul, Nat.reduceSub, Nat.reduceBEq, Int.reduceLT, Int.reduceLE, Int.reduceEq, Int.reduceBEq, Int.reduceNeg]
      have ok2 : cutZ (b :: r) = cutZ (intL n) := by rw [← ok, cutZ_cut hb]
      refine ⟨by omega, again ⟨b :: r, ok2, by simp, by simp at h8 ⊢; omega⟩ (by simp) ?_⟩
      simp -dsimp -implicitDefEqProofs only [go_sem, ↓reduceIte, reduceCtorEq, Nat.reduceLT, Nat.reduceLeDiff, Nat.reduceEqDiff, Nat.reduceAdd, Nat.reduceMul, Nat.reduceSub, Nat.reduceBEq, Int.reduceLT, Int.reduceLE, Int.reduceEq, Int.reduceBEq, Int.reduceNeg]
      exact List.take_of_length_le (by simp)
end Go.Proofs.YtijfncaphfaijaaGreatDoor
namespace Go.Proofs.YtijfncaphfaijaaGreatDoor
open Go.Eng
set_option linter.unusedSimpArgs false
set_option maxRecDepth 10000

theorem find48 : Meets Tryz.prog 111 [(false, [vI 48])] (rTup [(true, [vI 48, vD (.fn 290 [])]), (false, [vB true])]) := meets_run X0_ok 60 (by kernel_rfl)
theorem find2 : Meets Tryz.prog 111 [(false, [vI 2])] (rTup [(true, [vI 2, vD (.fn 69 [])]), (false, [vB true])]) := meets_run X0_ok 60 (by kernel_rfl)
theorem find12 : Meets Tryz.prog 111 [(false, [vI 12])] (rTup [(true, [vI 12, vD (.fn 287 [])]), (false, [vB true])]) := meets_run X0_ok 60 (by kernel_rfl)
theorem find1 : Meets Tryz.prog 111 [(false, [vI 1])] (rTup [(true, [vI 1, vD (.fn 285 [])]), (false, [vB true])]) := meets_run X0_ok 60 (by kernel_rfl)
theorem kind4_ok : Meets Tryz.prog 290 [(false, [vD (byD [])])] (rOne (vB true)) := meets_run X0_ok 60 (by kernel_rfl)
theorem kind1_ok0 : Meets Tryz.prog 285 [(false, [vD (byD [0])])] (rOne (vB true)) := meets_run X0_ok 60 (by kernel_rfl)
theorem kind1_ok255 : Meets Tryz.prog 285 [(false, [vD (byD [255])])] (rOne (vB true)) := meets_run X0_ok 60 (by kernel_rfl)
/-- Bytes that a text may have. -/
def PrB (l : List Int) : Prop := ∀ c ∈ l, 32 ≤ c ∧ c ≤ 126
structure IxInv (l : List Int) where
  i : Nat
  hi : i ≤ l.length
theorem prc_ok (c : Int) (h1 : 32 ≤ c) (h2 : c ≤ 126) : Meets Tryz.prog 289 [(false, [.d (.v (.int .u8 c))])] (rOne (vB false)) := by
  have c1 : (c < 32) = False := by simp; omega
  have c2 : ((126 : Int) < c) = False := by simp; omega
  refine meets Tryz.func289 rfl rfl Tryz.ntmps289 Tryz.results289 rfl ?_
  simp -dsimp -implicitDefEqProofs only [c1, c2, go_sem, ↓reduceIte, reduceCtorEq, Nat.reduceLT, Nat.reduceLeDiff, Nat.reduceEqDiff, Nat.reduceAdd, Nat.reduceMul, Nat.reduceSub, Nat.reduceBEq, Int.reduceLT, Int.reduceLE, Int.reduceEq, Int.reduceBEq, Int.reduceNeg]
theorem kind3_ok (l : List Int) (hl : l.length ≤ 1000000) (h : PrB l) : Meets Tryz.prog 287 [(false, [vD (byD l)])] (rOne (vB true)) := by
  refine meets Tryz.func287 rfl rfl Tryz.ntmps287 Tryz.results287 rfl ?_
  simp -dsimp -implicitDefEqProofs only [go_sem, ↓reduceIte, reduceCtorEq, Nat.reduceLT, Nat.reduceLeDiff, Nat.reduceEqDiff, Nat.reduceAdd, Nat.reduceMul, Nat.reduceSub, Nat.reduceBEq, Int.reduceLT, Int.reduceLE, Int.reduceEq, Int.reduceBEq, Int.reduceNeg]
  refine callW rfl Tryz.func288 rfl rfl Tryz.ntmps288 Tryz.results288 rfl ?_
  simp -dsimp -implicitDefEqProofs only [retH, go_sem, ↓reduceIte, reduceCtorEq, Nat.reduceLT, Nat.reduceLeDiff, Nat.reduceEqDiff, Nat.reduceAdd, Nat.reduceMul, Nat.reduceSub, Nat.reduceBEq, Int.reduceLT, Int.reduceLE, Int.reduceEq, Int.reduceBEq, Int.reduceNeg]
  refine callW rfl Tryz.func291 rfl rfl Tryz.ntmps291 Tryz.results291 rfl ?_
  simp -dsimp -implicitDefEqProofs only [retH, go_sem, ↓reduceIte, reduceCtorEq, Nat.reduceLT, Nat.reduceLeDiff, Nat.reduceEqDiff, Nat.reduceAdd, Nat.reduceMul, Nat.reduceSub, Nat.reduceBEq, Int.reduceLT, Int.reduceLE, Int.reduceEq, Int.reduceBEq, Int.reduceNeg]
  refine vfor sitOk (ι := IxInv l) (fun v => ⟨19, [(8, aI v.i), (7, aI l.length), (6, aD (byD l)), (0, aD (byD l)), (1, aD (.fn 289 []))], [], 72⟩) (fun v => l.length - v.i) ⟨0, by omega⟩ ?_ ?_
  · simp -dsimp -implicitDefEqProofs only [go_sem, ↓reduceIte, reduceCtorEq, Nat.reduceLT, Nat.reduceLeDiff, Nat.reduceEqDiff, Nat.reduceAdd, Nat.reduceMul, Nat.reduceSub, Nat.reduceBEq, Int.reduceLT, Int.reduceLE, Int.reduceEq, Int.reduceBEq, Int.reduceNeg]
  intro ⟨i, hi⟩
  by_cases hil : i < l.length
  · have c1 : ((i : Int) < (l.length : Int)) = True := by simp; omega
    obtain ⟨c, hc⟩ : ∃ c, l[i]? = some c := ⟨_, List.getElem?_eq_getElem hil⟩
    have w2 : IntKind.i64.wrap ((i : Int) + 1) = ((i + 1 : Nat) : Int) := by rw [wrap64] <;> omega
    obtain ⟨b1, b2⟩ := h c (List.mem_of_getElem? hc)
    have h1 := prc_ok c b1 b2
    simp -dsimp -implicitDefEqProofs only [c1, hc, forall_eq', w2, go_sem, ↓reduceIte, reduceCtorEq, Nat.reduceLT, Nat.reduceLeDiff, Nat.reduceEqDiff, Nat.reduceAdd, Nat.reduceMul, Nat.reduceSub, Nat.reduceBEq, Int.reduceLT, Int.reduceLE, Int.reduceEq, Int.reduceBEq, Int.reduceNeg]
    refine ⟨by omega, hil, callP h1 ?_⟩
    simp -dsimp -implicitDefEqProofs only [go_sem, ↓reduceIte, reduceCtorEq, Nat.reduceLT, Nat.reduceLeDiff, Nat.reduceEqDiff, Nat.reduceAdd, Nat.reduceMul, Nat.reduceSub, Nat.reduceBEq, Int.reduceLT, Int.reduceLE, Int.reduceEq, Int.reduceBEq, Int.reduceNeg]
    refine again ⟨i + 1, by omega⟩ (by simp; omega) ?_
    simp -dsimp -implicitDefEqProofs only [w2, go_sem, ↓reduceIte, reduceCtorEq, Nat.reduceLT, Nat.reduceLeDiff, Nat.reduceEqDiff, Nat.reduceAdd, Nat.reduceMul, Nat.reduceSub, Nat.reduceBEq, Int.reduceLT, Int.reduceLE, Int.reduceEq, Int.reduceBEq, Int.reduceNeg]
  · have c1 : ((i : Int) < (l.length : Int)) = False := by simp; omega
    simp -dsimp -implicitDefEqProofs only [c1, retH, go_sem, ↓reduceIte, reduceCtorEq, Nat.reduceLT, Nat.reduceLeDiff, Nat.reduceEqDiff, Nat.reduceAdd, Nat.reduceMul, Nat.reduceSub, Nat.reduceBEq, Int.reduceLT, Int.reduceLE, Int.reduceEq, Int.reduceBEq, Int.reduceNeg]
    trace_state
def kindOk (x : It) : Prop := (x.tag = 48 ∧ x.b = []) ∨ (x.l = [] ∧ ((x.tag = 2 ∧ leastB x.b = true) ∨ (x.tag = 12 ∧ PrB x.b) ∨ (x.tag = 1 ∧ (x.b = [0] ∨ x.b = [255]))))
/-- An item that may be, so deep at most. -/
def itOk : Nat → It → Prop
  | 0, _ => False
  | d + 1, x => kindOk x ∧ x.b.length ≤ 1000 ∧ x.l.length ≤ 1000 ∧ ∀ y ∈ x.l, itOk d y
theorem kind_ok {x : It} (h : kindOk x) (hl : x.b.length ≤ 1000) : ∃ g, Meets Tryz.prog 111 [(false, [vI x.tag])] (rTup [(true, [vI x.tag, vD (.fn g [])]), (false, [vB true])]) ∧ Meets Tryz.prog g [(false, [vD (byD x.b)])] (rOne (vB true)) := by
  rcases h with ⟨h1, h2⟩ | ⟨_, ⟨h1, h2⟩ | ⟨h1, h2⟩ | ⟨h1, h2⟩⟩
  · rw [h1, h2]; exact ⟨_, find48, kind4_ok⟩
  · rw [h1]
    refine ⟨_, find2, ?_⟩
    have := least_ok x.b (by omega)
    rwa [h2] at this
  · rw [h1]; exact ⟨_, find12, kind3_ok x.b (by omega) h2⟩
  · rw [h1]
    rcases h2 with h2 | h2 <;> rw [h2]
    · exact ⟨_, find1, kind1_ok0⟩
    · exact ⟨_, find1, kind1_ok255⟩
structure LxInv (l : List It) where
  i : Nat
  hi : i ≤ l.length
theorem may_ok : ∀ (d : Nat) (x : It), itOk d x → d ≤ 100 → Meets Tryz.prog 67 [(true, itV x), (false, [vI d])] (rOne (vB true))
  | 0, _, h, _ => h.elim
  | d + 1, x, ⟨hk, hb, hl, hall⟩, hd => by
    have ih := may_ok d
    obtain ⟨g, h1, h2⟩ := kind_ok hk hb
    have c1 : (((d + 1 : Nat) : Int) < 1) = False := by simp; omega
    have hcase : ((x.tag : Int) = 48) ∨ (x.l = []) := by rcases hk with ⟨h, _⟩ | ⟨h, _⟩; exact .inl (by omega); exact .inr h
    refine meets Tryz.func67 rfl rfl Tryz.ntmps67 Tryz.results67 rfl ?_
    simp -dsimp -implicitDefEqProofs only [go_sem, ↓reduceIte, reduceCtorEq, Nat.reduceLT, Nat.reduceLeDiff, Nat.reduceEqDiff, Nat.reduceAdd, Nat.reduceMul, Nat.reduceSub, Nat.reduceBEq, Int.reduceLT, Int.reduceLE, Int.reduceEq, Int.reduceBEq, Int.reduceNeg]
    refine callP h1 ?_
    simp -dsimp -implicitDefEqProofs only [c1, go_sem, ↓reduceIte, reduceCtorEq, Nat.reduceLT, Nat.reduceLeDiff, Nat.reduceEqDiff, Nat.reduceAdd, Nat.reduceMul, Nat.reduceSub, Nat.reduceBEq, Int.reduceLT, Int.reduceLE, Int.reduceEq, Int.reduceBEq, Int.reduceNeg]
    refine callP h2 ?_
    simp -dsimp -implicitDefEqProofs only [go_sem, ↓reduceIte, reduceCtorEq, Nat.reduceLT, Nat.reduceLeDiff, Nat.reduceEqDiff, Nat.reduceAdd, Nat.reduceMul, Nat.reduceSub, Nat.reduceBEq, Int.reduceLT, Int.reduceLE, Int.reduceEq, Int.reduceBEq, Int.reduceNeg]
    refine ⟨fun h48 => ⟨fun h => ?_, fun _ => ?_⟩, fun _ => ?_⟩
    · rcases hcase with h' | h'
      · exact h48 h'
      · rw [h'] at h; simp at h
    all_goals
    · refine callW rfl Tryz.func112 rfl rfl Tryz.ntmps112 Tryz.results112 rfl ?_
      simp -dsimp -implicitDefEqProofs only [retH, go_sem, ↓reduceIte, reduceCtorEq, Nat.reduceLT, Nat.reduceLeDiff, Nat.reduceEqDiff, Nat.reduceAdd, Nat.reduceMul, Nat.reduceSub, Nat.reduceBEq, Int.reduceLT, Int.reduceLE, Int.reduceEq, Int.reduceBEq, Int.reduceNeg]
      refine callW rfl Tryz.func169 rfl rfl Tryz.ntmps169 Tryz.results169 rfl ?_
      simp -dsimp -implicitDefEqProofs only [retH, go_sem, ↓reduceIte, reduceCtorEq, Nat.reduceLT, Nat.reduceLeDiff, Nat.reduceEqDiff, Nat.reduceAdd, Nat.reduceMul, Nat.reduceSub, Nat.reduceBEq, Int.reduceLT, Int.reduceLE, Int.reduceEq, Int.reduceBEq, Int.reduceNeg]
      refine vfor sitOk (ι := LxInv x.l) (fun v => ⟨19, [(8, aI v.i), (7, aI x.l.length), (6, aD (itL x.l)), (0, aD (itL x.l)), (1, .cs false [.clo 113 [.ptr 8 0]])],
        [(72, some (.var [cI x.tag, cD (.fn g [])] true)), (8, some (.var [cI ((d + 1 : Nat) : Int)] true)), (0, some (.var [cI x.tag, cD (byD x.b), cD (itL x.l)] true))], 376⟩) (fun v => x.l.length - v.i) ⟨0, by omega⟩ ?_ ?_
      · simp -dsimp -implicitDefEqProofs only [go_sem, ↓reduceIte, reduceCtorEq, Nat.reduceLT, Nat.reduceLeDiff, Nat.reduceEqDiff, Nat.reduceAdd, Nat.reduceMul, Nat.reduceSub, Nat.reduceBEq, Int.reduceLT, Int.reduceLE, Int.reduceEq, Int.reduceBEq, Int.reduceNeg]
      intro ⟨i, hi⟩
      by_cases hil : i < x.l.length
      · have c1 : ((i : Int) < (x.l.length : Int)) = True := by simp; omega
        obtain ⟨y, hy⟩ : ∃ y, x.l[i]? = some y := ⟨_, List.getElem?_eq_getElem hil⟩
        have w2 : IntKind.i64.wrap ((i : Int) + 1) = ((i + 1 : Nat) : Int) := by rw [wrap64] <;> omega
        have w3 : IntKind.i64.wrap (((d + 1 : Nat) : Int) - 1) = (d : Int) := by rw [wrap64] <;> omega
        have hrec := ih y (hall y (List.mem_of_getElem? hy)) (by omega)
        have hyc : itC y = [.v (.int .i64 (y.tag : Int)), byD y.b, itL y.l] := by cases y; exact itC_eq _ _ _
        simp -dsimp -implicitDefEqProofs only [c1, hy, forall_eq', hyc, go_sem, ↓reduceIte, reduceCtorEq, Nat.reduceLT, Nat.reduceLeDiff, Nat.reduceEqDiff, Nat.reduceAdd, Nat.reduceMul, Nat.reduceSub, Nat.reduceBEq, Int.reduceLT, Int.reduceLE, Int.reduceEq, Int.reduceBEq, Int.reduceNeg]
        refine ⟨by omega, hil, ?_⟩
        refine callW rfl Tryz.func113 rfl rfl Tryz.ntmps113 Tryz.results113 rfl ?_
        simp -dsimp -implicitDefEqProofs only [retH, w3, go_sem, ↓reduceIte, reduceCtorEq, Nat.reduceLT, Nat.reduceLeDiff, Nat.reduceEqDiff, Nat.reduceAdd, Nat.reduceMul, Nat.reduceSub, Nat.reduceBEq, Int.reduceLT, Int.reduceLE, Int.reduceEq, Int.reduceBEq, Int.reduceNeg]
        refine callP hrec ?_
        simp -dsimp -implicitDefEqProofs only [retH, go_sem, ↓reduceIte, reduceCtorEq, Nat.reduceLT, Nat.reduceLeDiff, Nat.reduceEqDiff, Nat.reduceAdd, Nat.reduceMul, Nat.reduceSub, Nat.reduceBEq, Int.reduceLT, Int.reduceLE, Int.reduceEq, Int.reduceBEq, Int.reduceNeg]
        refine again ⟨i + 1, by omega⟩ (by simp; omega) ?_
        simp -dsimp -implicitDefEqProofs only [w2, go_sem, ↓reduceIte, reduceCtorEq, Nat.reduceLT, Nat.reduceLeDiff, Nat.reduceEqDiff, Nat.reduceAdd, Nat.reduceMul, Nat.reduceSub, Nat.reduceBEq, Int.reduceLT, Int.reduceLE, Int.reduceEq, Int.reduceBEq, Int.reduceNeg]
      · have c1 : ((i : Int) < (x.l.length : Int)) = False := by simp; omega
        simp -dsimp -implicitDefEqProofs only [c1, retH, go_sem, ↓reduceIte, reduceCtorEq, Nat.reduceLT, Nat.reduceLeDiff, Nat.reduceEqDiff, Nat.reduceAdd, Nat.reduceMul, Nat.reduceSub, Nat.reduceBEq, Int.reduceLT, Int.reduceLE, Int.reduceEq, Int.reduceBEq, Int.reduceNeg]
        trace_state
end Go.Proofs.YtijfncaphfaijaaGreatDoor
namespace Go.Proofs.YtijfncaphfaijaaGreatDoor
open Go.Eng
set_option linter.unusedSimpArgs false
set_option maxRecDepth 10000

/-- The bytes of a length. -/
def lenB (n : Nat) : List Int := if n < 128 then [IntKind.u8.wrap n] else if n < 256 then [129, IntKind.u8.wrap n] else [130, IntKind.u8.wrap (Int.fdiv n 256), IntKind.u8.wrap n]
mutual
def enc : It → List Int
  | .mk t b l => IntKind.u8.wrap t :: (lenB (b ++ encs l).length ++ (b ++ encs l))
def encs : List It → List Int
  | [] => []
  | x :: r => enc x ++ encs r
end
def con (x : It) : List Int := x.b ++ encs x.l
theorem enc_eq (x : It) : enc x = IntKind.u8.wrap x.tag :: (lenB (con x).length ++ con x) := by cases x; rw [enc]; rfl
theorem encs_append : ∀ l m : List It, encs (l ++ m) = encs l ++ encs m
  | [], _ => rfl
  | x :: r, m => by rw [List.cons_append, encs, encs, encs_append r m, List.append_assoc]
theorem lenB_le (n : Nat) : (lenB n).length ≤ 3 := by
  unfold lenB
  split
  · simp
  · split <;> simp
theorem con_le (x : It) : (con x).length ≤ (enc x).length := by rw [enc_eq, List.length_cons, List.length_append]; omega
theorem encs_mem {x : It} : ∀ {l : List It}, x ∈ l → (enc x).length ≤ (encs l).length
  | y :: r, h => by
    rw [encs, List.length_append]
    rcases List.mem_cons.1 h with rfl | h
    · omega
    · have := encs_mem h; omega
theorem encs_take {l : List It} {i : Nat} : (encs (l.take i)).length ≤ (encs l).length := by
  have := encs_append (l.take i) (l.drop i)
  rw [List.take_append_drop] at this
  rw [this, List.length_append]; omega
/-- The head of an item put behind own bytes, then its content. -/
def PutC (x : It) : Prop := ∀ acc : List Int, acc.length ≤ 100000 → Meets Tryz.prog 68 [(false, [.own 1 5 (byR acc)]), (true, itV x)] (rOne (.own 1 5 (byR (acc ++ enc x))))
def ConC (x : It) : Prop := Meets Tryz.prog 114 [(true, itV x)] (rOne (.own 1 5 (byR (con x))))
theorem put_of (x : It) (hs : (enc x).length ≤ 8192) (h : ConC x) : PutC x := by
  intro acc hacc
  have hc := con_le x
  have he := enc_eq x
  refine meets Tryz.func68 rfl rfl Tryz.ntmps68 Tryz.results68 rfl ?_
  simp -dsimp -implicitDefEqProofs only [go_sem, ↓reduceIte, reduceCtorEq, Nat.reduceLT, Nat.reduceLeDiff, Nat.reduceEqDiff, Nat.reduceAdd, Nat.reduceMul, Nat.reduceSub, Nat.reduceBEq, Int.reduceLT, Int.reduceLE, Int.reduceEq, Int.reduceBEq, Int.reduceNeg]
  refine callP h ?_
  have e8 : (2 : Int) ^ min (Int.toNat 8) 64 = 256 := by decide
  have ht : ∀ m : List Int, byR acc ++ [[.v (.int .u8 (IntKind.u8.wrap (x.tag : Int)))]] ++ byR m ++ byR (con x) = byR (acc ++ IntKind.u8.wrap (x.tag : Int) :: (m ++ con x)) := fun m => by
    simp only [byR, List.map_append, List.map_cons, List.map_nil, List.append_assoc, List.cons_append, List.nil_append]
  rw [he]
  by_cases h1 : (con x).length < 128
  · have c1 : (((con x).length : Int) < 128) = True := by simp; omega
    rw [lenB, if_pos h1, ← ht]
    simp -dsimp -implicitDefEqProofs only [c1, go_sem, ↓reduceIte, reduceCtorEq, Nat.reduceLT, Nat.reduceLeDiff, Nat.reduceEqDiff, Nat.reduceAdd, Nat.reduceMul, Nat.reduceSub, Nat.reduceBEq, Int.reduceLT, Int.reduceLE, Int.reduceEq, Int.reduceBEq, Int.reduceNeg]
    simp only [List.length_append, List.length_map, List.length_cons, List.length_nil]
    refine ⟨⟨by omega, by omega⟩, ⟨by omega, by omega⟩, ⟨by omega, by omega⟩⟩
  · have c1 : (((con x).length : Int) < 128) = False := by simp; omega
    by_cases h2 : (con x).length < 256
    · have c2 : (((con x).length : Int) < 256) = True := by simp; omega
      rw [lenB, if_neg h1, if_pos h2, ← ht]
      simp -dsimp -implicitDefEqProofs only [c1, c2, go_sem, ↓reduceIte, reduceCtorEq, Nat.reduceLT, Nat.reduceLeDiff, Nat.reduceEqDiff, Nat.reduceAdd, Nat.reduceMul, Nat.reduceSub, Nat.reduceBEq, Int.reduceLT, Int.reduceLE, Int.reduceEq, Int.reduceBEq, Int.reduceNeg]
      simp only [List.length_append, List.length_map, List.length_cons, List.length_nil]
      refine ⟨⟨by omega, by omega⟩, ⟨by omega, by omega⟩, ⟨by omega, by omega⟩⟩
    · have c2 : (((con x).length : Int) < 256) = False := by simp; omega
      rw [lenB, if_neg h1, if_neg h2, ← ht]
      simp -dsimp -implicitDefEqProofs only [c1, c2, e8, go_sem, ↓reduceIte, reduceCtorEq, Nat.reduceLT, Nat.reduceLeDiff, Nat.reduceEqDiff, Nat.reduceAdd, Nat.reduceMul, Nat.reduceSub, Nat.reduceBEq, Int.reduceLT, Int.reduceLE, Int.reduceEq, Int.reduceBEq, Int.reduceNeg]
      simp only [List.length_append, List.length_map, List.length_cons, List.length_nil]
      refine ⟨⟨by omega, by omega⟩, ⟨by omega, by omega⟩, ⟨by omega, by omega⟩⟩
theorem content_of (x : It) (hs : (enc x).length ≤ 8192) (hl : x.l.length ≤ 1000) (h : ∀ y ∈ x.l, PutC y) : ConC x := by
  have hc := con_le x
  have hb : x.b.length ≤ (con x).length := by unfold con; rw [List.length_append]; omega
  have h1 := cloneB_ok (byR x.b) (by rw [List.length_map]; omega)
  show Meets _ _ _ _
  refine meets Tryz.func114 rfl rfl Tryz.ntmps114 Tryz.results114 rfl ?_
  simp -dsimp -implicitDefEqProofs only [go_sem, ↓reduceIte, reduceCtorEq, Nat.reduceLT, Nat.reduceLeDiff, Nat.reduceEqDiff, Nat.reduceAdd, Nat.reduceMul, Nat.reduceSub, Nat.reduceBEq, Int.reduceLT, Int.reduceLE, Int.reduceEq, Int.reduceBEq, Int.reduceNeg]
  refine callP h1 ?_
  simp -dsimp -implicitDefEqProofs only [go_sem, ↓reduceIte, reduceCtorEq, Nat.reduceLT, Nat.reduceLeDiff, Nat.reduceEqDiff, Nat.reduceAdd, Nat.reduceMul, Nat.reduceSub, Nat.reduceBEq, Int.reduceLT, Int.reduceLE, Int.reduceEq, Int.reduceBEq, Int.reduceNeg]
  refine vfor sitOk (ι := LxInv x.l) (fun v => ⟨21, [(12, aI v.i), (11, aI x.l.length), (10, aD (itL x.l)), (3, aO 32)], [(32, some (.row 1 5 (byR (x.b ++ encs (x.l.take v.i))) true)), (0, some (.var [cI x.tag, cD (byD x.b), cD (itL x.l)] true))], 80⟩) (fun v => x.l.length - v.i) ⟨0, by omega⟩ ?_ ?_
  · simp -dsimp -implicitDefEqProofs only [go_sem, ↓reduceIte, reduceCtorEq, Nat.reduceLT, Nat.reduceLeDiff, Nat.reduceEqDiff, Nat.reduceAdd, Nat.reduceMul, Nat.reduceSub, Nat.reduceBEq, Int.reduceLT, Int.reduceLE, Int.reduceEq, Int.reduceBEq, Int.reduceNeg]
    rw [encs, List.append_nil]
  intro ⟨i, hi⟩
  have htk := encs_take (l := x.l) (i := i)
  have hcl : (con x).length = x.b.length + (encs x.l).length := by unfold con; rw [List.length_append]
  by_cases hil : i < x.l.length
  · have c1 : ((i : Int) < (x.l.length : Int)) = True := by simp; omega
    obtain ⟨y, hy⟩ : ∃ y, x.l[i]? = some y := ⟨_, List.getElem?_eq_getElem hil⟩
    have w2 : IntKind.i64.wrap ((i : Int) + 1) = ((i + 1 : Nat) : Int) := by rw [wrap64] <;> omega
    have hyc : itC y = [.v (.int .i64 (y.tag : Int)), byD y.b, itL y.l] := by cases y; exact itC_eq _ _ _
    have hp := h y (List.mem_of_getElem? hy) (x.b ++ encs (x.l.take i)) (by rw [List.length_append]; omega)
    have ht : encs (x.l.take (i + 1)) = encs (x.l.take i) ++ enc y := by rw [List.take_add_one, hy, encs_append]; simp [encs]
    simp -dsimp -implicitDefEqProofs only [c1, hy, forall_eq', hyc, go_sem, ↓reduceIte, reduceCtorEq, Nat.reduceLT, Nat.reduceLeDiff, Nat.reduceEqDiff, Nat.reduceAdd, Nat.reduceMul, Nat.reduceSub, Nat.reduceBEq, Int.reduceLT, Int.reduceLE, Int.reduceEq, Int.reduceBEq, Int.reduceNeg]
    refine ⟨by omega, hil, callE [true] ?_⟩
    simp -dsimp -implicitDefEqProofs only [go_sem, ↓reduceIte, reduceCtorEq, Nat.reduceLT, Nat.reduceLeDiff, Nat.reduceEqDiff, Nat.reduceAdd, Nat.reduceMul, Nat.reduceSub, Nat.reduceBEq, Int.reduceLT, Int.reduceLE, Int.reduceEq, Int.reduceBEq, Int.reduceNeg]
    refine ⟨_, hp, ?_⟩
    simp -dsimp -implicitDefEqProofs only [go_sem, ↓reduceIte, reduceCtorEq, Nat.reduceLT, Nat.reduceLeDiff, Nat.reduceEqDiff, Nat.reduceAdd, Nat.reduceMul, Nat.reduceSub, Nat.reduceBEq, Int.reduceLT, Int.reduceLE, Int.reduceEq, Int.reduceBEq, Int.reduceNeg]
    refine againT 32 3 ⟨i + 1, by omega⟩ (by simp; omega) ?_
    simp -dsimp -implicitDefEqProofs only [w2, ht, List.append_assoc, go_sem, ↓reduceIte, reduceCtorEq, Nat.reduceLT, Nat.reduceLeDiff, Nat.reduceEqDiff, Nat.reduceAdd, Nat.reduceMul, Nat.reduceSub, Nat.reduceBEq, Int.reduceLT, Int.reduceLE, Int.reduceEq, Int.reduceBEq, Int.reduceNeg]
    trace_state
  · have c1 : ((i : Int) < (x.l.length : Int)) = False := by simp; omega
    obtain rfl : i = x.l.length := by omega
    simp -dsimp -implicitDefEqProofs only [c1, List.take_length, go_sem, ↓reduceIte, reduceCtorEq, Nat.reduceLT, Nat.reduceLeDiff, Nat.reduceEqDiff, Nat.reduceAdd, Nat.reduceMul, Nat.reduceSub, Nat.reduceBEq, Int.reduceLT, Int.reduceLE, Int.reduceEq, Int.reduceBEq, Int.reduceNeg]
    rfl
theorem cp_ok : ∀ (d : Nat) (x : It), itOk d x → (enc x).length ≤ 8192 → ConC x ∧ PutC x
  | 0, _, h, _ => h.elim
  | d + 1, x, ⟨_, _, hl, hall⟩, hs => by
    have hc := con_le x
    have hcl : (con x).length = x.b.length + (encs x.l).length := by unfold con; rw [List.length_append]
    have h1 := content_of x hs hl fun y hy => (cp_ok d y (hall y hy) (by have := encs_mem hy; omega)).2
    exact ⟨h1, put_of x hs h1⟩
theorem put8_ok (x : It) (h : itOk 8 x) (hs : (enc x).length ≤ 8192) : Meets Tryz.prog 22 [(true, itV x)] (rTup [(false, [vD (byD (enc x))]), (false, [vI 0])]) := by
  have h1 := may_ok 8 x h (by decide)
  have h2 := (cp_ok 8 x h hs).1
  have he := enc_eq x
  have hc := con_le x
  refine meetsF Tryz.func22 rfl rfl Tryz.ntmps22 Tryz.results22 rfl ?_
  simp -dsimp -implicitDefEqProofs only [go_sem, ↓reduceIte, reduceCtorEq, Nat.reduceLT, Nat.reduceLeDiff, Nat.reduceEqDiff, Nat.reduceAdd, Nat.reduceMul, Nat.reduceSub, Nat.reduceBEq, Int.reduceLT, Int.reduceLE, Int.reduceEq, Int.reduceBEq, Int.reduceNeg]
  refine callP h1 ?_
  simp -dsimp -implicitDefEqProofs only [go_sem, ↓reduceIte, reduceCtorEq, Nat.reduceLT, Nat.reduceLeDiff, Nat.reduceEqDiff, Nat.reduceAdd, Nat.reduceMul, Nat.reduceSub, Nat.reduceBEq, Int.reduceLT, Int.reduceLE, Int.reduceEq, Int.reduceBEq, Int.reduceNeg]
  refine callW rfl Tryz.func68 rfl rfl Tryz.ntmps68 Tryz.results68 rfl ?_
  simp -dsimp -implicitDefEqProofs only [retH, go_sem, ↓reduceIte, reduceCtorEq, Nat.reduceLT, Nat.reduceLeDiff, Nat.reduceEqDiff, Nat.reduceAdd, Nat.reduceMul, Nat.reduceSub, Nat.reduceBEq, Int.reduceLT, Int.reduceLE, Int.reduceEq, Int.reduceBEq, Int.reduceNeg]
  refine callP h2 ?_
  simp -dsimp -implicitDefEqProofs only [retH, go_sem, ↓reduceIte, reduceCtorEq, Nat.reduceLT, Nat.reduceLeDiff, Nat.reduceEqDiff, Nat.reduceAdd, Nat.reduceMul, Nat.reduceSub, Nat.reduceBEq, Int.reduceLT, Int.reduceLE, Int.reduceEq, Int.reduceBEq, Int.reduceNeg]
  have e8 : (2 : Int) ^ min (Int.toNat 8) 64 = 256 := by decide
  have hlen : (enc x).length = 1 + ((lenB (con x).length).length + (con x).length) := by rw [he, List.length_cons, List.length_append]; omega
  have fin : ∀ m : List Int, lenB (con x).length = m → byR (enc x) = [.v (.int .u8 (IntKind.u8.wrap (x.tag : Int)))] :: (byR m ++ byR (con x)) := fun m hm => by
    rw [he, hm]; simp only [byR, List.map_append, List.map_cons]
  by_cases g1 : (con x).length < 128
  · have c1 : (((con x).length : Int) < 128) = True := by simp; omega
    have c1' : ((128 : Int) ≤ ((con x).length : Int)) = False := by simp; omega
    have c3 : ((8192 : Int) < (((con x).length + 1 + 1 : Nat) : Int)) = False := by simp; omega
    have c3' : ((((con x).length + 1 + 1 : Nat) : Int) ≤ 8192) = True := by simp; omega
    have hf := fin _ (by rw [lenB, if_pos g1])
    simp -dsimp -implicitDefEqProofs only [c1, c1', c3, c3', go_sem, ↓reduceIte, reduceCtorEq, Nat.reduceLT, Nat.reduceLeDiff, Nat.reduceEqDiff, Nat.reduceAdd, Nat.reduceMul, Nat.reduceSub, Nat.reduceBEq, Int.reduceLT, Int.reduceLE, Int.reduceEq, Int.reduceBEq, Int.reduceNeg]
    refine ⟨⟨by omega, by omega⟩, retF [264] ?_⟩
    simp -dsimp -implicitDefEqProofs only [hf, List.map_cons, List.map_nil, go_sem, ↓reduceIte, reduceCtorEq, Nat.reduceLT, Nat.reduceLeDiff, Nat.reduceEqDiff, Nat.reduceAdd, Nat.reduceMul, Nat.reduceSub, Nat.reduceBEq, Int.reduceLT, Int.reduceLE, Int.reduceEq, Int.reduceBEq, Int.reduceNeg]
  · have c1 : (((con x).length : Int) < 128) = False := by simp; omega
    have c1' : ((128 : Int) ≤ ((con x).length : Int)) = True := by simp; omega
    by_cases g2 : (con x).length < 256
    · have c2 : (((con x).length : Int) < 256) = True := by simp; omega
      have c2' : ((256 : Int) ≤ ((con x).length : Int)) = False := by simp; omega
      have c3 : ((8192 : Int) < (((con x).length + 1 + 1 + 1 : Nat) : Int)) = False := by simp; omega
      have c3' : ((((con x).length + 1 + 1 + 1 : Nat) : Int) ≤ 8192) = True := by simp; omega
      have hf := fin _ (by rw [lenB, if_neg g1, if_pos g2])
      simp -dsimp -implicitDefEqProofs only [c1, c1', c2, c2', c3, c3', go_sem, ↓reduceIte, reduceCtorEq, Nat.reduceLT, Nat.reduceLeDiff, Nat.reduceEqDiff, Nat.reduceAdd, Nat.reduceMul, Nat.reduceSub, Nat.reduceBEq, Int.reduceLT, Int.reduceLE, Int.reduceEq, Int.reduceBEq, Int.reduceNeg]
      refine ⟨⟨by omega, by omega⟩, retF [288] ?_⟩
      simp -dsimp -implicitDefEqProofs only [hf, List.map_cons, List.map_nil, go_sem, ↓reduceIte, reduceCtorEq, Nat.reduceLT, Nat.reduceLeDiff, Nat.reduceEqDiff, Nat.reduceAdd, Nat.reduceMul, Nat.reduceSub, Nat.reduceBEq, Int.reduceLT, Int.reduceLE, Int.reduceEq, Int.reduceBEq, Int.reduceNeg]
    · have c2 : (((con x).length : Int) < 256) = False := by simp; omega
      have c2' : ((256 : Int) ≤ ((con x).length : Int)) = True := by simp; omega
      have hf := fin _ (by rw [lenB, if_neg g1, if_neg g2])
      rw [lenB, if_neg g1, if_neg g2] at hlen
      simp only [List.length_cons, List.length_nil] at hlen
      have c3 : ((8192 : Int) < (((con x).length + 1 + 1 + 1 + 1 : Nat) : Int)) = False := by simp; omega
      have c3' : ((((con x).length + 1 + 1 + 1 + 1 : Nat) : Int) ≤ 8192) = True := by simp; omega
      simp -dsimp -implicitDefEqProofs only [c1, c1', c2, c2', c3, c3', e8, go_sem, ↓reduceIte, reduceCtorEq, Nat.reduceLT, Nat.reduceLeDiff, Nat.reduceEqDiff, Nat.reduceAdd, Nat.reduceMul, Nat.reduceSub, Nat.reduceBEq, Int.reduceLT, Int.reduceLE, Int.reduceEq, Int.reduceBEq, Int.reduceNeg]
      refine ⟨⟨by omega, by omega⟩, retF [312] ?_⟩
      simp -dsimp -implicitDefEqProofs only [hf, List.map_cons, List.map_nil, go_sem, ↓reduceIte, reduceCtorEq, Nat.reduceLT, Nat.reduceLeDiff, Nat.reduceEqDiff, Nat.reduceAdd, Nat.reduceMul, Nat.reduceSub, Nat.reduceBEq, Int.reduceLT, Int.reduceLE, Int.reduceEq, Int.reduceBEq, Int.reduceNeg]
end Go.Proofs.YtijfncaphfaijaaGreatDoor
