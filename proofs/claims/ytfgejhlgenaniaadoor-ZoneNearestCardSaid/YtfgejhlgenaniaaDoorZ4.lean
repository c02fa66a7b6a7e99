/- The contracts of the document's answer on names. -/
import Derived.Test.YtfgejhlgenaniaaDoorZ3
namespace Go.Proofs.YtfgejhlgenaniaaDoor
open Go.Eng
set_option linter.unusedSimpArgs false
set_option maxRecDepth 10000

structure RlInv (l : Bs) where
  i : Nat
  lo : 1 ≤ i
  le : i ≤ l.length
  ok : ∀ j, 1 ≤ j → j < i → okAt l j = true

theorem rlabel_ok (l : Bs) : Meets Tryd.prog 83 [(false, [vS l])] (rOne (vB (labelB l))) := by
  by_cases hn0 : l.length < 1
  · have h0 : (l.length : Int) < 1 := by omega
    have hl : labelB l = false := by unfold labelB; simp [show ¬ 1 ≤ l.length by omega]
    refine meets Tryd.func83 rfl rfl Tryd.ntmps83 Tryd.results83 rfl ?_
    simp -dsimp -implicitDefEqProofs only [h0, hl, go_sem, ↓reduceIte, reduceCtorEq, Nat.reduceLT, Nat.reduceLeDiff, Nat.reduceEqDiff, Nat.reduceAdd, Nat.reduceMul, Nat.reduceSub, Nat.reduceBEq, Int.reduceLT, Int.reduceLE, Int.reduceEq, Int.reduceBEq, Int.reduceNeg]
  by_cases hn16 : 16 < l.length
  · have h0 : ¬ (l.length : Int) < 1 := by omega
    have h1 : (16 : Int) < (l.length : Int) := by omega
    have hl : labelB l = false := by unfold labelB; simp [show ¬ l.length ≤ 16 by omega]
    refine meets Tryd.func83 rfl rfl Tryd.ntmps83 Tryd.results83 rfl ?_
    simp -dsimp -implicitDefEqProofs only [h0, h1, hl, go_sem, ↓reduceIte, reduceCtorEq, Nat.reduceLT, Nat.reduceLeDiff, Nat.reduceEqDiff, Nat.reduceAdd, Nat.reduceMul, Nat.reduceSub, Nat.reduceBEq, Int.reduceLT, Int.reduceLE, Int.reduceEq, Int.reduceBEq, Int.reduceNeg]
  have h0 : ¬ (l.length : Int) < 1 := by omega
  have h1 : ¬ (16 : Int) < (l.length : Int) := by omega
  have hw : IntKind.i64.wrap ((l.length : Int) - 1) = ((l.length - 1 : Nat) : Int) := by rw [wrap64] <;> omega
  obtain ⟨z, hz⟩ : ∃ z, l[l.length - 1]? = some z := ⟨_, List.getElem?_eq_getElem (by omega)⟩
  obtain ⟨y, hy⟩ : ∃ y, l[0]? = some y := ⟨_, List.getElem?_eq_getElem (by omega)⟩
  have hlt : l.length - 1 < l.length := by omega
  have h0l : 0 < l.length := by omega
  have hatz := okAt_lt hz
  have haty := okAt_lt hy
  rw [if_pos (by omega)] at hatz
  have h95 : (y == 95) = decide ((y.toNat : Int) = 95) := u8_is y 95
  rw [h95] at haty
  have hzy : l.length = 1 → edgeB y = edgeB z := fun e => by
    rw [e] at hz; rw [hz] at hy; cases hy; rfl
  refine meets Tryd.func83 rfl rfl Tryd.ntmps83 Tryd.results83 rfl ?_
  simp -dsimp -implicitDefEqProofs only [h0, h1, hw, hz, hy, forall_eq', hlt, h0l, go_sem, ↓reduceIte, reduceCtorEq, Nat.reduceLT, Nat.reduceLeDiff, Nat.reduceEqDiff, Nat.reduceAdd, Nat.reduceMul, Nat.reduceSub, Nat.reduceBEq, Int.reduceLT, Int.reduceLE, Int.reduceEq, Int.reduceBEq, Int.reduceNeg]
  repeat' (first | with_reducible apply And.intro | with_reducible intro _ | with_reducible exact drawn (by kernel_rfl) | (refine callP (rword_ok _) ?_; simp -dsimp -implicitDefEqProofs only [h0, h1, hw, hz, hy, forall_eq', hlt, h0l, go_sem, ↓reduceIte, reduceCtorEq, Nat.reduceLT, Nat.reduceLeDiff, Nat.reduceEqDiff, Nat.reduceAdd, Nat.reduceMul, Nat.reduceSub, Nat.reduceBEq, Int.reduceLT, Int.reduceLE, Int.reduceEq, Int.reduceBEq, Int.reduceNeg]) | omega)
  all_goals first
    | (with_reducible refine (labelB_bad hlt ?_).symm; rw [hatz]; assumption)
    | (with_reducible refine (labelB_bad h0l ?_).symm; rw [haty]; split <;> simp [*]; done)
    | skip
  all_goals
    have hy0 : okAt l 0 = true := by
      rw [haty]
      split
      · rename_i e; rw [hzy e.symm]; assumption
      · simp [*]
    refine vfor sitOk (ι := RlInv l) (fun v => ⟨48, [(4, aI v.i), (3, aI l.length), (0, aS l)], [], 240⟩) (fun v => l.length - v.i) ⟨1, by omega, by omega, fun j _ _ => by omega⟩ ?_ ?_
    · simp -dsimp -implicitDefEqProofs only [go_sem, ↓reduceIte, reduceCtorEq, Nat.reduceLT, Nat.reduceLeDiff, Nat.reduceEqDiff, Nat.reduceAdd, Nat.reduceMul, Nat.reduceSub, Nat.reduceBEq, Int.reduceLT, Int.reduceLE, Int.reduceEq, Int.reduceBEq, Int.reduceNeg]
    intro ⟨i, hlo, hi, hok⟩
    simp -dsimp -implicitDefEqProofs only [go_sem, ↓reduceIte, reduceCtorEq, Nat.reduceLT, Nat.reduceLeDiff, Nat.reduceEqDiff, Nat.reduceAdd, Nat.reduceMul, Nat.reduceSub, Nat.reduceBEq, Int.reduceLT, Int.reduceLE, Int.reduceEq, Int.reduceBEq, Int.reduceNeg]
    refine ⟨fun hil => ⟨by omega, by omega, fun x hx => callP (rword_ok x) ?_⟩, fun hge => ?_⟩
    · have hil' : i < l.length := by omega
      have hat := okAt_lt hx
      have h45 : (x == 45) = decide ((x.toNat : Int) = 45) := u8_is x 45
      have hlast : i + 1 = l.length → edgeB x = true := fun e => by
        have : l[l.length - 1]? = some x := by rw [← e, Nat.add_sub_cancel]; exact hx
        rw [hz] at this; cases this; assumption
      have hw2 := wrapS hil' (by omega)
      rw [h45, if_neg (show ¬ i = 0 by omega)] at hat
      have bad : edgeB x = false → ¬ (x.toNat : Int) = 45 → false = labelB l := fun e1 e2 => (labelB_bad hil' (by rw [hat, e1]; simp [e2])).symm
      have good : edgeB x = true ∨ (x.toNat : Int) = 45 → okAt l i = true := fun e => by
        rw [hat]
        split
        · exact hlast (by assumption)
        · rcases e with e | e <;> simp [e]
      simp -dsimp -implicitDefEqProofs only [hx, forall_eq', hw2, go_sem, ↓reduceIte, reduceCtorEq, Nat.reduceLT, Nat.reduceLeDiff, Nat.reduceEqDiff, Nat.reduceAdd, Nat.reduceMul, Nat.reduceSub, Nat.reduceBEq, Int.reduceLT, Int.reduceLE, Int.reduceEq, Int.reduceBEq, Int.reduceNeg]
      repeat' (first | with_reducible apply And.intro | with_reducible intro _ | with_reducible exact drawn (by kernel_rfl) | omega)
      all_goals first
        | (with_reducible refine bad ?_ ?_ <;> assumption)
        | (refine again ⟨i + 1, by omega, by omega, fun j h1 h2 => by
            by_cases hj : j = i
            · subst hj; exact good (by simp [*])
            · exact hok j h1 (by omega)⟩ (by simp; omega) ?_
           simp -dsimp -implicitDefEqProofs only [go_sem, ↓reduceIte, reduceCtorEq, Nat.reduceLT, Nat.reduceLeDiff, Nat.reduceEqDiff, Nat.reduceAdd, Nat.reduceMul, Nat.reduceSub, Nat.reduceBEq, Int.reduceLT, Int.reduceLE, Int.reduceEq, Int.reduceBEq, Int.reduceNeg]; done)
        | trace_state
    · refine (labelB_good (by intro e; subst e; simp at hn0) (by omega) fun j hj => ?_).symm
      by_cases hj0 : j = 0
      · subst hj0; exact hy0
      · exact hok j (by omega) (by omega)

def strD (x : Bs) : List D := [dT x]
attribute [go_sem] strD
structure RcInv (l : Bs) where
  i : Nat
  fr : Nat
  out : List Bs
  fi : fr ≤ i
  le : i ≤ l.length
  no : 46 ∉ (l.drop fr).take (i - fr)
  eq : splitB l = out ++ splitB (l.drop fr)
  len : out.length ≤ i

theorem take_drop_eq {l : Bs} {i fr : Nat} (h : fr ≤ i) : (l.take i).drop fr = (l.drop fr).take (i - fr) := by
  rw [List.drop_take]

theorem rcut_ok (l : Bs) (hl : l.length ≤ 1000000) : Meets Tryd.prog 82 [(false, [vS l])] (rOne (.own 1 9 ((splitB l).map strD))) := by
  refine meets Tryd.func82 rfl rfl Tryd.ntmps82 Tryd.results82 rfl ?_
  simp -dsimp -implicitDefEqProofs only [go_sem, ↓reduceIte, reduceCtorEq, Nat.reduceLT, Nat.reduceLeDiff, Nat.reduceEqDiff, Nat.reduceAdd, Nat.reduceMul, Nat.reduceSub, Nat.reduceBEq, Int.reduceLT, Int.reduceLE, Int.reduceEq, Int.reduceBEq, Int.reduceNeg]
  refine vownE 3 9 rfl ?_
  refine vforT sitOk 400 3 (ι := RcInv l) (fun v => ⟨31, [(5, aI v.i), (4, aI v.fr), (3, aO 400), (0, aS l)], [(400, some (.row 1 9 (v.out.map strD) true))], 401⟩) (fun v => l.length - v.i) ⟨0, 0, [], by omega, by omega, by simp, by simp, by simp⟩ ?_ ?_
  · simp -dsimp -implicitDefEqProofs only [go_sem, ↓reduceIte, reduceCtorEq, Nat.reduceLT, Nat.reduceLeDiff, Nat.reduceEqDiff, Nat.reduceAdd, Nat.reduceMul, Nat.reduceSub, Nat.reduceBEq, Int.reduceLT, Int.reduceLE, Int.reduceEq, Int.reduceBEq, Int.reduceNeg]
  intro ⟨i, fr, out, hfi, hi, hno, heq, hlen⟩
  simp -dsimp -implicitDefEqProofs only [go_sem, ↓reduceIte, reduceCtorEq, Nat.reduceLT, Nat.reduceLeDiff, Nat.reduceEqDiff, Nat.reduceAdd, Nat.reduceMul, Nat.reduceSub, Nat.reduceBEq, Int.reduceLT, Int.reduceLE, Int.reduceEq, Int.reduceBEq, Int.reduceNeg]
  refine ⟨fun hlt => ?_, fun hge => ?_⟩
  · have hil : i < l.length := by omega
    obtain ⟨c, hc⟩ : ∃ c, l[i]? = some c := ⟨_, List.getElem?_eq_getElem hil⟩
    have hw := wrapS hil (by omega)
    have h46 : ((c.toNat : Int) = 46) = (c = 46) := by
      have := u8_is c 46
      rw [Bool.eq_iff_iff] at this
      simp only [beq_iff_eq, decide_eq_true_eq] at this
      rw [eq_iff_iff]; exact this.symm
    have htd := take_drop_eq (l := l) hfi
    have hstep : (l.drop fr).take (i + 1 - fr) = (l.drop fr).take (i - fr) ++ [c] := by
      rw [show i + 1 - fr = (i - fr) + 1 by omega, List.take_add_one, List.getElem?_drop, show fr + (i - fr) = i by omega, hc]; rfl
    simp -dsimp -implicitDefEqProofs only [hc, forall_eq', hw, h46, htd, go_sem, ↓reduceIte, reduceCtorEq, Nat.reduceLT, Nat.reduceLeDiff, Nat.reduceEqDiff, Nat.reduceAdd, Nat.reduceMul, Nat.reduceSub, Nat.reduceBEq, Int.reduceLT, Int.reduceLE, Int.reduceEq, Int.reduceBEq, Int.reduceNeg]
    refine ⟨by omega, hil, fun h => ⟨by omega, by omega, ?_⟩, fun h => ?_⟩
    · have hpc : l.drop fr = (l.drop fr).take (i - fr) ++ 46 :: l.drop (i + 1) := by
        have h1 := (List.take_append_drop (i - fr) (l.drop fr)).symm
        rw [List.drop_drop, show fr + (i - fr) = i by omega, drop_at hc, h] at h1
        exact h1
      refine againT 400 3 ⟨i + 1, i + 1, out ++ [(l.drop fr).take (i - fr)], by omega, by omega, by simp, ?_, by simp; omega⟩ (by simp; omega) ?_
      · have h2 : splitB (l.drop fr) = (l.drop fr).take (i - fr) :: splitB (l.drop (i + 1)) := by
          conv => lhs; rw [hpc]
          exact splitB_dot hno
        rw [heq, h2]; simp
      · simp -dsimp -implicitDefEqProofs only [List.map_append, List.map_cons, List.map_nil, go_sem, ↓reduceIte, reduceCtorEq, Nat.reduceLT, Nat.reduceLeDiff, Nat.reduceEqDiff, Nat.reduceAdd, Nat.reduceMul, Nat.reduceSub, Nat.reduceBEq, Int.reduceLT, Int.reduceLE, Int.reduceEq, Int.reduceBEq, Int.reduceNeg]
    · refine againT 400 3 ⟨i + 1, fr, out, by omega, by omega, by rw [hstep]; simp [hno, Ne.symm h], heq, by omega⟩ (by simp; omega) ?_
      simp -dsimp -implicitDefEqProofs only [go_sem, ↓reduceIte, reduceCtorEq, Nat.reduceLT, Nat.reduceLeDiff, Nat.reduceEqDiff, Nat.reduceAdd, Nat.reduceMul, Nat.reduceSub, Nat.reduceBEq, Int.reduceLT, Int.reduceLE, Int.reduceEq, Int.reduceBEq, Int.reduceNeg]
  · have hil : i = l.length := by omega
    subst hil
    have h1 : (l.drop fr).take (l.length - fr) = l.drop fr := List.take_of_length_le (by simp)
    rw [h1] at hno
    refine ⟨by omega, by omega, ?_⟩
    rw [heq, splitB_none hno]; simp [strD]

structure RnInv (ps : List Bs) where
  i : Nat
  le : i ≤ ps.length
  ok : ∀ x ∈ ps.take i, labelB x = true
theorem rName_ok (l : Bs) : Meets Tryd.prog 68 [(false, [vS l])] (rOne (vB (isName l))) := by
  refine meets Tryd.func68 rfl rfl Tryd.ntmps68 Tryd.results68 rfl ?_
  simp -dsimp -implicitDefEqProofs only [go_sem, ↓reduceIte, reduceCtorEq, Nat.reduceLT, Nat.reduceLeDiff, Nat.reduceEqDiff, Nat.reduceAdd, Nat.reduceMul, Nat.reduceSub, Nat.reduceBEq, Int.reduceLT, Int.reduceLE, Int.reduceEq, Int.reduceBEq, Int.reduceNeg]
  refine ⟨fun h => by unfold isName; rw [show decide (l.length ≤ 64) = false by simp; omega]; simp, fun h => callP (rcut_ok l (by omega)) ?_⟩
  have hcl := splitB_length l
  have hcc : l.count 46 ≤ l.length := List.count_le_length ..
  simp -dsimp -implicitDefEqProofs only [go_sem, ↓reduceIte, reduceCtorEq, Nat.reduceLT, Nat.reduceLeDiff, Nat.reduceEqDiff, Nat.reduceAdd, Nat.reduceMul, Nat.reduceSub, Nat.reduceBEq, Int.reduceLT, Int.reduceLE, Int.reduceEq, Int.reduceBEq, Int.reduceNeg]
  obtain ⟨ps, hps⟩ : ∃ ps, ps = splitB l := ⟨_, rfl⟩
  have hname : isName l = (decide (ps.length ≤ 8) && ps.all labelB) := by rw [hps]; unfold isName; rw [show decide (l.length ≤ 64) = true by simp; omega]; simp
  rw [← hps] at hcl
  rw [← hps, hname]
  refine vfor sitOk (ι := RnInv ps) (fun v => ⟨25, [(4, aI v.i), (3, aO 40)], [(40, some (.row 1 9 (ps.map strD) true))], 64⟩) (fun v => ps.length - v.i) ⟨0, by omega, by simp⟩ ?_ ?_
  · simp -dsimp -implicitDefEqProofs only [go_sem, ↓reduceIte, reduceCtorEq, Nat.reduceLT, Nat.reduceLeDiff, Nat.reduceEqDiff, Nat.reduceAdd, Nat.reduceMul, Nat.reduceSub, Nat.reduceBEq, Int.reduceLT, Int.reduceLE, Int.reduceEq, Int.reduceBEq, Int.reduceNeg]
  intro ⟨i, hi, hok⟩
  simp -dsimp -implicitDefEqProofs only [go_sem, ↓reduceIte, reduceCtorEq, Nat.reduceLT, Nat.reduceLeDiff, Nat.reduceEqDiff, Nat.reduceAdd, Nat.reduceMul, Nat.reduceSub, Nat.reduceBEq, Int.reduceLT, Int.reduceLE, Int.reduceEq, Int.reduceBEq, Int.reduceNeg]
  refine ⟨fun hlt => ?_, fun hge => ?_⟩
  · have hil : i < ps.length := by omega
    obtain ⟨x, hx⟩ : ∃ x, ps[i]? = some x := ⟨_, List.getElem?_eq_getElem hil⟩
    have hw := wrapS hil (by omega)
    have hmem := List.mem_of_getElem? hx
    simp -dsimp -implicitDefEqProofs only [hx, forall_eq', hw, List.getElem?_map, go_sem, ↓reduceIte, reduceCtorEq, Nat.reduceLT, Nat.reduceLeDiff, Nat.reduceEqDiff, Nat.reduceAdd, Nat.reduceMul, Nat.reduceSub, Nat.reduceBEq, Int.reduceLT, Int.reduceLE, Int.reduceEq, Int.reduceBEq, Int.reduceNeg]
    refine ⟨by omega, hil, callP (rlabel_ok x) ?_⟩
    simp -dsimp -implicitDefEqProofs only [hx, forall_eq', hw, go_sem, ↓reduceIte, reduceCtorEq, Nat.reduceLT, Nat.reduceLeDiff, Nat.reduceEqDiff, Nat.reduceAdd, Nat.reduceMul, Nat.reduceSub, Nat.reduceBEq, Int.reduceLT, Int.reduceLE, Int.reduceEq, Int.reduceBEq, Int.reduceNeg]
    refine ⟨fun h2 => ?_, fun h2 => ?_⟩
    · symm
      rw [Bool.and_eq_false_iff]
      right
      rw [Bool.eq_false_iff]
      intro hh
      rw [List.all_eq_true] at hh
      rw [hh x hmem] at h2; cases h2
    · refine again ⟨i + 1, by omega, fun y hy => ?_⟩ (by simp; omega) ?_
      · rw [List.take_add_one, hx] at hy
        rcases List.mem_append.1 hy with hy | hy
        · exact hok y hy
        · simp at hy; rw [hy]; exact h2
      · simp -dsimp -implicitDefEqProofs only [go_sem, ↓reduceIte, reduceCtorEq, Nat.reduceLT, Nat.reduceLeDiff, Nat.reduceEqDiff, Nat.reduceAdd, Nat.reduceMul, Nat.reduceSub, Nat.reduceBEq, Int.reduceLT, Int.reduceLE, Int.reduceEq, Int.reduceBEq, Int.reduceNeg]
  · have hil : i = ps.length := by omega
    subst hil
    rw [List.take_length] at hok
    rw [List.all_eq_true.2 hok, Bool.and_true]
    rw [decide_eq_decide]; omega
theorem rcheckN_ok (l : Bs) : Meets Tryd.prog 67 [(false, [vS l])] (rOne (vI (if isName l then 0 else 110))) := by
  refine meets Tryd.func67 rfl rfl Tryd.ntmps67 Tryd.results67 rfl ?_
  simp -dsimp -implicitDefEqProofs only [go_sem, ↓reduceIte, reduceCtorEq, Nat.reduceLT, Nat.reduceLeDiff, Nat.reduceEqDiff, Nat.reduceAdd, Nat.reduceMul, Nat.reduceSub, Nat.reduceBEq, Int.reduceLT, Int.reduceLE, Int.reduceEq, Int.reduceBEq, Int.reduceNeg]
  refine callP (rName_ok l) ?_
  simp -dsimp -implicitDefEqProofs only [go_sem, ↓reduceIte, reduceCtorEq, Nat.reduceLT, Nat.reduceLeDiff, Nat.reduceEqDiff, Nat.reduceAdd, Nat.reduceMul, Nat.reduceSub, Nat.reduceBEq, Int.reduceLT, Int.reduceLE, Int.reduceEq, Int.reduceBEq, Int.reduceNeg]
  cases isName l <;> simp -dsimp -implicitDefEqProofs only [go_sem, ↓reduceIte, reduceCtorEq, Nat.reduceLT, Nat.reduceLeDiff, Nat.reduceEqDiff, Nat.reduceAdd, Nat.reduceMul, Nat.reduceSub, Nat.reduceBEq, Int.reduceLT, Int.reduceLE, Int.reduceEq, Int.reduceBEq, Int.reduceNeg]

structure RuInv (l : Bs) where
  i : Nat
  le : i ≤ l.length
  no : 46 ∉ l.take i
theorem u8_46 (c : UInt8) : ((c.toNat : Int) = 46) = (c = 46) := by
  have := u8_is c 46
  rw [Bool.eq_iff_iff] at this
  simp only [beq_iff_eq, decide_eq_true_eq] at this
  rw [eq_iff_iff]; exact this.symm
theorem rup_ok (l : Bs) : Meets Tryd.prog 70 [(false, [vS l])] (rOne (vS (upB l))) := by
  refine meets Tryd.func70 rfl rfl Tryd.ntmps70 Tryd.results70 rfl ?_
  simp -dsimp -implicitDefEqProofs only [go_sem, ↓reduceIte, reduceCtorEq, Nat.reduceLT, Nat.reduceLeDiff, Nat.reduceEqDiff, Nat.reduceAdd, Nat.reduceMul, Nat.reduceSub, Nat.reduceBEq, Int.reduceLT, Int.reduceLE, Int.reduceEq, Int.reduceBEq, Int.reduceNeg]
  refine callP (rName_ok l) ?_
  cases hn : isName l with
  | false => simp -dsimp -implicitDefEqProofs only [hn, upB, Bool.false_eq_true, go_sem, ↓reduceIte, reduceCtorEq, Nat.reduceLT, Nat.reduceLeDiff, Nat.reduceEqDiff, Nat.reduceAdd, Nat.reduceMul, Nat.reduceSub, Nat.reduceBEq, Int.reduceLT, Int.reduceLE, Int.reduceEq, Int.reduceBEq, Int.reduceNeg]
  | true =>
    have hlen := isName_len hn
    have hup : upB l = afterDot l := by unfold upB; rw [if_pos hn]
    rw [hup]
    simp -dsimp -implicitDefEqProofs only [hn, go_sem, ↓reduceIte, reduceCtorEq, Nat.reduceLT, Nat.reduceLeDiff, Nat.reduceEqDiff, Nat.reduceAdd, Nat.reduceMul, Nat.reduceSub, Nat.reduceBEq, Int.reduceLT, Int.reduceLE, Int.reduceEq, Int.reduceBEq, Int.reduceNeg]
    refine vfor sitOk (ι := RuInv l) (fun v => ⟨21, [(3, aI v.i), (0, aS l)], [], 40⟩) (fun v => l.length - v.i) ⟨0, by omega, by simp⟩ ?_ ?_
    · simp -dsimp -implicitDefEqProofs only [go_sem, ↓reduceIte, reduceCtorEq, Nat.reduceLT, Nat.reduceLeDiff, Nat.reduceEqDiff, Nat.reduceAdd, Nat.reduceMul, Nat.reduceSub, Nat.reduceBEq, Int.reduceLT, Int.reduceLE, Int.reduceEq, Int.reduceBEq, Int.reduceNeg]
    intro ⟨i, hi, hno⟩
    simp -dsimp -implicitDefEqProofs only [go_sem, ↓reduceIte, reduceCtorEq, Nat.reduceLT, Nat.reduceLeDiff, Nat.reduceEqDiff, Nat.reduceAdd, Nat.reduceMul, Nat.reduceSub, Nat.reduceBEq, Int.reduceLT, Int.reduceLE, Int.reduceEq, Int.reduceBEq, Int.reduceNeg]
    refine ⟨fun hlt => ?_, fun hge => ?_⟩
    · have hil : i < l.length := by omega
      obtain ⟨c, hc⟩ : ∃ c, l[i]? = some c := ⟨_, List.getElem?_eq_getElem hil⟩
      have hw := wrapS hil (by omega)
      have h46 := u8_46 c
      simp -dsimp -implicitDefEqProofs only [hc, forall_eq', hw, h46, go_sem, ↓reduceIte, reduceCtorEq, Nat.reduceLT, Nat.reduceLeDiff, Nat.reduceEqDiff, Nat.reduceAdd, Nat.reduceMul, Nat.reduceSub, Nat.reduceBEq, Int.reduceLT, Int.reduceLE, Int.reduceEq, Int.reduceBEq, Int.reduceNeg]
      refine ⟨by omega, hil, fun h => ⟨by omega, ?_⟩, fun h => ?_⟩
      · have h1 : l = l.take i ++ 46 :: l.drop (i + 1) := by
          conv => lhs; rw [← List.take_append_drop i l, drop_at hc, h]
        conv => rhs; rw [h1]
        rw [afterDot_dot hno]
      · refine again ⟨i + 1, by omega, by rw [List.take_add_one, hc]; simp [hno, Ne.symm h]⟩ (by simp; omega) ?_
        simp -dsimp -implicitDefEqProofs only [go_sem, ↓reduceIte, reduceCtorEq, Nat.reduceLT, Nat.reduceLeDiff, Nat.reduceEqDiff, Nat.reduceAdd, Nat.reduceMul, Nat.reduceSub, Nat.reduceBEq, Int.reduceLT, Int.reduceLE, Int.reduceEq, Int.reduceBEq, Int.reduceNeg]
    · have hil : i = l.length := by omega
      subst hil
      rw [List.take_length] at hno
      exact (afterDot_none hno).symm

structure RbInv (s t : Bs) where
  u : Bs
  eq : belowB s t = if u = [] then false else belowB u t
theorem belowB_nil (t : Bs) : belowB [] t = false := by
  rw [belowB_eq]; simp [upB, isName_nil]
theorem rbelow_ok (s t : Bs) : Meets Tryd.prog 69 [(false, [vS s]), (false, [vS t])] (rOne (vB (belowB s t))) := by
  refine meets Tryd.func69 rfl rfl Tryd.ntmps69 Tryd.results69 rfl ?_
  simp -dsimp -implicitDefEqProofs only [go_sem, ↓reduceIte, reduceCtorEq, Nat.reduceLT, Nat.reduceLeDiff, Nat.reduceEqDiff, Nat.reduceAdd, Nat.reduceMul, Nat.reduceSub, Nat.reduceBEq, Int.reduceLT, Int.reduceLE, Int.reduceEq, Int.reduceBEq, Int.reduceNeg]
  refine vfor sitOk (ι := RbInv s t) (fun v => ⟨16, [(0, aS v.u), (1, aS t)], [], 40⟩) (fun v => v.u.length) ⟨s, by split <;> simp_all [belowB_nil]⟩ ?_ ?_
  · simp -dsimp -implicitDefEqProofs only [go_sem, ↓reduceIte, reduceCtorEq, Nat.reduceLT, Nat.reduceLeDiff, Nat.reduceEqDiff, Nat.reduceAdd, Nat.reduceMul, Nat.reduceSub, Nat.reduceBEq, Int.reduceLT, Int.reduceLE, Int.reduceEq, Int.reduceBEq, Int.reduceNeg]
  intro ⟨u, he⟩
  simp -dsimp -implicitDefEqProofs only [go_sem, ↓reduceIte, reduceCtorEq, Nat.reduceLT, Nat.reduceLeDiff, Nat.reduceEqDiff, Nat.reduceAdd, Nat.reduceMul, Nat.reduceSub, Nat.reduceBEq, Int.reduceLT, Int.reduceLE, Int.reduceEq, Int.reduceBEq, Int.reduceNeg]
  refine ⟨fun h => callP (rup_ok u) ?_, fun h => ?_⟩
  · have he' : belowB s t = if upB u = [] then false else upB u == t || belowB (upB u) t := by rw [he, if_neg h, belowB_eq u t]
    simp -dsimp -implicitDefEqProofs only [go_sem, ↓reduceIte, reduceCtorEq, Nat.reduceLT, Nat.reduceLeDiff, Nat.reduceEqDiff, Nat.reduceAdd, Nat.reduceMul, Nat.reduceSub, Nat.reduceBEq, Int.reduceLT, Int.reduceLE, Int.reduceEq, Int.reduceBEq, Int.reduceNeg]
    repeat' (first | with_reducible apply And.intro | with_reducible intro _ | with_reducible exact drawn (by kernel_rfl) | omega)
    all_goals first
      | (rw [he']; simp_all; done)
      | (refine again ⟨upB u, by clear he; rw [he']; split <;> simp_all [belowB_nil]⟩ (upB_lt' h) ?_
         simp -dsimp -implicitDefEqProofs only [go_sem, ↓reduceIte, reduceCtorEq, Nat.reduceLT, Nat.reduceLeDiff, Nat.reduceEqDiff, Nat.reduceAdd, Nat.reduceMul, Nat.reduceSub, Nat.reduceBEq, Int.reduceLT, Int.reduceLE, Int.reduceEq, Int.reduceBEq, Int.reduceNeg])
  · rw [he, if_pos h]
theorem runder_ok (s a : Bs) : Meets Tryd.prog 46 [(false, [vS s]), (false, [vS a])] (rOne (vB (underB s a))) := by
  refine meets Tryd.func46 rfl rfl Tryd.ntmps46 Tryd.results46 rfl ?_
  simp -dsimp -implicitDefEqProofs only [go_sem, ↓reduceIte, reduceCtorEq, Nat.reduceLT, Nat.reduceLeDiff, Nat.reduceEqDiff, Nat.reduceAdd, Nat.reduceMul, Nat.reduceSub, Nat.reduceBEq, Int.reduceLT, Int.reduceLE, Int.reduceEq, Int.reduceBEq, Int.reduceNeg]
  repeat' (first | with_reducible apply And.intro | with_reducible intro _ | with_reducible exact drawn (by kernel_rfl) | (refine callP (rName_ok _) ?_; simp -dsimp -implicitDefEqProofs only [go_sem, ↓reduceIte, reduceCtorEq, Nat.reduceLT, Nat.reduceLeDiff, Nat.reduceEqDiff, Nat.reduceAdd, Nat.reduceMul, Nat.reduceSub, Nat.reduceBEq, Int.reduceLT, Int.reduceLE, Int.reduceEq, Int.reduceBEq, Int.reduceNeg]) | (refine callP (rbelow_ok _ _) ?_; simp -dsimp -implicitDefEqProofs only [go_sem, ↓reduceIte, reduceCtorEq, Nat.reduceLT, Nat.reduceLeDiff, Nat.reduceEqDiff, Nat.reduceAdd, Nat.reduceMul, Nat.reduceSub, Nat.reduceBEq, Int.reduceLT, Int.reduceLE, Int.reduceEq, Int.reduceBEq, Int.reduceNeg]) | omega)
  all_goals simp_all [underB]
end Go.Proofs.YtfgejhlgenaniaaDoor
