/- The contracts of Trim (both), back, Tell (both). -/
import Derived.Test.YtmkolmgpcmceaaaN2
namespace Go.Proofs.Ytmkolmgpcmceaaa
open Go.Eng
set_option linter.unusedSimpArgs false
set_option maxRecDepth 10000

def keepB (now : Int) (x : No) : Bool := !decide (x.U < now)

theorem trim_ok (n : Int) (l : List No) (now : Int) (hl : l.length ≤ 1000000) : Meets Try.prog 16 [(true, [vI n, vD (nosD l)]), (false, [vI now])] (rAgg [vI n, .own 2 41 ((l.filter (keepB now)).map No.cells)]) := by
  refine meets Try.func16 rfl rfl Try.ntmps16 Try.results16 rfl ?_
  simp -dsimp -implicitDefEqProofs only [go_sem, ↓reduceIte, reduceCtorEq, Nat.reduceLT, Nat.reduceLeDiff, Nat.reduceEqDiff, Nat.reduceAdd, Nat.reduceMul, Nat.reduceSub, Nat.reduceBEq, Int.reduceLT, Int.reduceLE, Int.reduceEq, Int.reduceBEq, Int.reduceNeg]
  refine callP (clone_ok _ (by simpa using hl)) ?_
  simp -dsimp -implicitDefEqProofs only [go_sem, ↓reduceIte, reduceCtorEq, Nat.reduceLT, Nat.reduceLeDiff, Nat.reduceEqDiff, Nat.reduceAdd, Nat.reduceMul, Nat.reduceSub, Nat.reduceBEq, Int.reduceLT, Int.reduceLE, Int.reduceEq, Int.reduceBEq, Int.reduceNeg]
  refine callP (old_ok _) ?_
  simp -dsimp -implicitDefEqProofs only [go_sem, ↓reduceIte, reduceCtorEq, Nat.reduceLT, Nat.reduceLeDiff, Nat.reduceEqDiff, Nat.reduceAdd, Nat.reduceMul, Nat.reduceSub, Nat.reduceBEq, Int.reduceLT, Int.reduceLE, Int.reduceEq, Int.reduceBEq, Int.reduceNeg]
  refine callE [true] ?_
  simp -dsimp -implicitDefEqProofs only [go_sem, ↓reduceIte, reduceCtorEq, Nat.reduceLT, Nat.reduceLeDiff, Nat.reduceEqDiff, Nat.reduceAdd, Nat.reduceMul, Nat.reduceSub, Nat.reduceBEq, Int.reduceLT, Int.reduceLE, Int.reduceEq, Int.reduceBEq, Int.reduceNeg]
  refine ⟨_, deleteFunc_ok l hl 32 [.pt [dI now]] (fun x => decide (x.U < now)) (fun x _ => old1_ok x now), ?_⟩
  simp -dsimp -implicitDefEqProofs only [go_sem, ↓reduceIte, reduceCtorEq, Nat.reduceLT, Nat.reduceLeDiff, Nat.reduceEqDiff, Nat.reduceAdd, Nat.reduceMul, Nat.reduceSub, Nat.reduceBEq, Int.reduceLT, Int.reduceLE, Int.reduceEq, Int.reduceBEq, Int.reduceNeg]
  exact ⟨drawn (by kernel_rfl), rfl⟩

structure RtInv (now : Int) (l : List No) where
  i : Nat
  le : i ≤ l.length

theorem rtrim_ok (n : Int) (l : List No) (now : Int) (hl : l.length ≤ 1000000) : Meets Try.prog 17 [(true, [vI n, vD (nosD l)]), (false, [vI now])] (rAgg [vI n, .own 2 41 ((l.filter (keepB now)).map No.cells)]) := by
  refine meets Try.func17 rfl rfl Try.ntmps17 Try.results17 rfl ?_
  simp -dsimp -implicitDefEqProofs only [go_sem, ↓reduceIte, reduceCtorEq, Nat.reduceLT, Nat.reduceLeDiff, Nat.reduceEqDiff, Nat.reduceAdd, Nat.reduceMul, Nat.reduceSub, Nat.reduceBEq, Int.reduceLT, Int.reduceLE, Int.reduceEq, Int.reduceBEq, Int.reduceNeg]
  refine vown 40 1 41 rfl ?_
  refine vfor sitOk (ι := RtInv now l) (fun v => ⟨36, [(2, aP 0 0), (4, aP 8 0), (5, aP 40 0), (6, aI v.i), (1, aI now)], [(8, some (.var [cI 0, .nils 2] true)), (0, some (.var [cI n, cD (nosD l)] true)), (40, some (.var [cI n, .own 64] true)), (64, some (.row 2 41 (((l.take v.i).filter (keepB now)).map No.cells) true))], 65⟩) (fun v => l.length - v.i) ⟨0, by omega⟩ ?_ ?_
  · simp -dsimp -implicitDefEqProofs only [go_sem, ↓reduceIte, reduceCtorEq, Nat.reduceLT, Nat.reduceLeDiff, Nat.reduceEqDiff, Nat.reduceAdd, Nat.reduceMul, Nat.reduceSub, Nat.reduceBEq, Int.reduceLT, Int.reduceLE, Int.reduceEq, Int.reduceBEq, Int.reduceNeg]
    rfl
  intro ⟨i, hi⟩
  have hfl : ((l.take i).filter (keepB now)).length ≤ i := Nat.le_trans (List.length_filter_le ..) (by simp; omega)
  simp -dsimp -implicitDefEqProofs only [go_sem, ↓reduceIte, reduceCtorEq, Nat.reduceLT, Nat.reduceLeDiff, Nat.reduceEqDiff, Nat.reduceAdd, Nat.reduceMul, Nat.reduceSub, Nat.reduceBEq, Int.reduceLT, Int.reduceLE, Int.reduceEq, Int.reduceBEq, Int.reduceNeg]
  refine ⟨fun hlt => ⟨by omega, by omega, fun x hx => ⟨fun c1 => ⟨by omega, by omega, fun y hy => ⟨⟨by omega, by omega⟩, drawn (by kernel_rfl), ?_⟩⟩, fun c1 => ?_⟩⟩, fun hge => ?_⟩
  · have hxy := hx.symm.trans hy
    cases hxy
    have e : ((l.take (i + 1)).filter (keepB now)).map No.cells = ((l.take i).filter (keepB now)).map No.cells ++ [x.cells] := by
      rw [take_succ_filter hx]; simp [keepB, show ¬ x.U < now by omega]
    refine againO 64 40 1 ⟨i + 1, by omega⟩ (by simp; omega) ?_
    simp -dsimp -implicitDefEqProofs only [e, wrapS (show i < l.length by omega) (show l.length ≤ 4611686018427387904 by omega), go_sem, ↓reduceIte, reduceCtorEq, Nat.reduceLT, Nat.reduceLeDiff, Nat.reduceEqDiff, Nat.reduceAdd, Nat.reduceMul, Nat.reduceSub, Nat.reduceBEq, Int.reduceLT, Int.reduceLE, Int.reduceEq, Int.reduceBEq, Int.reduceNeg]
  · have e : (l.take (i + 1)).filter (keepB now) = (l.take i).filter (keepB now) := by
      rw [take_succ_filter hx]; simp [keepB, c1]
    refine again ⟨i + 1, by omega⟩ (by simp; omega) ?_
    simp -dsimp -implicitDefEqProofs only [e, wrapS (show i < l.length by omega) (show l.length ≤ 4611686018427387904 by omega), go_sem, ↓reduceIte, reduceCtorEq, Nat.reduceLT, Nat.reduceLeDiff, Nat.reduceEqDiff, Nat.reduceAdd, Nat.reduceMul, Nat.reduceSub, Nat.reduceBEq, Int.reduceLT, Int.reduceLE, Int.reduceEq, Int.reduceBEq, Int.reduceNeg]
  · rw [List.take_of_length_le (by omega)]

theorem back_ok (n : Int) (r : D) : Meets Try.prog 22 [(true, [vI n, vD r])] (rAgg [vI (IntKind.i64.wrap (n + 1)), vD r]) := by
  refine meets Try.func22 rfl rfl Try.ntmps22 Try.results22 rfl ?_
  simp -dsimp -implicitDefEqProofs only [go_sem, ↓reduceIte, reduceCtorEq, Nat.reduceLT, Nat.reduceLeDiff, Nat.reduceEqDiff, Nat.reduceAdd, Nat.reduceMul, Nat.reduceSub, Nat.reduceBEq, Int.reduceLT, Int.reduceLE, Int.reduceEq, Int.reduceBEq, Int.reduceNeg]

/-- What is told. -/
def tellV (n : Int) (l : List No) (now life : Int) : Int × List No × Int × Int :=
  if checkV n l ≠ 0 then (0, [], 0, checkV n l)
  else if (timeB now = false ∨ life < 1) ∨ 1099511627776 - now < life then (0, [], 0, 1)
  else if (l.filter (keepB now)).length = 64 ∨ n = 1099511627776 then (0, [], 0, 2)
  else (n + 1, l.filter (keepB now) ++ [⟨n, now + life⟩], n, 0)
abbrev tellR (v : Int × List No × Int × Int) : Res := rTup [(true, [vI v.1, .own 2 41 (v.2.1.map No.cells)]), (false, [vI v.2.2.1]), (false, [vI v.2.2.2])]

theorem timeB_true {n : Int} (h : timeB n = true) : 0 ≤ n ∧ n ≤ 1099511627776 := by simpa [timeB] using h

theorem checkV_zero {n : Int} {l : List No} (h : checkV n l = 0) : timeB n = true ∧ okFrom n (-1) l = true ∧ l.length ≤ 64 := by
  unfold checkV at h
  split at h
  · rename_i hc
    simp only [Bool.and_eq_true] at hc
    split at h
    · omega
    · exact ⟨hc.1, hc.2, by omega⟩
  · omega

theorem tell_ok (n : Int) (l : List No) (now life : Int) (hl : l.length ≤ 1000000) : Meets Try.prog 18 [(true, [vI n, vD (nosD l)]), (false, [vI now]), (false, [vI life])] (tellR (tellV n l now life)) := by
  refine meets Try.func18 rfl rfl Try.ntmps18 Try.results18 rfl ?_
  simp -dsimp -implicitDefEqProofs only [go_sem, ↓reduceIte, reduceCtorEq, Nat.reduceLT, Nat.reduceLeDiff, Nat.reduceEqDiff, Nat.reduceAdd, Nat.reduceMul, Nat.reduceSub, Nat.reduceBEq, Int.reduceLT, Int.reduceLE, Int.reduceEq, Int.reduceBEq, Int.reduceNeg]
  refine callP (check_ok n l hl) ?_
  simp -dsimp -implicitDefEqProofs only [go_sem, ↓reduceIte, reduceCtorEq, Nat.reduceLT, Nat.reduceLeDiff, Nat.reduceEqDiff, Nat.reduceAdd, Nat.reduceMul, Nat.reduceSub, Nat.reduceBEq, Int.reduceLT, Int.reduceLE, Int.reduceEq, Int.reduceBEq, Int.reduceNeg]
  refine ⟨fun hK => by simp [tellV, hK], fun hK => callP (time_ok _) ?_⟩
  obtain ⟨ht, _, h64⟩ := checkV_zero hK
  obtain ⟨hn0, hn1⟩ := timeB_true ht
  have hwr (h : timeB now = true) : IntKind.i64.wrap (1099511627776 - now) = 1099511627776 - now := by
    obtain ⟨hw0, hw1⟩ := timeB_true h
    rw [wrap64] <;> omega
  simp -dsimp -implicitDefEqProofs only [go_sem, ↓reduceIte, reduceCtorEq, Nat.reduceLT, Nat.reduceLeDiff, Nat.reduceEqDiff, Nat.reduceAdd, Nat.reduceMul, Nat.reduceSub, Nat.reduceBEq, Int.reduceLT, Int.reduceLE, Int.reduceEq, Int.reduceBEq, Int.reduceNeg]
  refine ⟨fun c1 => ⟨fun c2 => ⟨fun c3 => ?_, fun c3 => callP (trim_ok n l now hl) ?_⟩, fun c2 => ?_⟩, fun c1 => ?_⟩
  · rw [hwr c1] at c3
    simp [tellV, hK, c3]
  · rw [hwr c1] at c3
    obtain ⟨hw0, hw1⟩ := timeB_true c1
    have hfl : (l.filter (keepB now)).length ≤ l.length := List.length_filter_le ..
    have hwa : IntKind.i64.wrap (now + life) = now + life := by rw [wrap64] <;> omega
    have hwb : IntKind.i64.wrap (n + 1) = n + 1 := by rw [wrap64] <;> omega
    simp -dsimp -implicitDefEqProofs only [hwr c1, hwa, hwb, go_sem, ↓reduceIte, reduceCtorEq, Nat.reduceLT, Nat.reduceLeDiff, Nat.reduceEqDiff, Nat.reduceAdd, Nat.reduceMul, Nat.reduceSub, Nat.reduceBEq, Int.reduceLT, Int.reduceLE, Int.reduceEq, Int.reduceBEq, Int.reduceNeg]
    have c3' : ¬ 1099511627776 - now < life := by omega
    have c2' : ¬ life < 1 := by omega
    refine ⟨fun c4 => ⟨fun c5 => ?_, fun c5 => ⟨⟨by omega, by omega⟩, ?_⟩⟩, fun c4 => ?_⟩
    · subst c5
      simp [tellV, hK, c1, c2', c3']
    · have c4' : ¬ (l.filter (keepB now)).length = 64 := by omega
      simp [tellV, hK, c1, c2', c3', c4', c5, No.cells]
    · have c4' : (l.filter (keepB now)).length = 64 := by omega
      simp [tellV, hK, c1, c2', c3', c4']
  · simp [tellV, hK, c2]
  · simp [tellV, hK, c1]

theorem rtell_ok (n : Int) (l : List No) (now life : Int) (hl : l.length ≤ 1000000) : Meets Try.prog 19 [(true, [vI n, vD (nosD l)]), (false, [vI now]), (false, [vI life])] (tellR (tellV n l now life)) := by
  refine meets Try.func19 rfl rfl Try.ntmps19 Try.results19 rfl ?_
  simp -dsimp -implicitDefEqProofs only [go_sem, ↓reduceIte, reduceCtorEq, Nat.reduceLT, Nat.reduceLeDiff, Nat.reduceEqDiff, Nat.reduceAdd, Nat.reduceMul, Nat.reduceSub, Nat.reduceBEq, Int.reduceLT, Int.reduceLE, Int.reduceEq, Int.reduceBEq, Int.reduceNeg]
  refine callP (rcheck_ok n l hl) ?_
  simp -dsimp -implicitDefEqProofs only [go_sem, ↓reduceIte, reduceCtorEq, Nat.reduceLT, Nat.reduceLeDiff, Nat.reduceEqDiff, Nat.reduceAdd, Nat.reduceMul, Nat.reduceSub, Nat.reduceBEq, Int.reduceLT, Int.reduceLE, Int.reduceEq, Int.reduceBEq, Int.reduceNeg]
  refine ⟨fun hK => by simp [tellV, hK], fun hK => callP (rtime_ok _) ?_⟩
  obtain ⟨ht, _, h64⟩ := checkV_zero hK
  obtain ⟨hn0, hn1⟩ := timeB_true ht
  have hwr (h : timeB now = true) : IntKind.i64.wrap (1099511627776 - now) = 1099511627776 - now := by
    obtain ⟨hw0, hw1⟩ := timeB_true h
    rw [wrap64] <;> omega
  simp -dsimp -implicitDefEqProofs only [go_sem, ↓reduceIte, reduceCtorEq, Nat.reduceLT, Nat.reduceLeDiff, Nat.reduceEqDiff, Nat.reduceAdd, Nat.reduceMul, Nat.reduceSub, Nat.reduceBEq, Int.reduceLT, Int.reduceLE, Int.reduceEq, Int.reduceBEq, Int.reduceNeg]
  refine ⟨fun c1 => ⟨fun c2 => ⟨fun c3 => callP (rtime_ok _) ?_, fun c3 => ?_⟩, fun c2 => ?_⟩, fun c1 => ?_⟩
  · obtain ⟨hw0, hw1⟩ := timeB_true c1
    have hfl : (l.filter (keepB now)).length ≤ l.length := List.length_filter_le ..
    have hwa : IntKind.i64.wrap (now + life) = now + life := by rw [wrap64] <;> omega
    have hwb : IntKind.i64.wrap (n + 1) = n + 1 := by rw [wrap64] <;> omega
    have c2' : ¬ life < 1 := by omega
    simp -dsimp -implicitDefEqProofs only [hwa, go_sem, ↓reduceIte, reduceCtorEq, Nat.reduceLT, Nat.reduceLeDiff, Nat.reduceEqDiff, Nat.reduceAdd, Nat.reduceMul, Nat.reduceSub, Nat.reduceBEq, Int.reduceLT, Int.reduceLE, Int.reduceEq, Int.reduceBEq, Int.reduceNeg]
    refine ⟨fun c6 => ?_, fun c6 => callP (rtrim_ok n l now hl) ?_⟩
    rotate_left
    · obtain ⟨_, hw3⟩ := timeB_true c6
      have c3' : ¬ 1099511627776 - now < life := by omega
      simp -dsimp -implicitDefEqProofs only [hwa, hwb, go_sem, ↓reduceIte, reduceCtorEq, Nat.reduceLT, Nat.reduceLeDiff, Nat.reduceEqDiff, Nat.reduceAdd, Nat.reduceMul, Nat.reduceSub, Nat.reduceBEq, Int.reduceLT, Int.reduceLE, Int.reduceEq, Int.reduceBEq, Int.reduceNeg]
      refine ⟨fun c4 => ⟨fun c5 => ?_, fun c5 => ⟨⟨by omega, by omega⟩, drawn (by kernel_rfl), ?_⟩⟩, fun c4 => ?_⟩
      · subst c5
        simp [tellV, hK, c1, c2', c3']
      · have c4' : ¬ (l.filter (keepB now)).length = 64 := by omega
        simp [tellV, hK, c1, c2', c3', c4', c5, No.cells]
      · have c4' : (l.filter (keepB now)).length = 64 := by omega
        simp [tellV, hK, c1, c2', c3', c4']
    · have c3' : 1099511627776 - now < life := by
        simp [timeB] at c6; omega
      simp [tellV, hK, c3']
  · have c3' : timeB now = false ∨ 1099511627776 - now < life := by
      by_cases h : timeB now = true
      · obtain ⟨hw0, hw1⟩ := timeB_true h
        right; omega
      · left; simpa using h
    rcases c3' with c3' | c3' <;> simp [tellV, hK, c3']
  · simp [tellV, hK, c2]
  · simp [tellV, hK, c1]
end Go.Proofs.Ytmkolmgpcmceaaa
