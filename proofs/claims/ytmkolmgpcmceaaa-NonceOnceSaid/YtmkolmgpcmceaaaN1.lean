/- Data of the layer; the contracts of time, Few, Check (both), Same. -/
import Derived.Test.YtmkolmgpcmceaaaTyp
namespace Go.Proofs.Ytmkolmgpcmceaaa
open Go.Eng
set_option linter.unusedSimpArgs false
set_option maxRecDepth 10000

theorem wrapS {i n : Nat} (h : i < n) (hn : n ≤ 4611686018427387904) : IntKind.i64.wrap ((i : Int) + 1) = ((i + 1 : Nat) : Int) := by
  rw [wrap64] <;> omega

def timeB (n : Int) : Bool := decide (0 ≤ n) && decide (n ≤ 1099511627776)

theorem rtime_ok (n : Int) : Meets Try.prog 24 [(false, [vI n])] (rOne (vB (timeB n))) := by
  refine meets Try.func24 rfl rfl Try.ntmps24 Try.results24 rfl ?_
  simp -dsimp -implicitDefEqProofs only [go_sem, ↓reduceIte, reduceCtorEq, Nat.reduceLT, Nat.reduceLeDiff, Nat.reduceEqDiff, Nat.reduceAdd, Nat.reduceMul, Nat.reduceSub, Nat.reduceBEq, Int.reduceLT, Int.reduceLE, Int.reduceEq, Int.reduceBEq, Int.reduceNeg]
  refine ⟨fun h => ?_, fun h => ?_⟩ <;> simp [timeB]
  · exact fun _ => h
  · omega

theorem time_ok (n : Int) : Meets Try.prog 23 [(false, [vI n])] (rOne (vB (timeB n))) := by
  refine meets Try.func23 rfl rfl Try.ntmps23 Try.results23 rfl ?_
  simp -dsimp -implicitDefEqProofs only [go_sem, ↓reduceIte, reduceCtorEq, Nat.reduceLT, Nat.reduceLeDiff, Nat.reduceEqDiff, Nat.reduceAdd, Nat.reduceMul, Nat.reduceSub, Nat.reduceBEq, Int.reduceLT, Int.reduceLE, Int.reduceEq, Int.reduceBEq, Int.reduceNeg]
  refine ⟨fun h => ?_, fun h => ?_⟩ <;> simp [timeB]
  · exact fun _ => h
  · omega

/-- A nonce. -/
structure No where
  N : Int
  U : Int
  deriving DecidableEq
def No.cells (x : No) : List D := [dI x.N, dI x.U]
attribute [go_sem] No.cells
abbrev nosD (l : List No) : D := .vec 2 (l.map No.cells)

theorem few_ok (n : Int) (l : List No) : Meets Try.prog 12 [(true, [vI n, vD (nosD l)])] (rOne (vB (decide (l.length ≤ 100)))) := by
  refine meets Try.func12 rfl rfl Try.ntmps12 Try.results12 rfl ?_
  simp -dsimp -implicitDefEqProofs only [go_sem, ↓reduceIte, reduceCtorEq, Nat.reduceLT, Nat.reduceLeDiff, Nat.reduceEqDiff, Nat.reduceAdd, Nat.reduceMul, Nat.reduceSub, Nat.reduceBEq, Int.reduceLT, Int.reduceLE, Int.reduceEq, Int.reduceBEq, Int.reduceNeg]
  simp; omega

/-- From here on, the numbers rise above `last`, and all is in bounds. -/
def okFrom (next : Int) : Int → List No → Bool
  | _, [] => true
  | last, x :: r => decide (last < x.N) && decide (x.N < next) && timeB x.U && okFrom next x.N r
def lastAt (l : List No) : Nat → Int
  | 0 => -1
  | i + 1 => match l[i]? with
    | some x => x.N
    | none => -1
def checkV (next : Int) (l : List No) : Int := if timeB next && okFrom next (-1) l then (if 64 < l.length then 2 else 0) else 1

structure NcInv (next : Int) (l : List No) where
  i : Nat
  last : Int
  le : i ≤ l.length
  eq : okFrom next (-1) l = okFrom next last (l.drop i)

theorem check_ok (n : Int) (l : List No) (hl : l.length ≤ 1000000) : Meets Try.prog 13 [(true, [vI n, vD (nosD l)])] (rOne (vI (checkV n l))) := by
  refine meets Try.func13 rfl rfl Try.ntmps13 Try.results13 rfl ?_
  simp -dsimp -implicitDefEqProofs only [go_sem, ↓reduceIte, reduceCtorEq, Nat.reduceLT, Nat.reduceLeDiff, Nat.reduceEqDiff, Nat.reduceAdd, Nat.reduceMul, Nat.reduceSub, Nat.reduceBEq, Int.reduceLT, Int.reduceLE, Int.reduceEq, Int.reduceBEq, Int.reduceNeg]
  refine vfor sitOk (ι := NcInv n l) (fun v => ⟨43, [(1, aP 0 0), (7, aD (nosD l)), (8, aI l.length), (3, aI v.last), (9, aI v.i), (2, aI 0)], [(0, some (.var [cI n, cD (nosD l)] true))], 1⟩) (fun v => l.length - v.i) ⟨0, -1, by omega, rfl⟩ ?_ ?_
  · simp -dsimp -implicitDefEqProofs only [go_sem, ↓reduceIte, reduceCtorEq, Nat.reduceLT, Nat.reduceLeDiff, Nat.reduceEqDiff, Nat.reduceAdd, Nat.reduceMul, Nat.reduceSub, Nat.reduceBEq, Int.reduceLT, Int.reduceLE, Int.reduceEq, Int.reduceBEq, Int.reduceNeg]
  intro ⟨i, last, hi, he⟩
  simp -dsimp -implicitDefEqProofs only [go_sem, ↓reduceIte, reduceCtorEq, Nat.reduceLT, Nat.reduceLeDiff, Nat.reduceEqDiff, Nat.reduceAdd, Nat.reduceMul, Nat.reduceSub, Nat.reduceBEq, Int.reduceLT, Int.reduceLE, Int.reduceEq, Int.reduceBEq, Int.reduceNeg]
  refine ⟨fun hlt => ⟨by omega, by omega, fun x hx => ?_⟩, fun hge => callP (time_ok _) ?_⟩
  · have hil : i < l.length := by omega
    have hd : l.drop i = x :: l.drop (i + 1) := by rw [List.drop_eq_getElem_cons hil]; congr 1; exact Option.some.inj ((List.getElem?_eq_getElem hil).symm.trans hx)
    have hw := wrapS hil (by omega)
    refine ⟨fun c1 => ⟨fun c2 => callP (time_ok _) ?_, fun c2 => ?_⟩, fun c1 => ?_⟩
    · simp -dsimp -implicitDefEqProofs only [hw, go_sem, ↓reduceIte, reduceCtorEq, Nat.reduceLT, Nat.reduceLeDiff, Nat.reduceEqDiff, Nat.reduceAdd, Nat.reduceMul, Nat.reduceSub, Nat.reduceBEq, Int.reduceLT, Int.reduceLE, Int.reduceEq, Int.reduceBEq, Int.reduceNeg]
      refine ⟨fun c3 => ?_, fun c3 => ?_⟩
      · simp [checkV, he, hd, okFrom, c3]
      · refine again ⟨i + 1, x.N, by omega, by rw [he, hd]; simp [okFrom, c1, c2, c3]⟩ (by simp; omega) ?_
        simp -dsimp -implicitDefEqProofs only [hw, go_sem, ↓reduceIte, reduceCtorEq, Nat.reduceLT, Nat.reduceLeDiff, Nat.reduceEqDiff, Nat.reduceAdd, Nat.reduceMul, Nat.reduceSub, Nat.reduceBEq, Int.reduceLT, Int.reduceLE, Int.reduceEq, Int.reduceBEq, Int.reduceNeg]
    · simp [checkV, he, hd, okFrom]; omega
    · simp [checkV, he, hd, okFrom]; omega
  · simp -dsimp -implicitDefEqProofs only [go_sem, ↓reduceIte, reduceCtorEq, Nat.reduceLT, Nat.reduceLeDiff, Nat.reduceEqDiff, Nat.reduceAdd, Nat.reduceMul, Nat.reduceSub, Nat.reduceBEq, Int.reduceLT, Int.reduceLE, Int.reduceEq, Int.reduceBEq, Int.reduceNeg]
    have hd : l.drop i = [] := List.drop_eq_nil_of_le (by omega)
    refine ⟨fun h0 => by simp [checkV, h0], fun h0 => ⟨fun h1 => ?_, fun h1 => ?_⟩⟩
    · simp [checkV, h0, he, hd, okFrom]; omega
    · simp [checkV, h0, he, hd, okFrom]; omega

structure CkInv (next : Int) (l : List No) where
  i : Nat
  le : i ≤ l.length
  eq : okFrom next (-1) l = okFrom next (lastAt l i) (l.drop i)
  lb : -1 ≤ lastAt l i

theorem drop_at {α : Type} {l : List α} {i : Nat} {x : α} (hx : l[i]? = some x) : l.drop i = x :: l.drop (i + 1) := by
  have hil := (List.getElem?_eq_some_iff.1 hx).1
  rw [List.drop_eq_getElem_cons hil]; congr 1; exact Option.some.inj ((List.getElem?_eq_getElem hil).symm.trans hx)

theorem rcheck_ok (n : Int) (l : List No) (hl : l.length ≤ 1000000) : Meets Try.prog 14 [(true, [vI n, vD (nosD l)])] (rOne (vI (checkV n l))) := by
  refine meets Try.func14 rfl rfl Try.ntmps14 Try.results14 rfl ?_
  simp -dsimp -implicitDefEqProofs only [go_sem, ↓reduceIte, reduceCtorEq, Nat.reduceLT, Nat.reduceLeDiff, Nat.reduceEqDiff, Nat.reduceAdd, Nat.reduceMul, Nat.reduceSub, Nat.reduceBEq, Int.reduceLT, Int.reduceLE, Int.reduceEq, Int.reduceBEq, Int.reduceNeg]
  refine callP (rtime_ok _) ?_
  simp -dsimp -implicitDefEqProofs only [go_sem, ↓reduceIte, reduceCtorEq, Nat.reduceLT, Nat.reduceLeDiff, Nat.reduceEqDiff, Nat.reduceAdd, Nat.reduceMul, Nat.reduceSub, Nat.reduceBEq, Int.reduceLT, Int.reduceLE, Int.reduceEq, Int.reduceBEq, Int.reduceNeg]
  refine ⟨fun h0 => by simp [checkV, h0], fun h0 => ?_⟩
  refine vfor sitOk (ι := CkInv n l) (fun v => ⟨57, [(1, aP 0 0), (2, aI 0), (3, aI v.i)], [(0, some (.var [cI n, cD (nosD l)] true))], 1⟩) (fun v => l.length - v.i) ⟨0, by omega, rfl, by simp [lastAt]⟩ ?_ ?_
  · simp -dsimp -implicitDefEqProofs only [go_sem, ↓reduceIte, reduceCtorEq, Nat.reduceLT, Nat.reduceLeDiff, Nat.reduceEqDiff, Nat.reduceAdd, Nat.reduceMul, Nat.reduceSub, Nat.reduceBEq, Int.reduceLT, Int.reduceLE, Int.reduceEq, Int.reduceBEq, Int.reduceNeg]
  intro ⟨i, hi, he, hlb⟩
  simp -dsimp -implicitDefEqProofs only [go_sem, ↓reduceIte, reduceCtorEq, Nat.reduceLT, Nat.reduceLeDiff, Nat.reduceEqDiff, Nat.reduceAdd, Nat.reduceMul, Nat.reduceSub, Nat.reduceBEq, Int.reduceLT, Int.reduceLE, Int.reduceEq, Int.reduceBEq, Int.reduceNeg]
  refine ⟨fun hlt => ⟨by omega, by omega, fun x hx => ?_⟩, fun hge => ?_⟩
  · have hil : i < l.length := by omega
    have hd := drop_at hx
    have hw := wrapS hil (by omega)
    have hla : lastAt l (i + 1) = x.N := by simp [lastAt, hx]
    have c0 : i = 0 ∨ ∃ k y, i = k + 1 ∧ l[k]? = some y ∧ lastAt l i = y.N := by
      cases i with
      | zero => exact .inl rfl
      | succ k =>
        have hy : l[k]? = some l[k] := List.getElem?_eq_getElem (by omega)
        exact .inr ⟨k, l[k], rfl, hy, by simp [lastAt, hy]⟩
    refine ⟨fun c1 => ⟨fun c2 => callP (rtime_ok _) ?_, fun c2 => ?_⟩, fun c1 => ?_⟩
    · rcases c0 with rfl | ⟨k, y, rfl, hy, hly⟩
      · simp -dsimp -implicitDefEqProofs only [hw, go_sem, ↓reduceIte, reduceCtorEq, Nat.reduceLT, Nat.reduceLeDiff, Nat.reduceEqDiff, Nat.reduceAdd, Nat.reduceMul, Nat.reduceSub, Nat.reduceBEq, Int.reduceLT, Int.reduceLE, Int.reduceEq, Int.reduceBEq, Int.reduceNeg]
        refine ⟨fun c3 => ⟨drawn (by kernel_rfl), ?_⟩, fun c3 => ⟨drawn (by kernel_rfl), by simp [checkV, h0, he, hd, okFrom, c3]⟩⟩
        refine again ⟨1, by omega, by
          have c4 : (-1 : Int) < x.N := by omega
          rw [he, hd, hla]; simp [okFrom, lastAt, c2, c3, c4], by rw [hla]; omega⟩ (by simp; omega) ?_
        simp -dsimp -implicitDefEqProofs only [go_sem, ↓reduceIte, reduceCtorEq, Nat.reduceLT, Nat.reduceLeDiff, Nat.reduceEqDiff, Nat.reduceAdd, Nat.reduceMul, Nat.reduceSub, Nat.reduceBEq, Int.reduceLT, Int.reduceLE, Int.reduceEq, Int.reduceBEq, Int.reduceNeg]; rfl
      · have hw2 : IntKind.i64.wrap (((k + 1 : Nat) : Int) - 1) = (k : Int) := by rw [wrap64] <;> omega
        simp -dsimp -implicitDefEqProofs only [hw, hw2, go_sem, ↓reduceIte, reduceCtorEq, Nat.reduceLT, Nat.reduceLeDiff, Nat.reduceEqDiff, Nat.reduceAdd, Nat.reduceMul, Nat.reduceSub, Nat.reduceBEq, Int.reduceLT, Int.reduceLE, Int.reduceEq, Int.reduceBEq, Int.reduceNeg]
        have hgo : y.N < x.N → timeB x.U = true → okFrom n (-1) l = okFrom n (lastAt l (k + 1 + 1)) (l.drop (k + 1 + 1)) := fun c4 c3 => by
          rw [he, hd, hla, hly]; simp [okFrom, c2, c3, c4]
        refine ⟨fun c3 => ⟨fun _ => ⟨by omega, by omega, fun z hz => ?_⟩, fun c4 => by omega⟩, fun c3 => ⟨drawn (by kernel_rfl), by simp [checkV, h0, he, hd, okFrom, c3]⟩⟩
        rw [hy] at hz; cases hz
        refine ⟨drawn (by kernel_rfl), fun c4 => ?_, fun c4 => ?_⟩
        · have c4' : ¬ y.N < x.N := by omega
          simp [checkV, h0, he, hd, okFrom, hly, c4']
        · refine again ⟨k + 1 + 1, by omega, hgo c4 c3, by rw [hla]; omega⟩ (by simp; omega) ?_
          simp -dsimp -implicitDefEqProofs only [go_sem, ↓reduceIte, reduceCtorEq, Nat.reduceLT, Nat.reduceLeDiff, Nat.reduceEqDiff, Nat.reduceAdd, Nat.reduceMul, Nat.reduceSub, Nat.reduceBEq, Int.reduceLT, Int.reduceLE, Int.reduceEq, Int.reduceBEq, Int.reduceNeg]
    · have c2' : ¬ x.N < n := by omega
      exact ⟨drawn (by kernel_rfl), by simp [checkV, h0, he, hd, okFrom, c2']⟩
    · have c2' : ¬ lastAt l i < x.N := by omega
      exact ⟨drawn (by kernel_rfl), by simp [checkV, h0, he, hd, okFrom, c2']⟩
  · have hd : l.drop i = [] := List.drop_eq_nil_of_le (by omega)
    refine ⟨fun h1 => ?_, fun h1 => ?_⟩ <;> simp [checkV, h0, he, hd, okFrom] <;> omega

structure SmInv (l l2 : List No) where
  i : Nat
  le : i ≤ l.length
  eq : l.take i = l2.take i

theorem same_ok (n : Int) (l : List No) (m : Int) (l2 : List No) (hl : l.length ≤ 1000000) : Meets Try.prog 15 [(true, [vI n, vD (nosD l)]), (true, [vI m, vD (nosD l2)])] (rOne (vB (decide (n = m) && decide (l = l2)))) := by
  refine meets Try.func15 rfl rfl Try.ntmps15 Try.results15 rfl ?_
  simp -dsimp -implicitDefEqProofs only [go_sem, ↓reduceIte, reduceCtorEq, Nat.reduceLT, Nat.reduceLeDiff, Nat.reduceEqDiff, Nat.reduceAdd, Nat.reduceMul, Nat.reduceSub, Nat.reduceBEq, Int.reduceLT, Int.reduceLE, Int.reduceEq, Int.reduceBEq, Int.reduceNeg]
  refine ⟨fun h0 => ⟨fun h1 => ?_, fun h1 => ?_⟩, fun h0 => by simp [h0]⟩
  · have : ¬ l = l2 := fun e => h1 (by rw [e])
    simp [this]
  refine vfor sitOk (ι := SmInv l l2) (fun v => ⟨38, [(2, aP 0 0), (3, aP 8 0), (4, aB false), (5, aI v.i)], [(0, some (.var [cI n, cD (nosD l)] true)), (8, some (.var [cI m, cD (nosD l2)] true))], 9⟩) (fun v => l.length - v.i) ⟨0, by omega, by simp⟩ ?_ ?_
  · simp -dsimp -implicitDefEqProofs only [go_sem, ↓reduceIte, reduceCtorEq, Nat.reduceLT, Nat.reduceLeDiff, Nat.reduceEqDiff, Nat.reduceAdd, Nat.reduceMul, Nat.reduceSub, Nat.reduceBEq, Int.reduceLT, Int.reduceLE, Int.reduceEq, Int.reduceBEq, Int.reduceNeg]
  intro ⟨i, hi, he⟩
  simp -dsimp -implicitDefEqProofs only [go_sem, ↓reduceIte, reduceCtorEq, Nat.reduceLT, Nat.reduceLeDiff, Nat.reduceEqDiff, Nat.reduceAdd, Nat.reduceMul, Nat.reduceSub, Nat.reduceBEq, Int.reduceLT, Int.reduceLE, Int.reduceEq, Int.reduceBEq, Int.reduceNeg]
  refine ⟨fun hlt => ⟨by omega, by omega, fun x hx => ⟨by omega, by omega, fun y hy => ⟨drawn (by kernel_rfl), fun c => ?_, fun c => ?_⟩⟩⟩, fun hge => ?_⟩
  · have : ¬ l = l2 := fun e => by rw [e, hy] at hx; cases hx; exact c rfl rfl
    simp [this]
  · have exy : x = y := by cases x; cases y; simp at c; simp [c]
    refine again ⟨i + 1, by omega, by rw [List.take_add_one, List.take_add_one, he, hx, hy, exy]⟩ (by simp; omega) ?_
    simp -dsimp -implicitDefEqProofs only [wrapS (show i < l.length by omega) (show l.length ≤ 4611686018427387904 by omega), go_sem, ↓reduceIte, reduceCtorEq, Nat.reduceLT, Nat.reduceLeDiff, Nat.reduceEqDiff, Nat.reduceAdd, Nat.reduceMul, Nat.reduceSub, Nat.reduceBEq, Int.reduceLT, Int.reduceLE, Int.reduceEq, Int.reduceBEq, Int.reduceNeg]
  · rw [List.take_of_length_le (by omega), List.take_of_length_le (by omega)] at he
    simp [h0, he]
end Go.Proofs.Ytmkolmgpcmceaaa
