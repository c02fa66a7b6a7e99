
/- hash.Mix. hash.put, field.Of. hash.Sum, Bytes, Tagged. hash.Tagged. -/
import Derived.Test.YtijfncaphfaijaaGreatDoorUC
namespace Go.Proofs.YtijfncaphfaijaaGreatDoor
open Go.Eng
set_option linter.unusedSimpArgs false
set_option maxRecDepth 10000

abbrev cU (n : Nat) : AV := .d (.v (.int .u64 n))
def faN (x y : Nat) : Nat := (x % 2305843009213693951 + y % 2305843009213693951) % 2305843009213693951
theorem faN_lt (x y : Nat) : faN x y < 18446744073709551616 := Nat.lt_trans (Nat.mod_lt _ (by decide)) (by decide)
theorem fa_ok (a b : Nat) (ha : a < 18446744073709551616) (hb : b < 18446744073709551616) : Meets Tryz.prog 180 [(false, [vU64 a]), (false, [vU64 b])] (rOne (vU64 (faN a b : Nat))) := fadd_ok a b ha hb
theorem p17_lt (x : Nat) : p17 x < 18446744073709551616 := fm_lt _ _
def m1N (n x : Nat) : Nat := p17 (faN x (n * n * n + 7))
theorem m1N_lt (n x : Nat) : m1N n x < 18446744073709551616 := p17_lt _
structure W3 where
  a : Nat
  b : Nat
  c : Nat
def allN (r : Nat) (w : W3) : Nat := faN (faN (faN 0 (m1N (3 * r + 1) w.a)) (m1N (3 * r + 2) w.b)) (m1N (3 * r + 3) w.c)
def roundN (r : Nat) (w : W3) : W3 := ⟨faN (m1N (3 * r + 1) w.a) (allN r w), faN (m1N (3 * r + 2) w.b) (allN r w), faN (m1N (3 * r + 3) w.c) (allN r w)⟩
def mixN (w : W3) : Nat → W3
  | 0 => w
  | k + 1 => roundN k (mixN w k)
def W3.ok (w : W3) : Prop := w.a < 18446744073709551616 ∧ w.b < 18446744073709551616 ∧ w.c < 18446744073709551616
theorem mixN_ok {w : W3} (h : w.ok) : ∀ k, (mixN w k).ok
  | 0 => h
  | _ + 1 => ⟨faN_lt _ _, faN_lt _ _, faN_lt _ _⟩
theorem c1_ok (r i : Int) (n a all : Nat) (hn : 3 * r + i + 1 = n) (hn2 : n < 100) (hr : 0 ≤ r ∧ r < 8) (ha : a < 18446744073709551616) (hall : all < 18446744073709551616) :
    MeetsO Tryz.prog 215 [(false, [cI i]), (false, [cU a]), (false, [.ptr 72 0]), (false, [.ptr 88 0])] [(72, .var [cI r] true), (88, .var [cU all] true)] [(72, .var [cI r] true), (88, .var [cU (faN all (m1N n a))] true)] (aU (m1N n a)) := by
  have w1 : IntKind.i64.wrap (3 * r) = 3 * r := by rw [wrap64] <;> omega
  have w2 : IntKind.i64.wrap (3 * r + i) = 3 * r + i := by rw [wrap64] <;> omega
  have w3 : IntKind.i64.wrap (3 * r + i + 1) = (n : Int) := by rw [wrap64] <;> omega
  have w4 : IntKind.u64.wrap (n : Int) = (n : Int) := wS _ (by omega)
  have hnn : n * n < 10000 := Nat.mul_lt_mul'' hn2 hn2
  have hnnn : n * n * n < 1000000 := Nat.mul_lt_mul'' hnn hn2
  have w5 : IntKind.u64.wrap ((n : Int) * (n : Int)) = ((n * n : Nat) : Int) := by rw [← Int.natCast_mul]; exact wS _ (by omega)
  have w6 : IntKind.u64.wrap (((n * n : Nat) : Int) * (n : Int)) = ((n * n * n : Nat) : Int) := by rw [← Int.natCast_mul]; exact wS _ (by omega)
  have w7 : IntKind.u64.wrap (((n * n * n : Nat) : Int) + 7) = ((n * n * n + 7 : Nat) : Int) := by
    have e : (((n * n * n : Nat) : Int) + 7) = ((n * n * n + 7 : Nat) : Int) := by omega
    rw [e]; exact wS _ (by omega)
  have h1 := fa_ok a (n * n * n + 7) ha (by omega)
  have h2 := seventeen_ok (faN a (n * n * n + 7)) (faN_lt _ _)
  have h3 := fa_ok all (m1N n a) hall (m1N_lt _ _)
  refine meetsO 100 rfl Tryz.func215 rfl rfl Tryz.ntmps215 Tryz.results215 rfl ?_
  simp -dsimp -implicitDefEqProofs only [retH, w1, w2, w3, w4, w5, w6, w7, go_sem, ↓reduceIte, reduceCtorEq, Nat.reduceLT, Nat.reduceLeDiff, Nat.reduceEqDiff, Nat.reduceAdd, Nat.reduceMul, Nat.reduceSub, Nat.reduceBEq, Int.reduceLT, Int.reduceLE, Int.reduceEq, Int.reduceBEq, Int.reduceNeg]
  refine callP h1 ?_
  simp -dsimp -implicitDefEqProofs only [retH, go_sem, ↓reduceIte, reduceCtorEq, Nat.reduceLT, Nat.reduceLeDiff, Nat.reduceEqDiff, Nat.reduceAdd, Nat.reduceMul, Nat.reduceSub, Nat.reduceBEq, Int.reduceLT, Int.reduceLE, Int.reduceEq, Int.reduceBEq, Int.reduceNeg]
  refine callP h2 ?_
  simp -dsimp -implicitDefEqProofs only [retH, go_sem, ↓reduceIte, reduceCtorEq, Nat.reduceLT, Nat.reduceLeDiff, Nat.reduceEqDiff, Nat.reduceAdd, Nat.reduceMul, Nat.reduceSub, Nat.reduceBEq, Int.reduceLT, Int.reduceLE, Int.reduceEq, Int.reduceBEq, Int.reduceNeg]
  refine callP h3 ?_
  simp -dsimp -implicitDefEqProofs only [retH, go_sem, ↓reduceIte, reduceCtorEq, Nat.reduceLT, Nat.reduceLeDiff, Nat.reduceEqDiff, Nat.reduceAdd, Nat.reduceMul, Nat.reduceSub, Nat.reduceBEq, Int.reduceLT, Int.reduceLE, Int.reduceEq, Int.reduceBEq, Int.reduceNeg]
  rfl
theorem c2_ok (i : Int) (a all : Nat) (ha : a < 18446744073709551616) (hall : all < 18446744073709551616) :
    MeetsO Tryz.prog 217 [(false, [cI i]), (false, [cU a]), (false, [.ptr 88 0])] [(88, .var [cU all] true)] [(88, .var [cU all] true)] (aU (faN a all)) := by
  have h1 := fa_ok a all ha hall
  refine meetsO 100 rfl Tryz.func217 rfl rfl Tryz.ntmps217 Tryz.results217 rfl ?_
  simp -dsimp -implicitDefEqProofs only [retH, go_sem, ↓reduceIte, reduceCtorEq, Nat.reduceLT, Nat.reduceLeDiff, Nat.reduceEqDiff, Nat.reduceAdd, Nat.reduceMul, Nat.reduceSub, Nat.reduceBEq, Int.reduceLT, Int.reduceLE, Int.reduceEq, Int.reduceBEq, Int.reduceNeg]
  refine callP h1 ?_
  simp -dsimp -implicitDefEqProofs only [retH, go_sem, ↓reduceIte, reduceCtorEq, Nat.reduceLT, Nat.reduceLeDiff, Nat.reduceEqDiff, Nat.reduceAdd, Nat.reduceMul, Nat.reduceSub, Nat.reduceBEq, Int.reduceLT, Int.reduceLE, Int.reduceEq, Int.reduceBEq, Int.reduceNeg]
theorem i01 : IntKind.i64.wrap ((0 : Int) + 1) = 1 := by decide
theorem i12 : IntKind.i64.wrap ((1 : Int) + 1) = 2 := by decide
theorem i23 : IntKind.i64.wrap ((2 : Int) + 1) = 3 := by decide
theorem tn1 : Int.toNat 1 = 1 := rfl
theorem tn2 : Int.toNat 2 = 2 := rfl
theorem mix_ok (w : W3) (h : w.ok) : Meets Tryz.prog 181 [(true, [vU64 w.a, vU64 w.b, vU64 w.c])] (rAgg [vU64 (mixN w 8).a, vU64 (mixN w 8).b, vU64 (mixN w 8).c]) := by
  refine meets Tryz.func181 rfl rfl Tryz.ntmps181 Tryz.results181 rfl ?_
  simp -dsimp -implicitDefEqProofs only [go_sem, ↓reduceIte, reduceCtorEq, Nat.reduceLT, Nat.reduceLeDiff, Nat.reduceEqDiff, Nat.reduceAdd, Nat.reduceMul, Nat.reduceSub, Nat.reduceBEq, Int.reduceLT, Int.reduceLE, Int.reduceEq, Int.reduceBEq, Int.reduceNeg]
  refine vfor sitOk (ι := {r : Nat // r ≤ 8}) (fun v => ⟨16, [(7, aI (v.1 : Nat)), (3, aP 24 0), (2, aP 8 0), (1, aP 0 0)], [(24, some (.var [cU (mixN w v.1).a, cU (mixN w v.1).b, cU (mixN w v.1).c] true)), (8, some (.var [cU 0, cU 0, cU 0] true)), (0, some (.var [cU w.a, cU w.b, cU w.c] true))], 56⟩) (fun v => 8 - v.1) ⟨0, by omega⟩ ?_ ?_
  · simp -dsimp -implicitDefEqProofs only [go_sem, ↓reduceIte, reduceCtorEq, Nat.reduceLT, Nat.reduceLeDiff, Nat.reduceEqDiff, Nat.reduceAdd, Nat.reduceMul, Nat.reduceSub, Nat.reduceBEq, Int.reduceLT, Int.reduceLE, Int.reduceEq, Int.reduceBEq, Int.reduceNeg]
    exact ⟨rfl, rfl, rfl⟩
  intro ⟨r, hr⟩
  have hm := mixN_ok h r
  obtain ⟨ha, hb, hc⟩ := hm
  by_cases hr8 : r < 8
  · have c1 : ((r : Int) < 8) = True := by simp; omega
    have hA1 := c1_ok r 0 (3 * r + 1) _ 0 (by omega) (by omega) ⟨by omega, by omega⟩ ha (by decide)
    have hA2 := c1_ok r 1 (3 * r + 2) _ _ (by omega) (by omega) ⟨by omega, by omega⟩ hb (faN_lt 0 (m1N (3 * r + 1) (mixN w r).a))
    have hA3 := c1_ok r 2 (3 * r + 3) _ _ (by omega) (by omega) ⟨by omega, by omega⟩ hc (faN_lt (faN 0 (m1N (3 * r + 1) (mixN w r).a)) (m1N (3 * r + 2) (mixN w r).b))
    have hall : allN r (mixN w r) < 18446744073709551616 := faN_lt _ _
    have hB1 := c2_ok 0 _ _ (m1N_lt (3 * r + 1) (mixN w r).a) hall
    have hB2 := c2_ok 1 _ _ (m1N_lt (3 * r + 2) (mixN w r).b) hall
    have hB3 := c2_ok 2 _ _ (m1N_lt (3 * r + 3) (mixN w r).c) hall
    have ef : faN (faN (faN 0 (m1N (3 * r + 1) (mixN w r).a)) (m1N (3 * r + 2) (mixN w r).b)) (m1N (3 * r + 3) (mixN w r).c) = allN r (mixN w r) := rfl
    simp -dsimp -implicitDefEqProofs only [c1, go_sem, ↓reduceIte, reduceCtorEq, Nat.reduceLT, Nat.reduceLeDiff, Nat.reduceEqDiff, Nat.reduceAdd, Nat.reduceMul, Nat.reduceSub, Nat.reduceBEq, Int.reduceLT, Int.reduceLE, Int.reduceEq, Int.reduceBEq, Int.reduceNeg]
    refine callW rfl Tryz.func214 rfl rfl Tryz.ntmps214 Tryz.results214 rfl ?_
    simp -dsimp -implicitDefEqProofs only [retH, go_sem, ↓reduceIte, reduceCtorEq, Nat.reduceLT, Nat.reduceLeDiff, Nat.reduceEqDiff, Nat.reduceAdd, Nat.reduceMul, Nat.reduceSub, Nat.reduceBEq, Int.reduceLT, Int.reduceLE, Int.reduceEq, Int.reduceBEq, Int.reduceNeg]
    refine vrounds 4 sitOk ?_
    simp -dsimp -implicitDefEqProofs only [retH, go_sem, ↓reduceIte, reduceCtorEq, Nat.reduceLT, Nat.reduceLeDiff, Nat.reduceEqDiff, Nat.reduceAdd, Nat.reduceMul, Nat.reduceSub, Nat.reduceBEq, Int.reduceLT, Int.reduceLE, Int.reduceEq, Int.reduceBEq, Int.reduceNeg]
    refine vround ?_
    simp -dsimp -implicitDefEqProofs only [retH, go_sem, ↓reduceIte, reduceCtorEq, Nat.reduceLT, Nat.reduceLeDiff, Nat.reduceEqDiff, Nat.reduceAdd, Nat.reduceMul, Nat.reduceSub, Nat.reduceBEq, Int.reduceLT, Int.reduceLE, Int.reduceEq, Int.reduceBEq, Int.reduceNeg]
    refine ⟨drawn (by kernel_rfl), callO hA1 rfl ?_⟩
    simp -dsimp -implicitDefEqProofs only [retH, i01, i12, i23, tn1, tn2, go_sem, ↓reduceIte, reduceCtorEq, Nat.reduceLT, Nat.reduceLeDiff, Nat.reduceEqDiff, Nat.reduceAdd, Nat.reduceMul, Nat.reduceSub, Nat.reduceBEq, Int.reduceLT, Int.reduceLE, Int.reduceEq, Int.reduceBEq, Int.reduceNeg]
    refine ⟨drawn (by kernel_rfl), vround ?_⟩
    simp -dsimp -implicitDefEqProofs only [retH, i01, i12, i23, tn1, tn2, go_sem, ↓reduceIte, reduceCtorEq, Nat.reduceLT, Nat.reduceLeDiff, Nat.reduceEqDiff, Nat.reduceAdd, Nat.reduceMul, Nat.reduceSub, Nat.reduceBEq, Int.reduceLT, Int.reduceLE, Int.reduceEq, Int.reduceBEq, Int.reduceNeg]
    refine ⟨drawn (by kernel_rfl), callO hA2 rfl ?_⟩
    simp -dsimp -implicitDefEqProofs only [retH, i01, i12, i23, tn1, tn2, go_sem, ↓reduceIte, reduceCtorEq, Nat.reduceLT, Nat.reduceLeDiff, Nat.reduceEqDiff, Nat.reduceAdd, Nat.reduceMul, Nat.reduceSub, Nat.reduceBEq, Int.reduceLT, Int.reduceLE, Int.reduceEq, Int.reduceBEq, Int.reduceNeg]
    refine ⟨drawn (by kernel_rfl), vround ?_⟩
    simp -dsimp -implicitDefEqProofs only [retH, i01, i12, i23, tn1, tn2, go_sem, ↓reduceIte, reduceCtorEq, Nat.reduceLT, Nat.reduceLeDiff, Nat.reduceEqDiff, Nat.reduceAdd, Nat.reduceMul, Nat.reduceSub, Nat.reduceBEq, Int.reduceLT, Int.reduceLE, Int.reduceEq, Int.reduceBEq, Int.reduceNeg]
    refine ⟨drawn (by kernel_rfl), callO hA3 rfl ?_⟩
    simp -dsimp -implicitDefEqProofs only [retH, i01, i12, i23, tn1, tn2, ef, go_sem, ↓reduceIte, reduceCtorEq, Nat.reduceLT, Nat.reduceLeDiff, Nat.reduceEqDiff, Nat.reduceAdd, Nat.reduceMul, Nat.reduceSub, Nat.reduceBEq, Int.reduceLT, Int.reduceLE, Int.reduceEq, Int.reduceBEq, Int.reduceNeg]
    refine ⟨drawn (by kernel_rfl), vround ?_⟩
    simp -dsimp -implicitDefEqProofs only [retH, i01, i12, i23, tn1, tn2, ef, go_sem, ↓reduceIte, reduceCtorEq, Nat.reduceLT, Nat.reduceLeDiff, Nat.reduceEqDiff, Nat.reduceAdd, Nat.reduceMul, Nat.reduceSub, Nat.reduceBEq, Int.reduceLT, Int.reduceLE, Int.reduceEq, Int.reduceBEq, Int.reduceNeg]
    refine callW rfl Tryz.func214 rfl rfl Tryz.ntmps214 Tryz.results214 rfl ?_
    simp -dsimp -implicitDefEqProofs only [retH, i01, i12, i23, tn1, tn2, ef, go_sem, ↓reduceIte, reduceCtorEq, Nat.reduceLT, Nat.reduceLeDiff, Nat.reduceEqDiff, Nat.reduceAdd, Nat.reduceMul, Nat.reduceSub, Nat.reduceBEq, Int.reduceLT, Int.reduceLE, Int.reduceEq, Int.reduceBEq, Int.reduceNeg]
    refine vrounds 4 sitOk ?_
    simp -dsimp -implicitDefEqProofs only [retH, i01, i12, i23, tn1, tn2, ef, go_sem, ↓reduceIte, reduceCtorEq, Nat.reduceLT, Nat.reduceLeDiff, Nat.reduceEqDiff, Nat.reduceAdd, Nat.reduceMul, Nat.reduceSub, Nat.reduceBEq, Int.reduceLT, Int.reduceLE, Int.reduceEq, Int.reduceBEq, Int.reduceNeg]
    refine vround ?_
    simp -dsimp -implicitDefEqProofs only [retH, i01, i12, i23, tn1, tn2, ef, go_sem, ↓reduceIte, reduceCtorEq, Nat.reduceLT, Nat.reduceLeDiff, Nat.reduceEqDiff, Nat.reduceAdd, Nat.reduceMul, Nat.reduceSub, Nat.reduceBEq, Int.reduceLT, Int.reduceLE, Int.reduceEq, Int.reduceBEq, Int.reduceNeg]
    refine ⟨drawn (by kernel_rfl), callO hB1 rfl ?_⟩
    simp -dsimp -implicitDefEqProofs only [retH, i01, i12, i23, tn1, tn2, ef, go_sem, ↓reduceIte, reduceCtorEq, Nat.reduceLT, Nat.reduceLeDiff, Nat.reduceEqDiff, Nat.reduceAdd, Nat.reduceMul, Nat.reduceSub, Nat.reduceBEq, Int.reduceLT, Int.reduceLE, Int.reduceEq, Int.reduceBEq, Int.reduceNeg]
    refine ⟨drawn (by kernel_rfl), vround ?_⟩
    simp -dsimp -implicitDefEqProofs only [retH, i01, i12, i23, tn1, tn2, ef, go_sem, ↓reduceIte, reduceCtorEq, Nat.reduceLT, Nat.reduceLeDiff, Nat.reduceEqDiff, Nat.reduceAdd, Nat.reduceMul, Nat.reduceSub, Nat.reduceBEq, Int.reduceLT, Int.reduceLE, Int.reduceEq, Int.reduceBEq, Int.reduceNeg]
    refine ⟨drawn (by kernel_rfl), callO hB2 rfl ?_⟩
    simp -dsimp -implicitDefEqProofs only [retH, i01, i12, i23, tn1, tn2, ef, go_sem, ↓reduceIte, reduceCtorEq, Nat.reduceLT, Nat.reduceLeDiff, Nat.reduceEqDiff, Nat.reduceAdd, Nat.reduceMul, Nat.reduceSub, Nat.reduceBEq, Int.reduceLT, Int.reduceLE, Int.reduceEq, Int.reduceBEq, Int.reduceNeg]
    refine ⟨drawn (by kernel_rfl), vround ?_⟩
    simp -dsimp -implicitDefEqProofs only [retH, i01, i12, i23, tn1, tn2, ef, go_sem, ↓reduceIte, reduceCtorEq, Nat.reduceLT, Nat.reduceLeDiff, Nat.reduceEqDiff, Nat.reduceAdd, Nat.reduceMul, Nat.reduceSub, Nat.reduceBEq, Int.reduceLT, Int.reduceLE, Int.reduceEq, Int.reduceBEq, Int.reduceNeg]
    refine ⟨drawn (by kernel_rfl), callO hB3 rfl ?_⟩
    simp -dsimp -implicitDefEqProofs only [retH, i01, i12, i23, tn1, tn2, ef, go_sem, ↓reduceIte, reduceCtorEq, Nat.reduceLT, Nat.reduceLeDiff, Nat.reduceEqDiff, Nat.reduceAdd, Nat.reduceMul, Nat.reduceSub, Nat.reduceBEq, Int.reduceLT, Int.reduceLE, Int.reduceEq, Int.reduceBEq, Int.reduceNeg]
    refine ⟨drawn (by kernel_rfl), vround ?_⟩
    simp -dsimp -implicitDefEqProofs only [retH, i01, i12, i23, tn1, tn2, ef, go_sem, ↓reduceIte, reduceCtorEq, Nat.reduceLT, Nat.reduceLeDiff, Nat.reduceEqDiff, Nat.reduceAdd, Nat.reduceMul, Nat.reduceSub, Nat.reduceBEq, Int.reduceLT, Int.reduceLE, Int.reduceEq, Int.reduceBEq, Int.reduceNeg]
    have wr : IntKind.i64.wrap ((r : Int) + 1) = ((r + 1 : Nat) : Int) := by rw [wrap64] <;> omega
    refine again ⟨r + 1, by omega⟩ (by simp; omega) ?_
    simp -dsimp -implicitDefEqProofs only [wr, go_sem, ↓reduceIte, reduceCtorEq, Nat.reduceLT, Nat.reduceLeDiff, Nat.reduceEqDiff, Nat.reduceAdd, Nat.reduceMul, Nat.reduceSub, Nat.reduceBEq, Int.reduceLT, Int.reduceLE, Int.reduceEq, Int.reduceBEq, Int.reduceNeg]
    exact ⟨rfl, rfl, rfl⟩
  · have c1 : ((r : Int) < 8) = False := by simp; omega
    obtain rfl : r = 8 := by omega
    simp -dsimp -implicitDefEqProofs only [c1, go_sem, ↓reduceIte, reduceCtorEq, Nat.reduceLT, Nat.reduceLeDiff, Nat.reduceEqDiff, Nat.reduceAdd, Nat.reduceMul, Nat.reduceSub, Nat.reduceBEq, Int.reduceLT, Int.reduceLE, Int.reduceEq, Int.reduceBEq, Int.reduceNeg]
attribute [irreducible] mixN
end Go.Proofs.YtijfncaphfaijaaGreatDoor
namespace Go.Proofs.YtijfncaphfaijaaGreatDoor
open Go.Eng
set_option linter.unusedSimpArgs false
set_option maxRecDepth 10000

/-- Bytes, as rows. -/
abbrev byR (l : List Int) : List (List D) := l.map fun b => [.v (.int .u8 b)]
/-- A number's lowest k bytes, the highest first. -/
def putL (n : Int) : Nat → List Int
  | 0 => []
  | k + 1 => IntKind.u8.wrap (Int.fdiv n (2 ^ min (8 * k) 64)) :: putL n k
theorem putL_len (n : Int) : ∀ k, (putL n k).length = k
  | 0 => rfl
  | k + 1 => by simp [putL, putL_len n k]
theorem putL_by (n : Int) : ∀ k, isBy (putL n k)
  | 0 => fun b hb => by cases hb
  | k + 1 => fun b hb => by
    rcases List.mem_cons.1 hb with rfl | hb
    · exact wrap8 _
    · exact putL_by n k b hb
structure PutInv (n : Int) (k : Nat) where
  j : Nat
  acc : List Int
  ok : acc ++ putL n j = putL n k
  hl : acc.length + j = k
theorem put_ok (l : List Int) (n : Int) (k : Nat) (hk : k ≤ 8) (hl : l.length ≤ 1099511627776) : Meets Tryz.prog 126 [(false, [.own 1 5 (byR l)]), (false, [vU64 n]), (false, [vI k])] (rOne (.own 1 5 (byR (l ++ putL n k)))) := by
  have w0 : IntKind.i64.wrap ((k : Int) - 1) = (k : Int) - 1 := by rw [wrap64] <;> omega
  refine meets Tryz.func126 rfl rfl Tryz.ntmps126 Tryz.results126 rfl ?_
  simp -dsimp -implicitDefEqProofs only [w0, go_sem, ↓reduceIte, reduceCtorEq, Nat.reduceLT, Nat.reduceLeDiff, Nat.reduceEqDiff, Nat.reduceAdd, Nat.reduceMul, Nat.reduceSub, Nat.reduceBEq, Int.reduceLT, Int.reduceLE, Int.reduceEq, Int.reduceBEq, Int.reduceNeg]
  refine vfor sitOk (ι := PutInv n k) (fun v => ⟨22, [(2, aI ((v.j : Int) - 1)), (0, aO 0), (1, .cs false [.d (.v (.int .u64 n))])], [(0, some (.row 1 5 (byR (l ++ v.acc)) true))], 40⟩) (fun v => v.j) ⟨k, [], rfl, by simp⟩ ?_ ?_
  · simp -dsimp -implicitDefEqProofs only [go_sem, ↓reduceIte, reduceCtorEq, Nat.reduceLT, Nat.reduceLeDiff, Nat.reduceEqDiff, Nat.reduceAdd, Nat.reduceMul, Nat.reduceSub, Nat.reduceBEq, Int.reduceLT, Int.reduceLE, Int.reduceEq, Int.reduceBEq, Int.reduceNeg]
  intro ⟨j, acc, ok, hj⟩
  cases j with
  | zero =>
    have e0 : ((0 : Int) - 1) = -1 := rfl
    have ok' : acc = putL n k := by rw [← ok]; simp [putL]
    subst ok'
    simp -dsimp -implicitDefEqProofs only [e0, go_sem, ↓reduceIte, reduceCtorEq, Nat.reduceLT, Nat.reduceLeDiff, Nat.reduceEqDiff, Nat.reduceAdd, Nat.reduceMul, Nat.reduceSub, Nat.reduceBEq, Int.reduceLT, Int.reduceLE, Int.reduceEq, Int.reduceBEq, Int.reduceNeg]
  | succ j =>
    have e0 : (((j + 1 : Nat) : Int) - 1) = (j : Int) := by omega
    have e1 : (0 ≤ (j : Int)) = True := by simp
    have e2 : IntKind.i64.wrap (8 * (j : Int)) = ((8 * j : Nat) : Int) := by rw [wrap64] <;> omega
    have e3 : IntKind.i64.wrap ((j : Int) - 1) = (j : Int) - 1 := by rw [wrap64] <;> omega
    have e4 : (((8 * j : Nat) : Int) < 0) = False := by simp; omega
    simp -dsimp -implicitDefEqProofs only [e0, e1, e2, e3, e4, Option.map_some, Int.toNat_natCast, go_sem, ↓reduceIte, reduceCtorEq, Nat.reduceLT, Nat.reduceLeDiff, Nat.reduceEqDiff, Nat.reduceAdd, Nat.reduceMul, Nat.reduceSub, Nat.reduceBEq, Int.reduceLT, Int.reduceLE, Int.reduceEq, Int.reduceBEq, Int.reduceNeg]
    have hll : (l ++ acc).length ≤ 1099511627785 := by rw [List.length_append]; omega
    refine ⟨⟨by omega, by omega⟩, againT 0 0 ⟨j, acc ++ [IntKind.u8.wrap (Int.fdiv n (2 ^ min (8 * j) 64))], by rw [← ok]; simp [putL], by simp; omega⟩ (by simp) ?_⟩
    simp -dsimp -implicitDefEqProofs only [e3, List.map_append, List.map_cons, List.map_nil, List.append_assoc, go_sem, ↓reduceIte, reduceCtorEq, Nat.reduceLT, Nat.reduceLeDiff, Nat.reduceEqDiff, Nat.reduceAdd, Nat.reduceMul, Nat.reduceSub, Nat.reduceBEq, Int.reduceLT, Int.reduceLE, Int.reduceEq, Int.reduceBEq, Int.reduceNeg]
/-- A group of bytes, as a number. -/
def wordI : List Int → Nat → Int → Int
  | [], _, acc => acc
  | x :: r, i, acc => wordI r (i + 1) (bOr .u64 acc (IntKind.u64.wrap (IntKind.u64.wrap x * 2 ^ min (8 * i) 64)))
theorem bOr_rng (a b : Int) : 0 ≤ bOr .u64 a b ∧ bOr .u64 a b < 18446744073709551616 := by unfold bOr; rw [IntKind.wrap_u64]; omega
theorem wordI_rng : ∀ (l : List Int) (i : Nat) (acc : Int), 0 ≤ acc ∧ acc < 18446744073709551616 → 0 ≤ wordI l i acc ∧ wordI l i acc < 18446744073709551616
  | [], _, _, h => h
  | _ :: r, i, _, _ => wordI_rng r (i + 1) _ (bOr_rng _ _)
def wordN (l : List Int) : Nat := (wordI l 0 0).toNat
theorem wordN_eq (l : List Int) : ((wordN l : Nat) : Int) = wordI l 0 0 := by have := wordI_rng l 0 0 (by omega); unfold wordN; omega
theorem wordN_lt (l : List Int) : wordN l < 18446744073709551616 := by have := wordI_rng l 0 0 (by omega); unfold wordN; omega
def ofG (l : List Int) : List Nat := if _h : l = [] then [] else wordN (l.take 7) :: ofG (l.drop 7)
termination_by l.length
decreasing_by rw [List.length_drop]; have := List.length_pos_iff.2 _h; omega
theorem ofG_nil : ofG [] = [] := by rw [ofG]; rfl
theorem ofG_cons {l : List Int} (h : l ≠ []) : ofG l = wordN (l.take 7) :: ofG (l.drop 7) := by rw [ofG, dif_neg h]
theorem ofG_lt (l : List Int) : ∀ n ∈ ofG l, n < 18446744073709551616 := by
  by_cases h : l = []
  · subst h; rw [ofG_nil]; intro n hn; cases hn
  · have : (l.drop 7).length < l.length := by rw [List.length_drop]; have := List.length_pos_iff.2 h; omega
    rw [ofG_cons h]
    intro n hn
    rcases List.mem_cons.1 hn with rfl | hn
    · exact wordN_lt _
    · exact ofG_lt (l.drop 7) n hn
termination_by l.length
/-- Words, as data. -/
abbrev woD (l : List Nat) : D := .vec 1 (l.map fun (n : Nat) => [.v (.int .u64 (n : Int))])
structure WdInv (l : List Int) where
  i : Nat
  acc : Int
  ok : wordI (l.drop i) i acc = wordI l 0 0
  hi : i ≤ l.length
structure OfInv (l : List Int) where
  i : Nat
  acc : List Nat
  ok : acc ++ ofG (l.drop i) = ofG l
  ha : acc.length ≤ i
  hi : i ≤ l.length + 7
theorem of_ok (l : List Int) (hl : l.length ≤ 1099511627776) : Meets Tryz.prog 179 [(false, [vD (byD l)])] (rOne (vD (woD (ofG l)))) := by
  refine meetsF Tryz.func179 rfl rfl Tryz.ntmps179 Tryz.results179 rfl ?_
  simp -dsimp -implicitDefEqProofs only [go_sem, ↓reduceIte, reduceCtorEq, Nat.reduceLT, Nat.reduceLeDiff, Nat.reduceEqDiff, Nat.reduceAdd, Nat.reduceMul, Nat.reduceSub, Nat.reduceBEq, Int.reduceLT, Int.reduceLE, Int.reduceEq, Int.reduceBEq, Int.reduceNeg]
  refine callW rfl Tryz.func212 rfl rfl Tryz.ntmps212 Tryz.results212 rfl ?_
  simp -dsimp -implicitDefEqProofs only [retH, go_sem, ↓reduceIte, reduceCtorEq, Nat.reduceLT, Nat.reduceLeDiff, Nat.reduceEqDiff, Nat.reduceAdd, Nat.reduceMul, Nat.reduceSub, Nat.reduceBEq, Int.reduceLT, Int.reduceLE, Int.reduceEq, Int.reduceBEq, Int.reduceNeg]
  refine vown 8 0 25 rfl ?_
  refine vrange sitOk rfl [96] [(3, aP 8 0), (0, aD (byD l))] rfl rfl ?_ Tryz.func236 rfl rfl Tryz.ntmps236 Tryz.results236 rfl ?_
  · simp -dsimp -implicitDefEqProofs only [go_sem, ↓reduceIte, reduceCtorEq, Nat.reduceLT, Nat.reduceLeDiff, Nat.reduceEqDiff, Nat.reduceAdd, Nat.reduceMul, Nat.reduceSub, Nat.reduceBEq, Int.reduceLT, Int.reduceLE, Int.reduceEq, Int.reduceBEq, Int.reduceNeg]
  simp -dsimp -implicitDefEqProofs only [go_sem, ↓reduceIte, reduceCtorEq, Nat.reduceLT, Nat.reduceLeDiff, Nat.reduceEqDiff, Nat.reduceAdd, Nat.reduceMul, Nat.reduceSub, Nat.reduceBEq, Int.reduceLT, Int.reduceLE, Int.reduceEq, Int.reduceBEq, Int.reduceNeg]
  generalize hL : Lp.mk 31 _ _ _ _ _ = L
  refine vfor sitOk (ι := OfInv l) (fun v => ⟨31, [(4, aI v.i), (0, .cs false [.yld 97]), (1, aP 24 0), (2, aP 32 0)],
    [(97, some (.lp L)), (8, some (.var [.own 96] true)), (96, some (.row 1 25 (v.acc.map fun (n : Nat) => [.v (.int .u64 (n : Int))]) true)), (32, some (.var [cI 7] true)), (24, some (.var [cD (byD l)] true))], 113⟩) (fun v => l.length + 7 - v.i) ⟨0, [], by simp, by simp, by omega⟩ ?_ ?_
  · simp -dsimp -implicitDefEqProofs only [← hL, go_sem, ↓reduceIte, reduceCtorEq, Nat.reduceLT, Nat.reduceLeDiff, Nat.reduceEqDiff, Nat.reduceAdd, Nat.reduceMul, Nat.reduceSub, Nat.reduceBEq, Int.reduceLT, Int.reduceLE, Int.reduceEq, Int.reduceBEq, Int.reduceNeg]
  intro ⟨i, acc, ok, ha, hi⟩
  by_cases hil : i < l.length
  · have c1 : ((i : Int) < (l.length : Int)) = True := by simp; omega
    obtain ⟨part, hpart⟩ : ∃ part, part = (l.drop i).take 7 := ⟨_, rfl⟩
    have hz : part.length = min 7 (l.length - i) := by rw [hpart, List.length_take, List.length_drop]
    have hne : l.drop i ≠ [] := fun e => by have := List.drop_eq_nil_iff.1 e; omega
    have hcons := ofG_cons hne
    rw [← hpart, List.drop_drop] at hcons
    have e1 : ((List.drop i (List.take l.length (l.map fun b => ([.v (.int .u8 b)] : List D)))).length : Int) = (l.length : Int) - i := by
      rw [List.length_drop, List.length_take, List.length_map]; omega
    have e2 : (if (l.length : Int) - (i : Int) < 7 then (l.length : Int) - (i : Int) else 7) = (part.length : Int) := by rw [hz]; split <;> omega
    have e3 : IntKind.i64.wrap ((i : Int) + (part.length : Int)) = ((i + part.length : Nat) : Int) := by rw [wrap64] <;> omega
    have e4 : ((i : Int) = 0 ∧ ((i + part.length : Nat) : Int) = 0) = False := by simp; omega
    have e5 : (i < i + part.length) = True := by simp; omega
    have e6 : List.drop i (List.take (i + part.length) (l.map fun b => ([.v (.int .u8 b)] : List D))) = byR part := by
      rw [← List.map_take, ← List.map_drop, List.drop_take]
      congr 1
      rw [hpart, show i + ((l.drop i).take 7).length - i = ((l.drop i).take 7).length by omega]
      rw [List.take_eq_take_iff]
      rw [List.length_take]
      omega
    have hps : part.length ≤ 7 := by omega
    simp -dsimp -implicitDefEqProofs only [c1, e1, e2, e3, e4, e5, e6, Int.toNat_natCast, go_sem, ↓reduceIte, reduceCtorEq, Nat.reduceLT, Nat.reduceLeDiff, Nat.reduceEqDiff, Nat.reduceAdd, Nat.reduceMul, Nat.reduceSub, Nat.reduceBEq, Int.reduceLT, Int.reduceLE, Int.reduceEq, Int.reduceBEq, Int.reduceNeg]
    refine ⟨by omega, drawn (by kernel_rfl), ⟨by omega, by omega, by omega⟩, yieldW sitOk ?_⟩
    simp -dsimp -implicitDefEqProofs only [← hL, go_sem, ↓reduceIte, reduceCtorEq, Nat.reduceLT, Nat.reduceLeDiff, Nat.reduceEqDiff, Nat.reduceAdd, Nat.reduceMul, Nat.reduceSub, Nat.reduceBEq, Int.reduceLT, Int.reduceLE, Int.reduceEq, Int.reduceBEq, Int.reduceNeg]
    intro ro
    generalize hL2 : Lp.mk 31 _ _ _ _ _ = L2
    refine vfor sitOk (ι := WdInv part) (fun v => ⟨31, [(13, aI v.i), (12, aI part.length), (11, aD (byD part)), (5, .cs false [.d (.v (.int .u64 v.acc))]), (3, aP 8 0)],
      [(97, some (.lp L2)), (8, some (.var [.own 96] true)), (96, some (.row 1 25 (acc.map fun (n : Nat) => [.v (.int .u64 (n : Int))]) true)), (32, some (.var [cI 7] true)), (24, some (.var [cD (byD l)] true))], 281⟩) (fun v => part.length - v.i) ⟨0, 0, rfl, by omega⟩ ?_ ?_
    · simp -dsimp -implicitDefEqProofs only [← hL2, go_sem, ↓reduceIte, reduceCtorEq, Nat.reduceLT, Nat.reduceLeDiff, Nat.reduceEqDiff, Nat.reduceAdd, Nat.reduceMul, Nat.reduceSub, Nat.reduceBEq, Int.reduceLT, Int.reduceLE, Int.reduceEq, Int.reduceBEq, Int.reduceNeg]
    intro ⟨k, w, hk, hkl⟩
    by_cases hkp : k < part.length
    · have c2 : ((k : Int) < (part.length : Int)) = True := by simp; omega
      obtain ⟨x, hx⟩ : ∃ x, part[k]? = some x := ⟨_, List.getElem?_eq_getElem hkp⟩
      have w1 : IntKind.i64.wrap (8 * (k : Int)) = ((8 * k : Nat) : Int) := by rw [wrap64] <;> omega
      have w2 : (((8 * k : Nat) : Int) < 0) = False := by simp; omega
      have w3 : IntKind.i64.wrap ((k : Int) + 1) = ((k + 1 : Nat) : Int) := by rw [wrap64] <;> omega
      simp -dsimp -implicitDefEqProofs only [c2, hx, forall_eq', w1, w2, w3, Option.map_some, Int.toNat_natCast, go_sem, ↓reduceIte, reduceCtorEq, Nat.reduceLT, Nat.reduceLeDiff, Nat.reduceEqDiff, Nat.reduceAdd, Nat.reduceMul, Nat.reduceSub, Nat.reduceBEq, Int.reduceLT, Int.reduceLE, Int.reduceEq, Int.reduceBEq, Int.reduceNeg]
      have hdk : part.drop k = x :: part.drop (k + 1) := by
        rw [List.drop_eq_getElem_cons hkp]
        rw [List.getElem?_eq_getElem hkp] at hx
        cases hx; rfl
      refine ⟨by omega, hkp, again ⟨k + 1, bOr .u64 w (IntKind.u64.wrap (IntKind.u64.wrap x * 2 ^ min (8 * k) 64)), by rw [hdk] at hk; exact hk, by omega⟩ (by simp; omega) ?_⟩
      simp -dsimp -implicitDefEqProofs only [w3, ← hL2, go_sem, ↓reduceIte, reduceCtorEq, Nat.reduceLT, Nat.reduceLeDiff, Nat.reduceEqDiff, Nat.reduceAdd, Nat.reduceMul, Nat.reduceSub, Nat.reduceBEq, Int.reduceLT, Int.reduceLE, Int.reduceEq, Int.reduceBEq, Int.reduceNeg]
    · have c2 : ((k : Int) < (part.length : Int)) = False := by simp; omega
      obtain rfl : k = part.length := by omega
      have hw : w = ((wordN part : Nat) : Int) := by
        rw [wordN_eq, ← hk, List.drop_length]; rfl
      subst hw
      have w4 : IntKind.i64.wrap ((i : Int) + 7) = ((i + 7 : Nat) : Int) := by rw [wrap64] <;> omega
      simp -dsimp -implicitDefEqProofs only [c2, go_sem, ↓reduceIte, reduceCtorEq, Nat.reduceLT, Nat.reduceLeDiff, Nat.reduceEqDiff, Nat.reduceAdd, Nat.reduceMul, Nat.reduceSub, Nat.reduceBEq, Int.reduceLT, Int.reduceLE, Int.reduceEq, Int.reduceBEq, Int.reduceNeg]
      refine ⟨by omega, ?_⟩
      refine againO 96 8 0 ⟨i + 7, acc ++ [wordN part], ?_, by simp; omega, by omega⟩ (by simp; omega) ?_
      · rw [← ok, hcons, List.append_assoc]; rfl
      simp -dsimp -implicitDefEqProofs only [w4, ← hL, ← hL2, List.map_append, List.map_cons, List.map_nil, go_sem, ↓reduceIte, reduceCtorEq, Nat.reduceLT, Nat.reduceLeDiff, Nat.reduceEqDiff, Nat.reduceAdd, Nat.reduceMul, Nat.reduceSub, Nat.reduceBEq, Int.reduceLT, Int.reduceLE, Int.reduceEq, Int.reduceBEq, Int.reduceNeg]
  · have c1 : ((i : Int) < (l.length : Int)) = False := by simp; omega
    have hd : l.drop i = [] := List.drop_eq_nil_iff.2 (by omega)
    rw [hd, ofG_nil, List.append_nil] at ok
    subst ok
    simp -dsimp -implicitDefEqProofs only [c1, ← hL, retH, go_sem, ↓reduceIte, reduceCtorEq, Nat.reduceLT, Nat.reduceLeDiff, Nat.reduceEqDiff, Nat.reduceAdd, Nat.reduceMul, Nat.reduceSub, Nat.reduceBEq, Int.reduceLT, Int.reduceLE, Int.reduceEq, Int.reduceBEq, Int.reduceNeg]
    refine retF [96] ?_
    simp -dsimp -implicitDefEqProofs only [go_sem, ↓reduceIte, reduceCtorEq, Nat.reduceLT, Nat.reduceLeDiff, Nat.reduceEqDiff, Nat.reduceAdd, Nat.reduceMul, Nat.reduceSub, Nat.reduceBEq, Int.reduceLT, Int.reduceLE, Int.reduceEq, Int.reduceBEq, Int.reduceNeg]
end Go.Proofs.YtijfncaphfaijaaGreatDoor
namespace Go.Proofs.YtijfncaphfaijaaGreatDoor
open Go.Eng
set_option linter.unusedSimpArgs false
set_option maxRecDepth 10000

/-- A word more, or two. -/
def stepG : List Nat → W3 → W3
  | [], w => mixN w 8
  | [x], w => mixN ⟨faN w.a x, w.b, w.c⟩ 8
  | x :: y :: _, w => mixN ⟨faN w.a x, faN w.b y, w.c⟩ 8
def sumG : List Nat → W3 → W3
  | [], w => w
  | [x], w => stepG [x] w
  | x :: y :: r, w => sumG r (stepG [x, y] w)
def sum0 (l : List Nat) (w : W3) : W3 := if l = [] then stepG [] w else sumG l w
def wordsOk (l : List Nat) : Prop := ∀ n ∈ l, n < 18446744073709551616
theorem mix8_ok {w : W3} (h : w.ok) : (mixN w 8).ok := by
  have h2 := mixN_ok h 8
  exact h2
theorem w3_ok {a b c : Nat} (ha : a < 18446744073709551616) (hb : b < 18446744073709551616) (hc : c < 18446744073709551616) : W3.ok ⟨a, b, c⟩ := ⟨ha, hb, hc⟩
theorem stepG_ok {l : List Nat} {w : W3} (h : w.ok) : (stepG l w).ok := by
  obtain ⟨h1, h2, h3⟩ := h
  cases l with
  | nil => simp only [stepG]; apply mix8_ok; exact w3_ok h1 h2 h3
  | cons x l => cases l with
    | nil => simp only [stepG]; apply mix8_ok; exact w3_ok (faN_lt _ _) h2 h3
    | cons y l => simp only [stepG]; apply mix8_ok; exact w3_ok (faN_lt _ _) (faN_lt _ _) h3
theorem sum0_nil (w : W3) : sum0 [] w = mixN w 8 := by simp only [sum0, if_true, stepG]
theorem sum0_cons (x : Nat) (l : List Nat) (w : W3) : sum0 (x :: l) w = sumG (x :: l) w := by simp only [sum0]; rw [if_neg (by simp)]
theorem sumG_nil (w : W3) : sumG [] w = w := by simp only [sumG]
theorem sumG_one (x : Nat) (w : W3) : sumG [x] w = mixN ⟨faN w.a x, w.b, w.c⟩ 8 := by simp only [sumG, stepG]
theorem sumG_two (x y : Nat) (r : List Nat) (w : W3) : sumG (x :: y :: r) w = sumG r (mixN ⟨faN w.a x, faN w.b y, w.c⟩ 8) := by simp only [sumG, stepG]
def sumN (b : List Int) : W3 := sum0 (ofG b) ⟨0, 0, b.length⟩
structure SmInv (b : List Int) where
  first : Bool
  l : List Nat
  w : W3
  hl : wordsOk l
  hw : w.ok
  ok : (if first then sum0 l w else sumG l w) = sumN b
theorem sum_ok (b : List Int) (hb : b.length ≤ 1099511627776) : Meets Tryz.prog 127 [(false, [vD (byD b)])] (rAgg [vU64 (sumN b).a, vU64 (sumN b).b]) := by
  have hof := of_ok b hb
  have w1 : IntKind.u64.wrap (b.length : Int) = ((b.length : Nat) : Int) := wS _ (by omega)
  refine meets Tryz.func127 rfl rfl Tryz.ntmps127 Tryz.results127 rfl ?_
  simp -dsimp -implicitDefEqProofs only [w1, go_sem, ↓reduceIte, reduceCtorEq, Nat.reduceLT, Nat.reduceLeDiff, Nat.reduceEqDiff, Nat.reduceAdd, Nat.reduceMul, Nat.reduceSub, Nat.reduceBEq, Int.reduceLT, Int.reduceLE, Int.reduceEq, Int.reduceBEq, Int.reduceNeg]
  refine callP hof ?_
  simp -dsimp -implicitDefEqProofs only [go_sem, ↓reduceIte, reduceCtorEq, Nat.reduceLT, Nat.reduceLeDiff, Nat.reduceEqDiff, Nat.reduceAdd, Nat.reduceMul, Nat.reduceSub, Nat.reduceBEq, Int.reduceLT, Int.reduceLE, Int.reduceEq, Int.reduceBEq, Int.reduceNeg]
  refine vfor sitOk (ι := SmInv b) (fun v => ⟨49, [(5, aB v.first), (4, aD (woD v.l)), (3, aP 40 0), (2, aP 0 0)], [(40, some (.var [cU v.w.a, cU v.w.b, cU v.w.c] true)), (0, some (.var [cU 0, cU 0] true))], 88⟩) (fun v => (if v.first then 1 else 0) + v.l.length)
    ⟨true, ofG b, ⟨0, 0, b.length⟩, ofG_lt b, w3_ok (by decide) (by decide) (by omega), rfl⟩ ?_ ?_
  · simp -dsimp -implicitDefEqProofs only [go_sem, ↓reduceIte, reduceCtorEq, Nat.reduceLT, Nat.reduceLeDiff, Nat.reduceEqDiff, Nat.reduceAdd, Nat.reduceMul, Nat.reduceSub, Nat.reduceBEq, Int.reduceLT, Int.reduceLE, Int.reduceEq, Int.reduceBEq, Int.reduceNeg]
  intro ⟨first, l, w, hl, hw, ok⟩
  obtain ⟨ha, hb, hc⟩ := hw
  have h01 : IntKind.i64.wrap ((0 : Int) + 1) = 1 := by decide
  have h12 : IntKind.i64.wrap ((1 : Int) + 1) = 2 := by decide
  rcases l with _ | ⟨x, _ | ⟨y, r⟩⟩
  · have hmix := mix_ok w ⟨ha, hb, hc⟩
    cases first with
    | true =>
      simp -dsimp -implicitDefEqProofs only [go_sem, ↓reduceIte, reduceCtorEq, Nat.reduceLT, Nat.reduceLeDiff, Nat.reduceEqDiff, Nat.reduceAdd, Nat.reduceMul, Nat.reduceSub, Nat.reduceBEq, Int.reduceLT, Int.reduceLE, Int.reduceEq, Int.reduceBEq, Int.reduceNeg]
      refine vrounds 2 sitOk ?_
      simp -dsimp -implicitDefEqProofs only [go_sem, ↓reduceIte, reduceCtorEq, Nat.reduceLT, Nat.reduceLeDiff, Nat.reduceEqDiff, Nat.reduceAdd, Nat.reduceMul, Nat.reduceSub, Nat.reduceBEq, Int.reduceLT, Int.reduceLE, Int.reduceEq, Int.reduceBEq, Int.reduceNeg]
      refine vround ?_
      simp -dsimp -implicitDefEqProofs only [go_sem, ↓reduceIte, reduceCtorEq, Nat.reduceLT, Nat.reduceLeDiff, Nat.reduceEqDiff, Nat.reduceAdd, Nat.reduceMul, Nat.reduceSub, Nat.reduceBEq, Int.reduceLT, Int.reduceLE, Int.reduceEq, Int.reduceBEq, Int.reduceNeg]
      refine callP hmix ?_
      simp -dsimp -implicitDefEqProofs only [go_sem, ↓reduceIte, reduceCtorEq, Nat.reduceLT, Nat.reduceLeDiff, Nat.reduceEqDiff, Nat.reduceAdd, Nat.reduceMul, Nat.reduceSub, Nat.reduceBEq, Int.reduceLT, Int.reduceLE, Int.reduceEq, Int.reduceBEq, Int.reduceNeg]
      refine again ⟨false, [], mixN w 8, fun n hn => by (cases hn), mix8_ok ⟨ha, hb, hc⟩, by simp only [if_true, sum0_nil] at ok; rw [← ok, if_neg (by simp), sumG_nil]⟩ (by simp) ?_
      simp -dsimp -implicitDefEqProofs only [go_sem, ↓reduceIte, reduceCtorEq, Nat.reduceLT, Nat.reduceLeDiff, Nat.reduceEqDiff, Nat.reduceAdd, Nat.reduceMul, Nat.reduceSub, Nat.reduceBEq, Int.reduceLT, Int.reduceLE, Int.reduceEq, Int.reduceBEq, Int.reduceNeg]
    | false =>
      have ok' : w = sumN b := by rw [← ok, if_neg (by simp), sumG_nil]
      subst ok'
      simp -dsimp -implicitDefEqProofs only [tn2, go_sem, ↓reduceIte, reduceCtorEq, Nat.reduceLT, Nat.reduceLeDiff, Nat.reduceEqDiff, Nat.reduceAdd, Nat.reduceMul, Nat.reduceSub, Nat.reduceBEq, Int.reduceLT, Int.reduceLE, Int.reduceEq, Int.reduceBEq, Int.reduceNeg]
  · have hx : x < 18446744073709551616 := hl x (List.mem_cons_self ..)
    have hadd := fa_ok w.a x ha hx
    have hmix := mix_ok ⟨faN w.a x, w.b, w.c⟩ (w3_ok (faN_lt _ _) hb hc)
    cases first <;>
    · simp -dsimp -implicitDefEqProofs only [tn1, go_sem, ↓reduceIte, reduceCtorEq, Nat.reduceLT, Nat.reduceLeDiff, Nat.reduceEqDiff, Nat.reduceAdd, Nat.reduceMul, Nat.reduceSub, Nat.reduceBEq, Int.reduceLT, Int.reduceLE, Int.reduceEq, Int.reduceBEq, Int.reduceNeg]
      refine vrounds 3 sitOk ?_
      simp -dsimp -implicitDefEqProofs only [go_sem, ↓reduceIte, reduceCtorEq, Nat.reduceLT, Nat.reduceLeDiff, Nat.reduceEqDiff, Nat.reduceAdd, Nat.reduceMul, Nat.reduceSub, Nat.reduceBEq, Int.reduceLT, Int.reduceLE, Int.reduceEq, Int.reduceBEq, Int.reduceNeg]
      refine vround ?_
      simp -dsimp -implicitDefEqProofs only [h01, go_sem, ↓reduceIte, reduceCtorEq, Nat.reduceLT, Nat.reduceLeDiff, Nat.reduceEqDiff, Nat.reduceAdd, Nat.reduceMul, Nat.reduceSub, Nat.reduceBEq, Int.reduceLT, Int.reduceLE, Int.reduceEq, Int.reduceBEq, Int.reduceNeg]
      refine callP hadd ?_
      simp -dsimp -implicitDefEqProofs only [h01, go_sem, ↓reduceIte, reduceCtorEq, Nat.reduceLT, Nat.reduceLeDiff, Nat.reduceEqDiff, Nat.reduceAdd, Nat.reduceMul, Nat.reduceSub, Nat.reduceBEq, Int.reduceLT, Int.reduceLE, Int.reduceEq, Int.reduceBEq, Int.reduceNeg]
      refine vround ?_
      simp -dsimp -implicitDefEqProofs only [go_sem, ↓reduceIte, reduceCtorEq, Nat.reduceLT, Nat.reduceLeDiff, Nat.reduceEqDiff, Nat.reduceAdd, Nat.reduceMul, Nat.reduceSub, Nat.reduceBEq, Int.reduceLT, Int.reduceLE, Int.reduceEq, Int.reduceBEq, Int.reduceNeg]
      refine callP hmix ?_
      simp -dsimp -implicitDefEqProofs only [go_sem, ↓reduceIte, reduceCtorEq, Nat.reduceLT, Nat.reduceLeDiff, Nat.reduceEqDiff, Nat.reduceAdd, Nat.reduceMul, Nat.reduceSub, Nat.reduceBEq, Int.reduceLT, Int.reduceLE, Int.reduceEq, Int.reduceBEq, Int.reduceNeg]
      refine again ⟨false, [], mixN ⟨faN w.a x, w.b, w.c⟩ 8, fun n hn => by (cases hn), mix8_ok (w3_ok (faN_lt _ _) hb hc), by simp only [if_true, reduceIte, Bool.false_eq_true, sum0_cons, sumG_one] at ok; rw [← ok, if_neg (by simp), sumG_nil]⟩ (by simp) ?_
      simp -dsimp -implicitDefEqProofs only [tn1, go_sem, ↓reduceIte, reduceCtorEq, Nat.reduceLT, Nat.reduceLeDiff, Nat.reduceEqDiff, Nat.reduceAdd, Nat.reduceMul, Nat.reduceSub, Nat.reduceBEq, Int.reduceLT, Int.reduceLE, Int.reduceEq, Int.reduceBEq, Int.reduceNeg]
  · have hx : x < 18446744073709551616 := hl x (List.mem_cons_self ..)
    have hy : y < 18446744073709551616 := hl y (List.mem_cons_of_mem _ (List.mem_cons_self ..))
    have hadd := fa_ok w.a x ha hx
    have hadd2 := fa_ok w.b y hb hy
    have hmix := mix_ok ⟨faN w.a x, faN w.b y, w.c⟩ (w3_ok (faN_lt _ _) (faN_lt _ _) hc)
    have f1 : (0 < ((r.length + 1 + 1 : Nat) : Int)) = True := by simp; omega
    have f2 : (if ((r.length + 1 + 1 : Nat) : Int) < 2 then ((r.length + 1 + 1 : Nat) : Int) else 2) = 2 := if_neg (by omega)
    cases first <;>
    · simp -dsimp -implicitDefEqProofs only [f1, f2, tn2, go_sem, ↓reduceIte, reduceCtorEq, Nat.reduceLT, Nat.reduceLeDiff, Nat.reduceEqDiff, Nat.reduceAdd, Nat.reduceMul, Nat.reduceSub, Nat.reduceBEq, Int.reduceLT, Int.reduceLE, Int.reduceEq, Int.reduceBEq, Int.reduceNeg]
      refine ⟨by omega, ?_⟩
      refine vrounds 4 sitOk ?_
      simp -dsimp -implicitDefEqProofs only [go_sem, ↓reduceIte, reduceCtorEq, Nat.reduceLT, Nat.reduceLeDiff, Nat.reduceEqDiff, Nat.reduceAdd, Nat.reduceMul, Nat.reduceSub, Nat.reduceBEq, Int.reduceLT, Int.reduceLE, Int.reduceEq, Int.reduceBEq, Int.reduceNeg]
      refine vround ?_
      simp -dsimp -implicitDefEqProofs only [h01, go_sem, ↓reduceIte, reduceCtorEq, Nat.reduceLT, Nat.reduceLeDiff, Nat.reduceEqDiff, Nat.reduceAdd, Nat.reduceMul, Nat.reduceSub, Nat.reduceBEq, Int.reduceLT, Int.reduceLE, Int.reduceEq, Int.reduceBEq, Int.reduceNeg]
      refine callP hadd ?_
      simp -dsimp -implicitDefEqProofs only [h01, go_sem, ↓reduceIte, reduceCtorEq, Nat.reduceLT, Nat.reduceLeDiff, Nat.reduceEqDiff, Nat.reduceAdd, Nat.reduceMul, Nat.reduceSub, Nat.reduceBEq, Int.reduceLT, Int.reduceLE, Int.reduceEq, Int.reduceBEq, Int.reduceNeg]
      refine vround ?_
      simp -dsimp -implicitDefEqProofs only [tn1, go_sem, ↓reduceIte, reduceCtorEq, Nat.reduceLT, Nat.reduceLeDiff, Nat.reduceEqDiff, Nat.reduceAdd, Nat.reduceMul, Nat.reduceSub, Nat.reduceBEq, Int.reduceLT, Int.reduceLE, Int.reduceEq, Int.reduceBEq, Int.reduceNeg]
      refine callP hadd2 ?_
      simp -dsimp -implicitDefEqProofs only [h12, tn1, go_sem, ↓reduceIte, reduceCtorEq, Nat.reduceLT, Nat.reduceLeDiff, Nat.reduceEqDiff, Nat.reduceAdd, Nat.reduceMul, Nat.reduceSub, Nat.reduceBEq, Int.reduceLT, Int.reduceLE, Int.reduceEq, Int.reduceBEq, Int.reduceNeg]
      refine vround ?_
      simp -dsimp -implicitDefEqProofs only [go_sem, ↓reduceIte, reduceCtorEq, Nat.reduceLT, Nat.reduceLeDiff, Nat.reduceEqDiff, Nat.reduceAdd, Nat.reduceMul, Nat.reduceSub, Nat.reduceBEq, Int.reduceLT, Int.reduceLE, Int.reduceEq, Int.reduceBEq, Int.reduceNeg]
      refine ⟨by omega, callP hmix ?_⟩
      simp -dsimp -implicitDefEqProofs only [go_sem, ↓reduceIte, reduceCtorEq, Nat.reduceLT, Nat.reduceLeDiff, Nat.reduceEqDiff, Nat.reduceAdd, Nat.reduceMul, Nat.reduceSub, Nat.reduceBEq, Int.reduceLT, Int.reduceLE, Int.reduceEq, Int.reduceBEq, Int.reduceNeg]
      refine again ⟨false, r, mixN ⟨faN w.a x, faN w.b y, w.c⟩ 8, fun n hn => hl n (List.mem_cons_of_mem _ (List.mem_cons_of_mem _ hn)), mix8_ok (w3_ok (faN_lt _ _) (faN_lt _ _) hc), by simp only [if_true, reduceIte, Bool.false_eq_true, sum0_cons, sumG_two] at ok; rw [← ok, if_neg (by simp)]⟩ (by simp only [List.length_cons]; simp; omega) ?_
      simp -dsimp -implicitDefEqProofs only [tn2, go_sem, ↓reduceIte, reduceCtorEq, Nat.reduceLT, Nat.reduceLeDiff, Nat.reduceEqDiff, Nat.reduceAdd, Nat.reduceMul, Nat.reduceSub, Nat.reduceBEq, Int.reduceLT, Int.reduceLE, Int.reduceEq, Int.reduceBEq, Int.reduceNeg]
      exact List.take_of_length_le (by simp)
theorem bytes_ok (s0 s1 : Nat) : Meets Tryz.prog 132 [(true, [vU64 s0, vU64 s1])] (rOne (vD (byD (putL s0 8 ++ putL s1 8)))) := by
  have p0 := put_ok [] s0 8 (by decide) (by decide)
  have p1 := put_ok (putL s0 8) s1 8 (by decide) (by rw [putL_len]; decide)
  have h01 : IntKind.i64.wrap ((0 : Int) + 1) = 1 := by decide
  have h12 : IntKind.i64.wrap ((1 : Int) + 1) = 2 := by decide
  refine meetsF Tryz.func132 rfl rfl Tryz.ntmps132 Tryz.results132 rfl ?_
  simp -dsimp -implicitDefEqProofs only [go_sem, ↓reduceIte, reduceCtorEq, Nat.reduceLT, Nat.reduceLeDiff, Nat.reduceEqDiff, Nat.reduceAdd, Nat.reduceMul, Nat.reduceSub, Nat.reduceBEq, Int.reduceLT, Int.reduceLE, Int.reduceEq, Int.reduceBEq, Int.reduceNeg]
  refine vownE 3 5 rfl ?_
  refine vrounds 3 sitOk ?_
  simp -dsimp -implicitDefEqProofs only [go_sem, ↓reduceIte, reduceCtorEq, Nat.reduceLT, Nat.reduceLeDiff, Nat.reduceEqDiff, Nat.reduceAdd, Nat.reduceMul, Nat.reduceSub, Nat.reduceBEq, Int.reduceLT, Int.reduceLE, Int.reduceEq, Int.reduceBEq, Int.reduceNeg]
  refine vround ?_
  simp -dsimp -implicitDefEqProofs only [go_sem, ↓reduceIte, reduceCtorEq, Nat.reduceLT, Nat.reduceLeDiff, Nat.reduceEqDiff, Nat.reduceAdd, Nat.reduceMul, Nat.reduceSub, Nat.reduceBEq, Int.reduceLT, Int.reduceLE, Int.reduceEq, Int.reduceBEq, Int.reduceNeg]
  refine callE [true] ?_
  simp -dsimp -implicitDefEqProofs only [go_sem, ↓reduceIte, reduceCtorEq, Nat.reduceLT, Nat.reduceLeDiff, Nat.reduceEqDiff, Nat.reduceAdd, Nat.reduceMul, Nat.reduceSub, Nat.reduceBEq, Int.reduceLT, Int.reduceLE, Int.reduceEq, Int.reduceBEq, Int.reduceNeg]
  refine ⟨_, p0, ?_⟩
  simp -dsimp -implicitDefEqProofs only [h01, List.nil_append, go_sem, ↓reduceIte, reduceCtorEq, Nat.reduceLT, Nat.reduceLeDiff, Nat.reduceEqDiff, Nat.reduceAdd, Nat.reduceMul, Nat.reduceSub, Nat.reduceBEq, Int.reduceLT, Int.reduceLE, Int.reduceEq, Int.reduceBEq, Int.reduceNeg]
  refine vround ?_
  simp -dsimp -implicitDefEqProofs only [h01, tn1, go_sem, ↓reduceIte, reduceCtorEq, Nat.reduceLT, Nat.reduceLeDiff, Nat.reduceEqDiff, Nat.reduceAdd, Nat.reduceMul, Nat.reduceSub, Nat.reduceBEq, Int.reduceLT, Int.reduceLE, Int.reduceEq, Int.reduceBEq, Int.reduceNeg]
  refine callE [true] ?_
  simp -dsimp -implicitDefEqProofs only [go_sem, ↓reduceIte, reduceCtorEq, Nat.reduceLT, Nat.reduceLeDiff, Nat.reduceEqDiff, Nat.reduceAdd, Nat.reduceMul, Nat.reduceSub, Nat.reduceBEq, Int.reduceLT, Int.reduceLE, Int.reduceEq, Int.reduceBEq, Int.reduceNeg]
  refine ⟨_, p1, ?_⟩
  simp -dsimp -implicitDefEqProofs only [h12, go_sem, ↓reduceIte, reduceCtorEq, Nat.reduceLT, Nat.reduceLeDiff, Nat.reduceEqDiff, Nat.reduceAdd, Nat.reduceMul, Nat.reduceSub, Nat.reduceBEq, Int.reduceLT, Int.reduceLE, Int.reduceEq, Int.reduceBEq, Int.reduceNeg]
  refine vround ?_
  simp -dsimp -implicitDefEqProofs only [go_sem, ↓reduceIte, reduceCtorEq, Nat.reduceLT, Nat.reduceLeDiff, Nat.reduceEqDiff, Nat.reduceAdd, Nat.reduceMul, Nat.reduceSub, Nat.reduceBEq, Int.reduceLT, Int.reduceLE, Int.reduceEq, Int.reduceBEq, Int.reduceNeg]
  refine retF [153] ?_
  simp -dsimp -implicitDefEqProofs only [go_sem, ↓reduceIte, reduceCtorEq, Nat.reduceLT, Nat.reduceLeDiff, Nat.reduceEqDiff, Nat.reduceAdd, Nat.reduceMul, Nat.reduceSub, Nat.reduceBEq, Int.reduceLT, Int.reduceLE, Int.reduceEq, Int.reduceBEq, Int.reduceNeg]
end Go.Proofs.YtijfncaphfaijaaGreatDoor
namespace Go.Proofs.YtijfncaphfaijaaGreatDoor
open Go.Eng
set_option linter.unusedSimpArgs false
set_option maxRecDepth 10000

def tagL (t : ByteArray) : List Int := t.data.toList.map fun b => (b.toNat : Int)
/-- The parts, each behind its length. -/
def frmL : List (List Int) → List Int
  | [] => []
  | p :: r => putL p.length 4 ++ p ++ frmL r
theorem strRows_by (t : ByteArray) : strRows t = byR (tagL t) := by
  unfold strRows tagL byR
  rw [List.map_map]
  rfl
theorem tagL_len (t : ByteArray) : (tagL t).length = t.size := by unfold tagL; rw [List.length_map]; rfl
theorem frmL_ge : ∀ ps : List (List Int), ps.length ≤ (frmL ps).length
  | [] => Nat.le_refl _
  | p :: r => by have := frmL_ge r; simp only [frmL, List.length_cons, List.length_append, putL_len]; omega
def frm (t : ByteArray) (ps : List (List Int)) : List Int := (t.size : Int) :: tagL t ++ frmL ps
/-- Parts, as data. -/
abbrev paD (ps : List (List Int)) : D := .vec 1 (ps.map fun p => [byD p])
structure TgInv (t : ByteArray) (ps : List (List Int)) where
  i : Nat
  acc : List Int
  ok : acc ++ frmL (ps.drop i) = frm t ps
  hi : i ≤ ps.length
theorem tagged_ok (t : ByteArray) (ps : List (List Int)) (ht : t.size < 256) (hl : (frmL ps).length ≤ 549755813888) : Meets Tryz.prog 74 [(false, [vD (.v (.string t))]), (false, [vD (paD ps)])] (rAgg [vU64 (sumN (frm t ps)).a, vU64 (sumN (frm t ps)).b]) := by
  have w1 : IntKind.u8.wrap ((t.size : Nat) : Int) = ((t.size : Nat) : Int) := by rw [IntKind.wrap_u8]; omega
  refine meets Tryz.func74 rfl rfl Tryz.ntmps74 Tryz.results74 rfl ?_
  simp -dsimp -implicitDefEqProofs only [w1, go_sem, ↓reduceIte, reduceCtorEq, Nat.reduceLT, Nat.reduceLeDiff, Nat.reduceEqDiff, Nat.reduceAdd, Nat.reduceMul, Nat.reduceSub, Nat.reduceBEq, Int.reduceLT, Int.reduceLE, Int.reduceEq, Int.reduceBEq, Int.reduceNeg]
  have hpl := frmL_ge ps
  rw [strRows_by]
  have htl := tagL_len t
  refine ⟨⟨by rw [List.length_map]; omega, by rw [List.length_map]; omega⟩, ?_⟩
  refine vforT sitOk 48 5 (ι := TgInv t ps) (fun v => ⟨30, [(16, aI v.i), (15, aI ps.length), (14, aD (paD ps)), (5, aO 48), (4, aP 0 0)], [(48, some (.row 1 5 (byR v.acc) true)), (0, some (.var [cU 0, cU 0] true))], 88⟩) (fun v => ps.length - v.i) ⟨0, (t.size : Int) :: tagL t, rfl, by omega⟩ ?_ ?_
  · simp -dsimp -implicitDefEqProofs only [go_sem, ↓reduceIte, reduceCtorEq, Nat.reduceLT, Nat.reduceLeDiff, Nat.reduceEqDiff, Nat.reduceAdd, Nat.reduceMul, Nat.reduceSub, Nat.reduceBEq, Int.reduceLT, Int.reduceLE, Int.reduceEq, Int.reduceBEq, Int.reduceNeg]
  intro ⟨i, acc, ok, hi⟩
  have hal : acc.length + (frmL (ps.drop i)).length ≤ 549755813888 + 256 := by
    have := congrArg List.length ok
    rw [List.length_append] at this
    rw [this]
    unfold frm
    rw [List.cons_append, List.length_cons, List.length_append]
    omega
  by_cases hip : i < ps.length
  · have c1 : ((i : Int) < (ps.length : Int)) = True := by simp; omega
    obtain ⟨p, hp⟩ : ∃ p, ps[i]? = some p := ⟨_, List.getElem?_eq_getElem hip⟩
    have hdk : ps.drop i = p :: ps.drop (i + 1) := by
      rw [List.drop_eq_getElem_cons hip]
      rw [List.getElem?_eq_getElem hip] at hp
      cases hp; rfl
    rw [hdk] at ok hal
    simp only [frmL, List.length_append, putL_len] at hal
    have hput := put_ok acc (p.length : Int) 4 (by decide) (by omega)
    have w2 : IntKind.i64.wrap ((i : Int) + 1) = ((i + 1 : Nat) : Int) := by rw [wrap64] <;> omega
    have w3 : IntKind.u64.wrap (p.length : Int) = ((p.length : Nat) : Int) := wS _ (by omega)
    simp -dsimp -implicitDefEqProofs only [c1, hp, forall_eq', w3, go_sem, ↓reduceIte, reduceCtorEq, Nat.reduceLT, Nat.reduceLeDiff, Nat.reduceEqDiff, Nat.reduceAdd, Nat.reduceMul, Nat.reduceSub, Nat.reduceBEq, Int.reduceLT, Int.reduceLE, Int.reduceEq, Int.reduceBEq, Int.reduceNeg]
    refine ⟨by omega, hip, callE [true] ?_⟩
    simp -dsimp -implicitDefEqProofs only [go_sem, ↓reduceIte, reduceCtorEq, Nat.reduceLT, Nat.reduceLeDiff, Nat.reduceEqDiff, Nat.reduceAdd, Nat.reduceMul, Nat.reduceSub, Nat.reduceBEq, Int.reduceLT, Int.reduceLE, Int.reduceEq, Int.reduceBEq, Int.reduceNeg]
    refine ⟨_, hput, ?_⟩
    simp -dsimp -implicitDefEqProofs only [go_sem, ↓reduceIte, reduceCtorEq, Nat.reduceLT, Nat.reduceLeDiff, Nat.reduceEqDiff, Nat.reduceAdd, Nat.reduceMul, Nat.reduceSub, Nat.reduceBEq, Int.reduceLT, Int.reduceLE, Int.reduceEq, Int.reduceBEq, Int.reduceNeg]
    have hll : (acc ++ putL (p.length : Int) 4).length = acc.length + 4 := by rw [List.length_append, putL_len]
    refine ⟨⟨by omega, by omega⟩, againT 48 5 ⟨i + 1, acc ++ putL p.length 4 ++ p, by rw [← ok]; simp [frmL], by omega⟩ (by simp; omega) ?_⟩
    simp -dsimp -implicitDefEqProofs only [w2, List.map_append, List.append_assoc, go_sem, ↓reduceIte, reduceCtorEq, Nat.reduceLT, Nat.reduceLeDiff, Nat.reduceEqDiff, Nat.reduceAdd, Nat.reduceMul, Nat.reduceSub, Nat.reduceBEq, Int.reduceLT, Int.reduceLE, Int.reduceEq, Int.reduceBEq, Int.reduceNeg]
  · have c1 : ((i : Int) < (ps.length : Int)) = False := by simp; omega
    have hd : ps.drop i = [] := List.drop_eq_nil_iff.2 (by omega)
    rw [hd] at ok
    have ok' : acc = frm t ps := by rw [← ok]; simp [frmL]
    subst ok'
    have hsum := sum_ok (frm t ps) (by rw [hd] at hal; simp [frmL] at hal; omega)
    simp -dsimp -implicitDefEqProofs only [c1, go_sem, ↓reduceIte, reduceCtorEq, Nat.reduceLT, Nat.reduceLeDiff, Nat.reduceEqDiff, Nat.reduceAdd, Nat.reduceMul, Nat.reduceSub, Nat.reduceBEq, Int.reduceLT, Int.reduceLE, Int.reduceEq, Int.reduceBEq, Int.reduceNeg]
    refine callP hsum ?_
    simp -dsimp -implicitDefEqProofs only [go_sem, ↓reduceIte, reduceCtorEq, Nat.reduceLT, Nat.reduceLeDiff, Nat.reduceEqDiff, Nat.reduceAdd, Nat.reduceMul, Nat.reduceSub, Nat.reduceBEq, Int.reduceLT, Int.reduceLE, Int.reduceEq, Int.reduceBEq, Int.reduceNeg]
end Go.Proofs.YtijfncaphfaijaaGreatDoor
