
/- The group's operations, exactly: powers. The group's operations, exactly: Base, Mul, Inv, In; AddR, SubR, MulR, InvR. hash.Num. sign.bytes. -/
import Derived.Test.YtijfncaphfaijaaGreatDoorCB
namespace Go.Proofs.YtijfncaphfaijaaGreatDoor
open Go.Eng
set_option linter.unusedSimpArgs false
set_option maxRecDepth 10000

structure PwInv (n : Nat) where
  k : Nat
  hk : k ≤ 64
theorem bAnd_bit {n k : Nat} (hn : n < 18446744073709551616) (hk : k < 64) : bAnd .u64 (n : Int) ((2 ^ k : Nat) : Int) = ((n / 2 ^ k % 2 * 2 ^ k : Nat) : Int) := by
  rw [andN hn (pow_lt64 hk), and_bit]
theorem shl_bit {k : Nat} (hk : k < 64) : IntKind.u64.wrap (1 * 2 ^ min k 64) = ((2 ^ k : Nat) : Int) := by
  have h := pow_lt64 hk
  have e : (2 : Int) ^ k = ((2 ^ k : Nat) : Int) := by rw [Int.natCast_pow]; rfl
  rw [Nat.min_eq_left (by omega), Int.one_mul, e, IntKind.wrap_u64]
  generalize 2 ^ k = q at h
  omega
theorem pow_ok (a n : Nat) (ha : a < 18446744073709551616) (hn : n < 18446744073709551616) : Meets Tryz.prog 44 [(false, [vU64 a]), (false, [vU64 n])] (rOne (vU64 (a ^ n % 2305843009213691579 : Nat))) := by
  obtain ⟨len, hl, hlt, hlen⟩ := len64_ok n hn
  have w0 : IntKind.i64.wrap ((len : Int) - 1) = (len : Int) - 1 := by rw [wrap64] <;> omega
  refine meets Tryz.func44 rfl rfl Tryz.ntmps44 Tryz.results44 rfl ?_
  simp -dsimp -implicitDefEqProofs only [go_sem, ↓reduceIte, reduceCtorEq, Nat.reduceLT, Nat.reduceLeDiff, Nat.reduceEqDiff, Nat.reduceAdd, Nat.reduceMul, Nat.reduceSub, Nat.reduceBEq, Int.reduceLT, Int.reduceLE, Int.reduceEq, Int.reduceBEq, Int.reduceNeg]
  refine callW rfl Tryz.func92 rfl rfl Tryz.ntmps92 Tryz.results92 rfl ?_
  simp -dsimp -implicitDefEqProofs only [retH, go_sem, ↓reduceIte, reduceCtorEq, Nat.reduceLT, Nat.reduceLeDiff, Nat.reduceEqDiff, Nat.reduceAdd, Nat.reduceMul, Nat.reduceSub, Nat.reduceBEq, Int.reduceLT, Int.reduceLE, Int.reduceEq, Int.reduceBEq, Int.reduceNeg]
  refine callW rfl Tryz.func146 rfl rfl Tryz.ntmps146 Tryz.results146 rfl ?_
  simp -dsimp -implicitDefEqProofs only [retH, go_sem, ↓reduceIte, reduceCtorEq, Nat.reduceLT, Nat.reduceLeDiff, Nat.reduceEqDiff, Nat.reduceAdd, Nat.reduceMul, Nat.reduceSub, Nat.reduceBEq, Int.reduceLT, Int.reduceLE, Int.reduceEq, Int.reduceBEq, Int.reduceNeg]
  refine vrange sitOk rfl [] [(7, aP 56 0), (4, aP 40 0), (3, aP 32 0)] rfl rfl ?_ Tryz.func187 rfl rfl Tryz.ntmps187 Tryz.results187 rfl ?_
  · simp -dsimp -implicitDefEqProofs only [go_sem, ↓reduceIte, reduceCtorEq, Nat.reduceLT, Nat.reduceLeDiff, Nat.reduceEqDiff, Nat.reduceAdd, Nat.reduceMul, Nat.reduceSub, Nat.reduceBEq, Int.reduceLT, Int.reduceLE, Int.reduceEq, Int.reduceBEq, Int.reduceNeg]
  simp -dsimp -implicitDefEqProofs only [go_sem, ↓reduceIte, reduceCtorEq, Nat.reduceLT, Nat.reduceLeDiff, Nat.reduceEqDiff, Nat.reduceAdd, Nat.reduceMul, Nat.reduceSub, Nat.reduceBEq, Int.reduceLT, Int.reduceLE, Int.reduceEq, Int.reduceBEq, Int.reduceNeg]
  refine callP hlen ?_
  simp -dsimp -implicitDefEqProofs only [w0, go_sem, ↓reduceIte, reduceCtorEq, Nat.reduceLT, Nat.reduceLeDiff, Nat.reduceEqDiff, Nat.reduceAdd, Nat.reduceMul, Nat.reduceSub, Nat.reduceBEq, Int.reduceLT, Int.reduceLE, Int.reduceEq, Int.reduceBEq, Int.reduceNeg]
  generalize hL : Lp.mk 22 _ _ _ _ _ = L
  refine vfor sitOk (ι := PwInv n) (fun v => ⟨19, [(3, .cs false [.d (.v (.int .i64 ((v.k : Int) - 1)))]), (0, .cs false [.yld 128]), (1, aP 80 0)], [(128, some (.lp L)), (80, some (.var [.d (.v (.int .u64 n))] true)), (56, some (.var [.d (.v (.int .u64 (a ^ (n / 2 ^ v.k) % 2305843009213691579 : Nat)))] true)), (40, some (.var [.d (.v (.int .u64 a))] true)), (32, some (.var [.d (.bd 93 [.v (.int .u64 2305843009213691579)])] true))], 300⟩) (fun v => v.k) ⟨len, hl⟩ ?_ ?_
  · have e0 : n / 2 ^ len = 0 := Nat.div_eq_of_lt hlt
    simp -dsimp -implicitDefEqProofs only [e0, ← hL, go_sem, ↓reduceIte, reduceCtorEq, Nat.reduceLT, Nat.reduceLeDiff, Nat.reduceEqDiff, Nat.reduceAdd, Nat.reduceMul, Nat.reduceSub, Nat.reduceBEq, Int.reduceLT, Int.reduceLE, Int.reduceEq, Int.reduceBEq, Int.reduceNeg]
    rfl
  intro ⟨k, hk⟩
  cases k with
  | zero =>
    have ek : (((0 : Nat) : Int) - 1) = -1 := rfl
    simp -dsimp -implicitDefEqProofs only [ek, go_sem, ↓reduceIte, reduceCtorEq, Nat.reduceLT, Nat.reduceLeDiff, Nat.reduceEqDiff, Nat.reduceAdd, Nat.reduceMul, Nat.reduceSub, Nat.reduceBEq, Int.reduceLT, Int.reduceLE, Int.reduceEq, Int.reduceBEq, Int.reduceNeg]
    simp -dsimp -implicitDefEqProofs only [retH, ← hL, go_sem, ↓reduceIte, reduceCtorEq, Nat.reduceLT, Nat.reduceLeDiff, Nat.reduceEqDiff, Nat.reduceAdd, Nat.reduceMul, Nat.reduceSub, Nat.reduceBEq, Int.reduceLT, Int.reduceLE, Int.reduceEq, Int.reduceBEq, Int.reduceNeg]
    exact ⟨fun h => absurd h (by decide), fun _ => by rw [Nat.pow_zero, Nat.div_one]⟩
  | succ j =>
    have ek : (((j + 1 : Nat) : Int) - 1) = (j : Int) := by omega
    have es := shl_bit (k := j) (by omega)
    have eb := bAnd_bit (n := n) (k := j) hn (by omega)
    have en : ((j : Int) < 0) = False := by simp
    simp -dsimp -implicitDefEqProofs only [ek, es, en, Option.map_some, eb, go_sem, ↓reduceIte, reduceCtorEq, Nat.reduceLT, Nat.reduceLeDiff, Nat.reduceEqDiff, Nat.reduceAdd, Nat.reduceMul, Nat.reduceSub, Nat.reduceBEq, Int.reduceLT, Int.reduceLE, Int.reduceEq, Int.reduceBEq, Int.reduceNeg]
    intro _
    have hlt : a ^ (n / 2 ^ (j + 1)) % 2305843009213691579 < 18446744073709551616 := Nat.lt_trans (Nat.mod_lt _ (by decide)) (by decide)
    have hm := rmul_ok lzQ _ _ hlt hlt
    have hlt2 : a ^ (n / 2 ^ (j + 1)) % 2305843009213691579 * (a ^ (n / 2 ^ (j + 1)) % 2305843009213691579) % 2305843009213691579 < 18446744073709551616 := Nat.lt_trans (Nat.mod_lt _ (by decide)) (by decide)
    have hm2 := rmul_ok lzQ _ _ hlt2 ha
    have wj : IntKind.i64.wrap ((j : Int) - 1) = (j : Int) - 1 := by rw [wrap64] <;> omega
    refine yieldWd sitOk (by kernel_rfl) (by kernel_rfl) ?_
    rcases bit_cases n j with hb | hb
    · have hb0 := pow_bit0 (a := a) (q := 2305843009213691579) hb
      simp -dsimp -implicitDefEqProofs only [hb, Nat.zero_mul, ← hL, go_sem, ↓reduceIte, reduceCtorEq, Nat.reduceLT, Nat.reduceLeDiff, Nat.reduceEqDiff, Nat.reduceAdd, Nat.reduceMul, Nat.reduceSub, Nat.reduceBEq, Int.reduceLT, Int.reduceLE, Int.reduceEq, Int.reduceBEq, Int.reduceNeg]
      intro ro
      refine callP hm ?_
      simp -dsimp -implicitDefEqProofs only [go_sem, ↓reduceIte, reduceCtorEq, Nat.reduceLT, Nat.reduceLeDiff, Nat.reduceEqDiff, Nat.reduceAdd, Nat.reduceMul, Nat.reduceSub, Nat.reduceBEq, Int.reduceLT, Int.reduceLE, Int.reduceEq, Int.reduceBEq, Int.reduceNeg]
      refine ⟨drawn (by kernel_rfl), again ⟨j, by omega⟩ (by simp) ?_⟩
      simp -dsimp -implicitDefEqProofs only [wj, hb0, ← hL, go_sem, ↓reduceIte, reduceCtorEq, Nat.reduceLT, Nat.reduceLeDiff, Nat.reduceEqDiff, Nat.reduceAdd, Nat.reduceMul, Nat.reduceSub, Nat.reduceBEq, Int.reduceLT, Int.reduceLE, Int.reduceEq, Int.reduceBEq, Int.reduceNeg]
    · have hb1 := pow_bit1 (a := a) (q := 2305843009213691579) hb
      have hne : (((2 ^ j : Nat) : Int) = 0) = False := eqF (Nat.two_pow_pos j)
      simp -dsimp -implicitDefEqProofs only [hb, Nat.one_mul, hne, ← hL, go_sem, ↓reduceIte, reduceCtorEq, Nat.reduceLT, Nat.reduceLeDiff, Nat.reduceEqDiff, Nat.reduceAdd, Nat.reduceMul, Nat.reduceSub, Nat.reduceBEq, Int.reduceLT, Int.reduceLE, Int.reduceEq, Int.reduceBEq, Int.reduceNeg]
      intro ro
      refine callP hm ?_
      simp -dsimp -implicitDefEqProofs only [hne, go_sem, ↓reduceIte, reduceCtorEq, Nat.reduceLT, Nat.reduceLeDiff, Nat.reduceEqDiff, Nat.reduceAdd, Nat.reduceMul, Nat.reduceSub, Nat.reduceBEq, Int.reduceLT, Int.reduceLE, Int.reduceEq, Int.reduceBEq, Int.reduceNeg]
      refine callP hm2 ?_
      simp -dsimp -implicitDefEqProofs only [go_sem, ↓reduceIte, reduceCtorEq, Nat.reduceLT, Nat.reduceLeDiff, Nat.reduceEqDiff, Nat.reduceAdd, Nat.reduceMul, Nat.reduceSub, Nat.reduceBEq, Int.reduceLT, Int.reduceLE, Int.reduceEq, Int.reduceBEq, Int.reduceNeg]
      refine ⟨drawn (by kernel_rfl), again ⟨j, by omega⟩ (by simp) ?_⟩
      simp -dsimp -implicitDefEqProofs only [wj, hb1, ← hL, go_sem, ↓reduceIte, reduceCtorEq, Nat.reduceLT, Nat.reduceLeDiff, Nat.reduceEqDiff, Nat.reduceAdd, Nat.reduceMul, Nat.reduceSub, Nat.reduceBEq, Int.reduceLT, Int.reduceLE, Int.reduceEq, Int.reduceBEq, Int.reduceNeg]
end Go.Proofs.YtijfncaphfaijaaGreatDoor
namespace Go.Proofs.YtijfncaphfaijaaGreatDoor
open Go.Eng
set_option linter.unusedSimpArgs false
set_option maxRecDepth 10000

theorem mod_w {a m : Nat} (h : 0 < m) (hm : m < 18446744073709551616) : a % m < 18446744073709551616 := Nat.lt_trans (Nat.mod_lt _ h) hm
theorem base_ok (n : Nat) (hn : n < 18446744073709551616) : Meets Tryz.prog 47 [(false, [vU64 n])] (rOne (vU64 (4 ^ n % 2305843009213691579 : Nat))) := by
  refine meets Tryz.func47 rfl rfl Tryz.ntmps47 Tryz.results47 rfl ?_
  simp -dsimp -implicitDefEqProofs only [go_sem, ↓reduceIte, reduceCtorEq, Nat.reduceLT, Nat.reduceLeDiff, Nat.reduceEqDiff, Nat.reduceAdd, Nat.reduceMul, Nat.reduceSub, Nat.reduceBEq, Int.reduceLT, Int.reduceLE, Int.reduceEq, Int.reduceBEq, Int.reduceNeg]
  refine callP (pow_ok 4 n (by decide) hn) ?_
  simp -dsimp -implicitDefEqProofs only [go_sem, ↓reduceIte, reduceCtorEq, Nat.reduceLT, Nat.reduceLeDiff, Nat.reduceEqDiff, Nat.reduceAdd, Nat.reduceMul, Nat.reduceSub, Nat.reduceBEq, Int.reduceLT, Int.reduceLE, Int.reduceEq, Int.reduceBEq, Int.reduceNeg]
theorem gmul_ok (a b : Nat) (ha : a < 18446744073709551616) (hb : b < 18446744073709551616) : Meets Tryz.prog 46 [(false, [vU64 a]), (false, [vU64 b])] (rOne (vU64 (a * b % 2305843009213691579 : Nat))) := by
  refine meets Tryz.func46 rfl rfl Tryz.ntmps46 Tryz.results46 rfl ?_
  simp -dsimp -implicitDefEqProofs only [go_sem, ↓reduceIte, reduceCtorEq, Nat.reduceLT, Nat.reduceLeDiff, Nat.reduceEqDiff, Nat.reduceAdd, Nat.reduceMul, Nat.reduceSub, Nat.reduceBEq, Int.reduceLT, Int.reduceLE, Int.reduceEq, Int.reduceBEq, Int.reduceNeg]
  refine callP (rmul_ok lzQ a b ha hb) ?_
  simp -dsimp -implicitDefEqProofs only [go_sem, ↓reduceIte, reduceCtorEq, Nat.reduceLT, Nat.reduceLeDiff, Nat.reduceEqDiff, Nat.reduceAdd, Nat.reduceMul, Nat.reduceSub, Nat.reduceBEq, Int.reduceLT, Int.reduceLE, Int.reduceEq, Int.reduceBEq, Int.reduceNeg]
theorem addR_ok (a b : Nat) : Meets Tryz.prog 40 [(false, [vU64 a]), (false, [vU64 b])] (rOne (vU64 ((a + b) % 1152921504606845789 : Nat))) := by
  refine meets Tryz.func40 rfl rfl Tryz.ntmps40 Tryz.results40 rfl ?_
  simp -dsimp -implicitDefEqProofs only [go_sem, ↓reduceIte, reduceCtorEq, Nat.reduceLT, Nat.reduceLeDiff, Nat.reduceEqDiff, Nat.reduceAdd, Nat.reduceMul, Nat.reduceSub, Nat.reduceBEq, Int.reduceLT, Int.reduceLE, Int.reduceEq, Int.reduceBEq, Int.reduceNeg]
  refine callP (radd_ok lzR a b) ?_
  simp -dsimp -implicitDefEqProofs only [go_sem, ↓reduceIte, reduceCtorEq, Nat.reduceLT, Nat.reduceLeDiff, Nat.reduceEqDiff, Nat.reduceAdd, Nat.reduceMul, Nat.reduceSub, Nat.reduceBEq, Int.reduceLT, Int.reduceLE, Int.reduceEq, Int.reduceBEq, Int.reduceNeg]
theorem mulR_ok (a b : Nat) (ha : a < 18446744073709551616) (hb : b < 18446744073709551616) : Meets Tryz.prog 56 [(false, [vU64 a]), (false, [vU64 b])] (rOne (vU64 (a * b % 1152921504606845789 : Nat))) := by
  refine meets Tryz.func56 rfl rfl Tryz.ntmps56 Tryz.results56 rfl ?_
  simp -dsimp -implicitDefEqProofs only [go_sem, ↓reduceIte, reduceCtorEq, Nat.reduceLT, Nat.reduceLeDiff, Nat.reduceEqDiff, Nat.reduceAdd, Nat.reduceMul, Nat.reduceSub, Nat.reduceBEq, Int.reduceLT, Int.reduceLE, Int.reduceEq, Int.reduceBEq, Int.reduceNeg]
  refine callP (rmul_ok lzR a b ha hb) ?_
  simp -dsimp -implicitDefEqProofs only [go_sem, ↓reduceIte, reduceCtorEq, Nat.reduceLT, Nat.reduceLeDiff, Nat.reduceEqDiff, Nat.reduceAdd, Nat.reduceMul, Nat.reduceSub, Nat.reduceBEq, Int.reduceLT, Int.reduceLE, Int.reduceEq, Int.reduceBEq, Int.reduceNeg]
theorem inv_ok (a : Nat) (hg : Nat.gcd (a % 2305843009213691579) 2305843009213691579 = 1) (h0 : a % 2305843009213691579 ≠ 0) : Meets Tryz.prog 43 [(false, [vU64 a])] (rTup [(false, [vU64 (invN 2305843009213691579 a : Nat)]), (false, [vI 0])]) := by
  refine meets Tryz.func43 rfl rfl Tryz.ntmps43 Tryz.results43 rfl ?_
  simp -dsimp -implicitDefEqProofs only [go_sem, ↓reduceIte, reduceCtorEq, Nat.reduceLT, Nat.reduceLeDiff, Nat.reduceEqDiff, Nat.reduceAdd, Nat.reduceMul, Nat.reduceSub, Nat.reduceBEq, Int.reduceLT, Int.reduceLE, Int.reduceEq, Int.reduceBEq, Int.reduceNeg]
  refine callP (inverse_ok 2305843009213691579 a (by decide) (by decide) hg h0) ?_
  simp -dsimp -implicitDefEqProofs only [go_sem, ↓reduceIte, reduceCtorEq, Nat.reduceLT, Nat.reduceLeDiff, Nat.reduceEqDiff, Nat.reduceAdd, Nat.reduceMul, Nat.reduceSub, Nat.reduceBEq, Int.reduceLT, Int.reduceLE, Int.reduceEq, Int.reduceBEq, Int.reduceNeg]
theorem in_ok (x : Nat) (hx : x < 18446744073709551616) : Meets Tryz.prog 42 [(false, [vU64 x])] (rOne (vB (decide (0 < x) && decide (x < 2305843009213691579) && decide (x ^ 1152921504606845789 % 2305843009213691579 = 1)))) := by
  have hp := pow_ok x 1152921504606845789 hx (by decide)
  generalize x ^ 1152921504606845789 % 2305843009213691579 = y at hp ⊢
  refine meets Tryz.func42 rfl rfl Tryz.ntmps42 Tryz.results42 rfl ?_
  simp -dsimp -implicitDefEqProofs only [go_sem, ↓reduceIte, reduceCtorEq, Nat.reduceLT, Nat.reduceLeDiff, Nat.reduceEqDiff, Nat.reduceAdd, Nat.reduceMul, Nat.reduceSub, Nat.reduceBEq, Int.reduceLT, Int.reduceLE, Int.reduceEq, Int.reduceBEq, Int.reduceNeg]
  refine ⟨fun h1 => ⟨fun h2 => ?_, fun h2 => ?_⟩, fun h1 => ?_⟩
  · refine callP hp ?_
    simp -dsimp -implicitDefEqProofs only [go_sem, ↓reduceIte, reduceCtorEq, Nat.reduceLT, Nat.reduceLeDiff, Nat.reduceEqDiff, Nat.reduceAdd, Nat.reduceMul, Nat.reduceSub, Nat.reduceBEq, Int.reduceLT, Int.reduceLE, Int.reduceEq, Int.reduceBEq, Int.reduceNeg]
    rw [decide_eq_true (show 0 < x by omega), decide_eq_true (show x < 2305843009213691579 by omega)]
    rw [Bool.true_and, Bool.true_and, Bool.eq_iff_iff, beq_iff_eq, decide_eq_true_eq]
    omega
  · rw [decide_eq_false (show ¬ x < 2305843009213691579 by omega)]; simp
  · rw [decide_eq_false (show ¬ 0 < x by omega)]; rfl
end Go.Proofs.YtijfncaphfaijaaGreatDoor
namespace Go.Proofs.YtijfncaphfaijaaGreatDoor
open Go.Eng
set_option linter.unusedSimpArgs false
set_option maxRecDepth 10000

theorem num_ok {m s : Nat} (h : LzOk m s) (s0 s1 : Nat) (h0 : s0 < 18446744073709551616) (h1 : s1 < 18446744073709551616) : ∃ n, n < m ∧ Meets Tryz.prog 79 [(true, [vU64 s0, vU64 s1]), (false, [vU64 m])] (rOne (vU64 (n : Nat))) := by
  have hm := mul64_ok s0 2305843009213693952 h0 (by decide)
  have n3 : ((m : Int) = 0) = False := eqF h.y0
  generalize ha : s0 * 2305843009213693952 / 18446744073709551616 = a at hm
  generalize hb : s0 * 2305843009213693952 % 18446744073709551616 = b at hm
  have hbl : b < 18446744073709551616 := by rw [← hb]; exact Nat.mod_lt _ (by decide)
  have hal : a < 4611686018427387904 := by omega
  have c1 : ((b : Int) + (s1 : Int) + 0) / 18446744073709551616 = (((b + s1) / 18446744073709551616 : Nat) : Int) := by omega
  have c2 : ((b : Int) + (s1 : Int) + 0) % 18446744073709551616 = (((b + s1) % 18446744073709551616 : Nat) : Int) := by omega
  have p0 : ((0 : Int) ≤ (b : Int) ∧ (0 : Int) ≤ (s1 : Int)) = True := by simp
  have hc : (b + s1) / 18446744073709551616 < 2 := by omega
  have hd : (b + s1) % 18446744073709551616 < 18446744073709551616 := Nat.mod_lt _ (by decide)
  generalize (b + s1) / 18446744073709551616 = c at c1 hc
  generalize (b + s1) % 18446744073709551616 = d at c2 hd
  have w1 : IntKind.u64.wrap ((a : Int) + (c : Int)) = ((a + c : Nat) : Int) := by rw [IntKind.wrap_u64]; omega
  have w2 : Int.tmod ((a + c : Nat) : Int) (m : Int) = (((a + c) % m : Nat) : Int) := tmodN _ _
  have hdiv := div64_ok h ((a + c) % m) d hd (Nat.mod_lt _ h.y0)
  refine ⟨((a + c) % m * 18446744073709551616 + d) % m, Nat.mod_lt _ h.y0, ?_⟩
  have t1 : Int.toNat 1 = 1 := rfl
  refine meets Tryz.func79 rfl rfl Tryz.ntmps79 Tryz.results79 rfl ?_
  simp -dsimp -implicitDefEqProofs only [n3, go_sem, ↓reduceIte, reduceCtorEq, Nat.reduceLT, Nat.reduceLeDiff, Nat.reduceEqDiff, Nat.reduceAdd, Nat.reduceMul, Nat.reduceSub, Nat.reduceBEq, Int.reduceLT, Int.reduceLE, Int.reduceEq, Int.reduceBEq, Int.reduceNeg]
  repeat' (first | with_reducible apply And.intro | with_reducible intro _ | with_reducible exact drawn (by kernel_rfl) | (refine callP (hm) ?_; simp -dsimp -implicitDefEqProofs only [n3, c1, c2, p0, w1, w2, Option.map_some, t1, Nat.mul_one, List.drop_succ_cons, List.drop_zero, go_sem, ↓reduceIte, reduceCtorEq, Nat.reduceLT, Nat.reduceLeDiff, Nat.reduceEqDiff, Nat.reduceAdd, Nat.reduceMul, Nat.reduceSub, Nat.reduceBEq, Int.reduceLT, Int.reduceLE, Int.reduceEq, Int.reduceBEq, Int.reduceNeg]) | (refine callP (hdiv) ?_; simp -dsimp -implicitDefEqProofs only [n3, c1, c2, p0, w1, w2, Option.map_some, t1, Nat.mul_one, List.drop_succ_cons, List.drop_zero, go_sem, ↓reduceIte, reduceCtorEq, Nat.reduceLT, Nat.reduceLeDiff, Nat.reduceEqDiff, Nat.reduceAdd, Nat.reduceMul, Nat.reduceSub, Nat.reduceBEq, Int.reduceLT, Int.reduceLE, Int.reduceEq, Int.reduceBEq, Int.reduceNeg]) | omega)
end Go.Proofs.YtijfncaphfaijaaGreatDoor
namespace Go.Proofs.YtijfncaphfaijaaGreatDoor
open Go.Eng
set_option linter.unusedSimpArgs false
set_option maxRecDepth 10000

/-- Bytes, as data. -/
abbrev byD (l : List Int) : D := .vec 1 (l.map fun b => [.v (.int .u8 b)])
def isBy (l : List Int) : Prop := ∀ b ∈ l, 0 ≤ b ∧ b < 256
theorem wrap8 (x : Int) : 0 ≤ IntKind.u8.wrap x ∧ IntKind.u8.wrap x < 256 := by rw [IntKind.wrap_u8]; omega
theorem sbytes_ok (n : Nat) : ∃ l : List Int, l.length = 8 ∧ isBy l ∧ Meets Tryz.prog 55 [(false, [vU64 n])] (rOne (vD (byD l))) := by
  have a0 : IntKind.i64.wrap (8 * 0) = 0 := by decide
  have b0 : (2 : Int) ^ min (Int.toNat 0) 64 = 1 := by decide
  have c0 : IntKind.i64.wrap (7 - 0) = 7 := by decide
  have d0 : IntKind.i64.wrap ((0 : Int) + 1) = 1 := by decide
  have e0 : Int.toNat 7 = 7 := rfl
  have a1 : IntKind.i64.wrap (8 * 1) = 8 := by decide
  have b1 : (2 : Int) ^ min (Int.toNat 8) 64 = 256 := by decide
  have c1 : IntKind.i64.wrap (7 - 1) = 6 := by decide
  have d1 : IntKind.i64.wrap ((1 : Int) + 1) = 2 := by decide
  have e1 : Int.toNat 6 = 6 := rfl
  have a2 : IntKind.i64.wrap (8 * 2) = 16 := by decide
  have b2 : (2 : Int) ^ min (Int.toNat 16) 64 = 65536 := by decide
  have c2 : IntKind.i64.wrap (7 - 2) = 5 := by decide
  have d2 : IntKind.i64.wrap ((2 : Int) + 1) = 3 := by decide
  have e2 : Int.toNat 5 = 5 := rfl
  have a3 : IntKind.i64.wrap (8 * 3) = 24 := by decide
  have b3 : (2 : Int) ^ min (Int.toNat 24) 64 = 16777216 := by decide
  have c3 : IntKind.i64.wrap (7 - 3) = 4 := by decide
  have d3 : IntKind.i64.wrap ((3 : Int) + 1) = 4 := by decide
  have e3 : Int.toNat 4 = 4 := rfl
  have a4 : IntKind.i64.wrap (8 * 4) = 32 := by decide
  have b4 : (2 : Int) ^ min (Int.toNat 32) 64 = 4294967296 := by decide
  have c4 : IntKind.i64.wrap (7 - 4) = 3 := by decide
  have d4 : IntKind.i64.wrap ((4 : Int) + 1) = 5 := by decide
  have e4 : Int.toNat 3 = 3 := rfl
  have a5 : IntKind.i64.wrap (8 * 5) = 40 := by decide
  have b5 : (2 : Int) ^ min (Int.toNat 40) 64 = 1099511627776 := by decide
  have c5 : IntKind.i64.wrap (7 - 5) = 2 := by decide
  have d5 : IntKind.i64.wrap ((5 : Int) + 1) = 6 := by decide
  have e5 : Int.toNat 2 = 2 := rfl
  have a6 : IntKind.i64.wrap (8 * 6) = 48 := by decide
  have b6 : (2 : Int) ^ min (Int.toNat 48) 64 = 281474976710656 := by decide
  have c6 : IntKind.i64.wrap (7 - 6) = 1 := by decide
  have d6 : IntKind.i64.wrap ((6 : Int) + 1) = 7 := by decide
  have e6 : Int.toNat 1 = 1 := rfl
  have a7 : IntKind.i64.wrap (8 * 7) = 56 := by decide
  have b7 : (2 : Int) ^ min (Int.toNat 56) 64 = 72057594037927936 := by decide
  have c7 : IntKind.i64.wrap (7 - 7) = 0 := by decide
  have d7 : IntKind.i64.wrap ((7 : Int) + 1) = 8 := by decide
  have e7 : Int.toNat 0 = 0 := rfl
  refine ⟨[IntKind.u8.wrap (Int.fdiv (n : Int) 72057594037927936), IntKind.u8.wrap (Int.fdiv (n : Int) 281474976710656), IntKind.u8.wrap (Int.fdiv (n : Int) 1099511627776), IntKind.u8.wrap (Int.fdiv (n : Int) 4294967296), IntKind.u8.wrap (Int.fdiv (n : Int) 16777216), IntKind.u8.wrap (Int.fdiv (n : Int) 65536), IntKind.u8.wrap (Int.fdiv (n : Int) 256), IntKind.u8.wrap (Int.fdiv (n : Int) 1)], rfl, fun b hb => ?_, ?_⟩
  · simp only [List.mem_cons, List.not_mem_nil, or_false] at hb
    rcases hb with rfl | rfl | rfl | rfl | rfl | rfl | rfl | rfl <;> exact wrap8 _
  refine meets Tryz.func55 rfl rfl Tryz.ntmps55 Tryz.results55 rfl ?_
  simp -dsimp -implicitDefEqProofs only [go_sem, ↓reduceIte, reduceCtorEq, Nat.reduceLT, Nat.reduceLeDiff, Nat.reduceEqDiff, Nat.reduceAdd, Nat.reduceMul, Nat.reduceSub, Nat.reduceBEq, Int.reduceLT, Int.reduceLE, Int.reduceEq, Int.reduceBEq, Int.reduceNeg]
  refine vrounds 9 sitOk ?_
  simp -dsimp -implicitDefEqProofs only [go_sem, ↓reduceIte, reduceCtorEq, Nat.reduceLT, Nat.reduceLeDiff, Nat.reduceEqDiff, Nat.reduceAdd, Nat.reduceMul, Nat.reduceSub, Nat.reduceBEq, Int.reduceLT, Int.reduceLE, Int.reduceEq, Int.reduceBEq, Int.reduceNeg]
  refine vround ?_
  simp -dsimp -implicitDefEqProofs only [a0, b0, c0, d0, e0, Option.map_some, go_sem, ↓reduceIte, reduceCtorEq, Nat.reduceLT, Nat.reduceLeDiff, Nat.reduceEqDiff, Nat.reduceAdd, Nat.reduceMul, Nat.reduceSub, Nat.reduceBEq, Int.reduceLT, Int.reduceLE, Int.reduceEq, Int.reduceBEq, Int.reduceNeg]
  refine vround ?_
  simp -dsimp -implicitDefEqProofs only [a1, b1, c1, d1, e1, Option.map_some, go_sem, ↓reduceIte, reduceCtorEq, Nat.reduceLT, Nat.reduceLeDiff, Nat.reduceEqDiff, Nat.reduceAdd, Nat.reduceMul, Nat.reduceSub, Nat.reduceBEq, Int.reduceLT, Int.reduceLE, Int.reduceEq, Int.reduceBEq, Int.reduceNeg]
  refine vround ?_
  simp -dsimp -implicitDefEqProofs only [a2, b2, c2, d2, e2, Option.map_some, go_sem, ↓reduceIte, reduceCtorEq, Nat.reduceLT, Nat.reduceLeDiff, Nat.reduceEqDiff, Nat.reduceAdd, Nat.reduceMul, Nat.reduceSub, Nat.reduceBEq, Int.reduceLT, Int.reduceLE, Int.reduceEq, Int.reduceBEq, Int.reduceNeg]
  refine vround ?_
  simp -dsimp -implicitDefEqProofs only [a3, b3, c3, d3, e3, Option.map_some, go_sem, ↓reduceIte, reduceCtorEq, Nat.reduceLT, Nat.reduceLeDiff, Nat.reduceEqDiff, Nat.reduceAdd, Nat.reduceMul, Nat.reduceSub, Nat.reduceBEq, Int.reduceLT, Int.reduceLE, Int.reduceEq, Int.reduceBEq, Int.reduceNeg]
  refine vround ?_
  simp -dsimp -implicitDefEqProofs only [a4, b4, c4, d4, e4, Option.map_some, go_sem, ↓reduceIte, reduceCtorEq, Nat.reduceLT, Nat.reduceLeDiff, Nat.reduceEqDiff, Nat.reduceAdd, Nat.reduceMul, Nat.reduceSub, Nat.reduceBEq, Int.reduceLT, Int.reduceLE, Int.reduceEq, Int.reduceBEq, Int.reduceNeg]
  refine vround ?_
  simp -dsimp -implicitDefEqProofs only [a5, b5, c5, d5, e5, Option.map_some, go_sem, ↓reduceIte, reduceCtorEq, Nat.reduceLT, Nat.reduceLeDiff, Nat.reduceEqDiff, Nat.reduceAdd, Nat.reduceMul, Nat.reduceSub, Nat.reduceBEq, Int.reduceLT, Int.reduceLE, Int.reduceEq, Int.reduceBEq, Int.reduceNeg]
  refine vround ?_
  simp -dsimp -implicitDefEqProofs only [a6, b6, c6, d6, e6, Option.map_some, go_sem, ↓reduceIte, reduceCtorEq, Nat.reduceLT, Nat.reduceLeDiff, Nat.reduceEqDiff, Nat.reduceAdd, Nat.reduceMul, Nat.reduceSub, Nat.reduceBEq, Int.reduceLT, Int.reduceLE, Int.reduceEq, Int.reduceBEq, Int.reduceNeg]
  refine vround ?_
  simp -dsimp -implicitDefEqProofs only [a7, b7, c7, d7, e7, Option.map_some, go_sem, ↓reduceIte, reduceCtorEq, Nat.reduceLT, Nat.reduceLeDiff, Nat.reduceEqDiff, Nat.reduceAdd, Nat.reduceMul, Nat.reduceSub, Nat.reduceBEq, Int.reduceLT, Int.reduceLE, Int.reduceEq, Int.reduceBEq, Int.reduceNeg]
  refine vround ?_
  simp -dsimp -implicitDefEqProofs only [go_sem, ↓reduceIte, reduceCtorEq, Nat.reduceLT, Nat.reduceLeDiff, Nat.reduceEqDiff, Nat.reduceAdd, Nat.reduceMul, Nat.reduceSub, Nat.reduceBEq, Int.reduceLT, Int.reduceLE, Int.reduceEq, Int.reduceBEq, Int.reduceNeg]
  rfl
end Go.Proofs.YtijfncaphfaijaaGreatDoor
