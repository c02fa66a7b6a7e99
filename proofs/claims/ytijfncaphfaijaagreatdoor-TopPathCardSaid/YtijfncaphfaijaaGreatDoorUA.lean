
/- Plain laws: a division of two words by one, digit by digit; machine words. Contracts: math/bits (Mul64, Div64, Rem64), the field's operations, rings. Contracts: math/bits.Div64 and Rem64. Contracts: Div64 whole, Rem64; rings: mul, add. -/
import Derived.Test.YtijfncaphfaijaaGreatDoorTyp
import Derived.Laws.MathBits
import Derived.Lib.Mul64
namespace Go.Proofs.YtijfncaphfaijaaGreatDoor
open Go.Eng
set_option linter.unusedSimpArgs false
set_option maxRecDepth 10000

abbrev vU64 (n : Int) : CV := .d (.v (.int .u64 n))

/-- Where the search for a digit stands. -/
structure DigI (y1 y0 u u1 q r : Nat) : Prop where
  sum : q * y1 + r = u
  ge : (u * 4294967296 + u1) / (y1 * 4294967296 + y0) ≤ q
  le : q ≤ 4294967297
  rlt : r < 4294967296

structure DigH (y1 y0 u u1 : Nat) : Prop where
  y1l : 2147483648 ≤ y1
  y1h : y1 < 4294967296
  y0h : y0 < 4294967296
  u1h : u1 < 4294967296
  uh : u < y1 * 4294967296 + y0

theorem dig_prod {y1 y0 u q r : Nat} (hs : q * y1 + r = u) : q * (y1 * 4294967296 + y0) + r * 4294967296 = u * 4294967296 + q * y0 := by
  rw [← hs, Nat.mul_add, Nat.add_mul, ← Nat.mul_assoc]
  omega

theorem dig_start {y1 y0 u u1 : Nat} (h : DigH y1 y0 u u1) : DigI y1 y0 u u1 (u / y1) (u % y1) := by
  obtain ⟨h1, h2, h3, h4, h5⟩ := h
  have hy : 0 < y1 * 4294967296 + y0 := by omega
  refine ⟨Nat.div_add_mod' u y1, ?_, ?_, Nat.lt_of_lt_of_le (Nat.mod_lt u (by omega)) (by omega)⟩
  · rw [Nat.le_div_iff_mul_le (by omega)]
    have hq := Nat.div_mul_le_self (u * 4294967296 + u1) (y1 * 4294967296 + y0)
    generalize (u * 4294967296 + u1) / (y1 * 4294967296 + y0) = Q at *
    rw [Nat.mul_add, ← Nat.mul_assoc] at hq
    generalize Q * y0 = z at *
    generalize Q * y1 = x at *
    omega
  · have : u / y1 < 4294967298 := by
      rw [Nat.div_lt_iff_lt_mul (by omega)]
      omega
    omega

theorem dig_more {y1 y0 u u1 q r : Nat} (h : DigH y1 y0 u u1) (i : DigI y1 y0 u u1 q r) (hc : 4294967296 ≤ q ∨ 4294967296 * r + u1 < q * y0) : (u * 4294967296 + u1) / (y1 * 4294967296 + y0) < q := by
  obtain ⟨h1, h2, h3, h4, h5⟩ := h
  have hp := dig_prod (y0 := y0) i.sum
  rw [Nat.div_lt_iff_lt_mul (by omega)]
  rcases hc with hc | hc
  · have := Nat.mul_le_mul_right (y1 * 4294967296 + y0) hc
    omega
  · generalize q * (y1 * 4294967296 + y0) = x at *
    omega

theorem dig_exit {y1 y0 u u1 q r : Nat} (h : DigH y1 y0 u u1) (i : DigI y1 y0 u u1 q r) (hc : q < 4294967296) (hd : q * y0 ≤ 4294967296 * r + u1) : q = (u * 4294967296 + u1) / (y1 * 4294967296 + y0) := by
  have hp := dig_prod (y0 := y0) i.sum
  refine Nat.le_antisymm ?_ i.ge
  have := h.y1l
  rw [Nat.le_div_iff_mul_le (by omega)]
  generalize q * (y1 * 4294967296 + y0) = x at *
  omega

theorem dig_step {y1 y0 u u1 q r : Nat} (h : DigH y1 y0 u u1) (i : DigI y1 y0 u u1 q r) (hc : 4294967296 ≤ q ∨ 4294967296 * r + u1 < q * y0) : 1 ≤ q ∧ (q - 1) * y1 + (r + y1) = u ∧ (u * 4294967296 + u1) / (y1 * 4294967296 + y0) ≤ q - 1 := by
  have hm := dig_more h i hc
  have hs := i.sum
  generalize (u * 4294967296 + u1) / (y1 * 4294967296 + y0) = Q at *
  refine ⟨by omega, ?_, by omega⟩
  obtain ⟨p, rfl⟩ : ∃ p, q = p + 1 := ⟨q - 1, by omega⟩
  rw [Nat.add_mul] at hs
  simp only [Nat.add_sub_cancel]
  omega

theorem dig_next {y1 y0 u u1 q r : Nat} (h : DigH y1 y0 u u1) (i : DigI y1 y0 u u1 q r) (hc : 4294967296 ≤ q ∨ 4294967296 * r + u1 < q * y0) (hr : r + y1 < 4294967296) : DigI y1 y0 u u1 (q - 1) (r + y1) := by
  obtain ⟨h1, h2, h3⟩ := dig_step h i hc
  exact ⟨h2, h3, by have := i.le; omega, hr⟩

theorem dig_break {y1 y0 u u1 q r : Nat} (h : DigH y1 y0 u u1) (i : DigI y1 y0 u u1 q r) (hc : 4294967296 ≤ q ∨ 4294967296 * r + u1 < q * y0) (hr : 4294967296 ≤ r + y1) : q - 1 = (u * 4294967296 + u1) / (y1 * 4294967296 + y0) := by
  obtain ⟨h1, h2, h3⟩ := dig_step h i hc
  have hp := dig_prod (y0 := y0) h2
  refine Nat.le_antisymm ?_ h3
  have h4 := h.y1l
  rw [Nat.le_div_iff_mul_le (by omega)]
  have h5 : (q - 1) * y0 ≤ 4294967296 * 4294967295 := Nat.mul_le_mul (by have := i.le; omega) (by have := h.y0h; omega)
  generalize (q - 1) * (y1 * 4294967296 + y0) = x at *
  generalize (q - 1) * y0 = z at *
  omega

theorem dig_small {y1 y0 u u1 : Nat} (h : DigH y1 y0 u u1) : (u * 4294967296 + u1) / (y1 * 4294967296 + y0) < 4294967296 := by
  obtain ⟨h1, h2, h3, h4, h5⟩ := h
  rw [Nat.div_lt_iff_lt_mul (by omega)]
  omega

/-- The bounds under which no word runs over. -/
theorem dig_bounds {y1 y0 u u1 q r : Nat} (h : DigH y1 y0 u u1) (i : DigI y1 y0 u u1 q r) : q * y0 < 18446744073709551616 ∧ 4294967296 * r + u1 < 18446744073709551616 := by
  refine ⟨?_, by have := i.rlt; have := h.u1h; omega⟩
  have h2 : q * y0 ≤ 4294967297 * 4294967295 := Nat.mul_le_mul i.le (by have := h.y0h; omega)
  generalize q * y0 = x at *
  omega

theorem two_digits0 (y q r u u1 u0 : Nat) (hy : 0 < y) (h : y * q + r = u * 4294967296 + u1) : (q * 4294967296 + (r * 4294967296 + u0) / y = (u * 18446744073709551616 + (u1 * 4294967296 + u0)) / y) ∧
    (r * 4294967296 + u0) % y = (u * 18446744073709551616 + (u1 * 4294967296 + u0)) % y := by
  have e : u * 18446744073709551616 + (u1 * 4294967296 + u0) = (r * 4294967296 + u0) + y * (q * 4294967296) := by
    rw [← Nat.mul_assoc]
    omega
  rw [e, Nat.add_mul_div_left _ _ hy, Nat.add_mul_mod_self_left]
  exact ⟨Nat.add_comm _ _, rfl⟩

/-- Two digits. -/
theorem two_digits (y u u1 u0 : Nat) (hy : 0 < y) : ((u * 4294967296 + u1) / y * 4294967296 + ((u * 4294967296 + u1) % y * 4294967296 + u0) / y = (u * 18446744073709551616 + (u1 * 4294967296 + u0)) / y) ∧
    ((u * 4294967296 + u1) % y * 4294967296 + u0) % y = (u * 18446744073709551616 + (u1 * 4294967296 + u0)) % y :=
  two_digits0 y _ _ u u1 u0 hy (Nat.div_add_mod _ y)

/-! ### Machine words -/

theorem wN (n : Nat) : IntKind.u64.wrap (n : Int) = ((n % 18446744073709551616 : Nat) : Int) := by rw [IntKind.wrap_u64]; omega
theorem wS (n : Nat) (h : n < 18446744073709551616) : IntKind.u64.wrap (n : Int) = (n : Int) := by rw [IntKind.wrap_u64]; omega
theorem fdivN (n k : Nat) : Int.fdiv (n : Int) (k : Int) = ((n / k : Nat) : Int) := by
  rw [Int.fdiv_eq_ediv_of_nonneg _ (by omega)]; rfl
theorem tdivN (n k : Nat) : Int.tdiv (n : Int) (k : Int) = ((n / k : Nat) : Int) := by
  rw [Int.tdiv_eq_ediv_of_nonneg (by omega)]; rfl
theorem tmodN (n k : Nat) : Int.tmod (n : Int) (k : Int) = ((n % k : Nat) : Int) := by
  rw [Int.tmod_eq_emod_of_nonneg (by omega)]; rfl

theorem andN {a b : Nat} (ha : a < 18446744073709551616) (hb : b < 18446744073709551616) : bAnd .u64 (a : Int) (b : Int) = ((a &&& b : Nat) : Int) := by
  unfold bAnd
  rw [BitVec.ofInt_natCast, BitVec.ofInt_natCast, BitVec.toNat_and, BitVec.toNat_ofNat, BitVec.toNat_ofNat]
  rw [show IntKind.u64.bits = 64 from rfl, Nat.mod_eq_of_lt (by omega), Nat.mod_eq_of_lt (by omega), wS]
  exact Nat.lt_of_le_of_lt Nat.and_le_left ha
theorem orN {a b : Nat} (ha : a < 18446744073709551616) (hb : b < 18446744073709551616) : bOr .u64 (a : Int) (b : Int) = ((a ||| b : Nat) : Int) := by
  unfold bOr
  rw [BitVec.ofInt_natCast, BitVec.ofInt_natCast, BitVec.toNat_or, BitVec.toNat_ofNat, BitVec.toNat_ofNat]
  rw [show IntKind.u64.bits = 64 from rfl, Nat.mod_eq_of_lt (by omega), Nat.mod_eq_of_lt (by omega), wS]
  exact Nat.or_lt_two_pow (n := 64) ha hb
theorem and32 (a : Nat) : a &&& 4294967295 = a % 4294967296 := Nat.and_two_pow_sub_one_eq_mod a 32
theorem and61 (a : Nat) : a &&& 2305843009213693951 = a % 2305843009213693952 := Nat.and_two_pow_sub_one_eq_mod a 61
theorem orS (a b i : Nat) (h : b < 2 ^ i) : a * 2 ^ i ||| b = a * 2 ^ i + b := by rw [Nat.mul_comm, Nat.two_pow_add_eq_or_of_lt h]
end Go.Proofs.YtijfncaphfaijaaGreatDoor
namespace Go.Proofs.YtijfncaphfaijaaGreatDoor
open Go.Eng
set_option linter.unusedSimpArgs false
set_option maxRecDepth 10000

theorem e32 : (2 : Int) ^ min (Int.toNat 32) 64 = ((4294967296 : Nat) : Int) := by decide
theorem e61 : (2 : Int) ^ min (Int.toNat 61) 64 = ((2305843009213693952 : Nat) : Int) := by decide
theorem e3 : (2 : Int) ^ min (Int.toNat 3) 64 = ((8 : Nat) : Int) := by decide
theorem and32' {a : Nat} (ha : a < 18446744073709551616) : bAnd .u64 (a : Int) 4294967295 = ((a % 4294967296 : Nat) : Int) := by
  have := andN ha (show 4294967295 < 18446744073709551616 by omega)
  rw [and32] at this
  exact this
theorem and61' {a : Nat} (ha : a < 18446744073709551616) : bAnd .u64 (a : Int) 2305843009213693951 = ((a % 2305843009213693952 : Nat) : Int) := by
  have := andN ha (show 2305843009213693951 < 18446744073709551616 by omega)
  rw [and61] at this
  exact this

theorem mul64_ok (a b : Nat) (ha : a < 18446744073709551616) (hb : b < 18446744073709551616) : Meets Tryz.prog 133 [(false, [vU64 a]), (false, [vU64 b])]
    (rTup [(false, [vU64 (a * b / 18446744073709551616 : Nat)]), (false, [vU64 (a * b % 18446744073709551616 : Nat)])]) := by
  obtain ⟨h1, h2, h3, h4⟩ := Go.Lib.mul64_hi a b ha hb
  refine meets Tryz.func133 rfl rfl Tryz.ntmps133 Tryz.results133 rfl ?_
  simp -dsimp -implicitDefEqProofs only [go_sem, ↓reduceIte, reduceCtorEq, Nat.reduceLT, Nat.reduceLeDiff, Nat.reduceEqDiff, Nat.reduceAdd, Nat.reduceMul, Nat.reduceSub, Nat.reduceBEq, Int.reduceLT, Int.reduceLE, Int.reduceEq, Int.reduceBEq, Int.reduceNeg]
  simp only [e32, fdivN, and32' ha, and32' hb, ← Int.natCast_mul, wN, Nat.mod_eq_of_lt h1]
  have q1 : a / 4294967296 * (b % 4294967296) < 18446744073709551616 := by omega
  have q2 : a % 4294967296 * (b / 4294967296) < 18446744073709551616 := by omega
  have q3 : a / 4294967296 * (b / 4294967296) < 18446744073709551616 := Nat.lt_of_le_of_lt (Go.Lib.half_mul_le (by omega) (by omega)) (by omega)
  simp only [Nat.mod_eq_of_lt q1, Nat.mod_eq_of_lt q2, Nat.mod_eq_of_lt q3, ← Int.natCast_add, wN, Nat.mod_eq_of_lt h2, and32' h2, Nat.mod_eq_of_lt h3]
  refine ⟨?_, trivial⟩
  simp only [fdivN, ← Int.natCast_add, wN]
  have hab : a * b / 18446744073709551616 < 18446744073709551616 := by
    rw [Nat.div_lt_iff_lt_mul (by omega)]
    exact Nat.mul_lt_mul'' ha hb
  rw [← h4] at hab ⊢
  congr 1
  omega

theorem fold_ok (a b : Nat) (ha : a < 288230376151711744) (hb : b < 18446744073709551616) : Meets Tryz.prog 237 [(false, [vU64 a]), (false, [vU64 b])] (rOne (vU64 ((a * 18446744073709551616 + b) % 2305843009213693951 : Nat))) := by
  refine meets Tryz.func237 rfl rfl Tryz.ntmps237 Tryz.results237 rfl ?_
  have hor : bOr .u64 ((a * 8 : Nat) : Int) ((b / 2305843009213693952 : Nat) : Int) = ((a * 8 + b / 2305843009213693952 : Nat) : Int) := by
    rw [orN (by omega) (by omega), orS a _ 3 (by omega)]
  simp -dsimp -implicitDefEqProofs only [go_sem, ↓reduceIte, reduceCtorEq, Nat.reduceLT, Nat.reduceLeDiff, Nat.reduceEqDiff, Nat.reduceAdd, Nat.reduceMul, Nat.reduceSub, Nat.reduceBEq, Int.reduceLT, Int.reduceLE, Int.reduceEq, Int.reduceBEq, Int.reduceNeg]
  simp only [e61, e3, fdivN, and61' hb, ← Int.natCast_mul, wN, Nat.mod_eq_of_lt (show a * 8 < 18446744073709551616 by omega), hor, ← Int.natCast_add]
  have hz : b % 2305843009213693952 + (a * 8 + b / 2305843009213693952) < 18446744073709551616 := by omega
  simp only [Nat.mod_eq_of_lt hz, and61' hz, ← Int.natCast_add, wN]
  have hN : (a * 18446744073709551616 + b) % 2305843009213693951 = ((b % 2305843009213693952 + (a * 8 + b / 2305843009213693952)) % 2305843009213693952 + (b % 2305843009213693952 + (a * 8 + b / 2305843009213693952)) / 2305843009213693952) % 2305843009213693951 := by
    have e : a * 18446744073709551616 + b = ((b % 2305843009213693952 + (a * 8 + b / 2305843009213693952)) % 2305843009213693952 + (b % 2305843009213693952 + (a * 8 + b / 2305843009213693952)) / 2305843009213693952) + 2305843009213693951 * ((a * 8 + b / 2305843009213693952) + (b % 2305843009213693952 + (a * 8 + b / 2305843009213693952)) / 2305843009213693952) := by omega
    rw [e, Nat.add_mul_mod_self_left]
  have hz2 : b % 2305843009213693952 + (a * 8 + b / 2305843009213693952) < 4611686018427387912 := by omega
  rw [hN]
  generalize b % 2305843009213693952 + (a * 8 + b / 2305843009213693952) = z at *
  have hn : z % 2305843009213693952 + z / 2305843009213693952 ≤ 2305843009213693952 := by omega
  clear hN hor hz hz2
  generalize z % 2305843009213693952 + z / 2305843009213693952 = n at *
  have hm : n % 2305843009213693951 = if n < 2305843009213693951 then n else n - 2305843009213693951 := by
    split
    · exact Nat.mod_eq_of_lt (by assumption)
    · rw [Nat.mod_eq_sub_mod (by omega), Nat.mod_eq_of_lt (by omega)]
  have hn2 : n % 18446744073709551616 = n := Nat.mod_eq_of_lt (by omega)
  rw [hm, hn2]
  refine ⟨fun h => ?_, fun h => ?_⟩
  · rw [IntKind.wrap_u64, if_neg (by omega)]
    omega
  · rw [if_pos (by omega)]

theorem one_ok (a : Nat) (ha : a < 18446744073709551616) : Meets Tryz.prog 213 [(false, [vU64 a])] (rOne (vU64 (a % 2305843009213693951 : Nat))) := by
  have h := fold_ok 0 a (by omega) ha
  rw [Nat.zero_mul, Nat.zero_add] at h
  refine meets Tryz.func213 rfl rfl Tryz.ntmps213 Tryz.results213 rfl ?_
  simp -dsimp -implicitDefEqProofs only [go_sem, ↓reduceIte, reduceCtorEq, Nat.reduceLT, Nat.reduceLeDiff, Nat.reduceEqDiff, Nat.reduceAdd, Nat.reduceMul, Nat.reduceSub, Nat.reduceBEq, Int.reduceLT, Int.reduceLE, Int.reduceEq, Int.reduceBEq, Int.reduceNeg]
  repeat' (first | with_reducible apply And.intro | with_reducible intro _ | with_reducible exact drawn (by kernel_rfl) | (refine callP (h) ?_; simp -dsimp -implicitDefEqProofs only [go_sem, ↓reduceIte, reduceCtorEq, Nat.reduceLT, Nat.reduceLeDiff, Nat.reduceEqDiff, Nat.reduceAdd, Nat.reduceMul, Nat.reduceSub, Nat.reduceBEq, Int.reduceLT, Int.reduceLE, Int.reduceEq, Int.reduceBEq, Int.reduceNeg]) | omega)

theorem fadd_ok (a b : Nat) (ha : a < 18446744073709551616) (hb : b < 18446744073709551616) : Meets Tryz.prog 180 [(false, [vU64 a]), (false, [vU64 b])] (rOne (vU64 ((a % 2305843009213693951 + b % 2305843009213693951) % 2305843009213693951 : Nat))) := by
  have h := one_ok (a % 2305843009213693951 + b % 2305843009213693951) (by omega)
  have hw : IntKind.u64.wrap (((a % 2305843009213693951 : Nat) : Int) + ((b % 2305843009213693951 : Nat) : Int)) = ((a % 2305843009213693951 + b % 2305843009213693951 : Nat) : Int) := by
    rw [← Int.natCast_add, wS _ (by omega)]
  refine meets Tryz.func180 rfl rfl Tryz.ntmps180 Tryz.results180 rfl ?_
  simp -dsimp -implicitDefEqProofs only [hw, go_sem, ↓reduceIte, reduceCtorEq, Nat.reduceLT, Nat.reduceLeDiff, Nat.reduceEqDiff, Nat.reduceAdd, Nat.reduceMul, Nat.reduceSub, Nat.reduceBEq, Int.reduceLT, Int.reduceLE, Int.reduceEq, Int.reduceBEq, Int.reduceNeg]
  repeat' (first | with_reducible apply And.intro | with_reducible intro _ | with_reducible exact drawn (by kernel_rfl) | (refine callP (one_ok a ha) ?_; simp -dsimp -implicitDefEqProofs only [hw, go_sem, ↓reduceIte, reduceCtorEq, Nat.reduceLT, Nat.reduceLeDiff, Nat.reduceEqDiff, Nat.reduceAdd, Nat.reduceMul, Nat.reduceSub, Nat.reduceBEq, Int.reduceLT, Int.reduceLE, Int.reduceEq, Int.reduceBEq, Int.reduceNeg]) | (refine callP (one_ok b hb) ?_; simp -dsimp -implicitDefEqProofs only [hw, go_sem, ↓reduceIte, reduceCtorEq, Nat.reduceLT, Nat.reduceLeDiff, Nat.reduceEqDiff, Nat.reduceAdd, Nat.reduceMul, Nat.reduceSub, Nat.reduceBEq, Int.reduceLT, Int.reduceLE, Int.reduceEq, Int.reduceBEq, Int.reduceNeg]) | (refine callP (h) ?_; simp -dsimp -implicitDefEqProofs only [hw, go_sem, ↓reduceIte, reduceCtorEq, Nat.reduceLT, Nat.reduceLeDiff, Nat.reduceEqDiff, Nat.reduceAdd, Nat.reduceMul, Nat.reduceSub, Nat.reduceBEq, Int.reduceLT, Int.reduceLE, Int.reduceEq, Int.reduceBEq, Int.reduceNeg]) | omega)

theorem fmul_ok (a b : Nat) (ha : a < 18446744073709551616) (hb : b < 18446744073709551616) : Meets Tryz.prog 238 [(false, [vU64 a]), (false, [vU64 b])] (rOne (vU64 (a % 2305843009213693951 * (b % 2305843009213693951) % 2305843009213693951 : Nat))) := by
  have hle : a % 2305843009213693951 * (b % 2305843009213693951) ≤ 2305843009213693950 * 2305843009213693950 := Nat.mul_le_mul (by omega) (by omega)
  have hm := mul64_ok (a % 2305843009213693951) (b % 2305843009213693951) (by omega) (by omega)
  generalize a % 2305843009213693951 * (b % 2305843009213693951) = z at *
  have h := fold_ok (z / 18446744073709551616) (z % 18446744073709551616) (by omega) (by omega)
  rw [Nat.div_add_mod' z 18446744073709551616] at h
  refine meets Tryz.func238 rfl rfl Tryz.ntmps238 Tryz.results238 rfl ?_
  simp -dsimp -implicitDefEqProofs only [go_sem, ↓reduceIte, reduceCtorEq, Nat.reduceLT, Nat.reduceLeDiff, Nat.reduceEqDiff, Nat.reduceAdd, Nat.reduceMul, Nat.reduceSub, Nat.reduceBEq, Int.reduceLT, Int.reduceLE, Int.reduceEq, Int.reduceBEq, Int.reduceNeg]
  repeat' (first | with_reducible apply And.intro | with_reducible intro _ | with_reducible exact drawn (by kernel_rfl) | (refine callP (one_ok a ha) ?_; simp -dsimp -implicitDefEqProofs only [go_sem, ↓reduceIte, reduceCtorEq, Nat.reduceLT, Nat.reduceLeDiff, Nat.reduceEqDiff, Nat.reduceAdd, Nat.reduceMul, Nat.reduceSub, Nat.reduceBEq, Int.reduceLT, Int.reduceLE, Int.reduceEq, Int.reduceBEq, Int.reduceNeg]) | (refine callP (one_ok b hb) ?_; simp -dsimp -implicitDefEqProofs only [go_sem, ↓reduceIte, reduceCtorEq, Nat.reduceLT, Nat.reduceLeDiff, Nat.reduceEqDiff, Nat.reduceAdd, Nat.reduceMul, Nat.reduceSub, Nat.reduceBEq, Int.reduceLT, Int.reduceLE, Int.reduceEq, Int.reduceBEq, Int.reduceNeg]) | (refine callP (hm) ?_; simp -dsimp -implicitDefEqProofs only [go_sem, ↓reduceIte, reduceCtorEq, Nat.reduceLT, Nat.reduceLeDiff, Nat.reduceEqDiff, Nat.reduceAdd, Nat.reduceMul, Nat.reduceSub, Nat.reduceBEq, Int.reduceLT, Int.reduceLE, Int.reduceEq, Int.reduceBEq, Int.reduceNeg]) | (refine callP (h) ?_; simp -dsimp -implicitDefEqProofs only [go_sem, ↓reduceIte, reduceCtorEq, Nat.reduceLT, Nat.reduceLeDiff, Nat.reduceEqDiff, Nat.reduceAdd, Nat.reduceMul, Nat.reduceSub, Nat.reduceBEq, Int.reduceLT, Int.reduceLE, Int.reduceEq, Int.reduceBEq, Int.reduceNeg]) | omega)
end Go.Proofs.YtijfncaphfaijaaGreatDoor
namespace Go.Proofs.YtijfncaphfaijaaGreatDoor
open Go.Eng
set_option linter.unusedSimpArgs false
set_option maxRecDepth 10000

abbrev aU (n : Nat) : AT := .cs false [.d (.v (.int .u64 n))]

structure DivV (y1 y0 u u1 : Nat) where
  q : Nat
  r : Nat
  inv : DigI y1 y0 u u1 q r

theorem leN {n : Nat} (h : (4294967296 : Int) ≤ n) : 4294967296 ≤ n := by omega
theorem ltN {n : Nat} (h : (n : Int) < 4294967296) : n < 4294967296 := by omega
theorem wk1 {y1 y0 u u1 q r : Nat} (h : DigH y1 y0 u u1) (i : DigI y1 y0 u u1 q r) : IntKind.u64.wrap ((q : Int) * (y0 : Int)) = ((q * y0 : Nat) : Int) := by
  rw [← Int.natCast_mul, wS _ (dig_bounds h i).1]
theorem wk2 {y1 y0 u u1 q r : Nat} (i : DigI y1 y0 u u1 q r) : IntKind.u64.wrap (4294967296 * (r : Int)) = ((4294967296 * r : Nat) : Int) := by
  have := i.rlt
  clear i
  rw [IntKind.wrap_u64]; omega
theorem wk3 {y1 y0 u u1 q r : Nat} (h : DigH y1 y0 u u1) (i : DigI y1 y0 u u1 q r) : IntKind.u64.wrap (((4294967296 * r : Nat) : Int) + (u1 : Int)) = ((4294967296 * r + u1 : Nat) : Int) := by
  rw [← Int.natCast_add, wS _ (dig_bounds h i).2]
theorem wk4 {y1 y0 u u1 q r : Nat} (h : DigH y1 y0 u u1) (i : DigI y1 y0 u u1 q r) : IntKind.u64.wrap ((r : Int) + (y1 : Int)) = ((r + y1 : Nat) : Int) := by
  have h1 := i.rlt
  have h2 := h.y1h
  rw [← Int.natCast_add, wS _ (by omega)]
theorem wsub1 {q : Nat} (h : 1 ≤ q) (h2 : q ≤ 4294967297) : IntKind.u64.wrap ((q : Int) - 1) = ((q - 1 : Nat) : Int) := by rw [IntKind.wrap_u64]; omega
theorem wdec {y1 y0 u u1 q r : Nat} (h : DigH y1 y0 u u1) (i : DigI y1 y0 u u1 q r) (hc : 4294967296 ≤ q ∨ 4294967296 * r + u1 < q * y0) : IntKind.u64.wrap ((q : Int) - 1) = ((q - 1 : Nat) : Int) :=
  wsub1 (dig_step h i hc).1 i.le
theorem wbrk {y1 y0 u u1 q r : Nat} (h : DigH y1 y0 u u1) (i : DigI y1 y0 u u1 q r) (hc : 4294967296 ≤ q ∨ 4294967296 * r + u1 < q * y0) (hr : 4294967296 ≤ r + y1) : IntKind.u64.wrap ((q : Int) - 1) = (((u * 4294967296 + u1) / (y1 * 4294967296 + y0) : Nat) : Int) := by
  rw [← dig_break h i hc hr]
  exact wdec h i hc
theorem dmeas {y1 y0 u u1 r : Nat} (h : DigH y1 y0 u u1) (hr : r + y1 < 4294967296) : 4294967296 - (r + y1) < 4294967296 - r := by
  have := h.y1l
  clear h
  omega
theorem wd1 {u u1 Q1 Y R1 : Nat} (h : Y * Q1 + R1 = u * 4294967296 + u1) (hR : R1 < 18446744073709551616) : IntKind.u64.wrap (IntKind.u64.wrap (IntKind.u64.wrap ((u : Int) * 4294967296) + (u1 : Int)) - IntKind.u64.wrap ((Q1 : Int) * (Y : Int))) = (R1 : Int) := by
  rw [← Int.natCast_mul, Nat.mul_comm Q1 Y]
  simp only [IntKind.wrap_u64]
  generalize Y * Q1 = x at *
  omega
theorem wd2 {R1 y1 : Nat} (h : R1 < 18446744073709551616) : IntKind.u64.wrap (Int.tdiv (R1 : Int) (y1 : Int)) = ((R1 / y1 : Nat) : Int) := by
  rw [tdivN, wS _ (Nat.lt_of_le_of_lt (Nat.div_le_self R1 y1) h)]
theorem wd3 {R1 y1 : Nat} (h : R1 < 18446744073709551616) : IntKind.u64.wrap ((R1 : Int) - IntKind.u64.wrap (((R1 / y1 : Nat) : Int) * (y1 : Int))) = ((R1 % y1 : Nat) : Int) := by
  have h1 := Nat.div_add_mod' R1 y1
  rw [← Int.natCast_mul]
  simp only [IntKind.wrap_u64]
  generalize R1 / y1 * y1 = x at *
  generalize R1 % y1 = z at *
  omega
theorem wd5 {Q1 Q0 V : Nat} (h : Q1 * 4294967296 + Q0 = V) (h1 : Q1 < 4294967296) (h0 : Q0 < 4294967296) : IntKind.u64.wrap (IntKind.u64.wrap ((Q1 : Int) * 4294967296) + (Q0 : Int)) = (V : Int) := by
  simp only [IntKind.wrap_u64]
  omega
theorem wlow {lo p r u t : Nat} (hi : Nat) (hpr : p * r = 18446744073709551616) (hp0 : 0 < p) (hU : hi * p + lo / r = u) (hT : lo * p % 18446744073709551616 = t) : u * 18446744073709551616 + t = (hi * 18446744073709551616 + lo) * p := by
  have e1 : lo / r = lo * p / 18446744073709551616 := by rw [← hpr, Nat.mul_comm p r, Nat.mul_div_mul_right _ _ hp0]
  rw [Nat.add_mul, ← hU, ← hT, e1, Nat.add_mul, Nat.mul_right_comm]
  generalize lo * p = x
  omega
theorem split32 (t : Nat) : t / 4294967296 * 4294967296 + t % 4294967296 = t := Nat.div_add_mod' t _
theorem digH_of {Y u t : Nat} (h1 : 9223372036854775808 ≤ Y) (h2 : Y < 18446744073709551616) (h3 : u < Y) (h4 : t < 18446744073709551616) : DigH (Y / 4294967296) (Y % 4294967296) u (t / 4294967296) :=
  ⟨by omega, by omega, by omega, by omega, by omega⟩
theorem fdiv32 (n : Nat) : Int.fdiv (n : Int) 4294967296 = ((n / 4294967296 : Nat) : Int) := fdivN n 4294967296
theorem eqF {n : Nat} (h : 0 < n) : ((n : Int) = 0) = False := by simp; omega
theorem ltF (n : Nat) : ((n : Int) < 0) = False := by simp

/-- All that the walk has to know of the numbers. -/
structure DivN (hi lo y s p r Y u t y1 y0 u1 u0 Q1 R1 Q0 : Nat) : Prop where
  n1 : ((s : Int) < 0) = False
  n2 : (((64 - s : Nat) : Int) < 0) = False
  n3 : ((y : Int) = 0) = False
  n4 : ((y1 : Int) = 0) = False
  f1 : IntKind.u64.wrap (s : Int) = s
  f2 : (2 : Int) ^ min s 64 = ((p : Nat) : Int)
  f3 : IntKind.u64.wrap ((y : Int) * (p : Int)) = (Y : Int)
  f6 : IntKind.u64.wrap ((hi : Int) * (p : Int)) = ((hi * p : Nat) : Int)
  f7 : IntKind.u64.wrap (64 - (s : Int)) = ((64 - s : Nat) : Int)
  f8 : (2 : Int) ^ min (64 - s) 64 = ((r : Nat) : Int)
  f9 : bOr .u64 ((hi * p : Nat) : Int) ((lo / r : Nat) : Int) = (u : Int)
  f10 : IntKind.u64.wrap ((lo : Int) * (p : Int)) = (t : Int)
  f4 : bAnd .u64 (Y : Int) 4294967295 = (y0 : Int)
  f5 : bAnd .u64 (t : Int) 4294967295 = (u0 : Int)
  g1 : Int.fdiv (Y : Int) 4294967296 = (y1 : Int)
  g2 : Int.fdiv (t : Int) 4294967296 = (u1 : Int)
  g3 : IntKind.u64.wrap (Int.tdiv (u : Int) (y1 : Int)) = ((u / y1 : Nat) : Int)
  g4 : IntKind.u64.wrap ((u : Int) - IntKind.u64.wrap (((u / y1 : Nat) : Int) * (y1 : Int))) = ((u % y1 : Nat) : Int)
  w1 : IntKind.u64.wrap (IntKind.u64.wrap (IntKind.u64.wrap ((u : Int) * 4294967296) + (u1 : Int)) - IntKind.u64.wrap ((Q1 : Int) * (Y : Int))) = (R1 : Int)
  w2 : IntKind.u64.wrap (Int.tdiv (R1 : Int) (y1 : Int)) = ((R1 / y1 : Nat) : Int)
  w3 : IntKind.u64.wrap ((R1 : Int) - IntKind.u64.wrap (((R1 / y1 : Nat) : Int) * (y1 : Int))) = ((R1 % y1 : Nat) : Int)
  w5 : IntKind.u64.wrap (IntKind.u64.wrap ((Q1 : Int) * 4294967296) + (Q0 : Int)) = (((hi * 18446744073709551616 + lo) / y : Nat) : Int)
  w6 : IntKind.u64.wrap (IntKind.u64.wrap (IntKind.u64.wrap ((R1 : Int) * 4294967296) + (u0 : Int)) - IntKind.u64.wrap ((Q0 : Int) * (Y : Int))) = (((hi * 18446744073709551616 + lo) % y * p : Nat) : Int)
  w7 : Int.fdiv (((hi * 18446744073709551616 + lo) % y * p : Nat) : Int) ((p : Nat) : Int) = (((hi * 18446744073709551616 + lo) % y : Nat) : Int)
  hH : DigH y1 y0 u u1
  hH2 : DigH y1 y0 R1 u0
  hYY : y1 * 4294967296 + y0 = Y
  hQ1 : (u * 4294967296 + u1) / Y = Q1
  hQ0 : (R1 * 4294967296 + u0) / Y = Q0

theorem divN_of {hi lo y s p r Y u t : Nat} (hs : s ≤ 63) (hy0 : 0 < y) (hlo : lo < 18446744073709551616) (hhi : hi < y) (hP : 2 ^ s = p) (hR : 2 ^ (64 - s) = r) (hY : y * p = Y) (hyl : 9223372036854775808 ≤ Y) (hyh : Y < 18446744073709551616)
    (hU : hi * p + lo / r = u) (hT : lo * p % 18446744073709551616 = t) :
    DivN hi lo y s p r Y u t (Y / 4294967296) (Y % 4294967296) (t / 4294967296) (t % 4294967296) ((u * 4294967296 + t / 4294967296) / Y) ((u * 4294967296 + t / 4294967296) % Y) (((u * 4294967296 + t / 4294967296) % Y * 4294967296 + t % 4294967296) / Y) := by
  have hpr : p * r = 18446744073709551616 := by rw [← hP, ← hR, ← Nat.pow_add, show s + (64 - s) = 64 by omega]
  have hp0 : 0 < p := by rw [← hP]; exact Nat.two_pow_pos s
  have hr0 : 0 < r := by rw [← hR]; exact Nat.two_pow_pos _
  have hlr : lo / r < p := by rw [Nat.div_lt_iff_lt_mul hr0, hpr]; exact hlo
  have hhp : hi * p + p ≤ Y := by rw [← Nat.succ_mul, ← hY]; exact Nat.mul_le_mul_right _ hhi
  have hu : u < Y := by omega
  have ht : t < 18446744073709551616 := by rw [← hT]; exact Nat.mod_lt _ (by omega)
  have hYp : 0 < Y := by omega
  have hH := digH_of hyl hyh hu ht
  have hYY := split32 Y
  have htt := split32 t
  have hQlt := dig_small hH
  rw [hYY] at hQlt
  have hdm := Nat.div_add_mod (u * 4294967296 + t / 4294967296) Y
  have hRlt := Nat.mod_lt (u * 4294967296 + t / 4294967296) hYp
  have hdig := two_digits Y u (t / 4294967296) (t % 4294967296) hYp
  rw [htt, wlow hi hpr hp0 hU hT, ← hY, Nat.mul_div_mul_right _ _ hp0, Nat.mul_mod_mul_right, hY] at hdig
  obtain ⟨hdig1, hdig2⟩ := hdig
  have hH2 : DigH (Y / 4294967296) (Y % 4294967296) ((u * 4294967296 + t / 4294967296) % Y) (t % 4294967296) :=
    ⟨hH.y1l, hH.y1h, hH.y0h, Nat.mod_lt _ (by omega), by rw [hYY]; exact hRlt⟩
  have hQ0lt := dig_small hH2
  rw [hYY] at hQ0lt
  have hdm2 := Nat.div_add_mod ((u * 4294967296 + t / 4294967296) % Y * 4294967296 + t % 4294967296) Y
  have hR0lt := Nat.mod_lt ((u * 4294967296 + t / 4294967296) % Y * 4294967296 + t % 4294967296) hYp
  rw [hdig2] at hdm2 hR0lt
  have hor0 : hi * p ||| lo / r = hi * p + lo / r := by rw [← hP] at hlr ⊢; exact orS hi _ s hlr
  have hhp2 : hi * p < 18446744073709551616 := by omega
  refine ⟨ltF s, ltF _, eqF hy0, eqF (by have := hH.y1l; omega), wS s (by omega), ?_, ?_, ?_, ?_, ?_, ?_, ?_, and32' hyh, and32' ht, fdiv32 Y, fdiv32 t, wd2 (by omega), wd3 (by omega), wd1 hdm (by omega), wd2 (by omega), wd3 (by omega), wd5 hdig1 hQlt hQ0lt, wd1 hdm2 (by omega), ?_, hH, hH2, hYY, rfl, rfl⟩
  · rw [Nat.min_eq_left (by omega), ← hP]; simp
  · rw [← Int.natCast_mul, hY, wS _ hyh]
  · rw [← Int.natCast_mul, wS _ hhp2]
  · rw [IntKind.wrap_u64]; omega
  · rw [Nat.min_eq_left (by omega), ← hR]; simp
  · rw [orN hhp2 (by omega), hor0, hU]
  · rw [← Int.natCast_mul, wN, hT]
  · rw [fdivN, Nat.mul_div_cancel _ hp0]

theorem div64_pos (hi lo y s : Nat) (hy : y < 18446744073709551616) (hhi : hi < y) (hi0 : 0 < hi)
    (hlz : Meets Tryz.prog 184 [(false, [vU64 y])] (rOne (vI s))) {p r Y u t y1 y0 u1 u0 Q1 R1 Q0 : Nat} (D : DivN hi lo y s p r Y u t y1 y0 u1 u0 Q1 R1 Q0) :
    Meets Tryz.prog 135 [(false, [vU64 hi]), (false, [vU64 lo]), (false, [vU64 y])] (rTup [(false, [vU64 ((hi * 18446744073709551616 + lo) / y : Nat)]), (false, [vU64 ((hi * 18446744073709551616 + lo) % y : Nat)])]) := by
  obtain ⟨n1, n2, n3, n4, f1, f2, f3, f6, f7, f8, f9, f10, f4, f5, g1, g2, g3, g4, w1, w2, w3, w5, w6, w7, hH, hH2, hYY, hQ1, hQ0⟩ := D
  have e32' : (2 : Int) ^ min (Int.toNat 32) 64 = 4294967296 := by decide
  have n5 : ((hi : Int) = 0) = False := eqF hi0
  have n6 : ((y : Int) ≤ (hi : Int)) = False := by simp; omega
  refine meets Tryz.func135 rfl rfl Tryz.ntmps135 Tryz.results135 rfl ?_
  simp -dsimp -implicitDefEqProofs only [n3, n5, n6, go_sem, ↓reduceIte, reduceCtorEq, Nat.reduceLT, Nat.reduceLeDiff, Nat.reduceEqDiff, Nat.reduceAdd, Nat.reduceMul, Nat.reduceSub, Nat.reduceBEq, Int.reduceLT, Int.reduceLE, Int.reduceEq, Int.reduceBEq, Int.reduceNeg]
  repeat' (first | with_reducible apply And.intro | with_reducible intro _ | with_reducible exact drawn (by kernel_rfl) | (refine callP (hlz) ?_; simp -dsimp -implicitDefEqProofs only [n1, n2, n3, n4, f1, f2, f3, f6, f7, f8, f9, f10, e32', fdivN, f4, f5, g1, g2, g3, g4, go_sem, ↓reduceIte, reduceCtorEq, Nat.reduceLT, Nat.reduceLeDiff, Nat.reduceEqDiff, Nat.reduceAdd, Nat.reduceMul, Nat.reduceSub, Nat.reduceBEq, Int.reduceLT, Int.reduceLE, Int.reduceEq, Int.reduceBEq, Int.reduceNeg]) | omega)
  refine vfor sitOk (ι := DivV y1 y0 u u1) (fun v => ⟨135, [(15, aU v.q), (16, aU v.r), (2, aU Y), (8, aU s), (9, aU y1), (10, aU y0), (11, aU u), (13, aU u1), (14, aU u0)], [], 1000⟩) (fun v => 4294967296 - v.r) ⟨u / y1, u % y1, dig_start hH⟩ ?_ ?_
  · simp -dsimp -implicitDefEqProofs only [go_sem, ↓reduceIte, reduceCtorEq, Nat.reduceLT, Nat.reduceLeDiff, Nat.reduceEqDiff, Nat.reduceAdd, Nat.reduceMul, Nat.reduceSub, Nat.reduceBEq, Int.reduceLT, Int.reduceLE, Int.reduceEq, Int.reduceBEq, Int.reduceNeg]
  intro ⟨q, r, i⟩
  have k1 := wk1 hH i
  have k2 := wk2 i
  have k3 := wk3 hH i
  have k4 := wk4 hH i
  simp -dsimp -implicitDefEqProofs only [k1, k2, k3, k4, go_sem, ↓reduceIte, reduceCtorEq, Nat.reduceLT, Nat.reduceLeDiff, Nat.reduceEqDiff, Nat.reduceAdd, Nat.reduceMul, Nat.reduceSub, Nat.reduceBEq, Int.reduceLT, Int.reduceLE, Int.reduceEq, Int.reduceBEq, Int.reduceNeg]
  refine ⟨fun hc1 => ⟨fun hc2 => ⟨fun hc3 => ?_, fun hc3 => ?_⟩, fun hc2 => ?_⟩, fun hc1 => ⟨fun hc3 => ?_, fun hc3 => ?_⟩⟩
  · have z0 := wbrk hH i (.inr (Int.ofNat_lt.1 hc2)) (leN hc3)
    rw [hYY, hQ1] at z0
    simp -dsimp -implicitDefEqProofs only [n4, z0, w1, go_sem, ↓reduceIte, reduceCtorEq, Nat.reduceLT, Nat.reduceLeDiff, Nat.reduceEqDiff, Nat.reduceAdd, Nat.reduceMul, Nat.reduceSub, Nat.reduceBEq, Int.reduceLT, Int.reduceLE, Int.reduceEq, Int.reduceBEq, Int.reduceNeg]
    repeat' (first | with_reducible apply And.intro | with_reducible intro _ | with_reducible exact drawn (by kernel_rfl) | omega)
    refine vfor sitOk (ι := DivV y1 y0 R1 u0) (fun v => ⟨135, [(15, aU Q1), (18, aU v.q), (16, aU v.r), (17, aU R1), (2, aU Y), (8, aU s), (9, aU y1), (10, aU y0), (14, aU u0)], [], 2000⟩) (fun v => 4294967296 - v.r) ⟨R1 / y1, R1 % y1, dig_start hH2⟩ ?_ ?_
    · simp -dsimp -implicitDefEqProofs only [w2, w3, go_sem, ↓reduceIte, reduceCtorEq, Nat.reduceLT, Nat.reduceLeDiff, Nat.reduceEqDiff, Nat.reduceAdd, Nat.reduceMul, Nat.reduceSub, Nat.reduceBEq, Int.reduceLT, Int.reduceLE, Int.reduceEq, Int.reduceBEq, Int.reduceNeg]
    intro ⟨q', r', i'⟩
    have k1' := wk1 hH2 i'
    have k2' := wk2 i'
    have k3' := wk3 hH2 i'
    have k4' := wk4 hH2 i'
    simp -dsimp -implicitDefEqProofs only [k1', k2', k3', k4', go_sem, ↓reduceIte, reduceCtorEq, Nat.reduceLT, Nat.reduceLeDiff, Nat.reduceEqDiff, Nat.reduceAdd, Nat.reduceMul, Nat.reduceSub, Nat.reduceBEq, Int.reduceLT, Int.reduceLE, Int.reduceEq, Int.reduceBEq, Int.reduceNeg]
    refine ⟨fun hc1 => ⟨fun hc2 => ⟨fun hc3 => ?_, fun hc3 => ?_⟩, fun hc2 => ?_⟩, fun hc1 => ⟨fun hc3 => ?_, fun hc3 => ?_⟩⟩
    · have z1 := wbrk hH2 i' (.inr (Int.ofNat_lt.1 hc2)) (leN hc3)
      rw [hYY, hQ0] at z1
      simp -dsimp -implicitDefEqProofs only [z1, w5, w6, n1, f2, w7, go_sem, ↓reduceIte, reduceCtorEq, Nat.reduceLT, Nat.reduceLeDiff, Nat.reduceEqDiff, Nat.reduceAdd, Nat.reduceMul, Nat.reduceSub, Nat.reduceBEq, Int.reduceLT, Int.reduceLE, Int.reduceEq, Int.reduceBEq, Int.reduceNeg]
    · have e0 := dig_next hH2 i' (.inr (Int.ofNat_lt.1 hc2)) (ltN hc3)
      have z1 := wdec hH2 i' (.inr (Int.ofNat_lt.1 hc2))
      refine again ⟨q' - 1, r' + y1, e0⟩ (dmeas hH (ltN hc3)) ?_
      simp -dsimp -implicitDefEqProofs only [z1, go_sem, ↓reduceIte, reduceCtorEq, Nat.reduceLT, Nat.reduceLeDiff, Nat.reduceEqDiff, Nat.reduceAdd, Nat.reduceMul, Nat.reduceSub, Nat.reduceBEq, Int.reduceLT, Int.reduceLE, Int.reduceEq, Int.reduceBEq, Int.reduceNeg]
    · have e0 := dig_exit hH2 i' (ltN hc1) (Int.ofNat_le.1 hc2)
      rw [hYY, hQ0] at e0
      subst e0
      simp -dsimp -implicitDefEqProofs only [w5, w6, n1, f2, w7, go_sem, ↓reduceIte, reduceCtorEq, Nat.reduceLT, Nat.reduceLeDiff, Nat.reduceEqDiff, Nat.reduceAdd, Nat.reduceMul, Nat.reduceSub, Nat.reduceBEq, Int.reduceLT, Int.reduceLE, Int.reduceEq, Int.reduceBEq, Int.reduceNeg]
    · have z1 := wbrk hH2 i' (.inl (leN hc1)) (leN hc3)
      rw [hYY, hQ0] at z1
      simp -dsimp -implicitDefEqProofs only [z1, w5, w6, n1, f2, w7, go_sem, ↓reduceIte, reduceCtorEq, Nat.reduceLT, Nat.reduceLeDiff, Nat.reduceEqDiff, Nat.reduceAdd, Nat.reduceMul, Nat.reduceSub, Nat.reduceBEq, Int.reduceLT, Int.reduceLE, Int.reduceEq, Int.reduceBEq, Int.reduceNeg]
    · have e0 := dig_next hH2 i' (.inl (leN hc1)) (ltN hc3)
      have z1 := wdec hH2 i' (.inl (leN hc1))
      refine again ⟨q' - 1, r' + y1, e0⟩ (dmeas hH (ltN hc3)) ?_
      simp -dsimp -implicitDefEqProofs only [z1, go_sem, ↓reduceIte, reduceCtorEq, Nat.reduceLT, Nat.reduceLeDiff, Nat.reduceEqDiff, Nat.reduceAdd, Nat.reduceMul, Nat.reduceSub, Nat.reduceBEq, Int.reduceLT, Int.reduceLE, Int.reduceEq, Int.reduceBEq, Int.reduceNeg]
  · have e0 := dig_next hH i (.inr (Int.ofNat_lt.1 hc2)) (ltN hc3)
    have z1 := wdec hH i (.inr (Int.ofNat_lt.1 hc2))
    refine again ⟨q - 1, r + y1, e0⟩ (dmeas hH (ltN hc3)) ?_
    simp -dsimp -implicitDefEqProofs only [z1, go_sem, ↓reduceIte, reduceCtorEq, Nat.reduceLT, Nat.reduceLeDiff, Nat.reduceEqDiff, Nat.reduceAdd, Nat.reduceMul, Nat.reduceSub, Nat.reduceBEq, Int.reduceLT, Int.reduceLE, Int.reduceEq, Int.reduceBEq, Int.reduceNeg]
  · have e0 := dig_exit hH i (ltN hc1) (Int.ofNat_le.1 hc2)
    rw [hYY, hQ1] at e0
    have e0' := e0.symm
    subst e0'
    simp -dsimp -implicitDefEqProofs only [n4, n1, w1, go_sem, ↓reduceIte, reduceCtorEq, Nat.reduceLT, Nat.reduceLeDiff, Nat.reduceEqDiff, Nat.reduceAdd, Nat.reduceMul, Nat.reduceSub, Nat.reduceBEq, Int.reduceLT, Int.reduceLE, Int.reduceEq, Int.reduceBEq, Int.reduceNeg]
    repeat' (first | with_reducible apply And.intro | with_reducible intro _ | with_reducible exact drawn (by kernel_rfl) | omega)
    refine vfor sitOk (ι := DivV y1 y0 R1 u0) (fun v => ⟨135, [(15, aU Q1), (18, aU v.q), (16, aU v.r), (17, aU R1), (2, aU Y), (8, aU s), (9, aU y1), (10, aU y0), (14, aU u0)], [], 2000⟩) (fun v => 4294967296 - v.r) ⟨R1 / y1, R1 % y1, dig_start hH2⟩ ?_ ?_
    · simp -dsimp -implicitDefEqProofs only [w2, w3, go_sem, ↓reduceIte, reduceCtorEq, Nat.reduceLT, Nat.reduceLeDiff, Nat.reduceEqDiff, Nat.reduceAdd, Nat.reduceMul, Nat.reduceSub, Nat.reduceBEq, Int.reduceLT, Int.reduceLE, Int.reduceEq, Int.reduceBEq, Int.reduceNeg]
    intro ⟨q', r', i'⟩
    have k1' := wk1 hH2 i'
    have k2' := wk2 i'
    have k3' := wk3 hH2 i'
    have k4' := wk4 hH2 i'
    simp -dsimp -implicitDefEqProofs only [k1', k2', k3', k4', go_sem, ↓reduceIte, reduceCtorEq, Nat.reduceLT, Nat.reduceLeDiff, Nat.reduceEqDiff, Nat.reduceAdd, Nat.reduceMul, Nat.reduceSub, Nat.reduceBEq, Int.reduceLT, Int.reduceLE, Int.reduceEq, Int.reduceBEq, Int.reduceNeg]
    refine ⟨fun hc1 => ⟨fun hc2 => ⟨fun hc3 => ?_, fun hc3 => ?_⟩, fun hc2 => ?_⟩, fun hc1 => ⟨fun hc3 => ?_, fun hc3 => ?_⟩⟩
    · have z1 := wbrk hH2 i' (.inr (Int.ofNat_lt.1 hc2)) (leN hc3)
      rw [hYY, hQ0] at z1
      simp -dsimp -implicitDefEqProofs only [z1, w5, w6, n1, f2, w7, go_sem, ↓reduceIte, reduceCtorEq, Nat.reduceLT, Nat.reduceLeDiff, Nat.reduceEqDiff, Nat.reduceAdd, Nat.reduceMul, Nat.reduceSub, Nat.reduceBEq, Int.reduceLT, Int.reduceLE, Int.reduceEq, Int.reduceBEq, Int.reduceNeg]
    · have e0 := dig_next hH2 i' (.inr (Int.ofNat_lt.1 hc2)) (ltN hc3)
      have z1 := wdec hH2 i' (.inr (Int.ofNat_lt.1 hc2))
      refine again ⟨q' - 1, r' + y1, e0⟩ (dmeas hH (ltN hc3)) ?_
      simp -dsimp -implicitDefEqProofs only [z1, go_sem, ↓reduceIte, reduceCtorEq, Nat.reduceLT, Nat.reduceLeDiff, Nat.reduceEqDiff, Nat.reduceAdd, Nat.reduceMul, Nat.reduceSub, Nat.reduceBEq, Int.reduceLT, Int.reduceLE, Int.reduceEq, Int.reduceBEq, Int.reduceNeg]
    · have e0 := dig_exit hH2 i' (ltN hc1) (Int.ofNat_le.1 hc2)
      rw [hYY, hQ0] at e0
      subst e0
      simp -dsimp -implicitDefEqProofs only [w5, w6, n1, f2, w7, go_sem, ↓reduceIte, reduceCtorEq, Nat.reduceLT, Nat.reduceLeDiff, Nat.reduceEqDiff, Nat.reduceAdd, Nat.reduceMul, Nat.reduceSub, Nat.reduceBEq, Int.reduceLT, Int.reduceLE, Int.reduceEq, Int.reduceBEq, Int.reduceNeg]
    · have z1 := wbrk hH2 i' (.inl (leN hc1)) (leN hc3)
      rw [hYY, hQ0] at z1
      simp -dsimp -implicitDefEqProofs only [z1, w5, w6, n1, f2, w7, go_sem, ↓reduceIte, reduceCtorEq, Nat.reduceLT, Nat.reduceLeDiff, Nat.reduceEqDiff, Nat.reduceAdd, Nat.reduceMul, Nat.reduceSub, Nat.reduceBEq, Int.reduceLT, Int.reduceLE, Int.reduceEq, Int.reduceBEq, Int.reduceNeg]
    · have e0 := dig_next hH2 i' (.inl (leN hc1)) (ltN hc3)
      have z1 := wdec hH2 i' (.inl (leN hc1))
      refine again ⟨q' - 1, r' + y1, e0⟩ (dmeas hH (ltN hc3)) ?_
      simp -dsimp -implicitDefEqProofs only [z1, go_sem, ↓reduceIte, reduceCtorEq, Nat.reduceLT, Nat.reduceLeDiff, Nat.reduceEqDiff, Nat.reduceAdd, Nat.reduceMul, Nat.reduceSub, Nat.reduceBEq, Int.reduceLT, Int.reduceLE, Int.reduceEq, Int.reduceBEq, Int.reduceNeg]
  · have z0 := wbrk hH i (.inl (leN hc1)) (leN hc3)
    rw [hYY, hQ1] at z0
    simp -dsimp -implicitDefEqProofs only [n4, z0, w1, go_sem, ↓reduceIte, reduceCtorEq, Nat.reduceLT, Nat.reduceLeDiff, Nat.reduceEqDiff, Nat.reduceAdd, Nat.reduceMul, Nat.reduceSub, Nat.reduceBEq, Int.reduceLT, Int.reduceLE, Int.reduceEq, Int.reduceBEq, Int.reduceNeg]
    repeat' (first | with_reducible apply And.intro | with_reducible intro _ | with_reducible exact drawn (by kernel_rfl) | omega)
    refine vfor sitOk (ι := DivV y1 y0 R1 u0) (fun v => ⟨135, [(15, aU Q1), (18, aU v.q), (16, aU v.r), (17, aU R1), (2, aU Y), (8, aU s), (9, aU y1), (10, aU y0), (14, aU u0)], [], 2000⟩) (fun v => 4294967296 - v.r) ⟨R1 / y1, R1 % y1, dig_start hH2⟩ ?_ ?_
    · simp -dsimp -implicitDefEqProofs only [w2, w3, go_sem, ↓reduceIte, reduceCtorEq, Nat.reduceLT, Nat.reduceLeDiff, Nat.reduceEqDiff, Nat.reduceAdd, Nat.reduceMul, Nat.reduceSub, Nat.reduceBEq, Int.reduceLT, Int.reduceLE, Int.reduceEq, Int.reduceBEq, Int.reduceNeg]
    intro ⟨q', r', i'⟩
    have k1' := wk1 hH2 i'
    have k2' := wk2 i'
    have k3' := wk3 hH2 i'
    have k4' := wk4 hH2 i'
    simp -dsimp -implicitDefEqProofs only [k1', k2', k3', k4', go_sem, ↓reduceIte, reduceCtorEq, Nat.reduceLT, Nat.reduceLeDiff, Nat.reduceEqDiff, Nat.reduceAdd, Nat.reduceMul, Nat.reduceSub, Nat.reduceBEq, Int.reduceLT, Int.reduceLE, Int.reduceEq, Int.reduceBEq, Int.reduceNeg]
    refine ⟨fun hc1 => ⟨fun hc2 => ⟨fun hc3 => ?_, fun hc3 => ?_⟩, fun hc2 => ?_⟩, fun hc1 => ⟨fun hc3 => ?_, fun hc3 => ?_⟩⟩
    · have z1 := wbrk hH2 i' (.inr (Int.ofNat_lt.1 hc2)) (leN hc3)
      rw [hYY, hQ0] at z1
      simp -dsimp -implicitDefEqProofs only [z1, w5, w6, n1, f2, w7, go_sem, ↓reduceIte, reduceCtorEq, Nat.reduceLT, Nat.reduceLeDiff, Nat.reduceEqDiff, Nat.reduceAdd, Nat.reduceMul, Nat.reduceSub, Nat.reduceBEq, Int.reduceLT, Int.reduceLE, Int.reduceEq, Int.reduceBEq, Int.reduceNeg]
    · have e0 := dig_next hH2 i' (.inr (Int.ofNat_lt.1 hc2)) (ltN hc3)
      have z1 := wdec hH2 i' (.inr (Int.ofNat_lt.1 hc2))
      refine again ⟨q' - 1, r' + y1, e0⟩ (dmeas hH (ltN hc3)) ?_
      simp -dsimp -implicitDefEqProofs only [z1, go_sem, ↓reduceIte, reduceCtorEq, Nat.reduceLT, Nat.reduceLeDiff, Nat.reduceEqDiff, Nat.reduceAdd, Nat.reduceMul, Nat.reduceSub, Nat.reduceBEq, Int.reduceLT, Int.reduceLE, Int.reduceEq, Int.reduceBEq, Int.reduceNeg]
    · have e0 := dig_exit hH2 i' (ltN hc1) (Int.ofNat_le.1 hc2)
      rw [hYY, hQ0] at e0
      subst e0
      simp -dsimp -implicitDefEqProofs only [w5, w6, n1, f2, w7, go_sem, ↓reduceIte, reduceCtorEq, Nat.reduceLT, Nat.reduceLeDiff, Nat.reduceEqDiff, Nat.reduceAdd, Nat.reduceMul, Nat.reduceSub, Nat.reduceBEq, Int.reduceLT, Int.reduceLE, Int.reduceEq, Int.reduceBEq, Int.reduceNeg]
    · have z1 := wbrk hH2 i' (.inl (leN hc1)) (leN hc3)
      rw [hYY, hQ0] at z1
      simp -dsimp -implicitDefEqProofs only [z1, w5, w6, n1, f2, w7, go_sem, ↓reduceIte, reduceCtorEq, Nat.reduceLT, Nat.reduceLeDiff, Nat.reduceEqDiff, Nat.reduceAdd, Nat.reduceMul, Nat.reduceSub, Nat.reduceBEq, Int.reduceLT, Int.reduceLE, Int.reduceEq, Int.reduceBEq, Int.reduceNeg]
    · have e0 := dig_next hH2 i' (.inl (leN hc1)) (ltN hc3)
      have z1 := wdec hH2 i' (.inl (leN hc1))
      refine again ⟨q' - 1, r' + y1, e0⟩ (dmeas hH (ltN hc3)) ?_
      simp -dsimp -implicitDefEqProofs only [z1, go_sem, ↓reduceIte, reduceCtorEq, Nat.reduceLT, Nat.reduceLeDiff, Nat.reduceEqDiff, Nat.reduceAdd, Nat.reduceMul, Nat.reduceSub, Nat.reduceBEq, Int.reduceLT, Int.reduceLE, Int.reduceEq, Int.reduceBEq, Int.reduceNeg]
  · have e0 := dig_next hH i (.inl (leN hc1)) (ltN hc3)
    have z1 := wdec hH i (.inl (leN hc1))
    refine again ⟨q - 1, r + y1, e0⟩ (dmeas hH (ltN hc3)) ?_
    simp -dsimp -implicitDefEqProofs only [z1, go_sem, ↓reduceIte, reduceCtorEq, Nat.reduceLT, Nat.reduceLeDiff, Nat.reduceEqDiff, Nat.reduceAdd, Nat.reduceMul, Nat.reduceSub, Nat.reduceBEq, Int.reduceLT, Int.reduceLE, Int.reduceEq, Int.reduceBEq, Int.reduceNeg]
end Go.Proofs.YtijfncaphfaijaaGreatDoor
namespace Go.Proofs.YtijfncaphfaijaaGreatDoor
open Go.Eng
set_option linter.unusedSimpArgs false
set_option maxRecDepth 10000

/-- A number y whose leading zeros are s. -/
structure LzOk (y s : Nat) : Prop where
  hs : s ≤ 63
  y0 : 0 < y
  y1 : y < 18446744073709551616
  lo : 9223372036854775808 ≤ y * 2 ^ s
  hi : y * 2 ^ s < 18446744073709551616
  lz : Meets Tryz.prog 184 [(false, [vU64 y])] (rOne (vI s))

theorem div64_ok {y s : Nat} (h : LzOk y s) (hi lo : Nat) (hlo : lo < 18446744073709551616) (hhi : hi < y) :
    Meets Tryz.prog 135 [(false, [vU64 hi]), (false, [vU64 lo]), (false, [vU64 y])] (rTup [(false, [vU64 ((hi * 18446744073709551616 + lo) / y : Nat)]), (false, [vU64 ((hi * 18446744073709551616 + lo) % y : Nat)])]) := by
  obtain ⟨h1, h2, h3, h4, h5, h6⟩ := h
  by_cases hi0 : hi = 0
  · subst hi0
    have n3 : ((y : Int) = 0) = False := eqF h2
    have n6 : ((y : Int) ≤ 0) = False := by simp; omega
    have w1 : IntKind.u64.wrap (Int.tdiv (lo : Int) (y : Int)) = ((lo / y : Nat) : Int) := wd2 hlo
    have w2 : Int.tmod (lo : Int) (y : Int) = ((lo % y : Nat) : Int) := tmodN lo y
    refine meets Tryz.func135 rfl rfl Tryz.ntmps135 Tryz.results135 rfl ?_
    simp -dsimp -implicitDefEqProofs only [n3, n6, Int.natCast_zero, go_sem, ↓reduceIte, reduceCtorEq, Nat.reduceLT, Nat.reduceLeDiff, Nat.reduceEqDiff, Nat.reduceAdd, Nat.reduceMul, Nat.reduceSub, Nat.reduceBEq, Int.reduceLT, Int.reduceLE, Int.reduceEq, Int.reduceBEq, Int.reduceNeg]
    repeat' (first | with_reducible apply And.intro | with_reducible intro _ | with_reducible exact drawn (by kernel_rfl) | omega)
  · exact div64_pos hi lo y s h3 hhi (by omega) h6 (divN_of h1 h2 hlo hhi rfl rfl rfl h4 h5 rfl rfl)

theorem rem64_ok {y s : Nat} (h : LzOk y s) (hi lo : Nat) (hlo : lo < 18446744073709551616) :
    Meets Tryz.prog 144 [(false, [vU64 hi]), (false, [vU64 lo]), (false, [vU64 y])] (rOne (vU64 ((hi * 18446744073709551616 + lo) % y : Nat))) := by
  have n3 : ((y : Int) = 0) = False := eqF h.y0
  have hd := div64_ok h (hi % y) lo hlo (Nat.mod_lt _ h.y0)
  have e : (hi % y * 18446744073709551616 + lo) % y = (hi * 18446744073709551616 + lo) % y := by
    rw [Nat.add_mod, Nat.mul_mod, Nat.mod_mod, ← Nat.mul_mod, ← Nat.add_mod]
  rw [e] at hd
  have w2 : Int.tmod (hi : Int) (y : Int) = ((hi % y : Nat) : Int) := tmodN hi y
  refine meets Tryz.func144 rfl rfl Tryz.ntmps144 Tryz.results144 rfl ?_
  simp -dsimp -implicitDefEqProofs only [n3, w2, go_sem, ↓reduceIte, reduceCtorEq, Nat.reduceLT, Nat.reduceLeDiff, Nat.reduceEqDiff, Nat.reduceAdd, Nat.reduceMul, Nat.reduceSub, Nat.reduceBEq, Int.reduceLT, Int.reduceLE, Int.reduceEq, Int.reduceBEq, Int.reduceNeg]
  repeat' (first | with_reducible apply And.intro | with_reducible intro _ | with_reducible exact drawn (by kernel_rfl) | (refine callP (hd) ?_; simp -dsimp -implicitDefEqProofs only [n3, w2, go_sem, ↓reduceIte, reduceCtorEq, Nat.reduceLT, Nat.reduceLeDiff, Nat.reduceEqDiff, Nat.reduceAdd, Nat.reduceMul, Nat.reduceSub, Nat.reduceBEq, Int.reduceLT, Int.reduceLE, Int.reduceEq, Int.reduceBEq, Int.reduceNeg]) | omega)

theorem rmul_ok {m s : Nat} (h : LzOk m s) (a b : Nat) (ha : a < 18446744073709551616) (hb : b < 18446744073709551616) :
    Meets Tryz.prog 93 [(false, [vU64 m]), (false, [vU64 a]), (false, [vU64 b])] (rOne (vU64 (a * b % m : Nat))) := by
  have hr := rem64_ok h (a * b / 18446744073709551616) (a * b % 18446744073709551616) (Nat.mod_lt _ (by omega))
  rw [Nat.div_add_mod'] at hr
  refine meets Tryz.func93 rfl rfl Tryz.ntmps93 Tryz.results93 rfl ?_
  simp -dsimp -implicitDefEqProofs only [go_sem, ↓reduceIte, reduceCtorEq, Nat.reduceLT, Nat.reduceLeDiff, Nat.reduceEqDiff, Nat.reduceAdd, Nat.reduceMul, Nat.reduceSub, Nat.reduceBEq, Int.reduceLT, Int.reduceLE, Int.reduceEq, Int.reduceBEq, Int.reduceNeg]
  repeat' (first | with_reducible apply And.intro | with_reducible intro _ | with_reducible exact drawn (by kernel_rfl) | (refine callP (mul64_ok a b ha hb) ?_; simp -dsimp -implicitDefEqProofs only [go_sem, ↓reduceIte, reduceCtorEq, Nat.reduceLT, Nat.reduceLeDiff, Nat.reduceEqDiff, Nat.reduceAdd, Nat.reduceMul, Nat.reduceSub, Nat.reduceBEq, Int.reduceLT, Int.reduceLE, Int.reduceEq, Int.reduceBEq, Int.reduceNeg]) | (refine callP (hr) ?_; simp -dsimp -implicitDefEqProofs only [go_sem, ↓reduceIte, reduceCtorEq, Nat.reduceLT, Nat.reduceLeDiff, Nat.reduceEqDiff, Nat.reduceAdd, Nat.reduceMul, Nat.reduceSub, Nat.reduceBEq, Int.reduceLT, Int.reduceLE, Int.reduceEq, Int.reduceBEq, Int.reduceNeg]) | omega)

theorem radd_ok {m s : Nat} (h : LzOk m s) (a b : Nat) :
    Meets Tryz.prog 88 [(false, [vU64 m]), (false, [vU64 a]), (false, [vU64 b])] (rOne (vU64 ((a + b) % m : Nat))) := by
  have n3 : ((m : Int) = 0) = False := eqF h.y0
  have hr := rem64_ok h ((a % m + b % m) / 18446744073709551616) ((a % m + b % m) % 18446744073709551616) (Nat.mod_lt _ (by omega))
  rw [Nat.div_add_mod', ← Nat.add_mod] at hr
  have w1 : Int.tmod (a : Int) (m : Int) = ((a % m : Nat) : Int) := tmodN a m
  have w2 : Int.tmod (b : Int) (m : Int) = ((b % m : Nat) : Int) := tmodN b m
  have c1 : (((a % m : Nat) : Int) + ((b % m : Nat) : Int) + 0) / 18446744073709551616 = (((a % m + b % m) / 18446744073709551616 : Nat) : Int) := by omega
  have c2 : (((a % m : Nat) : Int) + ((b % m : Nat) : Int) + 0) % 18446744073709551616 = (((a % m + b % m) % 18446744073709551616 : Nat) : Int) := by omega
  have p0 : ((0 : Int) ≤ ((a % m : Nat) : Int) ∧ (0 : Int) ≤ ((b % m : Nat) : Int)) = True := by simp; omega
  refine meets Tryz.func88 rfl rfl Tryz.ntmps88 Tryz.results88 rfl ?_
  simp -dsimp -implicitDefEqProofs only [n3, w1, w2, c1, c2, p0, go_sem, ↓reduceIte, reduceCtorEq, Nat.reduceLT, Nat.reduceLeDiff, Nat.reduceEqDiff, Nat.reduceAdd, Nat.reduceMul, Nat.reduceSub, Nat.reduceBEq, Int.reduceLT, Int.reduceLE, Int.reduceEq, Int.reduceBEq, Int.reduceNeg]
  repeat' (first | with_reducible apply And.intro | with_reducible intro _ | with_reducible exact drawn (by kernel_rfl) | (refine callP (hr) ?_; simp -dsimp -implicitDefEqProofs only [n3, w1, w2, c1, c2, p0, Option.map_some, go_sem, ↓reduceIte, reduceCtorEq, Nat.reduceLT, Nat.reduceLeDiff, Nat.reduceEqDiff, Nat.reduceAdd, Nat.reduceMul, Nat.reduceSub, Nat.reduceBEq, Int.reduceLT, Int.reduceLE, Int.reduceEq, Int.reduceBEq, Int.reduceNeg]) | omega)

/-- The field's product; the seventeenth power. -/
def fm (a b : Nat) : Nat := a % 2305843009213693951 * (b % 2305843009213693951) % 2305843009213693951
theorem fm_lt (a b : Nat) : fm a b < 18446744073709551616 := Nat.lt_trans (Nat.mod_lt _ (by decide)) (by decide)
def sqm (a : Nat) : Nat := fm a a
def p17 (x : Nat) : Nat := fm x (sqm (sqm (sqm (sqm x))))
theorem fm_ok (a b : Nat) (ha : a < 18446744073709551616) (hb : b < 18446744073709551616) : Meets Tryz.prog 238 [(false, [vU64 a]), (false, [vU64 b])] (rOne (vU64 (fm a b : Nat))) := fmul_ok a b ha hb
theorem seventeen_ok (x : Nat) (hx : x < 18446744073709551616) : Meets Tryz.prog 216 [(false, [vU64 x])] (rOne (vU64 (p17 x : Nat))) := by
  have w1 : IntKind.i64.wrap ((0 : Int) + 1) = 1 := by decide
  have w2 : IntKind.i64.wrap ((1 : Int) + 1) = 2 := by decide
  have w3 : IntKind.i64.wrap ((2 : Int) + 1) = 3 := by decide
  have w4 : IntKind.i64.wrap ((3 : Int) + 1) = 4 := by decide
  refine meets Tryz.func216 rfl rfl Tryz.ntmps216 Tryz.results216 rfl ?_
  simp -dsimp -implicitDefEqProofs only [go_sem, ↓reduceIte, reduceCtorEq, Nat.reduceLT, Nat.reduceLeDiff, Nat.reduceEqDiff, Nat.reduceAdd, Nat.reduceMul, Nat.reduceSub, Nat.reduceBEq, Int.reduceLT, Int.reduceLE, Int.reduceEq, Int.reduceBEq, Int.reduceNeg]
  refine vrounds 6 sitOk ?_
  simp -dsimp -implicitDefEqProofs only [go_sem, ↓reduceIte, reduceCtorEq, Nat.reduceLT, Nat.reduceLeDiff, Nat.reduceEqDiff, Nat.reduceAdd, Nat.reduceMul, Nat.reduceSub, Nat.reduceBEq, Int.reduceLT, Int.reduceLE, Int.reduceEq, Int.reduceBEq, Int.reduceNeg]
  refine vround ?_
  simp -dsimp -implicitDefEqProofs only [go_sem, ↓reduceIte, reduceCtorEq, Nat.reduceLT, Nat.reduceLeDiff, Nat.reduceEqDiff, Nat.reduceAdd, Nat.reduceMul, Nat.reduceSub, Nat.reduceBEq, Int.reduceLT, Int.reduceLE, Int.reduceEq, Int.reduceBEq, Int.reduceNeg]
  repeat' (first | with_reducible apply And.intro | with_reducible intro _ | with_reducible exact drawn (by kernel_rfl) | (refine callP (fm_ok x x hx hx) ?_; simp -dsimp -implicitDefEqProofs only [w1, go_sem, ↓reduceIte, reduceCtorEq, Nat.reduceLT, Nat.reduceLeDiff, Nat.reduceEqDiff, Nat.reduceAdd, Nat.reduceMul, Nat.reduceSub, Nat.reduceBEq, Int.reduceLT, Int.reduceLE, Int.reduceEq, Int.reduceBEq, Int.reduceNeg]) | omega)
  refine vround ?_
  simp -dsimp -implicitDefEqProofs only [go_sem, ↓reduceIte, reduceCtorEq, Nat.reduceLT, Nat.reduceLeDiff, Nat.reduceEqDiff, Nat.reduceAdd, Nat.reduceMul, Nat.reduceSub, Nat.reduceBEq, Int.reduceLT, Int.reduceLE, Int.reduceEq, Int.reduceBEq, Int.reduceNeg]
  repeat' (first | with_reducible apply And.intro | with_reducible intro _ | with_reducible exact drawn (by kernel_rfl) | (refine callP (fm_ok _ _ (fm_lt _ _) (fm_lt _ _)) ?_; simp -dsimp -implicitDefEqProofs only [w2, go_sem, ↓reduceIte, reduceCtorEq, Nat.reduceLT, Nat.reduceLeDiff, Nat.reduceEqDiff, Nat.reduceAdd, Nat.reduceMul, Nat.reduceSub, Nat.reduceBEq, Int.reduceLT, Int.reduceLE, Int.reduceEq, Int.reduceBEq, Int.reduceNeg]) | omega)
  refine vround ?_
  simp -dsimp -implicitDefEqProofs only [go_sem, ↓reduceIte, reduceCtorEq, Nat.reduceLT, Nat.reduceLeDiff, Nat.reduceEqDiff, Nat.reduceAdd, Nat.reduceMul, Nat.reduceSub, Nat.reduceBEq, Int.reduceLT, Int.reduceLE, Int.reduceEq, Int.reduceBEq, Int.reduceNeg]
  repeat' (first | with_reducible apply And.intro | with_reducible intro _ | with_reducible exact drawn (by kernel_rfl) | (refine callP (fm_ok _ _ (fm_lt _ _) (fm_lt _ _)) ?_; simp -dsimp -implicitDefEqProofs only [w3, go_sem, ↓reduceIte, reduceCtorEq, Nat.reduceLT, Nat.reduceLeDiff, Nat.reduceEqDiff, Nat.reduceAdd, Nat.reduceMul, Nat.reduceSub, Nat.reduceBEq, Int.reduceLT, Int.reduceLE, Int.reduceEq, Int.reduceBEq, Int.reduceNeg]) | omega)
  refine vround ?_
  simp -dsimp -implicitDefEqProofs only [go_sem, ↓reduceIte, reduceCtorEq, Nat.reduceLT, Nat.reduceLeDiff, Nat.reduceEqDiff, Nat.reduceAdd, Nat.reduceMul, Nat.reduceSub, Nat.reduceBEq, Int.reduceLT, Int.reduceLE, Int.reduceEq, Int.reduceBEq, Int.reduceNeg]
  repeat' (first | with_reducible apply And.intro | with_reducible intro _ | with_reducible exact drawn (by kernel_rfl) | (refine callP (fm_ok _ _ (fm_lt _ _) (fm_lt _ _)) ?_; simp -dsimp -implicitDefEqProofs only [w4, go_sem, ↓reduceIte, reduceCtorEq, Nat.reduceLT, Nat.reduceLeDiff, Nat.reduceEqDiff, Nat.reduceAdd, Nat.reduceMul, Nat.reduceSub, Nat.reduceBEq, Int.reduceLT, Int.reduceLE, Int.reduceEq, Int.reduceBEq, Int.reduceNeg]) | omega)
  refine vround ?_
  simp -dsimp -implicitDefEqProofs only [go_sem, ↓reduceIte, reduceCtorEq, Nat.reduceLT, Nat.reduceLeDiff, Nat.reduceEqDiff, Nat.reduceAdd, Nat.reduceMul, Nat.reduceSub, Nat.reduceBEq, Int.reduceLT, Int.reduceLE, Int.reduceEq, Int.reduceBEq, Int.reduceNeg]
  repeat' (first | with_reducible apply And.intro | with_reducible intro _ | with_reducible exact drawn (by kernel_rfl) | (refine callP (fm_ok x _ hx (fm_lt _ _)) ?_; simp -dsimp -implicitDefEqProofs only [go_sem, ↓reduceIte, reduceCtorEq, Nat.reduceLT, Nat.reduceLeDiff, Nat.reduceEqDiff, Nat.reduceAdd, Nat.reduceMul, Nat.reduceSub, Nat.reduceBEq, Int.reduceLT, Int.reduceLE, Int.reduceEq, Int.reduceBEq, Int.reduceNeg]) | omega)
  rfl
end Go.Proofs.YtijfncaphfaijaaGreatDoor
