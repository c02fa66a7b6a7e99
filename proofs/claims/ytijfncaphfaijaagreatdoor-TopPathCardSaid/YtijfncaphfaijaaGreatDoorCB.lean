
/- The group's operations, exactly: inverses, bits. -/
import Derived.Test.YtijfncaphfaijaaGreatDoorCA
namespace Go.Proofs.YtijfncaphfaijaaGreatDoor
open Go.Eng
set_option linter.unusedSimpArgs false
set_option maxRecDepth 10000

structure IvInv (m a : Nat) where
  x : Nat
  y : Nat
  u : Int
  v : Int
  hx : x ≤ m
  hy : y ≤ m
  ok : Eu m (a % m) x y u v
  eu : eucF x y u v = eucF (a % m) m 1 0
theorem euW {x y : Nat} (hx : x < 4611686018427387904) : IntKind.u64.wrap (Int.tdiv (x : Int) (y : Int)) = ((x / y : Nat) : Int) ∧ IntKind.u64.wrap ((x : Int) - IntKind.u64.wrap (((x / y : Nat) : Int) * (y : Int))) = ((x % y : Nat) : Int) ∧ IntKind.i64.wrap ((x / y : Nat) : Int) = ((x / y : Nat) : Int) := by
  have h := Nat.div_le_self x y
  refine ⟨wd2 (by omega), wd3 (by omega), ?_⟩
  generalize x / y = q at h
  exact wrap64 (by omega) (by omega)
theorem euV {m q : Nat} {u v : Int} (h1 : q * v.natAbs ≤ m) (h2 : (u - (q : Int) * v).natAbs ≤ m) (hm : m < 4611686018427387904) : IntKind.i64.wrap ((q : Int) * v) = (q : Int) * v ∧ IntKind.i64.wrap (u - (q : Int) * v) = u - (q : Int) * v := by
  have h3 : ((q : Int) * v).natAbs = q * v.natAbs := by rw [Int.natAbs_mul, Int.natAbs_natCast]
  exact ⟨wrap64 (by omega) (by omega), wrap64 (by omega) (by omega)⟩
theorem inverse_ok (m a : Nat) (hm : 0 < m) (hm2 : m < 4611686018427387904) (hg : Nat.gcd (a % m) m = 1) (ha : a % m ≠ 0) : Meets Tryz.prog 91 [(false, [vU64 m]), (false, [vU64 a])] (rTup [(false, [vU64 (invN m a : Nat)]), (false, [vI 0])]) := by
  have n3 : ((m : Int) = 0) = False := eqF hm
  have w1 : Int.tmod (a : Int) (m : Int) = ((a % m : Nat) : Int) := tmodN a m
  have n4 : (((a % m : Nat) : Int) = 0) = False := eqF (Nat.pos_of_ne_zero ha)
  refine meets Tryz.func91 rfl rfl Tryz.ntmps91 Tryz.results91 rfl ?_
  simp -dsimp -implicitDefEqProofs only [n3, w1, n4, go_sem, ↓reduceIte, reduceCtorEq, Nat.reduceLT, Nat.reduceLeDiff, Nat.reduceEqDiff, Nat.reduceAdd, Nat.reduceMul, Nat.reduceSub, Nat.reduceBEq, Int.reduceLT, Int.reduceLE, Int.reduceEq, Int.reduceBEq, Int.reduceNeg]
  refine vfor sitOk (ι := IvInv m a) (fun v => ⟨43, [(6, aU v.x), (7, aU v.y), (8, aI v.u), (9, aI v.v), (0, aU m)], [], 200⟩) (fun v => v.y) ⟨a % m, m, 1, 0, Nat.le_of_lt (Nat.mod_lt _ hm), Nat.le_refl _, eu_start hm, rfl⟩ ?_ ?_
  · simp -dsimp -implicitDefEqProofs only [go_sem, ↓reduceIte, reduceCtorEq, Nat.reduceLT, Nat.reduceLeDiff, Nat.reduceEqDiff, Nat.reduceAdd, Nat.reduceMul, Nat.reduceSub, Nat.reduceBEq, Int.reduceLT, Int.reduceLE, Int.reduceEq, Int.reduceBEq, Int.reduceNeg]
  intro ⟨x, y, u, v, hx, hy, ok, eu⟩
  obtain ⟨d1, d2, d3⟩ := euW (x := x) (y := y) (by omega)
  by_cases hy0 : y = 0
  · subst hy0
    simp -dsimp -implicitDefEqProofs only [go_sem, ↓reduceIte, reduceCtorEq, Nat.reduceLT, Nat.reduceLeDiff, Nat.reduceEqDiff, Nat.reduceAdd, Nat.reduceMul, Nat.reduceSub, Nat.reduceBEq, Int.reduceLT, Int.reduceLE, Int.reduceEq, Int.reduceBEq, Int.reduceNeg]
    have hu : u = eucF (a % m) m 1 0 := by rw [← eu, eucF_zero]
    obtain ⟨o1, o2, _⟩ := invN_ok hm hg
    have ub := ok.ub
    unfold invI at o1
    rw [← hu] at o1
    refine ⟨fun h => ?_, fun h => ?_⟩
    · rw [if_pos h] at o1
      rw [wrap64 (n := (m : Int)) (by omega) (by omega), wrap64 (by omega) (by omega), IntKind.wrap_u64]
      omega
    · rw [if_neg (by omega)] at o1
      rw [IntKind.wrap_u64]
      omega
  · have n5 : ((y : Int) = 0) = False := eqF (Nat.pos_of_ne_zero hy0)
    obtain ⟨st, sb⟩ := ok.step (Nat.pos_of_ne_zero hy0)
    obtain ⟨d4, d5⟩ := euV sb st.vb (by omega)
    simp -dsimp -implicitDefEqProofs only [n5, d1, d2, d3, d4, d5, Option.map_some, go_sem, ↓reduceIte, reduceCtorEq, Nat.reduceLT, Nat.reduceLeDiff, Nat.reduceEqDiff, Nat.reduceAdd, Nat.reduceMul, Nat.reduceSub, Nat.reduceBEq, Int.reduceLT, Int.reduceLE, Int.reduceEq, Int.reduceBEq, Int.reduceNeg]
    refine again ⟨y, x % y, v, u - ((x / y : Nat) : Int) * v, hy, by have := Nat.mod_lt x (Nat.pos_of_ne_zero hy0); omega, st, by rw [← eucF_step (Nat.pos_of_ne_zero hy0)]; exact eu⟩ (Nat.mod_lt x (Nat.pos_of_ne_zero hy0)) ?_
    simp -dsimp -implicitDefEqProofs only [d1, d2, d3, d4, d5, go_sem, ↓reduceIte, reduceCtorEq, Nat.reduceLT, Nat.reduceLeDiff, Nat.reduceEqDiff, Nat.reduceAdd, Nat.reduceMul, Nat.reduceSub, Nat.reduceBEq, Int.reduceLT, Int.reduceLE, Int.reduceEq, Int.reduceBEq, Int.reduceNeg]
def bl8 (n : Nat) : Nat := if n < 1 then 0 else if n < 2 then 1 else if n < 4 then 2 else if n < 8 then 3 else if n < 16 then 4 else if n < 32 then 5 else if n < 64 then 6 else if n < 128 then 7 else 8
theorem bl8_ok {n : Nat} (h : n < 256) : n < 2 ^ bl8 n ∧ bl8 n ≤ 8 := by
  have : ∀ j : Fin 256, j.1 < 2 ^ bl8 j.1 ∧ bl8 j.1 ≤ 8 := by decide +kernel
  exact this ⟨n, h⟩
theorem len_up {n d k : Nat} {b : Nat} (hd : 2 ^ k = d) (h : n / d < 2 ^ b) : n < 2 ^ (k + b) := by
  have h0 : 0 < d := by rw [← hd]; exact Nat.two_pow_pos k
  rw [Nat.pow_add, hd]
  have := (Nat.div_lt_iff_lt_mul h0).1 h
  rwa [Nat.mul_comm]
theorem vbyte_tab {s : ByteArray} {K : UInt8 → Prop} {h : Hold K} {i : Nat} (hz : s.size = 256) (hs : ((List.range 256).all fun j => s[j]? == some (UInt8.ofNat (bl8 j))) = true) (hi : i < 256) (hk : K (UInt8.ofNat (bl8 i))) : vbyteH s i h := by
  have := List.all_eq_true.1 hs i (List.mem_range.2 hi)
  have he : s[i]? = some (UInt8.ofNat (bl8 i)) := by simpa using this
  exact ⟨by omega, fun b hb => by rw [he] at hb; cases hb; exact hk⟩
theorem fd32 (n : Nat) : Int.fdiv (n : Int) 4294967296 = ((n / 4294967296 : Nat) : Int) := fdivN n 4294967296
theorem fd16 (n : Nat) : Int.fdiv (n : Int) 65536 = ((n / 65536 : Nat) : Int) := fdivN n 65536
theorem fd8 (n : Nat) : Int.fdiv (n : Int) 256 = ((n / 256 : Nat) : Int) := fdivN n 256
theorem bl8_u8 {n : Nat} (h : n < 256) : (UInt8.ofNat (bl8 n)).toNat = bl8 n := by
  have := (bl8_ok h).2
  simp [UInt8.toNat_ofNat']
  omega
theorem len64_ok (n : Nat) (hn : n < 18446744073709551616) : ∃ k : Nat, k ≤ 64 ∧ n < 2 ^ k ∧ Meets Tryz.prog 183 [(false, [vU64 n])] (rOne (vI k)) := by
  have e32 : (2 : Int) ^ min (Int.toNat 32) 64 = 4294967296 := by decide
  have e16 : (2 : Int) ^ min (Int.toNat 16) 64 = 65536 := by decide
  have e8 : (2 : Int) ^ min (Int.toNat 8) 64 = 256 := by decide
  by_cases h32 : n < 4294967296
  · have c32 : ((4294967296 : Int) ≤ ((n : Nat) : Int)) = False := by simp; omega
    by_cases h16 : n < 65536
    · have c16 : ((65536 : Int) ≤ ((n : Nat) : Int)) = False := by simp; omega
      by_cases h8 : n < 256
      · have c8 : ((256 : Int) ≤ ((n : Nat) : Int)) = False := by simp; omega
        have hx : n < 256 := by omega
        obtain ⟨b1, b2⟩ := bl8_ok hx
        have b3 := bl8_u8 hx
        have w : IntKind.u8.wrap ((n : Nat) : Int) = ((n : Nat) : Int) := by rw [IntKind.wrap_u8]; omega
        refine ⟨bl8 n, by omega, b1, ?_⟩
        have w2 : IntKind.i64.wrap (0 + ((bl8 n : Nat) : Int)) = ((bl8 n : Nat) : Int) := by rw [wrap64] <;> omega
        refine meets Tryz.func183 rfl rfl Tryz.ntmps183 Tryz.results183 rfl ?_
        simp -dsimp -implicitDefEqProofs only [c32, c16, c8, e32, e16, e8, fd32, fd16, fd8, w, go_sem, ↓reduceIte, reduceCtorEq, Nat.reduceLT, Nat.reduceLeDiff, Nat.reduceEqDiff, Nat.reduceAdd, Nat.reduceMul, Nat.reduceSub, Nat.reduceBEq, Int.reduceLT, Int.reduceLE, Int.reduceEq, Int.reduceBEq, Int.reduceNeg]
        refine ⟨by omega, vbyte_tab (by kernel_rfl) (by kernel_rfl) (show Int.toNat ((n : Nat) : Int) < 256 by omega) ?_⟩
        simp -dsimp -implicitDefEqProofs only [Int.toNat_natCast, b3, go_sem, ↓reduceIte, reduceCtorEq, Nat.reduceLT, Nat.reduceLeDiff, Nat.reduceEqDiff, Nat.reduceAdd, Nat.reduceMul, Nat.reduceSub, Nat.reduceBEq, Int.reduceLT, Int.reduceLE, Int.reduceEq, Int.reduceBEq, Int.reduceNeg]
        clear b1 b3 w w2
        generalize bl8 n = b at b2 ⊢
        rcases (by omega : b = 0 ∨ b = 1 ∨ b = 2 ∨ b = 3 ∨ b = 4 ∨ b = 5 ∨ b = 6 ∨ b = 7 ∨ b = 8) with rfl | rfl | rfl | rfl | rfl | rfl | rfl | rfl | rfl <;> rfl
      · have c8 : ((256 : Int) ≤ ((n : Nat) : Int)) = True := by simp; omega
        have hx : (n / 256) < 256 := by omega
        obtain ⟨b1, b2⟩ := bl8_ok hx
        have b3 := bl8_u8 hx
        have w : IntKind.u8.wrap (((n / 256) : Nat) : Int) = (((n / 256) : Nat) : Int) := by rw [IntKind.wrap_u8]; omega
        refine ⟨8 + (bl8 (n / 256)), by omega, len_up (k := 8) (by decide) (b1), ?_⟩
        have w2 : IntKind.i64.wrap (8 + ((bl8 (n / 256) : Nat) : Int)) = ((8 + (bl8 (n / 256)) : Nat) : Int) := by rw [wrap64] <;> omega
        refine meets Tryz.func183 rfl rfl Tryz.ntmps183 Tryz.results183 rfl ?_
        simp -dsimp -implicitDefEqProofs only [c32, c16, c8, e32, e16, e8, fd32, fd16, fd8, w, go_sem, ↓reduceIte, reduceCtorEq, Nat.reduceLT, Nat.reduceLeDiff, Nat.reduceEqDiff, Nat.reduceAdd, Nat.reduceMul, Nat.reduceSub, Nat.reduceBEq, Int.reduceLT, Int.reduceLE, Int.reduceEq, Int.reduceBEq, Int.reduceNeg]
        refine ⟨by omega, vbyte_tab (by kernel_rfl) (by kernel_rfl) (show Int.toNat (((n / 256) : Nat) : Int) < 256 by omega) ?_⟩
        simp -dsimp -implicitDefEqProofs only [Int.toNat_natCast, b3, go_sem, ↓reduceIte, reduceCtorEq, Nat.reduceLT, Nat.reduceLeDiff, Nat.reduceEqDiff, Nat.reduceAdd, Nat.reduceMul, Nat.reduceSub, Nat.reduceBEq, Int.reduceLT, Int.reduceLE, Int.reduceEq, Int.reduceBEq, Int.reduceNeg]
        clear b1 b3 w w2
        generalize bl8 (n / 256) = b at b2 ⊢
        rcases (by omega : b = 0 ∨ b = 1 ∨ b = 2 ∨ b = 3 ∨ b = 4 ∨ b = 5 ∨ b = 6 ∨ b = 7 ∨ b = 8) with rfl | rfl | rfl | rfl | rfl | rfl | rfl | rfl | rfl <;> rfl
    · have c16 : ((65536 : Int) ≤ ((n : Nat) : Int)) = True := by simp; omega
      by_cases h8 : (n / 65536) < 256
      · have c8 : ((256 : Int) ≤ (((n / 65536) : Nat) : Int)) = False := by simp; omega
        have hx : (n / 65536) < 256 := by omega
        obtain ⟨b1, b2⟩ := bl8_ok hx
        have b3 := bl8_u8 hx
        have w : IntKind.u8.wrap (((n / 65536) : Nat) : Int) = (((n / 65536) : Nat) : Int) := by rw [IntKind.wrap_u8]; omega
        refine ⟨16 + (bl8 (n / 65536)), by omega, len_up (k := 16) (by decide) (b1), ?_⟩
        have w2 : IntKind.i64.wrap (16 + ((bl8 (n / 65536) : Nat) : Int)) = ((16 + (bl8 (n / 65536)) : Nat) : Int) := by rw [wrap64] <;> omega
        refine meets Tryz.func183 rfl rfl Tryz.ntmps183 Tryz.results183 rfl ?_
        simp -dsimp -implicitDefEqProofs only [c32, c16, c8, e32, e16, e8, fd32, fd16, fd8, w, go_sem, ↓reduceIte, reduceCtorEq, Nat.reduceLT, Nat.reduceLeDiff, Nat.reduceEqDiff, Nat.reduceAdd, Nat.reduceMul, Nat.reduceSub, Nat.reduceBEq, Int.reduceLT, Int.reduceLE, Int.reduceEq, Int.reduceBEq, Int.reduceNeg]
        refine ⟨by omega, vbyte_tab (by kernel_rfl) (by kernel_rfl) (show Int.toNat (((n / 65536) : Nat) : Int) < 256 by omega) ?_⟩
        simp -dsimp -implicitDefEqProofs only [Int.toNat_natCast, b3, go_sem, ↓reduceIte, reduceCtorEq, Nat.reduceLT, Nat.reduceLeDiff, Nat.reduceEqDiff, Nat.reduceAdd, Nat.reduceMul, Nat.reduceSub, Nat.reduceBEq, Int.reduceLT, Int.reduceLE, Int.reduceEq, Int.reduceBEq, Int.reduceNeg]
        clear b1 b3 w w2
        generalize bl8 (n / 65536) = b at b2 ⊢
        rcases (by omega : b = 0 ∨ b = 1 ∨ b = 2 ∨ b = 3 ∨ b = 4 ∨ b = 5 ∨ b = 6 ∨ b = 7 ∨ b = 8) with rfl | rfl | rfl | rfl | rfl | rfl | rfl | rfl | rfl <;> rfl
      · have c8 : ((256 : Int) ≤ (((n / 65536) : Nat) : Int)) = True := by simp; omega
        have hx : ((n / 65536) / 256) < 256 := by omega
        obtain ⟨b1, b2⟩ := bl8_ok hx
        have b3 := bl8_u8 hx
        have w : IntKind.u8.wrap ((((n / 65536) / 256) : Nat) : Int) = ((((n / 65536) / 256) : Nat) : Int) := by rw [IntKind.wrap_u8]; omega
        refine ⟨16 + (8 + (bl8 ((n / 65536) / 256))), by omega, len_up (k := 16) (by decide) (len_up (k := 8) (by decide) (b1)), ?_⟩
        have w2 : IntKind.i64.wrap (24 + ((bl8 ((n / 65536) / 256) : Nat) : Int)) = ((16 + (8 + (bl8 ((n / 65536) / 256))) : Nat) : Int) := by rw [wrap64] <;> omega
        refine meets Tryz.func183 rfl rfl Tryz.ntmps183 Tryz.results183 rfl ?_
        simp -dsimp -implicitDefEqProofs only [c32, c16, c8, e32, e16, e8, fd32, fd16, fd8, w, go_sem, ↓reduceIte, reduceCtorEq, Nat.reduceLT, Nat.reduceLeDiff, Nat.reduceEqDiff, Nat.reduceAdd, Nat.reduceMul, Nat.reduceSub, Nat.reduceBEq, Int.reduceLT, Int.reduceLE, Int.reduceEq, Int.reduceBEq, Int.reduceNeg]
        refine ⟨by omega, vbyte_tab (by kernel_rfl) (by kernel_rfl) (show Int.toNat ((((n / 65536) / 256) : Nat) : Int) < 256 by omega) ?_⟩
        simp -dsimp -implicitDefEqProofs only [Int.toNat_natCast, b3, go_sem, ↓reduceIte, reduceCtorEq, Nat.reduceLT, Nat.reduceLeDiff, Nat.reduceEqDiff, Nat.reduceAdd, Nat.reduceMul, Nat.reduceSub, Nat.reduceBEq, Int.reduceLT, Int.reduceLE, Int.reduceEq, Int.reduceBEq, Int.reduceNeg]
        clear b1 b3 w w2
        generalize bl8 ((n / 65536) / 256) = b at b2 ⊢
        rcases (by omega : b = 0 ∨ b = 1 ∨ b = 2 ∨ b = 3 ∨ b = 4 ∨ b = 5 ∨ b = 6 ∨ b = 7 ∨ b = 8) with rfl | rfl | rfl | rfl | rfl | rfl | rfl | rfl | rfl <;> rfl
  · have c32 : ((4294967296 : Int) ≤ ((n : Nat) : Int)) = True := by simp; omega
    by_cases h16 : (n / 4294967296) < 65536
    · have c16 : ((65536 : Int) ≤ (((n / 4294967296) : Nat) : Int)) = False := by simp; omega
      by_cases h8 : (n / 4294967296) < 256
      · have c8 : ((256 : Int) ≤ (((n / 4294967296) : Nat) : Int)) = False := by simp; omega
        have hx : (n / 4294967296) < 256 := by omega
        obtain ⟨b1, b2⟩ := bl8_ok hx
        have b3 := bl8_u8 hx
        have w : IntKind.u8.wrap (((n / 4294967296) : Nat) : Int) = (((n / 4294967296) : Nat) : Int) := by rw [IntKind.wrap_u8]; omega
        refine ⟨32 + (bl8 (n / 4294967296)), by omega, len_up (k := 32) (by decide) (b1), ?_⟩
        have w2 : IntKind.i64.wrap (32 + ((bl8 (n / 4294967296) : Nat) : Int)) = ((32 + (bl8 (n / 4294967296)) : Nat) : Int) := by rw [wrap64] <;> omega
        refine meets Tryz.func183 rfl rfl Tryz.ntmps183 Tryz.results183 rfl ?_
        simp -dsimp -implicitDefEqProofs only [c32, c16, c8, e32, e16, e8, fd32, fd16, fd8, w, go_sem, ↓reduceIte, reduceCtorEq, Nat.reduceLT, Nat.reduceLeDiff, Nat.reduceEqDiff, Nat.reduceAdd, Nat.reduceMul, Nat.reduceSub, Nat.reduceBEq, Int.reduceLT, Int.reduceLE, Int.reduceEq, Int.reduceBEq, Int.reduceNeg]
        refine ⟨by omega, vbyte_tab (by kernel_rfl) (by kernel_rfl) (show Int.toNat (((n / 4294967296) : Nat) : Int) < 256 by omega) ?_⟩
        simp -dsimp -implicitDefEqProofs only [Int.toNat_natCast, b3, go_sem, ↓reduceIte, reduceCtorEq, Nat.reduceLT, Nat.reduceLeDiff, Nat.reduceEqDiff, Nat.reduceAdd, Nat.reduceMul, Nat.reduceSub, Nat.reduceBEq, Int.reduceLT, Int.reduceLE, Int.reduceEq, Int.reduceBEq, Int.reduceNeg]
        clear b1 b3 w w2
        generalize bl8 (n / 4294967296) = b at b2 ⊢
        rcases (by omega : b = 0 ∨ b = 1 ∨ b = 2 ∨ b = 3 ∨ b = 4 ∨ b = 5 ∨ b = 6 ∨ b = 7 ∨ b = 8) with rfl | rfl | rfl | rfl | rfl | rfl | rfl | rfl | rfl <;> rfl
      · have c8 : ((256 : Int) ≤ (((n / 4294967296) : Nat) : Int)) = True := by simp; omega
        have hx : ((n / 4294967296) / 256) < 256 := by omega
        obtain ⟨b1, b2⟩ := bl8_ok hx
        have b3 := bl8_u8 hx
        have w : IntKind.u8.wrap ((((n / 4294967296) / 256) : Nat) : Int) = ((((n / 4294967296) / 256) : Nat) : Int) := by rw [IntKind.wrap_u8]; omega
        refine ⟨32 + (8 + (bl8 ((n / 4294967296) / 256))), by omega, len_up (k := 32) (by decide) (len_up (k := 8) (by decide) (b1)), ?_⟩
        have w2 : IntKind.i64.wrap (40 + ((bl8 ((n / 4294967296) / 256) : Nat) : Int)) = ((32 + (8 + (bl8 ((n / 4294967296) / 256))) : Nat) : Int) := by rw [wrap64] <;> omega
        refine meets Tryz.func183 rfl rfl Tryz.ntmps183 Tryz.results183 rfl ?_
        simp -dsimp -implicitDefEqProofs only [c32, c16, c8, e32, e16, e8, fd32, fd16, fd8, w, go_sem, ↓reduceIte, reduceCtorEq, Nat.reduceLT, Nat.reduceLeDiff, Nat.reduceEqDiff, Nat.reduceAdd, Nat.reduceMul, Nat.reduceSub, Nat.reduceBEq, Int.reduceLT, Int.reduceLE, Int.reduceEq, Int.reduceBEq, Int.reduceNeg]
        refine ⟨by omega, vbyte_tab (by kernel_rfl) (by kernel_rfl) (show Int.toNat ((((n / 4294967296) / 256) : Nat) : Int) < 256 by omega) ?_⟩
        simp -dsimp -implicitDefEqProofs only [Int.toNat_natCast, b3, go_sem, ↓reduceIte, reduceCtorEq, Nat.reduceLT, Nat.reduceLeDiff, Nat.reduceEqDiff, Nat.reduceAdd, Nat.reduceMul, Nat.reduceSub, Nat.reduceBEq, Int.reduceLT, Int.reduceLE, Int.reduceEq, Int.reduceBEq, Int.reduceNeg]
        clear b1 b3 w w2
        generalize bl8 ((n / 4294967296) / 256) = b at b2 ⊢
        rcases (by omega : b = 0 ∨ b = 1 ∨ b = 2 ∨ b = 3 ∨ b = 4 ∨ b = 5 ∨ b = 6 ∨ b = 7 ∨ b = 8) with rfl | rfl | rfl | rfl | rfl | rfl | rfl | rfl | rfl <;> rfl
    · have c16 : ((65536 : Int) ≤ (((n / 4294967296) : Nat) : Int)) = True := by simp; omega
      by_cases h8 : ((n / 4294967296) / 65536) < 256
      · have c8 : ((256 : Int) ≤ ((((n / 4294967296) / 65536) : Nat) : Int)) = False := by simp; omega
        have hx : ((n / 4294967296) / 65536) < 256 := by omega
        obtain ⟨b1, b2⟩ := bl8_ok hx
        have b3 := bl8_u8 hx
        have w : IntKind.u8.wrap ((((n / 4294967296) / 65536) : Nat) : Int) = ((((n / 4294967296) / 65536) : Nat) : Int) := by rw [IntKind.wrap_u8]; omega
        refine ⟨32 + (16 + (bl8 ((n / 4294967296) / 65536))), by omega, len_up (k := 32) (by decide) (len_up (k := 16) (by decide) (b1)), ?_⟩
        have w2 : IntKind.i64.wrap (48 + ((bl8 ((n / 4294967296) / 65536) : Nat) : Int)) = ((32 + (16 + (bl8 ((n / 4294967296) / 65536))) : Nat) : Int) := by rw [wrap64] <;> omega
        refine meets Tryz.func183 rfl rfl Tryz.ntmps183 Tryz.results183 rfl ?_
        simp -dsimp -implicitDefEqProofs only [c32, c16, c8, e32, e16, e8, fd32, fd16, fd8, w, go_sem, ↓reduceIte, reduceCtorEq, Nat.reduceLT, Nat.reduceLeDiff, Nat.reduceEqDiff, Nat.reduceAdd, Nat.reduceMul, Nat.reduceSub, Nat.reduceBEq, Int.reduceLT, Int.reduceLE, Int.reduceEq, Int.reduceBEq, Int.reduceNeg]
        refine ⟨by omega, vbyte_tab (by kernel_rfl) (by kernel_rfl) (show Int.toNat ((((n / 4294967296) / 65536) : Nat) : Int) < 256 by omega) ?_⟩
        simp -dsimp -implicitDefEqProofs only [Int.toNat_natCast, b3, go_sem, ↓reduceIte, reduceCtorEq, Nat.reduceLT, Nat.reduceLeDiff, Nat.reduceEqDiff, Nat.reduceAdd, Nat.reduceMul, Nat.reduceSub, Nat.reduceBEq, Int.reduceLT, Int.reduceLE, Int.reduceEq, Int.reduceBEq, Int.reduceNeg]
        clear b1 b3 w w2
        generalize bl8 ((n / 4294967296) / 65536) = b at b2 ⊢
        rcases (by omega : b = 0 ∨ b = 1 ∨ b = 2 ∨ b = 3 ∨ b = 4 ∨ b = 5 ∨ b = 6 ∨ b = 7 ∨ b = 8) with rfl | rfl | rfl | rfl | rfl | rfl | rfl | rfl | rfl <;> rfl
      · have c8 : ((256 : Int) ≤ ((((n / 4294967296) / 65536) : Nat) : Int)) = True := by simp; omega
        have hx : (((n / 4294967296) / 65536) / 256) < 256 := by omega
        obtain ⟨b1, b2⟩ := bl8_ok hx
        have b3 := bl8_u8 hx
        have w : IntKind.u8.wrap (((((n / 4294967296) / 65536) / 256) : Nat) : Int) = (((((n / 4294967296) / 65536) / 256) : Nat) : Int) := by rw [IntKind.wrap_u8]; omega
        refine ⟨32 + (16 + (8 + (bl8 (((n / 4294967296) / 65536) / 256)))), by omega, len_up (k := 32) (by decide) (len_up (k := 16) (by decide) (len_up (k := 8) (by decide) (b1))), ?_⟩
        have w2 : IntKind.i64.wrap (56 + ((bl8 (((n / 4294967296) / 65536) / 256) : Nat) : Int)) = ((32 + (16 + (8 + (bl8 (((n / 4294967296) / 65536) / 256)))) : Nat) : Int) := by rw [wrap64] <;> omega
        refine meets Tryz.func183 rfl rfl Tryz.ntmps183 Tryz.results183 rfl ?_
        simp -dsimp -implicitDefEqProofs only [c32, c16, c8, e32, e16, e8, fd32, fd16, fd8, w, go_sem, ↓reduceIte, reduceCtorEq, Nat.reduceLT, Nat.reduceLeDiff, Nat.reduceEqDiff, Nat.reduceAdd, Nat.reduceMul, Nat.reduceSub, Nat.reduceBEq, Int.reduceLT, Int.reduceLE, Int.reduceEq, Int.reduceBEq, Int.reduceNeg]
        refine ⟨by omega, vbyte_tab (by kernel_rfl) (by kernel_rfl) (show Int.toNat (((((n / 4294967296) / 65536) / 256) : Nat) : Int) < 256 by omega) ?_⟩
        simp -dsimp -implicitDefEqProofs only [Int.toNat_natCast, b3, go_sem, ↓reduceIte, reduceCtorEq, Nat.reduceLT, Nat.reduceLeDiff, Nat.reduceEqDiff, Nat.reduceAdd, Nat.reduceMul, Nat.reduceSub, Nat.reduceBEq, Int.reduceLT, Int.reduceLE, Int.reduceEq, Int.reduceBEq, Int.reduceNeg]
        clear b1 b3 w w2
        generalize bl8 (((n / 4294967296) / 65536) / 256) = b at b2 ⊢
        rcases (by omega : b = 0 ∨ b = 1 ∨ b = 2 ∨ b = 3 ∨ b = 4 ∨ b = 5 ∨ b = 6 ∨ b = 7 ∨ b = 8) with rfl | rfl | rfl | rfl | rfl | rfl | rfl | rfl | rfl <;> rfl
end Go.Proofs.YtijfncaphfaijaaGreatDoor
