/- RouteClocks: the law's contract. -/
import Derived.Test.YtidnnaobhcffcaaGreatDoorRH
namespace Go.Proofs.YtidnnaobhcffcaaGreatDoor
open Go.Eng
set_option linter.unusedSimpArgs false
set_option maxRecDepth 10000

theorem ck_range {n : Nt} (h : chkN n = 0) (who : Bs) : -5 ≤ (ckG n who).B ∧ (ckG n who).B ≤ 5 := by
  obtain ⟨_, _, _, _, hc, _⟩ := chk_parts h
  have hc' : (∀ c ∈ n.C, clkB c = true) ∧ Ris koS kC n.C := rises_iff.1 hc
  unfold ckG
  cases hf : ckF n who with
  | none => simp
  | some c =>
    have := clkB_iff.1 (hc'.1 c (find_some hf).1)
    exact ⟨this.2.1, this.2.2⟩
theorem rclocks13_ok (n : Nt) (a b : Bs) (now d : Int) (hk : ∀ c ∈ n.C, -9223372036854775808 ≤ c.B ∧ c.B ≤ 9223372036854775807) (hw : ∀ c ∈ n.C, c.W.length ≤ 9223372036854775807) :
    Meets Tryz.prog 10 [n.arg, (false, [vS a]), (false, [vS b]), (false, [vI now]), (false, [vI d])] (rOne (vB true)) := by
  refine meets Tryz.func10 rfl rfl Tryz.ntmps10 Tryz.results10 rfl ?_
  simp -dsimp -implicitDefEqProofs only [go_sem, ↓reduceIte, reduceCtorEq, Nat.reduceLT, Nat.reduceLeDiff, Nat.reduceEqDiff, Nat.reduceAdd, Nat.reduceMul, Nat.reduceSub, Nat.reduceBEq, Int.reduceLT, Int.reduceLE, Int.reduceEq, Int.reduceBEq, Int.reduceNeg]
  refine callP live13_ok ?_
  simp -dsimp -implicitDefEqProofs only [go_sem, ↓reduceIte, reduceCtorEq, Nat.reduceLT, Nat.reduceLeDiff, Nat.reduceEqDiff, Nat.reduceAdd, Nat.reduceMul, Nat.reduceSub, Nat.reduceBEq, Int.reduceLT, Int.reduceLE, Int.reduceEq, Int.reduceBEq, Int.reduceNeg]
  refine callP (rfewN_ok n) ?_
  simp -dsimp -implicitDefEqProofs only [go_sem, ↓reduceIte, reduceCtorEq, Nat.reduceLT, Nat.reduceLeDiff, Nat.reduceEqDiff, Nat.reduceAdd, Nat.reduceMul, Nat.reduceSub, Nat.reduceBEq, Int.reduceLT, Int.reduceLE, Int.reduceEq, Int.reduceBEq, Int.reduceNeg]
  intro hf
  have hz := sz_of hf hk hw
  have hcl := hz.c
  refine callP (check_okN n hz) ?_
  simp -dsimp -implicitDefEqProofs only [go_sem, ↓reduceIte, reduceCtorEq, Nat.reduceLT, Nat.reduceLeDiff, Nat.reduceEqDiff, Nat.reduceAdd, Nat.reduceMul, Nat.reduceSub, Nat.reduceBEq, Int.reduceLT, Int.reduceLE, Int.reduceEq, Int.reduceBEq, Int.reduceNeg]
  intro h0 h1 h2 h3 h4
  obtain ⟨a1, a2⟩ := ck_range h0 a
  obtain ⟨b1, b2⟩ := ck_range h0 b
  refine callP (clock_ok n a now (by omega)) ?_
  simp -dsimp -implicitDefEqProofs only [go_sem, ↓reduceIte, reduceCtorEq, Nat.reduceLT, Nat.reduceLeDiff, Nat.reduceEqDiff, Nat.reduceAdd, Nat.reduceMul, Nat.reduceSub, Nat.reduceBEq, Int.reduceLT, Int.reduceLE, Int.reduceEq, Int.reduceBEq, Int.reduceNeg]
  refine callP (clock_ok n b now (by omega)) ?_
  simp -dsimp -implicitDefEqProofs only [go_sem, ↓reduceIte, reduceCtorEq, Nat.reduceLT, Nat.reduceLeDiff, Nat.reduceEqDiff, Nat.reduceAdd, Nat.reduceMul, Nat.reduceSub, Nat.reduceBEq, Int.reduceLT, Int.reduceLE, Int.reduceEq, Int.reduceBEq, Int.reduceNeg]
  have w1 : IntKind.i64.wrap (now + d) = now + d := by rw [wrap64] <;> omega
  simp -dsimp -implicitDefEqProofs only [w1, go_sem, ↓reduceIte, reduceCtorEq, Nat.reduceLT, Nat.reduceLeDiff, Nat.reduceEqDiff, Nat.reduceAdd, Nat.reduceMul, Nat.reduceSub, Nat.reduceBEq, Int.reduceLT, Int.reduceLE, Int.reduceEq, Int.reduceBEq, Int.reduceNeg]
  refine callP (clock_ok n a (now + d) (by omega)) ?_
  have c1 : clockV n a now = max 0 (now + (ckG n a).B) := by unfold clockV; rw [show IntKind.i64.wrap (now + (ckG n a).B) = now + (ckG n a).B by rw [wrap64] <;> omega]
  have c2 : clockV n b now = max 0 (now + (ckG n b).B) := by unfold clockV; rw [show IntKind.i64.wrap (now + (ckG n b).B) = now + (ckG n b).B by rw [wrap64] <;> omega]
  have c3 : clockV n a (now + d) = max 0 (now + d + (ckG n a).B) := by unfold clockV; rw [show IntKind.i64.wrap (now + d + (ckG n a).B) = now + d + (ckG n a).B by rw [wrap64] <;> omega]
  generalize (ckG n a).B = p at *
  generalize (ckG n b).B = q at *
  simp -dsimp -implicitDefEqProofs only [go_sem, ↓reduceIte, reduceCtorEq, Nat.reduceLT, Nat.reduceLeDiff, Nat.reduceEqDiff, Nat.reduceAdd, Nat.reduceMul, Nat.reduceSub, Nat.reduceBEq, Int.reduceLT, Int.reduceLE, Int.reduceEq, Int.reduceBEq, Int.reduceNeg]
  generalize clockV n a now = X at *
  generalize clockV n b now = Y at *
  generalize clockV n a (now + d) = Z at *
  have v1 : IntKind.i64.wrap (X - Y) = X - Y := by rw [wrap64] <;> omega
  have v2 : IntKind.i64.wrap (Y - X) = Y - X := by rw [wrap64] <;> omega
  have v3 : IntKind.i64.wrap (X - now) = X - now := by rw [wrap64] <;> omega
  have v4 : IntKind.i64.wrap (now - X) = now - X := by rw [wrap64] <;> omega
  have v5 : IntKind.i64.wrap (Z - X) = Z - X := by rw [wrap64] <;> omega
  have v6 : IntKind.i64.wrap (d + 5) = d + 5 := by rw [wrap64] <;> omega
  rw [v1, v2, v3, v4, v5, v6]
  refine ⟨fun _ => ⟨fun _ => ⟨fun _ => ⟨fun _ => ⟨fun _ => ⟨fun _ => ?_, fun h => ?_⟩, fun h => ?_⟩, fun h => ?_⟩, fun h => ?_⟩, fun h => ?_⟩, fun h => ?_⟩ <;> omega
end Go.Proofs.YtidnnaobhcffcaaGreatDoor
