/- What is too old is not missed: trimmed at one time, whatever is used at a time no earlier may be, or may not, as ahead of it: the row 'NonceTrimsSaid', for every input. -/
import Derived.Test.YtmkolmgpcmceaaaN7
namespace Go.Proofs.Ytmkolmgpcmceaaa
open Go.Eng
set_option linter.unusedSimpArgs false
set_option maxRecDepth 10000

theorem keep_use {n k now thn : Int} {l : List No} (h1 : checkV n l = 0) (h : now ≤ thn) : (useV n l k thn).2.2 = (useV n (l.filter (keepB now)) k thn).2.2 := by
  have h2 := checkV_filter (keepB now) h1
  by_cases ht : timeB thn = true
  · have e : (l.filter (keepB now)).any (hitB k thn) = l.any (hitB k thn) := by
      rw [List.any_filter]
      congr 1
      funext x
      by_cases hx : thn ≤ x.U
      · have : ¬ x.U < now := by omega
        simp [hitB, keepB, this]
      · simp [hitB, hx]
    cases ha : l.any (hitB k thn) with
    | true => rw [use_done h1 ht ha, use_done h2 ht (by rw [e]; exact ha)]
    | false => rw [use_stale h1 ht ha, use_stale h2 ht (by rw [e]; exact ha)]
  · simp [useV, h1, h2, ht]

theorem keep_both (now thn : Int) (l : List No) : (l.filter (keepB now)).filter (keepB thn) = l.filter (keepB (if now < thn then thn else now)) := by
  rw [List.filter_filter]
  congr 1
  funext x
  simp only [keepB]
  by_cases h : now < thn
  · rw [if_pos h]
    by_cases h1 : x.U < thn
    · simp [h1]
    · have : ¬ x.U < now := by omega
      simp [h1, this]
  · rw [if_neg h]
    by_cases h1 : x.U < now
    · simp [h1]
    · have : ¬ x.U < thn := by omega
      simp [h1, this]

structure TrInv (l : List No) where
  i : Nat
  le : i ≤ l.length

theorem trims_ok (n : Int) (l : List No) (now thn k : Int) (hk1 : -9223372036854775808 ≤ k) (hk2 : k ≤ 9223372036854775807) : Meets Try.prog 8 [(true, [vI n, vD (nosD l)]), (false, [vI now]), (false, [vI thn]), (false, [vI k])] (rOne (vB true)) := by
  refine meets Try.func8 rfl rfl Try.ntmps8 Try.results8 rfl ?_
  simp -dsimp -implicitDefEqProofs only [go_sem, ↓reduceIte, reduceCtorEq, Nat.reduceLT, Nat.reduceLeDiff, Nat.reduceEqDiff, Nat.reduceAdd, Nat.reduceMul, Nat.reduceSub, Nat.reduceBEq, Int.reduceLT, Int.reduceLE, Int.reduceEq, Int.reduceBEq, Int.reduceNeg]
  refine callP live_ok ?_
  simp -dsimp -implicitDefEqProofs only [go_sem, ↓reduceIte, reduceCtorEq, Nat.reduceLT, Nat.reduceLeDiff, Nat.reduceEqDiff, Nat.reduceAdd, Nat.reduceMul, Nat.reduceSub, Nat.reduceBEq, Int.reduceLT, Int.reduceLE, Int.reduceEq, Int.reduceBEq, Int.reduceNeg]
  refine callP (few_ok n l) ?_
  simp -dsimp -implicitDefEqProofs only [go_sem, ↓reduceIte, reduceCtorEq, Nat.reduceLT, Nat.reduceLeDiff, Nat.reduceEqDiff, Nat.reduceAdd, Nat.reduceMul, Nat.reduceSub, Nat.reduceBEq, Int.reduceLT, Int.reduceLE, Int.reduceEq, Int.reduceBEq, Int.reduceNeg]
  intro hl
  refine callP (check_ok n l (by omega)) ?_
  simp -dsimp -implicitDefEqProofs only [go_sem, ↓reduceIte, reduceCtorEq, Nat.reduceLT, Nat.reduceLeDiff, Nat.reduceEqDiff, Nat.reduceAdd, Nat.reduceMul, Nat.reduceSub, Nat.reduceBEq, Int.reduceLT, Int.reduceLE, Int.reduceEq, Int.reduceBEq, Int.reduceNeg]
  intro h1
  obtain ⟨x, hx⟩ : ∃ x, l.filter (keepB now) = x := ⟨_, rfl⟩
  have hfl := filter_len (keepB now) l
  have h2 := checkV_filter (keepB now) h1
  have hku := keep_use (k := k) (now := now) (thn := thn) h1
  rw [hx] at hfl h2 hku
  refine callP (hx ▸ trim_ok n l now (by omega)) ?_
  simp -dsimp -implicitDefEqProofs only [go_sem, ↓reduceIte, reduceCtorEq, Nat.reduceLT, Nat.reduceLeDiff, Nat.reduceEqDiff, Nat.reduceAdd, Nat.reduceMul, Nat.reduceSub, Nat.reduceBEq, Int.reduceLT, Int.reduceLE, Int.reduceEq, Int.reduceBEq, Int.reduceNeg]
  refine vfor sitOk (ι := TrInv x) (fun v => ⟨84, [(4, aP 0 0), (9, aP 120 0), (10, aI v.i), (1, aI now), (2, aI thn), (3, aI k), (8, aB false)],
    [(0, some (.var [cI n, cD (nosD l)] true)), (120, some (.var [cI n, .own 112] true)), (112, some (.row 2 41 (x.map No.cells) true))], 144⟩) (fun v => x.length - v.i) ⟨0, by omega⟩ ?_ ?_
  · simp -dsimp -implicitDefEqProofs only [go_sem, ↓reduceIte, reduceCtorEq, Nat.reduceLT, Nat.reduceLeDiff, Nat.reduceEqDiff, Nat.reduceAdd, Nat.reduceMul, Nat.reduceSub, Nat.reduceBEq, Int.reduceLT, Int.reduceLE, Int.reduceEq, Int.reduceBEq, Int.reduceNeg]
  intro ⟨i, hi⟩
  simp -dsimp -implicitDefEqProofs only [go_sem, ↓reduceIte, reduceCtorEq, Nat.reduceLT, Nat.reduceLeDiff, Nat.reduceEqDiff, Nat.reduceAdd, Nat.reduceMul, Nat.reduceSub, Nat.reduceBEq, Int.reduceLT, Int.reduceLE, Int.reduceEq, Int.reduceBEq, Int.reduceNeg]
  refine ⟨fun hlt => ⟨⟨by omega, by omega⟩, by omega, fun y hy => ⟨fun c1 => ?_, fun c1 => ?_⟩⟩, fun hge => callP (trim_ok n x thn (by omega)) ?_⟩
  · have := List.mem_of_getElem? hy
    rw [← hx] at this
    have := (List.mem_filter.1 this).2
    simp [keepB] at this; omega
  · refine again ⟨i + 1, by omega⟩ (by simp; omega) ?_
    simp -dsimp -implicitDefEqProofs only [wrapS (show i < x.length by omega) (show x.length ≤ 4611686018427387904 by omega), go_sem, ↓reduceIte, reduceCtorEq, Nat.reduceLT, Nat.reduceLeDiff, Nat.reduceEqDiff, Nat.reduceAdd, Nat.reduceMul, Nat.reduceSub, Nat.reduceBEq, Int.reduceLT, Int.reduceLE, Int.reduceEq, Int.reduceBEq, Int.reduceNeg]
  · simp -dsimp -implicitDefEqProofs only [go_sem, ↓reduceIte, reduceCtorEq, Nat.reduceLT, Nat.reduceLeDiff, Nat.reduceEqDiff, Nat.reduceAdd, Nat.reduceMul, Nat.reduceSub, Nat.reduceBEq, Int.reduceLT, Int.reduceLE, Int.reduceEq, Int.reduceBEq, Int.reduceNeg]
    obtain ⟨y, hy⟩ : ∃ y, x.filter (keepB thn) = y := ⟨_, rfl⟩
    have hyl := filter_len (keepB thn) x
    have hb := keep_both now thn l
    rw [hx] at hb
    rw [hy] at hb hyl
    refine callP (hb ▸ trim_ok n l (if now < thn then thn else now) (by omega)) ?_
    simp -dsimp -implicitDefEqProofs only [hy, go_sem, ↓reduceIte, reduceCtorEq, Nat.reduceLT, Nat.reduceLeDiff, Nat.reduceEqDiff, Nat.reduceAdd, Nat.reduceMul, Nat.reduceSub, Nat.reduceBEq, Int.reduceLT, Int.reduceLE, Int.reduceEq, Int.reduceBEq, Int.reduceNeg]
    refine callP (h2 ▸ check_ok n x (by omega)) ?_
    simp -dsimp -implicitDefEqProofs only [go_sem, ↓reduceIte, reduceCtorEq, Nat.reduceLT, Nat.reduceLeDiff, Nat.reduceEqDiff, Nat.reduceAdd, Nat.reduceMul, Nat.reduceSub, Nat.reduceBEq, Int.reduceLT, Int.reduceLE, Int.reduceEq, Int.reduceBEq, Int.reduceNeg]
    refine callP (same_ok n y n y (by omega)) ?_
    simp -dsimp -implicitDefEqProofs only [go_sem, ↓reduceIte, reduceCtorEq, Nat.reduceLT, Nat.reduceLeDiff, Nat.reduceEqDiff, Nat.reduceAdd, Nat.reduceMul, Nat.reduceSub, Nat.reduceBEq, Int.reduceLT, Int.reduceLE, Int.reduceEq, Int.reduceBEq, Int.reduceNeg]
    obtain ⟨⟨b1, b2, b3⟩, hb⟩ : ∃ b, useV n l k thn = b := ⟨_, rfl⟩
    obtain ⟨⟨c1, c2, c3⟩, hc⟩ : ∃ c, useV n x k thn = c := ⟨_, rfl⟩
    rw [hb, hc] at hku
    refine callP (hb ▸ use_ok n l k thn (by omega) hk1 hk2) ?_
    simp -dsimp -implicitDefEqProofs only [go_sem, ↓reduceIte, reduceCtorEq, Nat.reduceLT, Nat.reduceLeDiff, Nat.reduceEqDiff, Nat.reduceAdd, Nat.reduceMul, Nat.reduceSub, Nat.reduceBEq, Int.reduceLT, Int.reduceLE, Int.reduceEq, Int.reduceBEq, Int.reduceNeg]
    refine callP (hc ▸ use_ok n x k thn (by omega) hk1 hk2) ?_
    simp -dsimp -implicitDefEqProofs only [go_sem, ↓reduceIte, reduceCtorEq, Nat.reduceLT, Nat.reduceLeDiff, Nat.reduceEqDiff, Nat.reduceAdd, Nat.reduceMul, Nat.reduceSub, Nat.reduceBEq, Int.reduceLT, Int.reduceLE, Int.reduceEq, Int.reduceBEq, Int.reduceNeg]
    intro h
    simpa using hku h

theorem nonceTrims_read (x0 x1 x2 x3 : List D) (h0 : shpG tys 6 24 x0) (h1 : shpG tys 6 3 x1) (h2 : shpG tys 6 3 x2) (h3 : shpG tys 6 3 x3) : Meets Try.prog 8 [argC Try.prog 24 x0, argC Try.prog 3 x1, argC Try.prog 3 x2, argC Try.prog 3 x3] (rOne (vB true)) := by
  obtain ⟨n, l, rfl⟩ := read_fence h0
  obtain ⟨now, rfl, _⟩ := read_int h1
  obtain ⟨thn, rfl, _⟩ := read_int h2
  obtain ⟨k, rfl, hk1, hk2⟩ := read_int h3
  rw [arg_fence, arg_int, arg_int, arg_int]
  exact trims_ok n l now thn k hk1 hk2
section
open Go.ChangeShapes Go.WideShapes Go.ChangeAt Go.RowKit
set_option maxRecDepth 100000 in
theorem nonceTrims_lifted (os : Os) (started : os.Started) (H : Type) (enc : TypeId × Value → H) :
    ReturnsInHanded {} Try.checked os 8 .any (Rows.nonceTrimsSpec.pre6 enc Try.prog Try.f8 Rows.nonceTrimsRow.domain false) (Rows.nonceTrimsSpec.post enc Try.prog Try.f8 false true false false) := by
  refine returnsInHanded_of_change (C := Try.checked) own started (by kernel_rfl) Try.func8
    (ChangeSpec.witness6 (enc := enc) (C := Try.checked) false ⟨#[], #[.agg #[.int .i64 0, .slice none 0 0], .int .i64 0, .int .i64 0, .int .i64 0], []⟩ 8 (by kernel_rfl) (by kernel_rfl) (by kernel_rfl) (by kernel_rfl)) ?_
  exact row_ok (C := Try.checked) 6 4 laidOut (by kernel_rfl) rfl (by kernel_rfl) rfl (fun ds h => match ds, h with | [_, _, _, _], _ => rfl) fun dss h => match dss, h with
    | [x0, x1, x2, x3], .cons h0 (.cons h1 (.cons h2 (.cons h3 .nil))) => nonceTrims_read x0 x1 x2 x3 (shp_table tysOk _ _ _ h0) (shp_table tysOk _ _ _ h1) (shp_table tysOk _ _ _ h2) (shp_table tysOk _ _ _ h3)
theorem nonceTrims_holds : Rows.NonceTrimsSaid :=
  OpenClaim.holds_of_wide 8 Try.f8 rfl rfl rfl rfl rfl rfl rfl ⟨rfl, rfl, rfl, rfl, rfl⟩ rfl rfl rfl rfl rfl (by kernel_rfl) Try.func8 (by kernel_rfl)
    (of_decide_eq_true (by kernel_rfl)) (by unfold Func.isWrapper; rw [if_neg (of_decide_eq_false (by kernel_rfl))]; exact ⟨rfl, rfl⟩)
    (fun os started H enc _ => nonceTrims_lifted os started H enc)
end
end Go.Proofs.Ytmkolmgpcmceaaa
