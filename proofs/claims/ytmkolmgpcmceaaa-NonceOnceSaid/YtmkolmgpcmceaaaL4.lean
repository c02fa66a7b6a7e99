/- What is told may be used from then on till its time is over, and once, and is new: the row 'NonceToldSaid', for every input. -/
import Derived.Test.YtmkolmgpcmceaaaN7
namespace Go.Proofs.Ytmkolmgpcmceaaa
open Go.Eng
set_option linter.unusedSimpArgs false
set_option maxRecDepth 10000

theorem tell_inv {n : Int} {l : List No} {now life : Int} {a : Int × List No × Int × Int} (h : tellV n l now life = a) : (a.2.2.2 ≠ 0 ∧ a.2.1 = [] ∧ a.2.2.1 = 0) ∨
    (a = (n + 1, l.filter (keepB now) ++ [(⟨n, now + life⟩ : No)], n, 0) ∧ checkV n l = 0 ∧ timeB now = true ∧ 1 ≤ life ∧ now + life ≤ 1099511627776 ∧ (l.filter (keepB now)).length < 64 ∧ n < 1099511627776) := by
  subst h
  unfold tellV
  split
  · rename_i c; exact .inl ⟨c, rfl, rfl⟩
  · rename_i c
    split
    · exact .inl ⟨by simp, rfl, rfl⟩
    · rename_i c2
      split
      · exact .inl ⟨by simp, rfl, rfl⟩
      · rename_i c3
        have hc : checkV n l = 0 := by omega
        obtain ⟨h1, _, h3⟩ := checkV_zero hc
        have h4 := filter_len (keepB now) l
        have h5 := timeB_true h1
        refine .inr ⟨rfl, hc, ?_, ?_, ?_, ?_, ?_⟩
        · cases h : timeB now with
          | true => rfl
          | false => exact absurd (.inl (.inl h)) c2
        · have := fun h => c2 (.inl (.inr h)); omega
        · have := fun h => c2 (.inr h); omega
        · have := fun h => c3 (.inl h); omega
        · have := fun h => c3 (.inr h); omega

theorem okFrom_snoc {n u : Int} (hu : timeB u = true) : ∀ {l : List No} {last : Int}, last < n → okFrom n last l = true → okFrom (n + 1) last (l ++ [⟨n, u⟩]) = true
  | [], last, hl, _ => by simp [okFrom, hl, hu]; omega
  | x :: r, last, _, ho => by
    simp only [okFrom, Bool.and_eq_true, decide_eq_true_eq, List.cons_append] at ho ⊢
    exact ⟨⟨⟨ho.1.1.1, by omega⟩, ho.1.2⟩, okFrom_snoc hu ho.1.1.2 ho.2⟩

/-- What is told, and then used. -/
theorem told_law {n : Int} {l : List No} {now life thn : Int} (h1 : checkV n l = 0) (h2 : timeB now = true) (h3 : 1 ≤ life) (h4 : now + life ≤ 1099511627776) (h5 : (l.filter (keepB now)).length < 64) (h6 : n < 1099511627776) :
    checkV (n + 1) (l.filter (keepB now) ++ [(⟨n, now + life⟩ : No)]) = 0 ∧
    (0 ≤ thn ∧ thn ≤ now + life → useV (n + 1) (l.filter (keepB now) ++ [(⟨n, now + life⟩ : No)]) n thn = (n + 1, l.filter (keepB now), 0) ∧ (useV (n + 1) (l.filter (keepB now)) n thn).2.2 = 210) ∧
    (¬ (0 ≤ thn ∧ thn ≤ now + life) → (useV (n + 1) (l.filter (keepB now) ++ [(⟨n, now + life⟩ : No)]) n thn).2.2 ≠ 0) := by
  obtain ⟨c1, c2, c3⟩ := checkV_zero h1
  have c1' := timeB_true c1
  have h2' := timeB_true h2
  have hn1 : timeB (n + 1) = true := by simp [timeB]; omega
  have hu : timeB (now + life) = true := by simp [timeB]; omega
  have hof := okFrom_filter (keepB now) c2
  have hos : okFrom (n + 1) (-1) (l.filter (keepB now) ++ [(⟨n, now + life⟩ : No)]) = true := okFrom_snoc hu (by omega) hof
  have hck : checkV (n + 1) (l.filter (keepB now) ++ [(⟨n, now + life⟩ : No)]) = 0 := checkV_of hn1 hos (by simp; omega)
  have hno : ∀ x ∈ l.filter (keepB now), x.N ≠ n := fun x hx => by
    obtain ⟨i, hi⟩ := List.getElem?_of_mem hx
    have := (okFrom_sorted hof i x hi).2.1; omega
  have hany0 : (l.filter (keepB now)).any (hitB n thn) = false := by
    rw [List.any_eq_false]; intro y hy; simp [hitB, hno y hy]
  have hany : (l.filter (keepB now) ++ [(⟨n, now + life⟩ : No)]).any (hitB n thn) = decide (thn ≤ now + life) := by
    rw [List.any_append, hany0]; simp [hitB]
  refine ⟨hck, fun hm => ?_, fun hm => ?_⟩
  · have ht : timeB thn = true := by simp [timeB]; omega
    have hfil : (l.filter (keepB now) ++ [(⟨n, now + life⟩ : No)]).filter (fun x => !hitB n thn x) = l.filter (keepB now) := by
      rw [List.filter_append, List.filter_eq_self.2 fun y hy => by simp [hitB, hno y hy]]
      simp [hitB, hm.2]
    have hck2 : checkV (n + 1) (l.filter (keepB now)) = 0 := by
      have := checkV_filter (fun x => !hitB n thn x) hck
      rwa [hfil] at this
    refine ⟨?_, ?_⟩
    · rw [use_done hck ht (by rw [hany]; simpa using hm.2), hfil]
    · rw [use_stale hck2 ht hany0]
  · by_cases ht : timeB thn = true
    · have h7 := timeB_true ht
      rw [use_stale hck ht (by rw [hany]; simp; omega)]; simp
    · simp [useV, hck, ht]

structure TdInv (l : List No) where
  i : Nat
  le : i ≤ l.length

theorem told_ok (n : Int) (l : List No) (now life thn : Int) (ht1 : -9223372036854775808 ≤ thn) (ht2 : thn ≤ 9223372036854775807) : Meets Try.prog 6 [(true, [vI n, vD (nosD l)]), (false, [vI now]), (false, [vI life]), (false, [vI thn])] (rOne (vB true)) := by
  refine meets Try.func6 rfl rfl Try.ntmps6 Try.results6 rfl ?_
  simp -dsimp -implicitDefEqProofs only [go_sem, ↓reduceIte, reduceCtorEq, Nat.reduceLT, Nat.reduceLeDiff, Nat.reduceEqDiff, Nat.reduceAdd, Nat.reduceMul, Nat.reduceSub, Nat.reduceBEq, Int.reduceLT, Int.reduceLE, Int.reduceEq, Int.reduceBEq, Int.reduceNeg]
  refine callP live_ok ?_
  simp -dsimp -implicitDefEqProofs only [go_sem, ↓reduceIte, reduceCtorEq, Nat.reduceLT, Nat.reduceLeDiff, Nat.reduceEqDiff, Nat.reduceAdd, Nat.reduceMul, Nat.reduceSub, Nat.reduceBEq, Int.reduceLT, Int.reduceLE, Int.reduceEq, Int.reduceBEq, Int.reduceNeg]
  refine callP (few_ok n l) ?_
  simp -dsimp -implicitDefEqProofs only [go_sem, ↓reduceIte, reduceCtorEq, Nat.reduceLT, Nat.reduceLeDiff, Nat.reduceEqDiff, Nat.reduceAdd, Nat.reduceMul, Nat.reduceSub, Nat.reduceBEq, Int.reduceLT, Int.reduceLE, Int.reduceEq, Int.reduceBEq, Int.reduceNeg]
  intro hl
  rcases tell_inv (rfl : tellV n l now life = _) with ⟨e1, e2, e3⟩ | ⟨ha, h1, h2, h3, h4, h5, h6⟩
  · obtain ⟨⟨a1, a2, a3, a4⟩, ha⟩ : ∃ a, tellV n l now life = a := ⟨_, rfl⟩
    rw [ha] at e1 e2 e3
    simp only at e1 e2 e3
    subst e2; subst e3
    refine callP (ha ▸ tell_ok n l now life (by omega)) ?_
    simp -dsimp -implicitDefEqProofs only [go_sem, ↓reduceIte, reduceCtorEq, Nat.reduceLT, Nat.reduceLeDiff, Nat.reduceEqDiff, Nat.reduceAdd, Nat.reduceMul, Nat.reduceSub, Nat.reduceBEq, Int.reduceLT, Int.reduceLE, Int.reduceEq, Int.reduceBEq, Int.reduceNeg]
    exact fun h => absurd h e1
  · have hfl := filter_len (keepB now) l
    have c1 := timeB_true (checkV_zero h1).1
    have c2 := (checkV_zero h1).2.1
    have h2' := timeB_true h2
    obtain ⟨q1, q2, q3⟩ := told_law (thn := thn) h1 h2 h3 h4 h5 h6
    refine callP (ha ▸ tell_ok n l now life (by omega)) ?_
    simp -dsimp -implicitDefEqProofs only [go_sem, ↓reduceIte, reduceCtorEq, Nat.reduceLT, Nat.reduceLeDiff, Nat.reduceEqDiff, Nat.reduceAdd, Nat.reduceMul, Nat.reduceSub, Nat.reduceBEq, Int.reduceLT, Int.reduceLE, Int.reduceEq, Int.reduceBEq, Int.reduceNeg]
    refine vfor sitOk (ι := TdInv l) (fun v => ⟨115, [(4, aP 0 0), (9, aP 120 0), (10, aI n), (12, aI v.i), (1, aI now), (2, aI life), (3, aI thn), (8, aB false)],
      [(0, some (.var [cI n, cD (nosD l)] true)), (120, some (.var [cI (n + 1), .own 80] true)), (80, some (.row 2 41 ((l.filter (keepB now) ++ [(⟨n, now + life⟩ : No)]).map No.cells) true))], 176⟩) (fun v => l.length - v.i) ⟨0, by omega⟩ ?_ ?_
    · simp -dsimp -implicitDefEqProofs only [go_sem, ↓reduceIte, reduceCtorEq, Nat.reduceLT, Nat.reduceLeDiff, Nat.reduceEqDiff, Nat.reduceAdd, Nat.reduceMul, Nat.reduceSub, Nat.reduceBEq, Int.reduceLT, Int.reduceLE, Int.reduceEq, Int.reduceBEq, Int.reduceNeg]
    intro ⟨i, hi⟩
    have hwl : IntKind.i64.wrap (now + life) = now + life := by rw [wrap64] <;> omega
    have hwn : IntKind.i64.wrap (n + 1) = n + 1 := by rw [wrap64] <;> omega
    simp -dsimp -implicitDefEqProofs only [go_sem, ↓reduceIte, reduceCtorEq, Nat.reduceLT, Nat.reduceLeDiff, Nat.reduceEqDiff, Nat.reduceAdd, Nat.reduceMul, Nat.reduceSub, Nat.reduceBEq, Int.reduceLT, Int.reduceLE, Int.reduceEq, Int.reduceBEq, Int.reduceNeg]
    refine ⟨fun hlt => ⟨by omega, by omega, fun x hx => ⟨fun c => ?_, fun c => ?_⟩⟩, fun hge => ?_⟩
    · have := (okFrom_sorted c2 i x hx).2.1; omega
    · refine again ⟨i + 1, by omega⟩ (by simp; omega) ?_
      simp -dsimp -implicitDefEqProofs only [wrapS (show i < l.length by omega) (show l.length ≤ 4611686018427387904 by omega), go_sem, ↓reduceIte, reduceCtorEq, Nat.reduceLT, Nat.reduceLeDiff, Nat.reduceEqDiff, Nat.reduceAdd, Nat.reduceMul, Nat.reduceSub, Nat.reduceBEq, Int.reduceLT, Int.reduceLE, Int.reduceEq, Int.reduceBEq, Int.reduceNeg]
    · by_cases hm : 0 ≤ thn ∧ thn ≤ now + life
      · obtain ⟨q4, q5⟩ := q2 hm
        obtain ⟨⟨b1, b2, b3⟩, hb⟩ : ∃ b, useV (n + 1) (l.filter (keepB now)) n thn = b := ⟨_, rfl⟩
        rw [hb] at q5
        simp only at q5
        subst q5
        refine callP (q4 ▸ use_ok (n + 1) _ n thn (by simp; omega) (by omega) (by omega)) ?_
        simp -dsimp -implicitDefEqProofs only [hwl, hm.1, hm.2, go_sem, ↓reduceIte, reduceCtorEq, Nat.reduceLT, Nat.reduceLeDiff, Nat.reduceEqDiff, Nat.reduceAdd, Nat.reduceMul, Nat.reduceSub, Nat.reduceBEq, Int.reduceLT, Int.reduceLE, Int.reduceEq, Int.reduceBEq, Int.reduceNeg]
        refine callP (hb ▸ use_ok (n + 1) _ n thn (by omega) (by omega) (by omega)) ?_
        simp -dsimp -implicitDefEqProofs only [hwl, hwn, hm.1, hm.2, go_sem, ↓reduceIte, reduceCtorEq, Nat.reduceLT, Nat.reduceLeDiff, Nat.reduceEqDiff, Nat.reduceAdd, Nat.reduceMul, Nat.reduceSub, Nat.reduceBEq, Int.reduceLT, Int.reduceLE, Int.reduceEq, Int.reduceBEq, Int.reduceNeg]
        refine callP (q1 ▸ check_ok (n + 1) _ (by simp; omega)) ?_
        simp -dsimp -implicitDefEqProofs only [hwl, hwn, hm.1, hm.2, go_sem, ↓reduceIte, reduceCtorEq, Nat.reduceLT, Nat.reduceLeDiff, Nat.reduceEqDiff, Nat.reduceAdd, Nat.reduceMul, Nat.reduceSub, Nat.reduceBEq, Int.reduceLT, Int.reduceLE, Int.reduceEq, Int.reduceBEq, Int.reduceNeg]
        refine callP (trim_ok n l now (by omega)) ?_
        simp -dsimp -implicitDefEqProofs only [go_sem, ↓reduceIte, reduceCtorEq, Nat.reduceLT, Nat.reduceLeDiff, Nat.reduceEqDiff, Nat.reduceAdd, Nat.reduceMul, Nat.reduceSub, Nat.reduceBEq, Int.reduceLT, Int.reduceLE, Int.reduceEq, Int.reduceBEq, Int.reduceNeg]
        refine callP (back_ok n _) ?_
        simp -dsimp -implicitDefEqProofs only [hwn, go_sem, ↓reduceIte, reduceCtorEq, Nat.reduceLT, Nat.reduceLeDiff, Nat.reduceEqDiff, Nat.reduceAdd, Nat.reduceMul, Nat.reduceSub, Nat.reduceBEq, Int.reduceLT, Int.reduceLE, Int.reduceEq, Int.reduceBEq, Int.reduceNeg]
        refine callP (same_ok (n + 1) (l.filter (keepB now)) (n + 1) (l.filter (keepB now)) (by omega)) ?_
        simp -dsimp -implicitDefEqProofs only [go_sem, ↓reduceIte, reduceCtorEq, Nat.reduceLT, Nat.reduceLeDiff, Nat.reduceEqDiff, Nat.reduceAdd, Nat.reduceMul, Nat.reduceSub, Nat.reduceBEq, Int.reduceLT, Int.reduceLE, Int.reduceEq, Int.reduceBEq, Int.reduceNeg]
        exact drawn (by kernel_rfl)
      · have q4 := q3 hm
        obtain ⟨⟨b1, b2, b3⟩, hb⟩ : ∃ b, useV (n + 1) (l.filter (keepB now) ++ [(⟨n, now + life⟩ : No)]) n thn = b := ⟨_, rfl⟩
        rw [hb] at q4
        simp only at q4
        have hbl := use_len (n + 1) (l.filter (keepB now) ++ [(⟨n, now + life⟩ : No)]) n thn
        rw [hb] at hbl
        refine callP (hb ▸ use_ok (n + 1) _ n thn (by simp; omega) (by omega) (by omega)) ?_
        have q5 : (b3 == 0) = false := by simpa using q4
        obtain ⟨⟨d1, d2, d3⟩, hd⟩ : ∃ d, useV b1 b2 n thn = d := ⟨_, rfl⟩
        have hbl2 : b2.length ≤ 1000000 := by simp at hbl; omega
        by_cases h7 : 0 ≤ thn
        · have h8 : ¬ thn ≤ now + life := fun h => hm ⟨h7, h⟩
          simp -dsimp -implicitDefEqProofs only [hwl, h7, h8, q4, q5, go_sem, ↓reduceIte, reduceCtorEq, Nat.reduceLT, Nat.reduceLeDiff, Nat.reduceEqDiff, Nat.reduceAdd, Nat.reduceMul, Nat.reduceSub, Nat.reduceBEq, Int.reduceLT, Int.reduceLE, Int.reduceEq, Int.reduceBEq, Int.reduceNeg]
          refine callP (hd ▸ use_ok b1 b2 n thn hbl2 (by omega) (by omega)) ?_
          simp -dsimp -implicitDefEqProofs only [hwl, hwn, h7, h8, go_sem, ↓reduceIte, reduceCtorEq, Nat.reduceLT, Nat.reduceLeDiff, Nat.reduceEqDiff, Nat.reduceAdd, Nat.reduceMul, Nat.reduceSub, Nat.reduceBEq, Int.reduceLT, Int.reduceLE, Int.reduceEq, Int.reduceBEq, Int.reduceNeg]
          refine callP (q1 ▸ check_ok (n + 1) _ (by simp; omega)) ?_
          simp -dsimp -implicitDefEqProofs only [hwl, hwn, h7, h8, go_sem, ↓reduceIte, reduceCtorEq, Nat.reduceLT, Nat.reduceLeDiff, Nat.reduceEqDiff, Nat.reduceAdd, Nat.reduceMul, Nat.reduceSub, Nat.reduceBEq, Int.reduceLT, Int.reduceLE, Int.reduceEq, Int.reduceBEq, Int.reduceNeg]
          exact drawn (by kernel_rfl)
        · simp -dsimp -implicitDefEqProofs only [hwl, h7, q4, q5, go_sem, ↓reduceIte, reduceCtorEq, Nat.reduceLT, Nat.reduceLeDiff, Nat.reduceEqDiff, Nat.reduceAdd, Nat.reduceMul, Nat.reduceSub, Nat.reduceBEq, Int.reduceLT, Int.reduceLE, Int.reduceEq, Int.reduceBEq, Int.reduceNeg]
          refine callP (hd ▸ use_ok b1 b2 n thn hbl2 (by omega) (by omega)) ?_
          simp -dsimp -implicitDefEqProofs only [hwl, hwn, h7, go_sem, ↓reduceIte, reduceCtorEq, Nat.reduceLT, Nat.reduceLeDiff, Nat.reduceEqDiff, Nat.reduceAdd, Nat.reduceMul, Nat.reduceSub, Nat.reduceBEq, Int.reduceLT, Int.reduceLE, Int.reduceEq, Int.reduceBEq, Int.reduceNeg]
          refine callP (q1 ▸ check_ok (n + 1) _ (by simp; omega)) ?_
          simp -dsimp -implicitDefEqProofs only [hwl, hwn, h7, go_sem, ↓reduceIte, reduceCtorEq, Nat.reduceLT, Nat.reduceLeDiff, Nat.reduceEqDiff, Nat.reduceAdd, Nat.reduceMul, Nat.reduceSub, Nat.reduceBEq, Int.reduceLT, Int.reduceLE, Int.reduceEq, Int.reduceBEq, Int.reduceNeg]
          exact drawn (by kernel_rfl)

theorem nonceTold_read (x0 x1 x2 x3 : List D) (h0 : shpG tys 6 24 x0) (h1 : shpG tys 6 3 x1) (h2 : shpG tys 6 3 x2) (h3 : shpG tys 6 3 x3) : Meets Try.prog 6 [argC Try.prog 24 x0, argC Try.prog 3 x1, argC Try.prog 3 x2, argC Try.prog 3 x3] (rOne (vB true)) := by
  obtain ⟨n, l, rfl⟩ := read_fence h0
  obtain ⟨now, rfl, _⟩ := read_int h1
  obtain ⟨life, rfl, _⟩ := read_int h2
  obtain ⟨thn, rfl, ht1, ht2⟩ := read_int h3
  rw [arg_fence, arg_int, arg_int, arg_int]
  exact told_ok n l now life thn ht1 ht2
section
open Go.ChangeShapes Go.WideShapes Go.ChangeAt Go.RowKit
set_option maxRecDepth 100000 in
theorem nonceTold_lifted (os : Os) (started : os.Started) (H : Type) (enc : TypeId × Value → H) :
    ReturnsInHanded {} Try.checked os 6 .any (Rows.nonceToldSpec.pre6 enc Try.prog Try.f6 Rows.nonceToldRow.domain false) (Rows.nonceToldSpec.post enc Try.prog Try.f6 false true false false) := by
  refine returnsInHanded_of_change (C := Try.checked) own started (by kernel_rfl) Try.func6
    (ChangeSpec.witness6 (enc := enc) (C := Try.checked) false ⟨#[], #[.agg #[.int .i64 0, .slice none 0 0], .int .i64 0, .int .i64 0, .int .i64 0], []⟩ 8 (by kernel_rfl) (by kernel_rfl) (by kernel_rfl) (by kernel_rfl)) ?_
  exact row_ok (C := Try.checked) 6 4 laidOut (by kernel_rfl) rfl (by kernel_rfl) rfl (fun ds h => match ds, h with | [_, _, _, _], _ => rfl) fun dss h => match dss, h with
    | [x0, x1, x2, x3], .cons h0 (.cons h1 (.cons h2 (.cons h3 .nil))) => nonceTold_read x0 x1 x2 x3 (shp_table tysOk _ _ _ h0) (shp_table tysOk _ _ _ h1) (shp_table tysOk _ _ _ h2) (shp_table tysOk _ _ _ h3)
theorem nonceTold_holds : Rows.NonceToldSaid :=
  OpenClaim.holds_of_wide 6 Try.f6 rfl rfl rfl rfl rfl rfl rfl ⟨rfl, rfl, rfl, rfl, rfl⟩ rfl rfl rfl rfl rfl (by kernel_rfl) Try.func6 (by kernel_rfl)
    (of_decide_eq_true (by kernel_rfl)) (by unfold Func.isWrapper; rw [if_neg (of_decide_eq_false (by kernel_rfl))]; exact ⟨rfl, rfl⟩)
    (fun os started H enc _ => nonceTold_lifted os started H enc)
end
end Go.Proofs.Ytmkolmgpcmceaaa
