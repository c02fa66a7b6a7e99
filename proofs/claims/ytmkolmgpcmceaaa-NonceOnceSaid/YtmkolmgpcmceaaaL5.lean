/- One is taken, the others stay as they were, in their order, and may be used as they might: the row 'NonceApartSaid', for every input. -/
import Derived.Test.YtmkolmgpcmceaaaN7
namespace Go.Proofs.Ytmkolmgpcmceaaa
open Go.Eng
set_option linter.unusedSimpArgs false
set_option maxRecDepth 10000

theorem hit_is {n k now : Int} {l : List No} (ho : okFrom n (-1) l = true) (h : l.any (hitB k now) = true) : l.filter (fun x => !hitB k now x) = l.filter (fun x => !(x.N == k)) := by
  obtain ⟨x, hx, hh⟩ := List.any_eq_true.1 h
  obtain ⟨i, hi⟩ := List.getElem?_of_mem hx
  simp only [hitB, Bool.and_eq_true, beq_iff_eq, decide_eq_true_eq] at hh
  refine List.filter_congr fun y hy => ?_
  obtain ⟨j, hj⟩ := List.getElem?_of_mem hy
  have hs := okFrom_sorted ho
  by_cases hji : j = i
  · subst hji
    rw [hi] at hj; cases hj
    simp [hitB, hh]
  · have : y.N ≠ k := by
      by_cases hlt : j < i
      · have := (hs j y hj).2.2 i x hlt hi; omega
      · have := (hs i x hi).2.2 j y (by omega) hj; omega
    simp [hitB, this]

theorem filter_at {p : No → Bool} {l : List No} {i : Nat} {x : No} (hx : l[i]? = some x) (hp : p x = true) : (l.filter p)[((l.take i).filter p).length]? = some x := by
  have e : l.filter p = (l.take i).filter p ++ x :: (l.drop (i + 1)).filter p := by
    conv => lhs; rw [← List.take_append_drop i l, drop_at hx, List.filter_append, List.filter_cons, if_pos hp]
  rw [e, List.getElem?_append_right (Nat.le_refl _)]
  simp

theorem same_use {n k m now thn : Int} {l : List No} (h1 : checkV n l = 0) (h : m ≠ k) : (useV n l m thn).2.2 = (useV n (l.filter fun x => !hitB k now x) m thn).2.2 := by
  have h2 := checkV_filter (fun x => !hitB k now x) h1
  by_cases ht : timeB thn = true
  · have e := any_other (k := k) (m := m) (now := now) (now' := thn) l (Ne.symm h)
    cases ha : l.any (hitB m thn) with
    | true => rw [use_done h1 ht ha, use_done h2 ht (by rw [e]; exact ha)]
    | false => rw [use_stale h1 ht ha, use_stale h2 ht (by rw [e]; exact ha)]
  · simp [useV, h1, h2, ht]

structure ApInv (l : List No) where
  i : Nat
  le : i ≤ l.length

theorem apart_ok (n : Int) (l : List No) (k now m thn : Int) (hk1 : -9223372036854775808 ≤ k) (hk2 : k ≤ 9223372036854775807) (hm1 : -9223372036854775808 ≤ m) (hm2 : m ≤ 9223372036854775807) : Meets Try.prog 7 [(true, [vI n, vD (nosD l)]), (false, [vI k]), (false, [vI now]), (false, [vI m]), (false, [vI thn])] (rOne (vB true)) := by
  refine meets Try.func7 rfl rfl Try.ntmps7 Try.results7 rfl ?_
  simp -dsimp -implicitDefEqProofs only [go_sem, ↓reduceIte, reduceCtorEq, Nat.reduceLT, Nat.reduceLeDiff, Nat.reduceEqDiff, Nat.reduceAdd, Nat.reduceMul, Nat.reduceSub, Nat.reduceBEq, Int.reduceLT, Int.reduceLE, Int.reduceEq, Int.reduceBEq, Int.reduceNeg]
  refine callP live_ok ?_
  simp -dsimp -implicitDefEqProofs only [go_sem, ↓reduceIte, reduceCtorEq, Nat.reduceLT, Nat.reduceLeDiff, Nat.reduceEqDiff, Nat.reduceAdd, Nat.reduceMul, Nat.reduceSub, Nat.reduceBEq, Int.reduceLT, Int.reduceLE, Int.reduceEq, Int.reduceBEq, Int.reduceNeg]
  refine callP (few_ok n l) ?_
  simp -dsimp -implicitDefEqProofs only [go_sem, ↓reduceIte, reduceCtorEq, Nat.reduceLT, Nat.reduceLeDiff, Nat.reduceEqDiff, Nat.reduceAdd, Nat.reduceMul, Nat.reduceSub, Nat.reduceBEq, Int.reduceLT, Int.reduceLE, Int.reduceEq, Int.reduceBEq, Int.reduceNeg]
  intro hl
  obtain ⟨⟨a1, a2, a3⟩, ha⟩ : ∃ a, useV n l k now = a := ⟨_, rfl⟩
  refine callP (ha ▸ use_ok n l k now (by omega) hk1 hk2) ?_
  simp -dsimp -implicitDefEqProofs only [go_sem, ↓reduceIte, reduceCtorEq, Nat.reduceLT, Nat.reduceLeDiff, Nat.reduceEqDiff, Nat.reduceAdd, Nat.reduceMul, Nat.reduceSub, Nat.reduceBEq, Int.reduceLT, Int.reduceLE, Int.reduceEq, Int.reduceBEq, Int.reduceNeg]
  rcases use_inv ha with ⟨e1, e2, e3⟩ | ⟨e1, e2, e3, h1, h2, h3⟩
  · simp only at e1 e2 e3
    subst e3
    exact ⟨fun _ => rfl, fun h => absurd h e1⟩
  simp only at e1 e2 e3
  have ho := (checkV_zero h1).2.1
  refine ⟨fun h => absurd e1 h, fun _ => ?_⟩
  have hlen := len_gone ho h3
  have hsm := same_use (k := k) (now := now) (m := m) (thn := thn) h1
  rw [← e3] at hlen hsm
  rw [hit_is ho h3] at e3
  obtain ⟨⟨b1, b2, b3⟩, hb⟩ : ∃ b, useV n l m thn = b := ⟨_, rfl⟩
  obtain ⟨⟨c1, c2, c3⟩, hc⟩ : ∃ c, useV n a2 m thn = c := ⟨_, rfl⟩
  rw [hb, hc] at hsm
  subst e2
  refine callP (hb ▸ use_ok a1 l m thn (by omega) hm1 hm2) ?_
  simp -dsimp -implicitDefEqProofs only [go_sem, ↓reduceIte, reduceCtorEq, Nat.reduceLT, Nat.reduceLeDiff, Nat.reduceEqDiff, Nat.reduceAdd, Nat.reduceMul, Nat.reduceSub, Nat.reduceBEq, Int.reduceLT, Int.reduceLE, Int.reduceEq, Int.reduceBEq, Int.reduceNeg]
  refine callP (hc ▸ use_ok a1 a2 m thn (by omega) hm1 hm2) ?_
  simp -dsimp -implicitDefEqProofs only [go_sem, ↓reduceIte, reduceCtorEq, Nat.reduceLT, Nat.reduceLeDiff, Nat.reduceEqDiff, Nat.reduceAdd, Nat.reduceMul, Nat.reduceSub, Nat.reduceBEq, Int.reduceLT, Int.reduceLE, Int.reduceEq, Int.reduceBEq, Int.reduceNeg]
  refine vfor sitOk (ι := ApInv l) (fun v => ⟨116, [(5, aP 0 0), (11, aP 112 0), (14, aI b3), (16, aI c3), (17, aI ((l.take v.i).filter fun x => !(x.N == k)).length), (18, aI v.i), (1, aI k), (3, aI m), (10, aB false)],
    [(0, some (.var [cI a1, cD (nosD l)] true)), (112, some (.var [cI a1, .own 80] true)), (80, some (.row 2 41 (a2.map No.cells) false))], 328⟩) (fun v => l.length - v.i) ⟨0, by omega⟩ ?_ ?_
  · simp -dsimp -implicitDefEqProofs only [go_sem, ↓reduceIte, reduceCtorEq, Nat.reduceLT, Nat.reduceLeDiff, Nat.reduceEqDiff, Nat.reduceAdd, Nat.reduceMul, Nat.reduceSub, Nat.reduceBEq, Int.reduceLT, Int.reduceLE, Int.reduceEq, Int.reduceBEq, Int.reduceNeg]
    rfl
  intro ⟨i, hi⟩
  have hfl : ((l.take i).filter fun x => !(x.N == k)).length ≤ i := Nat.le_trans (List.length_filter_le ..) (by simp; omega)
  simp -dsimp -implicitDefEqProofs only [go_sem, ↓reduceIte, reduceCtorEq, Nat.reduceLT, Nat.reduceLeDiff, Nat.reduceEqDiff, Nat.reduceAdd, Nat.reduceMul, Nat.reduceSub, Nat.reduceBEq, Int.reduceLT, Int.reduceLE, Int.reduceEq, Int.reduceBEq, Int.reduceNeg]
  refine ⟨fun hlt => ⟨by omega, by omega, fun x hx => ⟨fun c1 => ?_, fun c1 => ?_⟩⟩, fun hge => ?_⟩
  · have e : (l.take (i + 1)).filter (fun x => !(x.N == k)) = (l.take i).filter fun x => !(x.N == k) := by
      rw [take_succ_filter hx]; simp [c1]
    refine again ⟨i + 1, by omega⟩ (by simp; omega) ?_
    simp -dsimp -implicitDefEqProofs only [e, wrapS (show i < l.length by omega) (show l.length ≤ 4611686018427387904 by omega), go_sem, ↓reduceIte, reduceCtorEq, Nat.reduceLT, Nat.reduceLeDiff, Nat.reduceEqDiff, Nat.reduceAdd, Nat.reduceMul, Nat.reduceSub, Nat.reduceBEq, Int.reduceLT, Int.reduceLE, Int.reduceEq, Int.reduceBEq, Int.reduceNeg]
  · have hg := filter_at (p := fun x => !(x.N == k)) hx (by simp [c1])
    rw [← e3] at hg
    have hgl := (List.getElem?_eq_some_iff.1 hg).1
    refine ⟨fun _ => ⟨⟨by omega, by omega⟩, hgl, fun y hy => ⟨by omega, by omega, fun z hz => ⟨drawn (by kernel_rfl), ?_, ?_⟩⟩⟩, fun h => by omega⟩
    · have h1 := hg.symm.trans hy
      cases h1
      have h1 := hx.symm.trans hz
      cases h1
      exact fun h => h rfl rfl
    · intro _
      have e : ((l.take (i + 1)).filter fun x => !(x.N == k)).length = ((l.take i).filter fun x => !(x.N == k)).length + 1 := by
        rw [take_succ_filter hx]; simp [c1]
      refine again ⟨i + 1, by omega⟩ (by simp; omega) ?_
      simp -dsimp -implicitDefEqProofs only [e, wrapS hgl (show a2.length ≤ 4611686018427387904 by omega), wrapS (show i < l.length by omega) (show l.length ≤ 4611686018427387904 by omega), go_sem, ↓reduceIte, reduceCtorEq, Nat.reduceLT, Nat.reduceLeDiff, Nat.reduceEqDiff, Nat.reduceAdd, Nat.reduceMul, Nat.reduceSub, Nat.reduceBEq, Int.reduceLT, Int.reduceLE, Int.reduceEq, Int.reduceBEq, Int.reduceNeg]
  · rw [List.take_of_length_le (by omega), ← e3]
    have hw : IntKind.i64.wrap ((l.length : Int) - 1) = (a2.length : Int) := by rw [wrap64] <;> omega
    rw [hw]
    exact ⟨fun _ => ⟨fun _ h => hsm h, fun h => h rfl⟩, fun h => h rfl⟩

theorem nonceApart_read (x0 x1 x2 x3 x4 : List D) (h0 : shpG tys 6 24 x0) (h1 : shpG tys 6 3 x1) (h2 : shpG tys 6 3 x2) (h3 : shpG tys 6 3 x3) (h4 : shpG tys 6 3 x4) : Meets Try.prog 7 [argC Try.prog 24 x0, argC Try.prog 3 x1, argC Try.prog 3 x2, argC Try.prog 3 x3, argC Try.prog 3 x4] (rOne (vB true)) := by
  obtain ⟨n, l, rfl⟩ := read_fence h0
  obtain ⟨k, rfl, hk1, hk2⟩ := read_int h1
  obtain ⟨now, rfl, _⟩ := read_int h2
  obtain ⟨m, rfl, hm1, hm2⟩ := read_int h3
  obtain ⟨thn, rfl, _⟩ := read_int h4
  rw [arg_fence, arg_int, arg_int, arg_int, arg_int]
  exact apart_ok n l k now m thn hk1 hk2 hm1 hm2
section
open Go.ChangeShapes Go.WideShapes Go.ChangeAt Go.RowKit
set_option maxRecDepth 100000 in
theorem nonceApart_lifted (os : Os) (started : os.Started) (H : Type) (enc : TypeId × Value → H) :
    ReturnsInHanded {} Try.checked os 7 .any (Rows.nonceApartSpec.pre6 enc Try.prog Try.f7 Rows.nonceApartRow.domain false) (Rows.nonceApartSpec.post enc Try.prog Try.f7 false true false false) := by
  refine returnsInHanded_of_change (C := Try.checked) own started (by kernel_rfl) Try.func7
    (ChangeSpec.witness6 (enc := enc) (C := Try.checked) false ⟨#[], #[.agg #[.int .i64 0, .slice none 0 0], .int .i64 0, .int .i64 0, .int .i64 0, .int .i64 0], []⟩ 8 (by kernel_rfl) (by kernel_rfl) (by kernel_rfl) (by kernel_rfl)) ?_
  exact row_ok (C := Try.checked) 6 4 laidOut (by kernel_rfl) rfl (by kernel_rfl) rfl (fun ds h => match ds, h with | [_, _, _, _, _], _ => rfl) fun dss h => match dss, h with
    | [x0, x1, x2, x3, x4], .cons h0 (.cons h1 (.cons h2 (.cons h3 (.cons h4 .nil)))) => nonceApart_read x0 x1 x2 x3 x4 (shp_table tysOk _ _ _ h0) (shp_table tysOk _ _ _ h1) (shp_table tysOk _ _ _ h2) (shp_table tysOk _ _ _ h3) (shp_table tysOk _ _ _ h4)
theorem nonceApart_holds : Rows.NonceApartSaid :=
  OpenClaim.holds_of_wide 7 Try.f7 rfl rfl rfl rfl rfl rfl rfl ⟨rfl, rfl, rfl, rfl, rfl⟩ rfl rfl rfl rfl rfl (by kernel_rfl) Try.func7 (by kernel_rfl)
    (of_decide_eq_true (by kernel_rfl)) (by unfold Func.isWrapper; rw [if_neg (of_decide_eq_false (by kernel_rfl))]; exact ⟨rfl, rfl⟩)
    (fun os started H enc _ => nonceApart_lifted os started H enc)
end
end Go.Proofs.Ytmkolmgpcmceaaa
