/- Of any fence, and two numbers that are used at one time: both may be, one behind the other, just if each may, and they are not the same one; either way round the same is left: the row 'NonceBothSaid', for every input. -/
import Derived.Test.YtmkolmgpcmceaaaN7
namespace Go.Proofs.Ytmkolmgpcmceaaa
open Go.Eng
set_option linter.unusedSimpArgs false
set_option maxRecDepth 10000

theorem both_law {n : Int} {l : List No} {k m now : Int} {a b c d : Int × List No × Int} (ha : useV n l k now = a) (hb : useV n l m now = b) (hc : useV a.1 a.2.1 m now = c) (hd : useV b.1 b.2.1 k now = d) :
    (a.2.2 ≠ 0 → b.2.2 ≠ 0 → a.2.1 = [] ∧ b.2.1 = []) ∧ (a.2.2 = 0 → b.2.2 = 0 → (k = m → c.2.2 = 210 ∧ d.2.2 = 210) ∧ (k ≠ m → c.2.2 = 0 ∧ d.2.2 = 0 ∧ c.1 = d.1 ∧ c.2.1 = d.2.1 ∧ c.2.1.length + 2 = l.length)) := by
  rcases use_inv ha with ⟨a1, a2, a3⟩ | ⟨a1, a2, a3, h1, h2, h3⟩ <;> rcases use_inv hb with ⟨b1, b2, b3⟩ | ⟨b1, b2, b3, _, _, h4⟩
  · exact ⟨fun _ _ => ⟨a3, b3⟩, fun h => absurd h a1⟩
  · exact ⟨fun _ h => absurd b1 h, fun h => absurd h a1⟩
  · exact ⟨fun h => absurd a1 h, fun _ h => absurd h b1⟩
  · refine ⟨fun h => absurd a1 h, fun _ _ => ⟨fun hkm => ?_, fun hkm => ?_⟩⟩
    · subst hkm
      have ho := (checkV_zero h1).2.1
      rw [a2, a3] at hc
      rw [b2, b3] at hd
      rw [use_stale (checkV_filter _ h1) h2 (any_gone ho h3)] at hc hd
      rw [← hc, ← hd]
      exact ⟨rfl, rfl⟩
    · have ho := (checkV_zero h1).2.1
      rw [a2, a3, use_done (checkV_filter _ h1) h2 (by rw [any_other l hkm]; exact h4)] at hc
      rw [b2, b3, use_done (checkV_filter _ h1) h2 (by rw [any_other l (Ne.symm hkm)]; exact h3)] at hd
      rw [← hc, ← hd]
      refine ⟨rfl, rfl, rfl, ?_, ?_⟩
      · simp only [List.filter_filter]
        congr 1; funext x; exact Bool.and_comm _ _
      · have e1 := len_gone ho h3
        have e2 := len_gone (okFrom_filter (fun x => !hitB k now x) ho) (k := m) (now := now) (by rw [any_other l hkm]; exact h4)
        simp only; omega

theorem both_ok (n : Int) (l : List No) (k m now : Int) (hk1 : -9223372036854775808 ≤ k) (hk2 : k ≤ 9223372036854775807) (hm1 : -9223372036854775808 ≤ m) (hm2 : m ≤ 9223372036854775807) : Meets Try.prog 10 [(true, [vI n, vD (nosD l)]), (false, [vI k]), (false, [vI m]), (false, [vI now])] (rOne (vB true)) := by
  refine meets Try.func10 rfl rfl Try.ntmps10 Try.results10 rfl ?_
  simp -dsimp -implicitDefEqProofs only [go_sem, ↓reduceIte, reduceCtorEq, Nat.reduceLT, Nat.reduceLeDiff, Nat.reduceEqDiff, Nat.reduceAdd, Nat.reduceMul, Nat.reduceSub, Nat.reduceBEq, Int.reduceLT, Int.reduceLE, Int.reduceEq, Int.reduceBEq, Int.reduceNeg]
  refine callP live_ok ?_
  simp -dsimp -implicitDefEqProofs only [go_sem, ↓reduceIte, reduceCtorEq, Nat.reduceLT, Nat.reduceLeDiff, Nat.reduceEqDiff, Nat.reduceAdd, Nat.reduceMul, Nat.reduceSub, Nat.reduceBEq, Int.reduceLT, Int.reduceLE, Int.reduceEq, Int.reduceBEq, Int.reduceNeg]
  refine callP (few_ok n l) ?_
  simp -dsimp -implicitDefEqProofs only [go_sem, ↓reduceIte, reduceCtorEq, Nat.reduceLT, Nat.reduceLeDiff, Nat.reduceEqDiff, Nat.reduceAdd, Nat.reduceMul, Nat.reduceSub, Nat.reduceBEq, Int.reduceLT, Int.reduceLE, Int.reduceEq, Int.reduceBEq, Int.reduceNeg]
  intro hl
  obtain ⟨⟨a1, a2, a3⟩, ha⟩ : ∃ a, useV n l k now = a := ⟨_, rfl⟩
  obtain ⟨⟨b1, b2, b3⟩, hb⟩ : ∃ b, useV n l m now = b := ⟨_, rfl⟩
  obtain ⟨⟨c1, c2, c3⟩, hc⟩ : ∃ c, useV a1 a2 m now = c := ⟨_, rfl⟩
  obtain ⟨⟨d1, d2, d3⟩, hd⟩ : ∃ d, useV b1 b2 k now = d := ⟨_, rfl⟩
  have law := both_law ha hb hc hd
  simp only at law
  have u1 := use_len n l k now
  have u2 := use_len n l m now
  have u3 := use_len a1 a2 m now
  have u4 := use_len b1 b2 k now
  rw [ha] at u1; rw [hb] at u2; rw [hc] at u3; rw [hd] at u4
  simp only at u1 u2 u3 u4
  refine callP (ha ▸ use_ok n l k now (by omega) hk1 hk2) ?_
  simp -dsimp -implicitDefEqProofs only [go_sem, ↓reduceIte, reduceCtorEq, Nat.reduceLT, Nat.reduceLeDiff, Nat.reduceEqDiff, Nat.reduceAdd, Nat.reduceMul, Nat.reduceSub, Nat.reduceBEq, Int.reduceLT, Int.reduceLE, Int.reduceEq, Int.reduceBEq, Int.reduceNeg]
  refine callP (hb ▸ use_ok n l m now (by omega) hm1 hm2) ?_
  simp -dsimp -implicitDefEqProofs only [go_sem, ↓reduceIte, reduceCtorEq, Nat.reduceLT, Nat.reduceLeDiff, Nat.reduceEqDiff, Nat.reduceAdd, Nat.reduceMul, Nat.reduceSub, Nat.reduceBEq, Int.reduceLT, Int.reduceLE, Int.reduceEq, Int.reduceBEq, Int.reduceNeg]
  refine callP (hc ▸ use_ok a1 a2 m now (by omega) hm1 hm2) ?_
  simp -dsimp -implicitDefEqProofs only [go_sem, ↓reduceIte, reduceCtorEq, Nat.reduceLT, Nat.reduceLeDiff, Nat.reduceEqDiff, Nat.reduceAdd, Nat.reduceMul, Nat.reduceSub, Nat.reduceBEq, Int.reduceLT, Int.reduceLE, Int.reduceEq, Int.reduceBEq, Int.reduceNeg]
  refine callP (hd ▸ use_ok b1 b2 k now (by omega) hk1 hk2) ?_
  simp -dsimp -implicitDefEqProofs only [go_sem, ↓reduceIte, reduceCtorEq, Nat.reduceLT, Nat.reduceLeDiff, Nat.reduceEqDiff, Nat.reduceAdd, Nat.reduceMul, Nat.reduceSub, Nat.reduceBEq, Int.reduceLT, Int.reduceLE, Int.reduceEq, Int.reduceBEq, Int.reduceNeg]
  obtain ⟨law1, law2⟩ := law
  refine ⟨fun e1 => ⟨fun _ e3 => absurd e1 e3, fun e2 => ⟨fun e3 => ⟨fun _ => ((law2 e1 e2).1 e3).2, fun h => h ((law2 e1 e2).1 e3).1⟩, fun e3 => ⟨fun _ => ⟨fun _ => ?_, fun h => h ((law2 e1 e2).2 e3).2.1⟩, fun h => h ((law2 e1 e2).2 e3).1⟩⟩⟩, fun _ e1 e2 => by obtain ⟨rfl, rfl⟩ := law1 e1 e2; rfl⟩
  obtain ⟨_, _, rfl, rfl, hlen⟩ := (law2 e1 e2).2 e3
  refine callP (same_ok c1 c2 c1 c2 (by omega)) ?_
  have hw : IntKind.i64.wrap ((l.length : Int) - 2) = (c2.length : Int) := by rw [wrap64] <;> omega
  simp -dsimp -implicitDefEqProofs only [hw, go_sem, ↓reduceIte, reduceCtorEq, Nat.reduceLT, Nat.reduceLeDiff, Nat.reduceEqDiff, Nat.reduceAdd, Nat.reduceMul, Nat.reduceSub, Nat.reduceBEq, Int.reduceLT, Int.reduceLE, Int.reduceEq, Int.reduceBEq, Int.reduceNeg]


theorem nonceBoth_read (x0 x1 x2 x3 : List D) (h0 : shpG tys 6 24 x0) (h1 : shpG tys 6 3 x1) (h2 : shpG tys 6 3 x2) (h3 : shpG tys 6 3 x3) : Meets Try.prog 10 [argC Try.prog 24 x0, argC Try.prog 3 x1, argC Try.prog 3 x2, argC Try.prog 3 x3] (rOne (vB true)) := by
  obtain ⟨n, l, rfl⟩ := read_fence h0
  obtain ⟨k, rfl, hk1, hk2⟩ := read_int h1
  obtain ⟨m, rfl, hm1, hm2⟩ := read_int h2
  obtain ⟨now, rfl, _⟩ := read_int h3
  rw [arg_fence, arg_int, arg_int, arg_int]
  exact both_ok n l k m now hk1 hk2 hm1 hm2
section
open Go.ChangeShapes Go.WideShapes Go.ChangeAt Go.RowKit
set_option maxRecDepth 100000 in
theorem nonceBoth_lifted (os : Os) (started : os.Started) (H : Type) (enc : TypeId × Value → H) :
    ReturnsInHanded {} Try.checked os 10 .any (Rows.nonceBothSpec.pre6 enc Try.prog Try.f10 Rows.nonceBothRow.domain false) (Rows.nonceBothSpec.post enc Try.prog Try.f10 false true false false) := by
  refine returnsInHanded_of_change (C := Try.checked) own started (by kernel_rfl) Try.func10
    (ChangeSpec.witness6 (enc := enc) (C := Try.checked) false ⟨#[], #[.agg #[.int .i64 0, .slice none 0 0], .int .i64 0, .int .i64 0, .int .i64 0], []⟩ 8 (by kernel_rfl) (by kernel_rfl) (by kernel_rfl) (by kernel_rfl)) ?_
  exact row_ok (C := Try.checked) 6 4 laidOut (by kernel_rfl) rfl (by kernel_rfl) rfl (fun ds h => match ds, h with | [_, _, _, _], _ => rfl) fun dss h => match dss, h with
    | [x0, x1, x2, x3], .cons h0 (.cons h1 (.cons h2 (.cons h3 .nil))) => nonceBoth_read x0 x1 x2 x3 (shp_table tysOk _ _ _ h0) (shp_table tysOk _ _ _ h1) (shp_table tysOk _ _ _ h2) (shp_table tysOk _ _ _ h3)
theorem nonceBoth_holds : Rows.NonceBothSaid :=
  OpenClaim.holds_of_wide 10 Try.f10 rfl rfl rfl rfl rfl rfl rfl ⟨rfl, rfl, rfl, rfl, rfl⟩ rfl rfl rfl rfl rfl (by kernel_rfl) Try.func10 (by kernel_rfl)
    (of_decide_eq_true (by kernel_rfl)) (by unfold Func.isWrapper; rw [if_neg (of_decide_eq_false (by kernel_rfl))]; exact ⟨rfl, rfl⟩)
    (fun os started H enc _ => nonceBoth_lifted os started H enc)
end
end Go.Proofs.Ytmkolmgpcmceaaa
