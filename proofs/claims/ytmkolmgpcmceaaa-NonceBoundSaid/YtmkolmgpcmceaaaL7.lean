/- More are told till there are 64 that are not too old, and no more; when all are too old there is room again: the row 'NonceBoundSaid', for every input. -/
import Derived.Test.YtmkolmgpcmceaaaL4
namespace Go.Proofs.Ytmkolmgpcmceaaa
open Go.Eng
set_option linter.unusedSimpArgs false
set_option maxRecDepth 10000

theorem okFrom_times {next : Int} : ∀ {l : List No} {last : Int}, okFrom next last l = true → ∀ x ∈ l, timeB x.U = true
  | [], _, _, x, h => by simp at h
  | y :: r, last, ho, x, h => by
    simp only [okFrom, Bool.and_eq_true, decide_eq_true_eq] at ho
    rcases List.mem_cons.1 h with rfl | h
    · exact ho.1.2
    · exact okFrom_times ho.2 x h

structure LtInv (l : List No) (lo : Int) where
  i : Nat
  late : Int
  le : i ≤ l.length
  lb : lo ≤ late
  ub : late ≤ 1099511627777
  all : ∀ y ∈ l.take i, y.U < late

structure BdInv (n : Int) (l : List No) (now life : Int) where
  j : Nat
  x : List No
  ck : checkV (n + j) x = 0
  len : (x.filter (keepB now)).length = (l.filter (keepB now)).length + j
  le : (l.filter (keepB now)).length + j ≤ 64
  all : ∀ y ∈ x, y ∈ l ∨ y.U = now + life
  fst : j = 0 → x = l
  nxt : j ≠ 0 → x.filter (keepB now) = x

theorem bound_ok (n : Int) (l : List No) (now life : Int) : Meets Try.prog 9 [(true, [vI n, vD (nosD l)]), (false, [vI now]), (false, [vI life])] (rOne (vB true)) := by
  refine meets Try.func9 rfl rfl Try.ntmps9 Try.results9 rfl ?_
  simp -dsimp -implicitDefEqProofs only [go_sem, ↓reduceIte, reduceCtorEq, Nat.reduceLT, Nat.reduceLeDiff, Nat.reduceEqDiff, Nat.reduceAdd, Nat.reduceMul, Nat.reduceSub, Nat.reduceBEq, Int.reduceLT, Int.reduceLE, Int.reduceEq, Int.reduceBEq, Int.reduceNeg]
  refine callP live_ok ?_
  simp -dsimp -implicitDefEqProofs only [go_sem, ↓reduceIte, reduceCtorEq, Nat.reduceLT, Nat.reduceLeDiff, Nat.reduceEqDiff, Nat.reduceAdd, Nat.reduceMul, Nat.reduceSub, Nat.reduceBEq, Int.reduceLT, Int.reduceLE, Int.reduceEq, Int.reduceBEq, Int.reduceNeg]
  refine callP (few_ok n l) ?_
  simp -dsimp -implicitDefEqProofs only [go_sem, ↓reduceIte, reduceCtorEq, Nat.reduceLT, Nat.reduceLeDiff, Nat.reduceEqDiff, Nat.reduceAdd, Nat.reduceMul, Nat.reduceSub, Nat.reduceBEq, Int.reduceLT, Int.reduceLE, Int.reduceEq, Int.reduceBEq, Int.reduceNeg]
  intro hl
  refine callP (check_ok n l (by omega)) ?_
  simp -dsimp -implicitDefEqProofs only [go_sem, ↓reduceIte, reduceCtorEq, Nat.reduceLT, Nat.reduceLeDiff, Nat.reduceEqDiff, Nat.reduceAdd, Nat.reduceMul, Nat.reduceSub, Nat.reduceBEq, Int.reduceLT, Int.reduceLE, Int.reduceEq, Int.reduceBEq, Int.reduceNeg]
  intro h1 h2 h3 h4 h5 h6
  have hof := filter_len (keepB now) l
  obtain ⟨c1, c2, c3⟩ := checkV_zero h1
  have c1' := timeB_true c1
  refine callP (trim_ok n l now (by omega)) ?_
  simp -dsimp -implicitDefEqProofs only [go_sem, ↓reduceIte, reduceCtorEq, Nat.reduceLT, Nat.reduceLeDiff, Nat.reduceEqDiff, Nat.reduceAdd, Nat.reduceMul, Nat.reduceSub, Nat.reduceBEq, Int.reduceLT, Int.reduceLE, Int.reduceEq, Int.reduceBEq, Int.reduceNeg]
  refine vfor sitOk (ι := BdInv n l now life) (fun v => ⟨120, [(9, aI v.j), (8, aP 320 0), (7, aI (l.filter (keepB now)).length), (6, aB false), (3, aP 0 0), (1, aI now), (2, aI life)],
    [(0, some (.var [cI n, cD (nosD l)] true)), (320, some (.var [cI (n + v.j), cD (nosD v.x)] true))], 344⟩) (fun v => 65 - v.j)
    ⟨0, l, by simpa using h1, by simp, by omega, fun y hy => .inl hy, fun _ => rfl, fun h => absurd rfl h⟩ ?_ ?_
  · simp -dsimp -implicitDefEqProofs only [go_sem, ↓reduceIte, reduceCtorEq, Nat.reduceLT, Nat.reduceLeDiff, Nat.reduceEqDiff, Nat.reduceAdd, Nat.reduceMul, Nat.reduceSub, Nat.reduceBEq, Int.reduceLT, Int.reduceLE, Int.reduceEq, Int.reduceBEq, Int.reduceNeg]
    simp
  intro ⟨j, x, ck, len, le, all, fst, nxt⟩
  obtain ⟨k1, k2, k3⟩ := checkV_zero ck
  have k1' := timeB_true k1
  have hxf := filter_len (keepB now) x
  have hwo : IntKind.i64.wrap (64 - ((l.filter (keepB now)).length : Int)) = 64 - ((l.filter (keepB now)).length : Int) := by rw [wrap64] <;> omega
  have hw1 : IntKind.i64.wrap (now + life) = now + life := by rw [wrap64] <;> omega
  have hw2 : IntKind.i64.wrap (now + life + 1) = now + life + 1 := by rw [wrap64] <;> omega
  simp -dsimp -implicitDefEqProofs only [hwo, hw1, hw2, go_sem, ↓reduceIte, reduceCtorEq, Nat.reduceLT, Nat.reduceLeDiff, Nat.reduceEqDiff, Nat.reduceAdd, Nat.reduceMul, Nat.reduceSub, Nat.reduceBEq, Int.reduceLT, Int.reduceLE, Int.reduceEq, Int.reduceBEq, Int.reduceNeg]
  refine ⟨fun _ => ?_, fun h => by omega⟩
  have htn : timeB now = true := by simp [timeB]; omega
  by_cases h64 : (x.filter (keepB now)).length = 64
  · have e : tellV (n + j) x now life = (0, [], 0, 2) := by
      have q1 : ¬ life < 1 := by omega
      have q2 : ¬ 1099511627776 - now < life := by omega
      simp [tellV, ck, htn, q1, q2, h64]
    refine callP (e ▸ tell_ok (n + j) x now life (by omega)) ?_
    simp -dsimp -implicitDefEqProofs only [hwo, hw1, hw2, go_sem, ↓reduceIte, reduceCtorEq, Nat.reduceLT, Nat.reduceLeDiff, Nat.reduceEqDiff, Nat.reduceAdd, Nat.reduceMul, Nat.reduceSub, Nat.reduceBEq, Int.reduceLT, Int.reduceLE, Int.reduceEq, Int.reduceBEq, Int.reduceNeg]
    have hx64 : x.length = 64 := by
      by_cases hj : j = 0
      · have := fst hj
        subst this; omega
      · rw [nxt hj] at h64; exact h64
    refine ⟨fun _ => ⟨fun h => by omega, fun _ => ?_⟩, fun h => by omega⟩
    refine vfor sitOk (ι := LtInv l (now + life + 1)) (fun v => ⟨120, [(14, aI v.i), (13, aI v.late), (8, aP 320 0), (3, aP 0 0), (6, aB false)],
      [(0, some (.var [cI n, cD (nosD l)] true)), (320, some (.var [cI (n + j), cD (nosD x)] true))], 600⟩) (fun v => l.length - v.i)
      ⟨0, now + life + 1, by omega, by omega, by omega, by simp⟩ ?_ ?_
    · simp -dsimp -implicitDefEqProofs only [go_sem, ↓reduceIte, reduceCtorEq, Nat.reduceLT, Nat.reduceLeDiff, Nat.reduceEqDiff, Nat.reduceAdd, Nat.reduceMul, Nat.reduceSub, Nat.reduceBEq, Int.reduceLT, Int.reduceLE, Int.reduceEq, Int.reduceBEq, Int.reduceNeg]
    intro ⟨i, late, hi, hlb, hub, hal⟩
    simp -dsimp -implicitDefEqProofs only [go_sem, ↓reduceIte, reduceCtorEq, Nat.reduceLT, Nat.reduceLeDiff, Nat.reduceEqDiff, Nat.reduceAdd, Nat.reduceMul, Nat.reduceSub, Nat.reduceBEq, Int.reduceLT, Int.reduceLE, Int.reduceEq, Int.reduceBEq, Int.reduceNeg]
    refine ⟨fun hlt => ⟨by omega, by omega, fun y hy => ?_⟩, fun hge => ?_⟩
    · have hyu := timeB_true (okFrom_times c2 y (List.mem_of_getElem? hy))
      have hw3 : IntKind.i64.wrap (y.U + 1) = y.U + 1 := by rw [wrap64] <;> omega
      refine again ⟨i + 1, if late < y.U + 1 then y.U + 1 else late, by omega, by split <;> omega, by split <;> omega, fun z hz => ?_⟩ (by simp; omega) ?_
      · rw [List.take_add_one, hy] at hz
        rcases List.mem_append.1 hz with hz | hz
        · have := hal z hz; split <;> omega
        · simp at hz; subst hz; split <;> omega
      · simp -dsimp -implicitDefEqProofs only [hw3, wrapS (show i < l.length by omega) (show l.length ≤ 4611686018427387904 by omega), go_sem, ↓reduceIte, reduceCtorEq, Nat.reduceLT, Nat.reduceLeDiff, Nat.reduceEqDiff, Nat.reduceAdd, Nat.reduceMul, Nat.reduceSub, Nat.reduceBEq, Int.reduceLT, Int.reduceLE, Int.reduceEq, Int.reduceBEq, Int.reduceNeg]
    · by_cases hlm : 1099511627776 ≤ late
      · obtain ⟨⟨a1, a2, a3, a4⟩, ha⟩ : ∃ a, tellV (n + j) x (if 1099511627775 < late then 1099511627775 else late) 1 = a := ⟨_, rfl⟩
        refine callP (ha ▸ tell_ok (n + j) x _ 1 (by omega)) ?_
        simp -dsimp -implicitDefEqProofs only [hlm, go_sem, ↓reduceIte, reduceCtorEq, Nat.reduceLT, Nat.reduceLeDiff, Nat.reduceEqDiff, Nat.reduceAdd, Nat.reduceMul, Nat.reduceSub, Nat.reduceBEq, Int.reduceLT, Int.reduceLE, Int.reduceEq, Int.reduceBEq, Int.reduceNeg]
      · have hle : ¬ 1099511627775 < late := by omega
        have hnil : x.filter (keepB late) = [] := by
          rw [List.filter_eq_nil_iff]
          intro y hy
          have : y.U < late := by
            rcases all y hy with h | h
            · exact hal y (by rw [List.take_of_length_le (by omega)]; exact h)
            · omega
          simp [keepB, this]
        have hnj : ¬ n + (j : Int) = 1099511627776 := by omega
        have htl : timeB late = true := by simp [timeB]; omega
        have e2 : tellV (n + j) x late 1 = (n + j + 1, [(⟨n + j, late + 1⟩ : No)], n + j, 0) := by
          have q2 : ¬ 1099511627776 - late < 1 := by omega
          simp [tellV, ck, htl, q2, hnil, hnj]
        rw [if_neg hle]
        refine callP (e2 ▸ tell_ok (n + j) x late 1 (by omega)) ?_
        simp -dsimp -implicitDefEqProofs only [hlm, go_sem, ↓reduceIte, reduceCtorEq, Nat.reduceLT, Nat.reduceLeDiff, Nat.reduceEqDiff, Nat.reduceAdd, Nat.reduceMul, Nat.reduceSub, Nat.reduceBEq, Int.reduceLT, Int.reduceLE, Int.reduceEq, Int.reduceBEq, Int.reduceNeg]
  · have hnj : ¬ n + (j : Int) = 1099511627776 := by omega
    have e : tellV (n + j) x now life = (n + j + 1, x.filter (keepB now) ++ [(⟨n + j, now + life⟩ : No)], n + j, 0) := by
      have q1 : ¬ life < 1 := by omega
      have q2 : ¬ 1099511627776 - now < life := by omega
      simp [tellV, ck, htn, q1, q2, h64, hnj]
    refine callP (e ▸ tell_ok (n + j) x now life (by omega)) ?_
    simp -dsimp -implicitDefEqProofs only [hwo, hw1, hw2, go_sem, ↓reduceIte, reduceCtorEq, Nat.reduceLT, Nat.reduceLeDiff, Nat.reduceEqDiff, Nat.reduceAdd, Nat.reduceMul, Nat.reduceSub, Nat.reduceBEq, Int.reduceLT, Int.reduceLE, Int.reduceEq, Int.reduceBEq, Int.reduceNeg]
    refine againS 320 1 ?_
    simp -dsimp -implicitDefEqProofs only [go_sem, ↓reduceIte, reduceCtorEq, Nat.reduceLT, Nat.reduceLeDiff, Nat.reduceEqDiff, Nat.reduceAdd, Nat.reduceMul, Nat.reduceSub, Nat.reduceBEq, Int.reduceLT, Int.reduceLE, Int.reduceEq, Int.reduceBEq, Int.reduceNeg]
    have hkeep : (x.filter (keepB now) ++ [(⟨n + j, now + life⟩ : No)]).filter (keepB now) = x.filter (keepB now) ++ [(⟨n + j, now + life⟩ : No)] := by
      have : ¬ now + life < now := by omega
      rw [List.filter_append, List.filter_eq_self.2 fun y hy => (List.mem_filter.1 hy).2]
      simp [keepB, this]
    have hck := (told_law (thn := now) ck htn (by omega) (by omega) (by omega) (by omega : n + (j : Int) < 1099511627776)).1
    refine again ⟨j + 1, x.filter (keepB now) ++ [(⟨n + j, now + life⟩ : No)], by rw [show n + ((j + 1 : Nat) : Int) = n + j + 1 by omega]; exact hck, by rw [hkeep]; simp; omega, by omega, fun y hy => ?_, fun h => by omega, fun _ => hkeep⟩ (by simp; omega) ?_
    · rcases List.mem_append.1 hy with hy | hy
      · exact all y (List.mem_filter.1 hy).1
      · simp at hy; subst hy; exact .inr rfl
    · have hw3 : IntKind.i64.wrap ((j : Int) + 1) = ((j + 1 : Nat) : Int) := by rw [wrap64] <;> omega
      simp -dsimp -implicitDefEqProofs only [hw3, go_sem, ↓reduceIte, reduceCtorEq, Nat.reduceLT, Nat.reduceLeDiff, Nat.reduceEqDiff, Nat.reduceAdd, Nat.reduceMul, Nat.reduceSub, Nat.reduceBEq, Int.reduceLT, Int.reduceLE, Int.reduceEq, Int.reduceBEq, Int.reduceNeg]
      omega

theorem nonceBound_read (x0 x1 x2 : List D) (h0 : shpG tys 6 24 x0) (h1 : shpG tys 6 3 x1) (h2 : shpG tys 6 3 x2) : Meets Try.prog 9 [argC Try.prog 24 x0, argC Try.prog 3 x1, argC Try.prog 3 x2] (rOne (vB true)) := by
  obtain ⟨n, l, rfl⟩ := read_fence h0
  obtain ⟨now, rfl, _⟩ := read_int h1
  obtain ⟨life, rfl, _⟩ := read_int h2
  rw [arg_fence, arg_int, arg_int]
  exact bound_ok n l now life
section
open Go.ChangeShapes Go.WideShapes Go.ChangeAt Go.RowKit
set_option maxRecDepth 100000 in
theorem nonceBound_lifted (os : Os) (started : os.Started) (H : Type) (enc : TypeId × Value → H) :
    ReturnsInHanded {} Try.checked os 9 .any (Rows.nonceBoundSpec.pre6 enc Try.prog Try.f9 Rows.nonceBoundRow.domain false) (Rows.nonceBoundSpec.post enc Try.prog Try.f9 false true false false) := by
  refine returnsInHanded_of_change (C := Try.checked) own started (by kernel_rfl) Try.func9
    (ChangeSpec.witness6 (enc := enc) (C := Try.checked) false ⟨#[], #[.agg #[.int .i64 0, .slice none 0 0], .int .i64 0, .int .i64 0], []⟩ 8 (by kernel_rfl) (by kernel_rfl) (by kernel_rfl) (by kernel_rfl)) ?_
  exact row_ok (C := Try.checked) 6 4 laidOut (by kernel_rfl) rfl (by kernel_rfl) rfl (fun ds h => match ds, h with | [_, _, _], _ => rfl) fun dss h => match dss, h with
    | [x0, x1, x2], .cons h0 (.cons h1 (.cons h2 .nil)) => nonceBound_read x0 x1 x2 (shp_table tysOk _ _ _ h0) (shp_table tysOk _ _ _ h1) (shp_table tysOk _ _ _ h2)
theorem nonceBound_holds : Rows.NonceBoundSaid :=
  OpenClaim.holds_of_wide 9 Try.f9 rfl rfl rfl rfl rfl rfl rfl ⟨rfl, rfl, rfl, rfl, rfl⟩ rfl rfl rfl rfl rfl (by kernel_rfl) Try.func9 (by kernel_rfl)
    (of_decide_eq_true (by kernel_rfl)) (by unfold Func.isWrapper; rw [if_neg (of_decide_eq_false (by kernel_rfl))]; exact ⟨rfl, rfl⟩)
    (fun os started H enc _ => nonceBound_lifted os started H enc)
end
end Go.Proofs.Ytmkolmgpcmceaaa
