/- The contracts of Use (both). -/
import Derived.Test.YtmkolmgpcmceaaaN3
namespace Go.Proofs.Ytmkolmgpcmceaaa
open Go.Eng
set_option linter.unusedSimpArgs false
set_option maxRecDepth 10000

def cmpV (k : Int) (x : No) : Int := IntKind.i64.wrap (x.N - k)
/-- Is a nonce the one that is used? -/
def hitB (k now : Int) (x : No) : Bool := (x.N == k) && decide (now ≤ x.U)

/-- What a use leaves, and its answer. -/
def useV (n : Int) (l : List No) (k now : Int) : Int × List No × Int :=
  if checkV n l ≠ 0 then (0, [], checkV n l)
  else if timeB now = false then (0, [], 1)
  else if l.any (hitB k now) then (n, l.filter (fun x => !hitB k now x), 0)
  else (0, [], 210)

abbrev useR (v : Int × List No × Int) : Res := rTup [(true, [vI v.1, .own 2 41 (v.2.1.map No.cells)]), (false, [vI v.2.2])]

theorem cmp_ok (x : No) (n : Int) : Meets Try.prog 29 [(true, [vI x.N, vI x.U]), (false, [vI n])] (rOne (vI (cmpV n x))) := by
  refine meets Try.func29 rfl rfl Try.ntmps29 Try.results29 rfl ?_
  simp -dsimp -implicitDefEqProofs only [cmpV, go_sem, ↓reduceIte, reduceCtorEq, Nat.reduceLT, Nat.reduceLeDiff, Nat.reduceEqDiff, Nat.reduceAdd, Nat.reduceMul, Nat.reduceSub, Nat.reduceBEq, Int.reduceLT, Int.reduceLE, Int.reduceEq, Int.reduceBEq, Int.reduceNeg]

/-- The numbers of a fence that may be rise, from above `last`. -/
theorem okFrom_sorted {next : Int} : ∀ {l : List No} {last : Int}, okFrom next last l = true → ∀ (i : Nat) (x : No), l[i]? = some x → last < x.N ∧ x.N < next ∧ ∀ (j : Nat) (y : No), i < j → l[j]? = some y → x.N < y.N
  | [], _, _, i, x, h => by simp at h
  | z :: r, last, h, i, x, hx => by
    simp only [okFrom, Bool.and_eq_true, decide_eq_true_eq] at h
    obtain ⟨⟨⟨h1, h2⟩, _⟩, h3⟩ := h
    have ih := okFrom_sorted h3
    cases i with
    | zero =>
      simp only [List.getElem?_cons_zero, Option.some.injEq] at hx
      subst hx
      refine ⟨h1, h2, fun j y hj hy => ?_⟩
      obtain ⟨j', rfl⟩ : ∃ j', j = j' + 1 := ⟨j - 1, by omega⟩
      simp only [List.getElem?_cons_succ] at hy
      exact (ih j' y hy).1
    | succ i =>
      simp only [List.getElem?_cons_succ] at hx
      obtain ⟨q1, q2, q3⟩ := ih i x hx
      refine ⟨by omega, q2, fun j y hj hy => ?_⟩
      obtain ⟨j', rfl⟩ : ∃ j', j = j' + 1 := ⟨j - 1, by omega⟩
      simp only [List.getElem?_cons_succ] at hy
      exact q3 j' y (by omega) hy

theorem bs_law {k : Int} {l : List No} (hk : 0 ≤ k) (hk2 : k ≤ 9223372036854775807) (hb : ∀ (i : Nat) (x : No), l[i]? = some x → 0 ≤ x.N ∧ x.N ≤ 9223372036854775807 ∧ ∀ (j : Nat) (y : No), i < j → l[j]? = some y → x.N < y.N) :
    ∀ (d lo hi : Nat), hi - lo = d → lo ≤ hi → hi ≤ l.length → (∀ j x, j < lo → l[j]? = some x → x.N < k) → (∀ j x, hi ≤ j → l[j]? = some x → k ≤ x.N) →
      bs (cmpV k) l lo hi ≤ l.length ∧ (∀ j x, j < bs (cmpV k) l lo hi → l[j]? = some x → x.N < k) ∧ (∀ j x, bs (cmpV k) l lo hi ≤ j → l[j]? = some x → k ≤ x.N) := by
  intro d
  induction d using Nat.strongRecOn with
  | _ d ih =>
    intro lo hi hd h1 h2 h3 h4
    by_cases hlt : lo < hi
    · obtain ⟨mid, hm⟩ : ∃ mid, (lo + hi) / 2 = mid := ⟨_, rfl⟩
      obtain ⟨x, hx⟩ : ∃ x, l[mid]? = some x := ⟨_, List.getElem?_eq_getElem (by omega)⟩
      obtain ⟨q1, q2, q3⟩ := hb mid x hx
      have hw : IntKind.i64.wrap (x.N - k) = x.N - k := by rw [wrap64] <;> omega
      rw [bs, if_pos hlt, hm, hx]
      simp only [cmpV, hw]
      split
      · rename_i c
        refine ih (hi - (mid + 1)) (by omega) _ _ rfl (by omega) h2 (fun j y hj hy => ?_) h4
        by_cases hjm : j = mid
        · subst hjm; rw [hx] at hy; cases hy; omega
        · have := (hb j y hy).2.2 mid x (by omega) hx; omega
      · rename_i c
        refine ih (mid - lo) (by omega) _ _ rfl (by omega) (by omega) h3 (fun j y hj hy => ?_)
        by_cases hjm : j = mid
        · subst hjm; rw [hx] at hy; cases hy; omega
        · have := q3 j y (by omega) hy; omega
    · rw [bs, if_neg hlt]
      exact ⟨by omega, h3, fun j y hj hy => h4 j y (by omega) hy⟩

/-- The search hits just where the number is. -/
theorem bsHit_law {n k : Int} {l : List No} (hn : n ≤ 1099511627776) (hok : okFrom n (-1) l = true) (hk : -9223372036854775808 ≤ k) (hk2 : k ≤ 9223372036854775807) :
    (∃ i x, bs (cmpV k) l 0 l.length = i ∧ bsHit (cmpV k) l i = true ∧ l[i]? = some x ∧ x.N = k) ∨ (bsHit (cmpV k) l (bs (cmpV k) l 0 l.length) = false ∧ ∀ x ∈ l, x.N ≠ k) := by
  have hs := okFrom_sorted hok
  obtain ⟨i, hi⟩ : ∃ i, bs (cmpV k) l 0 l.length = i := ⟨_, rfl⟩
  by_cases hk0 : 0 ≤ k
  · obtain ⟨h1, h2, h3⟩ := bs_law hk0 hk2 (fun i x hx => by obtain ⟨q1, q2, q3⟩ := hs i x hx; exact ⟨by omega, by omega, q3⟩) l.length 0 l.length (by omega) (by omega) (Nat.le_refl _)
      (fun j x hj _ => by omega) (fun j x hj hx => by have := (List.getElem?_eq_some_iff.1 hx).1; omega)
    rw [hi] at h1 h2 h3 ⊢
    have nohit : (∀ x, l[i]? = some x → x.N ≠ k) → ∀ x ∈ l, x.N ≠ k := by
      intro hno x hx
      obtain ⟨j, hj⟩ := List.getElem?_of_mem hx
      by_cases hji : j < i
      · have := h2 j x hji hj; omega
      · by_cases hje : j = i
        · subst hje; exact hno x hj
        · have hil : i < l.length := by have := (List.getElem?_eq_some_iff.1 hj).1; omega
          have h5 := h3 i l[i] (Nat.le_refl _) (List.getElem?_eq_getElem hil)
          have h6 := (hs i l[i] (List.getElem?_eq_getElem hil)).2.2 j x (by omega) hj
          omega
    cases hx : l[i]? with
    | none => exact .inr ⟨by simp [bsHit, hx], nohit fun x h => by rw [hx] at h; cases h⟩
    | some x =>
      obtain ⟨q1, q2, _⟩ := hs i x hx
      have hw : IntKind.i64.wrap (x.N - k) = x.N - k := by rw [wrap64] <;> omega
      by_cases hxk : x.N = k
      · exact .inl ⟨i, x, rfl, by simp [bsHit, cmpV, hx, hw]; omega, hx, hxk⟩
      · exact .inr ⟨by simp [bsHit, cmpV, hx, hw]; omega, nohit fun y h => by rw [hx] at h; cases h; exact hxk⟩
  · have hno : ∀ x ∈ l, x.N ≠ k := fun x hx => by
      obtain ⟨j, hj⟩ := List.getElem?_of_mem hx
      have := (hs j x hj).1
      omega
    refine .inr ⟨?_, hno⟩
    rw [hi]
    cases hx : l[i]? with
    | none => simp [bsHit, hx]
    | some x =>
      obtain ⟨q1, q2, _⟩ := hs i x hx
      simp only [bsHit, cmpV, hx, beq_eq_false_iff_ne, ne_eq]
      intro h0
      rw [IntKind.wrap_i64] at h0
      omega
/-- One number taken out of a fence that may be. -/
theorem filter_out {n k now : Int} {l : List No} (hok : okFrom n (-1) l = true) {i : Nat} {x : No} (hx : l[i]? = some x) (hk : x.N = k) (hu : now ≤ x.U) :
    l.any (hitB k now) = true ∧ l.filter (fun y => !hitB k now y) = l.take i ++ l.drop (i + 1) := by
  have hs := okFrom_sorted hok
  have hil : i < l.length := (List.getElem?_eq_some_iff.1 hx).1
  have hhit : hitB k now x = true := by simp [hitB, hk, hu]
  refine ⟨List.any_eq_true.2 ⟨x, List.mem_of_getElem? hx, hhit⟩, ?_⟩
  have hd : l.drop i = x :: l.drop (i + 1) := by rw [List.drop_eq_getElem_cons hil]; congr 1; exact Option.some.inj ((List.getElem?_eq_getElem hil).symm.trans hx)
  have h1 : (l.take i).filter (fun y => !hitB k now y) = l.take i := by
    rw [List.filter_eq_self]
    intro y hy
    obtain ⟨j, hj⟩ := List.getElem?_of_mem hy
    rw [List.getElem?_take] at hj
    split at hj
    · have := (hs j y hj).2.2 i x (by omega) hx
      simp [hitB]; omega
    · cases hj
  have h2 : (l.drop (i + 1)).filter (fun y => !hitB k now y) = l.drop (i + 1) := by
    rw [List.filter_eq_self]
    intro y hy
    obtain ⟨j, hj⟩ := List.getElem?_of_mem hy
    rw [List.getElem?_drop] at hj
    have := (hs i x hx).2.2 (i + 1 + j) y (by omega) hj
    simp [hitB]; omega
  conv => lhs; rw [← List.take_append_drop i l, List.filter_append, hd, List.filter_cons, hhit]
  simp only [Bool.not_true, Bool.false_eq_true, if_false]
  rw [h1, h2]

theorem use_ok (n : Int) (l : List No) (k now : Int) (hl : l.length ≤ 1000000) (hk1 : -9223372036854775808 ≤ k) (hk2 : k ≤ 9223372036854775807) : Meets Try.prog 20 [(true, [vI n, vD (nosD l)]), (false, [vI k]), (false, [vI now])] (useR (useV n l k now)) := by
  refine meets Try.func20 rfl rfl Try.ntmps20 Try.results20 rfl ?_
  simp -dsimp -implicitDefEqProofs only [go_sem, ↓reduceIte, reduceCtorEq, Nat.reduceLT, Nat.reduceLeDiff, Nat.reduceEqDiff, Nat.reduceAdd, Nat.reduceMul, Nat.reduceSub, Nat.reduceBEq, Int.reduceLT, Int.reduceLE, Int.reduceEq, Int.reduceBEq, Int.reduceNeg]
  refine callP (check_ok n l hl) ?_
  simp -dsimp -implicitDefEqProofs only [go_sem, ↓reduceIte, reduceCtorEq, Nat.reduceLT, Nat.reduceLeDiff, Nat.reduceEqDiff, Nat.reduceAdd, Nat.reduceMul, Nat.reduceSub, Nat.reduceBEq, Int.reduceLT, Int.reduceLE, Int.reduceEq, Int.reduceBEq, Int.reduceNeg]
  refine ⟨fun hK => by simp [useV, hK], fun hK => callP (time_ok _) ?_⟩
  obtain ⟨ht, hok, h64⟩ := checkV_zero hK
  obtain ⟨hn0, hn1⟩ := timeB_true ht
  simp -dsimp -implicitDefEqProofs only [go_sem, ↓reduceIte, reduceCtorEq, Nat.reduceLT, Nat.reduceLeDiff, Nat.reduceEqDiff, Nat.reduceAdd, Nat.reduceMul, Nat.reduceSub, Nat.reduceBEq, Int.reduceLT, Int.reduceLE, Int.reduceEq, Int.reduceBEq, Int.reduceNeg]
  refine ⟨fun c1 => by simp [useV, hK, c1], fun c1 => callP (bsearch_ok l hl k 29 [] (cmpV k) fun x _ => cmp_ok x k) ?_⟩
  rcases bsHit_law hn1 hok hk1 hk2 with ⟨i, x, hi, hhit, hx, hxk⟩ | ⟨hhit, hno⟩
  · have hil : i < l.length := (List.getElem?_eq_some_iff.1 hx).1
    have hw1 := wrapS hil (by omega)
    simp -dsimp -implicitDefEqProofs only [hi, hhit, go_sem, ↓reduceIte, reduceCtorEq, Nat.reduceLT, Nat.reduceLeDiff, Nat.reduceEqDiff, Nat.reduceAdd, Nat.reduceMul, Nat.reduceSub, Nat.reduceBEq, Int.reduceLT, Int.reduceLE, Int.reduceEq, Int.reduceBEq, Int.reduceNeg]
    refine callP (old_ok _) ?_
    simp -dsimp -implicitDefEqProofs only [go_sem, ↓reduceIte, reduceCtorEq, Nat.reduceLT, Nat.reduceLeDiff, Nat.reduceEqDiff, Nat.reduceAdd, Nat.reduceMul, Nat.reduceSub, Nat.reduceBEq, Int.reduceLT, Int.reduceLE, Int.reduceEq, Int.reduceBEq, Int.reduceNeg]
    refine ⟨by omega, hil, fun y hy => callP (old1_ok y now) ?_⟩
    rw [hx] at hy; cases hy
    simp -dsimp -implicitDefEqProofs only [go_sem, ↓reduceIte, reduceCtorEq, Nat.reduceLT, Nat.reduceLeDiff, Nat.reduceEqDiff, Nat.reduceAdd, Nat.reduceMul, Nat.reduceSub, Nat.reduceBEq, Int.reduceLT, Int.reduceLE, Int.reduceEq, Int.reduceBEq, Int.reduceNeg]
    refine ⟨drawn (by kernel_rfl), fun c5 => ?_, fun c5 => callP (clone_ok _ (by simpa using hl)) ?_⟩
    · have hany : l.any (hitB k now) = false := by
        rw [List.any_eq_false]
        intro y hy
        obtain ⟨j, hj⟩ := List.getElem?_of_mem hy
        have hs := okFrom_sorted hok
        by_cases hji : j = i
        · subst hji; rw [hx] at hj; cases hj; simp [hitB]; omega
        · have : y.N ≠ k := by
            by_cases hlt : j < i
            · have := (hs j y hj).2.2 i x hlt hx; omega
            · have := (hs i x hx).2.2 j y (by omega) hj; omega
          simp [hitB, this]
      simp [useV, hK, c1, hany]
    · obtain ⟨hany, hfil⟩ := filter_out (now := now) hok hx hxk (by omega)
      simp -dsimp -implicitDefEqProofs only [hw1, go_sem, ↓reduceIte, reduceCtorEq, Nat.reduceLT, Nat.reduceLeDiff, Nat.reduceEqDiff, Nat.reduceAdd, Nat.reduceMul, Nat.reduceSub, Nat.reduceBEq, Int.reduceLT, Int.reduceLE, Int.reduceEq, Int.reduceBEq, Int.reduceNeg]
      refine callE [true] ?_
      simp -dsimp -implicitDefEqProofs only [go_sem, ↓reduceIte, reduceCtorEq, Nat.reduceLT, Nat.reduceLeDiff, Nat.reduceEqDiff, Nat.reduceAdd, Nat.reduceMul, Nat.reduceSub, Nat.reduceBEq, Int.reduceLT, Int.reduceLE, Int.reduceEq, Int.reduceBEq, Int.reduceNeg]
      refine ⟨_, delete_ok (l.map No.cells) i (i + 1) (by omega) (by simp; omega) (by simpa using hl), ?_⟩
      simp -dsimp -implicitDefEqProofs only [go_sem, ↓reduceIte, reduceCtorEq, Nat.reduceLT, Nat.reduceLeDiff, Nat.reduceEqDiff, Nat.reduceAdd, Nat.reduceMul, Nat.reduceSub, Nat.reduceBEq, Int.reduceLT, Int.reduceLE, Int.reduceEq, Int.reduceBEq, Int.reduceNeg]
      simp [useV, hK, c1, hany, hfil, List.map_take, List.map_drop]
  · simp -dsimp -implicitDefEqProofs only [hhit, go_sem, ↓reduceIte, reduceCtorEq, Nat.reduceLT, Nat.reduceLeDiff, Nat.reduceEqDiff, Nat.reduceAdd, Nat.reduceMul, Nat.reduceSub, Nat.reduceBEq, Int.reduceLT, Int.reduceLE, Int.reduceEq, Int.reduceBEq, Int.reduceNeg]
    refine ⟨drawn (by kernel_rfl), ?_⟩
    have hany : l.any (hitB k now) = false := by
      rw [List.any_eq_false]
      intro y hy
      simp [hitB, hno y hy]
    simp [useV, hK, c1, hany]

structure RuInv (k now : Int) (l : List No) where
  i : Nat
  le : i ≤ l.length

theorem take_succ_any {p : No → Bool} {l : List No} {j : Nat} {x : No} (h : l[j]? = some x) : (l.take (j + 1)).any p = ((l.take j).any p || p x) := by
  rw [List.take_add_one, h, List.any_append]
  simp

theorem ruse_ok (n : Int) (l : List No) (k now : Int) (hl : l.length ≤ 1000000) : Meets Try.prog 21 [(true, [vI n, vD (nosD l)]), (false, [vI k]), (false, [vI now])] (useR (useV n l k now)) := by
  refine meets Try.func21 rfl rfl Try.ntmps21 Try.results21 rfl ?_
  simp -dsimp -implicitDefEqProofs only [go_sem, ↓reduceIte, reduceCtorEq, Nat.reduceLT, Nat.reduceLeDiff, Nat.reduceEqDiff, Nat.reduceAdd, Nat.reduceMul, Nat.reduceSub, Nat.reduceBEq, Int.reduceLT, Int.reduceLE, Int.reduceEq, Int.reduceBEq, Int.reduceNeg]
  refine callP (rcheck_ok n l hl) ?_
  simp -dsimp -implicitDefEqProofs only [go_sem, ↓reduceIte, reduceCtorEq, Nat.reduceLT, Nat.reduceLeDiff, Nat.reduceEqDiff, Nat.reduceAdd, Nat.reduceMul, Nat.reduceSub, Nat.reduceBEq, Int.reduceLT, Int.reduceLE, Int.reduceEq, Int.reduceBEq, Int.reduceNeg]
  refine ⟨fun hK => by simp [useV, hK], fun hK => callP (rtime_ok _) ?_⟩
  simp -dsimp -implicitDefEqProofs only [go_sem, ↓reduceIte, reduceCtorEq, Nat.reduceLT, Nat.reduceLeDiff, Nat.reduceEqDiff, Nat.reduceAdd, Nat.reduceMul, Nat.reduceSub, Nat.reduceBEq, Int.reduceLT, Int.reduceLE, Int.reduceEq, Int.reduceBEq, Int.reduceNeg]
  refine ⟨fun c1 => by simp [useV, hK, c1], fun c1 => ?_⟩
  refine vown 112 1 41 rfl ?_
  refine vfor sitOk (ι := RuInv k now l) (fun v => ⟨64, [(3, aP 0 0), (6, aP 8 0), (9, aP 112 0), (10, aB ((l.take v.i).any (hitB k now))), (11, aI v.i), (1, aI k), (2, aI now)],
    [(8, some (.var [cI 0, .nils 2] true)), (0, some (.var [cI n, cD (nosD l)] true)), (112, some (.var [cI n, .own 144] true)), (144, some (.row 2 41 (((l.take v.i).filter fun x => !hitB k now x).map No.cells) true))], 145⟩) (fun v => l.length - v.i) ⟨0, by omega⟩ ?_ ?_
  · simp -dsimp -implicitDefEqProofs only [go_sem, ↓reduceIte, reduceCtorEq, Nat.reduceLT, Nat.reduceLeDiff, Nat.reduceEqDiff, Nat.reduceAdd, Nat.reduceMul, Nat.reduceSub, Nat.reduceBEq, Int.reduceLT, Int.reduceLE, Int.reduceEq, Int.reduceBEq, Int.reduceNeg]
    exact ⟨rfl, rfl⟩
  intro ⟨i, hi⟩
  have hfl : ((l.take i).filter fun x => !hitB k now x).length ≤ i := Nat.le_trans (List.length_filter_le ..) (by simp; omega)
  simp -dsimp -implicitDefEqProofs only [go_sem, ↓reduceIte, reduceCtorEq, Nat.reduceLT, Nat.reduceLeDiff, Nat.reduceEqDiff, Nat.reduceAdd, Nat.reduceMul, Nat.reduceSub, Nat.reduceBEq, Int.reduceLT, Int.reduceLE, Int.reduceEq, Int.reduceBEq, Int.reduceNeg]
  have miss : ∀ x, l[i]? = some x → hitB k now x = false → ((l.take (i + 1)).filter fun x => !hitB k now x).map No.cells = ((l.take i).filter fun x => !hitB k now x).map No.cells ++ [x.cells] ∧ (l.take (i + 1)).any (hitB k now) = (l.take i).any (hitB k now) := fun x hx c => by
    rw [take_succ_filter hx, take_succ_any hx]; simp [c]
  refine ⟨fun hlt => ⟨by omega, by omega, fun x hx => ⟨fun c2 => ⟨by omega, by omega, fun y hy => ⟨fun c3 => ?_, fun c3 => ⟨by omega, by omega, fun z hz => ⟨⟨by omega, by omega⟩, drawn (by kernel_rfl), ?_⟩⟩⟩⟩, fun c2 => ⟨by omega, by omega, fun y hy => ⟨⟨by omega, by omega⟩, drawn (by kernel_rfl), ?_⟩⟩⟩⟩, fun hge => ?_⟩
  · have e := hx.symm.trans hy
    cases e
    have e1 : (l.take (i + 1)).filter (fun x => !hitB k now x) = (l.take i).filter fun x => !hitB k now x := by
      rw [take_succ_filter hx]; simp [hitB, c2, c3]
    have e2 : (l.take (i + 1)).any (hitB k now) = true := by rw [take_succ_any hx]; simp [hitB, c2, c3]
    refine again ⟨i + 1, by omega⟩ (by simp; omega) ?_
    simp -dsimp -implicitDefEqProofs only [e1, e2, wrapS (show i < l.length by omega) (show l.length ≤ 4611686018427387904 by omega), go_sem, ↓reduceIte, reduceCtorEq, Nat.reduceLT, Nat.reduceLeDiff, Nat.reduceEqDiff, Nat.reduceAdd, Nat.reduceMul, Nat.reduceSub, Nat.reduceBEq, Int.reduceLT, Int.reduceLE, Int.reduceEq, Int.reduceBEq, Int.reduceNeg]
  · have e := hx.symm.trans hy
    cases e
    have e := hx.symm.trans hz
    cases e
    have e := miss x hx (by simp [hitB]; omega)
    refine againO 144 112 1 ⟨i + 1, by omega⟩ (by simp; omega) ?_
    simp -dsimp -implicitDefEqProofs only [e.1, e.2, wrapS (show i < l.length by omega) (show l.length ≤ 4611686018427387904 by omega), go_sem, ↓reduceIte, reduceCtorEq, Nat.reduceLT, Nat.reduceLeDiff, Nat.reduceEqDiff, Nat.reduceAdd, Nat.reduceMul, Nat.reduceSub, Nat.reduceBEq, Int.reduceLT, Int.reduceLE, Int.reduceEq, Int.reduceBEq, Int.reduceNeg]
  · have e := hx.symm.trans hy
    cases e
    have e := miss x hx (by simp [hitB, c2])
    refine againO 144 112 1 ⟨i + 1, by omega⟩ (by simp; omega) ?_
    simp -dsimp -implicitDefEqProofs only [e.1, e.2, wrapS (show i < l.length by omega) (show l.length ≤ 4611686018427387904 by omega), go_sem, ↓reduceIte, reduceCtorEq, Nat.reduceLT, Nat.reduceLeDiff, Nat.reduceEqDiff, Nat.reduceAdd, Nat.reduceMul, Nat.reduceSub, Nat.reduceBEq, Int.reduceLT, Int.reduceLE, Int.reduceEq, Int.reduceBEq, Int.reduceNeg]
  · rw [List.take_of_length_le (by omega)]
    exact ⟨fun c => by simp [useV, hK, c1, c], fun c => by simp [useV, hK, c1, c]⟩
end Go.Proofs.Ytmkolmgpcmceaaa
