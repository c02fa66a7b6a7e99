/- cut. -/
import Derived.Test.YtfgejhlgenaniaaDoorZ8
namespace Go.Proofs.YtfgejhlgenaniaaDoor
open Go.Eng
set_option linter.unusedSimpArgs false
set_option maxRecDepth 10000

/-- The first record of a cut at a name. -/
def firstNs (l : List Rec) (n : Bs) : Option Rec := (atB l n).find? fun r => r.K == 3
def orO (x y : Option Rec) : Option Rec := match x with
  | some r => some r
  | none => y
/-- The highest cut. -/
def cutF (a : Bs) (l : List Rec) : Nat → Bs → Option Rec → Option Rec
  | 0, _, c => c
  | m + 1, s, c => if s = [] then c else if s = a then c else cutF a l m (upB s) (orO (firstNs l s) c)
def cutV (a : Bs) (l : List Rec) (s : Bs) (c : Option Rec) : Option Rec := cutF a l s.length s c
theorem cutF_same (a : Bs) (l : List Rec) : ∀ (m k : Nat) (s : Bs) (c : Option Rec), s.length ≤ m → s.length ≤ k → cutF a l m s c = cutF a l k s c
  | 0, 0, _, _, _, _ => rfl
  | 0, k + 1, s, c, h, _ => by
    have : s = [] := List.length_eq_zero_iff.1 (by omega)
    subst this
    simp [cutF]
  | m + 1, 0, s, c, _, h => by
    have : s = [] := List.length_eq_zero_iff.1 (by omega)
    subst this
    simp [cutF]
  | m + 1, k + 1, s, c, h1, h2 => by
    unfold cutF
    split
    · rfl
    · rename_i h
      have := upB_lt' h
      rw [cutF_same a l m k (upB s) _ (by omega) (by omega)]
theorem cutV_eq (a : Bs) (l : List Rec) (s : Bs) (c : Option Rec) : cutV a l s c = if s = [] then c else if s = a then c else cutV a l (upB s) (orO (firstNs l s) c) := by
  unfold cutV
  rw [cutF_same a l s.length (s.length + 1) s c (Nat.le_refl _) (by omega), cutF]
  split
  · rfl
  · rename_i h
    have := upB_lt' h
    rw [cutF_same a l s.length (upB s).length (upB s) _ (by omega) (Nat.le_refl _)]
def rowO (c : Option Rec) : List (List D) := match c with
  | some r => [r.cells]
  | none => []
structure CtInv (a : Bs) (l : List Rec) (s : Bs) where
  u : Bs
  c : Option Rec
  eq : cutV a l s none = cutV a l u c
structure CuInv (l : List Rec) (n : Bs) where
  i : Nat
  le : i ≤ l.length
  no : ∀ r ∈ atB (l.take i) n, ¬ r.K = 3

theorem firstNs_found {l : List Rec} {n : Bs} {i : Nat} {x : Rec} (hx : l[i]? = some x) (hN : x.N = n) (hK : x.K = 3) (h : ∀ r ∈ atB (l.take i) n, ¬ r.K = 3) : firstNs l n = some x := by
  have h1 : l = l.take i ++ x :: l.drop (i + 1) := by conv => lhs; rw [← List.take_append_drop i l, drop_at hx]
  have h2 : atB l n = atB (l.take i) n ++ x :: atB (l.drop (i + 1)) n := by
    conv => lhs; rw [h1]
    unfold atB
    rw [List.filter_append, List.filter_cons, if_pos (by simp [hN])]
  unfold firstNs
  rw [h2, List.find?_append]
  have h3 : (atB (l.take i) n).find? (fun r => r.K == 3) = none := by
    rw [List.find?_eq_none]
    intro r hr; simpa using h r hr
  rw [h3, List.find?_cons]
  simp [hK]
theorem firstNs_none {l : List Rec} {n : Bs} (h : ∀ r ∈ atB l n, ¬ r.K = 3) : firstNs l n = none := by
  unfold firstNs
  rw [List.find?_eq_none]
  intro r hr; simpa using h r hr
theorem no_step {l : List Rec} {n : Bs} {i : Nat} {x : Rec} (hx : l[i]? = some x) (h : ∀ r ∈ atB (l.take i) n, ¬ r.K = 3) (h2 : x.N = n → ¬ x.K = 3) : ∀ r ∈ atB (l.take (i + 1)) n, ¬ r.K = 3 := by
  rw [atB_step n hx]
  intro r hr
  rcases List.mem_append.1 hr with hr | hr
  · exact h r hr
  · split at hr
    · rename_i e; simp at hr; rw [hr]; exact h2 e
    · simp at hr

theorem cut_ok' (a : Bs) (l : List Rec) (s : Bs) (hl : l.length ≤ 1000000) : Meets Tryd.prog 37 [zoneA a l, (false, [vS s])] (rOne (.own 4 39 (rowO (cutV a l s none)))) := by
  refine meets Tryd.func37 rfl rfl Tryd.ntmps37 Tryd.results37 rfl ?_
  simp -dsimp -implicitDefEqProofs only [go_sem, ↓reduceIte, reduceCtorEq, Nat.reduceLT, Nat.reduceLeDiff, Nat.reduceEqDiff, Nat.reduceAdd, Nat.reduceMul, Nat.reduceSub, Nat.reduceBEq, Int.reduceLT, Int.reduceLE, Int.reduceEq, Int.reduceBEq, Int.reduceNeg]
  refine vown 8 0 39 rfl ?_
  simp -dsimp -implicitDefEqProofs only [go_sem, ↓reduceIte, reduceCtorEq, Nat.reduceLT, Nat.reduceLeDiff, Nat.reduceEqDiff, Nat.reduceAdd, Nat.reduceMul, Nat.reduceSub, Nat.reduceBEq, Int.reduceLT, Int.reduceLE, Int.reduceEq, Int.reduceBEq, Int.reduceNeg]
  refine vforR sitOk [(400, 32)] (ι := CtInv a l s) (fun v => ⟨28, [(5, aS v.u), (4, aP 8 0), (2, aP 0 0)], [(8, some (.var [.own 400] true)), (400, some (.row 4 39 (rowO v.c) true)), (0, some (.var [cS a, cD (recsD l)] true))], 401⟩) (fun v => v.u.length) ⟨s, none, rfl⟩ ?_ ?_
  · simp -dsimp -implicitDefEqProofs only [rowO, go_sem, ↓reduceIte, reduceCtorEq, Nat.reduceLT, Nat.reduceLeDiff, Nat.reduceEqDiff, Nat.reduceAdd, Nat.reduceMul, Nat.reduceSub, Nat.reduceBEq, Int.reduceLT, Int.reduceLE, Int.reduceEq, Int.reduceBEq, Int.reduceNeg]
  intro ⟨u, c, he⟩
  simp -dsimp -implicitDefEqProofs only [go_sem, ↓reduceIte, reduceCtorEq, Nat.reduceLT, Nat.reduceLeDiff, Nat.reduceEqDiff, Nat.reduceAdd, Nat.reduceMul, Nat.reduceSub, Nat.reduceBEq, Int.reduceLT, Int.reduceLE, Int.reduceEq, Int.reduceBEq, Int.reduceNeg]
  have hstop : (u = [] ∨ u = a) → cutV a l s none = c := fun h => by
    rw [he, cutV_eq]
    rcases h with h | h
    · rw [if_pos h]
    · rw [if_pos h]; split <;> rfl
  have hstep : ¬ u = [] → ¬ u = a → cutV a l s none = cutV a l (upB u) (orO (firstNs l u) c) := fun h1 h2 => by
    rw [he, cutV_eq, if_neg h1, if_neg h2]
  refine ⟨fun h1 => ⟨fun h2 => ?_, fun h2 => ?_⟩, fun h1 => ?_⟩
  · have hst := hstep h1 h2
    refine callW rfl Tryd.func39 rfl rfl Tryd.ntmps39 Tryd.results39 rfl ?_
    simp -dsimp -implicitDefEqProofs only [retH, go_sem, ↓reduceIte, reduceCtorEq, Nat.reduceLT, Nat.reduceLeDiff, Nat.reduceEqDiff, Nat.reduceAdd, Nat.reduceMul, Nat.reduceSub, Nat.reduceBEq, Int.reduceLT, Int.reduceLE, Int.reduceEq, Int.reduceBEq, Int.reduceNeg]
    refine vrange sitOk rfl [] [(5, aS u), (4, aP 8 0), (2, aP 0 0)] rfl rfl ?_ Tryd.func65 rfl rfl Tryd.ntmps65 Tryd.results65 rfl ?_
    · simp -dsimp -implicitDefEqProofs only [go_sem, ↓reduceIte, reduceCtorEq, Nat.reduceLT, Nat.reduceLeDiff, Nat.reduceEqDiff, Nat.reduceAdd, Nat.reduceMul, Nat.reduceSub, Nat.reduceBEq, Int.reduceLT, Int.reduceLE, Int.reduceEq, Int.reduceBEq, Int.reduceNeg]
    simp -dsimp -implicitDefEqProofs only [go_sem, ↓reduceIte, reduceCtorEq, Nat.reduceLT, Nat.reduceLeDiff, Nat.reduceEqDiff, Nat.reduceAdd, Nat.reduceMul, Nat.reduceSub, Nat.reduceBEq, Int.reduceLT, Int.reduceLE, Int.reduceEq, Int.reduceBEq, Int.reduceNeg]
    generalize hL : Lp.mk 28 _ _ _ _ _ = L
    refine vfor sitOk (ι := CuInv l u) (fun v => ⟨24, [(9, aI v.i), (8, aI l.length), (7, aD (recsD l)), (0, .cs false [.yld 545]), (1, aP 481 0), (2, aP 489 0)],
      [(545, some (.lp L)), (489, some (.var [cS u] true)), (481, some (.var [cS a, cD (recsD l)] true)), (8, some (.var [.own 400] true)), (400, some (.row 4 39 (rowO c) true)), (0, some (.var [cS a, cD (recsD l)] true))], 1000⟩) (fun v => l.length - v.i) ⟨0, by omega, by simp [atB]⟩ ?_ ?_
    · simp -dsimp -implicitDefEqProofs only [← hL, go_sem, ↓reduceIte, reduceCtorEq, Nat.reduceLT, Nat.reduceLeDiff, Nat.reduceEqDiff, Nat.reduceAdd, Nat.reduceMul, Nat.reduceSub, Nat.reduceBEq, Int.reduceLT, Int.reduceLE, Int.reduceEq, Int.reduceBEq, Int.reduceNeg]
    intro ⟨i, hi, hno⟩
    simp -dsimp -implicitDefEqProofs only [go_sem, ↓reduceIte, reduceCtorEq, Nat.reduceLT, Nat.reduceLeDiff, Nat.reduceEqDiff, Nat.reduceAdd, Nat.reduceMul, Nat.reduceSub, Nat.reduceBEq, Int.reduceLT, Int.reduceLE, Int.reduceEq, Int.reduceBEq, Int.reduceNeg]
    refine ⟨fun hlt => ?_, fun hge => ?_⟩
    · have hil : i < l.length := by omega
      obtain ⟨x, hx⟩ : ∃ x, l[i]? = some x := ⟨_, List.getElem?_eq_getElem hil⟩
      have hw := wrapS hil (by omega)
      simp -dsimp -implicitDefEqProofs only [hx, forall_eq', hw, go_sem, ↓reduceIte, reduceCtorEq, Nat.reduceLT, Nat.reduceLeDiff, Nat.reduceEqDiff, Nat.reduceAdd, Nat.reduceMul, Nat.reduceSub, Nat.reduceBEq, Int.reduceLT, Int.reduceLE, Int.reduceEq, Int.reduceBEq, Int.reduceNeg]
      refine ⟨by omega, hil, fun h => yieldW sitOk ?_, fun h => ?_⟩
      · simp -dsimp -implicitDefEqProofs only [← hL, go_sem, ↓reduceIte, reduceCtorEq, Nat.reduceLT, Nat.reduceLeDiff, Nat.reduceEqDiff, Nat.reduceAdd, Nat.reduceMul, Nat.reduceSub, Nat.reduceBEq, Int.reduceLT, Int.reduceLE, Int.reduceEq, Int.reduceBEq, Int.reduceNeg]
        intro ro
        refine ⟨fun h3 => ?_, fun h3 => ?_⟩
        · simp -dsimp -implicitDefEqProofs only [retH, ← hL, go_sem, ↓reduceIte, reduceCtorEq, Nat.reduceLT, Nat.reduceLeDiff, Nat.reduceEqDiff, Nat.reduceAdd, Nat.reduceMul, Nat.reduceSub, Nat.reduceBEq, Int.reduceLT, Int.reduceLE, Int.reduceEq, Int.reduceBEq, Int.reduceNeg]
          refine callP (up_ok u) ?_
          simp -dsimp -implicitDefEqProofs only [go_sem, ↓reduceIte, reduceCtorEq, Nat.reduceLT, Nat.reduceLeDiff, Nat.reduceEqDiff, Nat.reduceAdd, Nat.reduceMul, Nat.reduceSub, Nat.reduceBEq, Int.reduceLT, Int.reduceLE, Int.reduceEq, Int.reduceBEq, Int.reduceNeg]
          refine againO 400 8 0 ⟨upB u, some x, by rw [hst, firstNs_found hx h h3 hno]; rfl⟩ (upB_lt' h1) ?_
          simp -dsimp -implicitDefEqProofs only [rowO, go_sem, ↓reduceIte, reduceCtorEq, Nat.reduceLT, Nat.reduceLeDiff, Nat.reduceEqDiff, Nat.reduceAdd, Nat.reduceMul, Nat.reduceSub, Nat.reduceBEq, Int.reduceLT, Int.reduceLE, Int.reduceEq, Int.reduceBEq, Int.reduceNeg]
        · refine again ⟨i + 1, by omega, no_step hx hno fun _ => h3⟩ (by simp; omega) ?_
          simp -dsimp -implicitDefEqProofs only [← hL, hw, go_sem, ↓reduceIte, reduceCtorEq, Nat.reduceLT, Nat.reduceLeDiff, Nat.reduceEqDiff, Nat.reduceAdd, Nat.reduceMul, Nat.reduceSub, Nat.reduceBEq, Int.reduceLT, Int.reduceLE, Int.reduceEq, Int.reduceBEq, Int.reduceNeg]
      · refine again ⟨i + 1, by omega, no_step hx hno fun e => absurd e h⟩ (by simp; omega) ?_
        simp -dsimp -implicitDefEqProofs only [← hL, hw, go_sem, ↓reduceIte, reduceCtorEq, Nat.reduceLT, Nat.reduceLeDiff, Nat.reduceEqDiff, Nat.reduceAdd, Nat.reduceMul, Nat.reduceSub, Nat.reduceBEq, Int.reduceLT, Int.reduceLE, Int.reduceEq, Int.reduceBEq, Int.reduceNeg]
    · have hil : i = l.length := by omega
      subst hil
      rw [List.take_length] at hno
      rw [firstNs_none hno] at hst
      simp -dsimp -implicitDefEqProofs only [retH, ← hL, go_sem, ↓reduceIte, reduceCtorEq, Nat.reduceLT, Nat.reduceLeDiff, Nat.reduceEqDiff, Nat.reduceAdd, Nat.reduceMul, Nat.reduceSub, Nat.reduceBEq, Int.reduceLT, Int.reduceLE, Int.reduceEq, Int.reduceBEq, Int.reduceNeg]
      refine callP (up_ok u) ?_
      simp -dsimp -implicitDefEqProofs only [go_sem, ↓reduceIte, reduceCtorEq, Nat.reduceLT, Nat.reduceLeDiff, Nat.reduceEqDiff, Nat.reduceAdd, Nat.reduceMul, Nat.reduceSub, Nat.reduceBEq, Int.reduceLT, Int.reduceLE, Int.reduceEq, Int.reduceBEq, Int.reduceNeg]
      refine againO 400 8 0 ⟨upB u, c, by rw [hst]; rfl⟩ (upB_lt' h1) ?_
      simp -dsimp -implicitDefEqProofs only [go_sem, ↓reduceIte, reduceCtorEq, Nat.reduceLT, Nat.reduceLeDiff, Nat.reduceEqDiff, Nat.reduceAdd, Nat.reduceMul, Nat.reduceSub, Nat.reduceBEq, Int.reduceLT, Int.reduceLE, Int.reduceEq, Int.reduceBEq, Int.reduceNeg]
  · rw [hstop (.inr h2)]
  · rw [hstop (.inl h1)]
end Go.Proofs.YtfgejhlgenaniaaDoor
