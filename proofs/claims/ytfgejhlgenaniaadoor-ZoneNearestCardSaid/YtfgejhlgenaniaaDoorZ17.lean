/- The document's answer: of, cut, Recs, Same, Answers, Few. -/
import Derived.Test.YtfgejhlgenaniaaDoorZ16
namespace Go.Eng
/-- What a temporary holds, as data. -/
def St.dataT (st : St) (t : Nat) : Option St := match getE st.env t with
  | .cs false [x] => match avD (getO st.objs) x with
    | some d => some ⟨st.nt, (t, .cs false [.d d]) :: st.env, st.objs, st.next⟩
    | none => none
  | _ => none
theorem RelE.dataT {c : Base} {st st' : St} {t : Nat} {a : Act} {w : World} (hs : st.dataT t = some st') (h : RelE c st st.next a w) : RelE c st' st'.next a w := by
  unfold St.dataT at hs
  split at hs
  · rename_i x hcell
    split at hs
    · rename_i d hd
      cases hs
      obtain ⟨ρ, S, hr, hf⟩ := h
      have ht := hr.env t
      rw [hcell] at ht
      obtain ⟨y, hy, hA⟩ := ht
      cases hy
      refine ⟨ρ, S, { hr with env := fun n => ?_ }, hf⟩
      simp only [getE]
      split
      · rename_i en
        subst en
        exact ⟨_, rfl, avD_rep hr hd hA⟩
      · exact hr.env n
    · cases hs
  · cases hs
theorem vdataT {E : Sit} (t : Nat) {p : Code × (Exit → St → Prop)} {st st' : St} {h : Hold p} (hs : st.dataT t = some st') (hk : AWpH E st' h) : AWpH E st h :=
  awp_weak (fun _ _ _ _ => RelE.dataT hs) hk
end Go.Eng
namespace Go.Proofs.YtfgejhlgenaniaaDoor
open Go.Eng
set_option linter.unusedSimpArgs false
set_option maxRecDepth 10000

theorem rof_ok (a : Bs) (l : List Rec) (n : Bs) (k : Int) (hl : l.length ≤ 1000000) : Meets Tryd.prog 48 [zoneA a l, (false, [vS n]), (false, [vI k])] (rOne (vD (recsD (ofL l n k)))) := by
  refine meetsF Tryd.func48 rfl rfl Tryd.ntmps48 Tryd.results48 rfl ?_
  simp -dsimp -implicitDefEqProofs only [go_sem, ↓reduceIte, reduceCtorEq, Nat.reduceLT, Nat.reduceLeDiff, Nat.reduceEqDiff, Nat.reduceAdd, Nat.reduceMul, Nat.reduceSub, Nat.reduceBEq, Int.reduceLT, Int.reduceLE, Int.reduceEq, Int.reduceBEq, Int.reduceNeg]
  refine vforT sitOk 400 7 (ι := CwInv l) (fun v => ⟨44, [(8, aI v.i), (7, aO 400), (3, aP 0 0), (1, aS n), (2, aI k)], [(400, some (.row 4 39 ((ofL (l.take v.i) n k).map Rec.cells) true)), (0, some (.var [cS a, cD (recsD l)] true))], 401⟩) (fun v => l.length - v.i) ⟨0, by omega⟩ ?_ ?_
  · simp -dsimp -implicitDefEqProofs only [go_sem, ↓reduceIte, reduceCtorEq, Nat.reduceLT, Nat.reduceLeDiff, Nat.reduceEqDiff, Nat.reduceAdd, Nat.reduceMul, Nat.reduceSub, Nat.reduceBEq, Int.reduceLT, Int.reduceLE, Int.reduceEq, Int.reduceBEq, Int.reduceNeg]
    simp [ofL, atB]
  intro ⟨i, hi⟩
  have hall := ofL_len (l.take i) n k
  have htl : (l.take i).length ≤ l.length := by simp; omega
  simp -dsimp -implicitDefEqProofs only [go_sem, ↓reduceIte, reduceCtorEq, Nat.reduceLT, Nat.reduceLeDiff, Nat.reduceEqDiff, Nat.reduceAdd, Nat.reduceMul, Nat.reduceSub, Nat.reduceBEq, Int.reduceLT, Int.reduceLE, Int.reduceEq, Int.reduceBEq, Int.reduceNeg]
  refine ⟨fun hlt => ?_, fun hge => ?_⟩
  · have hil : i < l.length := by omega
    obtain ⟨x, hx⟩ : ∃ x, l[i]? = some x := ⟨_, List.getElem?_eq_getElem hil⟩
    have hst := ofL_step n k hx
    have hw := wrapS hil (by omega)
    simp -dsimp -implicitDefEqProofs only [hx, forall_eq', hw, go_sem, ↓reduceIte, reduceCtorEq, Nat.reduceLT, Nat.reduceLeDiff, Nat.reduceEqDiff, Nat.reduceAdd, Nat.reduceMul, Nat.reduceSub, Nat.reduceBEq, Int.reduceLT, Int.reduceLE, Int.reduceEq, Int.reduceBEq, Int.reduceNeg]
    repeat' (first | with_reducible apply And.intro | with_reducible intro _ | with_reducible exact drawn (by kernel_rfl) | omega)
    · rename_i h1 h2
      rw [if_pos ⟨h1, h2⟩] at hst
      refine againT 400 7 ⟨i + 1, by omega⟩ (by simp; omega) ?_
      simp -dsimp -implicitDefEqProofs only [hw, hst, List.map_append, List.map_cons, List.map_nil, go_sem, ↓reduceIte, reduceCtorEq, Nat.reduceLT, Nat.reduceLeDiff, Nat.reduceEqDiff, Nat.reduceAdd, Nat.reduceMul, Nat.reduceSub, Nat.reduceBEq, Int.reduceLT, Int.reduceLE, Int.reduceEq, Int.reduceBEq, Int.reduceNeg]
    · rename_i h1 h2
      rw [if_neg (fun e => h2 e.2), List.append_nil] at hst
      refine againT 400 7 ⟨i + 1, by omega⟩ (by simp; omega) ?_
      simp -dsimp -implicitDefEqProofs only [hw, hst, go_sem, ↓reduceIte, reduceCtorEq, Nat.reduceLT, Nat.reduceLeDiff, Nat.reduceEqDiff, Nat.reduceAdd, Nat.reduceMul, Nat.reduceSub, Nat.reduceBEq, Int.reduceLT, Int.reduceLE, Int.reduceEq, Int.reduceBEq, Int.reduceNeg]
    · rename_i h1
      rw [if_neg (fun e => h1 e.1), List.append_nil] at hst
      refine againT 400 7 ⟨i + 1, by omega⟩ (by simp; omega) ?_
      simp -dsimp -implicitDefEqProofs only [hw, hst, go_sem, ↓reduceIte, reduceCtorEq, Nat.reduceLT, Nat.reduceLeDiff, Nat.reduceEqDiff, Nat.reduceAdd, Nat.reduceMul, Nat.reduceSub, Nat.reduceBEq, Int.reduceLT, Int.reduceLE, Int.reduceEq, Int.reduceBEq, Int.reduceNeg]
  · have hil : i = l.length := by omega
    subst hil
    rw [List.take_length] at *
    refine retF [400] ?_
    simp -dsimp -implicitDefEqProofs only [go_sem, ↓reduceIte, reduceCtorEq, Nat.reduceLT, Nat.reduceLeDiff, Nat.reduceEqDiff, Nat.reduceAdd, Nat.reduceMul, Nat.reduceSub, Nat.reduceBEq, Int.reduceLT, Int.reduceLE, Int.reduceEq, Int.reduceBEq, Int.reduceNeg]

theorem firstNs_of (l : List Rec) (n : Bs) : firstNs l n = (ofL l n 3).head? := by
  unfold firstNs ofL
  rw [List.head?_filter]
theorem rcut_ok' (a : Bs) (l : List Rec) (s : Bs) (hl : l.length ≤ 1000000) : Meets Tryd.prog 47 [zoneA a l, (false, [vS s])] (rOne (vD (.vec 4 (rowO (cutV a l s none))))) := by
  refine meets Tryd.func47 rfl rfl Tryd.ntmps47 Tryd.results47 rfl ?_
  simp -dsimp -implicitDefEqProofs only [go_sem, ↓reduceIte, reduceCtorEq, Nat.reduceLT, Nat.reduceLeDiff, Nat.reduceEqDiff, Nat.reduceAdd, Nat.reduceMul, Nat.reduceSub, Nat.reduceBEq, Int.reduceLT, Int.reduceLE, Int.reduceEq, Int.reduceBEq, Int.reduceNeg]
  refine vfreeze 16 rfl ?_
  simp -dsimp -implicitDefEqProofs only [go_sem, ↓reduceIte, reduceCtorEq, Nat.reduceLT, Nat.reduceLeDiff, Nat.reduceEqDiff, Nat.reduceAdd, Nat.reduceMul, Nat.reduceSub, Nat.reduceBEq, Int.reduceLT, Int.reduceLE, Int.reduceEq, Int.reduceBEq, Int.reduceNeg]
  refine vdataT 5 rfl ?_
  simp -dsimp -implicitDefEqProofs only [go_sem, ↓reduceIte, reduceCtorEq, Nat.reduceLT, Nat.reduceLeDiff, Nat.reduceEqDiff, Nat.reduceAdd, Nat.reduceMul, Nat.reduceSub, Nat.reduceBEq, Int.reduceLT, Int.reduceLE, Int.reduceEq, Int.reduceBEq, Int.reduceNeg]
  refine vfor sitOk (ι := CtInv a l s) (fun v => ⟨29, [(6, aS v.u), (5, aD (.vec 4 (rowO v.c))), (2, aP 0 0)], [(0, some (.var [cS a, cD (recsD l)] true))], 100⟩) (fun v => v.u.length) ⟨s, none, rfl⟩ ?_ ?_
  · simp -dsimp -implicitDefEqProofs only [rowO, go_sem, ↓reduceIte, reduceCtorEq, Nat.reduceLT, Nat.reduceLeDiff, Nat.reduceEqDiff, Nat.reduceAdd, Nat.reduceMul, Nat.reduceSub, Nat.reduceBEq, Int.reduceLT, Int.reduceLE, Int.reduceEq, Int.reduceBEq, Int.reduceNeg]
  intro ⟨u, c, he⟩
  simp -dsimp -implicitDefEqProofs only [go_sem, ↓reduceIte, reduceCtorEq, Nat.reduceLT, Nat.reduceLeDiff, Nat.reduceEqDiff, Nat.reduceAdd, Nat.reduceMul, Nat.reduceSub, Nat.reduceBEq, Int.reduceLT, Int.reduceLE, Int.reduceEq, Int.reduceBEq, Int.reduceNeg]
  have hstop : (u = [] ∨ u = a) → cutV a l s none = c := fun h => by
    rw [he, cutV_eq]
    rcases h with h | h
    · rw [if_pos h]
    · rw [if_pos h]; split <;> rfl
  have hstep : ¬ u = [] → ¬ u = a → cutV a l s none = cutV a l (upB u) (orO (firstNs l u) c) := fun h1 h2 => by
    rw [he, cutV_eq, if_neg h1, if_neg h2]
  refine ⟨fun h1 => ⟨fun h2 => ?_, fun h2 => ?_⟩, fun h1 => ?_⟩
  · have hst := hstep h1 h2
    rw [firstNs_of] at hst
    refine callP (rof_ok a l u 3 hl) ?_
    cases hg : ofL l u 3 with
    | nil =>
      rw [hg] at hst
      simp -dsimp -implicitDefEqProofs only [go_sem, ↓reduceIte, reduceCtorEq, Nat.reduceLT, Nat.reduceLeDiff, Nat.reduceEqDiff, Nat.reduceAdd, Nat.reduceMul, Nat.reduceSub, Nat.reduceBEq, Int.reduceLT, Int.reduceLE, Int.reduceEq, Int.reduceBEq, Int.reduceNeg]
      refine callP (rup_ok u) ?_
      simp -dsimp -implicitDefEqProofs only [go_sem, ↓reduceIte, reduceCtorEq, Nat.reduceLT, Nat.reduceLeDiff, Nat.reduceEqDiff, Nat.reduceAdd, Nat.reduceMul, Nat.reduceSub, Nat.reduceBEq, Int.reduceLT, Int.reduceLE, Int.reduceEq, Int.reduceBEq, Int.reduceNeg]
      refine again ⟨upB u, c, hst⟩ (upB_lt' h1) ?_
      simp -dsimp -implicitDefEqProofs only [go_sem, ↓reduceIte, reduceCtorEq, Nat.reduceLT, Nat.reduceLeDiff, Nat.reduceEqDiff, Nat.reduceAdd, Nat.reduceMul, Nat.reduceSub, Nat.reduceBEq, Int.reduceLT, Int.reduceLE, Int.reduceEq, Int.reduceBEq, Int.reduceNeg]
    | cons x r =>
      rw [hg] at hst
      have hlen : (0 : Int) < ((r.length + 1 : Nat) : Int) := by omega
      have t1 : Int.toNat 1 = 1 := rfl
      simp -dsimp -implicitDefEqProofs only [hlen, t1, go_sem, ↓reduceIte, reduceCtorEq, Nat.reduceLT, Nat.reduceLeDiff, Nat.reduceEqDiff, Nat.reduceAdd, Nat.reduceMul, Nat.reduceSub, Nat.reduceBEq, Int.reduceLT, Int.reduceLE, Int.reduceEq, Int.reduceBEq, Int.reduceNeg]
      refine ⟨by omega, callP (rup_ok u) ?_⟩
      simp -dsimp -implicitDefEqProofs only [t1, go_sem, ↓reduceIte, reduceCtorEq, Nat.reduceLT, Nat.reduceLeDiff, Nat.reduceEqDiff, Nat.reduceAdd, Nat.reduceMul, Nat.reduceSub, Nat.reduceBEq, Int.reduceLT, Int.reduceLE, Int.reduceEq, Int.reduceBEq, Int.reduceNeg]
      refine again ⟨upB u, some x, hst⟩ (upB_lt' h1) ?_
      simp -dsimp -implicitDefEqProofs only [rowO, go_sem, ↓reduceIte, reduceCtorEq, Nat.reduceLT, Nat.reduceLeDiff, Nat.reduceEqDiff, Nat.reduceAdd, Nat.reduceMul, Nat.reduceSub, Nat.reduceBEq, Int.reduceLT, Int.reduceLE, Int.reduceEq, Int.reduceBEq, Int.reduceNeg]
  · rw [hstop (.inr h2)]
  · rw [hstop (.inl h1)]

structure ReInv (l m : List Rec) where
  i : Nat
  le : i ≤ l.length
  ok : l.take i = m.take i
theorem rrecs_ok (l m : List Rec) (hl : l.length ≤ 1000000) : Meets Tryd.prog 49 [(false, [vD (recsD l)]), (false, [vD (recsD m)])] (rOne (vB (decide (l = m)))) := by
  by_cases hlen : l.length = m.length
  · have hli : (l.length : Int) = (m.length : Int) := by omega
    refine meets Tryd.func49 rfl rfl Tryd.ntmps49 Tryd.results49 rfl ?_
    simp -dsimp -implicitDefEqProofs only [hli, go_sem, ↓reduceIte, reduceCtorEq, Nat.reduceLT, Nat.reduceLeDiff, Nat.reduceEqDiff, Nat.reduceAdd, Nat.reduceMul, Nat.reduceSub, Nat.reduceBEq, Int.reduceLT, Int.reduceLE, Int.reduceEq, Int.reduceBEq, Int.reduceNeg]
    refine vfor sitOk (ι := ReInv l m) (fun v => ⟨26, [(5, aI v.i), (0, aD (recsD l)), (1, aD (recsD m))], [], 56⟩) (fun v => l.length - v.i) ⟨0, by omega, by simp⟩ ?_ ?_
    · simp -dsimp -implicitDefEqProofs only [go_sem, ↓reduceIte, reduceCtorEq, Nat.reduceLT, Nat.reduceLeDiff, Nat.reduceEqDiff, Nat.reduceAdd, Nat.reduceMul, Nat.reduceSub, Nat.reduceBEq, Int.reduceLT, Int.reduceLE, Int.reduceEq, Int.reduceBEq, Int.reduceNeg]
    intro ⟨i, hi, hok⟩
    simp -dsimp -implicitDefEqProofs only [go_sem, ↓reduceIte, reduceCtorEq, Nat.reduceLT, Nat.reduceLeDiff, Nat.reduceEqDiff, Nat.reduceAdd, Nat.reduceMul, Nat.reduceSub, Nat.reduceBEq, Int.reduceLT, Int.reduceLE, Int.reduceEq, Int.reduceBEq, Int.reduceNeg]
    refine ⟨fun hlt => ?_, fun hge => ?_⟩
    · have hil : i < l.length := by omega
      have him : i < m.length := by omega
      obtain ⟨x, hx⟩ : ∃ x, l[i]? = some x := ⟨_, List.getElem?_eq_getElem hil⟩
      obtain ⟨y, hy⟩ : ∃ y, m[i]? = some y := ⟨_, List.getElem?_eq_getElem him⟩
      have hw := wrapS hil (by omega)
      have hbad : ¬ x = y → false = decide (l = m) := fun h => (decide_eq_false fun e => h (by rw [e, hy] at hx; cases hx; rfl)).symm
      have hgood : x = y → l.take (i + 1) = m.take (i + 1) := fun e => by rw [List.take_add_one, List.take_add_one, hok, hx, hy, e]
      simp -dsimp -implicitDefEqProofs only [hx, hy, forall_eq', hw, go_sem, ↓reduceIte, reduceCtorEq, Nat.reduceLT, Nat.reduceLeDiff, Nat.reduceEqDiff, Nat.reduceAdd, Nat.reduceMul, Nat.reduceSub, Nat.reduceBEq, Int.reduceLT, Int.reduceLE, Int.reduceEq, Int.reduceBEq, Int.reduceNeg]
      repeat' (first | with_reducible apply And.intro | with_reducible intro _ | with_reducible exact drawn (by kernel_rfl) | omega)
      · rename_i h
        exact hbad fun e => by subst e; exact h rfl rfl rfl rfl
      · rename_i h
        have e : x = y := by cases x; cases y; simp at h; obtain ⟨h1, h2, h3, h4⟩ := h; subst h1; subst h2; subst h3; subst h4; rfl
        refine again ⟨i + 1, by omega, hgood e⟩ (by simp; omega) ?_
        simp -dsimp -implicitDefEqProofs only [hw, go_sem, ↓reduceIte, reduceCtorEq, Nat.reduceLT, Nat.reduceLeDiff, Nat.reduceEqDiff, Nat.reduceAdd, Nat.reduceMul, Nat.reduceSub, Nat.reduceBEq, Int.reduceLT, Int.reduceLE, Int.reduceEq, Int.reduceBEq, Int.reduceNeg]
    · have hil : i = l.length := by omega
      subst hil
      rw [List.take_length] at hok
      have : l = m := by rw [hok, hlen, List.take_length]
      exact (decide_eq_true this).symm
  · have hli : ¬ (l.length : Int) = (m.length : Int) := by omega
    have : decide (l = m) = false := decide_eq_false fun h => hlen (by rw [h])
    rw [this]
    refine meets Tryd.func49 rfl rfl Tryd.ntmps49 Tryd.results49 rfl ?_
    simp -dsimp -implicitDefEqProofs only [hli, go_sem, ↓reduceIte, reduceCtorEq, Nat.reduceLT, Nat.reduceLeDiff, Nat.reduceEqDiff, Nat.reduceAdd, Nat.reduceMul, Nat.reduceSub, Nat.reduceBEq, Int.reduceLT, Int.reduceLE, Int.reduceEq, Int.reduceBEq, Int.reduceNeg]
theorem rsame_ok (a b : Bs) (l m : List Rec) (hl : l.length ≤ 1000000) : Meets Tryd.prog 23 [zoneA a l, zoneA b m] (rOne (vB (decide (a = b ∧ l = m)))) := by
  refine meets Tryd.func23 rfl rfl Tryd.ntmps23 Tryd.results23 rfl ?_
  simp -dsimp -implicitDefEqProofs only [go_sem, ↓reduceIte, reduceCtorEq, Nat.reduceLT, Nat.reduceLeDiff, Nat.reduceEqDiff, Nat.reduceAdd, Nat.reduceMul, Nat.reduceSub, Nat.reduceBEq, Int.reduceLT, Int.reduceLE, Int.reduceEq, Int.reduceBEq, Int.reduceNeg]
  refine ⟨fun h => callP (rrecs_ok l m hl) ?_, fun h => ?_⟩
  · simp -dsimp -implicitDefEqProofs only [go_sem, ↓reduceIte, reduceCtorEq, Nat.reduceLT, Nat.reduceLeDiff, Nat.reduceEqDiff, Nat.reduceAdd, Nat.reduceMul, Nat.reduceSub, Nat.reduceBEq, Int.reduceLT, Int.reduceLE, Int.reduceEq, Int.reduceBEq, Int.reduceNeg]
    simp [h]
  · simp [h]
theorem ranswers_ok (x y : An) (hl : x.R.length ≤ 1000000) : Meets Tryd.prog 16 [(true, [vI x.K, vD (recsD x.R), vI x.T, vS x.A]), (true, [vI y.K, vD (recsD y.R), vI y.T, vS y.A])] (rOne (vB (decide (x = y)))) := by
  have he : (x = y) = (x.K = y.K ∧ x.R = y.R ∧ x.T = y.T ∧ x.A = y.A) := by
    rw [eq_iff_iff]; cases x; cases y; simp
  refine meets Tryd.func16 rfl rfl Tryd.ntmps16 Tryd.results16 rfl ?_
  simp -dsimp -implicitDefEqProofs only [go_sem, ↓reduceIte, reduceCtorEq, Nat.reduceLT, Nat.reduceLeDiff, Nat.reduceEqDiff, Nat.reduceAdd, Nat.reduceMul, Nat.reduceSub, Nat.reduceBEq, Int.reduceLT, Int.reduceLE, Int.reduceEq, Int.reduceBEq, Int.reduceNeg]
  repeat' (first | with_reducible apply And.intro | with_reducible intro _ | with_reducible exact drawn (by kernel_rfl) | (refine callP (rrecs_ok _ _ hl) ?_; simp -dsimp -implicitDefEqProofs only [go_sem, ↓reduceIte, reduceCtorEq, Nat.reduceLT, Nat.reduceLeDiff, Nat.reduceEqDiff, Nat.reduceAdd, Nat.reduceMul, Nat.reduceSub, Nat.reduceBEq, Int.reduceLT, Int.reduceLE, Int.reduceEq, Int.reduceBEq, Int.reduceNeg]) | omega)
  all_goals (simp [he, *]; try (rw [Bool.eq_iff_iff]; simp))
theorem rfew_ok (a : Bs) (l : List Rec) : Meets Tryd.prog 34 [zoneA a l] (rOne (vB (decide (l.length ≤ 70 ∧ a.length ≤ 200)))) := by
  refine meets Tryd.func34 rfl rfl Tryd.ntmps34 Tryd.results34 rfl ?_
  simp -dsimp -implicitDefEqProofs only [go_sem, ↓reduceIte, reduceCtorEq, Nat.reduceLT, Nat.reduceLeDiff, Nat.reduceEqDiff, Nat.reduceAdd, Nat.reduceMul, Nat.reduceSub, Nat.reduceBEq, Int.reduceLT, Int.reduceLE, Int.reduceEq, Int.reduceBEq, Int.reduceNeg]
  repeat' (first | with_reducible apply And.intro | with_reducible intro _ | with_reducible exact drawn (by kernel_rfl) | omega)
  · rw [decide_eq_decide]; omega
  · rw [decide_eq_false (by omega)]
theorem few_ok (a : Bs) (l : List Rec) : Meets Tryd.prog 13 [zoneA a l] (rOne (vB (decide (l.length ≤ 70 ∧ a.length ≤ 200)))) := by
  refine meets Tryd.func13 rfl rfl Tryd.ntmps13 Tryd.results13 rfl ?_
  simp -dsimp -implicitDefEqProofs only [go_sem, ↓reduceIte, reduceCtorEq, Nat.reduceLT, Nat.reduceLeDiff, Nat.reduceEqDiff, Nat.reduceAdd, Nat.reduceMul, Nat.reduceSub, Nat.reduceBEq, Int.reduceLT, Int.reduceLE, Int.reduceEq, Int.reduceBEq, Int.reduceNeg]
  refine callP (rfew_ok a l) ?_
  simp -dsimp -implicitDefEqProofs only [go_sem, ↓reduceIte, reduceCtorEq, Nat.reduceLT, Nat.reduceLeDiff, Nat.reduceEqDiff, Nat.reduceAdd, Nat.reduceMul, Nat.reduceSub, Nat.reduceBEq, Int.reduceLT, Int.reduceLE, Int.reduceEq, Int.reduceBEq, Int.reduceNeg]
end Go.Proofs.YtfgejhlgenaniaaDoor
