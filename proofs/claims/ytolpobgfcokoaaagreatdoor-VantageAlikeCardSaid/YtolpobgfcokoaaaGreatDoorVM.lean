
/- At, Votes, whether records have a value. Caa. The document's answer: Caa, vote. -/
import Derived.Test.YtolpobgfcokoaaaGreatDoorNL
open Nat renaming reduceLT → rn1, reduceLeDiff → rn2, reduceEqDiff → rn3, reduceAdd → rn4, reduceMul → rn5, reduceSub → rn6, reduceBEq → rn7
open Int renaming reduceLT → ri1, reduceLE → ri2, reduceEq → ri3, reduceBEq → ri4, reduceNeg → ri5
namespace Go.Proofs.YtolpobgfcokoaaaGreatDoor
open Go.Eng
set_option linter.unusedSimpArgs false
set_option maxRecDepth 10000

theorem at23_ok (name : Bs) (h : name.length ≤ 1000000) : Meets Tryz.prog 21 [(false, [vS name])] (rOne (vS (atN name))) := by
  have h1 : 6 + name.length ≤ 9223372036854775807 := by omega
  refine meets Tryz.func21 rfl rfl Tryz.ntmps21 Tryz.results21 rfl ?_
  simp -dsimp -implicitDefEqProofs only [go_sem, ↓reduceIte, reduceCtorEq, rn1, rn2, rn3, rn4, rn5, rn6, rn7, ri1, ri2, ri3, ri4, ri5]
  unfold atN
  simp -dsimp -implicitDefEqProofs only [h1, List.length_cons, List.length_nil, go_sem, ↓reduceIte, reduceCtorEq, rn1, rn2, rn3, rn4, rn5, rn6, rn7, ri1, ri2, ri3, ri4, ri5]
theorem rat23_ok (name : Bs) (h : name.length ≤ 1000000) : Meets Tryz.prog 22 [(false, [vS name])] (rOne (vS (atN name))) := by
  have h1 : 6 + name.length ≤ 9223372036854775807 := by omega
  refine meets Tryz.func22 rfl rfl Tryz.ntmps22 Tryz.results22 rfl ?_
  simp -dsimp -implicitDefEqProofs only [go_sem, ↓reduceIte, reduceCtorEq, rn1, rn2, rn3, rn4, rn5, rn6, rn7, ri1, ri2, ri3, ri4, ri5]
  unfold atN
  simp -dsimp -implicitDefEqProofs only [h1, List.length_cons, List.length_nil, go_sem, ↓reduceIte, reduceCtorEq, rn1, rn2, rn3, rn4, rn5, rn6, rn7, ri1, ri2, ri3, ri4, ri5]
/-- What was seen: Name, At, Votes. -/
structure Sn where
  N : Bs
  A : Int
  V : List Bool
def rowB (b : Bool) : List D := [dB b]
attribute [go_sem] rowB
abbrev bsD (l : List Bool) : D := .vec 1 (l.map rowB)
abbrev Sn.arg (s : Sn) : Bool × List CV := (true, [vS s.N, vI s.A, vD (bsD s.V)])
structure VtInv (l : List Bool) where
  i : Nat
  le : i ≤ l.length
theorem votesN_step {l : List Bool} {i : Nat} {b : Bool} (h : l[i]? = some b) : votesN (l.take (i + 1)) = votesN (l.take i) + if b then 1 else 0 := by
  rw [List.take_add_one, h]
  exact votesN_snoc _ _
theorem votesN_le (l : List Bool) (i : Nat) : 0 ≤ votesN (l.take i) ∧ votesN (l.take i) ≤ (i : Int) := by
  unfold votesN
  have h1 := List.length_filter_le id (l.take i)
  have h2 : (l.take i).length ≤ i := by simp; omega
  omega
theorem votes23_ok (s : Sn) (hl : s.V.length ≤ 9223372036854775807) : Meets Tryz.prog 23 [s.arg] (rOne (vI (votesN s.V))) := by
  refine meets Tryz.func23 rfl rfl Tryz.ntmps23 Tryz.results23 rfl ?_
  simp -dsimp -implicitDefEqProofs only [go_sem, ↓reduceIte, reduceCtorEq, rn1, rn2, rn3, rn4, rn5, rn6, rn7, ri1, ri2, ri3, ri4, ri5]
  refine vfor sitOk (ι := VtInv s.V) (fun v => ⟨17, [(8, aI v.i), (7, aI s.V.length), (6, aD (bsD s.V)), (2, aI (votesN (s.V.take v.i)))], [(0, some (.var [cS s.N, cI s.A, cD (bsD s.V)] true))], 100⟩) (fun v => s.V.length - v.i) ⟨0, by omega⟩ ?_ ?_
  · simp -dsimp -implicitDefEqProofs only [go_sem, ↓reduceIte, reduceCtorEq, rn1, rn2, rn3, rn4, rn5, rn6, rn7, ri1, ri2, ri3, ri4, ri5]
    rfl
  intro ⟨i, hi⟩
  simp -dsimp -implicitDefEqProofs only [go_sem, ↓reduceIte, reduceCtorEq, rn1, rn2, rn3, rn4, rn5, rn6, rn7, ri1, ri2, ri3, ri4, ri5]
  refine ⟨fun hlt => ?_, fun hge => ?_⟩
  · have hil : i < s.V.length := by omega
    obtain ⟨x, hx⟩ : ∃ x, s.V[i]? = some x := ⟨_, List.getElem?_eq_getElem hil⟩
    have hw : IntKind.i64.wrap ((i : Int) + 1) = ((i + 1 : Nat) : Int) := by rw [wrap64] <;> omega
    have hst := votesN_step hx
    have hle := votesN_le s.V i
    have hw2 : IntKind.i64.wrap (votesN (s.V.take i) + 1) = votesN (s.V.take i) + 1 := by rw [wrap64] <;> omega
    simp -dsimp -implicitDefEqProofs only [hx, forall_eq', hw, go_sem, ↓reduceIte, reduceCtorEq, rn1, rn2, rn3, rn4, rn5, rn6, rn7, ri1, ri2, ri3, ri4, ri5]
    refine ⟨by omega, hil, ?_⟩
    cases x with
    | true =>
      simp -dsimp -implicitDefEqProofs only [hw, hw2, go_sem, ↓reduceIte, reduceCtorEq, rn1, rn2, rn3, rn4, rn5, rn6, rn7, ri1, ri2, ri3, ri4, ri5]
      refine again ⟨i + 1, by omega⟩ (by simp; omega) ?_
      simp -dsimp -implicitDefEqProofs only [hw, hw2, hst, go_sem, ↓reduceIte, reduceCtorEq, rn1, rn2, rn3, rn4, rn5, rn6, rn7, ri1, ri2, ri3, ri4, ri5]
    | false =>
      simp -dsimp -implicitDefEqProofs only [hw, hw2, go_sem, ↓reduceIte, reduceCtorEq, rn1, rn2, rn3, rn4, rn5, rn6, rn7, ri1, ri2, ri3, ri4, ri5]
      refine again ⟨i + 1, by omega⟩ (by simp; omega) ?_
      simp -dsimp -implicitDefEqProofs only [hw, hw2, hst, go_sem, ↓reduceIte, reduceCtorEq, rn1, rn2, rn3, rn4, rn5, rn6, rn7, ri1, ri2, ri3, ri4, ri5]
      omega
  · have hil : i = s.V.length := by omega
    subst hil
    rw [List.take_length]
theorem rvotes23_ok (s : Sn) (hl : s.V.length ≤ 9223372036854775807) : Meets Tryz.prog 24 [s.arg] (rOne (vI (votesN s.V))) := by
  refine meets Tryz.func24 rfl rfl Tryz.ntmps24 Tryz.results24 rfl ?_
  simp -dsimp -implicitDefEqProofs only [go_sem, ↓reduceIte, reduceCtorEq, rn1, rn2, rn3, rn4, rn5, rn6, rn7, ri1, ri2, ri3, ri4, ri5]
  refine vfor sitOk (ι := VtInv s.V) (fun v => ⟨20, [(4, aI v.i), (3, aI (votesN (s.V.take v.i))), (1, aP 0 0)], [(0, some (.var [cS s.N, cI s.A, cD (bsD s.V)] true))], 100⟩) (fun v => s.V.length - v.i) ⟨0, by omega⟩ ?_ ?_
  · simp -dsimp -implicitDefEqProofs only [go_sem, ↓reduceIte, reduceCtorEq, rn1, rn2, rn3, rn4, rn5, rn6, rn7, ri1, ri2, ri3, ri4, ri5]
    rfl
  intro ⟨i, hi⟩
  simp -dsimp -implicitDefEqProofs only [go_sem, ↓reduceIte, reduceCtorEq, rn1, rn2, rn3, rn4, rn5, rn6, rn7, ri1, ri2, ri3, ri4, ri5]
  refine ⟨fun hlt => ?_, fun hge => ?_⟩
  · have hil : i < s.V.length := by omega
    obtain ⟨x, hx⟩ : ∃ x, s.V[i]? = some x := ⟨_, List.getElem?_eq_getElem hil⟩
    have hw : IntKind.i64.wrap ((i : Int) + 1) = ((i + 1 : Nat) : Int) := by rw [wrap64] <;> omega
    have hst := votesN_step hx
    have hle := votesN_le s.V i
    have hw2 : IntKind.i64.wrap (votesN (s.V.take i) + 1) = votesN (s.V.take i) + 1 := by rw [wrap64] <;> omega
    simp -dsimp -implicitDefEqProofs only [hx, forall_eq', hw, go_sem, ↓reduceIte, reduceCtorEq, rn1, rn2, rn3, rn4, rn5, rn6, rn7, ri1, ri2, ri3, ri4, ri5]
    refine ⟨by omega, hil, ?_⟩
    cases x with
    | true =>
      simp -dsimp -implicitDefEqProofs only [hw, hw2, go_sem, ↓reduceIte, reduceCtorEq, rn1, rn2, rn3, rn4, rn5, rn6, rn7, ri1, ri2, ri3, ri4, ri5]
      refine again ⟨i + 1, by omega⟩ (by simp; omega) ?_
      simp -dsimp -implicitDefEqProofs only [hw, hw2, hst, go_sem, ↓reduceIte, reduceCtorEq, rn1, rn2, rn3, rn4, rn5, rn6, rn7, ri1, ri2, ri3, ri4, ri5]
    | false =>
      simp -dsimp -implicitDefEqProofs only [hw, hw2, go_sem, ↓reduceIte, reduceCtorEq, rn1, rn2, rn3, rn4, rn5, rn6, rn7, ri1, ri2, ri3, ri4, ri5]
      refine again ⟨i + 1, by omega⟩ (by simp; omega) ?_
      simp -dsimp -implicitDefEqProofs only [hw, hw2, hst, go_sem, ↓reduceIte, reduceCtorEq, rn1, rn2, rn3, rn4, rn5, rn6, rn7, ri1, ri2, ri3, ri4, ri5]
      omega
  · have hil : i = s.V.length := by omega
    subst hil
    rw [List.take_length]
structure HsInv (l : List Rec) (v : Bs) where
  i : Nat
  le : i ≤ l.length
  no : ∀ j x, j < i → l[j]? = some x → (x.V == v) = false
theorem has_none {l : List Rec} {v : Bs} (h : ∀ j x, j < l.length → l[j]? = some x → (x.V == v) = false) : hasB l v = false := by
  unfold hasB
  rw [List.any_eq_false]
  intro x hx
  obtain ⟨j, hj⟩ := List.mem_iff_getElem?.1 hx
  rw [h j x (List.getElem?_eq_some_iff.1 hj).1 hj]
  simp
theorem has_some {l : List Rec} {v : Bs} {i : Nat} {x : Rec} (hx : l[i]? = some x) (h : (x.V == v) = true) : hasB l v = true := List.any_eq_true.2 ⟨x, List.mem_of_getElem? hx, h⟩
theorem has_go {l : List Rec} {v : Bs} {i : Nat} {x : Rec} (hx : l[i]? = some x) (h : (x.V == v) = false) (hno : ∀ j x, j < i → l[j]? = some x → (x.V == v) = false) : ∀ j x, j < i + 1 → l[j]? = some x → (x.V == v) = false := fun j y hj hy => by
  by_cases hji : j = i
  · subst hji; rw [hx] at hy; cases hy; exact h
  · exact hno j y (by omega) hy
theorem is23_ok (r : Rec) (v : Bs) : Meets Tryz.prog 115 [r.arg, (false, [vD (.pt [dT v])])] (rOne (vB (r.V == v))) := by
  refine meets Tryz.func115 rfl rfl Tryz.ntmps115 Tryz.results115 rfl ?_
  simp -dsimp -implicitDefEqProofs only [go_sem, ↓reduceIte, reduceCtorEq, rn1, rn2, rn3, rn4, rn5, rn6, rn7, ri1, ri2, ri3, ri4, ri5]
theorem cont23_ok (l : List Rec) (hl : l.length ≤ 1000000) (v : Bs) : Meets Tryz.prog 74 [(false, [vD (recsD l)]), (false, [vD (.fn 115 [.pt [dT v]])])] (rOne (vB (hasB l v))) := by
  refine meets Tryz.func74 rfl rfl Tryz.ntmps74 Tryz.results74 rfl ?_
  simp -dsimp -implicitDefEqProofs only [go_sem, ↓reduceIte, reduceCtorEq, rn1, rn2, rn3, rn4, rn5, rn6, rn7, ri1, ri2, ri3, ri4, ri5]
  refine callW rfl Tryz.func114 rfl rfl Tryz.ntmps114 Tryz.results114 rfl ?_
  simp -dsimp -implicitDefEqProofs only [retH, go_sem, ↓reduceIte, reduceCtorEq, rn1, rn2, rn3, rn4, rn5, rn6, rn7, ri1, ri2, ri3, ri4, ri5]
  refine vfor sitOk (ι := HsInv l v) (fun w => ⟨19, [(8, aI w.i), (7, aI l.length), (6, aD (recsD l)), (0, aD (recsD l)), (1, aD (.fn 115 [.pt [dT v]]))], [], 400⟩) (fun w => l.length - w.i) ⟨0, by omega, fun j x hj => by omega⟩ ?_ ?_
  · simp -dsimp -implicitDefEqProofs only [go_sem, ↓reduceIte, reduceCtorEq, rn1, rn2, rn3, rn4, rn5, rn6, rn7, ri1, ri2, ri3, ri4, ri5]
  intro ⟨i, hi, hno⟩
  simp -dsimp -implicitDefEqProofs only [go_sem, ↓reduceIte, reduceCtorEq, rn1, rn2, rn3, rn4, rn5, rn6, rn7, ri1, ri2, ri3, ri4, ri5]
  refine ⟨fun hlt => ?_, fun hge => ?_⟩
  · have hil : i < l.length := by omega
    obtain ⟨x, hx⟩ : ∃ x, l[i]? = some x := ⟨_, List.getElem?_eq_getElem hil⟩
    have hw := wrapS hil (by omega)
    simp -dsimp -implicitDefEqProofs only [hx, forall_eq', hw, go_sem, ↓reduceIte, reduceCtorEq, rn1, rn2, rn3, rn4, rn5, rn6, rn7, ri1, ri2, ri3, ri4, ri5]
    refine ⟨by omega, hil, callP (is23_ok x v) ?_⟩
    cases hc : x.V == v with
    | true =>
      have hb := has_some hx hc
      rw [hb]
      simp -dsimp -implicitDefEqProofs only [retH, hc, go_sem, ↓reduceIte, reduceCtorEq, rn1, rn2, rn3, rn4, rn5, rn6, rn7, ri1, ri2, ri3, ri4, ri5]
      omega
    | false =>
      simp -dsimp -implicitDefEqProofs only [hc, hw, go_sem, ↓reduceIte, reduceCtorEq, rn1, rn2, rn3, rn4, rn5, rn6, rn7, ri1, ri2, ri3, ri4, ri5]
      refine again ⟨i + 1, by omega, has_go hx hc hno⟩ (by simp; omega) ?_
      simp -dsimp -implicitDefEqProofs only [hw, go_sem, ↓reduceIte, reduceCtorEq, rn1, rn2, rn3, rn4, rn5, rn6, rn7, ri1, ri2, ri3, ri4, ri5]
  · have hil : i = l.length := by omega
    subst hil
    have hb := has_none hno
    rw [hb]
    simp -dsimp -implicitDefEqProofs only [retH, go_sem, ↓reduceIte, reduceCtorEq, rn1, rn2, rn3, rn4, rn5, rn6, rn7, ri1, ri2, ri3, ri4, ri5]
theorem rhas_ok (l : List Rec) (hl : l.length ≤ 1000000) (v : Bs) : Meets Tryz.prog 38 [(false, [vD (recsD l)]), (false, [vS v])] (rOne (vB (hasB l v))) := by
  refine meets Tryz.func38 rfl rfl Tryz.ntmps38 Tryz.results38 rfl ?_
  simp -dsimp -implicitDefEqProofs only [go_sem, ↓reduceIte, reduceCtorEq, rn1, rn2, rn3, rn4, rn5, rn6, rn7, ri1, ri2, ri3, ri4, ri5]
  refine vfor sitOk (ι := HsInv l v) (fun w => ⟨19, [(5, aI w.i), (0, aD (recsD l)), (1, aS v)], [], 100⟩) (fun w => l.length - w.i) ⟨0, by omega, fun j x hj => by omega⟩ ?_ ?_
  · simp -dsimp -implicitDefEqProofs only [go_sem, ↓reduceIte, reduceCtorEq, rn1, rn2, rn3, rn4, rn5, rn6, rn7, ri1, ri2, ri3, ri4, ri5]
  intro ⟨i, hi, hno⟩
  simp -dsimp -implicitDefEqProofs only [go_sem, ↓reduceIte, reduceCtorEq, rn1, rn2, rn3, rn4, rn5, rn6, rn7, ri1, ri2, ri3, ri4, ri5]
  refine ⟨fun hlt => ?_, fun hge => ?_⟩
  · have hil : i < l.length := by omega
    obtain ⟨x, hx⟩ : ∃ x, l[i]? = some x := ⟨_, List.getElem?_eq_getElem hil⟩
    have hw := wrapS hil (by omega)
    simp -dsimp -implicitDefEqProofs only [hx, forall_eq', hw, go_sem, ↓reduceIte, reduceCtorEq, rn1, rn2, rn3, rn4, rn5, rn6, rn7, ri1, ri2, ri3, ri4, ri5]
    refine ⟨by omega, hil, ?_⟩
    by_cases hv : x.V = v
    · have hb := has_some (v := v) hx (by simp [hv])
      rw [hb]
      simp -dsimp -implicitDefEqProofs only [hv, go_sem, ↓reduceIte, reduceCtorEq, rn1, rn2, rn3, rn4, rn5, rn6, rn7, ri1, ri2, ri3, ri4, ri5]
    · simp -dsimp -implicitDefEqProofs only [hv, go_sem, ↓reduceIte, reduceCtorEq, rn1, rn2, rn3, rn4, rn5, rn6, rn7, ri1, ri2, ri3, ri4, ri5]
      refine again ⟨i + 1, by omega, has_go hx (by simp [hv]) hno⟩ (by simp; omega) ?_
      simp -dsimp -implicitDefEqProofs only [hw, go_sem, ↓reduceIte, reduceCtorEq, rn1, rn2, rn3, rn4, rn5, rn6, rn7, ri1, ri2, ri3, ri4, ri5]
  · have hil : i = l.length := by omega
    subst hil
    rw [has_none hno]
end Go.Proofs.YtolpobgfcokoaaaGreatDoor
namespace Go.Proofs.YtolpobgfcokoaaaGreatDoor
open Go.Eng
set_option linter.unusedSimpArgs false
set_option maxRecDepth 10000

theorem caaV_yes {n : Nt} {seen : Int} {L : List Kp} {now : Int} {name ca : Bs} (h : findE n seen L now name 2 = 0) : caaV n seen L now name ca = ⟨hasB (findL n seen L now name 2) ca, findC n seen L now name 2, 0⟩ := by
  rw [caaV_eq, if_pos h]
theorem caaV_top {n : Nt} {seen : Int} {L : List Kp} {now : Int} {name ca : Bs} (h : findE n seen L now name 2 = 131) (hu : upB name = []) : caaV n seen L now name ca = ⟨true, findC n seen L now name 2, 0⟩ := by
  rw [caaV_eq, if_neg (by omega), if_neg (by omega), if_pos h, if_pos hu]
theorem caaV_up {n : Nt} {seen : Int} {L : List Kp} {now : Int} {name ca : Bs} (h : findE n seen L now name 2 = 131) (hu : ¬ upB name = []) : caaV n seen L now name ca = caaV n seen (findC n seen L now name 2) now (upB name) ca := by
  rw [caaV_eq, if_neg (by omega), if_neg (by omega), if_pos h, if_neg hu]
theorem caaV_bad {n : Nt} {seen : Int} {L : List Kp} {now : Int} {name ca : Bs} (h : ¬ findE n seen L now name 2 = 0) (h' : ¬ findE n seen L now name 2 = 131) : caaV n seen L now name ca = ⟨false, findC n seen L now name 2, findE n seen L now name 2⟩ := by
  rw [caaV_eq, if_neg h]
  by_cases h1 : findE n seen L now name 2 = 130
  · rw [if_pos h1, h1]
  · rw [if_neg h1, if_neg h', (find_bad' (by rw [Bool.eq_false_iff]; intro e; have := okF_iff.1 e; omega)).2]
structure CaInv (n : Nt) (seen now : Int) (ca : Bs) (w : Ca) where
  L : List Kp
  u : Bs
  cz : Cz L
  eq : w = caaV n seen L now u ca
theorem caa_cz {n : Nt} {seen now : Int} {ca : Bs} {L : List Kp} (hc : Cz L) (name : Bs) : Cz (caaV n seen L now name ca).C := by
  unfold caaV
  generalize hf : name.length + 1 = f
  clear hf
  induction f generalizing L name with
  | zero => exact hc
  | succ f ih =>
    have h := fc14_cz n seen L now name 2
    unfold caaG
    split
    · exact h
    · split
      · exact h
      · split
        · split
          · exact h
          · exact ih h _
        · exact nil_cz
set_option maxHeartbeats 4000000 in
theorem caa23_ok (n : Nt) (hz : Sz n) (seen : Int) (L : List Kp) (hc : Cz L) (now : Int) (name ca : Bs) :
    Meets Tryz.prog 18 [n.arg, (false, [vI seen]), cacheA L, (false, [vI now]), (false, [vS name]), (false, [vS ca])]
      (rTup [(false, [vB (caaV n seen L now name ca).Y]), (true, [vD (kpsD (caaV n seen L now name ca).C)]), (false, [vI (caaV n seen L now name ca).E])]) := by
  refine meets Tryz.func18 rfl rfl Tryz.ntmps18 Tryz.results18 rfl ?_
  simp -dsimp -implicitDefEqProofs only [go_sem, ↓reduceIte, reduceCtorEq, rn1, rn2, rn3, rn4, rn5, rn6, rn7, ri1, ri2, ri3, ri4, ri5]
  refine callW rfl Tryz.func36 rfl rfl Tryz.ntmps36 Tryz.results36 rfl ?_
  simp -dsimp -implicitDefEqProofs only [retH, go_sem, ↓reduceIte, reduceCtorEq, rn1, rn2, rn3, rn4, rn5, rn6, rn7, ri1, ri2, ri3, ri4, ri5]
  refine callW rfl Tryz.func76 rfl rfl Tryz.ntmps76 Tryz.results76 rfl ?_
  simp -dsimp -implicitDefEqProofs only [retH, go_sem, ↓reduceIte, reduceCtorEq, rn1, rn2, rn3, rn4, rn5, rn6, rn7, ri1, ri2, ri3, ri4, ri5]
  refine vrange sitOk rfl [] [(3, aP 120 0), (5, aP 128 0), (6, aP 136 0), (7, aP 144 0)] rfl rfl ?_ Tryz.func116 rfl rfl Tryz.ntmps116 Tryz.results116 rfl ?_
  · simp -dsimp -implicitDefEqProofs only [go_sem, ↓reduceIte, reduceCtorEq, rn1, rn2, rn3, rn4, rn5, rn6, rn7, ri1, ri2, ri3, ri4, ri5]
  simp -dsimp -implicitDefEqProofs only [go_sem, ↓reduceIte, reduceCtorEq, rn1, rn2, rn3, rn4, rn5, rn6, rn7, ri1, ri2, ri3, ri4, ri5]
  generalize hL : Lp.mk 30 _ _ _ _ _ = LP
  refine vfor sitOk (ι := CaInv n seen now ca (caaV n seen L now name ca)) (fun v => ⟨10, [(0, .cs false [.yld 208]), (1, aP 160 0)], [(208, some (.lp LP)), (160, some (.var [cS v.u] true)), (144, some (.var [cI 0] true)), (136, some (.var [cB false] true)), (128, some (.var [cS ca] true)), (120, some (.var [.ptr 80 0] true)),
    (80, some (.var [cD (kpsD v.L), cD (svsD n.V), cI n.N, cD (bnsD n.B), cD (cksD n.C), cI seen, cI now] true)), (24, some (.var [.nils 4] true))], 1000⟩) (fun v => v.u.length) ⟨L, name, hc, rfl⟩ ?_ ?_
  · simp -dsimp -implicitDefEqProofs only [← hL, go_sem, ↓reduceIte, reduceCtorEq, rn1, rn2, rn3, rn4, rn5, rn6, rn7, ri1, ri2, ri3, ri4, ri5]
  intro ⟨K, u, hcz, he⟩
  simp -dsimp -implicitDefEqProofs only [go_sem, ↓reduceIte, reduceCtorEq, rn1, rn2, rn3, rn4, rn5, rn6, rn7, ri1, ri2, ri3, ri4, ri5]
  have hll := findL_len n seen hcz now u 2
  have hcn := fc14_cz n seen K now u 2
  refine yieldW sitOk ?_
  simp -dsimp -implicitDefEqProofs only [← hL, go_sem, ↓reduceIte, reduceCtorEq, rn1, rn2, rn3, rn4, rn5, rn6, rn7, ri1, ri2, ri3, ri4, ri5]
  intro ro
  refine callW rfl Tryz.func73 rfl rfl Tryz.ntmps73 Tryz.results73 rfl ?_
  simp -dsimp -implicitDefEqProofs only [retH, ← hL, go_sem, ↓reduceIte, reduceCtorEq, rn1, rn2, rn3, rn4, rn5, rn6, rn7, ri1, ri2, ri3, ri4, ri5]
  have hff := find14_ok n hz seen K hcz now u 2
  by_cases h0 : findE n seen K now u 2 = 0
  · rw [caaV_yes h0] at he
    refine callP hff ?_
    simp -dsimp -implicitDefEqProofs only [h0, retH, ← hL, go_sem, ↓reduceIte, reduceCtorEq, rn1, rn2, rn3, rn4, rn5, rn6, rn7, ri1, ri2, ri3, ri4, ri5]
    refine ⟨drawn (by kernel_rfl), ?_⟩
    refine callW rfl Tryz.func75 rfl rfl Tryz.ntmps75 Tryz.results75 rfl ?_
    simp -dsimp -implicitDefEqProofs only [retH, ← hL, go_sem, ↓reduceIte, reduceCtorEq, rn1, rn2, rn3, rn4, rn5, rn6, rn7, ri1, ri2, ri3, ri4, ri5]
    refine callZ2 1464 [false, false] sitOk rfl ?_
    simp -dsimp -implicitDefEqProofs only [go_sem, ↓reduceIte, reduceCtorEq, rn1, rn2, rn3, rn4, rn5, rn6, rn7, ri1, ri2, ri3, ri4, ri5]
    refine ⟨_, cont23_ok _ (by omega) ca, ?_⟩
    simp -dsimp -implicitDefEqProofs only [retH, ← hL, go_sem, ↓reduceIte, reduceCtorEq, rn1, rn2, rn3, rn4, rn5, rn6, rn7, ri1, ri2, ri3, ri4, ri5]
    refine ⟨drawn (by kernel_rfl), ?_⟩
    rw [he]
    exact ⟨rfl, rfl, rfl⟩
  · by_cases h1 : findE n seen K now u 2 = 131
    · by_cases hu : upB u = []
      · rw [caaV_top h1 hu] at he
        refine callP hff ?_
        simp -dsimp -implicitDefEqProofs only [h1, retH, ← hL, go_sem, ↓reduceIte, reduceCtorEq, rn1, rn2, rn3, rn4, rn5, rn6, rn7, ri1, ri2, ri3, ri4, ri5]
        refine ⟨drawn (by kernel_rfl), callP (up_ok u) ?_⟩
        simp -dsimp -implicitDefEqProofs only [hu, retH, ← hL, go_sem, ↓reduceIte, reduceCtorEq, rn1, rn2, rn3, rn4, rn5, rn6, rn7, ri1, ri2, ri3, ri4, ri5]
        refine ⟨drawn (by kernel_rfl), ?_⟩
        rw [he]
        exact ⟨rfl, rfl, rfl⟩
      · rw [caaV_up h1 hu] at he
        refine callP hff ?_
        simp -dsimp -implicitDefEqProofs only [h1, retH, ← hL, go_sem, ↓reduceIte, reduceCtorEq, rn1, rn2, rn3, rn4, rn5, rn6, rn7, ri1, ri2, ri3, ri4, ri5]
        refine ⟨drawn (by kernel_rfl), callP (up_ok u) ?_⟩
        simp -dsimp -implicitDefEqProofs only [hu, retH, ← hL, go_sem, ↓reduceIte, reduceCtorEq, rn1, rn2, rn3, rn4, rn5, rn6, rn7, ri1, ri2, ri3, ri4, ri5]
        refine again ⟨findC n seen K now u 2, upB u, hcn, he⟩ ?_ ?_
        · exact upB_lt hu
        · simp -dsimp -implicitDefEqProofs only [← hL, go_sem, ↓reduceIte, reduceCtorEq, rn1, rn2, rn3, rn4, rn5, rn6, rn7, ri1, ri2, ri3, ri4, ri5]
    · rw [caaV_bad h0 h1] at he
      refine callP hff ?_
      simp -dsimp -implicitDefEqProofs only [h0, h1, retH, ← hL, go_sem, ↓reduceIte, reduceCtorEq, rn1, rn2, rn3, rn4, rn5, rn6, rn7, ri1, ri2, ri3, ri4, ri5]
      refine ⟨drawn (by kernel_rfl), drawn (by kernel_rfl), ?_⟩
      rw [he]
      exact ⟨rfl, rfl, rfl⟩
end Go.Proofs.YtolpobgfcokoaaaGreatDoor
namespace Go.Proofs.YtolpobgfcokoaaaGreatDoor
open Go.Eng
set_option linter.unusedSimpArgs false
set_option maxRecDepth 10000

theorem bad_nil {n : Nt} {seen : Int} {L : List Kp} {now : Int} {name : Bs} {k : Int} (h0 : ¬ findE n seen L now name k = 0) (h1 : ¬ findE n seen L now name k = 130) (h2 : ¬ findE n seen L now name k = 131) : findC n seen L now name k = [] :=
  (find_bad' (by rw [Bool.eq_false_iff]; intro e; have := okF_iff.1 e; omega)).2
set_option maxHeartbeats 4000000 in
theorem rcaa23_ok (n : Nt) (hz : Sz n) (seen : Int) (L : List Kp) (hc : Cz L) (now : Int) (name ca : Bs) :
    Meets Tryz.prog 19 [n.arg, (false, [vI seen]), cacheA L, (false, [vI now]), (false, [vS name]), (false, [vS ca])]
      (rTup [(false, [vB (caaV n seen L now name ca).Y]), (true, [vD (kpsD (caaV n seen L now name ca).C)]), (false, [vI (caaV n seen L now name ca).E])]) := by
  refine meets Tryz.func19 rfl rfl Tryz.ntmps19 Tryz.results19 rfl ?_
  simp -dsimp -implicitDefEqProofs only [go_sem, ↓reduceIte, reduceCtorEq, rn1, rn2, rn3, rn4, rn5, rn6, rn7, ri1, ri2, ri3, ri4, ri5]
  refine vfor sitOk (ι := CaInv n seen now ca (caaV n seen L now name ca)) (fun v => ⟨48, [(6, aP 0 0), (1, aI seen), (8, aP 8 0), (3, aI now), (4, aS v.u), (5, aS ca), (13, aP 24 0)],
    [(24, some (.var [.nils 4] true)), (8, some (.var [cD (kpsD v.L)] true)), (0, some (.var [cD (svsD n.V), cI n.N, cD (bnsD n.B), cD (cksD n.C)] true))], 500⟩) (fun v => v.u.length) ⟨L, name, hc, rfl⟩ ?_ ?_
  · simp -dsimp -implicitDefEqProofs only [go_sem, ↓reduceIte, reduceCtorEq, rn1, rn2, rn3, rn4, rn5, rn6, rn7, ri1, ri2, ri3, ri4, ri5]
  intro ⟨K, u, hcz, he⟩
  simp -dsimp -implicitDefEqProofs only [go_sem, ↓reduceIte, reduceCtorEq, rn1, rn2, rn3, rn4, rn5, rn6, rn7, ri1, ri2, ri3, ri4, ri5]
  have hll := findL_len n seen hcz now u 2
  have hcn := fc14_cz n seen K now u 2
  have hff := rfind14_ok n hz seen K hcz now u 2
  by_cases h0 : findE n seen K now u 2 = 0
  · rw [caaV_yes h0] at he
    refine callP hff ?_
    simp -dsimp -implicitDefEqProofs only [h0, go_sem, ↓reduceIte, reduceCtorEq, rn1, rn2, rn3, rn4, rn5, rn6, rn7, ri1, ri2, ri3, ri4, ri5]
    refine callP (rhas_ok _ (by omega) ca) ?_
    simp -dsimp -implicitDefEqProofs only [go_sem, ↓reduceIte, reduceCtorEq, rn1, rn2, rn3, rn4, rn5, rn6, rn7, ri1, ri2, ri3, ri4, ri5]
    refine ⟨drawn (by kernel_rfl), ?_⟩
    rw [he]
    exact ⟨rfl, rfl, rfl⟩
  · by_cases h1 : findE n seen K now u 2 = 130
    · rw [caaV_bad h0 (by omega)] at he
      refine callP hff ?_
      simp -dsimp -implicitDefEqProofs only [h0, h1, go_sem, ↓reduceIte, reduceCtorEq, rn1, rn2, rn3, rn4, rn5, rn6, rn7, ri1, ri2, ri3, ri4, ri5]
      refine ⟨drawn (by kernel_rfl), ?_⟩
      rw [he, h1]
      exact ⟨rfl, rfl, rfl⟩
    · by_cases h2 : findE n seen K now u 2 = 131
      · by_cases hu : upB u = []
        · rw [caaV_top h2 hu] at he
          refine callP hff ?_
          simp -dsimp -implicitDefEqProofs only [h0, h1, h2, go_sem, ↓reduceIte, reduceCtorEq, rn1, rn2, rn3, rn4, rn5, rn6, rn7, ri1, ri2, ri3, ri4, ri5]
          refine callP (rup_ok u) ?_
          simp -dsimp -implicitDefEqProofs only [hu, go_sem, ↓reduceIte, reduceCtorEq, rn1, rn2, rn3, rn4, rn5, rn6, rn7, ri1, ri2, ri3, ri4, ri5]
          refine ⟨drawn (by kernel_rfl), ?_⟩
          rw [he]
          exact ⟨rfl, rfl, rfl⟩
        · rw [caaV_up h2 hu] at he
          refine callP hff ?_
          simp -dsimp -implicitDefEqProofs only [h0, h1, h2, go_sem, ↓reduceIte, reduceCtorEq, rn1, rn2, rn3, rn4, rn5, rn6, rn7, ri1, ri2, ri3, ri4, ri5]
          refine callP (rup_ok u) ?_
          simp -dsimp -implicitDefEqProofs only [hu, go_sem, ↓reduceIte, reduceCtorEq, rn1, rn2, rn3, rn4, rn5, rn6, rn7, ri1, ri2, ri3, ri4, ri5]
          refine again ⟨findC n seen K now u 2, upB u, hcn, he⟩ ?_ ?_
          · exact upB_lt hu
          · simp -dsimp -implicitDefEqProofs only [go_sem, ↓reduceIte, reduceCtorEq, rn1, rn2, rn3, rn4, rn5, rn6, rn7, ri1, ri2, ri3, ri4, ri5]
      · rw [caaV_bad h0 h2, bad_nil h0 h1 h2] at he
        refine callP hff ?_
        simp -dsimp -implicitDefEqProofs only [h0, h1, h2, go_sem, ↓reduceIte, reduceCtorEq, rn1, rn2, rn3, rn4, rn5, rn6, rn7, ri1, ri2, ri3, ri4, ri5]
        rw [he]
        exact ⟨rfl, rfl, rfl⟩
theorem voteV_none {n : Nt} {seen : Int} {L : List Kp} {now : Int} {name token ca : Bs} (h : findE n seen L now (atN name) 1 = 131 ∨ findE n seen L now (atN name) 1 = 130) : voteV n seen L now name token ca = ⟨false, findC n seen L now (atN name) 1, 0⟩ := by
  unfold voteV; rw [if_pos h]
theorem voteV_bad {n : Nt} {seen : Int} {L : List Kp} {now : Int} {name token ca : Bs} (h1 : ¬ findE n seen L now (atN name) 1 = 131) (h2 : ¬ findE n seen L now (atN name) 1 = 130) (h3 : ¬ findE n seen L now (atN name) 1 = 0) : voteV n seen L now name token ca = ⟨false, findC n seen L now (atN name) 1, findE n seen L now (atN name) 1⟩ := by
  unfold voteV
  rw [if_neg (by omega), if_pos h3, (find_bad' (by rw [Bool.eq_false_iff]; intro e; have := okF_iff.1 e; omega)).2]
theorem voteV_no {n : Nt} {seen : Int} {L : List Kp} {now : Int} {name token ca : Bs} (h : findE n seen L now (atN name) 1 = 0) (h2 : hasB (findL n seen L now (atN name) 1) token = false) : voteV n seen L now name token ca = ⟨false, findC n seen L now (atN name) 1, 0⟩ := by
  unfold voteV
  rw [if_neg (by omega), if_neg (by omega), if_pos h2]
theorem voteV_yes {n : Nt} {seen : Int} {L : List Kp} {now : Int} {name token ca : Bs} (h : findE n seen L now (atN name) 1 = 0) (h2 : hasB (findL n seen L now (atN name) 1) token = true) : voteV n seen L now name token ca =
    ⟨(caaV n seen (findC n seen L now (atN name) 1) now name ca).Y, (caaV n seen (findC n seen L now (atN name) 1) now name ca).C, if (caaV n seen (findC n seen L now (atN name) 1) now name ca).E = 130 then 0 else (caaV n seen (findC n seen L now (atN name) 1) now name ca).E⟩ := by
  unfold voteV
  rw [if_neg (by omega), if_neg (by omega), if_neg (by simp [h2])]
theorem vote_cz {n : Nt} {seen : Int} {L : List Kp} {now : Int} {name token ca : Bs} : Cz (voteV n seen L now name token ca).C := by
  have h := fc14_cz n seen L now (atN name) 1
  unfold voteV
  split
  · exact h
  · split
    · exact nil_cz
    · split
      · exact h
      · exact caa_cz h name
set_option maxHeartbeats 4000000 in
theorem rvote23_ok (n : Nt) (hz : Sz n) (seen : Int) (L : List Kp) (hc : Cz L) (now : Int) (name : Bs) (hn : name.length ≤ 1000000) (token ca : Bs) :
    Meets Tryz.prog 35 [n.arg, (false, [vI seen]), cacheA L, (false, [vI now]), (false, [vS name]), (false, [vS token]), (false, [vS ca])]
      (rTup [(false, [vB (voteV n seen L now name token ca).Y]), (true, [vD (kpsD (voteV n seen L now name token ca).C)]), (false, [vI (voteV n seen L now name token ca).E])]) := by
  have hll := findL_len n seen hc now (atN name) 1
  have hcz := fc14_cz n seen L now (atN name) 1
  refine meets Tryz.func35 rfl rfl Tryz.ntmps35 Tryz.results35 rfl ?_
  simp -dsimp -implicitDefEqProofs only [go_sem, ↓reduceIte, reduceCtorEq, rn1, rn2, rn3, rn4, rn5, rn6, rn7, ri1, ri2, ri3, ri4, ri5]
  refine callP (rat23_ok name hn) ?_
  simp -dsimp -implicitDefEqProofs only [go_sem, ↓reduceIte, reduceCtorEq, rn1, rn2, rn3, rn4, rn5, rn6, rn7, ri1, ri2, ri3, ri4, ri5]
  have hff := rfind14_ok n hz seen L hc now (atN name) 1
  by_cases h1 : findE n seen L now (atN name) 1 = 131
  · have hv := voteV_none (token := token) (ca := ca) (.inl h1)
    refine callP hff ?_
    simp -dsimp -implicitDefEqProofs only [h1, hv, go_sem, ↓reduceIte, reduceCtorEq, rn1, rn2, rn3, rn4, rn5, rn6, rn7, ri1, ri2, ri3, ri4, ri5]
    exact ⟨drawn (by kernel_rfl), drawn (by kernel_rfl)⟩
  · by_cases h2 : findE n seen L now (atN name) 1 = 130
    · have hv := voteV_none (token := token) (ca := ca) (.inr h2)
      refine callP hff ?_
      simp -dsimp -implicitDefEqProofs only [h1, h2, hv, go_sem, ↓reduceIte, reduceCtorEq, rn1, rn2, rn3, rn4, rn5, rn6, rn7, ri1, ri2, ri3, ri4, ri5]
      exact ⟨drawn (by kernel_rfl), drawn (by kernel_rfl)⟩
    · by_cases h3 : findE n seen L now (atN name) 1 = 0
      · cases hb : hasB (findL n seen L now (atN name) 1) token with
        | false =>
          have hv := voteV_no (token := token) (ca := ca) h3 hb
          refine callP hff ?_
          simp -dsimp -implicitDefEqProofs only [h1, h2, h3, hv, go_sem, ↓reduceIte, reduceCtorEq, rn1, rn2, rn3, rn4, rn5, rn6, rn7, ri1, ri2, ri3, ri4, ri5]
          refine ⟨drawn (by kernel_rfl), callP (rhas_ok (findL n seen L now (atN name) 1) (by omega) token) ?_⟩
          simp -dsimp -implicitDefEqProofs only [hb, go_sem, ↓reduceIte, reduceCtorEq, rn1, rn2, rn3, rn4, rn5, rn6, rn7, ri1, ri2, ri3, ri4, ri5]
          refine ⟨drawn (by kernel_rfl), ?_⟩
          rw [hv]
          exact ⟨rfl, rfl, rfl⟩
        | true =>
          have hv := voteV_yes (ca := ca) h3 hb
          refine callP hff ?_
          simp -dsimp -implicitDefEqProofs only [h1, h2, h3, hv, go_sem, ↓reduceIte, reduceCtorEq, rn1, rn2, rn3, rn4, rn5, rn6, rn7, ri1, ri2, ri3, ri4, ri5]
          refine ⟨drawn (by kernel_rfl), callP (rhas_ok (findL n seen L now (atN name) 1) (by omega) token) ?_⟩
          simp -dsimp -implicitDefEqProofs only [hb, go_sem, ↓reduceIte, reduceCtorEq, rn1, rn2, rn3, rn4, rn5, rn6, rn7, ri1, ri2, ri3, ri4, ri5]
          refine callP (rcaa23_ok n hz seen _ hcz now name ca) ?_
          simp -dsimp -implicitDefEqProofs only [go_sem, ↓reduceIte, reduceCtorEq, rn1, rn2, rn3, rn4, rn5, rn6, rn7, ri1, ri2, ri3, ri4, ri5]
          rw [hv]
          refine ⟨fun h4 => ⟨drawn (by kernel_rfl), rfl, rfl, ?_⟩, fun h4 => ⟨drawn (by kernel_rfl), rfl, rfl, ?_⟩⟩
          · simp only; rw [if_pos h4]
          · simp only; rw [if_neg h4]
      · have hv := voteV_bad (token := token) (ca := ca) h1 h2 h3
        rw [bad_nil h3 h2 h1] at hv
        refine callP hff ?_
        simp -dsimp -implicitDefEqProofs only [h1, h2, h3, hv, go_sem, ↓reduceIte, reduceCtorEq, rn1, rn2, rn3, rn4, rn5, rn6, rn7, ri1, ri2, ri3, ri4, ri5]
        exact drawn (by kernel_rfl)
end Go.Proofs.YtolpobgfcokoaaaGreatDoor
