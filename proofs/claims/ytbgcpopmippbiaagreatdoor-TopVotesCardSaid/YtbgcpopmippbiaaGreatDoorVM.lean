/- At, Votes, whether records have a value. Caa. The document's answer: Caa, vote. Look. -/
import Derived.Test.YtbgcpopmippbiaaGreatDoorUE
open Nat renaming reduceLT → rn1, reduceLeDiff → rn2, reduceEqDiff → rn3, reduceAdd → rn4, reduceMul → rn5, reduceSub → rn6, reduceBEq → rn7
open Int renaming reduceLT → ri1, reduceLE → ri2, reduceEq → ri3, reduceBEq → ri4, reduceNeg → ri5
namespace Go.Proofs.YtbgcpopmippbiaaGreatDoor
open Go.Eng
set_option linter.unusedSimpArgs false
set_option maxRecDepth 10000

theorem at23_ok (name : Bs) (h : name.length ≤ 1000000) : Meets Tryz.prog 6 [(false, [vS name])] (rOne (vS (atN name))) := by
  have h1 : 6 + name.length ≤ 9223372036854775807 := by omega
  refine meets Tryz.func6 rfl rfl Tryz.ntmps6 Tryz.results6 rfl ?_
  simp -dsimp -implicitDefEqProofs only [go_sem, ↓reduceIte, reduceCtorEq, rn1, rn2, rn3, rn4, rn5, rn6, rn7, ri1, ri2, ri3, ri4, ri5]
  unfold atN
  simp -dsimp -implicitDefEqProofs only [h1, List.length_cons, List.length_nil, go_sem, ↓reduceIte, reduceCtorEq, rn1, rn2, rn3, rn4, rn5, rn6, rn7, ri1, ri2, ri3, ri4, ri5]
/-- What was seen: Name, At, Votes. -/
structure Sn where
  N : Bs
  A : Int
  V : List Bool
def rowB (b : Bool) : List D := [dB b]
attribute [go_sem] rowB
abbrev bsD (l : List Bool) : D := .vec 1 (l.map rowB)
abbrev Sn.arg (s : Sn) : Bool × List CV := (true, [vS s.N, vI s.A, vD (bsD s.V)])
structure VtInv (l : List Bool) where
  i : Nat
  le : i ≤ l.length
theorem votesN_step {l : List Bool} {i : Nat} {b : Bool} (h : l[i]? = some b) : votesN (l.take (i + 1)) = votesN (l.take i) + if b then 1 else 0 := by
  rw [List.take_add_one, h]
  exact votesN_snoc _ _
theorem votesN_le (l : List Bool) (i : Nat) : 0 ≤ votesN (l.take i) ∧ votesN (l.take i) ≤ (i : Int) := by
  unfold votesN
  have h1 := List.length_filter_le id (l.take i)
  have h2 : (l.take i).length ≤ i := by simp; omega
  omega
theorem votes23_ok (s : Sn) (hl : s.V.length ≤ 9223372036854775807) : Meets Tryz.prog 11 [s.arg] (rOne (vI (votesN s.V))) := by
  refine meets Tryz.func11 rfl rfl Tryz.ntmps11 Tryz.results11 rfl ?_
  simp -dsimp -implicitDefEqProofs only [go_sem, ↓reduceIte, reduceCtorEq, rn1, rn2, rn3, rn4, rn5, rn6, rn7, ri1, ri2, ri3, ri4, ri5]
  refine vfor sitOk (ι := VtInv s.V) (fun v => ⟨17, [(8, aI v.i), (7, aI s.V.length), (6, aD (bsD s.V)), (2, aI (votesN (s.V.take v.i)))], [(0, some (.var [cS s.N, cI s.A, cD (bsD s.V)] true))], 100⟩) (fun v => s.V.length - v.i) ⟨0, by omega⟩ ?_ ?_
  · simp -dsimp -implicitDefEqProofs only [go_sem, ↓reduceIte, reduceCtorEq, rn1, rn2, rn3, rn4, rn5, rn6, rn7, ri1, ri2, ri3, ri4, ri5]
    rfl
  intro ⟨i, hi⟩
  simp -dsimp -implicitDefEqProofs only [go_sem, ↓reduceIte, reduceCtorEq, rn1, rn2, rn3, rn4, rn5, rn6, rn7, ri1, ri2, ri3, ri4, ri5]
  refine ⟨fun hlt => ?_, fun hge => ?_⟩
  · have hil : i < s.V.length := by omega
    obtain ⟨x, hx⟩ : ∃ x, s.V[i]? = some x := ⟨_, List.getElem?_eq_getElem hil⟩
    have hw : IntKind.i64.wrap ((i : Int) + 1) = ((i + 1 : Nat) : Int) := by rw [wrap64] <;> omega
    have hst := votesN_step hx
    have hle := votesN_le s.V i
    have hw2 : IntKind.i64.wrap (votesN (s.V.take i) + 1) = votesN (s.V.take i) + 1 := by rw [wrap64] <;> omega
    simp -dsimp -implicitDefEqProofs only [hx, forall_eq', hw, go_sem, ↓reduceIte, reduceCtorEq, rn1, rn2, rn3, rn4, rn5, rn6, rn7, ri1, ri2, ri3, ri4, ri5]
    refine ⟨by omega, hil, ?_⟩
    cases x with
    | true =>
      simp -dsimp -implicitDefEqProofs only [hw, hw2, go_sem, ↓reduceIte, reduceCtorEq, rn1, rn2, rn3, rn4, rn5, rn6, rn7, ri1, ri2, ri3, ri4, ri5]
      refine again ⟨i + 1, by omega⟩ (by simp; omega) ?_
      simp -dsimp -implicitDefEqProofs only [hw, hw2, hst, go_sem, ↓reduceIte, reduceCtorEq, rn1, rn2, rn3, rn4, rn5, rn6, rn7, ri1, ri2, ri3, ri4, ri5]
    | false =>
      simp -dsimp -implicitDefEqProofs only [hw, hw2, go_sem, ↓reduceIte, reduceCtorEq, rn1, rn2, rn3, rn4, rn5, rn6, rn7, ri1, ri2, ri3, ri4, ri5]
      refine again ⟨i + 1, by omega⟩ (by simp; omega) ?_
      simp -dsimp -implicitDefEqProofs only [hw, hw2, hst, go_sem, ↓reduceIte, reduceCtorEq, rn1, rn2, rn3, rn4, rn5, rn6, rn7, ri1, ri2, ri3, ri4, ri5]
      omega
  · have hil : i = s.V.length := by omega
    subst hil
    rw [List.take_length]
structure HsInv (l : List Rec) (v : Bs) where
  i : Nat
  le : i ≤ l.length
  no : ∀ j x, j < i → l[j]? = some x → (x.V == v) = false
theorem has_none {l : List Rec} {v : Bs} (h : ∀ j x, j < l.length → l[j]? = some x → (x.V == v) = false) : hasB l v = false := by
  unfold hasB
  rw [List.any_eq_false]
  intro x hx
  obtain ⟨j, hj⟩ := List.mem_iff_getElem?.1 hx
  rw [h j x (List.getElem?_eq_some_iff.1 hj).1 hj]
  simp
theorem has_some {l : List Rec} {v : Bs} {i : Nat} {x : Rec} (hx : l[i]? = some x) (h : (x.V == v) = true) : hasB l v = true := List.any_eq_true.2 ⟨x, List.mem_of_getElem? hx, h⟩
theorem has_go {l : List Rec} {v : Bs} {i : Nat} {x : Rec} (hx : l[i]? = some x) (h : (x.V == v) = false) (hno : ∀ j x, j < i → l[j]? = some x → (x.V == v) = false) : ∀ j x, j < i + 1 → l[j]? = some x → (x.V == v) = false := fun j y hj hy => by
  by_cases hji : j = i
  · subst hji; rw [hx] at hy; cases hy; exact h
  · exact hno j y (by omega) hy
theorem is23_ok (r : Rec) (v : Bs) : Meets Tryz.prog 167 [r.arg, (false, [vD (.pt [dT v])])] (rOne (vB (r.V == v))) := by
  refine meets Tryz.func167 rfl rfl Tryz.ntmps167 Tryz.results167 rfl ?_
  simp -dsimp -implicitDefEqProofs only [go_sem, ↓reduceIte, reduceCtorEq, rn1, rn2, rn3, rn4, rn5, rn6, rn7, ri1, ri2, ri3, ri4, ri5]
theorem cont23_ok (l : List Rec) (hl : l.length ≤ 1000000) (v : Bs) : Meets Tryz.prog 91 [(false, [vD (recsD l)]), (false, [vD (.fn 167 [.pt [dT v]])])] (rOne (vB (hasB l v))) := by
  refine meets Tryz.func91 rfl rfl Tryz.ntmps91 Tryz.results91 rfl ?_
  simp -dsimp -implicitDefEqProofs only [go_sem, ↓reduceIte, reduceCtorEq, rn1, rn2, rn3, rn4, rn5, rn6, rn7, ri1, ri2, ri3, ri4, ri5]
  refine callW rfl Tryz.func166 rfl rfl Tryz.ntmps166 Tryz.results166 rfl ?_
  simp -dsimp -implicitDefEqProofs only [retH, go_sem, ↓reduceIte, reduceCtorEq, rn1, rn2, rn3, rn4, rn5, rn6, rn7, ri1, ri2, ri3, ri4, ri5]
  refine vfor sitOk (ι := HsInv l v) (fun w => ⟨19, [(8, aI w.i), (7, aI l.length), (6, aD (recsD l)), (0, aD (recsD l)), (1, aD (.fn 167 [.pt [dT v]]))], [], 400⟩) (fun w => l.length - w.i) ⟨0, by omega, fun j x hj => by omega⟩ ?_ ?_
  · simp -dsimp -implicitDefEqProofs only [go_sem, ↓reduceIte, reduceCtorEq, rn1, rn2, rn3, rn4, rn5, rn6, rn7, ri1, ri2, ri3, ri4, ri5]
  intro ⟨i, hi, hno⟩
  simp -dsimp -implicitDefEqProofs only [go_sem, ↓reduceIte, reduceCtorEq, rn1, rn2, rn3, rn4, rn5, rn6, rn7, ri1, ri2, ri3, ri4, ri5]
  refine ⟨fun hlt => ?_, fun hge => ?_⟩
  · have hil : i < l.length := by omega
    obtain ⟨x, hx⟩ : ∃ x, l[i]? = some x := ⟨_, List.getElem?_eq_getElem hil⟩
    have hw := wrapS hil (by omega)
    simp -dsimp -implicitDefEqProofs only [hx, forall_eq', hw, go_sem, ↓reduceIte, reduceCtorEq, rn1, rn2, rn3, rn4, rn5, rn6, rn7, ri1, ri2, ri3, ri4, ri5]
    refine ⟨by omega, hil, callP (is23_ok x v) ?_⟩
    cases hc : x.V == v with
    | true =>
      have hb := has_some hx hc
      rw [hb]
      simp -dsimp -implicitDefEqProofs only [retH, hc, go_sem, ↓reduceIte, reduceCtorEq, rn1, rn2, rn3, rn4, rn5, rn6, rn7, ri1, ri2, ri3, ri4, ri5]
      omega
    | false =>
      simp -dsimp -implicitDefEqProofs only [hc, hw, go_sem, ↓reduceIte, reduceCtorEq, rn1, rn2, rn3, rn4, rn5, rn6, rn7, ri1, ri2, ri3, ri4, ri5]
      refine again ⟨i + 1, by omega, has_go hx hc hno⟩ (by simp; omega) ?_
      simp -dsimp -implicitDefEqProofs only [hw, go_sem, ↓reduceIte, reduceCtorEq, rn1, rn2, rn3, rn4, rn5, rn6, rn7, ri1, ri2, ri3, ri4, ri5]
  · have hil : i = l.length := by omega
    subst hil
    have hb := has_none hno
    rw [hb]
    simp -dsimp -implicitDefEqProofs only [retH, go_sem, ↓reduceIte, reduceCtorEq, rn1, rn2, rn3, rn4, rn5, rn6, rn7, ri1, ri2, ri3, ri4, ri5]
end Go.Proofs.YtbgcpopmippbiaaGreatDoor
namespace Go.Proofs.YtbgcpopmippbiaaGreatDoor
open Go.Eng
set_option linter.unusedSimpArgs false
set_option maxRecDepth 10000

theorem caaV_yes {n : Nt} {seen : Int} {L : List Kp} {now : Int} {name ca : Bs} (h : findE n seen L now name 2 = 0) : caaV n seen L now name ca = ⟨hasB (findL n seen L now name 2) ca, findC n seen L now name 2, 0⟩ := by
  rw [caaV_eq, if_pos h]
theorem caaV_top {n : Nt} {seen : Int} {L : List Kp} {now : Int} {name ca : Bs} (h : findE n seen L now name 2 = 131) (hu : upB name = []) : caaV n seen L now name ca = ⟨true, findC n seen L now name 2, 0⟩ := by
  rw [caaV_eq, if_neg (by omega), if_neg (by omega), if_pos h, if_pos hu]
theorem caaV_up {n : Nt} {seen : Int} {L : List Kp} {now : Int} {name ca : Bs} (h : findE n seen L now name 2 = 131) (hu : ¬ upB name = []) : caaV n seen L now name ca = caaV n seen (findC n seen L now name 2) now (upB name) ca := by
  rw [caaV_eq, if_neg (by omega), if_neg (by omega), if_pos h, if_neg hu]
theorem caaV_bad {n : Nt} {seen : Int} {L : List Kp} {now : Int} {name ca : Bs} (h : ¬ findE n seen L now name 2 = 0) (h' : ¬ findE n seen L now name 2 = 131) : caaV n seen L now name ca = ⟨false, findC n seen L now name 2, findE n seen L now name 2⟩ := by
  rw [caaV_eq, if_neg h]
  by_cases h1 : findE n seen L now name 2 = 130
  · rw [if_pos h1, h1]
  · rw [if_neg h1, if_neg h', (find_bad' (by rw [Bool.eq_false_iff]; intro e; have := okF_iff.1 e; omega)).2]
structure CaInv (n : Nt) (seen now : Int) (ca : Bs) (w : Ca) where
  L : List Kp
  u : Bs
  cz : Cz L
  eq : w = caaV n seen L now u ca
end Go.Proofs.YtbgcpopmippbiaaGreatDoor
namespace Go.Proofs.YtbgcpopmippbiaaGreatDoor
open Go.Eng
set_option linter.unusedSimpArgs false
set_option maxRecDepth 10000

theorem voteV_none {n : Nt} {seen : Int} {L : List Kp} {now : Int} {name token ca : Bs} (h : findE n seen L now (atN name) 1 = 131 ∨ findE n seen L now (atN name) 1 = 130) : voteV n seen L now name token ca = ⟨false, findC n seen L now (atN name) 1, 0⟩ := by
  unfold voteV; rw [if_pos h]
theorem voteV_bad {n : Nt} {seen : Int} {L : List Kp} {now : Int} {name token ca : Bs} (h1 : ¬ findE n seen L now (atN name) 1 = 131) (h2 : ¬ findE n seen L now (atN name) 1 = 130) (h3 : ¬ findE n seen L now (atN name) 1 = 0) : voteV n seen L now name token ca = ⟨false, findC n seen L now (atN name) 1, findE n seen L now (atN name) 1⟩ := by
  unfold voteV
  rw [if_neg (by omega), if_pos h3, (find_bad' (by rw [Bool.eq_false_iff]; intro e; have := okF_iff.1 e; omega)).2]
theorem voteV_no {n : Nt} {seen : Int} {L : List Kp} {now : Int} {name token ca : Bs} (h : findE n seen L now (atN name) 1 = 0) (h2 : hasB (findL n seen L now (atN name) 1) token = false) : voteV n seen L now name token ca = ⟨false, findC n seen L now (atN name) 1, 0⟩ := by
  unfold voteV
  rw [if_neg (by omega), if_neg (by omega), if_pos h2]
theorem voteV_yes {n : Nt} {seen : Int} {L : List Kp} {now : Int} {name token ca : Bs} (h : findE n seen L now (atN name) 1 = 0) (h2 : hasB (findL n seen L now (atN name) 1) token = true) : voteV n seen L now name token ca =
    ⟨(caaV n seen (findC n seen L now (atN name) 1) now name ca).Y, (caaV n seen (findC n seen L now (atN name) 1) now name ca).C, if (caaV n seen (findC n seen L now (atN name) 1) now name ca).E = 130 then 0 else (caaV n seen (findC n seen L now (atN name) 1) now name ca).E⟩ := by
  unfold voteV
  rw [if_neg (by omega), if_neg (by omega), if_neg (by simp [h2])]
end Go.Proofs.YtbgcpopmippbiaaGreatDoor
namespace Go.Proofs.YtbgcpopmippbiaaGreatDoor
open Go.Eng
set_option linter.unusedSimpArgs false
set_option maxRecDepth 10000

def rowC (L : List Kp) : List D := [kpsD L]
attribute [go_sem] rowC
abbrev csD (l : List (List Kp)) : D := .vec 1 (l.map rowC)
def lookSn (n : Nt) (l : List (List Kp)) (now : Int) (name token ca : Bs) (need : Int) : Sn := if lookOk (lookE n l now name token ca need) then ⟨name, now, lookS n l now name token ca need⟩ else ⟨[], 0, []⟩
structure LkInv (n : Nt) (l : List (List Kp)) (now : Int) (name token ca : Bs) where
  i : Nat
  le : i ≤ l.length
  ok : ∀ j w, j < i → (lookVs n l now name token ca)[j]? = some w → w.E = 0
def ysA (n : Nt) (l : List (List Kp)) (now : Int) (name token ca : Bs) (i : Nat) : List Bool := ((lookVs n l now name token ca).take i).map Ca.Y
def xsA (n : Nt) (l : List (List Kp)) (now : Int) (name token ca : Bs) (i : Nat) : List (List Kp) := ((lookVs n l now name token ca).take i).map Ca.C
theorem look_arg {n : Nt} {l : List (List Kp)} {now : Int} {name token ca : Bs} {need : Int} (h : (l.length : Int) ≠ n.N ∨ need < 1 ∨ n.N < need) : lookE n l now name token ca need = 1 ∧ lookSn n l now name token ca need = ⟨[], 0, []⟩ ∧ lookX n l now name token ca need = [] := by
  have e : lookE n l now name token ca need = 1 := by unfold lookE; rw [if_pos h]
  unfold lookSn lookX
  rw [e]
  exact ⟨rfl, rfl, rfl⟩
theorem look_err {n : Nt} {l : List (List Kp)} {now : Int} {name token ca : Bs} {need : Int} (h : ¬ ((l.length : Int) ≠ n.N ∨ need < 1 ∨ n.N < need)) {i : Nat} {L : List Kp} (hL : l[i]? = some L)
    (hok : ∀ j w, j < i → (lookVs n l now name token ca)[j]? = some w → w.E = 0) (he : ¬ (voteV n (i : Int) L now name token ca).E = 0) :
    lookE n l now name token ca need = (voteV n (i : Int) L now name token ca).E ∧ lookSn n l now name token ca need = ⟨[], 0, []⟩ ∧ lookX n l now name token ca need = [] := by
  have e1 := firstE_at hok (lookVs_at hL) he
  have e : lookE n l now name token ca need = (voteV n (i : Int) L now name token ca).E := by
    unfold lookE
    rw [if_neg h, e1, if_pos he]
  have hf : lookOk (voteV n (i : Int) L now name token ca).E = false := by
    have := voteE_vals n (i : Int) L now name token ca
    unfold lookOk
    rw [Bool.or_eq_false_iff, beq_eq_false_iff_ne, beq_eq_false_iff_ne]
    exact ⟨he, by omega⟩
  unfold lookSn lookX
  rw [e, hf]
  exact ⟨rfl, rfl, rfl⟩
theorem look_end {n : Nt} {l : List (List Kp)} {now : Int} {name token ca : Bs} {need : Int} (h : ¬ ((l.length : Int) ≠ n.N ∨ need < 1 ∨ n.N < need))
    (hok : ∀ j w, j < l.length → (lookVs n l now name token ca)[j]? = some w → w.E = 0) :
    lookE n l now name token ca need = (if votesN (ysA n l now name token ca l.length) < need then 230 else 0) ∧ lookSn n l now name token ca need = ⟨name, now, ysA n l now name token ca l.length⟩ ∧ lookX n l now name token ca need = xsA n l now name token ca l.length := by
  have hlen : (lookVs n l now name token ca).length = l.length := lookG_len l 0
  have ht : (lookVs n l now name token ca).take l.length = lookVs n l now name token ca := List.take_of_length_le (by omega)
  have h0 : firstE (lookVs n l now name token ca) = 0 := firstE_zero.2 fun v hv => by
    obtain ⟨j, hj⟩ := List.mem_iff_getElem?.1 hv
    exact hok j v (by have := (List.getElem?_eq_some_iff.1 hj).1; omega) hj
  have e : lookE n l now name token ca need = (if votesN (ysA n l now name token ca l.length) < need then 230 else 0) := by
    unfold lookE ysA
    rw [if_neg h, if_neg (by omega), ht]
  have hk : lookOk (lookE n l now name token ca need) = true := by rw [e]; split <;> rfl
  refine ⟨e, ?_, ?_⟩
  · unfold lookSn lookS
    rw [hk]
    unfold ysA
    rw [ht]; rfl
  · unfold lookX
    rw [hk]
    unfold xsA
    rw [ht]; rfl
theorem ys_step {n : Nt} {l : List (List Kp)} {now : Int} {name token ca : Bs} {i : Nat} {L : List Kp} (h : l[i]? = some L) :
    ysA n l now name token ca (i + 1) = ysA n l now name token ca i ++ [(voteV n (i : Int) L now name token ca).Y] ∧ xsA n l now name token ca (i + 1) = xsA n l now name token ca i ++ [(voteV n (i : Int) L now name token ca).C] := by
  unfold ysA xsA
  rw [List.take_add_one, lookVs_at h, List.map_append, List.map_append]
  exact ⟨rfl, rfl⟩
theorem ys_len {n : Nt} {l : List (List Kp)} {now : Int} {name token ca : Bs} {i : Nat} : (ysA n l now name token ca i).length ≤ i ∧ (xsA n l now name token ca i).length ≤ i := by
  unfold ysA xsA
  simp
  omega
theorem lk_go {n : Nt} {l : List (List Kp)} {now : Int} {name token ca : Bs} {i : Nat} {L : List Kp} (h : l[i]? = some L) (he : (voteV n (i : Int) L now name token ca).E = 0)
    (hok : ∀ j w, j < i → (lookVs n l now name token ca)[j]? = some w → w.E = 0) : ∀ j w, j < i + 1 → (lookVs n l now name token ca)[j]? = some w → w.E = 0 := fun j w hj hw => by
  by_cases hji : j = i
  · subst hji
    rw [lookVs_at h] at hw
    rw [← Option.some.inj hw]; exact he
  · exact hok j w (by omega) hw
theorem againOT {E : Sit} {ι : Type} {I : ι → St} {m : ι → Nat} {i : ι} {st : St} (n o off k t : Nat) (j : ι) (hm : m j < m i) (h : Same E.pin [(n, ownAt st o off), (k, ownT st t)] st (I j)) : Again E I m i st := againR _ j hm h
set_option maxHeartbeats 4000000 in
theorem look23_ok (n : Nt) (hz : Sz n) (l : List (List Kp)) (hl : l.length ≤ 1000) (hc : ∀ L ∈ l, Cz L) (now : Int) (name : Bs) (hn : name.length ≤ 1000000) (token ca : Bs) (need : Int) :
    Meets Tryz.prog 10 [n.arg, (false, [vD (csD l)]), (false, [vI now]), (false, [vS name]), (false, [vS token]), (false, [vS ca]), (false, [vI need])]
      (rTup [(lookSn n l now name token ca need).arg, (false, [vD (csD (lookX n l now name token ca need))]), (false, [vI (lookE n l now name token ca need)])]) := by
  by_cases ha : (l.length : Int) ≠ n.N ∨ need < 1 ∨ n.N < need
  · obtain ⟨e1, e2, e3⟩ := look_arg (name := name) (token := token) (ca := ca) (now := now) ha
    refine meetsF Tryz.func10 rfl rfl Tryz.ntmps10 Tryz.results10 rfl ?_
    simp -dsimp -implicitDefEqProofs only [e1, e2, e3, go_sem, ↓reduceIte, reduceCtorEq, rn1, rn2, rn3, rn4, rn5, rn6, rn7, ri1, ri2, ri3, ri4, ri5]
    repeat' (first | with_reducible apply And.intro | with_reducible intro _ | with_reducible exact drawn (by kernel_rfl) | omega)
    all_goals first
      | (exfalso; omega)
      | (refine retF [] ?_
         simp -dsimp -implicitDefEqProofs only [go_sem, ↓reduceIte, reduceCtorEq, rn1, rn2, rn3, rn4, rn5, rn6, rn7, ri1, ri2, ri3, ri4, ri5]
         done)
  · refine meetsF Tryz.func10 rfl rfl Tryz.ntmps10 Tryz.results10 rfl ?_
    have a1 : (l.length : Int) = n.N := by omega
    have a2 : ¬ need < 1 := by omega
    have a3 : ¬ n.N < need := by omega
    simp -dsimp -implicitDefEqProofs only [a1, a2, a3, go_sem, ↓reduceIte, reduceCtorEq, rn1, rn2, rn3, rn4, rn5, rn6, rn7, ri1, ri2, ri3, ri4, ri5]
    refine vown 8 2 4 rfl ?_
    simp -dsimp -implicitDefEqProofs only [go_sem, ↓reduceIte, reduceCtorEq, rn1, rn2, rn3, rn4, rn5, rn6, rn7, ri1, ri2, ri3, ri4, ri5]
    refine vownE 15 50 rfl ?_
    simp -dsimp -implicitDefEqProofs only [go_sem, ↓reduceIte, reduceCtorEq, rn1, rn2, rn3, rn4, rn5, rn6, rn7, ri1, ri2, ri3, ri4, ri5]
    refine vforR sitOk [(400, 224), (401, 225)] (ι := LkInv n l now name token ca) (fun v => ⟨88, [(44, aI v.i), (43, aI n.N), (42, aD (csD l)), (16, aI 0), (15, aO 401), (14, aP 8 0), (7, aP 0 0), (2, aI now), (3, aS name), (4, aS token), (5, aS ca), (6, aI need)],
      [(400, some (.row 1 4 ((ysA n l now name token ca v.i).map rowB) true)), (401, some (.row 1 50 ((xsA n l now name token ca v.i).map rowC) true)), (8, some (.var [cS name, cI now, .own 400] true)), (0, some (.var [cD (svsD n.V), cI n.N, cD (bnsD n.B), cD (cksD n.C)] true))], 500⟩) (fun v => l.length - v.i) ⟨0, by omega, fun j w hj => by omega⟩ ?_ ?_
    · simp -dsimp -implicitDefEqProofs only [go_sem, ↓reduceIte, reduceCtorEq, rn1, rn2, rn3, rn4, rn5, rn6, rn7, ri1, ri2, ri3, ri4, ri5]
      exact ⟨rfl, rfl⟩
    intro ⟨i, hi, hok⟩
    have hyl := ys_len (n := n) (l := l) (now := now) (name := name) (token := token) (ca := ca) (i := i)
    simp -dsimp -implicitDefEqProofs only [a1, go_sem, ↓reduceIte, reduceCtorEq, rn1, rn2, rn3, rn4, rn5, rn6, rn7, ri1, ri2, ri3, ri4, ri5]
    refine ⟨fun hlt => ?_, fun hge => ?_⟩
    · have hil : i < l.length := by omega
      obtain ⟨x, hx⟩ : ∃ x, l[i]? = some x := ⟨_, List.getElem?_eq_getElem hil⟩
      have hw := wrapS hil (by omega)
      have hcx := hc x (List.mem_of_getElem? hx)
      have hst := ys_step (n := n) (now := now) (name := name) (token := token) (ca := ca) hx
      have hll := findL_len n (i : Nat) hcx now (atN name) 1
      have hcz := fc14_cz n (i : Nat) x now (atN name) 1
      simp -dsimp -implicitDefEqProofs only [hx, forall_eq', hw, go_sem, ↓reduceIte, reduceCtorEq, rn1, rn2, rn3, rn4, rn5, rn6, rn7, ri1, ri2, ri3, ri4, ri5]
      refine ⟨by omega, hil, ?_⟩
      refine callW rfl Tryz.func36 rfl rfl Tryz.ntmps36 Tryz.results36 rfl ?_
      simp -dsimp -implicitDefEqProofs only [retH, go_sem, ↓reduceIte, reduceCtorEq, rn1, rn2, rn3, rn4, rn5, rn6, rn7, ri1, ri2, ri3, ri4, ri5]
      refine callP (at23_ok name hn) ?_
      simp -dsimp -implicitDefEqProofs only [retH, go_sem, ↓reduceIte, reduceCtorEq, rn1, rn2, rn3, rn4, rn5, rn6, rn7, ri1, ri2, ri3, ri4, ri5]
      refine callW rfl Tryz.func90 rfl rfl Tryz.ntmps90 Tryz.results90 rfl ?_
      simp -dsimp -implicitDefEqProofs only [retH, go_sem, ↓reduceIte, reduceCtorEq, rn1, rn2, rn3, rn4, rn5, rn6, rn7, ri1, ri2, ri3, ri4, ri5]
      have hff := find14_ok n hz (i : Nat) x hcx now (atN name) 1
      by_cases q1 : findE n (i : Nat) x now (atN name) 1 = 131
      · have hv := voteV_none (token := token) (ca := ca) (.inl q1)
        refine callP hff ?_
        simp -dsimp -implicitDefEqProofs only [q1, retH, go_sem, ↓reduceIte, reduceCtorEq, rn1, rn2, rn3, rn4, rn5, rn6, rn7, ri1, ri2, ri3, ri4, ri5]
        refine ⟨drawn (by kernel_rfl), ⟨by omega, by omega⟩, ⟨by omega, by omega⟩, againOT 400 8 2 401 15 ⟨i + 1, by omega, lk_go hx (by rw [hv]) hok⟩ (by simp; omega) ?_⟩
        simp -dsimp -implicitDefEqProofs only [hw, hst.1, hst.2, hv, List.map_append, List.map_cons, List.map_nil, go_sem, ↓reduceIte, reduceCtorEq, rn1, rn2, rn3, rn4, rn5, rn6, rn7, ri1, ri2, ri3, ri4, ri5]
      · by_cases q2 : findE n (i : Nat) x now (atN name) 1 = 130
        · have hv := voteV_none (token := token) (ca := ca) (.inr q2)
          refine callP hff ?_
          simp -dsimp -implicitDefEqProofs only [q1, q2, retH, go_sem, ↓reduceIte, reduceCtorEq, rn1, rn2, rn3, rn4, rn5, rn6, rn7, ri1, ri2, ri3, ri4, ri5]
          refine ⟨drawn (by kernel_rfl), ⟨by omega, by omega⟩, ⟨by omega, by omega⟩, againOT 400 8 2 401 15 ⟨i + 1, by omega, lk_go hx (by rw [hv]) hok⟩ (by simp; omega) ?_⟩
          simp -dsimp -implicitDefEqProofs only [hw, hst.1, hst.2, hv, List.map_append, List.map_cons, List.map_nil, go_sem, ↓reduceIte, reduceCtorEq, rn1, rn2, rn3, rn4, rn5, rn6, rn7, ri1, ri2, ri3, ri4, ri5]
        · by_cases q3 : findE n (i : Nat) x now (atN name) 1 = 0
          · cases hb : hasB (findL n (i : Nat) x now (atN name) 1) token with
            | false =>
              have hv := voteV_no (token := token) (ca := ca) q3 hb
              refine callP hff ?_
              simp -dsimp -implicitDefEqProofs only [q1, q2, q3, retH, go_sem, ↓reduceIte, reduceCtorEq, rn1, rn2, rn3, rn4, rn5, rn6, rn7, ri1, ri2, ri3, ri4, ri5]
              refine ⟨drawn (by kernel_rfl), ?_⟩
              refine callW rfl Tryz.func92 rfl rfl Tryz.ntmps92 Tryz.results92 rfl ?_
              simp -dsimp -implicitDefEqProofs only [retH, go_sem, ↓reduceIte, reduceCtorEq, rn1, rn2, rn3, rn4, rn5, rn6, rn7, ri1, ri2, ri3, ri4, ri5]
              refine callZ2 1100 [false, false] sitOk rfl ?_
              simp -dsimp -implicitDefEqProofs only [go_sem, ↓reduceIte, reduceCtorEq, rn1, rn2, rn3, rn4, rn5, rn6, rn7, ri1, ri2, ri3, ri4, ri5]
              refine ⟨_, cont23_ok _ (by omega) token, ?_⟩
              simp -dsimp -implicitDefEqProofs only [q3, hb, retH, go_sem, ↓reduceIte, reduceCtorEq, rn1, rn2, rn3, rn4, rn5, rn6, rn7, ri1, ri2, ri3, ri4, ri5]
              refine ⟨⟨by omega, by omega⟩, ⟨by omega, by omega⟩, againOT 400 8 2 401 15 ⟨i + 1, by omega, lk_go hx (by rw [hv]) hok⟩ (by simp; omega) ?_⟩
              simp -dsimp -implicitDefEqProofs only [hw, hst.1, hst.2, hv, List.map_append, List.map_cons, List.map_nil, go_sem, ↓reduceIte, reduceCtorEq, rn1, rn2, rn3, rn4, rn5, rn6, rn7, ri1, ri2, ri3, ri4, ri5]
            | true =>
              have hv := voteV_yes (ca := ca) q3 hb
              refine callP hff ?_
              simp -dsimp -implicitDefEqProofs only [q1, q2, q3, retH, go_sem, ↓reduceIte, reduceCtorEq, rn1, rn2, rn3, rn4, rn5, rn6, rn7, ri1, ri2, ri3, ri4, ri5]
              refine ⟨drawn (by kernel_rfl), ?_⟩
              refine callW rfl Tryz.func92 rfl rfl Tryz.ntmps92 Tryz.results92 rfl ?_
              simp -dsimp -implicitDefEqProofs only [retH, go_sem, ↓reduceIte, reduceCtorEq, rn1, rn2, rn3, rn4, rn5, rn6, rn7, ri1, ri2, ri3, ri4, ri5]
              refine callZ2 1100 [false, false] sitOk rfl ?_
              simp -dsimp -implicitDefEqProofs only [go_sem, ↓reduceIte, reduceCtorEq, rn1, rn2, rn3, rn4, rn5, rn6, rn7, ri1, ri2, ri3, ri4, ri5]
              refine ⟨_, cont23_ok _ (by omega) token, ?_⟩
              simp -dsimp -implicitDefEqProofs only [q3, hb, retH, go_sem, ↓reduceIte, reduceCtorEq, rn1, rn2, rn3, rn4, rn5, rn6, rn7, ri1, ri2, ri3, ri4, ri5]
              refine callW rfl Tryz.func93 rfl rfl Tryz.ntmps93 Tryz.results93 rfl ?_
              simp -dsimp -implicitDefEqProofs only [retH, go_sem, ↓reduceIte, reduceCtorEq, rn1, rn2, rn3, rn4, rn5, rn6, rn7, ri1, ri2, ri3, ri4, ri5]
              refine callW rfl Tryz.func168 rfl rfl Tryz.ntmps168 Tryz.results168 rfl ?_
              simp -dsimp -implicitDefEqProofs only [retH, go_sem, ↓reduceIte, reduceCtorEq, rn1, rn2, rn3, rn4, rn5, rn6, rn7, ri1, ri2, ri3, ri4, ri5]
              obtain ⟨W, hW⟩ : ∃ W, W = caaV n (i : Int) (findC n (i : Int) x now (atN name) 1) now name ca := ⟨_, rfl⟩
              rw [← hW] at hv
              refine vrange sitOk rfl [] [(3, aP 1284 0), (5, aP 1292 0), (6, aP 1300 0), (7, aP 1308 0)] rfl rfl ?_ Tryz.func233 rfl rfl Tryz.ntmps233 Tryz.results233 rfl ?_
              · simp -dsimp -implicitDefEqProofs only [go_sem, ↓reduceIte, reduceCtorEq, rn1, rn2, rn3, rn4, rn5, rn6, rn7, ri1, ri2, ri3, ri4, ri5]
              simp -dsimp -implicitDefEqProofs only [go_sem, ↓reduceIte, reduceCtorEq, rn1, rn2, rn3, rn4, rn5, rn6, rn7, ri1, ri2, ri3, ri4, ri5]
              generalize hL : Lp.mk 30 _ _ _ _ _ = LP
              refine vfor sitOk (ι := CaInv n (i : Int) now ca W) (fun v => ⟨10, [(0, .cs false [.yld 1372]), (1, aP 1324 0)], [(1372, some (.lp LP)), (1324, some (.var [cS v.u] true)), (1308, some (.var [cI 0] true)), (1300, some (.var [cB false] true)), (1292, some (.var [cS ca] true)), (1284, some (.var [.ptr 596 0] true)),
                (596, some (.var [cD (kpsD v.L), cD (svsD n.V), cI n.N, cD (bnsD n.B), cD (cksD n.C), cI (i : Int), cI now] true)), (400, some (.row 1 4 ((ysA n l now name token ca i).map rowB) true)), (401, some (.row 1 50 ((xsA n l now name token ca i).map rowC) true)), (8, some (.var [cS name, cI now, .own 400] true)), (0, some (.var [cD (svsD n.V), cI n.N, cD (bnsD n.B), cD (cksD n.C)] true))], 2000⟩) (fun v => v.u.length) ⟨findC n (i : Int) x now (atN name) 1, name, hcz, hW⟩ ?_ ?_
              · simp -dsimp -implicitDefEqProofs only [← hL, go_sem, ↓reduceIte, reduceCtorEq, rn1, rn2, rn3, rn4, rn5, rn6, rn7, ri1, ri2, ri3, ri4, ri5]
              intro ⟨K, u, hkz, hE⟩
              simp -dsimp -implicitDefEqProofs only [go_sem, ↓reduceIte, reduceCtorEq, rn1, rn2, rn3, rn4, rn5, rn6, rn7, ri1, ri2, ri3, ri4, ri5]
              have hkl := findL_len n (i : Int) hkz now u 2
              have hkn := fc14_cz n (i : Int) K now u 2
              refine yieldW sitOk ?_
              simp -dsimp -implicitDefEqProofs only [← hL, go_sem, ↓reduceIte, reduceCtorEq, rn1, rn2, rn3, rn4, rn5, rn6, rn7, ri1, ri2, ri3, ri4, ri5]
              intro ro
              refine callW rfl Tryz.func90 rfl rfl Tryz.ntmps90 Tryz.results90 rfl ?_
              simp -dsimp -implicitDefEqProofs only [retH, ← hL, go_sem, ↓reduceIte, reduceCtorEq, rn1, rn2, rn3, rn4, rn5, rn6, rn7, ri1, ri2, ri3, ri4, ri5]
              have hgg := find14_ok n hz (i : Int) K hkz now u 2
              by_cases h0 : findE n (i : Int) K now u 2 = 0
              · rw [caaV_yes h0] at hE
                rw [hE] at hv
                have hv2 : voteV n (i : Int) x now name token ca = ⟨hasB (findL n (i : Int) K now u 2) ca, findC n (i : Int) K now u 2, 0⟩ := hv
                refine callP hgg ?_
                simp -dsimp -implicitDefEqProofs only [h0, retH, ← hL, go_sem, ↓reduceIte, reduceCtorEq, rn1, rn2, rn3, rn4, rn5, rn6, rn7, ri1, ri2, ri3, ri4, ri5]
                refine ⟨drawn (by kernel_rfl), ?_⟩
                refine callW rfl Tryz.func92 rfl rfl Tryz.ntmps92 Tryz.results92 rfl ?_
                simp -dsimp -implicitDefEqProofs only [retH, ← hL, go_sem, ↓reduceIte, reduceCtorEq, rn1, rn2, rn3, rn4, rn5, rn6, rn7, ri1, ri2, ri3, ri4, ri5]
                refine callZ2 2464 [false, false] sitOk rfl ?_
                simp -dsimp -implicitDefEqProofs only [go_sem, ↓reduceIte, reduceCtorEq, rn1, rn2, rn3, rn4, rn5, rn6, rn7, ri1, ri2, ri3, ri4, ri5]
                refine ⟨_, cont23_ok _ (by omega) ca, ?_⟩
                simp -dsimp -implicitDefEqProofs only [retH, ← hL, go_sem, ↓reduceIte, reduceCtorEq, rn1, rn2, rn3, rn4, rn5, rn6, rn7, ri1, ri2, ri3, ri4, ri5]
                refine ⟨⟨by omega, by omega⟩, ⟨by omega, by omega⟩, againOT 400 8 2 401 15 ⟨i + 1, by omega, lk_go hx (by rw [hv2]) hok⟩ (by simp; omega) ?_⟩
                simp -dsimp -implicitDefEqProofs only [hw, hst.1, hst.2, hv2, List.map_append, List.map_cons, List.map_nil, go_sem, ↓reduceIte, reduceCtorEq, rn1, rn2, rn3, rn4, rn5, rn6, rn7, ri1, ri2, ri3, ri4, ri5]
              · by_cases h1 : findE n (i : Int) K now u 2 = 131
                · by_cases hu : upB u = []
                  · rw [caaV_top h1 hu] at hE
                    rw [hE] at hv
                    have hv2 : voteV n (i : Int) x now name token ca = ⟨true, findC n (i : Int) K now u 2, 0⟩ := hv
                    refine callP hgg ?_
                    simp -dsimp -implicitDefEqProofs only [h1, retH, ← hL, go_sem, ↓reduceIte, reduceCtorEq, rn1, rn2, rn3, rn4, rn5, rn6, rn7, ri1, ri2, ri3, ri4, ri5]
                    refine ⟨drawn (by kernel_rfl), callP (up_ok u) ?_⟩
                    simp -dsimp -implicitDefEqProofs only [hu, retH, ← hL, go_sem, ↓reduceIte, reduceCtorEq, rn1, rn2, rn3, rn4, rn5, rn6, rn7, ri1, ri2, ri3, ri4, ri5]
                    refine ⟨⟨by omega, by omega⟩, ⟨by omega, by omega⟩, againOT 400 8 2 401 15 ⟨i + 1, by omega, lk_go hx (by rw [hv2]) hok⟩ (by simp; omega) ?_⟩
                    simp -dsimp -implicitDefEqProofs only [hw, hst.1, hst.2, hv2, List.map_append, List.map_cons, List.map_nil, go_sem, ↓reduceIte, reduceCtorEq, rn1, rn2, rn3, rn4, rn5, rn6, rn7, ri1, ri2, ri3, ri4, ri5]
                  · rw [caaV_up h1 hu] at hE
                    refine callP hgg ?_
                    simp -dsimp -implicitDefEqProofs only [h1, retH, ← hL, go_sem, ↓reduceIte, reduceCtorEq, rn1, rn2, rn3, rn4, rn5, rn6, rn7, ri1, ri2, ri3, ri4, ri5]
                    refine ⟨drawn (by kernel_rfl), callP (up_ok u) ?_⟩
                    simp -dsimp -implicitDefEqProofs only [hu, retH, ← hL, go_sem, ↓reduceIte, reduceCtorEq, rn1, rn2, rn3, rn4, rn5, rn6, rn7, ri1, ri2, ri3, ri4, ri5]
                    refine again ⟨findC n (i : Int) K now u 2, upB u, hkn, hE⟩ ?_ ?_
                    · exact upB_lt hu
                    · simp -dsimp -implicitDefEqProofs only [← hL, go_sem, ↓reduceIte, reduceCtorEq, rn1, rn2, rn3, rn4, rn5, rn6, rn7, ri1, ri2, ri3, ri4, ri5]
                · rw [caaV_bad h0 h1] at hE
                  rw [hE] at hv
                  simp only at hv
                  by_cases h2 : findE n (i : Int) K now u 2 = 130
                  · rw [if_pos h2] at hv
                    refine callP hgg ?_
                    simp -dsimp -implicitDefEqProofs only [h0, h1, h2, retH, ← hL, go_sem, ↓reduceIte, reduceCtorEq, rn1, rn2, rn3, rn4, rn5, rn6, rn7, ri1, ri2, ri3, ri4, ri5]
                    refine ⟨drawn (by kernel_rfl), ⟨by omega, by omega⟩, ⟨by omega, by omega⟩, againOT 400 8 2 401 15 ⟨i + 1, by omega, lk_go hx (by rw [hv]) hok⟩ (by simp; omega) ?_⟩
                    simp -dsimp -implicitDefEqProofs only [hw, hst.1, hst.2, hv, List.map_append, List.map_cons, List.map_nil, go_sem, ↓reduceIte, reduceCtorEq, rn1, rn2, rn3, rn4, rn5, rn6, rn7, ri1, ri2, ri3, ri4, ri5]
                  · rw [if_neg h2] at hv
                    have he : ¬ (voteV n (i : Int) x now name token ca).E = 0 := by rw [hv]; exact h0
                    obtain ⟨e1, e2, e3⟩ := look_err ha hx hok he
                    refine callP hgg ?_
                    simp -dsimp -implicitDefEqProofs only [h0, h1, h2, retH, ← hL, hv, e1, e2, e3, go_sem, ↓reduceIte, reduceCtorEq, rn1, rn2, rn3, rn4, rn5, rn6, rn7, ri1, ri2, ri3, ri4, ri5]
                    refine ⟨drawn (by kernel_rfl), retF [] ?_⟩
                    simp -dsimp -implicitDefEqProofs only [go_sem, ↓reduceIte, reduceCtorEq, rn1, rn2, rn3, rn4, rn5, rn6, rn7, ri1, ri2, ri3, ri4, ri5]
          · have hv := voteV_bad (token := token) (ca := ca) q1 q2 q3
            have he : ¬ (voteV n (i : Int) x now name token ca).E = 0 := by rw [hv]; exact q3
            obtain ⟨e1, e2, e3⟩ := look_err ha hx hok he
            refine callP hff ?_
            simp -dsimp -implicitDefEqProofs only [q1, q2, q3, retH, hv, e1, e2, e3, go_sem, ↓reduceIte, reduceCtorEq, rn1, rn2, rn3, rn4, rn5, rn6, rn7, ri1, ri2, ri3, ri4, ri5]
            refine ⟨drawn (by kernel_rfl), retF [] ?_⟩
            simp -dsimp -implicitDefEqProofs only [go_sem, ↓reduceIte, reduceCtorEq, rn1, rn2, rn3, rn4, rn5, rn6, rn7, ri1, ri2, ri3, ri4, ri5]
    · have hil : i = l.length := by omega
      subst hil
      obtain ⟨e1, e2, e3⟩ := look_end ha hok
      refine callP (votes23_ok ⟨name, now, ysA n l now name token ca l.length⟩ (by simp only; omega)) ?_
      simp -dsimp -implicitDefEqProofs only [e1, e2, e3, go_sem, ↓reduceIte, reduceCtorEq, rn1, rn2, rn3, rn4, rn5, rn6, rn7, ri1, ri2, ri3, ri4, ri5]
      refine ⟨fun hv => ?_, fun hv => ?_⟩
      · refine retF [400, 401] ?_
        simp -dsimp -implicitDefEqProofs only [hv, go_sem, ↓reduceIte, reduceCtorEq, rn1, rn2, rn3, rn4, rn5, rn6, rn7, ri1, ri2, ri3, ri4, ri5]
      · refine retF [400, 401] ?_
        simp -dsimp -implicitDefEqProofs only [hv, go_sem, ↓reduceIte, reduceCtorEq, rn1, rn2, rn3, rn4, rn5, rn6, rn7, ri1, ri2, ri3, ri4, ri5]
        rw [if_neg (by omega)]
end Go.Proofs.YtbgcpopmippbiaaGreatDoor
