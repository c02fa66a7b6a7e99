/- Generic functions of route: rises, find. server; the closures of Check. Generic functions of route: with. -/
import Derived.Test.YtbgcpopmippbiaaGreatDoorRA
open Nat renaming reduceLT → rn1, reduceLeDiff → rn2, reduceEqDiff → rn3, reduceAdd → rn4, reduceMul → rn5, reduceSub → rn6, reduceBEq → rn7
open Int renaming reduceLT → ri1, reduceLE → ri2, reduceEq → ri3, reduceBEq → ri4, reduceNeg → ri5
namespace Go.Proofs.YtbgcpopmippbiaaGreatDoor
open Go.Eng
set_option linter.unusedSimpArgs false
set_option maxRecDepth 10000

/-- Is a list in order, each once, and each right? -/
def risesAt {α : Type} (ord : α → α → Int) (right : α → Bool) (l : List α) : Nat → Bool
  | 0 => match l[0]? with
    | some x => right x
    | none => false
  | k + 1 => match l[k + 1]?, l[k]? with
    | some x, some p => right x && decide (ord p x < 0)
    | _, _ => false
def risesB {α : Type} (ord : α → α → Int) (right : α → Bool) (l : List α) : Bool := (List.range l.length).all (risesAt ord right l)
theorem rises_at0 {α : Type} (ord : α → α → Int) (right : α → Bool) {l : List α} {x : α} (h : l[0]? = some x) : risesAt ord right l 0 = right x := by
  simp only [risesAt, h]
theorem rises_atS {α : Type} (ord : α → α → Int) (right : α → Bool) {l : List α} {x p : α} {k : Nat} (h : l[k + 1]? = some x) (hp : l[k]? = some p) : risesAt ord right l (k + 1) = (right x && decide (ord p x < 0)) := by
  simp only [risesAt, h, hp]
theorem rises_bad {α : Type} {ord : α → α → Int} {right : α → Bool} {l : List α} {i : Nat} (hi : i < l.length) (h : risesAt ord right l i = false) : risesB ord right l = false :=
  all_bad (l := List.range l.length) (i := i) (x := i) (by simp [hi]) h
theorem risesB_true {α : Type} {ord : α → α → Int} {right : α → Bool} {l : List α} (h : ∀ j, j < l.length → risesAt ord right l j = true) : risesB ord right l = true :=
  List.all_eq_true.2 fun i hi => h i (List.mem_range.1 hi)
structure RsInv {α : Type} (ord : α → α → Int) (right : α → Bool) (l : List α) where
  i : Nat
  le : i ≤ l.length
  ok : ∀ j, j < i → risesAt ord right l j = true
theorem rises_iff {α κ : Type} {o : KO κ} {key : α → κ} {right : α → Bool} {l : List α} : risesB (fun x y => o.cmp (key x) (key y)) right l = true ↔ (∀ x ∈ l, right x = true) ∧ Ris o key l := by
  unfold risesB
  rw [List.all_eq_true]
  constructor
  · intro h
    have hat : ∀ i, i < l.length → risesAt (fun x y => o.cmp (key x) (key y)) right l i = true := fun i hi => h i (List.mem_range.2 hi)
    constructor
    · intro x hx
      obtain ⟨i, hi⟩ := List.mem_iff_getElem?.1 hx
      have hil := (List.getElem?_eq_some_iff.1 hi).1
      have := hat i hil
      match i with
      | 0 => rwa [rises_at0 _ _ hi] at this
      | k + 1 =>
        obtain ⟨p, hp⟩ : ∃ p, l[k]? = some p := ⟨_, List.getElem?_eq_getElem (by omega)⟩
        rw [rises_atS _ _ hi hp, Bool.and_eq_true] at this
        exact this.1
    · refine ris_of fun i x y hx hy => ?_
      have hil := (List.getElem?_eq_some_iff.1 hy).1
      have := hat (i + 1) hil
      rw [rises_atS _ _ hy hx, Bool.and_eq_true, decide_eq_true_eq] at this
      exact this.2
  · intro ⟨h1, h2⟩ i hi
    have hil := List.mem_range.1 hi
    obtain ⟨x, hx⟩ : ∃ x, l[i]? = some x := ⟨_, List.getElem?_eq_getElem hil⟩
    match i with
    | 0 => rw [rises_at0 _ _ hx]; exact h1 x (List.mem_of_getElem? hx)
    | k + 1 =>
      obtain ⟨p, hp⟩ : ∃ p, l[k]? = some p := ⟨_, List.getElem?_eq_getElem (by omega)⟩
      rw [rises_atS _ _ hx hp, h1 x (List.mem_of_getElem? hx), decide_eq_true (ris_at h2 (Nat.lt_succ_self k) hp hx)]
      rfl

/-- route.rises. (risesZ) -/
theorem risesZ_ok (l : List Zn) (hl : l.length ≤ 1000000) (fo fr : FuncId) (ord : Zn → Zn → Int) (right : Zn → Bool)
    (ho : ∀ x y : Zn, Meets Tryz.prog fo [x.arg, y.arg] (rOne (vI (ord x y)))) (hr : ∀ x ∈ l, Meets Tryz.prog fr ([x.arg]) (rOne (vB (right x)))) :
    Meets Tryz.prog 98 [(false, [vD (.vec 2 (l.map Zn.cells))]), (false, [vD (.fn fo [])]), (false, [vD (.fn fr [])])] (rOne (vB (risesB ord right l))) := by
  refine meets Tryz.func98 rfl rfl Tryz.ntmps98 Tryz.results98 rfl ?_
  simp -dsimp -implicitDefEqProofs only [go_sem, ↓reduceIte, reduceCtorEq, rn1, rn2, rn3, rn4, rn5, rn6, rn7, ri1, ri2, ri3, ri4, ri5]
  refine vfor sitOk (ι := RsInv ord right l) (fun v => ⟨36, [(11, aI v.i), (10, aI l.length), (9, aD (.vec 2 (l.map Zn.cells))), (0, aD (.vec 2 (l.map Zn.cells))), (1, aD (.fn fo [])), (2, aD (.fn fr []))], [], 8⟩) (fun v => l.length - v.i) ⟨0, by omega, fun j hj => by omega⟩ ?_ ?_
  · simp -dsimp -implicitDefEqProofs only [go_sem, ↓reduceIte, reduceCtorEq, rn1, rn2, rn3, rn4, rn5, rn6, rn7, ri1, ri2, ri3, ri4, ri5]
  intro ⟨i, hi, hok⟩
  simp -dsimp -implicitDefEqProofs only [go_sem, ↓reduceIte, reduceCtorEq, rn1, rn2, rn3, rn4, rn5, rn6, rn7, ri1, ri2, ri3, ri4, ri5]
  refine ⟨fun hlt => ?_, fun hge => ?_⟩
  · have hil : i < l.length := by omega
    obtain ⟨x, hx⟩ : ∃ x, l[i]? = some x := ⟨_, List.getElem?_eq_getElem hil⟩
    have hw := wrapS hil (by omega)
    have hrx := hr x (List.mem_of_getElem? hx)
    have hnext : risesAt ord right l i = true → ∀ j, j < i + 1 → risesAt ord right l j = true := fun h j hj => by
      by_cases hji : j = i
      · rw [hji]; exact h
      · exact hok j (by omega)
    by_cases h0 : i = 0
    · have hat : risesAt ord right l i = right x := by subst h0; exact rises_at0 ord right hx
      have hz : ¬ (0 : Int) < (i : Int) := by omega
      simp -dsimp -implicitDefEqProofs only [hx, forall_eq', hw, hz, go_sem, ↓reduceIte, reduceCtorEq, rn1, rn2, rn3, rn4, rn5, rn6, rn7, ri1, ri2, ri3, ri4, ri5]
      refine ⟨by omega, hil, callP hrx ?_⟩
      simp -dsimp -implicitDefEqProofs only [hw, hz, go_sem, ↓reduceIte, reduceCtorEq, rn1, rn2, rn3, rn4, rn5, rn6, rn7, ri1, ri2, ri3, ri4, ri5]
      refine ⟨fun h => ?_, fun h => ?_⟩
      · refine ⟨drawn (by kernel_rfl), again ⟨i + 1, by omega, hnext (by rw [hat, h])⟩ (by simp; omega) ?_⟩
        simp -dsimp -implicitDefEqProofs only [hw, go_sem, ↓reduceIte, reduceCtorEq, rn1, rn2, rn3, rn4, rn5, rn6, rn7, ri1, ri2, ri3, ri4, ri5]
      · exact ⟨drawn (by kernel_rfl), (rises_bad hil (by rw [hat, h])).symm⟩
    · obtain ⟨p, hp⟩ : ∃ p, l[i - 1]? = some p := ⟨_, List.getElem?_eq_getElem (by omega)⟩
      have hat : risesAt ord right l i = (right x && decide (ord p x < 0)) := by
        obtain ⟨k, rfl⟩ : ∃ k, i = k + 1 := ⟨i - 1, by omega⟩
        exact rises_atS ord right hx hp
      have hw2 : IntKind.i64.wrap ((i : Int) - 1) = ((i - 1 : Nat) : Int) := by rw [wrap64] <;> omega
      have hz : (0 : Int) < (i : Int) := by omega
      simp -dsimp -implicitDefEqProofs only [hx, forall_eq', hw, hw2, hp, hz, go_sem, ↓reduceIte, reduceCtorEq, rn1, rn2, rn3, rn4, rn5, rn6, rn7, ri1, ri2, ri3, ri4, ri5]
      refine ⟨by omega, hil, callP hrx ?_⟩
      simp -dsimp -implicitDefEqProofs only [hw, hw2, hp, hz, forall_eq', go_sem, ↓reduceIte, reduceCtorEq, rn1, rn2, rn3, rn4, rn5, rn6, rn7, ri1, ri2, ri3, ri4, ri5]
      refine ⟨fun h => ⟨by omega, by omega, callP (ho p x) ?_⟩, fun h => ⟨drawn (by kernel_rfl), (rises_bad hil (by rw [hat, h]; rfl)).symm⟩⟩
      simp -dsimp -implicitDefEqProofs only [hw, go_sem, ↓reduceIte, reduceCtorEq, rn1, rn2, rn3, rn4, rn5, rn6, rn7, ri1, ri2, ri3, ri4, ri5]
      refine ⟨drawn (by kernel_rfl), fun h2 => ?_, fun h2 => ?_⟩
      · exact (rises_bad hil (by rw [hat, h, decide_eq_false (by omega)]; rfl)).symm
      · refine again ⟨i + 1, by omega, hnext (by rw [hat, h, decide_eq_true (by omega)]; rfl)⟩ (by simp; omega) ?_
        simp -dsimp -implicitDefEqProofs only [hw, go_sem, ↓reduceIte, reduceCtorEq, rn1, rn2, rn3, rn4, rn5, rn6, rn7, ri1, ri2, ri3, ri4, ri5]
  · have hil : i = l.length := by omega
    subst hil
    rw [risesB_true hok]

/-- route.rises. (risesB) -/
theorem risesB_ok (l : List Bn) (hl : l.length ≤ 1000000) (fo fr : FuncId) (ord : Bn → Bn → Int) (right : Bn → Bool)
    (ho : ∀ x y : Bn, Meets Tryz.prog fo [x.arg, y.arg] (rOne (vI (ord x y)))) (n : Nt)(hr : ∀ x ∈ l, Meets Tryz.prog fr ([x.arg, (false, [vD (.pt n.cells)])]) (rOne (vB (right x)))) :
    Meets Tryz.prog 100 [(false, [vD (.vec 3 (l.map Bn.cells))]), (false, [vD (.fn fo [])]), (false, [vD (.fn fr [.pt n.cells])])] (rOne (vB (risesB ord right l))) := by
  refine meets Tryz.func100 rfl rfl Tryz.ntmps100 Tryz.results100 rfl ?_
  simp -dsimp -implicitDefEqProofs only [go_sem, ↓reduceIte, reduceCtorEq, rn1, rn2, rn3, rn4, rn5, rn6, rn7, ri1, ri2, ri3, ri4, ri5]
  refine vfor sitOk (ι := RsInv ord right l) (fun v => ⟨36, [(11, aI v.i), (10, aI l.length), (9, aD (.vec 3 (l.map Bn.cells))), (0, aD (.vec 3 (l.map Bn.cells))), (1, aD (.fn fo [])), (2, aD (.fn fr [.pt n.cells]))], [], 8⟩) (fun v => l.length - v.i) ⟨0, by omega, fun j hj => by omega⟩ ?_ ?_
  · simp -dsimp -implicitDefEqProofs only [go_sem, ↓reduceIte, reduceCtorEq, rn1, rn2, rn3, rn4, rn5, rn6, rn7, ri1, ri2, ri3, ri4, ri5]
  intro ⟨i, hi, hok⟩
  simp -dsimp -implicitDefEqProofs only [go_sem, ↓reduceIte, reduceCtorEq, rn1, rn2, rn3, rn4, rn5, rn6, rn7, ri1, ri2, ri3, ri4, ri5]
  refine ⟨fun hlt => ?_, fun hge => ?_⟩
  · have hil : i < l.length := by omega
    obtain ⟨x, hx⟩ : ∃ x, l[i]? = some x := ⟨_, List.getElem?_eq_getElem hil⟩
    have hw := wrapS hil (by omega)
    have hrx := hr x (List.mem_of_getElem? hx)
    have hnext : risesAt ord right l i = true → ∀ j, j < i + 1 → risesAt ord right l j = true := fun h j hj => by
      by_cases hji : j = i
      · rw [hji]; exact h
      · exact hok j (by omega)
    by_cases h0 : i = 0
    · have hat : risesAt ord right l i = right x := by subst h0; exact rises_at0 ord right hx
      have hz : ¬ (0 : Int) < (i : Int) := by omega
      simp -dsimp -implicitDefEqProofs only [hx, forall_eq', hw, hz, go_sem, ↓reduceIte, reduceCtorEq, rn1, rn2, rn3, rn4, rn5, rn6, rn7, ri1, ri2, ri3, ri4, ri5]
      refine ⟨by omega, hil, callP hrx ?_⟩
      simp -dsimp -implicitDefEqProofs only [hw, hz, go_sem, ↓reduceIte, reduceCtorEq, rn1, rn2, rn3, rn4, rn5, rn6, rn7, ri1, ri2, ri3, ri4, ri5]
      refine ⟨fun h => ?_, fun h => ?_⟩
      · refine ⟨drawn (by kernel_rfl), again ⟨i + 1, by omega, hnext (by rw [hat, h])⟩ (by simp; omega) ?_⟩
        simp -dsimp -implicitDefEqProofs only [hw, go_sem, ↓reduceIte, reduceCtorEq, rn1, rn2, rn3, rn4, rn5, rn6, rn7, ri1, ri2, ri3, ri4, ri5]
      · exact ⟨drawn (by kernel_rfl), (rises_bad hil (by rw [hat, h])).symm⟩
    · obtain ⟨p, hp⟩ : ∃ p, l[i - 1]? = some p := ⟨_, List.getElem?_eq_getElem (by omega)⟩
      have hat : risesAt ord right l i = (right x && decide (ord p x < 0)) := by
        obtain ⟨k, rfl⟩ : ∃ k, i = k + 1 := ⟨i - 1, by omega⟩
        exact rises_atS ord right hx hp
      have hw2 : IntKind.i64.wrap ((i : Int) - 1) = ((i - 1 : Nat) : Int) := by rw [wrap64] <;> omega
      have hz : (0 : Int) < (i : Int) := by omega
      simp -dsimp -implicitDefEqProofs only [hx, forall_eq', hw, hw2, hp, hz, go_sem, ↓reduceIte, reduceCtorEq, rn1, rn2, rn3, rn4, rn5, rn6, rn7, ri1, ri2, ri3, ri4, ri5]
      refine ⟨by omega, hil, callP hrx ?_⟩
      simp -dsimp -implicitDefEqProofs only [hw, hw2, hp, hz, forall_eq', go_sem, ↓reduceIte, reduceCtorEq, rn1, rn2, rn3, rn4, rn5, rn6, rn7, ri1, ri2, ri3, ri4, ri5]
      refine ⟨fun h => ⟨by omega, by omega, callP (ho p x) ?_⟩, fun h => ⟨drawn (by kernel_rfl), (rises_bad hil (by rw [hat, h]; rfl)).symm⟩⟩
      simp -dsimp -implicitDefEqProofs only [hw, go_sem, ↓reduceIte, reduceCtorEq, rn1, rn2, rn3, rn4, rn5, rn6, rn7, ri1, ri2, ri3, ri4, ri5]
      refine ⟨drawn (by kernel_rfl), fun h2 => ?_, fun h2 => ?_⟩
      · exact (rises_bad hil (by rw [hat, h, decide_eq_false (by omega)]; rfl)).symm
      · refine again ⟨i + 1, by omega, hnext (by rw [hat, h, decide_eq_true (by omega)]; rfl)⟩ (by simp; omega) ?_
        simp -dsimp -implicitDefEqProofs only [hw, go_sem, ↓reduceIte, reduceCtorEq, rn1, rn2, rn3, rn4, rn5, rn6, rn7, ri1, ri2, ri3, ri4, ri5]
  · have hil : i = l.length := by omega
    subst hil
    rw [risesB_true hok]

/-- route.rises. (risesC) -/
theorem risesC_ok (l : List Ck) (hl : l.length ≤ 1000000) (fo fr : FuncId) (ord : Ck → Ck → Int) (right : Ck → Bool)
    (ho : ∀ x y : Ck, Meets Tryz.prog fo [x.arg, y.arg] (rOne (vI (ord x y)))) (hr : ∀ x ∈ l, Meets Tryz.prog fr ([x.arg]) (rOne (vB (right x)))) :
    Meets Tryz.prog 102 [(false, [vD (.vec 2 (l.map Ck.cells))]), (false, [vD (.fn fo [])]), (false, [vD (.fn fr [])])] (rOne (vB (risesB ord right l))) := by
  refine meets Tryz.func102 rfl rfl Tryz.ntmps102 Tryz.results102 rfl ?_
  simp -dsimp -implicitDefEqProofs only [go_sem, ↓reduceIte, reduceCtorEq, rn1, rn2, rn3, rn4, rn5, rn6, rn7, ri1, ri2, ri3, ri4, ri5]
  refine vfor sitOk (ι := RsInv ord right l) (fun v => ⟨36, [(11, aI v.i), (10, aI l.length), (9, aD (.vec 2 (l.map Ck.cells))), (0, aD (.vec 2 (l.map Ck.cells))), (1, aD (.fn fo [])), (2, aD (.fn fr []))], [], 8⟩) (fun v => l.length - v.i) ⟨0, by omega, fun j hj => by omega⟩ ?_ ?_
  · simp -dsimp -implicitDefEqProofs only [go_sem, ↓reduceIte, reduceCtorEq, rn1, rn2, rn3, rn4, rn5, rn6, rn7, ri1, ri2, ri3, ri4, ri5]
  intro ⟨i, hi, hok⟩
  simp -dsimp -implicitDefEqProofs only [go_sem, ↓reduceIte, reduceCtorEq, rn1, rn2, rn3, rn4, rn5, rn6, rn7, ri1, ri2, ri3, ri4, ri5]
  refine ⟨fun hlt => ?_, fun hge => ?_⟩
  · have hil : i < l.length := by omega
    obtain ⟨x, hx⟩ : ∃ x, l[i]? = some x := ⟨_, List.getElem?_eq_getElem hil⟩
    have hw := wrapS hil (by omega)
    have hrx := hr x (List.mem_of_getElem? hx)
    have hnext : risesAt ord right l i = true → ∀ j, j < i + 1 → risesAt ord right l j = true := fun h j hj => by
      by_cases hji : j = i
      · rw [hji]; exact h
      · exact hok j (by omega)
    by_cases h0 : i = 0
    · have hat : risesAt ord right l i = right x := by subst h0; exact rises_at0 ord right hx
      have hz : ¬ (0 : Int) < (i : Int) := by omega
      simp -dsimp -implicitDefEqProofs only [hx, forall_eq', hw, hz, go_sem, ↓reduceIte, reduceCtorEq, rn1, rn2, rn3, rn4, rn5, rn6, rn7, ri1, ri2, ri3, ri4, ri5]
      refine ⟨by omega, hil, callP hrx ?_⟩
      simp -dsimp -implicitDefEqProofs only [hw, hz, go_sem, ↓reduceIte, reduceCtorEq, rn1, rn2, rn3, rn4, rn5, rn6, rn7, ri1, ri2, ri3, ri4, ri5]
      refine ⟨fun h => ?_, fun h => ?_⟩
      · refine ⟨drawn (by kernel_rfl), again ⟨i + 1, by omega, hnext (by rw [hat, h])⟩ (by simp; omega) ?_⟩
        simp -dsimp -implicitDefEqProofs only [hw, go_sem, ↓reduceIte, reduceCtorEq, rn1, rn2, rn3, rn4, rn5, rn6, rn7, ri1, ri2, ri3, ri4, ri5]
      · exact ⟨drawn (by kernel_rfl), (rises_bad hil (by rw [hat, h])).symm⟩
    · obtain ⟨p, hp⟩ : ∃ p, l[i - 1]? = some p := ⟨_, List.getElem?_eq_getElem (by omega)⟩
      have hat : risesAt ord right l i = (right x && decide (ord p x < 0)) := by
        obtain ⟨k, rfl⟩ : ∃ k, i = k + 1 := ⟨i - 1, by omega⟩
        exact rises_atS ord right hx hp
      have hw2 : IntKind.i64.wrap ((i : Int) - 1) = ((i - 1 : Nat) : Int) := by rw [wrap64] <;> omega
      have hz : (0 : Int) < (i : Int) := by omega
      simp -dsimp -implicitDefEqProofs only [hx, forall_eq', hw, hw2, hp, hz, go_sem, ↓reduceIte, reduceCtorEq, rn1, rn2, rn3, rn4, rn5, rn6, rn7, ri1, ri2, ri3, ri4, ri5]
      refine ⟨by omega, hil, callP hrx ?_⟩
      simp -dsimp -implicitDefEqProofs only [hw, hw2, hp, hz, forall_eq', go_sem, ↓reduceIte, reduceCtorEq, rn1, rn2, rn3, rn4, rn5, rn6, rn7, ri1, ri2, ri3, ri4, ri5]
      refine ⟨fun h => ⟨by omega, by omega, callP (ho p x) ?_⟩, fun h => ⟨drawn (by kernel_rfl), (rises_bad hil (by rw [hat, h]; rfl)).symm⟩⟩
      simp -dsimp -implicitDefEqProofs only [hw, go_sem, ↓reduceIte, reduceCtorEq, rn1, rn2, rn3, rn4, rn5, rn6, rn7, ri1, ri2, ri3, ri4, ri5]
      refine ⟨drawn (by kernel_rfl), fun h2 => ?_, fun h2 => ?_⟩
      · exact (rises_bad hil (by rw [hat, h, decide_eq_false (by omega)]; rfl)).symm
      · refine again ⟨i + 1, by omega, hnext (by rw [hat, h, decide_eq_true (by omega)]; rfl)⟩ (by simp; omega) ?_
        simp -dsimp -implicitDefEqProofs only [hw, go_sem, ↓reduceIte, reduceCtorEq, rn1, rn2, rn3, rn4, rn5, rn6, rn7, ri1, ri2, ri3, ri4, ri5]
  · have hil : i = l.length := by omega
    subst hil
    rw [risesB_true hok]

structure IxInv {α : Type} (f : α → Bool) (l : List α) where
  i : Nat
  le : i ≤ l.length
  no : ∀ j x, j < i → l[j]? = some x → f x = false
theorem find_at {α : Type} {f : α → Bool} {l : List α} {i : Nat} {x : α} (hx : l[i]? = some x) (h : f x = true) (hno : ∀ j x, j < i → l[j]? = some x → f x = false) : l.find? f = some x := by
  obtain ⟨hil, e⟩ := List.getElem?_eq_some_iff.1 hx
  rw [List.find?_eq_some_iff_getElem]
  exact ⟨h, i, hil, e, fun j hj => by rw [hno j l[j] hj (List.getElem?_eq_getElem (by omega))]; rfl⟩

/-- route.find. (findV) -/
theorem findVc_ok (fo : FuncId) (ord : Sv → Sv → Int) (ho : ∀ x y : Sv, Meets Tryz.prog fo [x.arg, y.arg] (rOne (vI (ord x y)))) (y x : Sv) :
    Meets Tryz.prog 222 [y.arg, (false, [vD (.pt [.fn fo []])]), (false, [vD (.pt x.cells)])] (rOne (vB (ord y x == 0))) := by
  refine meets Tryz.func222 rfl rfl Tryz.ntmps222 Tryz.results222 rfl ?_
  simp -dsimp -implicitDefEqProofs only [go_sem, ↓reduceIte, reduceCtorEq, rn1, rn2, rn3, rn4, rn5, rn6, rn7, ri1, ri2, ri3, ri4, ri5]
  refine callP (ho y x) ?_
  simp -dsimp -implicitDefEqProofs only [go_sem, ↓reduceIte, reduceCtorEq, rn1, rn2, rn3, rn4, rn5, rn6, rn7, ri1, ri2, ri3, ri4, ri5]
theorem findV_ok (l : List Sv) (hl : l.length ≤ 1000000) (fo : FuncId) (ord : Sv → Sv → Int) (ho : ∀ x y : Sv, Meets Tryz.prog fo [x.arg, y.arg] (rOne (vI (ord x y)))) (x : Sv) :
    Meets Tryz.prog 149 [(false, [vD (.vec 2 (l.map Sv.cells))]), x.arg, (false, [vD (.fn fo [])])] (rTup [((l.find? fun y => ord y x == 0).getD ⟨0, []⟩).arg, (false, [vB (l.find? fun y => ord y x == 0).isSome])]) := by
  refine meets Tryz.func149 rfl rfl Tryz.ntmps149 Tryz.results149 rfl ?_
  simp -dsimp -implicitDefEqProofs only [go_sem, ↓reduceIte, reduceCtorEq, rn1, rn2, rn3, rn4, rn5, rn6, rn7, ri1, ri2, ri3, ri4, ri5]
  refine callW rfl Tryz.func221 rfl rfl Tryz.ntmps221 Tryz.results221 rfl ?_
  simp -dsimp -implicitDefEqProofs only [retH, go_sem, ↓reduceIte, reduceCtorEq, rn1, rn2, rn3, rn4, rn5, rn6, rn7, ri1, ri2, ri3, ri4, ri5]
  refine vfreeze 0 rfl (vfreeze 8 rfl ?_)
  simp -dsimp -implicitDefEqProofs only [go_sem, ↓reduceIte, reduceCtorEq, rn1, rn2, rn3, rn4, rn5, rn6, rn7, ri1, ri2, ri3, ri4, ri5]
  refine vfor sitOk (ι := IxInv (fun y => ord y x == 0) l) (fun v => ⟨19, [(8, aI v.i), (7, aI l.length), (0, aD (.vec 2 (l.map Sv.cells))), (1, .cs false [.clo 222 [.ptr 8 0, .ptr 0 0]])], [(16, some (.var [cI 0, .nils 2] true)), (8, some (.var [cD (.fn fo [])] false)), (0, some (.var [cI x.A, cD (zonesD x.Z)] false))], 100⟩) (fun v => l.length - v.i) ⟨0, by omega, fun j x hj => by omega⟩ ?_ ?_
  · simp -dsimp -implicitDefEqProofs only [go_sem, ↓reduceIte, reduceCtorEq, rn1, rn2, rn3, rn4, rn5, rn6, rn7, ri1, ri2, ri3, ri4, ri5]
  intro ⟨i, hi, hno⟩
  simp -dsimp -implicitDefEqProofs only [go_sem, ↓reduceIte, reduceCtorEq, rn1, rn2, rn3, rn4, rn5, rn6, rn7, ri1, ri2, ri3, ri4, ri5]
  refine ⟨fun hlt => ?_, fun hge => ?_⟩
  · have hil : i < l.length := by omega
    obtain ⟨y, hx⟩ : ∃ y, l[i]? = some y := ⟨_, List.getElem?_eq_getElem hil⟩
    have hw := wrapS hil (by omega)
    simp -dsimp -implicitDefEqProofs only [hx, forall_eq', hw, go_sem, ↓reduceIte, reduceCtorEq, rn1, rn2, rn3, rn4, rn5, rn6, rn7, ri1, ri2, ri3, ri4, ri5]
    refine ⟨by omega, hil, callP (findVc_ok fo ord ho y x) ?_⟩
    cases hc : ord y x == 0 with
    | true =>
      have hf : (l.find? fun y => ord y x == 0) = some y := find_at hx hc hno
      rw [hf]
      simp -dsimp -implicitDefEqProofs only [retH, hw, hc, hx, forall_eq', go_sem, ↓reduceIte, reduceCtorEq, rn1, rn2, rn3, rn4, rn5, rn6, rn7, ri1, ri2, ri3, ri4, ri5]
      refine ⟨fun h => by omega, fun _ => ⟨by omega, hil, ?_⟩⟩
      simp
    | false =>
      simp -dsimp -implicitDefEqProofs only [hw, hc, go_sem, ↓reduceIte, reduceCtorEq, rn1, rn2, rn3, rn4, rn5, rn6, rn7, ri1, ri2, ri3, ri4, ri5]
      refine again ⟨i + 1, by omega, fun j z hj hz => ?_⟩ (by simp; omega) ?_
      · by_cases hji : j = i
        · subst hji; rw [hx] at hz; cases hz; exact hc
        · exact hno j z (by omega) hz
      · simp -dsimp -implicitDefEqProofs only [hw, go_sem, ↓reduceIte, reduceCtorEq, rn1, rn2, rn3, rn4, rn5, rn6, rn7, ri1, ri2, ri3, ri4, ri5]
  · have hil : i = l.length := by omega
    subst hil
    have hf : (l.find? fun y => ord y x == 0) = none := List.find?_eq_none.2 fun z hz => by
      obtain ⟨j, hj⟩ := List.mem_iff_getElem?.1 hz
      rw [hno j z (List.getElem?_eq_some_iff.1 hj).1 hj]; simp
    rw [hf]
    simp -dsimp -implicitDefEqProofs only [retH, go_sem, ↓reduceIte, reduceCtorEq, rn1, rn2, rn3, rn4, rn5, rn6, rn7, ri1, ri2, ri3, ri4, ri5]
    simp

/-- route.find. (findB) -/
theorem findBc_ok (fo : FuncId) (ord : Bn → Bn → Int) (ho : ∀ x y : Bn, Meets Tryz.prog fo [x.arg, y.arg] (rOne (vI (ord x y)))) (y x : Bn) :
    Meets Tryz.prog 235 [y.arg, (false, [vD (.pt [.fn fo []])]), (false, [vD (.pt x.cells)])] (rOne (vB (ord y x == 0))) := by
  refine meets Tryz.func235 rfl rfl Tryz.ntmps235 Tryz.results235 rfl ?_
  simp -dsimp -implicitDefEqProofs only [go_sem, ↓reduceIte, reduceCtorEq, rn1, rn2, rn3, rn4, rn5, rn6, rn7, ri1, ri2, ri3, ri4, ri5]
  refine callP (ho y x) ?_
  simp -dsimp -implicitDefEqProofs only [go_sem, ↓reduceIte, reduceCtorEq, rn1, rn2, rn3, rn4, rn5, rn6, rn7, ri1, ri2, ri3, ri4, ri5]
theorem findB_ok (l : List Bn) (hl : l.length ≤ 1000000) (fo : FuncId) (ord : Bn → Bn → Int) (ho : ∀ x y : Bn, Meets Tryz.prog fo [x.arg, y.arg] (rOne (vI (ord x y)))) (x : Bn) :
    Meets Tryz.prog 172 [(false, [vD (.vec 3 (l.map Bn.cells))]), x.arg, (false, [vD (.fn fo [])])] (rTup [((l.find? fun y => ord y x == 0).getD ⟨0, 0, 0⟩).arg, (false, [vB (l.find? fun y => ord y x == 0).isSome])]) := by
  refine meets Tryz.func172 rfl rfl Tryz.ntmps172 Tryz.results172 rfl ?_
  simp -dsimp -implicitDefEqProofs only [go_sem, ↓reduceIte, reduceCtorEq, rn1, rn2, rn3, rn4, rn5, rn6, rn7, ri1, ri2, ri3, ri4, ri5]
  refine callW rfl Tryz.func234 rfl rfl Tryz.ntmps234 Tryz.results234 rfl ?_
  simp -dsimp -implicitDefEqProofs only [retH, go_sem, ↓reduceIte, reduceCtorEq, rn1, rn2, rn3, rn4, rn5, rn6, rn7, ri1, ri2, ri3, ri4, ri5]
  refine vfreeze 0 rfl (vfreeze 8 rfl ?_)
  simp -dsimp -implicitDefEqProofs only [go_sem, ↓reduceIte, reduceCtorEq, rn1, rn2, rn3, rn4, rn5, rn6, rn7, ri1, ri2, ri3, ri4, ri5]
  refine vfor sitOk (ι := IxInv (fun y => ord y x == 0) l) (fun v => ⟨19, [(8, aI v.i), (7, aI l.length), (0, aD (.vec 3 (l.map Bn.cells))), (1, .cs false [.clo 235 [.ptr 8 0, .ptr 0 0]])], [(16, some (.var [cI 0, cI 0, cI 0] true)), (8, some (.var [cD (.fn fo [])] false)), (0, some (.var [cI x.S, cI x.F, cI x.T] false))], 100⟩) (fun v => l.length - v.i) ⟨0, by omega, fun j x hj => by omega⟩ ?_ ?_
  · simp -dsimp -implicitDefEqProofs only [go_sem, ↓reduceIte, reduceCtorEq, rn1, rn2, rn3, rn4, rn5, rn6, rn7, ri1, ri2, ri3, ri4, ri5]
  intro ⟨i, hi, hno⟩
  simp -dsimp -implicitDefEqProofs only [go_sem, ↓reduceIte, reduceCtorEq, rn1, rn2, rn3, rn4, rn5, rn6, rn7, ri1, ri2, ri3, ri4, ri5]
  refine ⟨fun hlt => ?_, fun hge => ?_⟩
  · have hil : i < l.length := by omega
    obtain ⟨y, hx⟩ : ∃ y, l[i]? = some y := ⟨_, List.getElem?_eq_getElem hil⟩
    have hw := wrapS hil (by omega)
    simp -dsimp -implicitDefEqProofs only [hx, forall_eq', hw, go_sem, ↓reduceIte, reduceCtorEq, rn1, rn2, rn3, rn4, rn5, rn6, rn7, ri1, ri2, ri3, ri4, ri5]
    refine ⟨by omega, hil, callP (findBc_ok fo ord ho y x) ?_⟩
    cases hc : ord y x == 0 with
    | true =>
      have hf : (l.find? fun y => ord y x == 0) = some y := find_at hx hc hno
      rw [hf]
      simp -dsimp -implicitDefEqProofs only [retH, hw, hc, hx, forall_eq', go_sem, ↓reduceIte, reduceCtorEq, rn1, rn2, rn3, rn4, rn5, rn6, rn7, ri1, ri2, ri3, ri4, ri5]
      refine ⟨fun h => by omega, fun _ => ⟨by omega, hil, ?_⟩⟩
      simp
    | false =>
      simp -dsimp -implicitDefEqProofs only [hw, hc, go_sem, ↓reduceIte, reduceCtorEq, rn1, rn2, rn3, rn4, rn5, rn6, rn7, ri1, ri2, ri3, ri4, ri5]
      refine again ⟨i + 1, by omega, fun j z hj hz => ?_⟩ (by simp; omega) ?_
      · by_cases hji : j = i
        · subst hji; rw [hx] at hz; cases hz; exact hc
        · exact hno j z (by omega) hz
      · simp -dsimp -implicitDefEqProofs only [hw, go_sem, ↓reduceIte, reduceCtorEq, rn1, rn2, rn3, rn4, rn5, rn6, rn7, ri1, ri2, ri3, ri4, ri5]
  · have hil : i = l.length := by omega
    subst hil
    have hf : (l.find? fun y => ord y x == 0) = none := List.find?_eq_none.2 fun z hz => by
      obtain ⟨j, hj⟩ := List.mem_iff_getElem?.1 hz
      rw [hno j z (List.getElem?_eq_some_iff.1 hj).1 hj]; simp
    rw [hf]
    simp -dsimp -implicitDefEqProofs only [retH, go_sem, ↓reduceIte, reduceCtorEq, rn1, rn2, rn3, rn4, rn5, rn6, rn7, ri1, ri2, ri3, ri4, ri5]
    simp

end Go.Proofs.YtbgcpopmippbiaaGreatDoor
namespace Go.Proofs.YtbgcpopmippbiaaGreatDoor
open Go.Eng
set_option linter.unusedSimpArgs false
set_option maxRecDepth 10000

def noV : Sv := ⟨0, []⟩
abbrev svF (n : Nt) (addr : Int) : Option Sv := findK koI kS n.V addr
def svG (n : Nt) (addr : Int) : Sv := (svF n addr).getD noV
theorem server_ok (n : Nt) (addr : Int) (hl : n.V.length ≤ 1000000) : Meets Tryz.prog 75 [n.arg, (false, [vI addr])] (rTup [(svG n addr).arg, (false, [vB (svF n addr).isSome])]) := by
  refine meets Tryz.func75 rfl rfl Tryz.ntmps75 Tryz.results75 rfl ?_
  simp -dsimp -implicitDefEqProofs only [go_sem, ↓reduceIte, reduceCtorEq, rn1, rn2, rn3, rn4, rn5, rn6, rn7, ri1, ri2, ri3, ri4, ri5]
  refine callP (findV_ok n.V hl _ (fun s t => cmpI s.A t.A) byAddr_ok ⟨addr, []⟩) ?_
  simp -dsimp -implicitDefEqProofs only [go_sem, ↓reduceIte, reduceCtorEq, rn1, rn2, rn3, rn4, rn5, rn6, rn7, ri1, ri2, ri3, ri4, ri5]
  exact ⟨⟨rfl, rfl⟩, rfl⟩
theorem odd2_ok (n : Int) : Meets Tryz.prog 170 [(false, [vR n])] (rOne (vB (decide (n < 33) || decide (126 < n)))) := by
  refine meets Tryz.func170 rfl rfl Tryz.ntmps170 Tryz.results170 rfl ?_
  simp -dsimp -implicitDefEqProofs only [go_sem, ↓reduceIte, reduceCtorEq, rn1, rn2, rn3, rn4, rn5, rn6, rn7, ri1, ri2, ri3, ri4, ri5]
  repeat' (first | with_reducible apply And.intro | with_reducible intro _ | with_reducible exact drawn (by kernel_rfl) | omega)
  all_goals simp [*]
  all_goals omega
theorem text_ok (l : Bs) : Meets Tryz.prog 105 [(false, [vS l])] (rOne (vB (plainB l))) := by
  refine meets Tryz.func105 rfl rfl Tryz.ntmps105 Tryz.results105 rfl ?_
  simp -dsimp -implicitDefEqProofs only [go_sem, ↓reduceIte, reduceCtorEq, rn1, rn2, rn3, rn4, rn5, rn6, rn7, ri1, ri2, ri3, ri4, ri5]
  repeat' (first | with_reducible apply And.intro | with_reducible intro _ | with_reducible exact drawn (by kernel_rfl) | (refine callP (containsOdd_ok _ _ odd2_ok) ?_; simp -dsimp -implicitDefEqProofs only [go_sem, ↓reduceIte, reduceCtorEq, rn1, rn2, rn3, rn4, rn5, rn6, rn7, ri1, ri2, ri3, ri4, ri5]) | omega)
  all_goals unfold plainB
  · rename_i h1 h2
    rw [Bool.not_not, decide_eq_true (List.length_pos_iff.2 h1), decide_eq_true (by omega)]; simp
  · rename_i h1 h2
    rw [show decide (l.length ≤ 64) = false from decide_eq_false (by omega)]; simp
  · rename_i h1
    rw [h1]; rfl
def addrB (a : Int) : Bool := decide (0 ≤ a) && decide (a < 8)
theorem address_ok (a : Int) : Meets Tryz.prog 74 [(false, [vI a])] (rOne (vB (addrB a))) := by
  refine meets Tryz.func74 rfl rfl Tryz.ntmps74 Tryz.results74 rfl ?_
  simp -dsimp -implicitDefEqProofs only [go_sem, ↓reduceIte, reduceCtorEq, rn1, rn2, rn3, rn4, rn5, rn6, rn7, ri1, ri2, ri3, ri4, ri5]
  repeat' (first | with_reducible apply And.intro | with_reducible intro _ | with_reducible exact drawn (by kernel_rfl) | omega)
  all_goals unfold addrB
  · rename_i h1
    rw [decide_eq_true h1]; rfl
  · rename_i h1
    rw [show decide (0 ≤ a) = false from decide_eq_false (by omega)]; rfl
def zoneB (z : Zn) : Bool := checkV z.A z.R == 0
theorem chkZ_ok (z : Zn) (hz : z.R.length ≤ 1000000) : Meets Tryz.prog 99 [z.arg] (rOne (vB (zoneB z))) := by
  refine meets Tryz.func99 rfl rfl Tryz.ntmps99 Tryz.results99 rfl ?_
  simp -dsimp -implicitDefEqProofs only [go_sem, ↓reduceIte, reduceCtorEq, rn1, rn2, rn3, rn4, rn5, rn6, rn7, ri1, ri2, ri3, ri4, ri5]
  refine callP (zcheck_ok z.A z.R hz) ?_
  simp -dsimp -implicitDefEqProofs only [go_sem, ↓reduceIte, reduceCtorEq, rn1, rn2, rn3, rn4, rn5, rn6, rn7, ri1, ri2, ri3, ri4, ri5]
  rfl
def bendB (n : Nt) (b : Bn) : Bool := decide (0 ≤ b.S) && decide (b.S < n.N) && (svF n b.F).isSome && (svF n b.T).isSome && !decide (b.F = b.T)
theorem chkB_ok (n : Nt) (b : Bn) (hl : n.V.length ≤ 1000000) : Meets Tryz.prog 101 [b.arg, (false, [vD (.pt n.cells)])] (rOne (vB (bendB n b))) := by
  refine meets Tryz.func101 rfl rfl Tryz.ntmps101 Tryz.results101 rfl ?_
  simp -dsimp -implicitDefEqProofs only [go_sem, ↓reduceIte, reduceCtorEq, rn1, rn2, rn3, rn4, rn5, rn6, rn7, ri1, ri2, ri3, ri4, ri5]
  refine callP (server_ok n b.F hl) ?_
  simp -dsimp -implicitDefEqProofs only [go_sem, ↓reduceIte, reduceCtorEq, rn1, rn2, rn3, rn4, rn5, rn6, rn7, ri1, ri2, ri3, ri4, ri5]
  refine callP (server_ok n b.T hl) ?_
  simp -dsimp -implicitDefEqProofs only [go_sem, ↓reduceIte, reduceCtorEq, rn1, rn2, rn3, rn4, rn5, rn6, rn7, ri1, ri2, ri3, ri4, ri5]
  unfold bendB
  refine ⟨fun h1 => ⟨fun h2 => ⟨fun h3 => ⟨fun h4 => ?_, fun h4 => ?_⟩, fun h3 => ?_⟩, fun h2 => ?_⟩, fun h1 => ?_⟩
  · rw [decide_eq_true h1, decide_eq_true h2, h3, h4]; rfl
  · rw [h4]; simp
  · rw [h3]; simp
  · rw [show decide (b.S < n.N) = false from decide_eq_false (by omega)]; simp
  · rw [show decide (0 ≤ b.S) = false from decide_eq_false (by omega)]; simp
def clkB (c : Ck) : Bool := plainB c.W && decide (-5 ≤ c.B) && decide (c.B ≤ 5)
theorem chkC_ok (c : Ck) (h1 : -9223372036854775808 ≤ c.B) (h2 : c.B ≤ 9223372036854775807) : Meets Tryz.prog 104 [c.arg] (rOne (vB (clkB c))) := by
  refine meets Tryz.func104 rfl rfl Tryz.ntmps104 Tryz.results104 rfl ?_
  simp -dsimp -implicitDefEqProofs only [go_sem, ↓reduceIte, reduceCtorEq, rn1, rn2, rn3, rn4, rn5, rn6, rn7, ri1, ri2, ri3, ri4, ri5]
  refine callP (text_ok c.W) ?_
  simp -dsimp -implicitDefEqProofs only [go_sem, ↓reduceIte, reduceCtorEq, rn1, rn2, rn3, rn4, rn5, rn6, rn7, ri1, ri2, ri3, ri4, ri5]
  have hw : IntKind.i64.wrap (0 - c.B) = if c.B = -9223372036854775808 then c.B else -c.B := by
    split
    · rename_i e; rw [e]; decide
    · rw [wrap64] <;> omega
  rw [hw]
  unfold clkB
  refine ⟨fun h => ⟨fun h3 => ?_, fun h3 => ?_⟩, fun h => ?_⟩
  · rw [h]
    by_cases h4 : -5 ≤ c.B
    · have : c.B ≤ 5 := by
        by_cases e : c.B = -9223372036854775808
        · omega
        · simp only [if_neg e] at h3
          by_cases f : c.B < -c.B
          · omega
          · rw [if_neg f] at h3; exact h3
      rw [decide_eq_true h4, decide_eq_true this]; rfl
    · rw [decide_eq_false h4]; rfl
  · rw [h]
    have : ¬ (-5 ≤ c.B ∧ c.B ≤ 5) := by
      rintro ⟨h5, h6⟩
      have e : ¬ c.B = -9223372036854775808 := by omega
      simp only [if_neg e] at h3
      by_cases f : c.B < -c.B
      · rw [if_pos f] at h3; omega
      · rw [if_neg f] at h3; omega
    by_cases h4 : -5 ≤ c.B
    · rw [decide_eq_true h4, show decide (c.B ≤ 5) = false from decide_eq_false (fun h => this ⟨h4, h⟩)]; rfl
    · rw [decide_eq_false h4]; rfl
  · rw [h]; rfl
end Go.Proofs.YtbgcpopmippbiaaGreatDoor
namespace Go.Proofs.YtbgcpopmippbiaaGreatDoor
open Go.Eng
set_option linter.unusedSimpArgs false
set_option maxRecDepth 10000


theorem withZcl_ok (rows : List (List D)) (hl : rows.length ≤ 1000000) :
    Meets Tryz.prog 150 [(false, [vD (.vec 2 rows)])] (rOne (.own 2 35 rows)) := by
  refine meets Tryz.func150 rfl rfl Tryz.ntmps150 Tryz.results150 rfl ?_
  simp -dsimp -implicitDefEqProofs only [go_sem, ↓reduceIte, reduceCtorEq, rn1, rn2, rn3, rn4, rn5, rn6, rn7, ri1, ri2, ri3, ri4, ri5]
  exact fun b hb => ⟨fun h => Classical.byContradiction fun hn => absurd ((hb hn).symm.trans h) (by simp), fun _ => ⟨by omega, by omega⟩⟩

/-- slices.BinarySearchFunc, whatever compares. (withZbs) -/
theorem withZbs_ok (l : List Zn) (hl : l.length ≤ 1000000) (r : Zn) (f : FuncId) (c : Zn → Int)
    (hp : ∀ x ∈ l, Meets Tryz.prog f ((true, x.cells.map .d) :: [(true, [vS r.A, vD (recsD r.R)])]) (rOne (vI (c x)))) :
    Meets Tryz.prog 151 [(false, [vD (.vec 2 (l.map Zn.cells))]), (true, [vS r.A, vD (recsD r.R)]), (false, [vD (.fn f [])])] (rTup [(false, [vI (bs c l 0 l.length : Nat)]), (false, [vB (bsHit c l (bs c l 0 l.length))])]) := by
  refine meets Tryz.func151 rfl rfl Tryz.ntmps151 Tryz.results151 rfl ?_
  simp -dsimp -implicitDefEqProofs only [go_sem, ↓reduceIte, reduceCtorEq, rn1, rn2, rn3, rn4, rn5, rn6, rn7, ri1, ri2, ri3, ri4, ri5]
  refine vfor sitOk (ι := BsInv c l) (fun v => ⟨49, [(10, aI v.hi), (9, aI v.lo), (8, aI l.length), (7, aB false), (6, aI 0), (0, aD (.vec 2 (l.map Zn.cells))), (4, aP 0 0), (1, .cs true [cS r.A, cD (recsD r.R)]), (2, aD (.fn f []))], [(0, some (.var [cS r.A, cD (recsD r.R)] true))], 1⟩) (fun v => v.hi - v.lo) ⟨0, l.length, by omega, by omega, rfl⟩ ?_ ?_
  · simp -dsimp -implicitDefEqProofs only [go_sem, ↓reduceIte, reduceCtorEq, rn1, rn2, rn3, rn4, rn5, rn6, rn7, ri1, ri2, ri3, ri4, ri5]
  intro ⟨lo, hi, hlh, hhl, hbs⟩
  obtain ⟨mid, hmid⟩ : ∃ mid, (lo + hi) / 2 = mid := ⟨_, rfl⟩
  have hw0 : IntKind.i64.wrap ((lo : Int) + (hi : Int)) = ((lo + hi : Nat) : Int) := by rw [wrap64] <;> omega
  have hw1 : IntKind.u64.wrap ((lo + hi : Nat) : Int) = ((lo + hi : Nat) : Int) := by rw [u64_wrap] <;> omega
  have hw2 : Int.fdiv ((lo + hi : Nat) : Int) (2 ^ (min (Int.toNat 1) 64)) = (mid : Int) := by
    show Int.fdiv ((lo + hi : Nat) : Int) 2 = _
    rw [Int.fdiv_eq_ediv_of_nonneg _ (by omega)]; omega
  have hw3 : IntKind.i64.wrap (mid : Int) = (mid : Int) := by rw [wrap64] <;> omega
  have hw4 : IntKind.i64.wrap ((mid : Int) + 1) = ((mid + 1 : Nat) : Int) := by rw [wrap64] <;> omega
  simp -dsimp -implicitDefEqProofs only [hw0, hw1, hw2, hw3, go_sem, ↓reduceIte, reduceCtorEq, rn1, rn2, rn3, rn4, rn5, rn6, rn7, ri1, ri2, ri3, ri4, ri5]
  refine ⟨fun hlt => ⟨by omega, by omega, fun x hx => callP (hp x (List.mem_of_getElem? hx)) ?_⟩, fun hge => ⟨fun hin => ⟨by omega, by omega, fun x hx => callP (hp x (List.mem_of_getElem? hx)) ?_⟩, fun hout => ?_⟩⟩
  · simp -dsimp -implicitDefEqProofs only [hw4, go_sem, ↓reduceIte, reduceCtorEq, rn1, rn2, rn3, rn4, rn5, rn6, rn7, ri1, ri2, ri3, ri4, ri5]
    refine ⟨drawn (by kernel_rfl),⟨fun c1 => ?_, fun c1 => ?_⟩⟩
    · refine again ⟨mid + 1, hi, by omega, by omega, by rw [hbs, bs, if_pos (by omega), hmid, hx]; simp [c1]⟩ (by simp; omega) ?_
      simp -dsimp -implicitDefEqProofs only [go_sem, ↓reduceIte, reduceCtorEq, rn1, rn2, rn3, rn4, rn5, rn6, rn7, ri1, ri2, ri3, ri4, ri5]
    · have c1' : ¬ c x < 0 := by omega
      refine again ⟨lo, mid, by omega, by omega, by rw [hbs, bs, if_pos (by omega), hmid, hx]; simp [c1']⟩ (by simp; omega) ?_
      simp -dsimp -implicitDefEqProofs only [go_sem, ↓reduceIte, reduceCtorEq, rn1, rn2, rn3, rn4, rn5, rn6, rn7, ri1, ri2, ri3, ri4, ri5]
  · have hend : bs c l 0 l.length = lo := by rw [hbs, bs, if_neg (by omega)]
    simp -dsimp -implicitDefEqProofs only [go_sem, ↓reduceIte, reduceCtorEq, rn1, rn2, rn3, rn4, rn5, rn6, rn7, ri1, ri2, ri3, ri4, ri5]
    refine ⟨drawn (by kernel_rfl), ?_⟩
    simp [hend, bsHit, hx]
  · have hend : bs c l 0 l.length = lo := by rw [hbs, bs, if_neg (by omega)]
    have hx : l[lo]? = none := List.getElem?_eq_none (by omega)
    refine ⟨drawn (by kernel_rfl), ?_⟩
    simp [hend, bsHit, hx]

/-- slices.Insert of one. (withZin) -/
theorem withZin_ok (rows : List (List D)) (x : List D) (i : Nat) (hi : i ≤ rows.length) (hl : rows.length ≤ 1000000) :
    Meets Tryz.prog 152 [(false, [.own 2 35 rows]), (false, [vI i]), (false, [.own 2 35 [x]])] (rOne (.own 2 35 (rows.take i ++ x :: rows.drop i))) := by
  refine meetsA Tryz.func152 rfl rfl Tryz.ntmps152 Tryz.results152 rfl ?_
  refine awp_spread 0 0 [(1, aI i), (2, aO 1)] [(1, some (.row 2 35 [x] true))] (Nat.zero_le _) rfl rfl ?_ ?_ fun junk hj => awp_vc sitOk ?_
  · simp -dsimp -implicitDefEqProofs only [resComps, go_sem, ↓reduceIte, reduceCtorEq, rn1, rn2, rn3, rn4, rn5, rn6, rn7, ri1, ri2, ri3, ri4, ri5]
  · simp -dsimp -implicitDefEqProofs only [resComps, go_sem, ↓reduceIte, reduceCtorEq, rn1, rn2, rn3, rn4, rn5, rn6, rn7, ri1, ri2, ri3, ri4, ri5]
  obtain ⟨R, hR⟩ : ∃ R, R = rows ++ junk := ⟨_, rfl⟩
  have e1 : R.take rows.length = rows := by rw [hR, List.take_left']; rfl
  have e0 : rows.length ≤ R.length := by rw [hR]; simp
  rw [← hR]
  clear hR hj
  have hw1 : IntKind.i64.wrap ((rows.length : Int) + 1) = ((rows.length + 1 : Nat) : Int) := by rw [wrap64] <;> omega
  have hw2 : IntKind.i64.wrap (((rows.length + 1 : Nat) : Int) - i) = ((rows.length + 1 - i : Nat) : Int) := by rw [wrap64] <;> omega
  have hw3 : IntKind.i64.wrap ((i : Int) + 1) = ((i + 1 : Nat) : Int) := by rw [wrap64] <;> omega
  have hc1 : (0 : Int) ≤ ((rows.length + 1 - i : Nat) : Int) := by omega
  have hc2 : ((rows.length + 1 - i : Nat) : Int) ≤ 9223372036854775807 := by omega
  have e2 : (R.take i).length = i := by rw [List.length_take]; omega
  have e3 : i + (rows.length + 1 - i) = rows.length + 1 := by omega
  have e4 : rows.length + 1 - i - 0 = rows.length + 1 - i := by omega
  have e5 : min 1 (rows.length + 1 - i) = 1 := by omega
  have e6 : ∀ z : List D, (splice (R.take i ++ List.replicate (rows.length + 1 - i) z) i [x]).length = rows.length + 1 := fun z => by
    have h : (R.take i ++ List.replicate (rows.length + 1 - i) z).length = rows.length + 1 := by rw [List.length_append, e2, List.length_replicate]; omega
    rw [splice_len (by rw [h, List.length_singleton]; omega), h]
  have e7 : i + (rows.length - i) = rows.length := by omega
  have e8 : (R.drop i).take (rows.length - i) = rows.drop i := by
    have : (R.take rows.length).drop i = rows.drop i := by rw [e1]
    rw [← this, List.drop_take]
  have e9 : rows.length + 1 - (i + 1) = rows.length - i := by omega
  have e10 : (rows.drop i).length = rows.length - i := by simp
  have e11 : (rows.drop i).take (rows.length - i) = rows.drop i := List.take_of_length_le (by simp)
  have e12 : i + 1 + (rows.length - i) = rows.length + 1 := by omega
  have e13 : ((R.drop i).take (rows.length + 1 - i)).take (rows.length - i) = rows.drop i := by rw [List.take_take, Nat.min_eq_left (by omega), e8]
  have e14 : min (rows.length + 1 - i) (rows.length - i) = rows.length - i := by omega
  have e15 : rows.length + 1 - i + i = rows.length + 1 := by omega
  have e16 : i + (rows.length + 1 - i) - i = rows.length + 1 - i := by omega
  have hend : (i : Int) = (rows.length : Int) → rows.take i ++ x :: rows.drop i = rows ++ [x] := fun h => by
    have : i = rows.length := by omega
    subst this
    simp
  by_cases hroom : rows.length + 1 ≤ R.length
  · have e17 : ((R.drop i).take (rows.length + 1 - i)).length = rows.length + 1 - i := by simp; omega
    have hl1 : (splice R (i + 1) (rows.drop i)).length = R.length := splice_len (by simp; omega)
    simp -dsimp -implicitDefEqProofs only [e0, e1, hw1, hw2, hw3, hc1, hc2, e2, e3, e4, e5, e6, e7, e8, e9, e10, e11, e12, e13, e14, e16, Nat.min_self, List.length_replicate, List.length_append, hroom, e17, go_sem, ↓reduceIte, reduceCtorEq, rn1, rn2, rn3, rn4, rn5, rn6, rn7, ri1, ri2, ri3, ri4, ri5]
    repeat' (first | with_reducible apply And.intro | with_reducible intro _ | with_reducible exact drawn (by kernel_rfl) | omega)
    · rw [splice_len (by rw [List.length_singleton]; omega)]; exact hroom
    · rename_i h
      rw [hend h, ins_end R rows x e1 e0]
    · rw [splice_len (by rw [List.length_singleton, hl1]; omega), hl1]; exact hroom
    · exact (ins_room R rows x i e1 hi hroom).symm
  · simp -dsimp -implicitDefEqProofs only [e0, e1, hw1, hw2, hw3, hc1, hc2, e2, e3, e4, e5, e6, e7, e8, e9, e10, e11, e12, e13, e14, e16, Nat.min_self, List.length_replicate, List.length_append, hroom, go_sem, ↓reduceIte, reduceCtorEq, rn1, rn2, rn3, rn4, rn5, rn6, rn7, ri1, ri2, ri3, ri4, ri5]
    repeat' (first | with_reducible apply And.intro | with_reducible intro _ | with_reducible exact drawn (by kernel_rfl) | omega)
    · rename_i h
      exact (hend h).symm
    · exact ins_new R rows x _ i e1 hi
theorem withZf_ok (l : List Zn) (hl : l.length ≤ 1000000) (fo : FuncId) (ho : ∀ x y : Zn, Meets Tryz.prog fo [x.arg, y.arg] (rOne (vI (koS.cmp (kZ x) (kZ y))))) (x : Zn) :
    Meets Tryz.prog 151 [(false, [vD (.vec 2 (l.map Zn.cells))]), x.arg, (false, [vD (.fn fo [])])] (rTup [(false, [vI (posK koS kZ l (kZ x) : Nat)]), (false, [vB (hitK koS kZ l (kZ x))])]) :=
  withZbs_ok l hl x fo (fun y => koS.cmp (kZ y) (kZ x)) fun y _ => ho y x
/-- route.with. (withZ) -/
theorem withZ_ok (l : List Zn) (hl : l.length ≤ 999999) (fo : FuncId) (ho : ∀ x y : Zn, Meets Tryz.prog fo [x.arg, y.arg] (rOne (vI (koS.cmp (kZ x) (kZ y))))) (x : Zn) :
    Meets Tryz.prog 76 [(false, [vD (.vec 2 (l.map Zn.cells))]), x.arg, (false, [vD (.fn fo [])])] (rOne (.own 2 35 ((withK koS kZ l x).map Zn.cells))) := by
  have hp := posK_le (o := koS) (key := kZ) l (kZ x)
  refine meets Tryz.func76 rfl rfl Tryz.ntmps76 Tryz.results76 rfl ?_
  simp -dsimp -implicitDefEqProofs only [go_sem, ↓reduceIte, reduceCtorEq, rn1, rn2, rn3, rn4, rn5, rn6, rn7, ri1, ri2, ri3, ri4, ri5]
  refine callP (withZcl_ok _ (by simp; omega)) ?_
  simp -dsimp -implicitDefEqProofs only [go_sem, ↓reduceIte, reduceCtorEq, rn1, rn2, rn3, rn4, rn5, rn6, rn7, ri1, ri2, ri3, ri4, ri5]
  refine callP (withZf_ok l (by omega) fo ho x) ?_
  cases hh : hitK koS kZ l (kZ x) with
  | true =>
    have hlt := hitK_lt hh
    have hput : (l.map Zn.cells).set (posK koS kZ l (kZ x)) [dT x.A, recsD x.R] = (withK koS kZ l x).map Zn.cells := by
      unfold withK; rw [if_pos hh, List.map_set]; rfl
    simp -dsimp -implicitDefEqProofs only [hh, go_sem, ↓reduceIte, reduceCtorEq, rn1, rn2, rn3, rn4, rn5, rn6, rn7, ri1, ri2, ri3, ri4, ri5]
    refine ⟨by omega, hlt, fun y hy => ?_⟩
    rw [← hput]
  | false =>
    have hput : (l.map Zn.cells).take (posK koS kZ l (kZ x)) ++ [dT x.A, recsD x.R] :: (l.map Zn.cells).drop (posK koS kZ l (kZ x)) = (withK koS kZ l x).map Zn.cells := by
      unfold withK; rw [if_neg (by simp [hh])]; simp [List.map_append, List.map_take, List.map_drop, Zn.cells]
    simp -dsimp -implicitDefEqProofs only [hh, go_sem, ↓reduceIte, reduceCtorEq, rn1, rn2, rn3, rn4, rn5, rn6, rn7, ri1, ri2, ri3, ri4, ri5]
    refine callE [true, false, true] ?_
    simp -dsimp -implicitDefEqProofs only [go_sem, ↓reduceIte, reduceCtorEq, rn1, rn2, rn3, rn4, rn5, rn6, rn7, ri1, ri2, ri3, ri4, ri5]
    refine ⟨_, withZin_ok (l.map Zn.cells) [dT x.A, recsD x.R] (posK koS kZ l (kZ x)) (by simpa using hp) (by simp; omega), ?_⟩
    simp -dsimp -implicitDefEqProofs only [hput, go_sem, ↓reduceIte, reduceCtorEq, rn1, rn2, rn3, rn4, rn5, rn6, rn7, ri1, ri2, ri3, ri4, ri5]

theorem withVcl_ok (rows : List (List D)) (hl : rows.length ≤ 1000000) :
    Meets Tryz.prog 153 [(false, [vD (.vec 2 rows)])] (rOne (.own 2 149 rows)) := by
  refine meets Tryz.func153 rfl rfl Tryz.ntmps153 Tryz.results153 rfl ?_
  simp -dsimp -implicitDefEqProofs only [go_sem, ↓reduceIte, reduceCtorEq, rn1, rn2, rn3, rn4, rn5, rn6, rn7, ri1, ri2, ri3, ri4, ri5]
  exact fun b hb => ⟨fun h => Classical.byContradiction fun hn => absurd ((hb hn).symm.trans h) (by simp), fun _ => ⟨by omega, by omega⟩⟩

/-- slices.BinarySearchFunc, whatever compares. (withVbs) -/
theorem withVbs_ok (l : List Sv) (hl : l.length ≤ 1000000) (r : Sv) (f : FuncId) (c : Sv → Int)
    (hp : ∀ x ∈ l, Meets Tryz.prog f ((true, x.cells.map .d) :: [(true, [vI r.A, vD (zonesD r.Z)])]) (rOne (vI (c x)))) :
    Meets Tryz.prog 154 [(false, [vD (.vec 2 (l.map Sv.cells))]), (true, [vI r.A, vD (zonesD r.Z)]), (false, [vD (.fn f [])])] (rTup [(false, [vI (bs c l 0 l.length : Nat)]), (false, [vB (bsHit c l (bs c l 0 l.length))])]) := by
  refine meets Tryz.func154 rfl rfl Tryz.ntmps154 Tryz.results154 rfl ?_
  simp -dsimp -implicitDefEqProofs only [go_sem, ↓reduceIte, reduceCtorEq, rn1, rn2, rn3, rn4, rn5, rn6, rn7, ri1, ri2, ri3, ri4, ri5]
  refine vfor sitOk (ι := BsInv c l) (fun v => ⟨49, [(10, aI v.hi), (9, aI v.lo), (8, aI l.length), (7, aB false), (6, aI 0), (0, aD (.vec 2 (l.map Sv.cells))), (4, aP 0 0), (1, .cs true [cI r.A, cD (zonesD r.Z)]), (2, aD (.fn f []))], [(0, some (.var [cI r.A, cD (zonesD r.Z)] true))], 1⟩) (fun v => v.hi - v.lo) ⟨0, l.length, by omega, by omega, rfl⟩ ?_ ?_
  · simp -dsimp -implicitDefEqProofs only [go_sem, ↓reduceIte, reduceCtorEq, rn1, rn2, rn3, rn4, rn5, rn6, rn7, ri1, ri2, ri3, ri4, ri5]
  intro ⟨lo, hi, hlh, hhl, hbs⟩
  obtain ⟨mid, hmid⟩ : ∃ mid, (lo + hi) / 2 = mid := ⟨_, rfl⟩
  have hw0 : IntKind.i64.wrap ((lo : Int) + (hi : Int)) = ((lo + hi : Nat) : Int) := by rw [wrap64] <;> omega
  have hw1 : IntKind.u64.wrap ((lo + hi : Nat) : Int) = ((lo + hi : Nat) : Int) := by rw [u64_wrap] <;> omega
  have hw2 : Int.fdiv ((lo + hi : Nat) : Int) (2 ^ (min (Int.toNat 1) 64)) = (mid : Int) := by
    show Int.fdiv ((lo + hi : Nat) : Int) 2 = _
    rw [Int.fdiv_eq_ediv_of_nonneg _ (by omega)]; omega
  have hw3 : IntKind.i64.wrap (mid : Int) = (mid : Int) := by rw [wrap64] <;> omega
  have hw4 : IntKind.i64.wrap ((mid : Int) + 1) = ((mid + 1 : Nat) : Int) := by rw [wrap64] <;> omega
  simp -dsimp -implicitDefEqProofs only [hw0, hw1, hw2, hw3, go_sem, ↓reduceIte, reduceCtorEq, rn1, rn2, rn3, rn4, rn5, rn6, rn7, ri1, ri2, ri3, ri4, ri5]
  refine ⟨fun hlt => ⟨by omega, by omega, fun x hx => callP (hp x (List.mem_of_getElem? hx)) ?_⟩, fun hge => ⟨fun hin => ⟨by omega, by omega, fun x hx => callP (hp x (List.mem_of_getElem? hx)) ?_⟩, fun hout => ?_⟩⟩
  · simp -dsimp -implicitDefEqProofs only [hw4, go_sem, ↓reduceIte, reduceCtorEq, rn1, rn2, rn3, rn4, rn5, rn6, rn7, ri1, ri2, ri3, ri4, ri5]
    refine ⟨drawn (by kernel_rfl),⟨fun c1 => ?_, fun c1 => ?_⟩⟩
    · refine again ⟨mid + 1, hi, by omega, by omega, by rw [hbs, bs, if_pos (by omega), hmid, hx]; simp [c1]⟩ (by simp; omega) ?_
      simp -dsimp -implicitDefEqProofs only [go_sem, ↓reduceIte, reduceCtorEq, rn1, rn2, rn3, rn4, rn5, rn6, rn7, ri1, ri2, ri3, ri4, ri5]
    · have c1' : ¬ c x < 0 := by omega
      refine again ⟨lo, mid, by omega, by omega, by rw [hbs, bs, if_pos (by omega), hmid, hx]; simp [c1']⟩ (by simp; omega) ?_
      simp -dsimp -implicitDefEqProofs only [go_sem, ↓reduceIte, reduceCtorEq, rn1, rn2, rn3, rn4, rn5, rn6, rn7, ri1, ri2, ri3, ri4, ri5]
  · have hend : bs c l 0 l.length = lo := by rw [hbs, bs, if_neg (by omega)]
    simp -dsimp -implicitDefEqProofs only [go_sem, ↓reduceIte, reduceCtorEq, rn1, rn2, rn3, rn4, rn5, rn6, rn7, ri1, ri2, ri3, ri4, ri5]
    refine ⟨drawn (by kernel_rfl), ?_⟩
    simp [hend, bsHit, hx]
  · have hend : bs c l 0 l.length = lo := by rw [hbs, bs, if_neg (by omega)]
    have hx : l[lo]? = none := List.getElem?_eq_none (by omega)
    refine ⟨drawn (by kernel_rfl), ?_⟩
    simp [hend, bsHit, hx]

/-- slices.Insert of one. (withVin) -/
theorem withVin_ok (rows : List (List D)) (x : List D) (i : Nat) (hi : i ≤ rows.length) (hl : rows.length ≤ 1000000) :
    Meets Tryz.prog 155 [(false, [.own 2 149 rows]), (false, [vI i]), (false, [.own 2 149 [x]])] (rOne (.own 2 149 (rows.take i ++ x :: rows.drop i))) := by
  refine meetsA Tryz.func155 rfl rfl Tryz.ntmps155 Tryz.results155 rfl ?_
  refine awp_spread 0 0 [(1, aI i), (2, aO 1)] [(1, some (.row 2 149 [x] true))] (Nat.zero_le _) rfl rfl ?_ ?_ fun junk hj => awp_vc sitOk ?_
  · simp -dsimp -implicitDefEqProofs only [resComps, go_sem, ↓reduceIte, reduceCtorEq, rn1, rn2, rn3, rn4, rn5, rn6, rn7, ri1, ri2, ri3, ri4, ri5]
  · simp -dsimp -implicitDefEqProofs only [resComps, go_sem, ↓reduceIte, reduceCtorEq, rn1, rn2, rn3, rn4, rn5, rn6, rn7, ri1, ri2, ri3, ri4, ri5]
  obtain ⟨R, hR⟩ : ∃ R, R = rows ++ junk := ⟨_, rfl⟩
  have e1 : R.take rows.length = rows := by rw [hR, List.take_left']; rfl
  have e0 : rows.length ≤ R.length := by rw [hR]; simp
  rw [← hR]
  clear hR hj
  have hw1 : IntKind.i64.wrap ((rows.length : Int) + 1) = ((rows.length + 1 : Nat) : Int) := by rw [wrap64] <;> omega
  have hw2 : IntKind.i64.wrap (((rows.length + 1 : Nat) : Int) - i) = ((rows.length + 1 - i : Nat) : Int) := by rw [wrap64] <;> omega
  have hw3 : IntKind.i64.wrap ((i : Int) + 1) = ((i + 1 : Nat) : Int) := by rw [wrap64] <;> omega
  have hc1 : (0 : Int) ≤ ((rows.length + 1 - i : Nat) : Int) := by omega
  have hc2 : ((rows.length + 1 - i : Nat) : Int) ≤ 9223372036854775807 := by omega
  have e2 : (R.take i).length = i := by rw [List.length_take]; omega
  have e3 : i + (rows.length + 1 - i) = rows.length + 1 := by omega
  have e4 : rows.length + 1 - i - 0 = rows.length + 1 - i := by omega
  have e5 : min 1 (rows.length + 1 - i) = 1 := by omega
  have e6 : ∀ z : List D, (splice (R.take i ++ List.replicate (rows.length + 1 - i) z) i [x]).length = rows.length + 1 := fun z => by
    have h : (R.take i ++ List.replicate (rows.length + 1 - i) z).length = rows.length + 1 := by rw [List.length_append, e2, List.length_replicate]; omega
    rw [splice_len (by rw [h, List.length_singleton]; omega), h]
  have e7 : i + (rows.length - i) = rows.length := by omega
  have e8 : (R.drop i).take (rows.length - i) = rows.drop i := by
    have : (R.take rows.length).drop i = rows.drop i := by rw [e1]
    rw [← this, List.drop_take]
  have e9 : rows.length + 1 - (i + 1) = rows.length - i := by omega
  have e10 : (rows.drop i).length = rows.length - i := by simp
  have e11 : (rows.drop i).take (rows.length - i) = rows.drop i := List.take_of_length_le (by simp)
  have e12 : i + 1 + (rows.length - i) = rows.length + 1 := by omega
  have e13 : ((R.drop i).take (rows.length + 1 - i)).take (rows.length - i) = rows.drop i := by rw [List.take_take, Nat.min_eq_left (by omega), e8]
  have e14 : min (rows.length + 1 - i) (rows.length - i) = rows.length - i := by omega
  have e15 : rows.length + 1 - i + i = rows.length + 1 := by omega
  have e16 : i + (rows.length + 1 - i) - i = rows.length + 1 - i := by omega
  have hend : (i : Int) = (rows.length : Int) → rows.take i ++ x :: rows.drop i = rows ++ [x] := fun h => by
    have : i = rows.length := by omega
    subst this
    simp
  by_cases hroom : rows.length + 1 ≤ R.length
  · have e17 : ((R.drop i).take (rows.length + 1 - i)).length = rows.length + 1 - i := by simp; omega
    have hl1 : (splice R (i + 1) (rows.drop i)).length = R.length := splice_len (by simp; omega)
    simp -dsimp -implicitDefEqProofs only [e0, e1, hw1, hw2, hw3, hc1, hc2, e2, e3, e4, e5, e6, e7, e8, e9, e10, e11, e12, e13, e14, e16, Nat.min_self, List.length_replicate, List.length_append, hroom, e17, go_sem, ↓reduceIte, reduceCtorEq, rn1, rn2, rn3, rn4, rn5, rn6, rn7, ri1, ri2, ri3, ri4, ri5]
    repeat' (first | with_reducible apply And.intro | with_reducible intro _ | with_reducible exact drawn (by kernel_rfl) | omega)
    · rw [splice_len (by rw [List.length_singleton]; omega)]; exact hroom
    · rename_i h
      rw [hend h, ins_end R rows x e1 e0]
    · rw [splice_len (by rw [List.length_singleton, hl1]; omega), hl1]; exact hroom
    · exact (ins_room R rows x i e1 hi hroom).symm
  · simp -dsimp -implicitDefEqProofs only [e0, e1, hw1, hw2, hw3, hc1, hc2, e2, e3, e4, e5, e6, e7, e8, e9, e10, e11, e12, e13, e14, e16, Nat.min_self, List.length_replicate, List.length_append, hroom, go_sem, ↓reduceIte, reduceCtorEq, rn1, rn2, rn3, rn4, rn5, rn6, rn7, ri1, ri2, ri3, ri4, ri5]
    repeat' (first | with_reducible apply And.intro | with_reducible intro _ | with_reducible exact drawn (by kernel_rfl) | omega)
    · rename_i h
      exact (hend h).symm
    · exact ins_new R rows x _ i e1 hi
theorem withVf_ok (l : List Sv) (hl : l.length ≤ 1000000) (fo : FuncId) (ho : ∀ x y : Sv, Meets Tryz.prog fo [x.arg, y.arg] (rOne (vI (koI.cmp (kS x) (kS y))))) (x : Sv) :
    Meets Tryz.prog 154 [(false, [vD (.vec 2 (l.map Sv.cells))]), x.arg, (false, [vD (.fn fo [])])] (rTup [(false, [vI (posK koI kS l (kS x) : Nat)]), (false, [vB (hitK koI kS l (kS x))])]) :=
  withVbs_ok l hl x fo (fun y => koI.cmp (kS y) (kS x)) fun y _ => ho y x
/-- route.with. (withV) -/
theorem withV_ok (l : List Sv) (hl : l.length ≤ 999999) (fo : FuncId) (ho : ∀ x y : Sv, Meets Tryz.prog fo [x.arg, y.arg] (rOne (vI (koI.cmp (kS x) (kS y))))) (x : Sv) :
    Meets Tryz.prog 78 [(false, [vD (.vec 2 (l.map Sv.cells))]), x.arg, (false, [vD (.fn fo [])])] (rOne (.own 2 149 ((withK koI kS l x).map Sv.cells))) := by
  have hp := posK_le (o := koI) (key := kS) l (kS x)
  refine meets Tryz.func78 rfl rfl Tryz.ntmps78 Tryz.results78 rfl ?_
  simp -dsimp -implicitDefEqProofs only [go_sem, ↓reduceIte, reduceCtorEq, rn1, rn2, rn3, rn4, rn5, rn6, rn7, ri1, ri2, ri3, ri4, ri5]
  refine callP (withVcl_ok _ (by simp; omega)) ?_
  simp -dsimp -implicitDefEqProofs only [go_sem, ↓reduceIte, reduceCtorEq, rn1, rn2, rn3, rn4, rn5, rn6, rn7, ri1, ri2, ri3, ri4, ri5]
  refine callP (withVf_ok l (by omega) fo ho x) ?_
  cases hh : hitK koI kS l (kS x) with
  | true =>
    have hlt := hitK_lt hh
    have hput : (l.map Sv.cells).set (posK koI kS l (kS x)) [dI x.A, zonesD x.Z] = (withK koI kS l x).map Sv.cells := by
      unfold withK; rw [if_pos hh, List.map_set]; rfl
    simp -dsimp -implicitDefEqProofs only [hh, go_sem, ↓reduceIte, reduceCtorEq, rn1, rn2, rn3, rn4, rn5, rn6, rn7, ri1, ri2, ri3, ri4, ri5]
    refine ⟨by omega, hlt, fun y hy => ?_⟩
    rw [← hput]
  | false =>
    have hput : (l.map Sv.cells).take (posK koI kS l (kS x)) ++ [dI x.A, zonesD x.Z] :: (l.map Sv.cells).drop (posK koI kS l (kS x)) = (withK koI kS l x).map Sv.cells := by
      unfold withK; rw [if_neg (by simp [hh])]; simp [List.map_append, List.map_take, List.map_drop, Sv.cells]
    simp -dsimp -implicitDefEqProofs only [hh, go_sem, ↓reduceIte, reduceCtorEq, rn1, rn2, rn3, rn4, rn5, rn6, rn7, ri1, ri2, ri3, ri4, ri5]
    refine callE [true, false, true] ?_
    simp -dsimp -implicitDefEqProofs only [go_sem, ↓reduceIte, reduceCtorEq, rn1, rn2, rn3, rn4, rn5, rn6, rn7, ri1, ri2, ri3, ri4, ri5]
    refine ⟨_, withVin_ok (l.map Sv.cells) [dI x.A, zonesD x.Z] (posK koI kS l (kS x)) (by simpa using hp) (by simp; omega), ?_⟩
    simp -dsimp -implicitDefEqProofs only [hput, go_sem, ↓reduceIte, reduceCtorEq, rn1, rn2, rn3, rn4, rn5, rn6, rn7, ri1, ri2, ri3, ri4, ri5]

theorem withBcl_ok (rows : List (List D)) (hl : rows.length ≤ 1000000) :
    Meets Tryz.prog 156 [(false, [vD (.vec 3 rows)])] (rOne (.own 3 90 rows)) := by
  refine meets Tryz.func156 rfl rfl Tryz.ntmps156 Tryz.results156 rfl ?_
  simp -dsimp -implicitDefEqProofs only [go_sem, ↓reduceIte, reduceCtorEq, rn1, rn2, rn3, rn4, rn5, rn6, rn7, ri1, ri2, ri3, ri4, ri5]
  exact fun b hb => ⟨fun h => Classical.byContradiction fun hn => absurd ((hb hn).symm.trans h) (by simp), fun _ => ⟨by omega, by omega⟩⟩

/-- slices.BinarySearchFunc, whatever compares. (withBbs) -/
theorem withBbs_ok (l : List Bn) (hl : l.length ≤ 1000000) (r : Bn) (f : FuncId) (c : Bn → Int)
    (hp : ∀ x ∈ l, Meets Tryz.prog f ((true, x.cells.map .d) :: [(true, [vI r.S, vI r.F, vI r.T])]) (rOne (vI (c x)))) :
    Meets Tryz.prog 157 [(false, [vD (.vec 3 (l.map Bn.cells))]), (true, [vI r.S, vI r.F, vI r.T]), (false, [vD (.fn f [])])] (rTup [(false, [vI (bs c l 0 l.length : Nat)]), (false, [vB (bsHit c l (bs c l 0 l.length))])]) := by
  refine meets Tryz.func157 rfl rfl Tryz.ntmps157 Tryz.results157 rfl ?_
  simp -dsimp -implicitDefEqProofs only [go_sem, ↓reduceIte, reduceCtorEq, rn1, rn2, rn3, rn4, rn5, rn6, rn7, ri1, ri2, ri3, ri4, ri5]
  refine vfor sitOk (ι := BsInv c l) (fun v => ⟨49, [(10, aI v.hi), (9, aI v.lo), (8, aI l.length), (7, aB false), (6, aI 0), (0, aD (.vec 3 (l.map Bn.cells))), (4, aP 0 0), (1, .cs true [cI r.S, cI r.F, cI r.T]), (2, aD (.fn f []))], [(0, some (.var [cI r.S, cI r.F, cI r.T] true))], 1⟩) (fun v => v.hi - v.lo) ⟨0, l.length, by omega, by omega, rfl⟩ ?_ ?_
  · simp -dsimp -implicitDefEqProofs only [go_sem, ↓reduceIte, reduceCtorEq, rn1, rn2, rn3, rn4, rn5, rn6, rn7, ri1, ri2, ri3, ri4, ri5]
  intro ⟨lo, hi, hlh, hhl, hbs⟩
  obtain ⟨mid, hmid⟩ : ∃ mid, (lo + hi) / 2 = mid := ⟨_, rfl⟩
  have hw0 : IntKind.i64.wrap ((lo : Int) + (hi : Int)) = ((lo + hi : Nat) : Int) := by rw [wrap64] <;> omega
  have hw1 : IntKind.u64.wrap ((lo + hi : Nat) : Int) = ((lo + hi : Nat) : Int) := by rw [u64_wrap] <;> omega
  have hw2 : Int.fdiv ((lo + hi : Nat) : Int) (2 ^ (min (Int.toNat 1) 64)) = (mid : Int) := by
    show Int.fdiv ((lo + hi : Nat) : Int) 2 = _
    rw [Int.fdiv_eq_ediv_of_nonneg _ (by omega)]; omega
  have hw3 : IntKind.i64.wrap (mid : Int) = (mid : Int) := by rw [wrap64] <;> omega
  have hw4 : IntKind.i64.wrap ((mid : Int) + 1) = ((mid + 1 : Nat) : Int) := by rw [wrap64] <;> omega
  simp -dsimp -implicitDefEqProofs only [hw0, hw1, hw2, hw3, go_sem, ↓reduceIte, reduceCtorEq, rn1, rn2, rn3, rn4, rn5, rn6, rn7, ri1, ri2, ri3, ri4, ri5]
  refine ⟨fun hlt => ⟨by omega, by omega, fun x hx => callP (hp x (List.mem_of_getElem? hx)) ?_⟩, fun hge => ⟨fun hin => ⟨by omega, by omega, fun x hx => callP (hp x (List.mem_of_getElem? hx)) ?_⟩, fun hout => ?_⟩⟩
  · simp -dsimp -implicitDefEqProofs only [hw4, go_sem, ↓reduceIte, reduceCtorEq, rn1, rn2, rn3, rn4, rn5, rn6, rn7, ri1, ri2, ri3, ri4, ri5]
    refine ⟨drawn (by kernel_rfl),⟨fun c1 => ?_, fun c1 => ?_⟩⟩
    · refine again ⟨mid + 1, hi, by omega, by omega, by rw [hbs, bs, if_pos (by omega), hmid, hx]; simp [c1]⟩ (by simp; omega) ?_
      simp -dsimp -implicitDefEqProofs only [go_sem, ↓reduceIte, reduceCtorEq, rn1, rn2, rn3, rn4, rn5, rn6, rn7, ri1, ri2, ri3, ri4, ri5]
    · have c1' : ¬ c x < 0 := by omega
      refine again ⟨lo, mid, by omega, by omega, by rw [hbs, bs, if_pos (by omega), hmid, hx]; simp [c1']⟩ (by simp; omega) ?_
      simp -dsimp -implicitDefEqProofs only [go_sem, ↓reduceIte, reduceCtorEq, rn1, rn2, rn3, rn4, rn5, rn6, rn7, ri1, ri2, ri3, ri4, ri5]
  · have hend : bs c l 0 l.length = lo := by rw [hbs, bs, if_neg (by omega)]
    simp -dsimp -implicitDefEqProofs only [go_sem, ↓reduceIte, reduceCtorEq, rn1, rn2, rn3, rn4, rn5, rn6, rn7, ri1, ri2, ri3, ri4, ri5]
    refine ⟨drawn (by kernel_rfl), ?_⟩
    simp [hend, bsHit, hx]
  · have hend : bs c l 0 l.length = lo := by rw [hbs, bs, if_neg (by omega)]
    have hx : l[lo]? = none := List.getElem?_eq_none (by omega)
    refine ⟨drawn (by kernel_rfl), ?_⟩
    simp [hend, bsHit, hx]

/-- slices.Insert of one. (withBin) -/
theorem withBin_ok (rows : List (List D)) (x : List D) (i : Nat) (hi : i ≤ rows.length) (hl : rows.length ≤ 1000000) :
    Meets Tryz.prog 158 [(false, [.own 3 90 rows]), (false, [vI i]), (false, [.own 3 90 [x]])] (rOne (.own 3 90 (rows.take i ++ x :: rows.drop i))) := by
  refine meetsA Tryz.func158 rfl rfl Tryz.ntmps158 Tryz.results158 rfl ?_
  refine awp_spread 0 0 [(1, aI i), (2, aO 1)] [(1, some (.row 3 90 [x] true))] (Nat.zero_le _) rfl rfl ?_ ?_ fun junk hj => awp_vc sitOk ?_
  · simp -dsimp -implicitDefEqProofs only [resComps, go_sem, ↓reduceIte, reduceCtorEq, rn1, rn2, rn3, rn4, rn5, rn6, rn7, ri1, ri2, ri3, ri4, ri5]
  · simp -dsimp -implicitDefEqProofs only [resComps, go_sem, ↓reduceIte, reduceCtorEq, rn1, rn2, rn3, rn4, rn5, rn6, rn7, ri1, ri2, ri3, ri4, ri5]
  obtain ⟨R, hR⟩ : ∃ R, R = rows ++ junk := ⟨_, rfl⟩
  have e1 : R.take rows.length = rows := by rw [hR, List.take_left']; rfl
  have e0 : rows.length ≤ R.length := by rw [hR]; simp
  rw [← hR]
  clear hR hj
  have hw1 : IntKind.i64.wrap ((rows.length : Int) + 1) = ((rows.length + 1 : Nat) : Int) := by rw [wrap64] <;> omega
  have hw2 : IntKind.i64.wrap (((rows.length + 1 : Nat) : Int) - i) = ((rows.length + 1 - i : Nat) : Int) := by rw [wrap64] <;> omega
  have hw3 : IntKind.i64.wrap ((i : Int) + 1) = ((i + 1 : Nat) : Int) := by rw [wrap64] <;> omega
  have hc1 : (0 : Int) ≤ ((rows.length + 1 - i : Nat) : Int) := by omega
  have hc2 : ((rows.length + 1 - i : Nat) : Int) ≤ 9223372036854775807 := by omega
  have e2 : (R.take i).length = i := by rw [List.length_take]; omega
  have e3 : i + (rows.length + 1 - i) = rows.length + 1 := by omega
  have e4 : rows.length + 1 - i - 0 = rows.length + 1 - i := by omega
  have e5 : min 1 (rows.length + 1 - i) = 1 := by omega
  have e6 : ∀ z : List D, (splice (R.take i ++ List.replicate (rows.length + 1 - i) z) i [x]).length = rows.length + 1 := fun z => by
    have h : (R.take i ++ List.replicate (rows.length + 1 - i) z).length = rows.length + 1 := by rw [List.length_append, e2, List.length_replicate]; omega
    rw [splice_len (by rw [h, List.length_singleton]; omega), h]
  have e7 : i + (rows.length - i) = rows.length := by omega
  have e8 : (R.drop i).take (rows.length - i) = rows.drop i := by
    have : (R.take rows.length).drop i = rows.drop i := by rw [e1]
    rw [← this, List.drop_take]
  have e9 : rows.length + 1 - (i + 1) = rows.length - i := by omega
  have e10 : (rows.drop i).length = rows.length - i := by simp
  have e11 : (rows.drop i).take (rows.length - i) = rows.drop i := List.take_of_length_le (by simp)
  have e12 : i + 1 + (rows.length - i) = rows.length + 1 := by omega
  have e13 : ((R.drop i).take (rows.length + 1 - i)).take (rows.length - i) = rows.drop i := by rw [List.take_take, Nat.min_eq_left (by omega), e8]
  have e14 : min (rows.length + 1 - i) (rows.length - i) = rows.length - i := by omega
  have e15 : rows.length + 1 - i + i = rows.length + 1 := by omega
  have e16 : i + (rows.length + 1 - i) - i = rows.length + 1 - i := by omega
  have hend : (i : Int) = (rows.length : Int) → rows.take i ++ x :: rows.drop i = rows ++ [x] := fun h => by
    have : i = rows.length := by omega
    subst this
    simp
  by_cases hroom : rows.length + 1 ≤ R.length
  · have e17 : ((R.drop i).take (rows.length + 1 - i)).length = rows.length + 1 - i := by simp; omega
    have hl1 : (splice R (i + 1) (rows.drop i)).length = R.length := splice_len (by simp; omega)
    simp -dsimp -implicitDefEqProofs only [e0, e1, hw1, hw2, hw3, hc1, hc2, e2, e3, e4, e5, e6, e7, e8, e9, e10, e11, e12, e13, e14, e16, Nat.min_self, List.length_replicate, List.length_append, hroom, e17, go_sem, ↓reduceIte, reduceCtorEq, rn1, rn2, rn3, rn4, rn5, rn6, rn7, ri1, ri2, ri3, ri4, ri5]
    repeat' (first | with_reducible apply And.intro | with_reducible intro _ | with_reducible exact drawn (by kernel_rfl) | omega)
    · rw [splice_len (by rw [List.length_singleton]; omega)]; exact hroom
    · rename_i h
      rw [hend h, ins_end R rows x e1 e0]
    · rw [splice_len (by rw [List.length_singleton, hl1]; omega), hl1]; exact hroom
    · exact (ins_room R rows x i e1 hi hroom).symm
  · simp -dsimp -implicitDefEqProofs only [e0, e1, hw1, hw2, hw3, hc1, hc2, e2, e3, e4, e5, e6, e7, e8, e9, e10, e11, e12, e13, e14, e16, Nat.min_self, List.length_replicate, List.length_append, hroom, go_sem, ↓reduceIte, reduceCtorEq, rn1, rn2, rn3, rn4, rn5, rn6, rn7, ri1, ri2, ri3, ri4, ri5]
    repeat' (first | with_reducible apply And.intro | with_reducible intro _ | with_reducible exact drawn (by kernel_rfl) | omega)
    · rename_i h
      exact (hend h).symm
    · exact ins_new R rows x _ i e1 hi
theorem withBf_ok (l : List Bn) (hl : l.length ≤ 1000000) (fo : FuncId) (ho : ∀ x y : Bn, Meets Tryz.prog fo [x.arg, y.arg] (rOne (vI (koP.cmp (kB x) (kB y))))) (x : Bn) :
    Meets Tryz.prog 157 [(false, [vD (.vec 3 (l.map Bn.cells))]), x.arg, (false, [vD (.fn fo [])])] (rTup [(false, [vI (posK koP kB l (kB x) : Nat)]), (false, [vB (hitK koP kB l (kB x))])]) :=
  withBbs_ok l hl x fo (fun y => koP.cmp (kB y) (kB x)) fun y _ => ho y x
/-- route.with. (withB) -/
theorem withB_ok (l : List Bn) (hl : l.length ≤ 999999) (fo : FuncId) (ho : ∀ x y : Bn, Meets Tryz.prog fo [x.arg, y.arg] (rOne (vI (koP.cmp (kB x) (kB y))))) (x : Bn) :
    Meets Tryz.prog 80 [(false, [vD (.vec 3 (l.map Bn.cells))]), x.arg, (false, [vD (.fn fo [])])] (rOne (.own 3 90 ((withK koP kB l x).map Bn.cells))) := by
  have hp := posK_le (o := koP) (key := kB) l (kB x)
  refine meets Tryz.func80 rfl rfl Tryz.ntmps80 Tryz.results80 rfl ?_
  simp -dsimp -implicitDefEqProofs only [go_sem, ↓reduceIte, reduceCtorEq, rn1, rn2, rn3, rn4, rn5, rn6, rn7, ri1, ri2, ri3, ri4, ri5]
  refine callP (withBcl_ok _ (by simp; omega)) ?_
  simp -dsimp -implicitDefEqProofs only [go_sem, ↓reduceIte, reduceCtorEq, rn1, rn2, rn3, rn4, rn5, rn6, rn7, ri1, ri2, ri3, ri4, ri5]
  refine callP (withBf_ok l (by omega) fo ho x) ?_
  cases hh : hitK koP kB l (kB x) with
  | true =>
    have hlt := hitK_lt hh
    have hput : (l.map Bn.cells).set (posK koP kB l (kB x)) [dI x.S, dI x.F, dI x.T] = (withK koP kB l x).map Bn.cells := by
      unfold withK; rw [if_pos hh, List.map_set]; rfl
    simp -dsimp -implicitDefEqProofs only [hh, go_sem, ↓reduceIte, reduceCtorEq, rn1, rn2, rn3, rn4, rn5, rn6, rn7, ri1, ri2, ri3, ri4, ri5]
    refine ⟨by omega, hlt, fun y hy => ?_⟩
    rw [← hput]
  | false =>
    have hput : (l.map Bn.cells).take (posK koP kB l (kB x)) ++ [dI x.S, dI x.F, dI x.T] :: (l.map Bn.cells).drop (posK koP kB l (kB x)) = (withK koP kB l x).map Bn.cells := by
      unfold withK; rw [if_neg (by simp [hh])]; simp [List.map_append, List.map_take, List.map_drop, Bn.cells]
    simp -dsimp -implicitDefEqProofs only [hh, go_sem, ↓reduceIte, reduceCtorEq, rn1, rn2, rn3, rn4, rn5, rn6, rn7, ri1, ri2, ri3, ri4, ri5]
    refine callE [true, false, true] ?_
    simp -dsimp -implicitDefEqProofs only [go_sem, ↓reduceIte, reduceCtorEq, rn1, rn2, rn3, rn4, rn5, rn6, rn7, ri1, ri2, ri3, ri4, ri5]
    refine ⟨_, withBin_ok (l.map Bn.cells) [dI x.S, dI x.F, dI x.T] (posK koP kB l (kB x)) (by simpa using hp) (by simp; omega), ?_⟩
    simp -dsimp -implicitDefEqProofs only [hput, go_sem, ↓reduceIte, reduceCtorEq, rn1, rn2, rn3, rn4, rn5, rn6, rn7, ri1, ri2, ri3, ri4, ri5]
end Go.Proofs.YtbgcpopmippbiaaGreatDoor
