
/- Generic functions of route: rises, find. server; the closures of Check. slices.Clone of zones. -/
import Derived.Test.YtolpobgfcokoaaaGreatDoorRA
open Nat renaming reduceLT → rn1, reduceLeDiff → rn2, reduceEqDiff → rn3, reduceAdd → rn4, reduceMul → rn5, reduceSub → rn6, reduceBEq → rn7
open Int renaming reduceLT → ri1, reduceLE → ri2, reduceEq → ri3, reduceBEq → ri4, reduceNeg → ri5
namespace Go.Proofs.YtolpobgfcokoaaaGreatDoor
open Go.Eng
set_option linter.unusedSimpArgs false
set_option maxRecDepth 10000

/-- Is a list in order, each once, and each right? -/
def risesAt {α : Type} (ord : α → α → Int) (right : α → Bool) (l : List α) : Nat → Bool
  | 0 => match l[0]? with
    | some x => right x
    | none => false
  | k + 1 => match l[k + 1]?, l[k]? with
    | some x, some p => right x && decide (ord p x < 0)
    | _, _ => false
def risesB {α : Type} (ord : α → α → Int) (right : α → Bool) (l : List α) : Bool := (List.range l.length).all (risesAt ord right l)
theorem rises_at0 {α : Type} (ord : α → α → Int) (right : α → Bool) {l : List α} {x : α} (h : l[0]? = some x) : risesAt ord right l 0 = right x := by
  simp only [risesAt, h]
theorem rises_atS {α : Type} (ord : α → α → Int) (right : α → Bool) {l : List α} {x p : α} {k : Nat} (h : l[k + 1]? = some x) (hp : l[k]? = some p) : risesAt ord right l (k + 1) = (right x && decide (ord p x < 0)) := by
  simp only [risesAt, h, hp]
theorem rises_bad {α : Type} {ord : α → α → Int} {right : α → Bool} {l : List α} {i : Nat} (hi : i < l.length) (h : risesAt ord right l i = false) : risesB ord right l = false :=
  all_bad (l := List.range l.length) (i := i) (x := i) (by simp [hi]) h
theorem risesB_true {α : Type} {ord : α → α → Int} {right : α → Bool} {l : List α} (h : ∀ j, j < l.length → risesAt ord right l j = true) : risesB ord right l = true :=
  List.all_eq_true.2 fun i hi => h i (List.mem_range.1 hi)
structure RsInv {α : Type} (ord : α → α → Int) (right : α → Bool) (l : List α) where
  i : Nat
  le : i ≤ l.length
  ok : ∀ j, j < i → risesAt ord right l j = true
theorem rises_iff {α κ : Type} {o : KO κ} {key : α → κ} {right : α → Bool} {l : List α} : risesB (fun x y => o.cmp (key x) (key y)) right l = true ↔ (∀ x ∈ l, right x = true) ∧ Ris o key l := by
  unfold risesB
  rw [List.all_eq_true]
  constructor
  · intro h
    have hat : ∀ i, i < l.length → risesAt (fun x y => o.cmp (key x) (key y)) right l i = true := fun i hi => h i (List.mem_range.2 hi)
    constructor
    · intro x hx
      obtain ⟨i, hi⟩ := List.mem_iff_getElem?.1 hx
      have hil := (List.getElem?_eq_some_iff.1 hi).1
      have := hat i hil
      match i with
      | 0 => rwa [rises_at0 _ _ hi] at this
      | k + 1 =>
        obtain ⟨p, hp⟩ : ∃ p, l[k]? = some p := ⟨_, List.getElem?_eq_getElem (by omega)⟩
        rw [rises_atS _ _ hi hp, Bool.and_eq_true] at this
        exact this.1
    · refine ris_of fun i x y hx hy => ?_
      have hil := (List.getElem?_eq_some_iff.1 hy).1
      have := hat (i + 1) hil
      rw [rises_atS _ _ hy hx, Bool.and_eq_true, decide_eq_true_eq] at this
      exact this.2
  · intro ⟨h1, h2⟩ i hi
    have hil := List.mem_range.1 hi
    obtain ⟨x, hx⟩ : ∃ x, l[i]? = some x := ⟨_, List.getElem?_eq_getElem hil⟩
    match i with
    | 0 => rw [rises_at0 _ _ hx]; exact h1 x (List.mem_of_getElem? hx)
    | k + 1 =>
      obtain ⟨p, hp⟩ : ∃ p, l[k]? = some p := ⟨_, List.getElem?_eq_getElem (by omega)⟩
      rw [rises_atS _ _ hx hp, h1 x (List.mem_of_getElem? hx), decide_eq_true (ris_at h2 (Nat.lt_succ_self k) hp hx)]
      rfl

/-- route.rises. (risesZ) -/
theorem risesZ_ok (l : List Zn) (hl : l.length ≤ 1000000) (fo fr : FuncId) (ord : Zn → Zn → Int) (right : Zn → Bool)
    (ho : ∀ x y : Zn, Meets Tryz.prog fo [x.arg, y.arg] (rOne (vI (ord x y)))) (hr : ∀ x ∈ l, Meets Tryz.prog fr ([x.arg]) (rOne (vB (right x)))) :
    Meets Tryz.prog 57 [(false, [vD (.vec 2 (l.map Zn.cells))]), (false, [vD (.fn fo [])]), (false, [vD (.fn fr [])])] (rOne (vB (risesB ord right l))) := by
  refine meets Tryz.func57 rfl rfl Tryz.ntmps57 Tryz.results57 rfl ?_
  simp -dsimp -implicitDefEqProofs only [go_sem, ↓reduceIte, reduceCtorEq, rn1, rn2, rn3, rn4, rn5, rn6, rn7, ri1, ri2, ri3, ri4, ri5]
  refine vfor sitOk (ι := RsInv ord right l) (fun v => ⟨36, [(11, aI v.i), (10, aI l.length), (9, aD (.vec 2 (l.map Zn.cells))), (0, aD (.vec 2 (l.map Zn.cells))), (1, aD (.fn fo [])), (2, aD (.fn fr []))], [], 8⟩) (fun v => l.length - v.i) ⟨0, by omega, fun j hj => by omega⟩ ?_ ?_
  · simp -dsimp -implicitDefEqProofs only [go_sem, ↓reduceIte, reduceCtorEq, rn1, rn2, rn3, rn4, rn5, rn6, rn7, ri1, ri2, ri3, ri4, ri5]
  intro ⟨i, hi, hok⟩
  simp -dsimp -implicitDefEqProofs only [go_sem, ↓reduceIte, reduceCtorEq, rn1, rn2, rn3, rn4, rn5, rn6, rn7, ri1, ri2, ri3, ri4, ri5]
  refine ⟨fun hlt => ?_, fun hge => ?_⟩
  · have hil : i < l.length := by omega
    obtain ⟨x, hx⟩ : ∃ x, l[i]? = some x := ⟨_, List.getElem?_eq_getElem hil⟩
    have hw := wrapS hil (by omega)
    have hrx := hr x (List.mem_of_getElem? hx)
    have hnext : risesAt ord right l i = true → ∀ j, j < i + 1 → risesAt ord right l j = true := fun h j hj => by
      by_cases hji : j = i
      · rw [hji]; exact h
      · exact hok j (by omega)
    by_cases h0 : i = 0
    · have hat : risesAt ord right l i = right x := by subst h0; exact rises_at0 ord right hx
      have hz : ¬ (0 : Int) < (i : Int) := by omega
      simp -dsimp -implicitDefEqProofs only [hx, forall_eq', hw, hz, go_sem, ↓reduceIte, reduceCtorEq, rn1, rn2, rn3, rn4, rn5, rn6, rn7, ri1, ri2, ri3, ri4, ri5]
      refine ⟨by omega, hil, callP hrx ?_⟩
      simp -dsimp -implicitDefEqProofs only [hw, hz, go_sem, ↓reduceIte, reduceCtorEq, rn1, rn2, rn3, rn4, rn5, rn6, rn7, ri1, ri2, ri3, ri4, ri5]
      refine ⟨fun h => ?_, fun h => ?_⟩
      · refine ⟨drawn (by kernel_rfl), again ⟨i + 1, by omega, hnext (by rw [hat, h])⟩ (by simp; omega) ?_⟩
        simp -dsimp -implicitDefEqProofs only [hw, go_sem, ↓reduceIte, reduceCtorEq, rn1, rn2, rn3, rn4, rn5, rn6, rn7, ri1, ri2, ri3, ri4, ri5]
      · exact ⟨drawn (by kernel_rfl), (rises_bad hil (by rw [hat, h])).symm⟩
    · obtain ⟨p, hp⟩ : ∃ p, l[i - 1]? = some p := ⟨_, List.getElem?_eq_getElem (by omega)⟩
      have hat : risesAt ord right l i = (right x && decide (ord p x < 0)) := by
        obtain ⟨k, rfl⟩ : ∃ k, i = k + 1 := ⟨i - 1, by omega⟩
        exact rises_atS ord right hx hp
      have hw2 : IntKind.i64.wrap ((i : Int) - 1) = ((i - 1 : Nat) : Int) := by rw [wrap64] <;> omega
      have hz : (0 : Int) < (i : Int) := by omega
      simp -dsimp -implicitDefEqProofs only [hx, forall_eq', hw, hw2, hp, hz, go_sem, ↓reduceIte, reduceCtorEq, rn1, rn2, rn3, rn4, rn5, rn6, rn7, ri1, ri2, ri3, ri4, ri5]
      refine ⟨by omega, hil, callP hrx ?_⟩
      simp -dsimp -implicitDefEqProofs only [hw, hw2, hp, hz, forall_eq', go_sem, ↓reduceIte, reduceCtorEq, rn1, rn2, rn3, rn4, rn5, rn6, rn7, ri1, ri2, ri3, ri4, ri5]
      refine ⟨fun h => ⟨by omega, by omega, callP (ho p x) ?_⟩, fun h => ⟨drawn (by kernel_rfl), (rises_bad hil (by rw [hat, h]; rfl)).symm⟩⟩
      simp -dsimp -implicitDefEqProofs only [hw, go_sem, ↓reduceIte, reduceCtorEq, rn1, rn2, rn3, rn4, rn5, rn6, rn7, ri1, ri2, ri3, ri4, ri5]
      refine ⟨drawn (by kernel_rfl), fun h2 => ?_, fun h2 => ?_⟩
      · exact (rises_bad hil (by rw [hat, h, decide_eq_false (by omega)]; rfl)).symm
      · refine again ⟨i + 1, by omega, hnext (by rw [hat, h, decide_eq_true (by omega)]; rfl)⟩ (by simp; omega) ?_
        simp -dsimp -implicitDefEqProofs only [hw, go_sem, ↓reduceIte, reduceCtorEq, rn1, rn2, rn3, rn4, rn5, rn6, rn7, ri1, ri2, ri3, ri4, ri5]
  · have hil : i = l.length := by omega
    subst hil
    rw [risesB_true hok]

/-- route.rises. (risesB) -/
theorem risesB_ok (l : List Bn) (hl : l.length ≤ 1000000) (fo fr : FuncId) (ord : Bn → Bn → Int) (right : Bn → Bool)
    (ho : ∀ x y : Bn, Meets Tryz.prog fo [x.arg, y.arg] (rOne (vI (ord x y)))) (n : Nt)(hr : ∀ x ∈ l, Meets Tryz.prog fr ([x.arg, (false, [vD (.pt n.cells)])]) (rOne (vB (right x)))) :
    Meets Tryz.prog 61 [(false, [vD (.vec 3 (l.map Bn.cells))]), (false, [vD (.fn fo [])]), (false, [vD (.fn fr [.pt n.cells])])] (rOne (vB (risesB ord right l))) := by
  refine meets Tryz.func61 rfl rfl Tryz.ntmps61 Tryz.results61 rfl ?_
  simp -dsimp -implicitDefEqProofs only [go_sem, ↓reduceIte, reduceCtorEq, rn1, rn2, rn3, rn4, rn5, rn6, rn7, ri1, ri2, ri3, ri4, ri5]
  refine vfor sitOk (ι := RsInv ord right l) (fun v => ⟨36, [(11, aI v.i), (10, aI l.length), (9, aD (.vec 3 (l.map Bn.cells))), (0, aD (.vec 3 (l.map Bn.cells))), (1, aD (.fn fo [])), (2, aD (.fn fr [.pt n.cells]))], [], 8⟩) (fun v => l.length - v.i) ⟨0, by omega, fun j hj => by omega⟩ ?_ ?_
  · simp -dsimp -implicitDefEqProofs only [go_sem, ↓reduceIte, reduceCtorEq, rn1, rn2, rn3, rn4, rn5, rn6, rn7, ri1, ri2, ri3, ri4, ri5]
  intro ⟨i, hi, hok⟩
  simp -dsimp -implicitDefEqProofs only [go_sem, ↓reduceIte, reduceCtorEq, rn1, rn2, rn3, rn4, rn5, rn6, rn7, ri1, ri2, ri3, ri4, ri5]
  refine ⟨fun hlt => ?_, fun hge => ?_⟩
  · have hil : i < l.length := by omega
    obtain ⟨x, hx⟩ : ∃ x, l[i]? = some x := ⟨_, List.getElem?_eq_getElem hil⟩
    have hw := wrapS hil (by omega)
    have hrx := hr x (List.mem_of_getElem? hx)
    have hnext : risesAt ord right l i = true → ∀ j, j < i + 1 → risesAt ord right l j = true := fun h j hj => by
      by_cases hji : j = i
      · rw [hji]; exact h
      · exact hok j (by omega)
    by_cases h0 : i = 0
    · have hat : risesAt ord right l i = right x := by subst h0; exact rises_at0 ord right hx
      have hz : ¬ (0 : Int) < (i : Int) := by omega
      simp -dsimp -implicitDefEqProofs only [hx, forall_eq', hw, hz, go_sem, ↓reduceIte, reduceCtorEq, rn1, rn2, rn3, rn4, rn5, rn6, rn7, ri1, ri2, ri3, ri4, ri5]
      refine ⟨by omega, hil, callP hrx ?_⟩
      simp -dsimp -implicitDefEqProofs only [hw, hz, go_sem, ↓reduceIte, reduceCtorEq, rn1, rn2, rn3, rn4, rn5, rn6, rn7, ri1, ri2, ri3, ri4, ri5]
      refine ⟨fun h => ?_, fun h => ?_⟩
      · refine ⟨drawn (by kernel_rfl), again ⟨i + 1, by omega, hnext (by rw [hat, h])⟩ (by simp; omega) ?_⟩
        simp -dsimp -implicitDefEqProofs only [hw, go_sem, ↓reduceIte, reduceCtorEq, rn1, rn2, rn3, rn4, rn5, rn6, rn7, ri1, ri2, ri3, ri4, ri5]
      · exact ⟨drawn (by kernel_rfl), (rises_bad hil (by rw [hat, h])).symm⟩
    · obtain ⟨p, hp⟩ : ∃ p, l[i - 1]? = some p := ⟨_, List.getElem?_eq_getElem (by omega)⟩
      have hat : risesAt ord right l i = (right x && decide (ord p x < 0)) := by
        obtain ⟨k, rfl⟩ : ∃ k, i = k + 1 := ⟨i - 1, by omega⟩
        exact rises_atS ord right hx hp
      have hw2 : IntKind.i64.wrap ((i : Int) - 1) = ((i - 1 : Nat) : Int) := by rw [wrap64] <;> omega
      have hz : (0 : Int) < (i : Int) := by omega
      simp -dsimp -implicitDefEqProofs only [hx, forall_eq', hw, hw2, hp, hz, go_sem, ↓reduceIte, reduceCtorEq, rn1, rn2, rn3, rn4, rn5, rn6, rn7, ri1, ri2, ri3, ri4, ri5]
      refine ⟨by omega, hil, callP hrx ?_⟩
      simp -dsimp -implicitDefEqProofs only [hw, hw2, hp, hz, forall_eq', go_sem, ↓reduceIte, reduceCtorEq, rn1, rn2, rn3, rn4, rn5, rn6, rn7, ri1, ri2, ri3, ri4, ri5]
      refine ⟨fun h => ⟨by omega, by omega, callP (ho p x) ?_⟩, fun h => ⟨drawn (by kernel_rfl), (rises_bad hil (by rw [hat, h]; rfl)).symm⟩⟩
      simp -dsimp -implicitDefEqProofs only [hw, go_sem, ↓reduceIte, reduceCtorEq, rn1, rn2, rn3, rn4, rn5, rn6, rn7, ri1, ri2, ri3, ri4, ri5]
      refine ⟨drawn (by kernel_rfl), fun h2 => ?_, fun h2 => ?_⟩
      · exact (rises_bad hil (by rw [hat, h, decide_eq_false (by omega)]; rfl)).symm
      · refine again ⟨i + 1, by omega, hnext (by rw [hat, h, decide_eq_true (by omega)]; rfl)⟩ (by simp; omega) ?_
        simp -dsimp -implicitDefEqProofs only [hw, go_sem, ↓reduceIte, reduceCtorEq, rn1, rn2, rn3, rn4, rn5, rn6, rn7, ri1, ri2, ri3, ri4, ri5]
  · have hil : i = l.length := by omega
    subst hil
    rw [risesB_true hok]

/-- route.rises. (risesC) -/
theorem risesC_ok (l : List Ck) (hl : l.length ≤ 1000000) (fo fr : FuncId) (ord : Ck → Ck → Int) (right : Ck → Bool)
    (ho : ∀ x y : Ck, Meets Tryz.prog fo [x.arg, y.arg] (rOne (vI (ord x y)))) (hr : ∀ x ∈ l, Meets Tryz.prog fr ([x.arg]) (rOne (vB (right x)))) :
    Meets Tryz.prog 65 [(false, [vD (.vec 2 (l.map Ck.cells))]), (false, [vD (.fn fo [])]), (false, [vD (.fn fr [])])] (rOne (vB (risesB ord right l))) := by
  refine meets Tryz.func65 rfl rfl Tryz.ntmps65 Tryz.results65 rfl ?_
  simp -dsimp -implicitDefEqProofs only [go_sem, ↓reduceIte, reduceCtorEq, rn1, rn2, rn3, rn4, rn5, rn6, rn7, ri1, ri2, ri3, ri4, ri5]
  refine vfor sitOk (ι := RsInv ord right l) (fun v => ⟨36, [(11, aI v.i), (10, aI l.length), (9, aD (.vec 2 (l.map Ck.cells))), (0, aD (.vec 2 (l.map Ck.cells))), (1, aD (.fn fo [])), (2, aD (.fn fr []))], [], 8⟩) (fun v => l.length - v.i) ⟨0, by omega, fun j hj => by omega⟩ ?_ ?_
  · simp -dsimp -implicitDefEqProofs only [go_sem, ↓reduceIte, reduceCtorEq, rn1, rn2, rn3, rn4, rn5, rn6, rn7, ri1, ri2, ri3, ri4, ri5]
  intro ⟨i, hi, hok⟩
  simp -dsimp -implicitDefEqProofs only [go_sem, ↓reduceIte, reduceCtorEq, rn1, rn2, rn3, rn4, rn5, rn6, rn7, ri1, ri2, ri3, ri4, ri5]
  refine ⟨fun hlt => ?_, fun hge => ?_⟩
  · have hil : i < l.length := by omega
    obtain ⟨x, hx⟩ : ∃ x, l[i]? = some x := ⟨_, List.getElem?_eq_getElem hil⟩
    have hw := wrapS hil (by omega)
    have hrx := hr x (List.mem_of_getElem? hx)
    have hnext : risesAt ord right l i = true → ∀ j, j < i + 1 → risesAt ord right l j = true := fun h j hj => by
      by_cases hji : j = i
      · rw [hji]; exact h
      · exact hok j (by omega)
    by_cases h0 : i = 0
    · have hat : risesAt ord right l i = right x := by subst h0; exact rises_at0 ord right hx
      have hz : ¬ (0 : Int) < (i : Int) := by omega
      simp -dsimp -implicitDefEqProofs only [hx, forall_eq', hw, hz, go_sem, ↓reduceIte, reduceCtorEq, rn1, rn2, rn3, rn4, rn5, rn6, rn7, ri1, ri2, ri3, ri4, ri5]
      refine ⟨by omega, hil, callP hrx ?_⟩
      simp -dsimp -implicitDefEqProofs only [hw, hz, go_sem, ↓reduceIte, reduceCtorEq, rn1, rn2, rn3, rn4, rn5, rn6, rn7, ri1, ri2, ri3, ri4, ri5]
      refine ⟨fun h => ?_, fun h => ?_⟩
      · refine ⟨drawn (by kernel_rfl), again ⟨i + 1, by omega, hnext (by rw [hat, h])⟩ (by simp; omega) ?_⟩
        simp -dsimp -implicitDefEqProofs only [hw, go_sem, ↓reduceIte, reduceCtorEq, rn1, rn2, rn3, rn4, rn5, rn6, rn7, ri1, ri2, ri3, ri4, ri5]
      · exact ⟨drawn (by kernel_rfl), (rises_bad hil (by rw [hat, h])).symm⟩
    · obtain ⟨p, hp⟩ : ∃ p, l[i - 1]? = some p := ⟨_, List.getElem?_eq_getElem (by omega)⟩
      have hat : risesAt ord right l i = (right x && decide (ord p x < 0)) := by
        obtain ⟨k, rfl⟩ : ∃ k, i = k + 1 := ⟨i - 1, by omega⟩
        exact rises_atS ord right hx hp
      have hw2 : IntKind.i64.wrap ((i : Int) - 1) = ((i - 1 : Nat) : Int) := by rw [wrap64] <;> omega
      have hz : (0 : Int) < (i : Int) := by omega
      simp -dsimp -implicitDefEqProofs only [hx, forall_eq', hw, hw2, hp, hz, go_sem, ↓reduceIte, reduceCtorEq, rn1, rn2, rn3, rn4, rn5, rn6, rn7, ri1, ri2, ri3, ri4, ri5]
      refine ⟨by omega, hil, callP hrx ?_⟩
      simp -dsimp -implicitDefEqProofs only [hw, hw2, hp, hz, forall_eq', go_sem, ↓reduceIte, reduceCtorEq, rn1, rn2, rn3, rn4, rn5, rn6, rn7, ri1, ri2, ri3, ri4, ri5]
      refine ⟨fun h => ⟨by omega, by omega, callP (ho p x) ?_⟩, fun h => ⟨drawn (by kernel_rfl), (rises_bad hil (by rw [hat, h]; rfl)).symm⟩⟩
      simp -dsimp -implicitDefEqProofs only [hw, go_sem, ↓reduceIte, reduceCtorEq, rn1, rn2, rn3, rn4, rn5, rn6, rn7, ri1, ri2, ri3, ri4, ri5]
      refine ⟨drawn (by kernel_rfl), fun h2 => ?_, fun h2 => ?_⟩
      · exact (rises_bad hil (by rw [hat, h, decide_eq_false (by omega)]; rfl)).symm
      · refine again ⟨i + 1, by omega, hnext (by rw [hat, h, decide_eq_true (by omega)]; rfl)⟩ (by simp; omega) ?_
        simp -dsimp -implicitDefEqProofs only [hw, go_sem, ↓reduceIte, reduceCtorEq, rn1, rn2, rn3, rn4, rn5, rn6, rn7, ri1, ri2, ri3, ri4, ri5]
  · have hil : i = l.length := by omega
    subst hil
    rw [risesB_true hok]

structure IxInv {α : Type} (f : α → Bool) (l : List α) where
  i : Nat
  le : i ≤ l.length
  no : ∀ j x, j < i → l[j]? = some x → f x = false
theorem find_at {α : Type} {f : α → Bool} {l : List α} {i : Nat} {x : α} (hx : l[i]? = some x) (h : f x = true) (hno : ∀ j x, j < i → l[j]? = some x → f x = false) : l.find? f = some x := by
  obtain ⟨hil, e⟩ := List.getElem?_eq_some_iff.1 hx
  rw [List.find?_eq_some_iff_getElem]
  exact ⟨h, i, hil, e, fun j hj => by rw [hno j l[j] hj (List.getElem?_eq_getElem (by omega))]; rfl⟩

/-- route.find. (findV) -/
theorem findVc_ok (fo : FuncId) (ord : Sv → Sv → Int) (ho : ∀ x y : Sv, Meets Tryz.prog fo [x.arg, y.arg] (rOne (vI (ord x y)))) (y x : Sv) :
    Meets Tryz.prog 153 [y.arg, (false, [vD (.pt [.fn fo []])]), (false, [vD (.pt x.cells)])] (rOne (vB (ord y x == 0))) := by
  refine meets Tryz.func153 rfl rfl Tryz.ntmps153 Tryz.results153 rfl ?_
  simp -dsimp -implicitDefEqProofs only [go_sem, ↓reduceIte, reduceCtorEq, rn1, rn2, rn3, rn4, rn5, rn6, rn7, ri1, ri2, ri3, ri4, ri5]
  refine callP (ho y x) ?_
  simp -dsimp -implicitDefEqProofs only [go_sem, ↓reduceIte, reduceCtorEq, rn1, rn2, rn3, rn4, rn5, rn6, rn7, ri1, ri2, ri3, ri4, ri5]
theorem findV_ok (l : List Sv) (hl : l.length ≤ 1000000) (fo : FuncId) (ord : Sv → Sv → Int) (ho : ∀ x y : Sv, Meets Tryz.prog fo [x.arg, y.arg] (rOne (vI (ord x y)))) (x : Sv) :
    Meets Tryz.prog 109 [(false, [vD (.vec 2 (l.map Sv.cells))]), x.arg, (false, [vD (.fn fo [])])] (rTup [((l.find? fun y => ord y x == 0).getD ⟨0, []⟩).arg, (false, [vB (l.find? fun y => ord y x == 0).isSome])]) := by
  refine meets Tryz.func109 rfl rfl Tryz.ntmps109 Tryz.results109 rfl ?_
  simp -dsimp -implicitDefEqProofs only [go_sem, ↓reduceIte, reduceCtorEq, rn1, rn2, rn3, rn4, rn5, rn6, rn7, ri1, ri2, ri3, ri4, ri5]
  refine callW rfl Tryz.func152 rfl rfl Tryz.ntmps152 Tryz.results152 rfl ?_
  simp -dsimp -implicitDefEqProofs only [retH, go_sem, ↓reduceIte, reduceCtorEq, rn1, rn2, rn3, rn4, rn5, rn6, rn7, ri1, ri2, ri3, ri4, ri5]
  refine vfreeze 0 rfl (vfreeze 8 rfl ?_)
  simp -dsimp -implicitDefEqProofs only [go_sem, ↓reduceIte, reduceCtorEq, rn1, rn2, rn3, rn4, rn5, rn6, rn7, ri1, ri2, ri3, ri4, ri5]
  refine vfor sitOk (ι := IxInv (fun y => ord y x == 0) l) (fun v => ⟨19, [(8, aI v.i), (7, aI l.length), (0, aD (.vec 2 (l.map Sv.cells))), (1, .cs false [.clo 153 [.ptr 8 0, .ptr 0 0]])], [(16, some (.var [cI 0, .nils 2] true)), (8, some (.var [cD (.fn fo [])] false)), (0, some (.var [cI x.A, cD (zonesD x.Z)] false))], 100⟩) (fun v => l.length - v.i) ⟨0, by omega, fun j x hj => by omega⟩ ?_ ?_
  · simp -dsimp -implicitDefEqProofs only [go_sem, ↓reduceIte, reduceCtorEq, rn1, rn2, rn3, rn4, rn5, rn6, rn7, ri1, ri2, ri3, ri4, ri5]
  intro ⟨i, hi, hno⟩
  simp -dsimp -implicitDefEqProofs only [go_sem, ↓reduceIte, reduceCtorEq, rn1, rn2, rn3, rn4, rn5, rn6, rn7, ri1, ri2, ri3, ri4, ri5]
  refine ⟨fun hlt => ?_, fun hge => ?_⟩
  · have hil : i < l.length := by omega
    obtain ⟨y, hx⟩ : ∃ y, l[i]? = some y := ⟨_, List.getElem?_eq_getElem hil⟩
    have hw := wrapS hil (by omega)
    simp -dsimp -implicitDefEqProofs only [hx, forall_eq', hw, go_sem, ↓reduceIte, reduceCtorEq, rn1, rn2, rn3, rn4, rn5, rn6, rn7, ri1, ri2, ri3, ri4, ri5]
    refine ⟨by omega, hil, callP (findVc_ok fo ord ho y x) ?_⟩
    cases hc : ord y x == 0 with
    | true =>
      have hf : (l.find? fun y => ord y x == 0) = some y := find_at hx hc hno
      rw [hf]
      simp -dsimp -implicitDefEqProofs only [retH, hw, hc, hx, forall_eq', go_sem, ↓reduceIte, reduceCtorEq, rn1, rn2, rn3, rn4, rn5, rn6, rn7, ri1, ri2, ri3, ri4, ri5]
      refine ⟨fun h => by omega, fun _ => ⟨by omega, hil, ?_⟩⟩
      simp
    | false =>
      simp -dsimp -implicitDefEqProofs only [hw, hc, go_sem, ↓reduceIte, reduceCtorEq, rn1, rn2, rn3, rn4, rn5, rn6, rn7, ri1, ri2, ri3, ri4, ri5]
      refine again ⟨i + 1, by omega, fun j z hj hz => ?_⟩ (by simp; omega) ?_
      · by_cases hji : j = i
        · subst hji; rw [hx] at hz; cases hz; exact hc
        · exact hno j z (by omega) hz
      · simp -dsimp -implicitDefEqProofs only [hw, go_sem, ↓reduceIte, reduceCtorEq, rn1, rn2, rn3, rn4, rn5, rn6, rn7, ri1, ri2, ri3, ri4, ri5]
  · have hil : i = l.length := by omega
    subst hil
    have hf : (l.find? fun y => ord y x == 0) = none := List.find?_eq_none.2 fun z hz => by
      obtain ⟨j, hj⟩ := List.mem_iff_getElem?.1 hz
      rw [hno j z (List.getElem?_eq_some_iff.1 hj).1 hj]; simp
    rw [hf]
    simp -dsimp -implicitDefEqProofs only [retH, go_sem, ↓reduceIte, reduceCtorEq, rn1, rn2, rn3, rn4, rn5, rn6, rn7, ri1, ri2, ri3, ri4, ri5]
    simp

/-- route.find. (findB) -/
theorem findBc_ok (fo : FuncId) (ord : Bn → Bn → Int) (ho : ∀ x y : Bn, Meets Tryz.prog fo [x.arg, y.arg] (rOne (vI (ord x y)))) (y x : Bn) :
    Meets Tryz.prog 177 [y.arg, (false, [vD (.pt [.fn fo []])]), (false, [vD (.pt x.cells)])] (rOne (vB (ord y x == 0))) := by
  refine meets Tryz.func177 rfl rfl Tryz.ntmps177 Tryz.results177 rfl ?_
  simp -dsimp -implicitDefEqProofs only [go_sem, ↓reduceIte, reduceCtorEq, rn1, rn2, rn3, rn4, rn5, rn6, rn7, ri1, ri2, ri3, ri4, ri5]
  refine callP (ho y x) ?_
  simp -dsimp -implicitDefEqProofs only [go_sem, ↓reduceIte, reduceCtorEq, rn1, rn2, rn3, rn4, rn5, rn6, rn7, ri1, ri2, ri3, ri4, ri5]
theorem findB_ok (l : List Bn) (hl : l.length ≤ 1000000) (fo : FuncId) (ord : Bn → Bn → Int) (ho : ∀ x y : Bn, Meets Tryz.prog fo [x.arg, y.arg] (rOne (vI (ord x y)))) (x : Bn) :
    Meets Tryz.prog 130 [(false, [vD (.vec 3 (l.map Bn.cells))]), x.arg, (false, [vD (.fn fo [])])] (rTup [((l.find? fun y => ord y x == 0).getD ⟨0, 0, 0⟩).arg, (false, [vB (l.find? fun y => ord y x == 0).isSome])]) := by
  refine meets Tryz.func130 rfl rfl Tryz.ntmps130 Tryz.results130 rfl ?_
  simp -dsimp -implicitDefEqProofs only [go_sem, ↓reduceIte, reduceCtorEq, rn1, rn2, rn3, rn4, rn5, rn6, rn7, ri1, ri2, ri3, ri4, ri5]
  refine callW rfl Tryz.func176 rfl rfl Tryz.ntmps176 Tryz.results176 rfl ?_
  simp -dsimp -implicitDefEqProofs only [retH, go_sem, ↓reduceIte, reduceCtorEq, rn1, rn2, rn3, rn4, rn5, rn6, rn7, ri1, ri2, ri3, ri4, ri5]
  refine vfreeze 0 rfl (vfreeze 8 rfl ?_)
  simp -dsimp -implicitDefEqProofs only [go_sem, ↓reduceIte, reduceCtorEq, rn1, rn2, rn3, rn4, rn5, rn6, rn7, ri1, ri2, ri3, ri4, ri5]
  refine vfor sitOk (ι := IxInv (fun y => ord y x == 0) l) (fun v => ⟨19, [(8, aI v.i), (7, aI l.length), (0, aD (.vec 3 (l.map Bn.cells))), (1, .cs false [.clo 177 [.ptr 8 0, .ptr 0 0]])], [(16, some (.var [cI 0, cI 0, cI 0] true)), (8, some (.var [cD (.fn fo [])] false)), (0, some (.var [cI x.S, cI x.F, cI x.T] false))], 100⟩) (fun v => l.length - v.i) ⟨0, by omega, fun j x hj => by omega⟩ ?_ ?_
  · simp -dsimp -implicitDefEqProofs only [go_sem, ↓reduceIte, reduceCtorEq, rn1, rn2, rn3, rn4, rn5, rn6, rn7, ri1, ri2, ri3, ri4, ri5]
  intro ⟨i, hi, hno⟩
  simp -dsimp -implicitDefEqProofs only [go_sem, ↓reduceIte, reduceCtorEq, rn1, rn2, rn3, rn4, rn5, rn6, rn7, ri1, ri2, ri3, ri4, ri5]
  refine ⟨fun hlt => ?_, fun hge => ?_⟩
  · have hil : i < l.length := by omega
    obtain ⟨y, hx⟩ : ∃ y, l[i]? = some y := ⟨_, List.getElem?_eq_getElem hil⟩
    have hw := wrapS hil (by omega)
    simp -dsimp -implicitDefEqProofs only [hx, forall_eq', hw, go_sem, ↓reduceIte, reduceCtorEq, rn1, rn2, rn3, rn4, rn5, rn6, rn7, ri1, ri2, ri3, ri4, ri5]
    refine ⟨by omega, hil, callP (findBc_ok fo ord ho y x) ?_⟩
    cases hc : ord y x == 0 with
    | true =>
      have hf : (l.find? fun y => ord y x == 0) = some y := find_at hx hc hno
      rw [hf]
      simp -dsimp -implicitDefEqProofs only [retH, hw, hc, hx, forall_eq', go_sem, ↓reduceIte, reduceCtorEq, rn1, rn2, rn3, rn4, rn5, rn6, rn7, ri1, ri2, ri3, ri4, ri5]
      refine ⟨fun h => by omega, fun _ => ⟨by omega, hil, ?_⟩⟩
      simp
    | false =>
      simp -dsimp -implicitDefEqProofs only [hw, hc, go_sem, ↓reduceIte, reduceCtorEq, rn1, rn2, rn3, rn4, rn5, rn6, rn7, ri1, ri2, ri3, ri4, ri5]
      refine again ⟨i + 1, by omega, fun j z hj hz => ?_⟩ (by simp; omega) ?_
      · by_cases hji : j = i
        · subst hji; rw [hx] at hz; cases hz; exact hc
        · exact hno j z (by omega) hz
      · simp -dsimp -implicitDefEqProofs only [hw, go_sem, ↓reduceIte, reduceCtorEq, rn1, rn2, rn3, rn4, rn5, rn6, rn7, ri1, ri2, ri3, ri4, ri5]
  · have hil : i = l.length := by omega
    subst hil
    have hf : (l.find? fun y => ord y x == 0) = none := List.find?_eq_none.2 fun z hz => by
      obtain ⟨j, hj⟩ := List.mem_iff_getElem?.1 hz
      rw [hno j z (List.getElem?_eq_some_iff.1 hj).1 hj]; simp
    rw [hf]
    simp -dsimp -implicitDefEqProofs only [retH, go_sem, ↓reduceIte, reduceCtorEq, rn1, rn2, rn3, rn4, rn5, rn6, rn7, ri1, ri2, ri3, ri4, ri5]
    simp

end Go.Proofs.YtolpobgfcokoaaaGreatDoor
namespace Go.Proofs.YtolpobgfcokoaaaGreatDoor
open Go.Eng
set_option linter.unusedSimpArgs false
set_option maxRecDepth 10000

def noV : Sv := ⟨0, []⟩
abbrev svF (n : Nt) (addr : Int) : Option Sv := findK koI kS n.V addr
def svG (n : Nt) (addr : Int) : Sv := (svF n addr).getD noV
theorem server_ok (n : Nt) (addr : Int) (hl : n.V.length ≤ 1000000) : Meets Tryz.prog 64 [n.arg, (false, [vI addr])] (rTup [(svG n addr).arg, (false, [vB (svF n addr).isSome])]) := by
  refine meets Tryz.func64 rfl rfl Tryz.ntmps64 Tryz.results64 rfl ?_
  simp -dsimp -implicitDefEqProofs only [go_sem, ↓reduceIte, reduceCtorEq, rn1, rn2, rn3, rn4, rn5, rn6, rn7, ri1, ri2, ri3, ri4, ri5]
  refine callP (findV_ok n.V hl _ (fun s t => cmpI s.A t.A) byAddr_ok ⟨addr, []⟩) ?_
  simp -dsimp -implicitDefEqProofs only [go_sem, ↓reduceIte, reduceCtorEq, rn1, rn2, rn3, rn4, rn5, rn6, rn7, ri1, ri2, ri3, ri4, ri5]
  exact ⟨⟨rfl, rfl⟩, rfl⟩
theorem odd2_ok (n : Int) : Meets Tryz.prog 110 [(false, [vR n])] (rOne (vB (decide (n < 33) || decide (126 < n)))) := by
  refine meets Tryz.func110 rfl rfl Tryz.ntmps110 Tryz.results110 rfl ?_
  simp -dsimp -implicitDefEqProofs only [go_sem, ↓reduceIte, reduceCtorEq, rn1, rn2, rn3, rn4, rn5, rn6, rn7, ri1, ri2, ri3, ri4, ri5]
  repeat' (first | with_reducible apply And.intro | with_reducible intro _ | with_reducible exact drawn (by kernel_rfl) | omega)
  all_goals simp [*]
  all_goals omega
theorem text_ok (l : Bs) : Meets Tryz.prog 68 [(false, [vS l])] (rOne (vB (plainB l))) := by
  refine meets Tryz.func68 rfl rfl Tryz.ntmps68 Tryz.results68 rfl ?_
  simp -dsimp -implicitDefEqProofs only [go_sem, ↓reduceIte, reduceCtorEq, rn1, rn2, rn3, rn4, rn5, rn6, rn7, ri1, ri2, ri3, ri4, ri5]
  repeat' (first | with_reducible apply And.intro | with_reducible intro _ | with_reducible exact drawn (by kernel_rfl) | (refine callP (containsOdd_ok _ _ odd2_ok) ?_; simp -dsimp -implicitDefEqProofs only [go_sem, ↓reduceIte, reduceCtorEq, rn1, rn2, rn3, rn4, rn5, rn6, rn7, ri1, ri2, ri3, ri4, ri5]) | omega)
  all_goals unfold plainB
  · rename_i h1 h2
    rw [Bool.not_not, decide_eq_true (List.length_pos_iff.2 h1), decide_eq_true (by omega)]; simp
  · rename_i h1 h2
    rw [show decide (l.length ≤ 64) = false from decide_eq_false (by omega)]; simp
  · rename_i h1
    rw [h1]; rfl
def addrB (a : Int) : Bool := decide (0 ≤ a) && decide (a < 8)
theorem address_ok (a : Int) : Meets Tryz.prog 56 [(false, [vI a])] (rOne (vB (addrB a))) := by
  refine meets Tryz.func56 rfl rfl Tryz.ntmps56 Tryz.results56 rfl ?_
  simp -dsimp -implicitDefEqProofs only [go_sem, ↓reduceIte, reduceCtorEq, rn1, rn2, rn3, rn4, rn5, rn6, rn7, ri1, ri2, ri3, ri4, ri5]
  repeat' (first | with_reducible apply And.intro | with_reducible intro _ | with_reducible exact drawn (by kernel_rfl) | omega)
  all_goals unfold addrB
  · rename_i h1
    rw [decide_eq_true h1]; rfl
  · rename_i h1
    rw [show decide (0 ≤ a) = false from decide_eq_false (by omega)]; rfl
def zoneB (z : Zn) : Bool := checkV z.A z.R == 0
theorem chkZ_ok (z : Zn) (hz : z.R.length ≤ 1000000) : Meets Tryz.prog 59 [z.arg] (rOne (vB (zoneB z))) := by
  refine meets Tryz.func59 rfl rfl Tryz.ntmps59 Tryz.results59 rfl ?_
  simp -dsimp -implicitDefEqProofs only [go_sem, ↓reduceIte, reduceCtorEq, rn1, rn2, rn3, rn4, rn5, rn6, rn7, ri1, ri2, ri3, ri4, ri5]
  refine callP (zcheck_ok z.A z.R hz) ?_
  simp -dsimp -implicitDefEqProofs only [go_sem, ↓reduceIte, reduceCtorEq, rn1, rn2, rn3, rn4, rn5, rn6, rn7, ri1, ri2, ri3, ri4, ri5]
  rfl
def bendB (n : Nt) (b : Bn) : Bool := decide (0 ≤ b.S) && decide (b.S < n.N) && (svF n b.F).isSome && (svF n b.T).isSome && !decide (b.F = b.T)
theorem chkB_ok (n : Nt) (b : Bn) (hl : n.V.length ≤ 1000000) : Meets Tryz.prog 63 [b.arg, (false, [vD (.pt n.cells)])] (rOne (vB (bendB n b))) := by
  refine meets Tryz.func63 rfl rfl Tryz.ntmps63 Tryz.results63 rfl ?_
  simp -dsimp -implicitDefEqProofs only [go_sem, ↓reduceIte, reduceCtorEq, rn1, rn2, rn3, rn4, rn5, rn6, rn7, ri1, ri2, ri3, ri4, ri5]
  refine callP (server_ok n b.F hl) ?_
  simp -dsimp -implicitDefEqProofs only [go_sem, ↓reduceIte, reduceCtorEq, rn1, rn2, rn3, rn4, rn5, rn6, rn7, ri1, ri2, ri3, ri4, ri5]
  refine callP (server_ok n b.T hl) ?_
  simp -dsimp -implicitDefEqProofs only [go_sem, ↓reduceIte, reduceCtorEq, rn1, rn2, rn3, rn4, rn5, rn6, rn7, ri1, ri2, ri3, ri4, ri5]
  unfold bendB
  refine ⟨fun h1 => ⟨fun h2 => ⟨fun h3 => ⟨fun h4 => ?_, fun h4 => ?_⟩, fun h3 => ?_⟩, fun h2 => ?_⟩, fun h1 => ?_⟩
  · rw [decide_eq_true h1, decide_eq_true h2, h3, h4]; rfl
  · rw [h4]; simp
  · rw [h3]; simp
  · rw [show decide (b.S < n.N) = false from decide_eq_false (by omega)]; simp
  · rw [show decide (0 ≤ b.S) = false from decide_eq_false (by omega)]; simp
def clkB (c : Ck) : Bool := plainB c.W && decide (-5 ≤ c.B) && decide (c.B ≤ 5)
theorem chkC_ok (c : Ck) (h1 : -9223372036854775808 ≤ c.B) (h2 : c.B ≤ 9223372036854775807) : Meets Tryz.prog 67 [c.arg] (rOne (vB (clkB c))) := by
  refine meets Tryz.func67 rfl rfl Tryz.ntmps67 Tryz.results67 rfl ?_
  simp -dsimp -implicitDefEqProofs only [go_sem, ↓reduceIte, reduceCtorEq, rn1, rn2, rn3, rn4, rn5, rn6, rn7, ri1, ri2, ri3, ri4, ri5]
  refine callP (text_ok c.W) ?_
  simp -dsimp -implicitDefEqProofs only [go_sem, ↓reduceIte, reduceCtorEq, rn1, rn2, rn3, rn4, rn5, rn6, rn7, ri1, ri2, ri3, ri4, ri5]
  have hw : IntKind.i64.wrap (0 - c.B) = if c.B = -9223372036854775808 then c.B else -c.B := by
    split
    · rename_i e; rw [e]; decide
    · rw [wrap64] <;> omega
  rw [hw]
  unfold clkB
  refine ⟨fun h => ⟨fun h3 => ?_, fun h3 => ?_⟩, fun h => ?_⟩
  · rw [h]
    by_cases h4 : -5 ≤ c.B
    · have : c.B ≤ 5 := by
        by_cases e : c.B = -9223372036854775808
        · omega
        · simp only [if_neg e] at h3
          by_cases f : c.B < -c.B
          · omega
          · rw [if_neg f] at h3; exact h3
      rw [decide_eq_true h4, decide_eq_true this]; rfl
    · rw [decide_eq_false h4]; rfl
  · rw [h]
    have : ¬ (-5 ≤ c.B ∧ c.B ≤ 5) := by
      rintro ⟨h5, h6⟩
      have e : ¬ c.B = -9223372036854775808 := by omega
      simp only [if_neg e] at h3
      by_cases f : c.B < -c.B
      · rw [if_pos f] at h3; omega
      · rw [if_neg f] at h3; omega
    by_cases h4 : -5 ≤ c.B
    · rw [decide_eq_true h4, show decide (c.B ≤ 5) = false from decide_eq_false (fun h => this ⟨h4, h⟩)]; rfl
    · rw [decide_eq_false h4]; rfl
  · rw [h]; rfl
end Go.Proofs.YtolpobgfcokoaaaGreatDoor
namespace Go.Proofs.YtolpobgfcokoaaaGreatDoor
open Go.Eng
set_option linter.unusedSimpArgs false
set_option maxRecDepth 10000

theorem withZcl_ok (rows : List (List D)) (hl : rows.length ≤ 1000000) :
    Meets Tryz.prog 131 [(false, [vD (.vec 2 rows)])] (rOne (.own 2 59 rows)) := by
  refine meets Tryz.func131 rfl rfl Tryz.ntmps131 Tryz.results131 rfl ?_
  simp -dsimp -implicitDefEqProofs only [go_sem, ↓reduceIte, reduceCtorEq, rn1, rn2, rn3, rn4, rn5, rn6, rn7, ri1, ri2, ri3, ri4, ri5]
  exact fun b hb => ⟨fun h => Classical.byContradiction fun hn => absurd ((hb hn).symm.trans h) (by simp), fun _ => ⟨by omega, by omega⟩⟩
end Go.Proofs.YtolpobgfcokoaaaGreatDoor
