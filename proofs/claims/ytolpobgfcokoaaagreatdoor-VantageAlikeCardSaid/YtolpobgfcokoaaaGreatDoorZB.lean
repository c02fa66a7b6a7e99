
/- Records, as data; the contracts of order, plain, formed, at, crowded, Check. The contracts of crowded, Check, New. The order of records; records of a zone stand in order; an alias stands alone. What may be a zone, in plain words. -/
import Derived.Test.YtolpobgfcokoaaaGreatDoorZA
open Nat renaming reduceLT → rn1, reduceLeDiff → rn2, reduceEqDiff → rn3, reduceAdd → rn4, reduceMul → rn5, reduceSub → rn6, reduceBEq → rn7
open Int renaming reduceLT → ri1, reduceLE → ri2, reduceEq → ri3, reduceBEq → ri4, reduceNeg → ri5
namespace Go.Proofs.YtolpobgfcokoaaaGreatDoor
open Go.Eng
set_option linter.unusedSimpArgs false
set_option maxRecDepth 10000

/-- A record: Name, Kind, Value, Life. -/
structure Rec where
  N : Bs
  K : Int
  V : Bs
  L : Int
  deriving DecidableEq
def Rec.cells (x : Rec) : List D := [dT x.N, dI x.K, dT x.V, dI x.L]
attribute [go_sem] Rec.cells
abbrev recsD (l : List Rec) : D := .vec 4 (l.map Rec.cells)
abbrev Rec.arg (x : Rec) : Bool × List CV := (true, [vS x.N, vI x.K, vS x.V, vI x.L])
abbrev zoneA (a : Bs) (l : List Rec) : Bool × List CV := (true, [vS a, vD (recsD l)])

/-! ### The order of records -/
def cmpI (a b : Int) : Int := if a < b then -1 else if b < a then 1 else 0
theorem nan_ok (a : Int) : Meets Tryz.prog 140 [(false, [vI a])] (rOne (vB false)) := by
  refine meets Tryz.func140 rfl rfl Tryz.ntmps140 Tryz.results140 rfl ?_
  simp -dsimp -implicitDefEqProofs only [go_sem, ↓reduceIte, reduceCtorEq, rn1, rn2, rn3, rn4, rn5, rn6, rn7, ri1, ri2, ri3, ri4, ri5]
theorem cmpI_ok (a b : Int) : Meets Tryz.prog 95 [(false, [vI a]), (false, [vI b])] (rOne (vI (cmpI a b))) := by
  refine meets Tryz.func95 rfl rfl Tryz.ntmps95 Tryz.results95 rfl ?_
  simp -dsimp -implicitDefEqProofs only [go_sem, ↓reduceIte, reduceCtorEq, rn1, rn2, rn3, rn4, rn5, rn6, rn7, ri1, ri2, ri3, ri4, ri5]
  repeat' (first | with_reducible apply And.intro | with_reducible intro _ | with_reducible exact drawn (by kernel_rfl) | (refine callP (nan_ok _) ?_; simp -dsimp -implicitDefEqProofs only [go_sem, ↓reduceIte, reduceCtorEq, rn1, rn2, rn3, rn4, rn5, rn6, rn7, ri1, ri2, ri3, ri4, ri5]) | omega)
  all_goals (unfold cmpI; (try split) <;> (try split) <;> omega)
theorem cmpS_ok (a b : Bs) : Meets Tryz.prog 103 [(false, [vS a]), (false, [vS b])] (rOne (vI (cmpB a b))) := by
  have h : Meets Tryz.prog 148 [(false, [vS a]), (false, [vS b])] (rOne (vI (cmpB a b))) := by
    refine meets Tryz.func148 rfl rfl Tryz.ntmps148 Tryz.results148 rfl ?_
    simp -dsimp -implicitDefEqProofs only [compare_eq, go_sem, ↓reduceIte, reduceCtorEq, rn1, rn2, rn3, rn4, rn5, rn6, rn7, ri1, ri2, ri3, ri4, ri5]
  refine meets Tryz.func103 rfl rfl Tryz.ntmps103 Tryz.results103 rfl ?_
  simp -dsimp -implicitDefEqProofs only [go_sem, ↓reduceIte, reduceCtorEq, rn1, rn2, rn3, rn4, rn5, rn6, rn7, ri1, ri2, ri3, ri4, ri5]
  refine callP h ?_
  simp -dsimp -implicitDefEqProofs only [go_sem, ↓reduceIte, reduceCtorEq, rn1, rn2, rn3, rn4, rn5, rn6, rn7, ri1, ri2, ri3, ri4, ri5]
def or3 (x y z : Int) : Int := if x = 0 then (if y = 0 then z else y) else x
theorem or3_ok (x y z : Int) : Meets Tryz.prog 102 [(false, [vD (.vec 1 [[dI x], [dI y], [dI z]])])] (rOne (vI (or3 x y z))) := by
  have w1 : IntKind.i64.wrap ((0 : Int) + 1) = 1 := by decide
  have w2 : IntKind.i64.wrap ((1 : Int) + 1) = 2 := by decide
  have w3 : IntKind.i64.wrap ((2 : Int) + 1) = 3 := by decide
  have t1 : Int.toNat 1 = 1 := rfl
  have t2 : Int.toNat 2 = 2 := rfl
  refine meets Tryz.func102 rfl rfl Tryz.ntmps102 Tryz.results102 rfl ?_
  simp -dsimp -implicitDefEqProofs only [go_sem, ↓reduceIte, reduceCtorEq, rn1, rn2, rn3, rn4, rn5, rn6, rn7, ri1, ri2, ri3, ri4, ri5]
  refine vrounds 4 sitOk ?_
  simp -dsimp -implicitDefEqProofs only [go_sem, ↓reduceIte, reduceCtorEq, rn1, rn2, rn3, rn4, rn5, rn6, rn7, ri1, ri2, ri3, ri4, ri5]
  refine vround ?_
  simp -dsimp -implicitDefEqProofs only [w1, go_sem, ↓reduceIte, reduceCtorEq, rn1, rn2, rn3, rn4, rn5, rn6, rn7, ri1, ri2, ri3, ri4, ri5]
  refine ⟨fun h => by simp [or3, h], fun h => vround ?_⟩
  simp -dsimp -implicitDefEqProofs only [w2, t1, go_sem, ↓reduceIte, reduceCtorEq, rn1, rn2, rn3, rn4, rn5, rn6, rn7, ri1, ri2, ri3, ri4, ri5]
  refine ⟨fun h2 => by simp [or3, h, h2], fun h2 => vround ?_⟩
  simp -dsimp -implicitDefEqProofs only [w3, t2, go_sem, ↓reduceIte, reduceCtorEq, rn1, rn2, rn3, rn4, rn5, rn6, rn7, ri1, ri2, ri3, ri4, ri5]
  refine ⟨fun h3 => by simp [or3, h, h2], fun h3 => vround ?_⟩
  simp -dsimp -implicitDefEqProofs only [go_sem, ↓reduceIte, reduceCtorEq, rn1, rn2, rn3, rn4, rn5, rn6, rn7, ri1, ri2, ri3, ri4, ri5]
  simp [or3, h, h2, h3]
def ordR (a b : Rec) : Int := or3 (cmpB a.N b.N) (cmpI a.K b.K) (cmpB a.V b.V)
theorem order_ok (a b : Rec) : Meets Tryz.prog 107 [a.arg, b.arg] (rOne (vI (ordR a b))) := by
  refine meets Tryz.func107 rfl rfl Tryz.ntmps107 Tryz.results107 rfl ?_
  simp -dsimp -implicitDefEqProofs only [go_sem, ↓reduceIte, reduceCtorEq, rn1, rn2, rn3, rn4, rn5, rn6, rn7, ri1, ri2, ri3, ri4, ri5]
  repeat' (first | with_reducible apply And.intro | with_reducible intro _ | with_reducible exact drawn (by kernel_rfl) | (refine callP (cmpS_ok _ _) ?_; simp -dsimp -implicitDefEqProofs only [go_sem, ↓reduceIte, reduceCtorEq, rn1, rn2, rn3, rn4, rn5, rn6, rn7, ri1, ri2, ri3, ri4, ri5]) | (refine callP (cmpI_ok _ _) ?_; simp -dsimp -implicitDefEqProofs only [go_sem, ↓reduceIte, reduceCtorEq, rn1, rn2, rn3, rn4, rn5, rn6, rn7, ri1, ri2, ri3, ri4, ri5]) | (refine callP (or3_ok _ _ _) ?_; simp -dsimp -implicitDefEqProofs only [go_sem, ↓reduceIte, reduceCtorEq, rn1, rn2, rn3, rn4, rn5, rn6, rn7, ri1, ri2, ri3, ri4, ri5]) | omega)
  rfl

/-! ### plain -/
def plainC (c : UInt8) : Bool := decide (33 ≤ c.toNat) && decide (c.toNat ≤ 126)
def plainB (l : Bs) : Bool := decide (0 < l.length) && decide (l.length ≤ 64) && l.all plainC
theorem odd_ok (n : Int) : Meets Tryz.prog 191 [(false, [vR n])] (rOne (vB (decide (n < 33) || decide (126 < n)))) := by
  refine meets Tryz.func191 rfl rfl Tryz.ntmps191 Tryz.results191 rfl ?_
  simp -dsimp -implicitDefEqProofs only [go_sem, ↓reduceIte, reduceCtorEq, rn1, rn2, rn3, rn4, rn5, rn6, rn7, ri1, ri2, ri3, ri4, ri5]
  repeat' (first | with_reducible apply And.intro | with_reducible intro _ | with_reducible exact drawn (by kernel_rfl) | omega)
  all_goals simp [*]
  all_goals omega
theorem all_get {α : Type} {l : List α} {f : α → Bool} (h : ∀ j c, j < l.length → l[j]? = some c → f c = true) : l.all f = true := by
  rw [List.all_eq_true]
  intro x hx
  obtain ⟨i, hi⟩ := List.mem_iff_getElem?.1 hx
  exact h i x (List.getElem?_eq_some_iff.1 hi).1 hi
theorem all_bad {α : Type} {l : List α} {f : α → Bool} {i : Nat} {x : α} (hi : l[i]? = some x) (h : f x = false) : l.all f = false := by
  rw [Bool.eq_false_iff]
  intro hh
  rw [List.all_eq_true] at hh
  rw [hh x (List.mem_of_getElem? hi)] at h; cases h
def oddAt (l : Bs) : Int := match l.findIdx? fun c => !plainC c with
  | some i => (i : Nat)
  | none => -1
theorem oddAt_all (l : Bs) : decide (0 ≤ oddAt l) = !l.all plainC := by
  unfold oddAt
  cases h : l.findIdx? fun c => !plainC c with
  | none =>
    rw [List.findIdx?_eq_none_iff] at h
    have : l.all plainC = true := List.all_eq_true.2 fun x hx => by simpa using h x hx
    rw [this]; rfl
  | some i =>
    obtain ⟨hi, h1, _⟩ := List.findIdx?_eq_some_iff_getElem.1 h
    rw [all_bad (List.getElem?_eq_getElem hi) (by simpa using h1)]
    simp
structure IfInv (l : Bs) where
  p : Nat
  le : p ≤ l.length
  ok : ∀ j c, j < p → l[j]? = some c → plainC c = true
theorem indexOdd_ok (l : Bs) (f : FuncId) (ho : ∀ n : Int, Meets Tryz.prog f [(false, [vR n])] (rOne (vB (decide (n < 33) || decide (126 < n))))) : Meets Tryz.prog 193 [(false, [vS l]), (false, [vD (.fn f [])]), (false, [vB true])] (rOne (vI (oddAt l))) := by
  refine meets Tryz.func193 rfl rfl Tryz.ntmps193 Tryz.results193 rfl ?_
  simp -dsimp -implicitDefEqProofs only [go_sem, ↓reduceIte, reduceCtorEq, rn1, rn2, rn3, rn4, rn5, rn6, rn7, ri1, ri2, ri3, ri4, ri5]
  refine vfor sitOk (ι := IfInv l) (fun v => ⟨21, [(10, aP 16 0), (1, aD (.fn f [])), (2, aB true)], [(16, some (.it (bytes l) v.p))], 24⟩) (fun v => l.length - v.p) ⟨0, by omega, fun j c hj => by omega⟩ ?_ ?_
  · simp -dsimp -implicitDefEqProofs only [go_sem, ↓reduceIte, reduceCtorEq, rn1, rn2, rn3, rn4, rn5, rn6, rn7, ri1, ri2, ri3, ri4, ri5]
  intro ⟨p, hp, hok⟩
  simp -dsimp -implicitDefEqProofs only [go_sem, ↓reduceIte, reduceCtorEq, rn1, rn2, rn3, rn4, rn5, rn6, rn7, ri1, ri2, ri3, ri4, ri5]
  refine ⟨fun hlt => ?_, fun hge => ?_⟩
  · obtain ⟨c, hx⟩ : ∃ c, l[p]? = some c := ⟨_, List.getElem?_eq_getElem hlt⟩
    cases hc : plainC c with
    | true =>
      have hc' := hc
      simp [plainC] at hc'
      have hd := dec_lo hx (by omega)
      have hoo : (decide ((c.toNat : Int) < 33) || decide (126 < (c.toNat : Int))) = false := by simp; omega
      simp -dsimp -implicitDefEqProofs only [hd, go_sem, ↓reduceIte, reduceCtorEq, rn1, rn2, rn3, rn4, rn5, rn6, rn7, ri1, ri2, ri3, ri4, ri5]
      refine callP (ho _) ?_
      simp -dsimp -implicitDefEqProofs only [hoo, go_sem, ↓reduceIte, reduceCtorEq, rn1, rn2, rn3, rn4, rn5, rn6, rn7, ri1, ri2, ri3, ri4, ri5]
      refine again ⟨p + 1, by omega, fun j x hj hjx => ?_⟩ (by simp; omega) ?_
      · by_cases hjp : j = p
        · subst hjp; rw [hx] at hjx; cases hjx; exact hc
        · exact hok j x (by omega) hjx
      · simp -dsimp -implicitDefEqProofs only [hd, go_sem, ↓reduceIte, reduceCtorEq, rn1, rn2, rn3, rn4, rn5, rn6, rn7, ri1, ri2, ri3, ri4, ri5]
    | false =>
      have hf : oddAt l = (p : Nat) := by
        have : (l.findIdx? fun c => !plainC c) = some p := by
          rw [List.findIdx?_eq_some_iff_getElem]
          refine ⟨hlt, ?_, fun j hj => ?_⟩
          · have := Option.some.inj ((List.getElem?_eq_getElem hlt).symm.trans hx)
            rw [this, hc]; rfl
          · have hjl : j < l.length := by omega
            have := hok j l[j] hj (List.getElem?_eq_getElem hjl)
            simp [this]
        unfold oddAt; rw [this]
      rw [hf]
      have hn : ∃ n w, Utf8.decode (bytes l) p = (n, w) ∧ (decide ((n : Int) < 33) || decide (126 < (n : Int))) = true := by
        by_cases h128 : c.toNat < 128
        · refine ⟨_, _, dec_lo hx h128, ?_⟩
          simp [plainC] at hc
          simp; omega
        · have := dec_hi hx (by omega)
          generalize Utf8.decode (bytes l) p = q at this
          obtain ⟨n, w⟩ := q
          refine ⟨n, w, rfl, ?_⟩
          simp at this ⊢; omega
      obtain ⟨n, w, he, hoo⟩ := hn
      simp -dsimp -implicitDefEqProofs only [he, go_sem, ↓reduceIte, reduceCtorEq, rn1, rn2, rn3, rn4, rn5, rn6, rn7, ri1, ri2, ri3, ri4, ri5]
      refine callP (ho _) ?_
      simp -dsimp -implicitDefEqProofs only [hoo, go_sem, ↓reduceIte, reduceCtorEq, rn1, rn2, rn3, rn4, rn5, rn6, rn7, ri1, ri2, ri3, ri4, ri5]
  · have : l.all plainC = true := all_get fun j c hj hc => hok j c (by omega) hc
    have h2 := oddAt_all l
    rw [this] at h2
    have h3 : ¬ 0 ≤ oddAt l := by simpa using h2
    unfold oddAt at h3 ⊢
    split
    · rename_i e; rw [e] at h3; simp at h3
    · rfl
theorem containsOdd_ok (l : Bs) (f : FuncId) (ho : ∀ n : Int, Meets Tryz.prog f [(false, [vR n])] (rOne (vB (decide (n < 33) || decide (126 < n))))) : Meets Tryz.prog 111 [(false, [vS l]), (false, [vD (.fn f [])])] (rOne (vB (!l.all plainC))) := by
  have h : Meets Tryz.prog 154 [(false, [vS l]), (false, [vD (.fn f [])])] (rOne (vI (oddAt l))) := by
    refine meets Tryz.func154 rfl rfl Tryz.ntmps154 Tryz.results154 rfl ?_
    simp -dsimp -implicitDefEqProofs only [go_sem, ↓reduceIte, reduceCtorEq, rn1, rn2, rn3, rn4, rn5, rn6, rn7, ri1, ri2, ri3, ri4, ri5]
    refine callP (indexOdd_ok l f ho) ?_
    simp -dsimp -implicitDefEqProofs only [go_sem, ↓reduceIte, reduceCtorEq, rn1, rn2, rn3, rn4, rn5, rn6, rn7, ri1, ri2, ri3, ri4, ri5]
  refine meets Tryz.func111 rfl rfl Tryz.ntmps111 Tryz.results111 rfl ?_
  simp -dsimp -implicitDefEqProofs only [go_sem, ↓reduceIte, reduceCtorEq, rn1, rn2, rn3, rn4, rn5, rn6, rn7, ri1, ri2, ri3, ri4, ri5]
  refine callP h ?_
  simp -dsimp -implicitDefEqProofs only [go_sem, ↓reduceIte, reduceCtorEq, rn1, rn2, rn3, rn4, rn5, rn6, rn7, ri1, ri2, ri3, ri4, ri5]
  exact oddAt_all l
theorem plain_ok (l : Bs) : Meets Tryz.prog 149 [(false, [vS l])] (rOne (vB (plainB l))) := by
  refine meets Tryz.func149 rfl rfl Tryz.ntmps149 Tryz.results149 rfl ?_
  simp -dsimp -implicitDefEqProofs only [go_sem, ↓reduceIte, reduceCtorEq, rn1, rn2, rn3, rn4, rn5, rn6, rn7, ri1, ri2, ri3, ri4, ri5]
  repeat' (first | with_reducible apply And.intro | with_reducible intro _ | with_reducible exact drawn (by kernel_rfl) | (refine callP (containsOdd_ok _ _ odd_ok) ?_; simp -dsimp -implicitDefEqProofs only [go_sem, ↓reduceIte, reduceCtorEq, rn1, rn2, rn3, rn4, rn5, rn6, rn7, ri1, ri2, ri3, ri4, ri5]) | omega)
  all_goals unfold plainB
  · rename_i h1 h2
    rw [Bool.not_not, show decide (l.length ≤ 64) = true by simp; omega, show decide (0 < l.length) = true by simp; omega]; simp
  · rw [show decide (l.length ≤ 64) = false by simp; omega]; simp
  · rw [show decide (0 < l.length) = false from decide_eq_false (by omega)]; simp

/-! ### Records of form -/
theorem named_ok (l : Bs) : Meets Tryz.prog 104 [(false, [vS l])] (rOne (vB (isName l))) := by
  refine meets Tryz.func104 rfl rfl Tryz.ntmps104 Tryz.results104 rfl ?_
  simp -dsimp -implicitDefEqProofs only [go_sem, ↓reduceIte, reduceCtorEq, rn1, rn2, rn3, rn4, rn5, rn6, rn7, ri1, ri2, ri3, ri4, ri5]
  refine callP (check_ok l) ?_
  simp -dsimp -implicitDefEqProofs only [go_sem, ↓reduceIte, reduceCtorEq, rn1, rn2, rn3, rn4, rn5, rn6, rn7, ri1, ri2, ri3, ri4, ri5]
  cases isName l <;> rfl
def digitB (l : Bs) : Bool := match l with
  | [c] => decide (48 ≤ c.toNat) && decide (c.toNat ≤ 55)
  | _ => false
def fitsB (k : Int) (v : Bs) : Bool := if k = 1 ∨ k = 2 ∨ k = 5 then plainB v else if k = 3 then digitB v else if k = 4 then isName v else false
def formB (r : Rec) : Bool := fitsB r.K r.V && isName r.N && decide (1 ≤ r.L) && decide (r.L ≤ 1000)
theorem digits_in (c : UInt8) : decide (0 ≤ Lib.indexByte [48, 49, 50, 51, 52, 53, 54, 55] c) = (decide (48 ≤ c.toNat) && decide (c.toNat ≤ 55)) := by
  have h : ∀ n : Fin 256, decide (0 ≤ Lib.indexByte [48, 49, 50, 51, 52, 53, 54, 55] (UInt8.ofNat n.1)) = (decide (48 ≤ n.1) && decide (n.1 ≤ 55)) := by decide +kernel
  have := h ⟨c.toNat, c.toNat_lt⟩
  simpa using this
theorem digit_ok (c : UInt8) : Meets Tryz.prog 150 [(false, [vS [48, 49, 50, 51, 52, 53, 54, 55]]), (false, [vS [c]])] (rOne (vB (digitB [c]))) := by
  refine meets Tryz.func150 rfl rfl Tryz.ntmps150 Tryz.results150 rfl ?_
  simp -dsimp -implicitDefEqProofs only [go_sem, ↓reduceIte, reduceCtorEq, rn1, rn2, rn3, rn4, rn5, rn6, rn7, ri1, ri2, ri3, ri4, ri5]
  refine callP (index_ok _ c) ?_
  simp -dsimp -implicitDefEqProofs only [go_sem, ↓reduceIte, reduceCtorEq, rn1, rn2, rn3, rn4, rn5, rn6, rn7, ri1, ri2, ri3, ri4, ri5]
  exact digits_in c
theorem digitV_ok (v : Bs) (h : v.length = 1) : Meets Tryz.prog 150 [(false, [vS [48, 49, 50, 51, 52, 53, 54, 55]]), (false, [vS v])] (rOne (vB (digitB v))) := by
  match v, h with
  | [c], _ => exact digit_ok c
theorem digitB_len {v : Bs} (h : ¬ (v.length : Int) = 1) : digitB v = false := by
  unfold digitB; split
  · simp at h
  · rfl
theorem formed_ok (r : Rec) : Meets Tryz.prog 105 [r.arg] (rOne (vB (formB r))) := by
  refine meets Tryz.func105 rfl rfl Tryz.ntmps105 Tryz.results105 rfl ?_
  simp -dsimp -implicitDefEqProofs only [go_sem, ↓reduceIte, reduceCtorEq, rn1, rn2, rn3, rn4, rn5, rn6, rn7, ri1, ri2, ri3, ri4, ri5]
  repeat' (first | with_reducible apply And.intro | with_reducible intro _ | with_reducible exact drawn (by kernel_rfl) | (refine callP (plain_ok _) ?_; simp -dsimp -implicitDefEqProofs only [go_sem, ↓reduceIte, reduceCtorEq, rn1, rn2, rn3, rn4, rn5, rn6, rn7, ri1, ri2, ri3, ri4, ri5]) | (refine callP (named_ok _) ?_; simp -dsimp -implicitDefEqProofs only [go_sem, ↓reduceIte, reduceCtorEq, rn1, rn2, rn3, rn4, rn5, rn6, rn7, ri1, ri2, ri3, ri4, ri5]) | (refine callP (digitV_ok _ (by omega)) ?_; simp -dsimp -implicitDefEqProofs only [go_sem, ↓reduceIte, reduceCtorEq, rn1, rn2, rn3, rn4, rn5, rn6, rn7, ri1, ri2, ri3, ri4, ri5]) | omega)
  all_goals first
    | (simp [formB, fitsB, *]; done)
    | (have hdl := digitB_len (by assumption); simp [formB, fitsB, *]; done)
    | (simp [formB, fitsB, *]; omega)
    | trace_state
end Go.Proofs.YtolpobgfcokoaaaGreatDoor
namespace Go.Proofs.YtolpobgfcokoaaaGreatDoor
open Go.Eng
set_option linter.unusedSimpArgs false
set_option maxRecDepth 10000

/-- The records of a name. -/
def atB (l : List Rec) (n : Bs) : List Rec := l.filter fun r => r.N == n
def crowdB (l : List Rec) (n : Bs) : Bool := (atB l n).any (fun r => r.K == 4) && decide (1 < (atB l n).length)
structure CwInv (l : List Rec) where
  i : Nat
  le : i ≤ l.length
theorem atB_step {l : List Rec} {i : Nat} {x : Rec} (n : Bs) (h : l[i]? = some x) : atB (l.take (i + 1)) n = atB (l.take i) n ++ (if x.N = n then [x] else []) := by
  unfold atB
  rw [List.take_add_one, h]
  simp only [Option.toList_some, List.filter_append, List.filter_cons, List.filter_nil, beq_iff_eq]
theorem atB_len (l : List Rec) (n : Bs) : (atB l n).length ≤ l.length := List.length_filter_le ..

theorem crowded_ok (a : Bs) (l : List Rec) (n : Bs) (hl : l.length ≤ 1000000) : Meets Tryz.prog 108 [zoneA a l, (false, [vS n])] (rOne (vB (crowdB l n))) := by
  refine meets Tryz.func108 rfl rfl Tryz.ntmps108 Tryz.results108 rfl ?_
  simp -dsimp -implicitDefEqProofs only [go_sem, ↓reduceIte, reduceCtorEq, rn1, rn2, rn3, rn4, rn5, rn6, rn7, ri1, ri2, ri3, ri4, ri5]
  refine callW rfl Tryz.func135 rfl rfl Tryz.ntmps135 Tryz.results135 rfl ?_
  simp -dsimp -implicitDefEqProofs only [retH, go_sem, ↓reduceIte, reduceCtorEq, rn1, rn2, rn3, rn4, rn5, rn6, rn7, ri1, ri2, ri3, ri4, ri5]
  refine vrange sitOk rfl [] [(6, aP 24 0), (5, aP 16 0)] rfl rfl ?_ Tryz.func178 rfl rfl Tryz.ntmps178 Tryz.results178 rfl ?_
  · simp -dsimp -implicitDefEqProofs only [go_sem, ↓reduceIte, reduceCtorEq, rn1, rn2, rn3, rn4, rn5, rn6, rn7, ri1, ri2, ri3, ri4, ri5]
  simp -dsimp -implicitDefEqProofs only [go_sem, ↓reduceIte, reduceCtorEq, rn1, rn2, rn3, rn4, rn5, rn6, rn7, ri1, ri2, ri3, ri4, ri5]
  generalize hL : Lp.mk 25 _ _ _ _ _ = L
  refine vfor sitOk (ι := CwInv l) (fun v => ⟨24, [(9, aI v.i), (8, aI l.length), (7, aD (recsD l)), (0, .cs false [.yld 128]), (1, aP 64 0), (2, aP 72 0)],
    [(128, some (.lp L)), (72, some (.var [cS n] true)), (64, some (.var [cS a, cD (recsD l)] true)), (24, some (.var [cB ((atB (l.take v.i) n).any (fun r => r.K == 4))] true)), (16, some (.var [cI ((atB (l.take v.i) n).length : Nat)] true)), (0, some (.var [cS a, cD (recsD l)] true))], 500⟩) (fun v => l.length - v.i) ⟨0, by omega⟩ ?_ ?_
  · simp -dsimp -implicitDefEqProofs only [← hL, go_sem, ↓reduceIte, reduceCtorEq, rn1, rn2, rn3, rn4, rn5, rn6, rn7, ri1, ri2, ri3, ri4, ri5]
    simp [atB]
  intro ⟨i, hi⟩
  have hal := atB_len (l.take i) n
  have htl : (l.take i).length ≤ l.length := by simp; omega
  simp -dsimp -implicitDefEqProofs only [go_sem, ↓reduceIte, reduceCtorEq, rn1, rn2, rn3, rn4, rn5, rn6, rn7, ri1, ri2, ri3, ri4, ri5]
  refine ⟨fun hlt => ?_, fun hge => ?_⟩
  · have hil : i < l.length := by omega
    obtain ⟨x, hx⟩ : ∃ x, l[i]? = some x := ⟨_, List.getElem?_eq_getElem hil⟩
    have hst := atB_step n hx
    have hw := wrapS hil (by omega)
    have hw2 : IntKind.i64.wrap (((atB (l.take i) n).length : Int) + 1) = (((atB (l.take i) n).length + 1 : Nat) : Int) := by rw [wrap64] <;> omega
    simp -dsimp -implicitDefEqProofs only [hx, forall_eq', hw, go_sem, ↓reduceIte, reduceCtorEq, rn1, rn2, rn3, rn4, rn5, rn6, rn7, ri1, ri2, ri3, ri4, ri5]
    refine ⟨by omega, hil, fun h => yieldW sitOk ?_, fun h => ?_⟩
    · simp -dsimp -implicitDefEqProofs only [← hL, go_sem, ↓reduceIte, reduceCtorEq, rn1, rn2, rn3, rn4, rn5, rn6, rn7, ri1, ri2, ri3, ri4, ri5]
      intro ro
      rw [if_pos h] at hst
      refine ⟨fun h2 => ?_, fun h2 => ?_⟩
      · refine again ⟨i + 1, by omega⟩ (by simp; omega) ?_
        simp -dsimp -implicitDefEqProofs only [← hL, hw, hw2, hst, h2, List.any_append, List.length_append, List.any_cons, List.any_nil, go_sem, ↓reduceIte, reduceCtorEq, rn1, rn2, rn3, rn4, rn5, rn6, rn7, ri1, ri2, ri3, ri4, ri5]
      · refine again ⟨i + 1, by omega⟩ (by simp; omega) ?_
        simp -dsimp -implicitDefEqProofs only [← hL, hw, hw2, hst, h2, List.any_append, List.length_append, List.any_cons, List.any_nil, go_sem, ↓reduceIte, reduceCtorEq, rn1, rn2, rn3, rn4, rn5, rn6, rn7, ri1, ri2, ri3, ri4, ri5]
    · rw [if_neg h, List.append_nil] at hst
      refine again ⟨i + 1, by omega⟩ (by simp; omega) ?_
      simp -dsimp -implicitDefEqProofs only [← hL, hw, hst, go_sem, ↓reduceIte, reduceCtorEq, rn1, rn2, rn3, rn4, rn5, rn6, rn7, ri1, ri2, ri3, ri4, ri5]
  · have hil : i = l.length := by omega
    subst hil
    rw [List.take_length] at *
    simp -dsimp -implicitDefEqProofs only [retH, ← hL, go_sem, ↓reduceIte, reduceCtorEq, rn1, rn2, rn3, rn4, rn5, rn6, rn7, ri1, ri2, ri3, ri4, ri5]
    unfold crowdB
    exact ⟨fun h => by rw [h, Bool.true_and, decide_eq_decide]; omega, fun h => by rw [h]; rfl⟩

/-- What Check asks of the record in place i. -/
def goodAt (a : Bs) (l : List Rec) (i : Nat) : Bool := match l[i]? with
  | some r => formB r && underB r.N a && (match i with | 0 => true | j + 1 => match l[j]? with | some q => decide (ordR q r < 0) | none => true) && !crowdB l r.N
  | none => true
def apexB (a : Bs) : Bool := a == [] || isName a
def okZ (a : Bs) (l : List Rec) : Bool := apexB a && (List.range l.length).all (goodAt a l)
def checkV (a : Bs) (l : List Rec) : Int := if okZ a l then (if 64 < l.length then 2 else 0) else 1
structure ZcInv (a : Bs) (l : List Rec) where
  i : Nat
  le : i ≤ l.length
  ok : ∀ j, j < i → goodAt a l j = true
theorem range_bad {n i : Nat} {f : Nat → Bool} (hi : i < n) (h : f i = false) : (List.range n).all f = false := by
  rw [Bool.eq_false_iff]
  intro hh
  rw [List.all_eq_true] at hh
  rw [hh i (List.mem_range.2 hi)] at h; cases h
theorem range_good {n : Nat} {f : Nat → Bool} (h : ∀ j, j < n → f j = true) : (List.range n).all f = true :=
  List.all_eq_true.2 fun j hj => h j (List.mem_range.1 hj)
theorem checkV_bad {a : Bs} {l : List Rec} {i : Nat} (hi : i < l.length) (h : goodAt a l i = false) : checkV a l = 1 := by
  unfold checkV okZ; rw [range_bad hi h]; simp
theorem checkV_apex {a : Bs} {l : List Rec} (h : apexB a = false) : checkV a l = 1 := by
  unfold checkV okZ; rw [h]; simp
theorem checkV_good {a : Bs} {l : List Rec} (h : apexB a = true) (h2 : ∀ j, j < l.length → goodAt a l j = true) : checkV a l = if 64 < l.length then 2 else 0 := by
  unfold checkV okZ; rw [h, range_good h2]; simp
theorem goodAt_0 {a : Bs} {l : List Rec} {r : Rec} (h : l[0]? = some r) : goodAt a l 0 = (formB r && underB r.N a && !crowdB l r.N) := by
  unfold goodAt; rw [h]; simp
theorem goodAt_S {a : Bs} {l : List Rec} {r q : Rec} {i : Nat} (h : l[i + 1]? = some r) (hq : l[i]? = some q) : goodAt a l (i + 1) = (formB r && underB r.N a && decide (ordR q r < 0) && !crowdB l r.N) := by
  unfold goodAt; rw [h]; simp [hq]

theorem zcheck_ok (a : Bs) (l : List Rec) (hl : l.length ≤ 1000000) : Meets Tryz.prog 60 [zoneA a l] (rOne (vI (checkV a l))) := by
  refine meets Tryz.func60 rfl rfl Tryz.ntmps60 Tryz.results60 rfl ?_
  simp -dsimp -implicitDefEqProofs only [go_sem, ↓reduceIte, reduceCtorEq, rn1, rn2, rn3, rn4, rn5, rn6, rn7, ri1, ri2, ri3, ri4, ri5]
  cases hap : apexB a with
  | false =>
    have h1 : ¬ a = [] := by intro h; subst h; simp [apexB] at hap
    have h2 : isName a = false := by simpa [apexB, h1] using hap
    simp -dsimp -implicitDefEqProofs only [h1, go_sem, ↓reduceIte, reduceCtorEq, rn1, rn2, rn3, rn4, rn5, rn6, rn7, ri1, ri2, ri3, ri4, ri5]
    refine callP (named_ok a) ?_
    simp -dsimp -implicitDefEqProofs only [h2, checkV_apex hap, go_sem, ↓reduceIte, reduceCtorEq, rn1, rn2, rn3, rn4, rn5, rn6, rn7, ri1, ri2, ri3, ri4, ri5]
  | true =>
  have hstart : a = [] ∨ (¬ a = [] ∧ isName a = true) := by
    by_cases h : a = []
    · exact .inl h
    · exact .inr ⟨h, by simpa [apexB, h] using hap⟩
  rcases hstart with rfl | ⟨h1, h2⟩
  · skip
    simp -dsimp -implicitDefEqProofs only [go_sem, ↓reduceIte, reduceCtorEq, rn1, rn2, rn3, rn4, rn5, rn6, rn7, ri1, ri2, ri3, ri4, ri5]
    refine vfor sitOk (ι := ZcInv [] l) (fun v => ⟨59, [(17, aI v.i), (16, aI l.length), (15, aD (recsD l)), (1, aP 0 0)], [(0, some (.var [cS [], cD (recsD l)] true))], 120⟩) (fun v => l.length - v.i) ⟨0, by omega, fun j hj => by omega⟩ ?_ ?_
    · simp -dsimp -implicitDefEqProofs only [go_sem, ↓reduceIte, reduceCtorEq, rn1, rn2, rn3, rn4, rn5, rn6, rn7, ri1, ri2, ri3, ri4, ri5]
    intro ⟨i, hi, hok⟩
    simp -dsimp -implicitDefEqProofs only [go_sem, ↓reduceIte, reduceCtorEq, rn1, rn2, rn3, rn4, rn5, rn6, rn7, ri1, ri2, ri3, ri4, ri5]
    refine ⟨fun hlt => ?_, fun hge => ?_⟩
    · have hil : i < l.length := by omega
      obtain ⟨x, hx⟩ : ∃ x, l[i]? = some x := ⟨_, List.getElem?_eq_getElem hil⟩
      have hw := wrapS hil (by omega)
      have bad : goodAt [] l i = false → 1 = checkV [] l := fun h => (checkV_bad hil h).symm
      have next : goodAt [] l i = true → ∀ j, j < i + 1 → goodAt [] l j = true := fun h j hj => by
        by_cases hji : j = i
        · subst hji; exact h
        · exact hok j (by omega)
      cases i with
      | zero =>
        have hg := goodAt_0 (a := []) hx
        simp -dsimp -implicitDefEqProofs only [hx, forall_eq', hw, go_sem, ↓reduceIte, reduceCtorEq, rn1, rn2, rn3, rn4, rn5, rn6, rn7, ri1, ri2, ri3, ri4, ri5]
        repeat' (first | with_reducible apply And.intro | with_reducible intro _ | with_reducible exact drawn (by kernel_rfl) | (refine callP (formed_ok _) ?_; simp -dsimp -implicitDefEqProofs only [hx, forall_eq', hw, go_sem, ↓reduceIte, reduceCtorEq, rn1, rn2, rn3, rn4, rn5, rn6, rn7, ri1, ri2, ri3, ri4, ri5]) | (refine callP (under_ok _ _) ?_; simp -dsimp -implicitDefEqProofs only [hx, forall_eq', hw, go_sem, ↓reduceIte, reduceCtorEq, rn1, rn2, rn3, rn4, rn5, rn6, rn7, ri1, ri2, ri3, ri4, ri5]) | (refine callP (crowded_ok _ _ _ hl) ?_; simp -dsimp -implicitDefEqProofs only [hx, forall_eq', hw, go_sem, ↓reduceIte, reduceCtorEq, rn1, rn2, rn3, rn4, rn5, rn6, rn7, ri1, ri2, ri3, ri4, ri5]) | omega)
        all_goals first
          | (with_reducible refine bad ?_; rw [hg]; simp [*]; done)
          | (refine again ⟨1, by omega, next (by rw [hg]; simp [*])⟩ (by simp; omega) ?_
             simp -dsimp -implicitDefEqProofs only [go_sem, ↓reduceIte, reduceCtorEq, rn1, rn2, rn3, rn4, rn5, rn6, rn7, ri1, ri2, ri3, ri4, ri5]
             rfl)
          | trace_state
      | succ k =>
        obtain ⟨y, hy⟩ : ∃ y, l[k]? = some y := ⟨_, List.getElem?_eq_getElem (by omega)⟩
        have hg := goodAt_S (a := []) hx hy
        have hw2 : IntKind.i64.wrap (((k + 1 : Nat) : Int) - 1) = (k : Int) := by rw [wrap64] <;> omega
        have hyl : k < l.length := by omega
        simp -dsimp -implicitDefEqProofs only [hx, hy, forall_eq', hw, hw2, go_sem, ↓reduceIte, reduceCtorEq, rn1, rn2, rn3, rn4, rn5, rn6, rn7, ri1, ri2, ri3, ri4, ri5]
        repeat' (first | with_reducible apply And.intro | with_reducible intro _ | with_reducible exact drawn (by kernel_rfl) | (refine callP (formed_ok _) ?_; simp -dsimp -implicitDefEqProofs only [hx, hy, forall_eq', hw, hw2, go_sem, ↓reduceIte, reduceCtorEq, rn1, rn2, rn3, rn4, rn5, rn6, rn7, ri1, ri2, ri3, ri4, ri5]) | (refine callP (under_ok _ _) ?_; simp -dsimp -implicitDefEqProofs only [hx, hy, forall_eq', hw, hw2, go_sem, ↓reduceIte, reduceCtorEq, rn1, rn2, rn3, rn4, rn5, rn6, rn7, ri1, ri2, ri3, ri4, ri5]) | (refine callP (order_ok _ _) ?_; simp -dsimp -implicitDefEqProofs only [hx, hy, forall_eq', hw, hw2, go_sem, ↓reduceIte, reduceCtorEq, rn1, rn2, rn3, rn4, rn5, rn6, rn7, ri1, ri2, ri3, ri4, ri5]) | (refine callP (crowded_ok _ _ _ hl) ?_; simp -dsimp -implicitDefEqProofs only [hx, hy, forall_eq', hw, hw2, go_sem, ↓reduceIte, reduceCtorEq, rn1, rn2, rn3, rn4, rn5, rn6, rn7, ri1, ri2, ri3, ri4, ri5]) | omega)
        all_goals first
          | (with_reducible refine bad ?_; rw [hg]; simp [*]; done)
          | (with_reducible refine bad ?_; rw [hg]; simp [*]; omega)
          | (refine again ⟨k + 1 + 1, by omega, next (by rw [hg]; simp [*])⟩ (by simp; omega) ?_
             simp -dsimp -implicitDefEqProofs only [go_sem, ↓reduceIte, reduceCtorEq, rn1, rn2, rn3, rn4, rn5, rn6, rn7, ri1, ri2, ri3, ri4, ri5]; done)
          | trace_state
    · have hil : i = l.length := by omega
      subst hil
      rw [checkV_good hap hok]
      refine ⟨fun h => ?_, fun h => ?_⟩
      · rw [if_pos (by omega)]
      · rw [if_neg (by omega)]

  · simp -dsimp -implicitDefEqProofs only [h1, go_sem, ↓reduceIte, reduceCtorEq, rn1, rn2, rn3, rn4, rn5, rn6, rn7, ri1, ri2, ri3, ri4, ri5]
    refine callP (named_ok a) ?_
    simp -dsimp -implicitDefEqProofs only [h2, go_sem, ↓reduceIte, reduceCtorEq, rn1, rn2, rn3, rn4, rn5, rn6, rn7, ri1, ri2, ri3, ri4, ri5]
    refine vfor sitOk (ι := ZcInv a l) (fun v => ⟨59, [(17, aI v.i), (16, aI l.length), (15, aD (recsD l)), (1, aP 0 0)], [(0, some (.var [cS a, cD (recsD l)] true))], 120⟩) (fun v => l.length - v.i) ⟨0, by omega, fun j hj => by omega⟩ ?_ ?_
    · simp -dsimp -implicitDefEqProofs only [go_sem, ↓reduceIte, reduceCtorEq, rn1, rn2, rn3, rn4, rn5, rn6, rn7, ri1, ri2, ri3, ri4, ri5]
    intro ⟨i, hi, hok⟩
    simp -dsimp -implicitDefEqProofs only [go_sem, ↓reduceIte, reduceCtorEq, rn1, rn2, rn3, rn4, rn5, rn6, rn7, ri1, ri2, ri3, ri4, ri5]
    refine ⟨fun hlt => ?_, fun hge => ?_⟩
    · have hil : i < l.length := by omega
      obtain ⟨x, hx⟩ : ∃ x, l[i]? = some x := ⟨_, List.getElem?_eq_getElem hil⟩
      have hw := wrapS hil (by omega)
      have bad : goodAt a l i = false → 1 = checkV a l := fun h => (checkV_bad hil h).symm
      have next : goodAt a l i = true → ∀ j, j < i + 1 → goodAt a l j = true := fun h j hj => by
        by_cases hji : j = i
        · subst hji; exact h
        · exact hok j (by omega)
      cases i with
      | zero =>
        have hg := goodAt_0 (a := a) hx
        simp -dsimp -implicitDefEqProofs only [hx, forall_eq', hw, go_sem, ↓reduceIte, reduceCtorEq, rn1, rn2, rn3, rn4, rn5, rn6, rn7, ri1, ri2, ri3, ri4, ri5]
        repeat' (first | with_reducible apply And.intro | with_reducible intro _ | with_reducible exact drawn (by kernel_rfl) | (refine callP (formed_ok _) ?_; simp -dsimp -implicitDefEqProofs only [hx, forall_eq', hw, go_sem, ↓reduceIte, reduceCtorEq, rn1, rn2, rn3, rn4, rn5, rn6, rn7, ri1, ri2, ri3, ri4, ri5]) | (refine callP (under_ok _ _) ?_; simp -dsimp -implicitDefEqProofs only [hx, forall_eq', hw, go_sem, ↓reduceIte, reduceCtorEq, rn1, rn2, rn3, rn4, rn5, rn6, rn7, ri1, ri2, ri3, ri4, ri5]) | (refine callP (crowded_ok _ _ _ hl) ?_; simp -dsimp -implicitDefEqProofs only [hx, forall_eq', hw, go_sem, ↓reduceIte, reduceCtorEq, rn1, rn2, rn3, rn4, rn5, rn6, rn7, ri1, ri2, ri3, ri4, ri5]) | omega)
        all_goals first
          | (with_reducible refine bad ?_; rw [hg]; simp [*]; done)
          | (refine again ⟨1, by omega, next (by rw [hg]; simp [*])⟩ (by simp; omega) ?_
             simp -dsimp -implicitDefEqProofs only [go_sem, ↓reduceIte, reduceCtorEq, rn1, rn2, rn3, rn4, rn5, rn6, rn7, ri1, ri2, ri3, ri4, ri5]
             rfl)
          | trace_state
      | succ k =>
        obtain ⟨y, hy⟩ : ∃ y, l[k]? = some y := ⟨_, List.getElem?_eq_getElem (by omega)⟩
        have hg := goodAt_S (a := a) hx hy
        have hw2 : IntKind.i64.wrap (((k + 1 : Nat) : Int) - 1) = (k : Int) := by rw [wrap64] <;> omega
        have hyl : k < l.length := by omega
        simp -dsimp -implicitDefEqProofs only [hx, hy, forall_eq', hw, hw2, go_sem, ↓reduceIte, reduceCtorEq, rn1, rn2, rn3, rn4, rn5, rn6, rn7, ri1, ri2, ri3, ri4, ri5]
        repeat' (first | with_reducible apply And.intro | with_reducible intro _ | with_reducible exact drawn (by kernel_rfl) | (refine callP (formed_ok _) ?_; simp -dsimp -implicitDefEqProofs only [hx, hy, forall_eq', hw, hw2, go_sem, ↓reduceIte, reduceCtorEq, rn1, rn2, rn3, rn4, rn5, rn6, rn7, ri1, ri2, ri3, ri4, ri5]) | (refine callP (under_ok _ _) ?_; simp -dsimp -implicitDefEqProofs only [hx, hy, forall_eq', hw, hw2, go_sem, ↓reduceIte, reduceCtorEq, rn1, rn2, rn3, rn4, rn5, rn6, rn7, ri1, ri2, ri3, ri4, ri5]) | (refine callP (order_ok _ _) ?_; simp -dsimp -implicitDefEqProofs only [hx, hy, forall_eq', hw, hw2, go_sem, ↓reduceIte, reduceCtorEq, rn1, rn2, rn3, rn4, rn5, rn6, rn7, ri1, ri2, ri3, ri4, ri5]) | (refine callP (crowded_ok _ _ _ hl) ?_; simp -dsimp -implicitDefEqProofs only [hx, hy, forall_eq', hw, hw2, go_sem, ↓reduceIte, reduceCtorEq, rn1, rn2, rn3, rn4, rn5, rn6, rn7, ri1, ri2, ri3, ri4, ri5]) | omega)
        all_goals first
          | (with_reducible refine bad ?_; rw [hg]; simp [*]; done)
          | (with_reducible refine bad ?_; rw [hg]; simp [*]; omega)
          | (refine again ⟨k + 1 + 1, by omega, next (by rw [hg]; simp [*])⟩ (by simp; omega) ?_
             simp -dsimp -implicitDefEqProofs only [go_sem, ↓reduceIte, reduceCtorEq, rn1, rn2, rn3, rn4, rn5, rn6, rn7, ri1, ri2, ri3, ri4, ri5]; done)
          | trace_state
    · have hil : i = l.length := by omega
      subst hil
      rw [checkV_good hap hok]
      refine ⟨fun h => ?_, fun h => ?_⟩
      · rw [if_pos (by omega)]
      · rw [if_neg (by omega)]


/-- A zone: Apex, Recs. -/
structure Zn where
  A : Bs
  R : List Rec
  deriving DecidableEq
def Zn.cells (z : Zn) : List D := [dT z.A, recsD z.R]
attribute [go_sem] Zn.cells
abbrev zonesD (l : List Zn) : D := .vec 2 (l.map Zn.cells)
end Go.Proofs.YtolpobgfcokoaaaGreatDoor
namespace Go.Proofs.YtolpobgfcokoaaaGreatDoor
open Go.Eng
set_option linter.unusedSimpArgs false
set_option maxRecDepth 10000

/-- Does one stand ahead of another? -/
def Ah (a b : Rec) : Prop := a.N < b.N ∨ (a.N = b.N ∧ (a.K < b.K ∨ (a.K = b.K ∧ a.V < b.V)))
theorem cmpI_lt {a b : Int} : cmpI a b < 0 ↔ a < b := by
  unfold cmpI; split <;> (try split) <;> omega
theorem cmpI_eq {a b : Int} : cmpI a b = 0 ↔ a = b := by
  unfold cmpI; split <;> (try split) <;> omega
theorem ordR_lt {a b : Rec} : ordR a b < 0 ↔ Ah a b := by
  unfold ordR or3 Ah
  by_cases h1 : a.N = b.N
  · rw [if_pos (cmpB_eq.2 h1)]
    by_cases h2 : a.K = b.K
    · rw [if_pos (cmpI_eq.2 h2), cmpB_lt]
      simp [h1, h2, lt_irr]
    · rw [if_neg (fun h => h2 (cmpI_eq.1 h)), cmpI_lt]
      simp [h1, h2, lt_irr]
  · rw [if_neg (fun h => h1 (cmpB_eq.1 h)), cmpB_lt]
    simp [h1]
theorem ordR_eq {a b : Rec} : ordR a b = 0 ↔ a.N = b.N ∧ a.K = b.K ∧ a.V = b.V := by
  unfold ordR or3
  by_cases h1 : a.N = b.N
  · rw [if_pos (cmpB_eq.2 h1)]
    by_cases h2 : a.K = b.K
    · rw [if_pos (cmpI_eq.2 h2), cmpB_eq]; simp [h1, h2]
    · rw [if_neg (fun h => h2 (cmpI_eq.1 h)), cmpI_eq]; simp [h2]
  · rw [if_neg (fun h => h1 (cmpB_eq.1 h)), cmpB_eq]; simp [h1]
theorem Ah.irr {a : Rec} (h : Ah a a) : False := by
  rcases h with h | ⟨_, h | ⟨_, h⟩⟩
  · exact lt_irr _ h
  · omega
  · exact lt_irr _ h
theorem Ah.tr {a b c : Rec} (h : Ah a b) (h' : Ah b c) : Ah a c := by
  unfold Ah at *
  rcases h with h | ⟨e, h⟩
  · rcases h' with h' | ⟨e', _⟩
    · exact .inl (lt_tr h h')
    · exact .inl (e' ▸ h)
  · rcases h' with h' | ⟨e', h'⟩
    · exact .inl (by rw [e]; exact h')
    · refine .inr ⟨e.trans e', ?_⟩
      rcases h with h | ⟨k, h⟩
      · rcases h' with h' | ⟨k', h'⟩
        · exact .inl (by omega)
        · exact .inl (by omega)
      · rcases h' with h' | ⟨k', h'⟩
        · exact .inl (by omega)
        · exact .inr ⟨k.trans k', lt_tr h h'⟩
theorem Ah.as {a b : Rec} (h : Ah a b) : ¬ Ah b a := fun h' => (h.tr h').irr
/-- Of one place. -/
def Pl (a b : Rec) : Prop := a.N = b.N ∧ a.K = b.K ∧ a.V = b.V
theorem Ah.tri (a b : Rec) : Ah a b ∨ Pl a b ∨ Ah b a := by
  unfold Ah Pl
  rcases lt_tri a.N b.N with h | h | h
  · exact .inl (.inl h)
  · rcases (by omega : a.K < b.K ∨ a.K = b.K ∨ b.K < a.K) with k | k | k
    · exact .inl (.inr ⟨h, .inl k⟩)
    · rcases lt_tri a.V b.V with v | v | v
      · exact .inl (.inr ⟨h, .inr ⟨k, v⟩⟩)
      · exact .inr (.inl ⟨h, k, v⟩)
      · exact .inr (.inr (.inr ⟨h.symm, .inr ⟨k.symm, v⟩⟩))
    · exact .inr (.inr (.inr ⟨h.symm, .inl k⟩))
  · exact .inr (.inr (.inl h))
theorem Ah.pl_left {a b c : Rec} (h : Pl a b) (h' : Ah b c) : Ah a c := by
  obtain ⟨h1, h2, h3⟩ := h
  unfold Ah at *
  rw [h1, h2, h3]; exact h'
theorem Ah.pl_right {a b c : Rec} (h : Ah a b) (h' : Pl b c) : Ah a c := by
  obtain ⟨h1, h2, h3⟩ := h'
  unfold Ah at *
  rw [← h1, ← h2, ← h3]; exact h
theorem Pl.symm {a b : Rec} (h : Pl a b) : Pl b a := ⟨h.1.symm, h.2.1.symm, h.2.2.symm⟩
theorem Pl.not {a b : Rec} (h : Pl a b) : ¬ Ah a b := fun h' => (Ah.pl_left h.symm h').irr

/-- The records rise. -/
def Rises (l : List Rec) : Prop := ∀ (i j : Nat) (x y : Rec), i < j → l[i]? = some x → l[j]? = some y → Ah x y
theorem rises_of {l : List Rec} (h : ∀ (i : Nat) (x y : Rec), l[i]? = some x → l[i + 1]? = some y → Ah x y) : Rises l := by
  intro i j
  induction j with
  | zero => intro x y hij; omega
  | succ j ih =>
    intro x y hij hx hy
    by_cases e : i = j
    · subst e; exact h i x y hx hy
    · have hjl := (List.getElem?_eq_some_iff.1 hy).1
      have hz : l[j]? = some l[j] := List.getElem?_eq_getElem (by omega)
      exact (ih x _ (by omega) hx hz).tr (h j _ y hz hy)

/-! ### An alias stands alone -/
def aloneAt (l : List Rec) : Nat → Bool
  | 0 => true
  | i + 1 => match l[i]?, l[i + 1]? with
    | some x, some y => !(x.N == y.N && (x.K == 4 || y.K == 4))
    | _, _ => true
def aloneB (l : List Rec) : Bool := (List.range l.length).all (aloneAt l)
theorem mem_atB {l : List Rec} {n : Bs} {r : Rec} : r ∈ atB l n ↔ r ∈ l ∧ r.N = n := by
  unfold atB; rw [List.mem_filter]; simp
theorem atB_split {l : List Rec} {i : Nat} {x : Rec} (n : Bs) (h : l[i]? = some x) : atB l n = atB (l.take i) n ++ ((if x.N = n then [x] else []) ++ atB (l.drop (i + 1)) n) := by
  have h1 : l = l.take i ++ x :: l.drop (i + 1) := by conv => lhs; rw [← List.take_append_drop i l, drop_at h]
  conv => lhs; rw [h1]
  unfold atB
  rw [List.filter_append, List.filter_cons]
  congr 1
  by_cases e : x.N = n <;> simp [e]
theorem crowd_mk {l : List Rec} {n : Bs} {i j : Nat} {x y : Rec} (hij : i < j) (hx : l[i]? = some x) (hy : l[j]? = some y) (hxn : x.N = n) (hyn : y.N = n) (hk : x.K = 4 ∨ y.K = 4) : crowdB l n = true := by
  have hxm : x ∈ atB l n := mem_atB.2 ⟨List.mem_of_getElem? hx, hxn⟩
  have hym : y ∈ atB l n := mem_atB.2 ⟨List.mem_of_getElem? hy, hyn⟩
  unfold crowdB
  rw [Bool.and_eq_true]
  constructor
  · rw [List.any_eq_true]
    rcases hk with hk | hk
    · exact ⟨x, hxm, by simp [hk]⟩
    · exact ⟨y, hym, by simp [hk]⟩
  · rw [decide_eq_true_eq, atB_split n hy, if_pos hyn]
    have : x ∈ atB (l.take j) n := mem_atB.2 ⟨List.mem_of_getElem? (i := i) (by rw [List.getElem?_take, if_pos hij]; exact hx), hxn⟩
    have := List.length_pos_of_mem this
    simp; omega
theorem crowd_two {l : List Rec} {n : Bs} (h : crowdB l n = true) : ∃ (i j : Nat) (x y : Rec), i ≠ j ∧ l[i]? = some x ∧ l[j]? = some y ∧ x.N = n ∧ y.N = n ∧ x.K = 4 := by
  unfold crowdB at h
  rw [Bool.and_eq_true, List.any_eq_true, decide_eq_true_eq] at h
  obtain ⟨⟨x, hxm, hxk⟩, hlen⟩ := h
  obtain ⟨hxl, hxn⟩ := mem_atB.1 hxm
  obtain ⟨i, hx⟩ := List.mem_iff_getElem?.1 hxl
  rw [atB_split n hx, if_pos hxn] at hlen
  have : 0 < (atB (l.take i) n).length ∨ 0 < (atB (l.drop (i + 1)) n).length := by
    simp at hlen; omega
  rcases this with h1 | h1
  · obtain ⟨y, hy⟩ := List.exists_mem_of_length_pos h1
    obtain ⟨hyl, hyn⟩ := mem_atB.1 hy
    obtain ⟨j, hj⟩ := List.mem_iff_getElem?.1 hyl
    rw [List.getElem?_take] at hj
    split at hj
    · exact ⟨i, j, x, y, by omega, hx, hj, hxn, hyn, by simpa using hxk⟩
    · cases hj
  · obtain ⟨y, hy⟩ := List.exists_mem_of_length_pos h1
    obtain ⟨hyl, hyn⟩ := mem_atB.1 hy
    obtain ⟨j, hj⟩ := List.mem_iff_getElem?.1 hyl
    rw [List.getElem?_drop] at hj
    exact ⟨i, i + 1 + j, x, y, by omega, hx, hj, hxn, hyn, by simpa using hxk⟩
/-- Names rise. -/
theorem Ah.name {a b : Rec} (h : Ah a b) : ¬ b.N < a.N := by
  rcases h with h | ⟨e, _⟩
  · exact lt_as h
  · rw [e]; exact lt_irr _
theorem between {a b c : Rec} (h : a.N = c.N) (h1 : ¬ b.N < a.N) (h2 : ¬ c.N < b.N) : b.N = a.N := by
  rw [← h] at h2
  rcases lt_tri a.N b.N with e | e | e
  · exact absurd e h2
  · exact e.symm
  · exact absurd e h1
/-- In a list that rises: whether some alias is crowded is seen at neighbours. -/
theorem alone_law {l : List Rec} (hr : Rises l) : aloneB l = true ↔ ∀ r ∈ l, crowdB l r.N = false := by
  constructor
  · intro h r hrm
    rw [Bool.eq_false_iff]
    intro hc
    obtain ⟨i, j, x, y, hij, hx, hy, hxn, hyn, hk⟩ := crowd_two hc
    have all := fun q hq => List.all_eq_true.1 h q (List.mem_range.2 hq)
    have hil := (List.getElem?_eq_some_iff.1 hx).1
    have hjl := (List.getElem?_eq_some_iff.1 hy).1
    rcases Nat.lt_or_gt_of_ne hij with hlt | hgt
    · -- y behind x: look at the next one
      have hz : l[i + 1]? = some l[i + 1] := List.getElem?_eq_getElem (by omega)
      have h1 : l[i + 1].N = x.N := by
        by_cases e : i + 1 = j
        · subst e; rw [hz] at hy; cases hy; rw [hyn, hxn]
        · exact between (c := y) (by rw [hxn, hyn]) (hr i (i + 1) x _ (by omega) hx hz).name (hr (i + 1) j _ y (by omega) hz hy).name
      have := all (i + 1) (by omega)
      simp only [aloneAt, hx, hz] at this
      simp [h1, hk] at this
    · obtain ⟨p, rfl⟩ : ∃ p, i = p + 1 := ⟨i - 1, by omega⟩
      have hz : l[p]? = some l[p] := List.getElem?_eq_getElem (by omega)
      have h1 : l[p].N = x.N := by
        by_cases e : j = p
        · subst e; rw [hz] at hy; cases hy; rw [hyn, hxn]
        · have := between (a := y) (b := l[p]) (c := x) (by rw [hxn, hyn]) (hr j p y _ (by omega) hy hz).name (hr p (p + 1) _ x (by omega) hz hx).name
          rw [this, hyn, hxn]
      have := all (p + 1) hil
      simp only [aloneAt, hx, hz] at this
      simp [h1, hk] at this
  · intro h
    refine List.all_eq_true.2 fun q hq => ?_
    have hql := List.mem_range.1 hq
    cases q with
    | zero => rfl
    | succ q =>
      have hx : l[q]? = some l[q] := List.getElem?_eq_getElem (by omega)
      have hy : l[q + 1]? = some l[q + 1] := List.getElem?_eq_getElem hql
      simp only [aloneAt, hx, hy]
      rw [Bool.not_eq_true', Bool.eq_false_iff]
      intro hc
      simp only [Bool.and_eq_true, beq_iff_eq, Bool.or_eq_true] at hc
      have := crowd_mk (n := l[q].N) (Nat.lt_succ_self q) hx hy rfl hc.1.symm hc.2
      rw [h _ (List.mem_of_getElem? hx)] at this; cases this
end Go.Proofs.YtolpobgfcokoaaaGreatDoor
namespace Go.Proofs.YtolpobgfcokoaaaGreatDoor
open Go.Eng
set_option linter.unusedSimpArgs false
set_option maxRecDepth 10000

instance (a b : Rec) : Decidable (Ah a b) := by unfold Ah; exact inferInstance
instance (a b : Rec) : Decidable (Pl a b) := by unfold Pl; exact inferInstance

/-- A zone that may be. -/
structure Ok (a : Bs) (l : List Rec) : Prop where
  apex : apexB a = true
  form : ∀ r ∈ l, formB r = true
  und : ∀ r ∈ l, underB r.N a = true
  rise : Rises l
  alone : ∀ r ∈ l, crowdB l r.N = false
theorem ok_of {a : Bs} {l : List Rec} (h : okZ a l = true) : Ok a l := by
  simp only [okZ, Bool.and_eq_true] at h
  obtain ⟨h1, h2⟩ := h
  have all := fun i hi => List.all_eq_true.1 h2 i (List.mem_range.2 hi)
  have mem : ∀ r ∈ l, ∃ i, l[i]? = some r ∧ goodAt a l i = true := fun r hr => by
    obtain ⟨i, hi⟩ := List.mem_iff_getElem?.1 hr
    exact ⟨i, hi, all i (List.getElem?_eq_some_iff.1 hi).1⟩
  have parts : ∀ r ∈ l, formB r = true ∧ underB r.N a = true ∧ crowdB l r.N = false := fun r hr => by
    obtain ⟨i, hi, hg⟩ := mem r hr
    unfold goodAt at hg
    rw [hi] at hg
    simp only [Bool.and_eq_true, Bool.not_eq_true'] at hg
    exact ⟨hg.1.1.1, hg.1.1.2, hg.2⟩
  refine ⟨h1, fun r hr => (parts r hr).1, fun r hr => (parts r hr).2.1, rises_of fun i x y hx hy => ?_, fun r hr => (parts r hr).2.2⟩
  have hg := all (i + 1) (List.getElem?_eq_some_iff.1 hy).1
  rw [goodAt_S hy hx] at hg
  simp only [Bool.and_eq_true, decide_eq_true_eq] at hg
  exact ordR_lt.1 hg.1.2
theorem ok_to {a : Bs} {l : List Rec} (h : Ok a l) : okZ a l = true := by
  unfold okZ
  rw [h.apex, Bool.true_and]
  refine range_good fun i hi => ?_
  have hx : l[i]? = some l[i] := List.getElem?_eq_getElem hi
  have hm := List.mem_of_getElem? hx
  cases i with
  | zero => rw [goodAt_0 hx, h.form _ hm, h.und _ hm, h.alone _ hm]; rfl
  | succ i =>
    have hy : l[i]? = some l[i] := List.getElem?_eq_getElem (by omega)
    rw [goodAt_S hx hy, h.form _ hm, h.und _ hm, h.alone _ hm, decide_eq_true (ordR_lt.2 (h.rise i (i + 1) _ _ (by omega) hy hx))]; rfl
theorem check_zero {a : Bs} {l : List Rec} : checkV a l = 0 ↔ Ok a l ∧ l.length ≤ 64 := by
  unfold checkV
  constructor
  · intro h
    split at h
    · rename_i hk
      refine ⟨ok_of hk, ?_⟩
      split at h
      · cases h
      · omega
    · cases h
  · intro ⟨h1, h2⟩
    rw [if_pos (ok_to h1), if_neg (by omega)]
end Go.Proofs.YtolpobgfcokoaaaGreatDoor
