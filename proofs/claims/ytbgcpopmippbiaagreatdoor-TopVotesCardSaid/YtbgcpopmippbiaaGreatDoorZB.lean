/- Records, as data; the contracts of order, plain, formed, at, crowded, Check. The contracts of crowded, Check, New. The order of records; records of a zone stand in order; an alias stands alone. What may be a zone, in plain words. -/
import Derived.Test.YtbgcpopmippbiaaGreatDoorZA
open Nat renaming reduceLT → rn1, reduceLeDiff → rn2, reduceEqDiff → rn3, reduceAdd → rn4, reduceMul → rn5, reduceSub → rn6, reduceBEq → rn7
open Int renaming reduceLT → ri1, reduceLE → ri2, reduceEq → ri3, reduceBEq → ri4, reduceNeg → ri5
namespace Go.Proofs.YtbgcpopmippbiaaGreatDoor
open Go.Eng
set_option linter.unusedSimpArgs false
set_option maxRecDepth 10000

/-- A record: Name, Kind, Value, Life. -/
structure Rec where
  N : Bs
  K : Int
  V : Bs
  L : Int
  deriving DecidableEq
def Rec.cells (x : Rec) : List D := [dT x.N, dI x.K, dT x.V, dI x.L]
attribute [go_sem] Rec.cells
abbrev recsD (l : List Rec) : D := .vec 4 (l.map Rec.cells)
abbrev Rec.arg (x : Rec) : Bool × List CV := (true, [vS x.N, vI x.K, vS x.V, vI x.L])
abbrev zoneA (a : Bs) (l : List Rec) : Bool × List CV := (true, [vS a, vD (recsD l)])

/-! ### The order of records -/
def cmpI (a b : Int) : Int := if a < b then -1 else if b < a then 1 else 0
theorem nan_ok (a : Int) : Meets Tryz.prog 163 [(false, [vI a])] (rOne (vB false)) := by
  refine meets Tryz.func163 rfl rfl Tryz.ntmps163 Tryz.results163 rfl ?_
  simp -dsimp -implicitDefEqProofs only [go_sem, ↓reduceIte, reduceCtorEq, rn1, rn2, rn3, rn4, rn5, rn6, rn7, ri1, ri2, ri3, ri4, ri5]
theorem cmpI_ok (a b : Int) : Meets Tryz.prog 86 [(false, [vI a]), (false, [vI b])] (rOne (vI (cmpI a b))) := by
  refine meets Tryz.func86 rfl rfl Tryz.ntmps86 Tryz.results86 rfl ?_
  simp -dsimp -implicitDefEqProofs only [go_sem, ↓reduceIte, reduceCtorEq, rn1, rn2, rn3, rn4, rn5, rn6, rn7, ri1, ri2, ri3, ri4, ri5]
  repeat' (first | with_reducible apply And.intro | with_reducible intro _ | with_reducible exact drawn (by kernel_rfl) | (refine callP (nan_ok _) ?_; simp -dsimp -implicitDefEqProofs only [go_sem, ↓reduceIte, reduceCtorEq, rn1, rn2, rn3, rn4, rn5, rn6, rn7, ri1, ri2, ri3, ri4, ri5]) | omega)
  all_goals (unfold cmpI; (try split) <;> (try split) <;> omega)
theorem cmpS_ok (a b : Bs) : Meets Tryz.prog 85 [(false, [vS a]), (false, [vS b])] (rOne (vI (cmpB a b))) := by
  have h : Meets Tryz.prog 162 [(false, [vS a]), (false, [vS b])] (rOne (vI (cmpB a b))) := by
    refine meets Tryz.func162 rfl rfl Tryz.ntmps162 Tryz.results162 rfl ?_
    simp -dsimp -implicitDefEqProofs only [compare_eq, go_sem, ↓reduceIte, reduceCtorEq, rn1, rn2, rn3, rn4, rn5, rn6, rn7, ri1, ri2, ri3, ri4, ri5]
  refine meets Tryz.func85 rfl rfl Tryz.ntmps85 Tryz.results85 rfl ?_
  simp -dsimp -implicitDefEqProofs only [go_sem, ↓reduceIte, reduceCtorEq, rn1, rn2, rn3, rn4, rn5, rn6, rn7, ri1, ri2, ri3, ri4, ri5]
  refine callP h ?_
  simp -dsimp -implicitDefEqProofs only [go_sem, ↓reduceIte, reduceCtorEq, rn1, rn2, rn3, rn4, rn5, rn6, rn7, ri1, ri2, ri3, ri4, ri5]
def or3 (x y z : Int) : Int := if x = 0 then (if y = 0 then z else y) else x
theorem or3_ok (x y z : Int) : Meets Tryz.prog 84 [(false, [vD (.vec 1 [[dI x], [dI y], [dI z]])])] (rOne (vI (or3 x y z))) := by
  have w1 : IntKind.i64.wrap ((0 : Int) + 1) = 1 := by decide
  have w2 : IntKind.i64.wrap ((1 : Int) + 1) = 2 := by decide
  have w3 : IntKind.i64.wrap ((2 : Int) + 1) = 3 := by decide
  have t1 : Int.toNat 1 = 1 := rfl
  have t2 : Int.toNat 2 = 2 := rfl
  refine meets Tryz.func84 rfl rfl Tryz.ntmps84 Tryz.results84 rfl ?_
  simp -dsimp -implicitDefEqProofs only [go_sem, ↓reduceIte, reduceCtorEq, rn1, rn2, rn3, rn4, rn5, rn6, rn7, ri1, ri2, ri3, ri4, ri5]
  refine vrounds 4 sitOk ?_
  simp -dsimp -implicitDefEqProofs only [go_sem, ↓reduceIte, reduceCtorEq, rn1, rn2, rn3, rn4, rn5, rn6, rn7, ri1, ri2, ri3, ri4, ri5]
  refine vround ?_
  simp -dsimp -implicitDefEqProofs only [w1, go_sem, ↓reduceIte, reduceCtorEq, rn1, rn2, rn3, rn4, rn5, rn6, rn7, ri1, ri2, ri3, ri4, ri5]
  refine ⟨fun h => by simp [or3, h], fun h => vround ?_⟩
  simp -dsimp -implicitDefEqProofs only [w2, t1, go_sem, ↓reduceIte, reduceCtorEq, rn1, rn2, rn3, rn4, rn5, rn6, rn7, ri1, ri2, ri3, ri4, ri5]
  refine ⟨fun h2 => by simp [or3, h, h2], fun h2 => vround ?_⟩
  simp -dsimp -implicitDefEqProofs only [w3, t2, go_sem, ↓reduceIte, reduceCtorEq, rn1, rn2, rn3, rn4, rn5, rn6, rn7, ri1, ri2, ri3, ri4, ri5]
  refine ⟨fun h3 => by simp [or3, h, h2], fun h3 => vround ?_⟩
  simp -dsimp -implicitDefEqProofs only [go_sem, ↓reduceIte, reduceCtorEq, rn1, rn2, rn3, rn4, rn5, rn6, rn7, ri1, ri2, ri3, ri4, ri5]
  simp [or3, h, h2, h3]
def ordR (a b : Rec) : Int := or3 (cmpB a.N b.N) (cmpI a.K b.K) (cmpB a.V b.V)
theorem order_ok (a b : Rec) : Meets Tryz.prog 33 [a.arg, b.arg] (rOne (vI (ordR a b))) := by
  refine meets Tryz.func33 rfl rfl Tryz.ntmps33 Tryz.results33 rfl ?_
  simp -dsimp -implicitDefEqProofs only [go_sem, ↓reduceIte, reduceCtorEq, rn1, rn2, rn3, rn4, rn5, rn6, rn7, ri1, ri2, ri3, ri4, ri5]
  repeat' (first | with_reducible apply And.intro | with_reducible intro _ | with_reducible exact drawn (by kernel_rfl) | (refine callP (cmpS_ok _ _) ?_; simp -dsimp -implicitDefEqProofs only [go_sem, ↓reduceIte, reduceCtorEq, rn1, rn2, rn3, rn4, rn5, rn6, rn7, ri1, ri2, ri3, ri4, ri5]) | (refine callP (cmpI_ok _ _) ?_; simp -dsimp -implicitDefEqProofs only [go_sem, ↓reduceIte, reduceCtorEq, rn1, rn2, rn3, rn4, rn5, rn6, rn7, ri1, ri2, ri3, ri4, ri5]) | (refine callP (or3_ok _ _ _) ?_; simp -dsimp -implicitDefEqProofs only [go_sem, ↓reduceIte, reduceCtorEq, rn1, rn2, rn3, rn4, rn5, rn6, rn7, ri1, ri2, ri3, ri4, ri5]) | omega)
  rfl

/-! ### plain -/
def plainC (c : UInt8) : Bool := decide (33 ≤ c.toNat) && decide (c.toNat ≤ 126)
def plainB (l : Bs) : Bool := decide (0 < l.length) && decide (l.length ≤ 64) && l.all plainC
theorem odd_ok (n : Int) : Meets Tryz.prog 159 [(false, [vR n])] (rOne (vB (decide (n < 33) || decide (126 < n)))) := by
  refine meets Tryz.func159 rfl rfl Tryz.ntmps159 Tryz.results159 rfl ?_
  simp -dsimp -implicitDefEqProofs only [go_sem, ↓reduceIte, reduceCtorEq, rn1, rn2, rn3, rn4, rn5, rn6, rn7, ri1, ri2, ri3, ri4, ri5]
  repeat' (first | with_reducible apply And.intro | with_reducible intro _ | with_reducible exact drawn (by kernel_rfl) | omega)
  all_goals simp [*]
  all_goals omega
theorem all_get {α : Type} {l : List α} {f : α → Bool} (h : ∀ j c, j < l.length → l[j]? = some c → f c = true) : l.all f = true := by
  rw [List.all_eq_true]
  intro x hx
  obtain ⟨i, hi⟩ := List.mem_iff_getElem?.1 hx
  exact h i x (List.getElem?_eq_some_iff.1 hi).1 hi
theorem all_bad {α : Type} {l : List α} {f : α → Bool} {i : Nat} {x : α} (hi : l[i]? = some x) (h : f x = false) : l.all f = false := by
  rw [Bool.eq_false_iff]
  intro hh
  rw [List.all_eq_true] at hh
  rw [hh x (List.mem_of_getElem? hi)] at h; cases h
def oddAt (l : Bs) : Int := match l.findIdx? fun c => !plainC c with
  | some i => (i : Nat)
  | none => -1
theorem oddAt_all (l : Bs) : decide (0 ≤ oddAt l) = !l.all plainC := by
  unfold oddAt
  cases h : l.findIdx? fun c => !plainC c with
  | none =>
    rw [List.findIdx?_eq_none_iff] at h
    have : l.all plainC = true := List.all_eq_true.2 fun x hx => by simpa using h x hx
    rw [this]; rfl
  | some i =>
    obtain ⟨hi, h1, _⟩ := List.findIdx?_eq_some_iff_getElem.1 h
    rw [all_bad (List.getElem?_eq_getElem hi) (by simpa using h1)]
    simp
structure IfInv (l : Bs) where
  p : Nat
  le : p ≤ l.length
  ok : ∀ j c, j < p → l[j]? = some c → plainC c = true
theorem indexOdd_ok (l : Bs) (f : FuncId) (ho : ∀ n : Int, Meets Tryz.prog f [(false, [vR n])] (rOne (vB (decide (n < 33) || decide (126 < n))))) : Meets Tryz.prog 272 [(false, [vS l]), (false, [vD (.fn f [])]), (false, [vB true])] (rOne (vI (oddAt l))) := by
  refine meets Tryz.func272 rfl rfl Tryz.ntmps272 Tryz.results272 rfl ?_
  simp -dsimp -implicitDefEqProofs only [go_sem, ↓reduceIte, reduceCtorEq, rn1, rn2, rn3, rn4, rn5, rn6, rn7, ri1, ri2, ri3, ri4, ri5]
  refine vfor sitOk (ι := IfInv l) (fun v => ⟨21, [(10, aP 16 0), (1, aD (.fn f [])), (2, aB true)], [(16, some (.it (bytes l) v.p))], 24⟩) (fun v => l.length - v.p) ⟨0, by omega, fun j c hj => by omega⟩ ?_ ?_
  · simp -dsimp -implicitDefEqProofs only [go_sem, ↓reduceIte, reduceCtorEq, rn1, rn2, rn3, rn4, rn5, rn6, rn7, ri1, ri2, ri3, ri4, ri5]
  intro ⟨p, hp, hok⟩
  simp -dsimp -implicitDefEqProofs only [go_sem, ↓reduceIte, reduceCtorEq, rn1, rn2, rn3, rn4, rn5, rn6, rn7, ri1, ri2, ri3, ri4, ri5]
  refine ⟨fun hlt => ?_, fun hge => ?_⟩
  · obtain ⟨c, hx⟩ : ∃ c, l[p]? = some c := ⟨_, List.getElem?_eq_getElem hlt⟩
    cases hc : plainC c with
    | true =>
      have hc' := hc
      simp [plainC] at hc'
      have hd := dec_lo hx (by omega)
      have hoo : (decide ((c.toNat : Int) < 33) || decide (126 < (c.toNat : Int))) = false := by simp; omega
      simp -dsimp -implicitDefEqProofs only [hd, go_sem, ↓reduceIte, reduceCtorEq, rn1, rn2, rn3, rn4, rn5, rn6, rn7, ri1, ri2, ri3, ri4, ri5]
      refine callP (ho _) ?_
      simp -dsimp -implicitDefEqProofs only [hoo, go_sem, ↓reduceIte, reduceCtorEq, rn1, rn2, rn3, rn4, rn5, rn6, rn7, ri1, ri2, ri3, ri4, ri5]
      refine again ⟨p + 1, by omega, fun j x hj hjx => ?_⟩ (by simp; omega) ?_
      · by_cases hjp : j = p
        · subst hjp; rw [hx] at hjx; cases hjx; exact hc
        · exact hok j x (by omega) hjx
      · simp -dsimp -implicitDefEqProofs only [hd, go_sem, ↓reduceIte, reduceCtorEq, rn1, rn2, rn3, rn4, rn5, rn6, rn7, ri1, ri2, ri3, ri4, ri5]
    | false =>
      have hf : oddAt l = (p : Nat) := by
        have : (l.findIdx? fun c => !plainC c) = some p := by
          rw [List.findIdx?_eq_some_iff_getElem]
          refine ⟨hlt, ?_, fun j hj => ?_⟩
          · have := Option.some.inj ((List.getElem?_eq_getElem hlt).symm.trans hx)
            rw [this, hc]; rfl
          · have hjl : j < l.length := by omega
            have := hok j l[j] hj (List.getElem?_eq_getElem hjl)
            simp [this]
        unfold oddAt; rw [this]
      rw [hf]
      have hn : ∃ n w, Utf8.decode (bytes l) p = (n, w) ∧ (decide ((n : Int) < 33) || decide (126 < (n : Int))) = true := by
        by_cases h128 : c.toNat < 128
        · refine ⟨_, _, dec_lo hx h128, ?_⟩
          simp [plainC] at hc
          simp; omega
        · have := dec_hi hx (by omega)
          generalize Utf8.decode (bytes l) p = q at this
          obtain ⟨n, w⟩ := q
          refine ⟨n, w, rfl, ?_⟩
          simp at this ⊢; omega
      obtain ⟨n, w, he, hoo⟩ := hn
      simp -dsimp -implicitDefEqProofs only [he, go_sem, ↓reduceIte, reduceCtorEq, rn1, rn2, rn3, rn4, rn5, rn6, rn7, ri1, ri2, ri3, ri4, ri5]
      refine callP (ho _) ?_
      simp -dsimp -implicitDefEqProofs only [hoo, go_sem, ↓reduceIte, reduceCtorEq, rn1, rn2, rn3, rn4, rn5, rn6, rn7, ri1, ri2, ri3, ri4, ri5]
  · have : l.all plainC = true := all_get fun j c hj hc => hok j c (by omega) hc
    have h2 := oddAt_all l
    rw [this] at h2
    have h3 : ¬ 0 ≤ oddAt l := by simpa using h2
    unfold oddAt at h3 ⊢
    split
    · rename_i e; rw [e] at h3; simp at h3
    · rfl
theorem containsOdd_ok (l : Bs) (f : FuncId) (ho : ∀ n : Int, Meets Tryz.prog f [(false, [vR n])] (rOne (vB (decide (n < 33) || decide (126 < n))))) : Meets Tryz.prog 160 [(false, [vS l]), (false, [vD (.fn f [])])] (rOne (vB (!l.all plainC))) := by
  have h : Meets Tryz.prog 229 [(false, [vS l]), (false, [vD (.fn f [])])] (rOne (vI (oddAt l))) := by
    refine meets Tryz.func229 rfl rfl Tryz.ntmps229 Tryz.results229 rfl ?_
    simp -dsimp -implicitDefEqProofs only [go_sem, ↓reduceIte, reduceCtorEq, rn1, rn2, rn3, rn4, rn5, rn6, rn7, ri1, ri2, ri3, ri4, ri5]
    refine callP (indexOdd_ok l f ho) ?_
    simp -dsimp -implicitDefEqProofs only [go_sem, ↓reduceIte, reduceCtorEq, rn1, rn2, rn3, rn4, rn5, rn6, rn7, ri1, ri2, ri3, ri4, ri5]
  refine meets Tryz.func160 rfl rfl Tryz.ntmps160 Tryz.results160 rfl ?_
  simp -dsimp -implicitDefEqProofs only [go_sem, ↓reduceIte, reduceCtorEq, rn1, rn2, rn3, rn4, rn5, rn6, rn7, ri1, ri2, ri3, ri4, ri5]
  refine callP h ?_
  simp -dsimp -implicitDefEqProofs only [go_sem, ↓reduceIte, reduceCtorEq, rn1, rn2, rn3, rn4, rn5, rn6, rn7, ri1, ri2, ri3, ri4, ri5]
  exact oddAt_all l
theorem plain_ok (l : Bs) : Meets Tryz.prog 82 [(false, [vS l])] (rOne (vB (plainB l))) := by
  refine meets Tryz.func82 rfl rfl Tryz.ntmps82 Tryz.results82 rfl ?_
  simp -dsimp -implicitDefEqProofs only [go_sem, ↓reduceIte, reduceCtorEq, rn1, rn2, rn3, rn4, rn5, rn6, rn7, ri1, ri2, ri3, ri4, ri5]
  repeat' (first | with_reducible apply And.intro | with_reducible intro _ | with_reducible exact drawn (by kernel_rfl) | (refine callP (containsOdd_ok _ _ odd_ok) ?_; simp -dsimp -implicitDefEqProofs only [go_sem, ↓reduceIte, reduceCtorEq, rn1, rn2, rn3, rn4, rn5, rn6, rn7, ri1, ri2, ri3, ri4, ri5]) | omega)
  all_goals unfold plainB
  · rename_i h1 h2
    rw [Bool.not_not, show decide (l.length ≤ 64) = true by simp; omega, show decide (0 < l.length) = true by simp; omega]; simp
  · rw [show decide (l.length ≤ 64) = false by simp; omega]; simp
  · rw [show decide (0 < l.length) = false from decide_eq_false (by omega)]; simp

/-! ### Records of form -/
theorem named_ok (l : Bs) : Meets Tryz.prog 27 [(false, [vS l])] (rOne (vB (isName l))) := by
  refine meets Tryz.func27 rfl rfl Tryz.ntmps27 Tryz.results27 rfl ?_
  simp -dsimp -implicitDefEqProofs only [go_sem, ↓reduceIte, reduceCtorEq, rn1, rn2, rn3, rn4, rn5, rn6, rn7, ri1, ri2, ri3, ri4, ri5]
  refine callP (check_ok l) ?_
  simp -dsimp -implicitDefEqProofs only [go_sem, ↓reduceIte, reduceCtorEq, rn1, rn2, rn3, rn4, rn5, rn6, rn7, ri1, ri2, ri3, ri4, ri5]
  cases isName l <;> rfl
def digitB (l : Bs) : Bool := match l with
  | [c] => decide (48 ≤ c.toNat) && decide (c.toNat ≤ 55)
  | _ => false
def fitsB (k : Int) (v : Bs) : Bool := if k = 1 ∨ k = 2 ∨ k = 5 then plainB v else if k = 3 then digitB v else if k = 4 then isName v else false
def formB (r : Rec) : Bool := fitsB r.K r.V && isName r.N && decide (1 ≤ r.L) && decide (r.L ≤ 1000)
theorem digits_in (c : UInt8) : decide (0 ≤ Lib.indexByte [48, 49, 50, 51, 52, 53, 54, 55] c) = (decide (48 ≤ c.toNat) && decide (c.toNat ≤ 55)) := by
  have h : ∀ n : Fin 256, decide (0 ≤ Lib.indexByte [48, 49, 50, 51, 52, 53, 54, 55] (UInt8.ofNat n.1)) = (decide (48 ≤ n.1) && decide (n.1 ≤ 55)) := by decide +kernel
  have := h ⟨c.toNat, c.toNat_lt⟩
  simpa using this
theorem digit_ok (c : UInt8) : Meets Tryz.prog 83 [(false, [vS [48, 49, 50, 51, 52, 53, 54, 55]]), (false, [vS [c]])] (rOne (vB (digitB [c]))) := by
  refine meets Tryz.func83 rfl rfl Tryz.ntmps83 Tryz.results83 rfl ?_
  simp -dsimp -implicitDefEqProofs only [go_sem, ↓reduceIte, reduceCtorEq, rn1, rn2, rn3, rn4, rn5, rn6, rn7, ri1, ri2, ri3, ri4, ri5]
  refine callP (index_ok _ c) ?_
  simp -dsimp -implicitDefEqProofs only [go_sem, ↓reduceIte, reduceCtorEq, rn1, rn2, rn3, rn4, rn5, rn6, rn7, ri1, ri2, ri3, ri4, ri5]
  exact digits_in c
theorem digitV_ok (v : Bs) (h : v.length = 1) : Meets Tryz.prog 83 [(false, [vS [48, 49, 50, 51, 52, 53, 54, 55]]), (false, [vS v])] (rOne (vB (digitB v))) := by
  match v, h with
  | [c], _ => exact digit_ok c
theorem digitB_len {v : Bs} (h : ¬ (v.length : Int) = 1) : digitB v = false := by
  unfold digitB; split
  · simp at h
  · rfl
theorem formed_ok (r : Rec) : Meets Tryz.prog 29 [r.arg] (rOne (vB (formB r))) := by
  refine meets Tryz.func29 rfl rfl Tryz.ntmps29 Tryz.results29 rfl ?_
  simp -dsimp -implicitDefEqProofs only [go_sem, ↓reduceIte, reduceCtorEq, rn1, rn2, rn3, rn4, rn5, rn6, rn7, ri1, ri2, ri3, ri4, ri5]
  repeat' (first | with_reducible apply And.intro | with_reducible intro _ | with_reducible exact drawn (by kernel_rfl) | (refine callP (plain_ok _) ?_; simp -dsimp -implicitDefEqProofs only [go_sem, ↓reduceIte, reduceCtorEq, rn1, rn2, rn3, rn4, rn5, rn6, rn7, ri1, ri2, ri3, ri4, ri5]) | (refine callP (named_ok _) ?_; simp -dsimp -implicitDefEqProofs only [go_sem, ↓reduceIte, reduceCtorEq, rn1, rn2, rn3, rn4, rn5, rn6, rn7, ri1, ri2, ri3, ri4, ri5]) | (refine callP (digitV_ok _ (by omega)) ?_; simp -dsimp -implicitDefEqProofs only [go_sem, ↓reduceIte, reduceCtorEq, rn1, rn2, rn3, rn4, rn5, rn6, rn7, ri1, ri2, ri3, ri4, ri5]) | omega)
  all_goals first
    | (simp [formB, fitsB, *]; done)
    | (have hdl := digitB_len (by assumption); simp [formB, fitsB, *]; done)
    | (simp [formB, fitsB, *]; omega)
    | trace_state
end Go.Proofs.YtbgcpopmippbiaaGreatDoor
namespace Go.Proofs.YtbgcpopmippbiaaGreatDoor
open Go.Eng
set_option linter.unusedSimpArgs false
set_option maxRecDepth 10000

/-- The records of a name. -/
def atB (l : List Rec) (n : Bs) : List Rec := l.filter fun r => r.N == n
def crowdB (l : List Rec) (n : Bs) : Bool := (atB l n).any (fun r => r.K == 4) && decide (1 < (atB l n).length)
structure CwInv (l : List Rec) where
  i : Nat
  le : i ≤ l.length
theorem atB_step {l : List Rec} {i : Nat} {x : Rec} (n : Bs) (h : l[i]? = some x) : atB (l.take (i + 1)) n = atB (l.take i) n ++ (if x.N = n then [x] else []) := by
  unfold atB
  rw [List.take_add_one, h]
  simp only [Option.toList_some, List.filter_append, List.filter_cons, List.filter_nil, beq_iff_eq]
theorem atB_len (l : List Rec) (n : Bs) : (atB l n).length ≤ l.length := List.length_filter_le ..

theorem crowded_ok (a : Bs) (l : List Rec) (n : Bs) (hl : l.length ≤ 1000000) : Meets Tryz.prog 35 [zoneA a l, (false, [vS n])] (rOne (vB (crowdB l n))) := by
  refine meets Tryz.func35 rfl rfl Tryz.ntmps35 Tryz.results35 rfl ?_
  simp -dsimp -implicitDefEqProofs only [go_sem, ↓reduceIte, reduceCtorEq, rn1, rn2, rn3, rn4, rn5, rn6, rn7, ri1, ri2, ri3, ri4, ri5]
  refine callW rfl Tryz.func89 rfl rfl Tryz.ntmps89 Tryz.results89 rfl ?_
  simp -dsimp -implicitDefEqProofs only [retH, go_sem, ↓reduceIte, reduceCtorEq, rn1, rn2, rn3, rn4, rn5, rn6, rn7, ri1, ri2, ri3, ri4, ri5]
  refine vrange sitOk rfl [] [(6, aP 24 0), (5, aP 16 0)] rfl rfl ?_ Tryz.func165 rfl rfl Tryz.ntmps165 Tryz.results165 rfl ?_
  · simp -dsimp -implicitDefEqProofs only [go_sem, ↓reduceIte, reduceCtorEq, rn1, rn2, rn3, rn4, rn5, rn6, rn7, ri1, ri2, ri3, ri4, ri5]
  simp -dsimp -implicitDefEqProofs only [go_sem, ↓reduceIte, reduceCtorEq, rn1, rn2, rn3, rn4, rn5, rn6, rn7, ri1, ri2, ri3, ri4, ri5]
  generalize hL : Lp.mk 25 _ _ _ _ _ = L
  refine vfor sitOk (ι := CwInv l) (fun v => ⟨24, [(9, aI v.i), (8, aI l.length), (7, aD (recsD l)), (0, .cs false [.yld 128]), (1, aP 64 0), (2, aP 72 0)],
    [(128, some (.lp L)), (72, some (.var [cS n] true)), (64, some (.var [cS a, cD (recsD l)] true)), (24, some (.var [cB ((atB (l.take v.i) n).any (fun r => r.K == 4))] true)), (16, some (.var [cI ((atB (l.take v.i) n).length : Nat)] true)), (0, some (.var [cS a, cD (recsD l)] true))], 500⟩) (fun v => l.length - v.i) ⟨0, by omega⟩ ?_ ?_
  · simp -dsimp -implicitDefEqProofs only [← hL, go_sem, ↓reduceIte, reduceCtorEq, rn1, rn2, rn3, rn4, rn5, rn6, rn7, ri1, ri2, ri3, ri4, ri5]
    simp [atB]
  intro ⟨i, hi⟩
  have hal := atB_len (l.take i) n
  have htl : (l.take i).length ≤ l.length := by simp; omega
  simp -dsimp -implicitDefEqProofs only [go_sem, ↓reduceIte, reduceCtorEq, rn1, rn2, rn3, rn4, rn5, rn6, rn7, ri1, ri2, ri3, ri4, ri5]
  refine ⟨fun hlt => ?_, fun hge => ?_⟩
  · have hil : i < l.length := by omega
    obtain ⟨x, hx⟩ : ∃ x, l[i]? = some x := ⟨_, List.getElem?_eq_getElem hil⟩
    have hst := atB_step n hx
    have hw := wrapS hil (by omega)
    have hw2 : IntKind.i64.wrap (((atB (l.take i) n).length : Int) + 1) = (((atB (l.take i) n).length + 1 : Nat) : Int) := by rw [wrap64] <;> omega
    simp -dsimp -implicitDefEqProofs only [hx, forall_eq', hw, go_sem, ↓reduceIte, reduceCtorEq, rn1, rn2, rn3, rn4, rn5, rn6, rn7, ri1, ri2, ri3, ri4, ri5]
    refine ⟨by omega, hil, fun h => yieldW sitOk ?_, fun h => ?_⟩
    · simp -dsimp -implicitDefEqProofs only [← hL, go_sem, ↓reduceIte, reduceCtorEq, rn1, rn2, rn3, rn4, rn5, rn6, rn7, ri1, ri2, ri3, ri4, ri5]
      intro ro
      rw [if_pos h] at hst
      refine ⟨fun h2 => ?_, fun h2 => ?_⟩
      · refine again ⟨i + 1, by omega⟩ (by simp; omega) ?_
        simp -dsimp -implicitDefEqProofs only [← hL, hw, hw2, hst, h2, List.any_append, List.length_append, List.any_cons, List.any_nil, go_sem, ↓reduceIte, reduceCtorEq, rn1, rn2, rn3, rn4, rn5, rn6, rn7, ri1, ri2, ri3, ri4, ri5]
      · refine again ⟨i + 1, by omega⟩ (by simp; omega) ?_
        simp -dsimp -implicitDefEqProofs only [← hL, hw, hw2, hst, h2, List.any_append, List.length_append, List.any_cons, List.any_nil, go_sem, ↓reduceIte, reduceCtorEq, rn1, rn2, rn3, rn4, rn5, rn6, rn7, ri1, ri2, ri3, ri4, ri5]
    · rw [if_neg h, List.append_nil] at hst
      refine again ⟨i + 1, by omega⟩ (by simp; omega) ?_
      simp -dsimp -implicitDefEqProofs only [← hL, hw, hst, go_sem, ↓reduceIte, reduceCtorEq, rn1, rn2, rn3, rn4, rn5, rn6, rn7, ri1, ri2, ri3, ri4, ri5]
  · have hil : i = l.length := by omega
    subst hil
    rw [List.take_length] at *
    simp -dsimp -implicitDefEqProofs only [retH, ← hL, go_sem, ↓reduceIte, reduceCtorEq, rn1, rn2, rn3, rn4, rn5, rn6, rn7, ri1, ri2, ri3, ri4, ri5]
    unfold crowdB
    exact ⟨fun h => by rw [h, Bool.true_and, decide_eq_decide]; omega, fun h => by rw [h]; rfl⟩

/-- What Check asks of the record in place i. -/
def goodAt (a : Bs) (l : List Rec) (i : Nat) : Bool := match l[i]? with
  | some r => formB r && underB r.N a && (match i with | 0 => true | j + 1 => match l[j]? with | some q => decide (ordR q r < 0) | none => true) && !crowdB l r.N
  | none => true
def apexB (a : Bs) : Bool := a == [] || isName a
def okZ (a : Bs) (l : List Rec) : Bool := apexB a && (List.range l.length).all (goodAt a l)
def checkV (a : Bs) (l : List Rec) : Int := if okZ a l then (if 64 < l.length then 2 else 0) else 1
structure ZcInv (a : Bs) (l : List Rec) where
  i : Nat
  le : i ≤ l.length
  ok : ∀ j, j < i → goodAt a l j = true
theorem range_bad {n i : Nat} {f : Nat → Bool} (hi : i < n) (h : f i = false) : (List.range n).all f = false := by
  rw [Bool.eq_false_iff]
  intro hh
  rw [List.all_eq_true] at hh
  rw [hh i (List.mem_range.2 hi)] at h; cases h
theorem range_good {n : Nat} {f : Nat → Bool} (h : ∀ j, j < n → f j = true) : (List.range n).all f = true :=
  List.all_eq_true.2 fun j hj => h j (List.mem_range.1 hj)
theorem checkV_bad {a : Bs} {l : List Rec} {i : Nat} (hi : i < l.length) (h : goodAt a l i = false) : checkV a l = 1 := by
  unfold checkV okZ; rw [range_bad hi h]; simp
theorem checkV_apex {a : Bs} {l : List Rec} (h : apexB a = false) : checkV a l = 1 := by
  unfold checkV okZ; rw [h]; simp
theorem checkV_good {a : Bs} {l : List Rec} (h : apexB a = true) (h2 : ∀ j, j < l.length → goodAt a l j = true) : checkV a l = if 64 < l.length then 2 else 0 := by
  unfold checkV okZ; rw [h, range_good h2]; simp
theorem goodAt_0 {a : Bs} {l : List Rec} {r : Rec} (h : l[0]? = some r) : goodAt a l 0 = (formB r && underB r.N a && !crowdB l r.N) := by
  unfold goodAt; rw [h]; simp
theorem goodAt_S {a : Bs} {l : List Rec} {r q : Rec} {i : Nat} (h : l[i + 1]? = some r) (hq : l[i]? = some q) : goodAt a l (i + 1) = (formB r && underB r.N a && decide (ordR q r < 0) && !crowdB l r.N) := by
  unfold goodAt; rw [h]; simp [hq]

theorem zcheck_ok (a : Bs) (l : List Rec) (hl : l.length ≤ 1000000) : Meets Tryz.prog 28 [zoneA a l] (rOne (vI (checkV a l))) := by
  refine meets Tryz.func28 rfl rfl Tryz.ntmps28 Tryz.results28 rfl ?_
  simp -dsimp -implicitDefEqProofs only [go_sem, ↓reduceIte, reduceCtorEq, rn1, rn2, rn3, rn4, rn5, rn6, rn7, ri1, ri2, ri3, ri4, ri5]
  cases hap : apexB a with
  | false =>
    have h1 : ¬ a = [] := by intro h; subst h; simp [apexB] at hap
    have h2 : isName a = false := by simpa [apexB, h1] using hap
    simp -dsimp -implicitDefEqProofs only [h1, go_sem, ↓reduceIte, reduceCtorEq, rn1, rn2, rn3, rn4, rn5, rn6, rn7, ri1, ri2, ri3, ri4, ri5]
    refine callP (named_ok a) ?_
    simp -dsimp -implicitDefEqProofs only [h2, checkV_apex hap, go_sem, ↓reduceIte, reduceCtorEq, rn1, rn2, rn3, rn4, rn5, rn6, rn7, ri1, ri2, ri3, ri4, ri5]
  | true =>
  have hstart : a = [] ∨ (¬ a = [] ∧ isName a = true) := by
    by_cases h : a = []
    · exact .inl h
    · exact .inr ⟨h, by simpa [apexB, h] using hap⟩
  rcases hstart with rfl | ⟨h1, h2⟩
  · skip
    simp -dsimp -implicitDefEqProofs only [go_sem, ↓reduceIte, reduceCtorEq, rn1, rn2, rn3, rn4, rn5, rn6, rn7, ri1, ri2, ri3, ri4, ri5]
    refine vfor sitOk (ι := ZcInv [] l) (fun v => ⟨59, [(17, aI v.i), (16, aI l.length), (15, aD (recsD l)), (1, aP 0 0)], [(0, some (.var [cS [], cD (recsD l)] true))], 120⟩) (fun v => l.length - v.i) ⟨0, by omega, fun j hj => by omega⟩ ?_ ?_
    · simp -dsimp -implicitDefEqProofs only [go_sem, ↓reduceIte, reduceCtorEq, rn1, rn2, rn3, rn4, rn5, rn6, rn7, ri1, ri2, ri3, ri4, ri5]
    intro ⟨i, hi, hok⟩
    simp -dsimp -implicitDefEqProofs only [go_sem, ↓reduceIte, reduceCtorEq, rn1, rn2, rn3, rn4, rn5, rn6, rn7, ri1, ri2, ri3, ri4, ri5]
    refine ⟨fun hlt => ?_, fun hge => ?_⟩
    · have hil : i < l.length := by omega
      obtain ⟨x, hx⟩ : ∃ x, l[i]? = some x := ⟨_, List.getElem?_eq_getElem hil⟩
      have hw := wrapS hil (by omega)
      have bad : goodAt [] l i = false → 1 = checkV [] l := fun h => (checkV_bad hil h).symm
      have next : goodAt [] l i = true → ∀ j, j < i + 1 → goodAt [] l j = true := fun h j hj => by
        by_cases hji : j = i
        · subst hji; exact h
        · exact hok j (by omega)
      cases i with
      | zero =>
        have hg := goodAt_0 (a := []) hx
        simp -dsimp -implicitDefEqProofs only [hx, forall_eq', hw, go_sem, ↓reduceIte, reduceCtorEq, rn1, rn2, rn3, rn4, rn5, rn6, rn7, ri1, ri2, ri3, ri4, ri5]
        repeat' (first | with_reducible apply And.intro | with_reducible intro _ | with_reducible exact drawn (by kernel_rfl) | (refine callP (formed_ok _) ?_; simp -dsimp -implicitDefEqProofs only [hx, forall_eq', hw, go_sem, ↓reduceIte, reduceCtorEq, rn1, rn2, rn3, rn4, rn5, rn6, rn7, ri1, ri2, ri3, ri4, ri5]) | (refine callP (under_ok _ _) ?_; simp -dsimp -implicitDefEqProofs only [hx, forall_eq', hw, go_sem, ↓reduceIte, reduceCtorEq, rn1, rn2, rn3, rn4, rn5, rn6, rn7, ri1, ri2, ri3, ri4, ri5]) | (refine callP (crowded_ok _ _ _ hl) ?_; simp -dsimp -implicitDefEqProofs only [hx, forall_eq', hw, go_sem, ↓reduceIte, reduceCtorEq, rn1, rn2, rn3, rn4, rn5, rn6, rn7, ri1, ri2, ri3, ri4, ri5]) | omega)
        all_goals first
          | (with_reducible refine bad ?_; rw [hg]; simp [*]; done)
          | (refine again ⟨1, by omega, next (by rw [hg]; simp [*])⟩ (by simp; omega) ?_
             simp -dsimp -implicitDefEqProofs only [go_sem, ↓reduceIte, reduceCtorEq, rn1, rn2, rn3, rn4, rn5, rn6, rn7, ri1, ri2, ri3, ri4, ri5]
             rfl)
          | trace_state
      | succ k =>
        obtain ⟨y, hy⟩ : ∃ y, l[k]? = some y := ⟨_, List.getElem?_eq_getElem (by omega)⟩
        have hg := goodAt_S (a := []) hx hy
        have hw2 : IntKind.i64.wrap (((k + 1 : Nat) : Int) - 1) = (k : Int) := by rw [wrap64] <;> omega
        have hyl : k < l.length := by omega
        simp -dsimp -implicitDefEqProofs only [hx, hy, forall_eq', hw, hw2, go_sem, ↓reduceIte, reduceCtorEq, rn1, rn2, rn3, rn4, rn5, rn6, rn7, ri1, ri2, ri3, ri4, ri5]
        repeat' (first | with_reducible apply And.intro | with_reducible intro _ | with_reducible exact drawn (by kernel_rfl) | (refine callP (formed_ok _) ?_; simp -dsimp -implicitDefEqProofs only [hx, hy, forall_eq', hw, hw2, go_sem, ↓reduceIte, reduceCtorEq, rn1, rn2, rn3, rn4, rn5, rn6, rn7, ri1, ri2, ri3, ri4, ri5]) | (refine callP (under_ok _ _) ?_; simp -dsimp -implicitDefEqProofs only [hx, hy, forall_eq', hw, hw2, go_sem, ↓reduceIte, reduceCtorEq, rn1, rn2, rn3, rn4, rn5, rn6, rn7, ri1, ri2, ri3, ri4, ri5]) | (refine callP (order_ok _ _) ?_; simp -dsimp -implicitDefEqProofs only [hx, hy, forall_eq', hw, hw2, go_sem, ↓reduceIte, reduceCtorEq, rn1, rn2, rn3, rn4, rn5, rn6, rn7, ri1, ri2, ri3, ri4, ri5]) | (refine callP (crowded_ok _ _ _ hl) ?_; simp -dsimp -implicitDefEqProofs only [hx, hy, forall_eq', hw, hw2, go_sem, ↓reduceIte, reduceCtorEq, rn1, rn2, rn3, rn4, rn5, rn6, rn7, ri1, ri2, ri3, ri4, ri5]) | omega)
        all_goals first
          | (with_reducible refine bad ?_; rw [hg]; simp [*]; done)
          | (with_reducible refine bad ?_; rw [hg]; simp [*]; omega)
          | (refine again ⟨k + 1 + 1, by omega, next (by rw [hg]; simp [*])⟩ (by simp; omega) ?_
             simp -dsimp -implicitDefEqProofs only [go_sem, ↓reduceIte, reduceCtorEq, rn1, rn2, rn3, rn4, rn5, rn6, rn7, ri1, ri2, ri3, ri4, ri5]; done)
          | trace_state
    · have hil : i = l.length := by omega
      subst hil
      rw [checkV_good hap hok]
      refine ⟨fun h => ?_, fun h => ?_⟩
      · rw [if_pos (by omega)]
      · rw [if_neg (by omega)]

  · simp -dsimp -implicitDefEqProofs only [h1, go_sem, ↓reduceIte, reduceCtorEq, rn1, rn2, rn3, rn4, rn5, rn6, rn7, ri1, ri2, ri3, ri4, ri5]
    refine callP (named_ok a) ?_
    simp -dsimp -implicitDefEqProofs only [h2, go_sem, ↓reduceIte, reduceCtorEq, rn1, rn2, rn3, rn4, rn5, rn6, rn7, ri1, ri2, ri3, ri4, ri5]
    refine vfor sitOk (ι := ZcInv a l) (fun v => ⟨59, [(17, aI v.i), (16, aI l.length), (15, aD (recsD l)), (1, aP 0 0)], [(0, some (.var [cS a, cD (recsD l)] true))], 120⟩) (fun v => l.length - v.i) ⟨0, by omega, fun j hj => by omega⟩ ?_ ?_
    · simp -dsimp -implicitDefEqProofs only [go_sem, ↓reduceIte, reduceCtorEq, rn1, rn2, rn3, rn4, rn5, rn6, rn7, ri1, ri2, ri3, ri4, ri5]
    intro ⟨i, hi, hok⟩
    simp -dsimp -implicitDefEqProofs only [go_sem, ↓reduceIte, reduceCtorEq, rn1, rn2, rn3, rn4, rn5, rn6, rn7, ri1, ri2, ri3, ri4, ri5]
    refine ⟨fun hlt => ?_, fun hge => ?_⟩
    · have hil : i < l.length := by omega
      obtain ⟨x, hx⟩ : ∃ x, l[i]? = some x := ⟨_, List.getElem?_eq_getElem hil⟩
      have hw := wrapS hil (by omega)
      have bad : goodAt a l i = false → 1 = checkV a l := fun h => (checkV_bad hil h).symm
      have next : goodAt a l i = true → ∀ j, j < i + 1 → goodAt a l j = true := fun h j hj => by
        by_cases hji : j = i
        · subst hji; exact h
        · exact hok j (by omega)
      cases i with
      | zero =>
        have hg := goodAt_0 (a := a) hx
        simp -dsimp -implicitDefEqProofs only [hx, forall_eq', hw, go_sem, ↓reduceIte, reduceCtorEq, rn1, rn2, rn3, rn4, rn5, rn6, rn7, ri1, ri2, ri3, ri4, ri5]
        repeat' (first | with_reducible apply And.intro | with_reducible intro _ | with_reducible exact drawn (by kernel_rfl) | (refine callP (formed_ok _) ?_; simp -dsimp -implicitDefEqProofs only [hx, forall_eq', hw, go_sem, ↓reduceIte, reduceCtorEq, rn1, rn2, rn3, rn4, rn5, rn6, rn7, ri1, ri2, ri3, ri4, ri5]) | (refine callP (under_ok _ _) ?_; simp -dsimp -implicitDefEqProofs only [hx, forall_eq', hw, go_sem, ↓reduceIte, reduceCtorEq, rn1, rn2, rn3, rn4, rn5, rn6, rn7, ri1, ri2, ri3, ri4, ri5]) | (refine callP (crowded_ok _ _ _ hl) ?_; simp -dsimp -implicitDefEqProofs only [hx, forall_eq', hw, go_sem, ↓reduceIte, reduceCtorEq, rn1, rn2, rn3, rn4, rn5, rn6, rn7, ri1, ri2, ri3, ri4, ri5]) | omega)
        all_goals first
          | (with_reducible refine bad ?_; rw [hg]; simp [*]; done)
          | (refine again ⟨1, by omega, next (by rw [hg]; simp [*])⟩ (by simp; omega) ?_
             simp -dsimp -implicitDefEqProofs only [go_sem, ↓reduceIte, reduceCtorEq, rn1, rn2, rn3, rn4, rn5, rn6, rn7, ri1, ri2, ri3, ri4, ri5]
             rfl)
          | trace_state
      | succ k =>
        obtain ⟨y, hy⟩ : ∃ y, l[k]? = some y := ⟨_, List.getElem?_eq_getElem (by omega)⟩
        have hg := goodAt_S (a := a) hx hy
        have hw2 : IntKind.i64.wrap (((k + 1 : Nat) : Int) - 1) = (k : Int) := by rw [wrap64] <;> omega
        have hyl : k < l.length := by omega
        simp -dsimp -implicitDefEqProofs only [hx, hy, forall_eq', hw, hw2, go_sem, ↓reduceIte, reduceCtorEq, rn1, rn2, rn3, rn4, rn5, rn6, rn7, ri1, ri2, ri3, ri4, ri5]
        repeat' (first | with_reducible apply And.intro | with_reducible intro _ | with_reducible exact drawn (by kernel_rfl) | (refine callP (formed_ok _) ?_; simp -dsimp -implicitDefEqProofs only [hx, hy, forall_eq', hw, hw2, go_sem, ↓reduceIte, reduceCtorEq, rn1, rn2, rn3, rn4, rn5, rn6, rn7, ri1, ri2, ri3, ri4, ri5]) | (refine callP (under_ok _ _) ?_; simp -dsimp -implicitDefEqProofs only [hx, hy, forall_eq', hw, hw2, go_sem, ↓reduceIte, reduceCtorEq, rn1, rn2, rn3, rn4, rn5, rn6, rn7, ri1, ri2, ri3, ri4, ri5]) | (refine callP (order_ok _ _) ?_; simp -dsimp -implicitDefEqProofs only [hx, hy, forall_eq', hw, hw2, go_sem, ↓reduceIte, reduceCtorEq, rn1, rn2, rn3, rn4, rn5, rn6, rn7, ri1, ri2, ri3, ri4, ri5]) | (refine callP (crowded_ok _ _ _ hl) ?_; simp -dsimp -implicitDefEqProofs only [hx, hy, forall_eq', hw, hw2, go_sem, ↓reduceIte, reduceCtorEq, rn1, rn2, rn3, rn4, rn5, rn6, rn7, ri1, ri2, ri3, ri4, ri5]) | omega)
        all_goals first
          | (with_reducible refine bad ?_; rw [hg]; simp [*]; done)
          | (with_reducible refine bad ?_; rw [hg]; simp [*]; omega)
          | (refine again ⟨k + 1 + 1, by omega, next (by rw [hg]; simp [*])⟩ (by simp; omega) ?_
             simp -dsimp -implicitDefEqProofs only [go_sem, ↓reduceIte, reduceCtorEq, rn1, rn2, rn3, rn4, rn5, rn6, rn7, ri1, ri2, ri3, ri4, ri5]; done)
          | trace_state
    · have hil : i = l.length := by omega
      subst hil
      rw [checkV_good hap hok]
      refine ⟨fun h => ?_, fun h => ?_⟩
      · rw [if_pos (by omega)]
      · rw [if_neg (by omega)]


theorem new_ok (a : Bs) : Meets Tryz.prog 8 [(false, [vS a])] (rTup [if apexB a then zoneA a [] else zoneA [] [], (false, [vI (if apexB a then 0 else 1)])]) := by
  have h0 : apexB [] = true := rfl
  cases hap : apexB a with
  | false =>
    have h1 : ¬ a = [] := by intro h; subst h; simp [apexB] at hap
    have h2 : isName a = false := by simpa [apexB, h1] using hap
    refine meets Tryz.func8 rfl rfl Tryz.ntmps8 Tryz.results8 rfl ?_
    simp -dsimp -implicitDefEqProofs only [h1, Bool.false_eq_true, go_sem, ↓reduceIte, reduceCtorEq, rn1, rn2, rn3, rn4, rn5, rn6, rn7, ri1, ri2, ri3, ri4, ri5]
    refine callP (named_ok a) ?_
    simp -dsimp -implicitDefEqProofs only [h2, go_sem, ↓reduceIte, reduceCtorEq, rn1, rn2, rn3, rn4, rn5, rn6, rn7, ri1, ri2, ri3, ri4, ri5]
  | true =>
    by_cases h1 : a = []
    · subst h1
      refine meets Tryz.func8 rfl rfl Tryz.ntmps8 Tryz.results8 rfl ?_
      simp -dsimp -implicitDefEqProofs only [go_sem, ↓reduceIte, reduceCtorEq, rn1, rn2, rn3, rn4, rn5, rn6, rn7, ri1, ri2, ri3, ri4, ri5]
    · have h2 : isName a = true := by simpa [apexB, h1] using hap
      refine meets Tryz.func8 rfl rfl Tryz.ntmps8 Tryz.results8 rfl ?_
      simp -dsimp -implicitDefEqProofs only [h1, go_sem, ↓reduceIte, reduceCtorEq, rn1, rn2, rn3, rn4, rn5, rn6, rn7, ri1, ri2, ri3, ri4, ri5]
      refine callP (named_ok a) ?_
      simp -dsimp -implicitDefEqProofs only [h2, go_sem, ↓reduceIte, reduceCtorEq, rn1, rn2, rn3, rn4, rn5, rn6, rn7, ri1, ri2, ri3, ri4, ri5]
/-- A zone: Apex, Recs. -/
structure Zn where
  A : Bs
  R : List Rec
  deriving DecidableEq
def Zn.cells (z : Zn) : List D := [dT z.A, recsD z.R]
attribute [go_sem] Zn.cells
abbrev zonesD (l : List Zn) : D := .vec 2 (l.map Zn.cells)
end Go.Proofs.YtbgcpopmippbiaaGreatDoor
namespace Go.Proofs.YtbgcpopmippbiaaGreatDoor
open Go.Eng
set_option linter.unusedSimpArgs false
set_option maxRecDepth 10000

/-- Does one stand ahead of another? -/
def Ah (a b : Rec) : Prop := a.N < b.N ∨ (a.N = b.N ∧ (a.K < b.K ∨ (a.K = b.K ∧ a.V < b.V)))
theorem cmpI_lt {a b : Int} : cmpI a b < 0 ↔ a < b := by
  unfold cmpI; split <;> (try split) <;> omega
theorem cmpI_eq {a b : Int} : cmpI a b = 0 ↔ a = b := by
  unfold cmpI; split <;> (try split) <;> omega
theorem Ah.irr {a : Rec} (h : Ah a a) : False := by
  rcases h with h | ⟨_, h | ⟨_, h⟩⟩
  · exact lt_irr _ h
  · omega
  · exact lt_irr _ h
theorem Ah.tr {a b c : Rec} (h : Ah a b) (h' : Ah b c) : Ah a c := by
  unfold Ah at *
  rcases h with h | ⟨e, h⟩
  · rcases h' with h' | ⟨e', _⟩
    · exact .inl (lt_tr h h')
    · exact .inl (e' ▸ h)
  · rcases h' with h' | ⟨e', h'⟩
    · exact .inl (by rw [e]; exact h')
    · refine .inr ⟨e.trans e', ?_⟩
      rcases h with h | ⟨k, h⟩
      · rcases h' with h' | ⟨k', h'⟩
        · exact .inl (by omega)
        · exact .inl (by omega)
      · rcases h' with h' | ⟨k', h'⟩
        · exact .inl (by omega)
        · exact .inr ⟨k.trans k', lt_tr h h'⟩
theorem Ah.as {a b : Rec} (h : Ah a b) : ¬ Ah b a := fun h' => (h.tr h').irr
/-- Of one place. -/
def Pl (a b : Rec) : Prop := a.N = b.N ∧ a.K = b.K ∧ a.V = b.V
theorem Ah.tri (a b : Rec) : Ah a b ∨ Pl a b ∨ Ah b a := by
  unfold Ah Pl
  rcases lt_tri a.N b.N with h | h | h
  · exact .inl (.inl h)
  · rcases (by omega : a.K < b.K ∨ a.K = b.K ∨ b.K < a.K) with k | k | k
    · exact .inl (.inr ⟨h, .inl k⟩)
    · rcases lt_tri a.V b.V with v | v | v
      · exact .inl (.inr ⟨h, .inr ⟨k, v⟩⟩)
      · exact .inr (.inl ⟨h, k, v⟩)
      · exact .inr (.inr (.inr ⟨h.symm, .inr ⟨k.symm, v⟩⟩))
    · exact .inr (.inr (.inr ⟨h.symm, .inl k⟩))
  · exact .inr (.inr (.inl h))
theorem Ah.pl_left {a b c : Rec} (h : Pl a b) (h' : Ah b c) : Ah a c := by
  obtain ⟨h1, h2, h3⟩ := h
  unfold Ah at *
  rw [h1, h2, h3]; exact h'
theorem Pl.symm {a b : Rec} (h : Pl a b) : Pl b a := ⟨h.1.symm, h.2.1.symm, h.2.2.symm⟩
theorem Pl.not {a b : Rec} (h : Pl a b) : ¬ Ah a b := fun h' => (Ah.pl_left h.symm h').irr

/-- The records rise. -/
def Rises (l : List Rec) : Prop := ∀ (i j : Nat) (x y : Rec), i < j → l[i]? = some x → l[j]? = some y → Ah x y
/-! ### An alias stands alone -/
def aloneAt (l : List Rec) : Nat → Bool
  | 0 => true
  | i + 1 => match l[i]?, l[i + 1]? with
    | some x, some y => !(x.N == y.N && (x.K == 4 || y.K == 4))
    | _, _ => true
def aloneB (l : List Rec) : Bool := (List.range l.length).all (aloneAt l)
/-- Names rise. -/
theorem Ah.name {a b : Rec} (h : Ah a b) : ¬ b.N < a.N := by
  rcases h with h | ⟨e, _⟩
  · exact lt_as h
  · rw [e]; exact lt_irr _
end Go.Proofs.YtbgcpopmippbiaaGreatDoor
namespace Go.Proofs.YtbgcpopmippbiaaGreatDoor
open Go.Eng
set_option linter.unusedSimpArgs false
set_option maxRecDepth 10000

instance (a b : Rec) : Decidable (Ah a b) := by unfold Ah; exact inferInstance
instance (a b : Rec) : Decidable (Pl a b) := by unfold Pl; exact inferInstance

/-- A zone that may be. -/
structure Ok (a : Bs) (l : List Rec) : Prop where
  apex : apexB a = true
  form : ∀ r ∈ l, formB r = true
  und : ∀ r ∈ l, underB r.N a = true
  rise : Rises l
  alone : ∀ r ∈ l, crowdB l r.N = false
end Go.Proofs.YtbgcpopmippbiaaGreatDoor
