/- Records, as data; the contracts of order, plain, formed, at, crowded, Check. -/
import Derived.Test.YtfgejhlgenaniaaDoorZ4
namespace Go.Proofs.YtfgejhlgenaniaaDoor
open Go.Eng
set_option linter.unusedSimpArgs false
set_option maxRecDepth 10000

/-- A record: Name, Kind, Value, Life. -/
structure Rec where
  N : Bs
  K : Int
  V : Bs
  L : Int
  deriving DecidableEq
def Rec.cells (x : Rec) : List D := [dT x.N, dI x.K, dT x.V, dI x.L]
attribute [go_sem] Rec.cells
abbrev recsD (l : List Rec) : D := .vec 4 (l.map Rec.cells)
abbrev Rec.arg (x : Rec) : Bool × List CV := (true, [vS x.N, vI x.K, vS x.V, vI x.L])
abbrev zoneA (a : Bs) (l : List Rec) : Bool × List CV := (true, [vS a, vD (recsD l)])

/-! ### The order of records -/
def cmpI (a b : Int) : Int := if a < b then -1 else if b < a then 1 else 0
theorem nan_ok (a : Int) : Meets Tryd.prog 92 [(false, [vI a])] (rOne (vB false)) := by
  refine meets Tryd.func92 rfl rfl Tryd.ntmps92 Tryd.results92 rfl ?_
  simp -dsimp -implicitDefEqProofs only [go_sem, ↓reduceIte, reduceCtorEq, Nat.reduceLT, Nat.reduceLeDiff, Nat.reduceEqDiff, Nat.reduceAdd, Nat.reduceMul, Nat.reduceSub, Nat.reduceBEq, Int.reduceLT, Int.reduceLE, Int.reduceEq, Int.reduceBEq, Int.reduceNeg]
theorem cmpI_ok (a b : Int) : Meets Tryd.prog 77 [(false, [vI a]), (false, [vI b])] (rOne (vI (cmpI a b))) := by
  refine meets Tryd.func77 rfl rfl Tryd.ntmps77 Tryd.results77 rfl ?_
  simp -dsimp -implicitDefEqProofs only [go_sem, ↓reduceIte, reduceCtorEq, Nat.reduceLT, Nat.reduceLeDiff, Nat.reduceEqDiff, Nat.reduceAdd, Nat.reduceMul, Nat.reduceSub, Nat.reduceBEq, Int.reduceLT, Int.reduceLE, Int.reduceEq, Int.reduceBEq, Int.reduceNeg]
  repeat' (first | with_reducible apply And.intro | with_reducible intro _ | with_reducible exact drawn (by kernel_rfl) | (refine callP (nan_ok _) ?_; simp -dsimp -implicitDefEqProofs only [go_sem, ↓reduceIte, reduceCtorEq, Nat.reduceLT, Nat.reduceLeDiff, Nat.reduceEqDiff, Nat.reduceAdd, Nat.reduceMul, Nat.reduceSub, Nat.reduceBEq, Int.reduceLT, Int.reduceLE, Int.reduceEq, Int.reduceBEq, Int.reduceNeg]) | omega)
  all_goals (unfold cmpI; (try split) <;> (try split) <;> omega)
theorem cmpS_ok (a b : Bs) : Meets Tryd.prog 76 [(false, [vS a]), (false, [vS b])] (rOne (vI (cmpB a b))) := by
  have h : Meets Tryd.prog 91 [(false, [vS a]), (false, [vS b])] (rOne (vI (cmpB a b))) := by
    refine meets Tryd.func91 rfl rfl Tryd.ntmps91 Tryd.results91 rfl ?_
    simp -dsimp -implicitDefEqProofs only [compare_eq, go_sem, ↓reduceIte, reduceCtorEq, Nat.reduceLT, Nat.reduceLeDiff, Nat.reduceEqDiff, Nat.reduceAdd, Nat.reduceMul, Nat.reduceSub, Nat.reduceBEq, Int.reduceLT, Int.reduceLE, Int.reduceEq, Int.reduceBEq, Int.reduceNeg]
  refine meets Tryd.func76 rfl rfl Tryd.ntmps76 Tryd.results76 rfl ?_
  simp -dsimp -implicitDefEqProofs only [go_sem, ↓reduceIte, reduceCtorEq, Nat.reduceLT, Nat.reduceLeDiff, Nat.reduceEqDiff, Nat.reduceAdd, Nat.reduceMul, Nat.reduceSub, Nat.reduceBEq, Int.reduceLT, Int.reduceLE, Int.reduceEq, Int.reduceBEq, Int.reduceNeg]
  refine callP h ?_
  simp -dsimp -implicitDefEqProofs only [go_sem, ↓reduceIte, reduceCtorEq, Nat.reduceLT, Nat.reduceLeDiff, Nat.reduceEqDiff, Nat.reduceAdd, Nat.reduceMul, Nat.reduceSub, Nat.reduceBEq, Int.reduceLT, Int.reduceLE, Int.reduceEq, Int.reduceBEq, Int.reduceNeg]
def or3 (x y z : Int) : Int := if x = 0 then (if y = 0 then z else y) else x
theorem or3_ok (x y z : Int) : Meets Tryd.prog 75 [(false, [vD (.vec 1 [[dI x], [dI y], [dI z]])])] (rOne (vI (or3 x y z))) := by
  have w1 : IntKind.i64.wrap ((0 : Int) + 1) = 1 := by decide
  have w2 : IntKind.i64.wrap ((1 : Int) + 1) = 2 := by decide
  have w3 : IntKind.i64.wrap ((2 : Int) + 1) = 3 := by decide
  have t1 : Int.toNat 1 = 1 := rfl
  have t2 : Int.toNat 2 = 2 := rfl
  refine meets Tryd.func75 rfl rfl Tryd.ntmps75 Tryd.results75 rfl ?_
  simp -dsimp -implicitDefEqProofs only [go_sem, ↓reduceIte, reduceCtorEq, Nat.reduceLT, Nat.reduceLeDiff, Nat.reduceEqDiff, Nat.reduceAdd, Nat.reduceMul, Nat.reduceSub, Nat.reduceBEq, Int.reduceLT, Int.reduceLE, Int.reduceEq, Int.reduceBEq, Int.reduceNeg]
  refine vrounds 4 sitOk ?_
  simp -dsimp -implicitDefEqProofs only [go_sem, ↓reduceIte, reduceCtorEq, Nat.reduceLT, Nat.reduceLeDiff, Nat.reduceEqDiff, Nat.reduceAdd, Nat.reduceMul, Nat.reduceSub, Nat.reduceBEq, Int.reduceLT, Int.reduceLE, Int.reduceEq, Int.reduceBEq, Int.reduceNeg]
  refine vround ?_
  simp -dsimp -implicitDefEqProofs only [w1, go_sem, ↓reduceIte, reduceCtorEq, Nat.reduceLT, Nat.reduceLeDiff, Nat.reduceEqDiff, Nat.reduceAdd, Nat.reduceMul, Nat.reduceSub, Nat.reduceBEq, Int.reduceLT, Int.reduceLE, Int.reduceEq, Int.reduceBEq, Int.reduceNeg]
  refine ⟨fun h => by simp [or3, h], fun h => vround ?_⟩
  simp -dsimp -implicitDefEqProofs only [w2, t1, go_sem, ↓reduceIte, reduceCtorEq, Nat.reduceLT, Nat.reduceLeDiff, Nat.reduceEqDiff, Nat.reduceAdd, Nat.reduceMul, Nat.reduceSub, Nat.reduceBEq, Int.reduceLT, Int.reduceLE, Int.reduceEq, Int.reduceBEq, Int.reduceNeg]
  refine ⟨fun h2 => by simp [or3, h, h2], fun h2 => vround ?_⟩
  simp -dsimp -implicitDefEqProofs only [w3, t2, go_sem, ↓reduceIte, reduceCtorEq, Nat.reduceLT, Nat.reduceLeDiff, Nat.reduceEqDiff, Nat.reduceAdd, Nat.reduceMul, Nat.reduceSub, Nat.reduceBEq, Int.reduceLT, Int.reduceLE, Int.reduceEq, Int.reduceBEq, Int.reduceNeg]
  refine ⟨fun h3 => by simp [or3, h, h2], fun h3 => vround ?_⟩
  simp -dsimp -implicitDefEqProofs only [go_sem, ↓reduceIte, reduceCtorEq, Nat.reduceLT, Nat.reduceLeDiff, Nat.reduceEqDiff, Nat.reduceAdd, Nat.reduceMul, Nat.reduceSub, Nat.reduceBEq, Int.reduceLT, Int.reduceLE, Int.reduceEq, Int.reduceBEq, Int.reduceNeg]
  simp [or3, h, h2, h3]
def ordR (a b : Rec) : Int := or3 (cmpB a.N b.N) (cmpI a.K b.K) (cmpB a.V b.V)
theorem order_ok (a b : Rec) : Meets Tryd.prog 55 [a.arg, b.arg] (rOne (vI (ordR a b))) := by
  refine meets Tryd.func55 rfl rfl Tryd.ntmps55 Tryd.results55 rfl ?_
  simp -dsimp -implicitDefEqProofs only [go_sem, ↓reduceIte, reduceCtorEq, Nat.reduceLT, Nat.reduceLeDiff, Nat.reduceEqDiff, Nat.reduceAdd, Nat.reduceMul, Nat.reduceSub, Nat.reduceBEq, Int.reduceLT, Int.reduceLE, Int.reduceEq, Int.reduceBEq, Int.reduceNeg]
  repeat' (first | with_reducible apply And.intro | with_reducible intro _ | with_reducible exact drawn (by kernel_rfl) | (refine callP (cmpS_ok _ _) ?_; simp -dsimp -implicitDefEqProofs only [go_sem, ↓reduceIte, reduceCtorEq, Nat.reduceLT, Nat.reduceLeDiff, Nat.reduceEqDiff, Nat.reduceAdd, Nat.reduceMul, Nat.reduceSub, Nat.reduceBEq, Int.reduceLT, Int.reduceLE, Int.reduceEq, Int.reduceBEq, Int.reduceNeg]) | (refine callP (cmpI_ok _ _) ?_; simp -dsimp -implicitDefEqProofs only [go_sem, ↓reduceIte, reduceCtorEq, Nat.reduceLT, Nat.reduceLeDiff, Nat.reduceEqDiff, Nat.reduceAdd, Nat.reduceMul, Nat.reduceSub, Nat.reduceBEq, Int.reduceLT, Int.reduceLE, Int.reduceEq, Int.reduceBEq, Int.reduceNeg]) | (refine callP (or3_ok _ _ _) ?_; simp -dsimp -implicitDefEqProofs only [go_sem, ↓reduceIte, reduceCtorEq, Nat.reduceLT, Nat.reduceLeDiff, Nat.reduceEqDiff, Nat.reduceAdd, Nat.reduceMul, Nat.reduceSub, Nat.reduceBEq, Int.reduceLT, Int.reduceLE, Int.reduceEq, Int.reduceBEq, Int.reduceNeg]) | omega)
  rfl

/-! ### plain -/
def plainC (c : UInt8) : Bool := decide (33 ≤ c.toNat) && decide (c.toNat ≤ 126)
def plainB (l : Bs) : Bool := decide (0 < l.length) && decide (l.length ≤ 64) && l.all plainC
theorem odd_ok (n : Int) : Meets Tryd.prog 88 [(false, [vR n])] (rOne (vB (decide (n < 33) || decide (126 < n)))) := by
  refine meets Tryd.func88 rfl rfl Tryd.ntmps88 Tryd.results88 rfl ?_
  simp -dsimp -implicitDefEqProofs only [go_sem, ↓reduceIte, reduceCtorEq, Nat.reduceLT, Nat.reduceLeDiff, Nat.reduceEqDiff, Nat.reduceAdd, Nat.reduceMul, Nat.reduceSub, Nat.reduceBEq, Int.reduceLT, Int.reduceLE, Int.reduceEq, Int.reduceBEq, Int.reduceNeg]
  repeat' (first | with_reducible apply And.intro | with_reducible intro _ | with_reducible exact drawn (by kernel_rfl) | omega)
  all_goals simp [*]
  all_goals omega
theorem all_get {α : Type} {l : List α} {f : α → Bool} (h : ∀ j c, j < l.length → l[j]? = some c → f c = true) : l.all f = true := by
  rw [List.all_eq_true]
  intro x hx
  obtain ⟨i, hi⟩ := List.mem_iff_getElem?.1 hx
  exact h i x (List.getElem?_eq_some_iff.1 hi).1 hi
theorem all_bad {α : Type} {l : List α} {f : α → Bool} {i : Nat} {x : α} (hi : l[i]? = some x) (h : f x = false) : l.all f = false := by
  rw [Bool.eq_false_iff]
  intro hh
  rw [List.all_eq_true] at hh
  rw [hh x (List.mem_of_getElem? hi)] at h; cases h
def oddAt (l : Bs) : Int := match l.findIdx? fun c => !plainC c with
  | some i => (i : Nat)
  | none => -1
theorem oddAt_all (l : Bs) : decide (0 ≤ oddAt l) = !l.all plainC := by
  unfold oddAt
  cases h : l.findIdx? fun c => !plainC c with
  | none =>
    rw [List.findIdx?_eq_none_iff] at h
    have : l.all plainC = true := List.all_eq_true.2 fun x hx => by simpa using h x hx
    rw [this]; rfl
  | some i =>
    obtain ⟨hi, h1, _⟩ := List.findIdx?_eq_some_iff_getElem.1 h
    rw [all_bad (List.getElem?_eq_getElem hi) (by simpa using h1)]
    simp
structure IfInv (l : Bs) where
  p : Nat
  le : p ≤ l.length
  ok : ∀ j c, j < p → l[j]? = some c → plainC c = true
theorem indexOdd_ok (l : Bs) : Meets Tryd.prog 107 [(false, [vS l]), (false, [vD (.fn 88 [])]), (false, [vB true])] (rOne (vI (oddAt l))) := by
  refine meets Tryd.func107 rfl rfl Tryd.ntmps107 Tryd.results107 rfl ?_
  simp -dsimp -implicitDefEqProofs only [go_sem, ↓reduceIte, reduceCtorEq, Nat.reduceLT, Nat.reduceLeDiff, Nat.reduceEqDiff, Nat.reduceAdd, Nat.reduceMul, Nat.reduceSub, Nat.reduceBEq, Int.reduceLT, Int.reduceLE, Int.reduceEq, Int.reduceBEq, Int.reduceNeg]
  refine vfor sitOk (ι := IfInv l) (fun v => ⟨21, [(10, aP 16 0), (1, aD (.fn 88 [])), (2, aB true)], [(16, some (.it (bytes l) v.p))], 24⟩) (fun v => l.length - v.p) ⟨0, by omega, fun j c hj => by omega⟩ ?_ ?_
  · simp -dsimp -implicitDefEqProofs only [go_sem, ↓reduceIte, reduceCtorEq, Nat.reduceLT, Nat.reduceLeDiff, Nat.reduceEqDiff, Nat.reduceAdd, Nat.reduceMul, Nat.reduceSub, Nat.reduceBEq, Int.reduceLT, Int.reduceLE, Int.reduceEq, Int.reduceBEq, Int.reduceNeg]
  intro ⟨p, hp, hok⟩
  simp -dsimp -implicitDefEqProofs only [go_sem, ↓reduceIte, reduceCtorEq, Nat.reduceLT, Nat.reduceLeDiff, Nat.reduceEqDiff, Nat.reduceAdd, Nat.reduceMul, Nat.reduceSub, Nat.reduceBEq, Int.reduceLT, Int.reduceLE, Int.reduceEq, Int.reduceBEq, Int.reduceNeg]
  refine ⟨fun hlt => ?_, fun hge => ?_⟩
  · obtain ⟨c, hx⟩ : ∃ c, l[p]? = some c := ⟨_, List.getElem?_eq_getElem hlt⟩
    cases hc : plainC c with
    | true =>
      have hc' := hc
      simp [plainC] at hc'
      have hd := dec_lo hx (by omega)
      have ho : (decide ((c.toNat : Int) < 33) || decide (126 < (c.toNat : Int))) = false := by simp; omega
      simp -dsimp -implicitDefEqProofs only [hd, go_sem, ↓reduceIte, reduceCtorEq, Nat.reduceLT, Nat.reduceLeDiff, Nat.reduceEqDiff, Nat.reduceAdd, Nat.reduceMul, Nat.reduceSub, Nat.reduceBEq, Int.reduceLT, Int.reduceLE, Int.reduceEq, Int.reduceBEq, Int.reduceNeg]
      refine callP (odd_ok _) ?_
      simp -dsimp -implicitDefEqProofs only [ho, go_sem, ↓reduceIte, reduceCtorEq, Nat.reduceLT, Nat.reduceLeDiff, Nat.reduceEqDiff, Nat.reduceAdd, Nat.reduceMul, Nat.reduceSub, Nat.reduceBEq, Int.reduceLT, Int.reduceLE, Int.reduceEq, Int.reduceBEq, Int.reduceNeg]
      refine again ⟨p + 1, by omega, fun j x hj hjx => ?_⟩ (by simp; omega) ?_
      · by_cases hjp : j = p
        · subst hjp; rw [hx] at hjx; cases hjx; exact hc
        · exact hok j x (by omega) hjx
      · simp -dsimp -implicitDefEqProofs only [hd, go_sem, ↓reduceIte, reduceCtorEq, Nat.reduceLT, Nat.reduceLeDiff, Nat.reduceEqDiff, Nat.reduceAdd, Nat.reduceMul, Nat.reduceSub, Nat.reduceBEq, Int.reduceLT, Int.reduceLE, Int.reduceEq, Int.reduceBEq, Int.reduceNeg]
    | false =>
      have hf : oddAt l = (p : Nat) := by
        have : (l.findIdx? fun c => !plainC c) = some p := by
          rw [List.findIdx?_eq_some_iff_getElem]
          refine ⟨hlt, ?_, fun j hj => ?_⟩
          · have := Option.some.inj ((List.getElem?_eq_getElem hlt).symm.trans hx)
            rw [this, hc]; rfl
          · have hjl : j < l.length := by omega
            have := hok j l[j] hj (List.getElem?_eq_getElem hjl)
            simp [this]
        unfold oddAt; rw [this]
      rw [hf]
      have hn : ∃ n w, Utf8.decode (bytes l) p = (n, w) ∧ (decide ((n : Int) < 33) || decide (126 < (n : Int))) = true := by
        by_cases h128 : c.toNat < 128
        · refine ⟨_, _, dec_lo hx h128, ?_⟩
          simp [plainC] at hc
          simp; omega
        · have := dec_hi hx (by omega)
          generalize Utf8.decode (bytes l) p = q at this
          obtain ⟨n, w⟩ := q
          refine ⟨n, w, rfl, ?_⟩
          simp at this ⊢; omega
      obtain ⟨n, w, he, ho⟩ := hn
      simp -dsimp -implicitDefEqProofs only [he, go_sem, ↓reduceIte, reduceCtorEq, Nat.reduceLT, Nat.reduceLeDiff, Nat.reduceEqDiff, Nat.reduceAdd, Nat.reduceMul, Nat.reduceSub, Nat.reduceBEq, Int.reduceLT, Int.reduceLE, Int.reduceEq, Int.reduceBEq, Int.reduceNeg]
      refine callP (odd_ok _) ?_
      simp -dsimp -implicitDefEqProofs only [ho, go_sem, ↓reduceIte, reduceCtorEq, Nat.reduceLT, Nat.reduceLeDiff, Nat.reduceEqDiff, Nat.reduceAdd, Nat.reduceMul, Nat.reduceSub, Nat.reduceBEq, Int.reduceLT, Int.reduceLE, Int.reduceEq, Int.reduceBEq, Int.reduceNeg]
  · have : l.all plainC = true := all_get fun j c hj hc => hok j c (by omega) hc
    have h2 := oddAt_all l
    rw [this] at h2
    have h3 : ¬ 0 ≤ oddAt l := by simpa using h2
    unfold oddAt at h3 ⊢
    split
    · rename_i e; rw [e] at h3; simp at h3
    · rfl
theorem containsOdd_ok (l : Bs) : Meets Tryd.prog 89 [(false, [vS l]), (false, [vD (.fn 88 [])])] (rOne (vB (!l.all plainC))) := by
  have h : Meets Tryd.prog 101 [(false, [vS l]), (false, [vD (.fn 88 [])])] (rOne (vI (oddAt l))) := by
    refine meets Tryd.func101 rfl rfl Tryd.ntmps101 Tryd.results101 rfl ?_
    simp -dsimp -implicitDefEqProofs only [go_sem, ↓reduceIte, reduceCtorEq, Nat.reduceLT, Nat.reduceLeDiff, Nat.reduceEqDiff, Nat.reduceAdd, Nat.reduceMul, Nat.reduceSub, Nat.reduceBEq, Int.reduceLT, Int.reduceLE, Int.reduceEq, Int.reduceBEq, Int.reduceNeg]
    refine callP (indexOdd_ok l) ?_
    simp -dsimp -implicitDefEqProofs only [go_sem, ↓reduceIte, reduceCtorEq, Nat.reduceLT, Nat.reduceLeDiff, Nat.reduceEqDiff, Nat.reduceAdd, Nat.reduceMul, Nat.reduceSub, Nat.reduceBEq, Int.reduceLT, Int.reduceLE, Int.reduceEq, Int.reduceBEq, Int.reduceNeg]
  refine meets Tryd.func89 rfl rfl Tryd.ntmps89 Tryd.results89 rfl ?_
  simp -dsimp -implicitDefEqProofs only [go_sem, ↓reduceIte, reduceCtorEq, Nat.reduceLT, Nat.reduceLeDiff, Nat.reduceEqDiff, Nat.reduceAdd, Nat.reduceMul, Nat.reduceSub, Nat.reduceBEq, Int.reduceLT, Int.reduceLE, Int.reduceEq, Int.reduceBEq, Int.reduceNeg]
  refine callP h ?_
  simp -dsimp -implicitDefEqProofs only [go_sem, ↓reduceIte, reduceCtorEq, Nat.reduceLT, Nat.reduceLeDiff, Nat.reduceEqDiff, Nat.reduceAdd, Nat.reduceMul, Nat.reduceSub, Nat.reduceBEq, Int.reduceLT, Int.reduceLE, Int.reduceEq, Int.reduceBEq, Int.reduceNeg]
  exact oddAt_all l
theorem plain_ok (l : Bs) : Meets Tryd.prog 73 [(false, [vS l])] (rOne (vB (plainB l))) := by
  refine meets Tryd.func73 rfl rfl Tryd.ntmps73 Tryd.results73 rfl ?_
  simp -dsimp -implicitDefEqProofs only [go_sem, ↓reduceIte, reduceCtorEq, Nat.reduceLT, Nat.reduceLeDiff, Nat.reduceEqDiff, Nat.reduceAdd, Nat.reduceMul, Nat.reduceSub, Nat.reduceBEq, Int.reduceLT, Int.reduceLE, Int.reduceEq, Int.reduceBEq, Int.reduceNeg]
  repeat' (first | with_reducible apply And.intro | with_reducible intro _ | with_reducible exact drawn (by kernel_rfl) | (refine callP (containsOdd_ok _) ?_; simp -dsimp -implicitDefEqProofs only [go_sem, ↓reduceIte, reduceCtorEq, Nat.reduceLT, Nat.reduceLeDiff, Nat.reduceEqDiff, Nat.reduceAdd, Nat.reduceMul, Nat.reduceSub, Nat.reduceBEq, Int.reduceLT, Int.reduceLE, Int.reduceEq, Int.reduceBEq, Int.reduceNeg]) | omega)
  all_goals unfold plainB
  · rename_i h1 h2
    rw [Bool.not_not, show decide (l.length ≤ 64) = true by simp; omega, show decide (0 < l.length) = true by simp; omega]; simp
  · rw [show decide (l.length ≤ 64) = false by simp; omega]; simp
  · rw [show decide (0 < l.length) = false from decide_eq_false (by omega)]; simp

/-! ### Records of form -/
theorem named_ok (l : Bs) : Meets Tryd.prog 35 [(false, [vS l])] (rOne (vB (isName l))) := by
  refine meets Tryd.func35 rfl rfl Tryd.ntmps35 Tryd.results35 rfl ?_
  simp -dsimp -implicitDefEqProofs only [go_sem, ↓reduceIte, reduceCtorEq, Nat.reduceLT, Nat.reduceLeDiff, Nat.reduceEqDiff, Nat.reduceAdd, Nat.reduceMul, Nat.reduceSub, Nat.reduceBEq, Int.reduceLT, Int.reduceLE, Int.reduceEq, Int.reduceBEq, Int.reduceNeg]
  refine callP (check_ok l) ?_
  simp -dsimp -implicitDefEqProofs only [go_sem, ↓reduceIte, reduceCtorEq, Nat.reduceLT, Nat.reduceLeDiff, Nat.reduceEqDiff, Nat.reduceAdd, Nat.reduceMul, Nat.reduceSub, Nat.reduceBEq, Int.reduceLT, Int.reduceLE, Int.reduceEq, Int.reduceBEq, Int.reduceNeg]
  cases isName l <;> rfl
def digitB (l : Bs) : Bool := match l with
  | [c] => decide (48 ≤ c.toNat) && decide (c.toNat ≤ 55)
  | _ => false
def fitsB (k : Int) (v : Bs) : Bool := if k = 1 ∨ k = 2 ∨ k = 5 then plainB v else if k = 3 then digitB v else if k = 4 then isName v else false
def formB (r : Rec) : Bool := fitsB r.K r.V && isName r.N && decide (1 ≤ r.L) && decide (r.L ≤ 1000)
theorem digits_in (c : UInt8) : decide (0 ≤ Lib.indexByte [48, 49, 50, 51, 52, 53, 54, 55] c) = (decide (48 ≤ c.toNat) && decide (c.toNat ≤ 55)) := by
  have h : ∀ n : Fin 256, decide (0 ≤ Lib.indexByte [48, 49, 50, 51, 52, 53, 54, 55] (UInt8.ofNat n.1)) = (decide (48 ≤ n.1) && decide (n.1 ≤ 55)) := by decide +kernel
  have := h ⟨c.toNat, c.toNat_lt⟩
  simpa using this
theorem digit_ok (c : UInt8) : Meets Tryd.prog 74 [(false, [vS [48, 49, 50, 51, 52, 53, 54, 55]]), (false, [vS [c]])] (rOne (vB (digitB [c]))) := by
  refine meets Tryd.func74 rfl rfl Tryd.ntmps74 Tryd.results74 rfl ?_
  simp -dsimp -implicitDefEqProofs only [go_sem, ↓reduceIte, reduceCtorEq, Nat.reduceLT, Nat.reduceLeDiff, Nat.reduceEqDiff, Nat.reduceAdd, Nat.reduceMul, Nat.reduceSub, Nat.reduceBEq, Int.reduceLT, Int.reduceLE, Int.reduceEq, Int.reduceBEq, Int.reduceNeg]
  refine callP (index_ok _ c) ?_
  simp -dsimp -implicitDefEqProofs only [go_sem, ↓reduceIte, reduceCtorEq, Nat.reduceLT, Nat.reduceLeDiff, Nat.reduceEqDiff, Nat.reduceAdd, Nat.reduceMul, Nat.reduceSub, Nat.reduceBEq, Int.reduceLT, Int.reduceLE, Int.reduceEq, Int.reduceBEq, Int.reduceNeg]
  exact digits_in c
theorem digitV_ok (v : Bs) (h : v.length = 1) : Meets Tryd.prog 74 [(false, [vS [48, 49, 50, 51, 52, 53, 54, 55]]), (false, [vS v])] (rOne (vB (digitB v))) := by
  match v, h with
  | [c], _ => exact digit_ok c
theorem digitB_len {v : Bs} (h : ¬ (v.length : Int) = 1) : digitB v = false := by
  unfold digitB; split
  · simp at h
  · rfl
theorem formed_ok (r : Rec) : Meets Tryd.prog 52 [r.arg] (rOne (vB (formB r))) := by
  refine meets Tryd.func52 rfl rfl Tryd.ntmps52 Tryd.results52 rfl ?_
  simp -dsimp -implicitDefEqProofs only [go_sem, ↓reduceIte, reduceCtorEq, Nat.reduceLT, Nat.reduceLeDiff, Nat.reduceEqDiff, Nat.reduceAdd, Nat.reduceMul, Nat.reduceSub, Nat.reduceBEq, Int.reduceLT, Int.reduceLE, Int.reduceEq, Int.reduceBEq, Int.reduceNeg]
  repeat' (first | with_reducible apply And.intro | with_reducible intro _ | with_reducible exact drawn (by kernel_rfl) | (refine callP (plain_ok _) ?_; simp -dsimp -implicitDefEqProofs only [go_sem, ↓reduceIte, reduceCtorEq, Nat.reduceLT, Nat.reduceLeDiff, Nat.reduceEqDiff, Nat.reduceAdd, Nat.reduceMul, Nat.reduceSub, Nat.reduceBEq, Int.reduceLT, Int.reduceLE, Int.reduceEq, Int.reduceBEq, Int.reduceNeg]) | (refine callP (named_ok _) ?_; simp -dsimp -implicitDefEqProofs only [go_sem, ↓reduceIte, reduceCtorEq, Nat.reduceLT, Nat.reduceLeDiff, Nat.reduceEqDiff, Nat.reduceAdd, Nat.reduceMul, Nat.reduceSub, Nat.reduceBEq, Int.reduceLT, Int.reduceLE, Int.reduceEq, Int.reduceBEq, Int.reduceNeg]) | (refine callP (digitV_ok _ (by omega)) ?_; simp -dsimp -implicitDefEqProofs only [go_sem, ↓reduceIte, reduceCtorEq, Nat.reduceLT, Nat.reduceLeDiff, Nat.reduceEqDiff, Nat.reduceAdd, Nat.reduceMul, Nat.reduceSub, Nat.reduceBEq, Int.reduceLT, Int.reduceLE, Int.reduceEq, Int.reduceBEq, Int.reduceNeg]) | omega)
  all_goals first
    | (simp [formB, fitsB, *]; done)
    | (have hdl := digitB_len (by assumption); simp [formB, fitsB, *]; done)
    | (simp [formB, fitsB, *]; omega)
    | trace_state
end Go.Proofs.YtfgejhlgenaniaaDoor
