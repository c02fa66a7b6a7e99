/- Nets as data; their orders. -/
import Derived.Test.YtbgcpopmippbiaaGreatDoorZD
open Nat renaming reduceLT → rn1, reduceLeDiff → rn2, reduceEqDiff → rn3, reduceAdd → rn4, reduceMul → rn5, reduceSub → rn6, reduceBEq → rn7
open Int renaming reduceLT → ri1, reduceLE → ri2, reduceEq → ri3, reduceBEq → ri4, reduceNeg → ri5
namespace Go.Proofs.YtbgcpopmippbiaaGreatDoor
open Go.Eng
set_option linter.unusedSimpArgs false
set_option maxRecDepth 10000

/-- A server: Addr, Zones. -/
structure Sv where
  A : Int
  Z : List Zn
  deriving DecidableEq
def Sv.cells (s : Sv) : List D := [dI s.A, zonesD s.Z]
/-- A bend: Seen, From, To. -/
structure Bn where
  S : Int
  F : Int
  T : Int
  deriving DecidableEq
def Bn.cells (b : Bn) : List D := [dI b.S, dI b.F, dI b.T]
/-- A clock: Who, By. -/
structure Ck where
  W : Bs
  B : Int
  deriving DecidableEq
def Ck.cells (c : Ck) : List D := [dT c.W, dI c.B]
attribute [go_sem] Sv.cells Bn.cells Ck.cells
abbrev svsD (l : List Sv) : D := .vec 2 (l.map Sv.cells)
abbrev bnsD (l : List Bn) : D := .vec 3 (l.map Bn.cells)
abbrev cksD (l : List Ck) : D := .vec 2 (l.map Ck.cells)
/-- A net: Servers, Seen, Bends, Clocks. -/
structure Nt where
  V : List Sv
  N : Int
  B : List Bn
  C : List Ck
  deriving DecidableEq
def Nt.cells (n : Nt) : List D := [svsD n.V, dI n.N, bnsD n.B, cksD n.C]
attribute [go_sem] Nt.cells
abbrev Zn.arg (z : Zn) : Bool × List CV := (true, [vS z.A, vD (recsD z.R)])
abbrev Sv.arg (s : Sv) : Bool × List CV := (true, [vI s.A, vD (zonesD s.Z)])
abbrev Bn.arg (b : Bn) : Bool × List CV := (true, [vI b.S, vI b.F, vI b.T])
abbrev Ck.arg (c : Ck) : Bool × List CV := (true, [vS c.W, vI c.B])
abbrev Nt.arg (n : Nt) : Bool × List CV := (true, [vD (svsD n.V), vI n.N, vD (bnsD n.B), vD (cksD n.C)])

/-! ### Orders -/
def or2 (x y : Int) : Int := if x = 0 then y else x
theorem or2_ok (x y : Int) : Meets Tryz.prog 84 [(false, [vD (.vec 1 [[dI x], [dI y]])])] (rOne (vI (or2 x y))) := by
  have w1 : IntKind.i64.wrap ((0 : Int) + 1) = 1 := by decide
  have w2 : IntKind.i64.wrap ((1 : Int) + 1) = 2 := by decide
  have t1 : Int.toNat 1 = 1 := rfl
  refine meets Tryz.func84 rfl rfl Tryz.ntmps84 Tryz.results84 rfl ?_
  simp -dsimp -implicitDefEqProofs only [go_sem, ↓reduceIte, reduceCtorEq, rn1, rn2, rn3, rn4, rn5, rn6, rn7, ri1, ri2, ri3, ri4, ri5]
  refine vrounds 3 sitOk ?_
  simp -dsimp -implicitDefEqProofs only [go_sem, ↓reduceIte, reduceCtorEq, rn1, rn2, rn3, rn4, rn5, rn6, rn7, ri1, ri2, ri3, ri4, ri5]
  refine vround ?_
  simp -dsimp -implicitDefEqProofs only [w1, go_sem, ↓reduceIte, reduceCtorEq, rn1, rn2, rn3, rn4, rn5, rn6, rn7, ri1, ri2, ri3, ri4, ri5]
  refine ⟨fun h => by simp [or2, h], fun h => vround ?_⟩
  simp -dsimp -implicitDefEqProofs only [w2, t1, go_sem, ↓reduceIte, reduceCtorEq, rn1, rn2, rn3, rn4, rn5, rn6, rn7, ri1, ri2, ri3, ri4, ri5]
  refine ⟨fun h2 => by simp [or2, h], fun h2 => vround ?_⟩
  simp -dsimp -implicitDefEqProofs only [go_sem, ↓reduceIte, reduceCtorEq, rn1, rn2, rn3, rn4, rn5, rn6, rn7, ri1, ri2, ri3, ri4, ri5]
  simp [or2, h, h2]
theorem byAddr_ok (s t : Sv) : Meets Tryz.prog 79 [s.arg, t.arg] (rOne (vI (cmpI s.A t.A))) := by
  refine meets Tryz.func79 rfl rfl Tryz.ntmps79 Tryz.results79 rfl ?_
  simp -dsimp -implicitDefEqProofs only [go_sem, ↓reduceIte, reduceCtorEq, rn1, rn2, rn3, rn4, rn5, rn6, rn7, ri1, ri2, ri3, ri4, ri5]
  repeat' (first | with_reducible apply And.intro | with_reducible intro _ | with_reducible exact drawn (by kernel_rfl) | (refine callP (cmpI_ok _ _) ?_; simp -dsimp -implicitDefEqProofs only [go_sem, ↓reduceIte, reduceCtorEq, rn1, rn2, rn3, rn4, rn5, rn6, rn7, ri1, ri2, ri3, ri4, ri5]) | omega)
theorem byApex_ok (s t : Zn) : Meets Tryz.prog 77 [s.arg, t.arg] (rOne (vI (cmpB s.A t.A))) := by
  refine meets Tryz.func77 rfl rfl Tryz.ntmps77 Tryz.results77 rfl ?_
  simp -dsimp -implicitDefEqProofs only [go_sem, ↓reduceIte, reduceCtorEq, rn1, rn2, rn3, rn4, rn5, rn6, rn7, ri1, ri2, ri3, ri4, ri5]
  repeat' (first | with_reducible apply And.intro | with_reducible intro _ | with_reducible exact drawn (by kernel_rfl) | (refine callP (cmpS_ok _ _) ?_; simp -dsimp -implicitDefEqProofs only [go_sem, ↓reduceIte, reduceCtorEq, rn1, rn2, rn3, rn4, rn5, rn6, rn7, ri1, ri2, ri3, ri4, ri5]) | omega)
theorem byWho_ok (s t : Ck) : Meets Tryz.prog 103 [s.arg, t.arg] (rOne (vI (cmpB s.W t.W))) := by
  refine meets Tryz.func103 rfl rfl Tryz.ntmps103 Tryz.results103 rfl ?_
  simp -dsimp -implicitDefEqProofs only [go_sem, ↓reduceIte, reduceCtorEq, rn1, rn2, rn3, rn4, rn5, rn6, rn7, ri1, ri2, ri3, ri4, ri5]
  repeat' (first | with_reducible apply And.intro | with_reducible intro _ | with_reducible exact drawn (by kernel_rfl) | (refine callP (cmpS_ok _ _) ?_; simp -dsimp -implicitDefEqProofs only [go_sem, ↓reduceIte, reduceCtorEq, rn1, rn2, rn3, rn4, rn5, rn6, rn7, ri1, ri2, ri3, ri4, ri5]) | omega)
theorem byPlace_ok (s t : Bn) : Meets Tryz.prog 81 [s.arg, t.arg] (rOne (vI (or2 (cmpI s.S t.S) (cmpI s.F t.F)))) := by
  refine meets Tryz.func81 rfl rfl Tryz.ntmps81 Tryz.results81 rfl ?_
  simp -dsimp -implicitDefEqProofs only [go_sem, ↓reduceIte, reduceCtorEq, rn1, rn2, rn3, rn4, rn5, rn6, rn7, ri1, ri2, ri3, ri4, ri5]
  repeat' (first | with_reducible apply And.intro | with_reducible intro _ | with_reducible exact drawn (by kernel_rfl) | (refine callP (cmpI_ok _ _) ?_; simp -dsimp -implicitDefEqProofs only [go_sem, ↓reduceIte, reduceCtorEq, rn1, rn2, rn3, rn4, rn5, rn6, rn7, ri1, ri2, ri3, ri4, ri5]) | (refine callP (or2_ok _ _) ?_; simp -dsimp -implicitDefEqProofs only [go_sem, ↓reduceIte, reduceCtorEq, rn1, rn2, rn3, rn4, rn5, rn6, rn7, ri1, ri2, ri3, ri4, ri5]) | omega)

def koS : KO Bs := ⟨cmpB, cmpB_eq, by
  intro a b
  have h1 := cmpB_lt (l := a) (m := b)
  have h2 := cmpB_lt (l := b) (m := a)
  rw [h1]
  constructor
  · intro h
    rcases Int.lt_trichotomy (cmpB b a) 0 with h4 | h4 | h4
    · exact absurd (h2.1 h4) (lt_as h)
    · have e := cmpB_eq.1 h4
      subst e
      exact absurd h (lt_irr _)
    · exact h4
  · intro h
    rcases lt_tri a b with h4 | h4 | h4
    · exact h4
    · subst h4; rw [cmpB_eq.2 rfl] at h; omega
    · have := cmpB_lt.2 h4; omega, by
  intro a b c h h'
  rw [cmpB_lt] at *
  exact lt_tr h h'⟩
theorem or2_lt {a b : Int × Int} : or2 (cmpI a.1 b.1) (cmpI a.2 b.2) < 0 ↔ a.1 < b.1 ∨ (a.1 = b.1 ∧ a.2 < b.2) := by
  unfold or2
  by_cases h : a.1 = b.1
  · rw [if_pos (cmpI_eq.2 h), cmpI_lt]; omega
  · rw [if_neg (fun e => h (cmpI_eq.1 e)), cmpI_lt]; omega
theorem or2_gt {a b : Int × Int} : 0 < or2 (cmpI a.1 b.1) (cmpI a.2 b.2) ↔ b.1 < a.1 ∨ (a.1 = b.1 ∧ b.2 < a.2) := by
  unfold or2
  have hg : ∀ x y : Int, 0 < cmpI x y ↔ y < x := fun x y => (koI.flip (a := y) (b := x)).symm.trans cmpI_lt
  by_cases h : a.1 = b.1
  · rw [if_pos (cmpI_eq.2 h), hg]; omega
  · rw [if_neg (fun e => h (cmpI_eq.1 e)), hg]; omega
def koP : KO (Int × Int) := ⟨fun a b => or2 (cmpI a.1 b.1) (cmpI a.2 b.2), by
  intro a b
  unfold or2
  by_cases h : a.1 = b.1
  · rw [if_pos (cmpI_eq.2 h), cmpI_eq]
    exact ⟨fun h' => Prod.ext h h', fun h' => by rw [h']⟩
  · rw [if_neg (fun e => h (cmpI_eq.1 e)), cmpI_eq]
    exact ⟨fun h' => absurd h' h, fun h' => by rw [h']⟩, by
  intro a b
  rw [or2_lt, or2_gt]; omega, by
  intro a b c
  rw [or2_lt, or2_lt, or2_lt]; omega⟩
abbrev kS (s : Sv) : Int := s.A
abbrev kZ (z : Zn) : Bs := z.A
abbrev kB (b : Bn) : Int × Int := (b.S, b.F)
abbrev kC (c : Ck) : Bs := c.W
end Go.Proofs.YtbgcpopmippbiaaGreatDoor
