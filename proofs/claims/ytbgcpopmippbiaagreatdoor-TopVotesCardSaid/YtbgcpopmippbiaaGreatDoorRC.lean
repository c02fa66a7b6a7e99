/- route.Check. route.Server, Put, Bend, Clock. -/
import Derived.Test.YtbgcpopmippbiaaGreatDoorRB
open Nat renaming reduceLT → rn1, reduceLeDiff → rn2, reduceEqDiff → rn3, reduceAdd → rn4, reduceMul → rn5, reduceSub → rn6, reduceBEq → rn7
open Int renaming reduceLT → ri1, reduceLE → ri2, reduceEq → ri3, reduceBEq → ri4, reduceNeg → ri5
namespace Go.Proofs.YtbgcpopmippbiaaGreatDoor
open Go.Eng
set_option linter.unusedSimpArgs false
set_option maxRecDepth 10000

def zsOk (l : List Zn) : Bool := risesB (fun x y => koS.cmp (kZ x) (kZ y)) zoneB l
def svB (s : Sv) : Bool := addrB s.A && zsOk s.Z
def svsOk (n : Nt) : Bool := risesB (fun x y => koI.cmp (kS x) (kS y)) svB n.V
def bnsOk (n : Nt) : Bool := risesB (fun x y => koP.cmp (kB x) (kB y)) (bendB n) n.B
def cksOk (n : Nt) : Bool := risesB (fun x y => koS.cmp (kC x) (kC y)) clkB n.C
def bigZ (s : Sv) : Bool := decide (8 < s.Z.length)
def manyB (n : Nt) : Bool := decide (64 < n.C.length) || n.V.any bigZ
def manyAt (n : Nt) (i : Nat) : Bool := decide (64 < n.C.length) || (n.V.take i).any bigZ
def seenB (n : Nt) : Bool := decide (0 ≤ n.N) && decide (n.N ≤ 8)
def chkN (n : Nt) : Int := if (seenB n && svsOk n && bnsOk n && cksOk n) = true then (if manyB n then 2 else 0) else 1
/-- A net of a size that is looked at. -/
structure Sz (n : Nt) : Prop where
  v : n.V.length ≤ 1000
  b : n.B.length ≤ 1000
  c : n.C.length ≤ 1000
  z : ∀ s ∈ n.V, s.Z.length ≤ 1000
  r : ∀ s ∈ n.V, ∀ z ∈ s.Z, z.R.length ≤ 1000
  k : ∀ c ∈ n.C, -9223372036854775808 ≤ c.B ∧ c.B ≤ 9223372036854775807
  w : ∀ c ∈ n.C, c.W.length ≤ 9223372036854775807
structure CkInv (n : Nt) where
  i : Nat
  le : i ≤ n.V.length
  ok : ∀ j, j < i → risesAt (fun x y => koI.cmp (kS x) (kS y)) svB n.V j = true
theorem risesZs_ok (l : List Zn) (hl : l.length ≤ 1000) (hr : ∀ z ∈ l, z.R.length ≤ 1000) : Meets Tryz.prog 98 [(false, [vD (zonesD l)]), (false, [vD (.fn 77 [])]), (false, [vD (.fn 99 [])])] (rOne (vB (zsOk l))) :=
  risesZ_ok l (by omega) _ _ (fun x y => koS.cmp (kZ x) (kZ y)) zoneB byApex_ok fun z hz => chkZ_ok z (by have := hr z hz; omega)
theorem risesBs_ok (n : Nt) (hz : Sz n) : Meets Tryz.prog 100 [(false, [vD (bnsD n.B)]), (false, [vD (.fn 81 [])]), (false, [vD (.fn 101 [.pt n.cells])])] (rOne (vB (bnsOk n))) :=
  risesB_ok n.B (by have := hz.b; omega) _ _ (fun x y => koP.cmp (kB x) (kB y)) (bendB n) byPlace_ok n fun b _ => chkB_ok n b (by have := hz.v; omega)
theorem risesCs_ok (n : Nt) (hz : Sz n) : Meets Tryz.prog 102 [(false, [vD (cksD n.C)]), (false, [vD (.fn 103 [])]), (false, [vD (.fn 104 [])])] (rOne (vB (cksOk n))) :=
  risesC_ok n.C (by have := hz.c; omega) _ _ (fun x y => koS.cmp (kC x) (kC y)) clkB byWho_ok fun c hc => chkC_ok c (hz.k c hc).1 (hz.k c hc).2
theorem chk_bad {n : Nt} (h : svsOk n = false) : chkN n = 1 := by
  unfold chkN; rw [h]; simp
theorem bigZ_int (s : Sv) : bigZ s = decide (8 < (s.Z.length : Int)) := by
  unfold bigZ; rw [decide_eq_decide]; omega
theorem check_okN (n : Nt) (hz : Sz n) : Meets Tryz.prog 38 [n.arg] (rOne (vI (chkN n))) := by
  have hvl := hz.v
  have hbl := hz.b
  have hcl := hz.c
  refine meets Tryz.func38 rfl rfl Tryz.ntmps38 Tryz.results38 rfl ?_
  simp -dsimp -implicitDefEqProofs only [go_sem, ↓reduceIte, reduceCtorEq, rn1, rn2, rn3, rn4, rn5, rn6, rn7, ri1, ri2, ri3, ri4, ri5]
  refine callW rfl Tryz.func96 rfl rfl Tryz.ntmps96 Tryz.results96 rfl ?_
  simp -dsimp -implicitDefEqProofs only [retH, go_sem, ↓reduceIte, reduceCtorEq, rn1, rn2, rn3, rn4, rn5, rn6, rn7, ri1, ri2, ri3, ri4, ri5]
  refine vfreeze 0 rfl ?_
  simp -dsimp -implicitDefEqProofs only [go_sem, ↓reduceIte, reduceCtorEq, rn1, rn2, rn3, rn4, rn5, rn6, rn7, ri1, ri2, ri3, ri4, ri5]
  refine vfor sitOk (ι := CkInv n) (fun v => ⟨36, [(11, aI v.i), (10, aI n.V.length), (9, aD (svsD n.V)), (0, aD (svsD n.V)), (1, aD (.fn 79 [])), (2, .cs false [.clo 97 [.ptr 48 0]])],
    [(48, some (.var [cB (manyAt n v.i)] true)), (0, some (.var [cD (svsD n.V), cI n.N, cD (bnsD n.B), cD (cksD n.C)] false))], 200⟩) (fun v => n.V.length - v.i) ⟨0, by omega, fun j hj => by omega⟩ ?_ ?_
  · simp -dsimp -implicitDefEqProofs only [go_sem, ↓reduceIte, reduceCtorEq, rn1, rn2, rn3, rn4, rn5, rn6, rn7, ri1, ri2, ri3, ri4, ri5]
    simp [manyAt]
    omega
  intro ⟨i, hi, hok⟩
  simp -dsimp -implicitDefEqProofs only [go_sem, ↓reduceIte, reduceCtorEq, rn1, rn2, rn3, rn4, rn5, rn6, rn7, ri1, ri2, ri3, ri4, ri5]
  refine ⟨fun hlt => ?_, fun hge => ?_⟩
  · have hil : i < n.V.length := by omega
    obtain ⟨x, hx⟩ : ∃ x, n.V[i]? = some x := ⟨_, List.getElem?_eq_getElem hil⟩
    have hw := wrapS hil (by omega)
    have hnext : risesAt (fun x y => koI.cmp (kS x) (kS y)) svB n.V i = true → ∀ j, j < i + 1 → risesAt (fun x y => koI.cmp (kS x) (kS y)) svB n.V j = true := fun h j hj => by
      by_cases hji : j = i
      · rw [hji]; exact h
      · exact hok j (by omega)
    have hmany : manyAt n (i + 1) = (manyAt n i || bigZ x) := by
      unfold manyAt; rw [List.take_add_one, hx]; simp [Bool.or_assoc]
    have hxm := List.mem_of_getElem? hx
    by_cases h0 : i = 0
    · have hzz : ¬ (0 : Int) < (i : Int) := by omega
      have hat : risesAt (fun x y => koI.cmp (kS x) (kS y)) svB n.V i = svB x := by subst h0; exact rises_at0 _ _ hx
      simp -dsimp -implicitDefEqProofs only [hx, forall_eq', hw, hzz, go_sem, ↓reduceIte, reduceCtorEq, rn1, rn2, rn3, rn4, rn5, rn6, rn7, ri1, ri2, ri3, ri4, ri5]
      refine ⟨by omega, hil, ?_⟩
      refine callWd (by kernel_rfl) (by kernel_rfl) Tryz.func97 rfl rfl Tryz.ntmps97 Tryz.results97 rfl ?_
      simp -dsimp -implicitDefEqProofs only [retH, go_sem, ↓reduceIte, reduceCtorEq, rn1, rn2, rn3, rn4, rn5, rn6, rn7, ri1, ri2, ri3, ri4, ri5]
      refine ⟨fun hm => ?_, fun hm => ?_⟩
      · rw [hm, Bool.false_or, bigZ_int] at hmany
        refine callP (address_ok _) ?_
        simp -dsimp -implicitDefEqProofs only [retH, go_sem, ↓reduceIte, reduceCtorEq, rn1, rn2, rn3, rn4, rn5, rn6, rn7, ri1, ri2, ri3, ri4, ri5]
        refine ⟨fun ha => callP (risesZs_ok x.Z (hz.z x hxm) (hz.r x hxm)) ?_, fun ha => ?_⟩
        · simp -dsimp -implicitDefEqProofs only [retH, hw, hzz, go_sem, ↓reduceIte, reduceCtorEq, rn1, rn2, rn3, rn4, rn5, rn6, rn7, ri1, ri2, ri3, ri4, ri5]
          refine ⟨fun hq => ⟨drawn (by kernel_rfl), ?_⟩, fun hq => ?_⟩
          · refine again ⟨i + 1, by omega, hnext (by rw [hat, svB, ha, hq]; rfl)⟩ (by simp; omega) ?_
            simp -dsimp -implicitDefEqProofs only [hw, hmany, go_sem, ↓reduceIte, reduceCtorEq, rn1, rn2, rn3, rn4, rn5, rn6, rn7, ri1, ri2, ri3, ri4, ri5]
          · have hc1 : chkN n = 1 := chk_bad (rises_bad hil (by rw [hat, svB, ha, hq]; rfl))
            rw [hc1]
            refine ⟨drawn (by kernel_rfl), callP (risesBs_ok n hz) ?_⟩
            simp -dsimp -implicitDefEqProofs only [go_sem, ↓reduceIte, reduceCtorEq, rn1, rn2, rn3, rn4, rn5, rn6, rn7, ri1, ri2, ri3, ri4, ri5]
            refine callP (risesCs_ok n hz) ?_
            simp -dsimp -implicitDefEqProofs only [go_sem, ↓reduceIte, reduceCtorEq, rn1, rn2, rn3, rn4, rn5, rn6, rn7, ri1, ri2, ri3, ri4, ri5]
            repeat' (first | with_reducible apply And.intro | with_reducible intro _ | with_reducible exact drawn (by kernel_rfl) | omega)
        · have hc1 : chkN n = 1 := chk_bad (rises_bad hil (by rw [hat, svB, ha]; rfl))
          rw [hc1]
          refine ⟨drawn (by kernel_rfl), callP (risesBs_ok n hz) ?_⟩
          simp -dsimp -implicitDefEqProofs only [go_sem, ↓reduceIte, reduceCtorEq, rn1, rn2, rn3, rn4, rn5, rn6, rn7, ri1, ri2, ri3, ri4, ri5]
          refine callP (risesCs_ok n hz) ?_
          simp -dsimp -implicitDefEqProofs only [go_sem, ↓reduceIte, reduceCtorEq, rn1, rn2, rn3, rn4, rn5, rn6, rn7, ri1, ri2, ri3, ri4, ri5]
          repeat' (first | with_reducible apply And.intro | with_reducible intro _ | with_reducible exact drawn (by kernel_rfl) | omega)
      · rw [hm, Bool.true_or] at hmany
        refine callP (address_ok _) ?_
        simp -dsimp -implicitDefEqProofs only [retH, go_sem, ↓reduceIte, reduceCtorEq, rn1, rn2, rn3, rn4, rn5, rn6, rn7, ri1, ri2, ri3, ri4, ri5]
        refine ⟨fun ha => callP (risesZs_ok x.Z (hz.z x hxm) (hz.r x hxm)) ?_, fun ha => ?_⟩
        · simp -dsimp -implicitDefEqProofs only [retH, hw, hzz, go_sem, ↓reduceIte, reduceCtorEq, rn1, rn2, rn3, rn4, rn5, rn6, rn7, ri1, ri2, ri3, ri4, ri5]
          refine ⟨fun hq => ⟨drawn (by kernel_rfl), ?_⟩, fun hq => ?_⟩
          · refine again ⟨i + 1, by omega, hnext (by rw [hat, svB, ha, hq]; rfl)⟩ (by simp; omega) ?_
            simp -dsimp -implicitDefEqProofs only [hw, hmany, go_sem, ↓reduceIte, reduceCtorEq, rn1, rn2, rn3, rn4, rn5, rn6, rn7, ri1, ri2, ri3, ri4, ri5]
          · have hc1 : chkN n = 1 := chk_bad (rises_bad hil (by rw [hat, svB, ha, hq]; rfl))
            rw [hc1]
            refine ⟨drawn (by kernel_rfl), callP (risesBs_ok n hz) ?_⟩
            simp -dsimp -implicitDefEqProofs only [go_sem, ↓reduceIte, reduceCtorEq, rn1, rn2, rn3, rn4, rn5, rn6, rn7, ri1, ri2, ri3, ri4, ri5]
            refine callP (risesCs_ok n hz) ?_
            simp -dsimp -implicitDefEqProofs only [go_sem, ↓reduceIte, reduceCtorEq, rn1, rn2, rn3, rn4, rn5, rn6, rn7, ri1, ri2, ri3, ri4, ri5]
            repeat' (first | with_reducible apply And.intro | with_reducible intro _ | with_reducible exact drawn (by kernel_rfl) | omega)
        · have hc1 : chkN n = 1 := chk_bad (rises_bad hil (by rw [hat, svB, ha]; rfl))
          rw [hc1]
          refine ⟨drawn (by kernel_rfl), callP (risesBs_ok n hz) ?_⟩
          simp -dsimp -implicitDefEqProofs only [go_sem, ↓reduceIte, reduceCtorEq, rn1, rn2, rn3, rn4, rn5, rn6, rn7, ri1, ri2, ri3, ri4, ri5]
          refine callP (risesCs_ok n hz) ?_
          simp -dsimp -implicitDefEqProofs only [go_sem, ↓reduceIte, reduceCtorEq, rn1, rn2, rn3, rn4, rn5, rn6, rn7, ri1, ri2, ri3, ri4, ri5]
          repeat' (first | with_reducible apply And.intro | with_reducible intro _ | with_reducible exact drawn (by kernel_rfl) | omega)
    · have hzz : (0 : Int) < (i : Int) := by omega
      obtain ⟨p, hp⟩ : ∃ p, n.V[i - 1]? = some p := ⟨_, List.getElem?_eq_getElem (by omega)⟩
      have hat : risesAt (fun x y => koI.cmp (kS x) (kS y)) svB n.V i = (svB x && decide (koI.cmp (kS p) (kS x) < 0)) := by
        obtain ⟨k, rfl⟩ : ∃ k, i = k + 1 := ⟨i - 1, by omega⟩
        exact rises_atS _ _ hx hp
      have hw2 : IntKind.i64.wrap ((i : Int) - 1) = ((i - 1 : Nat) : Int) := by rw [wrap64] <;> omega
      simp -dsimp -implicitDefEqProofs only [hx, forall_eq', hw, hzz, hw2, hp, go_sem, ↓reduceIte, reduceCtorEq, rn1, rn2, rn3, rn4, rn5, rn6, rn7, ri1, ri2, ri3, ri4, ri5]
      refine ⟨by omega, hil, ?_⟩
      refine callWd (by kernel_rfl) (by kernel_rfl) Tryz.func97 rfl rfl Tryz.ntmps97 Tryz.results97 rfl ?_
      simp -dsimp -implicitDefEqProofs only [retH, go_sem, ↓reduceIte, reduceCtorEq, rn1, rn2, rn3, rn4, rn5, rn6, rn7, ri1, ri2, ri3, ri4, ri5]
      refine ⟨fun hm => ?_, fun hm => ?_⟩
      · rw [hm, Bool.false_or, bigZ_int] at hmany
        refine callP (address_ok _) ?_
        simp -dsimp -implicitDefEqProofs only [retH, go_sem, ↓reduceIte, reduceCtorEq, rn1, rn2, rn3, rn4, rn5, rn6, rn7, ri1, ri2, ri3, ri4, ri5]
        refine ⟨fun ha => callP (risesZs_ok x.Z (hz.z x hxm) (hz.r x hxm)) ?_, fun ha => ?_⟩
        · simp -dsimp -implicitDefEqProofs only [retH, hw, hzz, hw2, hp, forall_eq', go_sem, ↓reduceIte, reduceCtorEq, rn1, rn2, rn3, rn4, rn5, rn6, rn7, ri1, ri2, ri3, ri4, ri5]
          refine ⟨fun hq => ?_, fun hq => ?_⟩
          · refine ⟨by omega, by omega, callP (byAddr_ok p x) ?_⟩
            simp -dsimp -implicitDefEqProofs only [retH, hw, go_sem, ↓reduceIte, reduceCtorEq, rn1, rn2, rn3, rn4, rn5, rn6, rn7, ri1, ri2, ri3, ri4, ri5]
            refine ⟨drawn (by kernel_rfl), fun h2 => ?_, fun h2 => ?_⟩
            · have hc1 : chkN n = 1 := chk_bad (rises_bad hil (by rw [hat, svB, ha, hq, show decide (koI.cmp (kS p) (kS x) < 0) = false from decide_eq_false (by show ¬ cmpI p.A x.A < 0; omega)]; rfl))
              rw [hc1]
              refine callP (risesBs_ok n hz) ?_
              simp -dsimp -implicitDefEqProofs only [go_sem, ↓reduceIte, reduceCtorEq, rn1, rn2, rn3, rn4, rn5, rn6, rn7, ri1, ri2, ri3, ri4, ri5]
              refine callP (risesCs_ok n hz) ?_
              simp -dsimp -implicitDefEqProofs only [go_sem, ↓reduceIte, reduceCtorEq, rn1, rn2, rn3, rn4, rn5, rn6, rn7, ri1, ri2, ri3, ri4, ri5]
              repeat' (first | with_reducible apply And.intro | with_reducible intro _ | with_reducible exact drawn (by kernel_rfl) | omega)
            · refine again ⟨i + 1, by omega, hnext (by rw [hat, svB, ha, hq, show decide (koI.cmp (kS p) (kS x) < 0) = true from decide_eq_true (by show cmpI p.A x.A < 0; omega)]; rfl)⟩ (by simp; omega) ?_
              simp -dsimp -implicitDefEqProofs only [hw, hmany, go_sem, ↓reduceIte, reduceCtorEq, rn1, rn2, rn3, rn4, rn5, rn6, rn7, ri1, ri2, ri3, ri4, ri5]
          · have hc1 : chkN n = 1 := chk_bad (rises_bad hil (by rw [hat, svB, ha, hq]; rfl))
            rw [hc1]
            refine ⟨drawn (by kernel_rfl), callP (risesBs_ok n hz) ?_⟩
            simp -dsimp -implicitDefEqProofs only [go_sem, ↓reduceIte, reduceCtorEq, rn1, rn2, rn3, rn4, rn5, rn6, rn7, ri1, ri2, ri3, ri4, ri5]
            refine callP (risesCs_ok n hz) ?_
            simp -dsimp -implicitDefEqProofs only [go_sem, ↓reduceIte, reduceCtorEq, rn1, rn2, rn3, rn4, rn5, rn6, rn7, ri1, ri2, ri3, ri4, ri5]
            repeat' (first | with_reducible apply And.intro | with_reducible intro _ | with_reducible exact drawn (by kernel_rfl) | omega)
        · have hc1 : chkN n = 1 := chk_bad (rises_bad hil (by rw [hat, svB, ha]; rfl))
          rw [hc1]
          refine ⟨drawn (by kernel_rfl), callP (risesBs_ok n hz) ?_⟩
          simp -dsimp -implicitDefEqProofs only [go_sem, ↓reduceIte, reduceCtorEq, rn1, rn2, rn3, rn4, rn5, rn6, rn7, ri1, ri2, ri3, ri4, ri5]
          refine callP (risesCs_ok n hz) ?_
          simp -dsimp -implicitDefEqProofs only [go_sem, ↓reduceIte, reduceCtorEq, rn1, rn2, rn3, rn4, rn5, rn6, rn7, ri1, ri2, ri3, ri4, ri5]
          repeat' (first | with_reducible apply And.intro | with_reducible intro _ | with_reducible exact drawn (by kernel_rfl) | omega)
      · rw [hm, Bool.true_or] at hmany
        refine callP (address_ok _) ?_
        simp -dsimp -implicitDefEqProofs only [retH, go_sem, ↓reduceIte, reduceCtorEq, rn1, rn2, rn3, rn4, rn5, rn6, rn7, ri1, ri2, ri3, ri4, ri5]
        refine ⟨fun ha => callP (risesZs_ok x.Z (hz.z x hxm) (hz.r x hxm)) ?_, fun ha => ?_⟩
        · simp -dsimp -implicitDefEqProofs only [retH, hw, hzz, hw2, hp, forall_eq', go_sem, ↓reduceIte, reduceCtorEq, rn1, rn2, rn3, rn4, rn5, rn6, rn7, ri1, ri2, ri3, ri4, ri5]
          refine ⟨fun hq => ?_, fun hq => ?_⟩
          · refine ⟨by omega, by omega, callP (byAddr_ok p x) ?_⟩
            simp -dsimp -implicitDefEqProofs only [retH, hw, go_sem, ↓reduceIte, reduceCtorEq, rn1, rn2, rn3, rn4, rn5, rn6, rn7, ri1, ri2, ri3, ri4, ri5]
            refine ⟨drawn (by kernel_rfl), fun h2 => ?_, fun h2 => ?_⟩
            · have hc1 : chkN n = 1 := chk_bad (rises_bad hil (by rw [hat, svB, ha, hq, show decide (koI.cmp (kS p) (kS x) < 0) = false from decide_eq_false (by show ¬ cmpI p.A x.A < 0; omega)]; rfl))
              rw [hc1]
              refine callP (risesBs_ok n hz) ?_
              simp -dsimp -implicitDefEqProofs only [go_sem, ↓reduceIte, reduceCtorEq, rn1, rn2, rn3, rn4, rn5, rn6, rn7, ri1, ri2, ri3, ri4, ri5]
              refine callP (risesCs_ok n hz) ?_
              simp -dsimp -implicitDefEqProofs only [go_sem, ↓reduceIte, reduceCtorEq, rn1, rn2, rn3, rn4, rn5, rn6, rn7, ri1, ri2, ri3, ri4, ri5]
              repeat' (first | with_reducible apply And.intro | with_reducible intro _ | with_reducible exact drawn (by kernel_rfl) | omega)
            · refine again ⟨i + 1, by omega, hnext (by rw [hat, svB, ha, hq, show decide (koI.cmp (kS p) (kS x) < 0) = true from decide_eq_true (by show cmpI p.A x.A < 0; omega)]; rfl)⟩ (by simp; omega) ?_
              simp -dsimp -implicitDefEqProofs only [hw, hmany, go_sem, ↓reduceIte, reduceCtorEq, rn1, rn2, rn3, rn4, rn5, rn6, rn7, ri1, ri2, ri3, ri4, ri5]
          · have hc1 : chkN n = 1 := chk_bad (rises_bad hil (by rw [hat, svB, ha, hq]; rfl))
            rw [hc1]
            refine ⟨drawn (by kernel_rfl), callP (risesBs_ok n hz) ?_⟩
            simp -dsimp -implicitDefEqProofs only [go_sem, ↓reduceIte, reduceCtorEq, rn1, rn2, rn3, rn4, rn5, rn6, rn7, ri1, ri2, ri3, ri4, ri5]
            refine callP (risesCs_ok n hz) ?_
            simp -dsimp -implicitDefEqProofs only [go_sem, ↓reduceIte, reduceCtorEq, rn1, rn2, rn3, rn4, rn5, rn6, rn7, ri1, ri2, ri3, ri4, ri5]
            repeat' (first | with_reducible apply And.intro | with_reducible intro _ | with_reducible exact drawn (by kernel_rfl) | omega)
        · have hc1 : chkN n = 1 := chk_bad (rises_bad hil (by rw [hat, svB, ha]; rfl))
          rw [hc1]
          refine ⟨drawn (by kernel_rfl), callP (risesBs_ok n hz) ?_⟩
          simp -dsimp -implicitDefEqProofs only [go_sem, ↓reduceIte, reduceCtorEq, rn1, rn2, rn3, rn4, rn5, rn6, rn7, ri1, ri2, ri3, ri4, ri5]
          refine callP (risesCs_ok n hz) ?_
          simp -dsimp -implicitDefEqProofs only [go_sem, ↓reduceIte, reduceCtorEq, rn1, rn2, rn3, rn4, rn5, rn6, rn7, ri1, ri2, ri3, ri4, ri5]
          repeat' (first | with_reducible apply And.intro | with_reducible intro _ | with_reducible exact drawn (by kernel_rfl) | omega)
  · have hil : i = n.V.length := by omega
    subst hil
    have hsv : svsOk n = true := risesB_true hok
    have hmn : manyAt n n.V.length = manyB n := by unfold manyAt manyB; rw [List.take_length]
    rw [hmn]
    simp -dsimp -implicitDefEqProofs only [retH, go_sem, ↓reduceIte, reduceCtorEq, rn1, rn2, rn3, rn4, rn5, rn6, rn7, ri1, ri2, ri3, ri4, ri5]
    refine callP (risesBs_ok n hz) ?_
    simp -dsimp -implicitDefEqProofs only [go_sem, ↓reduceIte, reduceCtorEq, rn1, rn2, rn3, rn4, rn5, rn6, rn7, ri1, ri2, ri3, ri4, ri5]
    refine callP (risesCs_ok n hz) ?_
    simp -dsimp -implicitDefEqProofs only [go_sem, ↓reduceIte, reduceCtorEq, rn1, rn2, rn3, rn4, rn5, rn6, rn7, ri1, ri2, ri3, ri4, ri5]
    unfold chkN seenB
    rw [hsv]
    refine ⟨fun h1 => ⟨fun h2 => ⟨fun h3 => ⟨fun h4 => ?_, fun h4 => ⟨fun h5 => ?_, fun h5 => ?_⟩⟩, fun h3 => ?_⟩, fun h2 => ?_⟩, fun h1 => ?_⟩
    · rw [h4, Bool.and_false]; rfl
    · rw [decide_eq_true h1, decide_eq_true h2, h3, h4, h5]; rfl
    · rw [decide_eq_true h1, decide_eq_true h2, h3, h4, h5]; rfl
    · rw [h3, Bool.and_false, Bool.false_and]; rfl
    · rw [show decide (n.N ≤ 8) = false from decide_eq_false (by omega), Bool.and_false]; rfl
    · rw [show decide (0 ≤ n.N) = false from decide_eq_false (by omega)]; rfl
end Go.Proofs.YtbgcpopmippbiaaGreatDoor
namespace Go.Proofs.YtbgcpopmippbiaaGreatDoor
open Go.Eng
set_option linter.unusedSimpArgs false
set_option maxRecDepth 10000

abbrev bnF (n : Nt) (b : Bn) : Option Bn := findK koP kB n.B (kB b)
def bnG (n : Nt) (b : Bn) : Bn := (bnF n b).getD ⟨0, 0, 0⟩
theorem bendF_ok (n : Nt) (b : Bn) (hl : n.B.length ≤ 1000000) : Meets Tryz.prog 172 [(false, [vD (bnsD n.B)]), b.arg, (false, [vD (.fn 81 [])])] (rTup [(bnG n b).arg, (false, [vB (bnF n b).isSome])]) :=
  findB_ok n.B hl _ (fun x y => koP.cmp (kB x) (kB y)) byPlace_ok b
abbrev ckF (n : Nt) (who : Bs) : Option Ck := findK koS kC n.C who
def ckG (n : Nt) (who : Bs) : Ck := (ckF n who).getD ⟨[], 0⟩
/-- What a clock says. -/
def clockV (n : Nt) (who : Bs) (now : Int) : Int := max 0 (IntKind.i64.wrap (now + (ckG n who).B))
/-- Which server is seen. -/
def srvB (n : Nt) (seen addr : Int) : Bool := (svF n addr).isSome && decide (-1 ≤ seen) && decide (seen < n.N) && (chkN n == 0)
def srvZ (n : Nt) (seen addr : Int) : List Zn := if (bnF n ⟨seen, addr, 0⟩).isSome then (svG n (bnG n ⟨seen, addr, 0⟩).T).Z else (svG n addr).Z
def srvS (n : Nt) (seen addr : Int) : Sv := if srvB n seen addr then ⟨addr, srvZ n seen addr⟩ else noV
theorem svG_len {n : Nt} (hz : Sz n) (a : Int) : (svG n a).Z.length ≤ 1000 ∧ ∀ z ∈ (svG n a).Z, z.R.length ≤ 1000 := by
  unfold svG
  cases h : svF n a with
  | none => simp [noV]
  | some s =>
    have := (find_some h).1
    exact ⟨hz.z s this, hz.r s this⟩
theorem srv_ok (n : Nt) (hz : Sz n) (seen addr : Int) : Meets Tryz.prog 107 [n.arg, (false, [vI seen]), (false, [vI addr])] (rTup [(true, [vI (srvS n seen addr).A, .own 2 35 ((srvS n seen addr).Z.map Zn.cells)]), (false, [vB (srvB n seen addr)])]) := by
  have hvl := hz.v
  have hbl := hz.b
  refine meets Tryz.func107 rfl rfl Tryz.ntmps107 Tryz.results107 rfl ?_
  simp -dsimp -implicitDefEqProofs only [go_sem, ↓reduceIte, reduceCtorEq, rn1, rn2, rn3, rn4, rn5, rn6, rn7, ri1, ri2, ri3, ri4, ri5]
  refine callP (server_ok n addr (by omega)) ?_
  simp -dsimp -implicitDefEqProofs only [go_sem, ↓reduceIte, reduceCtorEq, rn1, rn2, rn3, rn4, rn5, rn6, rn7, ri1, ri2, ri3, ri4, ri5]
  have bad : srvB n seen addr = false → (0 = (srvS n seen addr).A ∧ List.map Zn.cells (srvS n seen addr).Z = []) ∧ false = srvB n seen addr := fun h => by
    unfold srvS; rw [h]; exact ⟨⟨rfl, rfl⟩, rfl⟩
  refine ⟨fun h1 => ⟨fun h2 => ⟨fun h3 => callP (check_okN n hz) ?_, fun h3 => ?_⟩, fun h2 => ?_⟩, fun h1 => ?_⟩
  · simp -dsimp -implicitDefEqProofs only [go_sem, ↓reduceIte, reduceCtorEq, rn1, rn2, rn3, rn4, rn5, rn6, rn7, ri1, ri2, ri3, ri4, ri5]
    refine ⟨fun h4 => ?_, fun h4 => ?_⟩
    · exact bad (by unfold srvB; rw [show (chkN n == 0) = false by simpa using h4, Bool.and_false])
    · have hb : srvB n seen addr = true := by unfold srvB; rw [h1, decide_eq_true h2, decide_eq_true h3, h4]; rfl
      have hs : srvS n seen addr = ⟨addr, srvZ n seen addr⟩ := by unfold srvS; rw [hb]; rfl
      rw [hs, hb]
      refine callP (bendF_ok n ⟨seen, addr, 0⟩ (by omega)) ?_
      cases hbf : (bnF n ⟨seen, addr, 0⟩).isSome with
      | true =>
        have hzz : srvZ n seen addr = (svG n (bnG n ⟨seen, addr, 0⟩).T).Z := by unfold srvZ; rw [if_pos hbf]
        have hl := (svG_len hz (bnG n ⟨seen, addr, 0⟩).T).1
        rw [hzz]
        simp -dsimp -implicitDefEqProofs only [hbf, go_sem, ↓reduceIte, reduceCtorEq, rn1, rn2, rn3, rn4, rn5, rn6, rn7, ri1, ri2, ri3, ri4, ri5]
        refine callP (server_ok n (bnG n ⟨seen, addr, 0⟩).T (by omega)) ?_
        simp -dsimp -implicitDefEqProofs only [go_sem, ↓reduceIte, reduceCtorEq, rn1, rn2, rn3, rn4, rn5, rn6, rn7, ri1, ri2, ri3, ri4, ri5]
        refine callP (withZcl_ok _ (by simp; omega)) ?_
        simp -dsimp -implicitDefEqProofs only [go_sem, ↓reduceIte, reduceCtorEq, rn1, rn2, rn3, rn4, rn5, rn6, rn7, ri1, ri2, ri3, ri4, ri5]
      | false =>
        have hzz : srvZ n seen addr = (svG n addr).Z := by unfold srvZ; rw [if_neg (by simp [hbf])]
        have hl := (svG_len hz addr).1
        rw [hzz]
        simp -dsimp -implicitDefEqProofs only [hbf, go_sem, ↓reduceIte, reduceCtorEq, rn1, rn2, rn3, rn4, rn5, rn6, rn7, ri1, ri2, ri3, ri4, ri5]
        refine callP (withZcl_ok _ (by simp; omega)) ?_
        simp -dsimp -implicitDefEqProofs only [go_sem, ↓reduceIte, reduceCtorEq, rn1, rn2, rn3, rn4, rn5, rn6, rn7, ri1, ri2, ri3, ri4, ri5]
  · exact bad (by unfold srvB; rw [show decide (seen < n.N) = false from decide_eq_false (by omega), Bool.and_false, Bool.false_and])
  · exact bad (by unfold srvB; rw [show decide (-1 ≤ seen) = false from decide_eq_false (by omega), Bool.and_false, Bool.false_and, Bool.false_and])
  · exact bad (by unfold srvB; rw [h1]; simp)
end Go.Proofs.YtbgcpopmippbiaaGreatDoor
