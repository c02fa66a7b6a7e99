/- route.Put, Bend. route.Bend. route.Mend. -/
import Derived.Test.YtbgcpopmippbiaaGreatDoorRC
open Nat renaming reduceLT → rn1, reduceLeDiff → rn2, reduceEqDiff → rn3, reduceAdd → rn4, reduceMul → rn5, reduceSub → rn6, reduceBEq → rn7
open Int renaming reduceLT → ri1, reduceLE → ri2, reduceEq → ri3, reduceBEq → ri4, reduceNeg → ri5
namespace Go.Proofs.YtbgcpopmippbiaaGreatDoor
open Go.Eng
set_option linter.unusedSimpArgs false
set_option maxRecDepth 10000

def noN : Nt := ⟨[], 0, [], []⟩
/-- What Put makes of a net. -/
def newSv (n : Nt) (addr : Int) (z : Zn) : Sv := ⟨addr, withK koS kZ (svG n addr).Z z⟩
def nputE (n : Nt) (addr : Int) (z : Zn) : Int := if chkN n = 0 then (if addrB addr then (if checkV z.A z.R = 0 then (if 8 < (newSv n addr z).Z.length then 2 else 0) else checkV z.A z.R) else 1) else chkN n
def nputN (n : Nt) (addr : Int) (z : Zn) : Nt := if nputE n addr z = 0 then { n with V := withK koI kS n.V (newSv n addr z) } else noN
theorem nput_ok (n : Nt) (hz : Sz n) (addr : Int) (z : Zn) (hr : z.R.length ≤ 1000) : Meets Tryz.prog 25 [n.arg, (false, [vI addr]), z.arg]
    (rTup [(true, [.own 2 149 ((nputN n addr z).V.map Sv.cells), vI (nputN n addr z).N, vD (bnsD (nputN n addr z).B), vD (cksD (nputN n addr z).C)]), (false, [vI (nputE n addr z)])]) := by
  have hvl := hz.v
  have hsl := (svG_len hz addr).1
  have hwl := withK_len (o := koS) (key := kZ) (svG n addr).Z z
  have bad : ∀ e : Int, e ≠ 0 → nputE n addr z = e → nputN n addr z = noN := fun e he h => by
    unfold nputN; rw [if_neg (by rw [h]; exact he)]
  refine meets Tryz.func25 rfl rfl Tryz.ntmps25 Tryz.results25 rfl ?_
  simp -dsimp -implicitDefEqProofs only [go_sem, ↓reduceIte, reduceCtorEq, rn1, rn2, rn3, rn4, rn5, rn6, rn7, ri1, ri2, ri3, ri4, ri5]
  refine callP (check_okN n hz) ?_
  by_cases h0 : chkN n = 0
  · by_cases h1 : addrB addr = true
    · by_cases h2 : checkV z.A z.R = 0
      · by_cases h3 : 8 < (newSv n addr z).Z.length
        · have hlen : (8 : Int) < ((withK koS kZ (svG n addr).Z z).length : Int) := by simp only [newSv] at h3; omega
          have he : nputE n addr z = 2 := by unfold nputE; rw [if_pos h0, if_pos h1, if_pos h2, if_pos h3]
          rw [bad 2 (by decide) he, he]
          simp -dsimp -implicitDefEqProofs only [h0, go_sem, ↓reduceIte, reduceCtorEq, rn1, rn2, rn3, rn4, rn5, rn6, rn7, ri1, ri2, ri3, ri4, ri5]
          refine callP (address_ok _) ?_
          simp -dsimp -implicitDefEqProofs only [h1, go_sem, ↓reduceIte, reduceCtorEq, rn1, rn2, rn3, rn4, rn5, rn6, rn7, ri1, ri2, ri3, ri4, ri5]
          refine callP (zcheck_ok z.A z.R (by omega)) ?_
          simp -dsimp -implicitDefEqProofs only [h2, go_sem, ↓reduceIte, reduceCtorEq, rn1, rn2, rn3, rn4, rn5, rn6, rn7, ri1, ri2, ri3, ri4, ri5]
          refine callP (server_ok n addr (by omega)) ?_
          simp -dsimp -implicitDefEqProofs only [go_sem, ↓reduceIte, reduceCtorEq, rn1, rn2, rn3, rn4, rn5, rn6, rn7, ri1, ri2, ri3, ri4, ri5]
          refine callP (withZ_ok (svG n addr).Z (by omega) _ byApex_ok z) ?_
          simp -dsimp -implicitDefEqProofs only [hlen, noN, go_sem, ↓reduceIte, reduceCtorEq, rn1, rn2, rn3, rn4, rn5, rn6, rn7, ri1, ri2, ri3, ri4, ri5]
        · have hlen : ¬ (8 : Int) < ((withK koS kZ (svG n addr).Z z).length : Int) := by simp only [newSv] at h3; omega
          have he : nputE n addr z = 0 := by unfold nputE; rw [if_pos h0, if_pos h1, if_pos h2, if_neg h3]
          have hN : nputN n addr z = { n with V := withK koI kS n.V (newSv n addr z) } := by unfold nputN; rw [if_pos he]
          rw [hN, he]
          simp -dsimp -implicitDefEqProofs only [h0, go_sem, ↓reduceIte, reduceCtorEq, rn1, rn2, rn3, rn4, rn5, rn6, rn7, ri1, ri2, ri3, ri4, ri5]
          refine callP (address_ok _) ?_
          simp -dsimp -implicitDefEqProofs only [h1, go_sem, ↓reduceIte, reduceCtorEq, rn1, rn2, rn3, rn4, rn5, rn6, rn7, ri1, ri2, ri3, ri4, ri5]
          refine callP (zcheck_ok z.A z.R (by omega)) ?_
          simp -dsimp -implicitDefEqProofs only [h2, go_sem, ↓reduceIte, reduceCtorEq, rn1, rn2, rn3, rn4, rn5, rn6, rn7, ri1, ri2, ri3, ri4, ri5]
          refine callP (server_ok n addr (by omega)) ?_
          simp -dsimp -implicitDefEqProofs only [go_sem, ↓reduceIte, reduceCtorEq, rn1, rn2, rn3, rn4, rn5, rn6, rn7, ri1, ri2, ri3, ri4, ri5]
          refine callP (withZ_ok (svG n addr).Z (by omega) _ byApex_ok z) ?_
          simp -dsimp -implicitDefEqProofs only [hlen, go_sem, ↓reduceIte, reduceCtorEq, rn1, rn2, rn3, rn4, rn5, rn6, rn7, ri1, ri2, ri3, ri4, ri5]
          refine callP (withV_ok n.V (by omega) _ byAddr_ok (newSv n addr z)) ?_
          simp -dsimp -implicitDefEqProofs only [go_sem, ↓reduceIte, reduceCtorEq, rn1, rn2, rn3, rn4, rn5, rn6, rn7, ri1, ri2, ri3, ri4, ri5]
      · have he : nputE n addr z = checkV z.A z.R := by unfold nputE; rw [if_pos h0, if_pos h1, if_neg h2]
        rw [bad _ h2 he, he]
        simp -dsimp -implicitDefEqProofs only [h0, go_sem, ↓reduceIte, reduceCtorEq, rn1, rn2, rn3, rn4, rn5, rn6, rn7, ri1, ri2, ri3, ri4, ri5]
        refine callP (address_ok _) ?_
        simp -dsimp -implicitDefEqProofs only [h1, go_sem, ↓reduceIte, reduceCtorEq, rn1, rn2, rn3, rn4, rn5, rn6, rn7, ri1, ri2, ri3, ri4, ri5]
        refine callP (zcheck_ok z.A z.R (by omega)) ?_
        simp -dsimp -implicitDefEqProofs only [h2, noN, go_sem, ↓reduceIte, reduceCtorEq, rn1, rn2, rn3, rn4, rn5, rn6, rn7, ri1, ri2, ri3, ri4, ri5]
    · have he : nputE n addr z = 1 := by unfold nputE; rw [if_pos h0, if_neg h1]
      have h1' : addrB addr = false := by simpa using h1
      rw [bad 1 (by decide) he, he]
      simp -dsimp -implicitDefEqProofs only [h0, go_sem, ↓reduceIte, reduceCtorEq, rn1, rn2, rn3, rn4, rn5, rn6, rn7, ri1, ri2, ri3, ri4, ri5]
      refine callP (address_ok _) ?_
      simp -dsimp -implicitDefEqProofs only [h1', noN, go_sem, ↓reduceIte, reduceCtorEq, rn1, rn2, rn3, rn4, rn5, rn6, rn7, ri1, ri2, ri3, ri4, ri5]
  · have he : nputE n addr z = chkN n := by unfold nputE; rw [if_neg h0]
    rw [bad _ h0 he, he]
    simp -dsimp -implicitDefEqProofs only [h0, noN, go_sem, ↓reduceIte, reduceCtorEq, rn1, rn2, rn3, rn4, rn5, rn6, rn7, ri1, ri2, ri3, ri4, ri5]
end Go.Proofs.YtbgcpopmippbiaaGreatDoor
namespace Go.Proofs.YtbgcpopmippbiaaGreatDoor
open Go.Eng
set_option linter.unusedSimpArgs false
set_option maxRecDepth 10000

/-- May a bend be made here? -/
def bendOk (n : Nt) (b : Bn) : Bool := decide (0 ≤ b.S) && decide (b.S < n.N) && addrB b.F && addrB b.T && !decide (b.F = b.T)
def nbendE (n : Nt) (b : Bn) : Int := if chkN n = 0 then (if bendOk n b then (if (svF n b.F).isSome && (svF n b.T).isSome then 0 else 131) else 1) else chkN n
def nbendN (n : Nt) (b : Bn) : Nt := if nbendE n b = 0 then { n with B := withK koP kB n.B b } else noN
theorem nbend_ok (n : Nt) (hz : Sz n) (b : Bn) : Meets Tryz.prog 26 [n.arg, b.arg]
    (rTup [(true, [vD (svsD (nbendN n b).V), vI (nbendN n b).N, .own 3 90 ((nbendN n b).B.map Bn.cells), vD (cksD (nbendN n b).C)]), (false, [vI (nbendE n b)])]) := by
  have hvl := hz.v
  have hbl := hz.b
  have bad : ∀ e : Int, e ≠ 0 → nbendE n b = e → nbendN n b = noN := fun e he h => by
    unfold nbendN; rw [if_neg (by rw [h]; exact he)]
  refine meets Tryz.func26 rfl rfl Tryz.ntmps26 Tryz.results26 rfl ?_
  simp -dsimp -implicitDefEqProofs only [go_sem, ↓reduceIte, reduceCtorEq, rn1, rn2, rn3, rn4, rn5, rn6, rn7, ri1, ri2, ri3, ri4, ri5]
  refine callP (check_okN n hz) ?_
  by_cases h0 : chkN n = 0
  · simp -dsimp -implicitDefEqProofs only [h0, go_sem, ↓reduceIte, reduceCtorEq, rn1, rn2, rn3, rn4, rn5, rn6, rn7, ri1, ri2, ri3, ri4, ri5]
    refine callP (server_ok n b.F (by omega)) ?_
    simp -dsimp -implicitDefEqProofs only [go_sem, ↓reduceIte, reduceCtorEq, rn1, rn2, rn3, rn4, rn5, rn6, rn7, ri1, ri2, ri3, ri4, ri5]
    refine callP (server_ok n b.T (by omega)) ?_
    cases h1 : bendOk n b with
    | false =>
      have he : nbendE n b = 1 := by unfold nbendE; rw [if_pos h0, if_neg (by simp [h1])]
      rw [bad 1 (by decide) he, he]
      simp -dsimp -implicitDefEqProofs only [noN, go_sem, ↓reduceIte, reduceCtorEq, rn1, rn2, rn3, rn4, rn5, rn6, rn7, ri1, ri2, ri3, ri4, ri5]
      repeat' (first | with_reducible apply And.intro | with_reducible intro _ | with_reducible exact drawn (by kernel_rfl) | (refine callP (address_ok _) ?_; simp -dsimp -implicitDefEqProofs only [noN, go_sem, ↓reduceIte, reduceCtorEq, rn1, rn2, rn3, rn4, rn5, rn6, rn7, ri1, ri2, ri3, ri4, ri5]) | omega)
      all_goals
        exfalso
        have h1t : bendOk n b = true := by
          unfold bendOk
          simp only [Bool.and_eq_true, decide_eq_true_eq, Bool.not_eq_true', decide_eq_false_iff_not]
          exact ⟨⟨⟨⟨by assumption, by assumption⟩, by assumption⟩, by assumption⟩, by assumption⟩
        rw [h1] at h1t
        cases h1t
    | true =>
      have h1' := h1
      unfold bendOk at h1'
      simp only [Bool.and_eq_true, decide_eq_true_eq, Bool.not_eq_true', decide_eq_false_iff_not] at h1'
      obtain ⟨⟨⟨⟨a1, a2⟩, a3⟩, a4⟩, a5⟩ := h1'
      have a6 : ¬ b.S < 0 := by omega
      have a7 : ¬ n.N ≤ b.S := by omega
      cases h2 : (svF n b.F).isSome && (svF n b.T).isSome with
      | false =>
        have he : nbendE n b = 131 := by unfold nbendE; rw [if_pos h0, if_pos h1, h2]; rfl
        rw [bad 131 (by decide) he, he]
        simp -dsimp -implicitDefEqProofs only [a6, a7, go_sem, ↓reduceIte, reduceCtorEq, rn1, rn2, rn3, rn4, rn5, rn6, rn7, ri1, ri2, ri3, ri4, ri5]
        refine callP (address_ok _) ?_
        simp -dsimp -implicitDefEqProofs only [a3, a5, go_sem, ↓reduceIte, reduceCtorEq, rn1, rn2, rn3, rn4, rn5, rn6, rn7, ri1, ri2, ri3, ri4, ri5]
        refine callP (address_ok _) ?_
        simp -dsimp -implicitDefEqProofs only [a4, a5, noN, go_sem, ↓reduceIte, reduceCtorEq, rn1, rn2, rn3, rn4, rn5, rn6, rn7, ri1, ri2, ri3, ri4, ri5]
        intro h3 h4
        rw [h3, h4] at h2
        cases h2
      | true =>
        have he : nbendE n b = 0 := by unfold nbendE; rw [if_pos h0, if_pos h1, h2]; rfl
        have hN : nbendN n b = { n with B := withK koP kB n.B b } := by unfold nbendN; rw [if_pos he]
        rw [hN, he]
        rw [Bool.and_eq_true] at h2
        simp -dsimp -implicitDefEqProofs only [a6, a7, go_sem, ↓reduceIte, reduceCtorEq, rn1, rn2, rn3, rn4, rn5, rn6, rn7, ri1, ri2, ri3, ri4, ri5]
        refine callP (address_ok _) ?_
        simp -dsimp -implicitDefEqProofs only [a3, a5, go_sem, ↓reduceIte, reduceCtorEq, rn1, rn2, rn3, rn4, rn5, rn6, rn7, ri1, ri2, ri3, ri4, ri5]
        refine callP (address_ok _) ?_
        simp -dsimp -implicitDefEqProofs only [a4, a5, h2.1, h2.2, go_sem, ↓reduceIte, reduceCtorEq, rn1, rn2, rn3, rn4, rn5, rn6, rn7, ri1, ri2, ri3, ri4, ri5]
        refine callP (withB_ok n.B (by omega) _ byPlace_ok b) ?_
        simp -dsimp -implicitDefEqProofs only [go_sem, ↓reduceIte, reduceCtorEq, rn1, rn2, rn3, rn4, rn5, rn6, rn7, ri1, ri2, ri3, ri4, ri5]
  · have he : nbendE n b = chkN n := by unfold nbendE; rw [if_neg h0]
    rw [bad _ h0 he, he]
    simp -dsimp -implicitDefEqProofs only [h0, noN, go_sem, ↓reduceIte, reduceCtorEq, rn1, rn2, rn3, rn4, rn5, rn6, rn7, ri1, ri2, ri3, ri4, ri5]
end Go.Proofs.YtbgcpopmippbiaaGreatDoor
namespace Go.Proofs.YtbgcpopmippbiaaGreatDoor
open Go.Eng
set_option linter.unusedSimpArgs false
set_option maxRecDepth 10000

def nmendE (n : Nt) (b : Bn) : Int := if chkN n = 0 then (if (bnF n b).isSome then 0 else 131) else chkN n
def nmendN (n : Nt) (b : Bn) : Nt := if nmendE n b = 0 then { n with B := dropK koP kB n.B (kB b) } else noN
structure DlInv (l : List Bn) (k : Int × Int) where
  i : Nat
  j : Nat
  X : List Bn
  ij : i ≤ j
  jl : j ≤ l.length
  len : X.length = l.length
  pre : X.take i = dropK koP kB (l.take j) k
  suf : X.drop j = l.drop j
end Go.Proofs.YtbgcpopmippbiaaGreatDoor
