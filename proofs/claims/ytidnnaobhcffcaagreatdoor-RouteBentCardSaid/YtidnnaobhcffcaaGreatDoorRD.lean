
/- route.Put, Bend. route.Bend. route.Mend. -/
import Derived.Test.YtidnnaobhcffcaaGreatDoorRC
namespace Go.Proofs.YtidnnaobhcffcaaGreatDoor
open Go.Eng
set_option linter.unusedSimpArgs false
set_option maxRecDepth 10000

def noN : Nt := ⟨[], 0, [], []⟩
/-- What Put makes of a net. -/
def newSv (n : Nt) (addr : Int) (z : Zn) : Sv := ⟨addr, withK koS kZ (svG n addr).Z z⟩
def nputE (n : Nt) (addr : Int) (z : Zn) : Int := if chkN n = 0 then (if addrB addr then (if checkV z.A z.R = 0 then (if 8 < (newSv n addr z).Z.length then 2 else 0) else checkV z.A z.R) else 1) else chkN n
def nputN (n : Nt) (addr : Int) (z : Zn) : Nt := if nputE n addr z = 0 then { n with V := withK koI kS n.V (newSv n addr z) } else noN
theorem nput_ok (n : Nt) (hz : Sz n) (addr : Int) (z : Zn) (hr : z.R.length ≤ 1000) : Meets Tryz.prog 23 [n.arg, (false, [vI addr]), z.arg]
    (rTup [(true, [.own 2 37 ((nputN n addr z).V.map Sv.cells), vI (nputN n addr z).N, vD (bnsD (nputN n addr z).B), vD (cksD (nputN n addr z).C)]), (false, [vI (nputE n addr z)])]) := by
  have hvl := hz.v
  have hsl := (svG_len hz addr).1
  have hwl := withK_len (o := koS) (key := kZ) (svG n addr).Z z
  have bad : ∀ e : Int, e ≠ 0 → nputE n addr z = e → nputN n addr z = noN := fun e he h => by
    unfold nputN; rw [if_neg (by rw [h]; exact he)]
  refine meets Tryz.func23 rfl rfl Tryz.ntmps23 Tryz.results23 rfl ?_
  simp -dsimp -implicitDefEqProofs only [go_sem, ↓reduceIte, reduceCtorEq, Nat.reduceLT, Nat.reduceLeDiff, Nat.reduceEqDiff, Nat.reduceAdd, Nat.reduceMul, Nat.reduceSub, Nat.reduceBEq, Int.reduceLT, Int.reduceLE, Int.reduceEq, Int.reduceBEq, Int.reduceNeg]
  refine callP (check_okN n hz) ?_
  by_cases h0 : chkN n = 0
  · by_cases h1 : addrB addr = true
    · by_cases h2 : checkV z.A z.R = 0
      · by_cases h3 : 8 < (newSv n addr z).Z.length
        · have hlen : (8 : Int) < ((withK koS kZ (svG n addr).Z z).length : Int) := by simp only [newSv] at h3; omega
          have he : nputE n addr z = 2 := by unfold nputE; rw [if_pos h0, if_pos h1, if_pos h2, if_pos h3]
          rw [bad 2 (by decide) he, he]
          simp -dsimp -implicitDefEqProofs only [h0, go_sem, ↓reduceIte, reduceCtorEq, Nat.reduceLT, Nat.reduceLeDiff, Nat.reduceEqDiff, Nat.reduceAdd, Nat.reduceMul, Nat.reduceSub, Nat.reduceBEq, Int.reduceLT, Int.reduceLE, Int.reduceEq, Int.reduceBEq, Int.reduceNeg]
          refine callP (address_ok _) ?_
          simp -dsimp -implicitDefEqProofs only [h1, go_sem, ↓reduceIte, reduceCtorEq, Nat.reduceLT, Nat.reduceLeDiff, Nat.reduceEqDiff, Nat.reduceAdd, Nat.reduceMul, Nat.reduceSub, Nat.reduceBEq, Int.reduceLT, Int.reduceLE, Int.reduceEq, Int.reduceBEq, Int.reduceNeg]
          refine callP (zcheck_ok z.A z.R (by omega)) ?_
          simp -dsimp -implicitDefEqProofs only [h2, go_sem, ↓reduceIte, reduceCtorEq, Nat.reduceLT, Nat.reduceLeDiff, Nat.reduceEqDiff, Nat.reduceAdd, Nat.reduceMul, Nat.reduceSub, Nat.reduceBEq, Int.reduceLT, Int.reduceLE, Int.reduceEq, Int.reduceBEq, Int.reduceNeg]
          refine callP (server_ok n addr (by omega)) ?_
          simp -dsimp -implicitDefEqProofs only [go_sem, ↓reduceIte, reduceCtorEq, Nat.reduceLT, Nat.reduceLeDiff, Nat.reduceEqDiff, Nat.reduceAdd, Nat.reduceMul, Nat.reduceSub, Nat.reduceBEq, Int.reduceLT, Int.reduceLE, Int.reduceEq, Int.reduceBEq, Int.reduceNeg]
          refine callP (withZ_ok (svG n addr).Z (by omega) _ byApex_ok z) ?_
          simp -dsimp -implicitDefEqProofs only [hlen, noN, go_sem, ↓reduceIte, reduceCtorEq, Nat.reduceLT, Nat.reduceLeDiff, Nat.reduceEqDiff, Nat.reduceAdd, Nat.reduceMul, Nat.reduceSub, Nat.reduceBEq, Int.reduceLT, Int.reduceLE, Int.reduceEq, Int.reduceBEq, Int.reduceNeg]
        · have hlen : ¬ (8 : Int) < ((withK koS kZ (svG n addr).Z z).length : Int) := by simp only [newSv] at h3; omega
          have he : nputE n addr z = 0 := by unfold nputE; rw [if_pos h0, if_pos h1, if_pos h2, if_neg h3]
          have hN : nputN n addr z = { n with V := withK koI kS n.V (newSv n addr z) } := by unfold nputN; rw [if_pos he]
          rw [hN, he]
          simp -dsimp -implicitDefEqProofs only [h0, go_sem, ↓reduceIte, reduceCtorEq, Nat.reduceLT, Nat.reduceLeDiff, Nat.reduceEqDiff, Nat.reduceAdd, Nat.reduceMul, Nat.reduceSub, Nat.reduceBEq, Int.reduceLT, Int.reduceLE, Int.reduceEq, Int.reduceBEq, Int.reduceNeg]
          refine callP (address_ok _) ?_
          simp -dsimp -implicitDefEqProofs only [h1, go_sem, ↓reduceIte, reduceCtorEq, Nat.reduceLT, Nat.reduceLeDiff, Nat.reduceEqDiff, Nat.reduceAdd, Nat.reduceMul, Nat.reduceSub, Nat.reduceBEq, Int.reduceLT, Int.reduceLE, Int.reduceEq, Int.reduceBEq, Int.reduceNeg]
          refine callP (zcheck_ok z.A z.R (by omega)) ?_
          simp -dsimp -implicitDefEqProofs only [h2, go_sem, ↓reduceIte, reduceCtorEq, Nat.reduceLT, Nat.reduceLeDiff, Nat.reduceEqDiff, Nat.reduceAdd, Nat.reduceMul, Nat.reduceSub, Nat.reduceBEq, Int.reduceLT, Int.reduceLE, Int.reduceEq, Int.reduceBEq, Int.reduceNeg]
          refine callP (server_ok n addr (by omega)) ?_
          simp -dsimp -implicitDefEqProofs only [go_sem, ↓reduceIte, reduceCtorEq, Nat.reduceLT, Nat.reduceLeDiff, Nat.reduceEqDiff, Nat.reduceAdd, Nat.reduceMul, Nat.reduceSub, Nat.reduceBEq, Int.reduceLT, Int.reduceLE, Int.reduceEq, Int.reduceBEq, Int.reduceNeg]
          refine callP (withZ_ok (svG n addr).Z (by omega) _ byApex_ok z) ?_
          simp -dsimp -implicitDefEqProofs only [hlen, go_sem, ↓reduceIte, reduceCtorEq, Nat.reduceLT, Nat.reduceLeDiff, Nat.reduceEqDiff, Nat.reduceAdd, Nat.reduceMul, Nat.reduceSub, Nat.reduceBEq, Int.reduceLT, Int.reduceLE, Int.reduceEq, Int.reduceBEq, Int.reduceNeg]
          refine callP (withV_ok n.V (by omega) _ byAddr_ok (newSv n addr z)) ?_
          simp -dsimp -implicitDefEqProofs only [go_sem, ↓reduceIte, reduceCtorEq, Nat.reduceLT, Nat.reduceLeDiff, Nat.reduceEqDiff, Nat.reduceAdd, Nat.reduceMul, Nat.reduceSub, Nat.reduceBEq, Int.reduceLT, Int.reduceLE, Int.reduceEq, Int.reduceBEq, Int.reduceNeg]
      · have he : nputE n addr z = checkV z.A z.R := by unfold nputE; rw [if_pos h0, if_pos h1, if_neg h2]
        rw [bad _ h2 he, he]
        simp -dsimp -implicitDefEqProofs only [h0, go_sem, ↓reduceIte, reduceCtorEq, Nat.reduceLT, Nat.reduceLeDiff, Nat.reduceEqDiff, Nat.reduceAdd, Nat.reduceMul, Nat.reduceSub, Nat.reduceBEq, Int.reduceLT, Int.reduceLE, Int.reduceEq, Int.reduceBEq, Int.reduceNeg]
        refine callP (address_ok _) ?_
        simp -dsimp -implicitDefEqProofs only [h1, go_sem, ↓reduceIte, reduceCtorEq, Nat.reduceLT, Nat.reduceLeDiff, Nat.reduceEqDiff, Nat.reduceAdd, Nat.reduceMul, Nat.reduceSub, Nat.reduceBEq, Int.reduceLT, Int.reduceLE, Int.reduceEq, Int.reduceBEq, Int.reduceNeg]
        refine callP (zcheck_ok z.A z.R (by omega)) ?_
        simp -dsimp -implicitDefEqProofs only [h2, noN, go_sem, ↓reduceIte, reduceCtorEq, Nat.reduceLT, Nat.reduceLeDiff, Nat.reduceEqDiff, Nat.reduceAdd, Nat.reduceMul, Nat.reduceSub, Nat.reduceBEq, Int.reduceLT, Int.reduceLE, Int.reduceEq, Int.reduceBEq, Int.reduceNeg]
    · have he : nputE n addr z = 1 := by unfold nputE; rw [if_pos h0, if_neg h1]
      have h1' : addrB addr = false := by simpa using h1
      rw [bad 1 (by decide) he, he]
      simp -dsimp -implicitDefEqProofs only [h0, go_sem, ↓reduceIte, reduceCtorEq, Nat.reduceLT, Nat.reduceLeDiff, Nat.reduceEqDiff, Nat.reduceAdd, Nat.reduceMul, Nat.reduceSub, Nat.reduceBEq, Int.reduceLT, Int.reduceLE, Int.reduceEq, Int.reduceBEq, Int.reduceNeg]
      refine callP (address_ok _) ?_
      simp -dsimp -implicitDefEqProofs only [h1', noN, go_sem, ↓reduceIte, reduceCtorEq, Nat.reduceLT, Nat.reduceLeDiff, Nat.reduceEqDiff, Nat.reduceAdd, Nat.reduceMul, Nat.reduceSub, Nat.reduceBEq, Int.reduceLT, Int.reduceLE, Int.reduceEq, Int.reduceBEq, Int.reduceNeg]
  · have he : nputE n addr z = chkN n := by unfold nputE; rw [if_neg h0]
    rw [bad _ h0 he, he]
    simp -dsimp -implicitDefEqProofs only [h0, noN, go_sem, ↓reduceIte, reduceCtorEq, Nat.reduceLT, Nat.reduceLeDiff, Nat.reduceEqDiff, Nat.reduceAdd, Nat.reduceMul, Nat.reduceSub, Nat.reduceBEq, Int.reduceLT, Int.reduceLE, Int.reduceEq, Int.reduceBEq, Int.reduceNeg]
end Go.Proofs.YtidnnaobhcffcaaGreatDoor
namespace Go.Proofs.YtidnnaobhcffcaaGreatDoor
open Go.Eng
set_option linter.unusedSimpArgs false
set_option maxRecDepth 10000

/-- May a bend be made here? -/
def bendOk (n : Nt) (b : Bn) : Bool := decide (0 ≤ b.S) && decide (b.S < n.N) && addrB b.F && addrB b.T && !decide (b.F = b.T)
def nbendE (n : Nt) (b : Bn) : Int := if chkN n = 0 then (if bendOk n b then (if (svF n b.F).isSome && (svF n b.T).isSome then 0 else 131) else 1) else chkN n
def nbendN (n : Nt) (b : Bn) : Nt := if nbendE n b = 0 then { n with B := withK koP kB n.B b } else noN
theorem nbend_ok (n : Nt) (hz : Sz n) (b : Bn) : Meets Tryz.prog 25 [n.arg, b.arg]
    (rTup [(true, [vD (svsD (nbendN n b).V), vI (nbendN n b).N, .own 3 46 ((nbendN n b).B.map Bn.cells), vD (cksD (nbendN n b).C)]), (false, [vI (nbendE n b)])]) := by
  have hvl := hz.v
  have hbl := hz.b
  have bad : ∀ e : Int, e ≠ 0 → nbendE n b = e → nbendN n b = noN := fun e he h => by
    unfold nbendN; rw [if_neg (by rw [h]; exact he)]
  refine meets Tryz.func25 rfl rfl Tryz.ntmps25 Tryz.results25 rfl ?_
  simp -dsimp -implicitDefEqProofs only [go_sem, ↓reduceIte, reduceCtorEq, Nat.reduceLT, Nat.reduceLeDiff, Nat.reduceEqDiff, Nat.reduceAdd, Nat.reduceMul, Nat.reduceSub, Nat.reduceBEq, Int.reduceLT, Int.reduceLE, Int.reduceEq, Int.reduceBEq, Int.reduceNeg]
  refine callP (check_okN n hz) ?_
  by_cases h0 : chkN n = 0
  · simp -dsimp -implicitDefEqProofs only [h0, go_sem, ↓reduceIte, reduceCtorEq, Nat.reduceLT, Nat.reduceLeDiff, Nat.reduceEqDiff, Nat.reduceAdd, Nat.reduceMul, Nat.reduceSub, Nat.reduceBEq, Int.reduceLT, Int.reduceLE, Int.reduceEq, Int.reduceBEq, Int.reduceNeg]
    refine callP (server_ok n b.F (by omega)) ?_
    simp -dsimp -implicitDefEqProofs only [go_sem, ↓reduceIte, reduceCtorEq, Nat.reduceLT, Nat.reduceLeDiff, Nat.reduceEqDiff, Nat.reduceAdd, Nat.reduceMul, Nat.reduceSub, Nat.reduceBEq, Int.reduceLT, Int.reduceLE, Int.reduceEq, Int.reduceBEq, Int.reduceNeg]
    refine callP (server_ok n b.T (by omega)) ?_
    cases h1 : bendOk n b with
    | false =>
      have he : nbendE n b = 1 := by unfold nbendE; rw [if_pos h0, if_neg (by simp [h1])]
      rw [bad 1 (by decide) he, he]
      simp -dsimp -implicitDefEqProofs only [noN, go_sem, ↓reduceIte, reduceCtorEq, Nat.reduceLT, Nat.reduceLeDiff, Nat.reduceEqDiff, Nat.reduceAdd, Nat.reduceMul, Nat.reduceSub, Nat.reduceBEq, Int.reduceLT, Int.reduceLE, Int.reduceEq, Int.reduceBEq, Int.reduceNeg]
      repeat' (first | with_reducible apply And.intro | with_reducible intro _ | with_reducible exact drawn (by kernel_rfl) | (refine callP (address_ok _) ?_; simp -dsimp -implicitDefEqProofs only [noN, go_sem, ↓reduceIte, reduceCtorEq, Nat.reduceLT, Nat.reduceLeDiff, Nat.reduceEqDiff, Nat.reduceAdd, Nat.reduceMul, Nat.reduceSub, Nat.reduceBEq, Int.reduceLT, Int.reduceLE, Int.reduceEq, Int.reduceBEq, Int.reduceNeg]) | omega)
      all_goals
        exfalso
        have h1t : bendOk n b = true := by
          unfold bendOk
          simp only [Bool.and_eq_true, decide_eq_true_eq, Bool.not_eq_true', decide_eq_false_iff_not]
          exact ⟨⟨⟨⟨by assumption, by assumption⟩, by assumption⟩, by assumption⟩, by assumption⟩
        rw [h1] at h1t
        cases h1t
    | true =>
      have h1' := h1
      unfold bendOk at h1'
      simp only [Bool.and_eq_true, decide_eq_true_eq, Bool.not_eq_true', decide_eq_false_iff_not] at h1'
      obtain ⟨⟨⟨⟨a1, a2⟩, a3⟩, a4⟩, a5⟩ := h1'
      have a6 : ¬ b.S < 0 := by omega
      have a7 : ¬ n.N ≤ b.S := by omega
      cases h2 : (svF n b.F).isSome && (svF n b.T).isSome with
      | false =>
        have he : nbendE n b = 131 := by unfold nbendE; rw [if_pos h0, if_pos h1, h2]; rfl
        rw [bad 131 (by decide) he, he]
        simp -dsimp -implicitDefEqProofs only [a6, a7, go_sem, ↓reduceIte, reduceCtorEq, Nat.reduceLT, Nat.reduceLeDiff, Nat.reduceEqDiff, Nat.reduceAdd, Nat.reduceMul, Nat.reduceSub, Nat.reduceBEq, Int.reduceLT, Int.reduceLE, Int.reduceEq, Int.reduceBEq, Int.reduceNeg]
        refine callP (address_ok _) ?_
        simp -dsimp -implicitDefEqProofs only [a3, a5, go_sem, ↓reduceIte, reduceCtorEq, Nat.reduceLT, Nat.reduceLeDiff, Nat.reduceEqDiff, Nat.reduceAdd, Nat.reduceMul, Nat.reduceSub, Nat.reduceBEq, Int.reduceLT, Int.reduceLE, Int.reduceEq, Int.reduceBEq, Int.reduceNeg]
        refine callP (address_ok _) ?_
        simp -dsimp -implicitDefEqProofs only [a4, a5, noN, go_sem, ↓reduceIte, reduceCtorEq, Nat.reduceLT, Nat.reduceLeDiff, Nat.reduceEqDiff, Nat.reduceAdd, Nat.reduceMul, Nat.reduceSub, Nat.reduceBEq, Int.reduceLT, Int.reduceLE, Int.reduceEq, Int.reduceBEq, Int.reduceNeg]
        intro h3 h4
        rw [h3, h4] at h2
        cases h2
      | true =>
        have he : nbendE n b = 0 := by unfold nbendE; rw [if_pos h0, if_pos h1, h2]; rfl
        have hN : nbendN n b = { n with B := withK koP kB n.B b } := by unfold nbendN; rw [if_pos he]
        rw [hN, he]
        rw [Bool.and_eq_true] at h2
        simp -dsimp -implicitDefEqProofs only [a6, a7, go_sem, ↓reduceIte, reduceCtorEq, Nat.reduceLT, Nat.reduceLeDiff, Nat.reduceEqDiff, Nat.reduceAdd, Nat.reduceMul, Nat.reduceSub, Nat.reduceBEq, Int.reduceLT, Int.reduceLE, Int.reduceEq, Int.reduceBEq, Int.reduceNeg]
        refine callP (address_ok _) ?_
        simp -dsimp -implicitDefEqProofs only [a3, a5, go_sem, ↓reduceIte, reduceCtorEq, Nat.reduceLT, Nat.reduceLeDiff, Nat.reduceEqDiff, Nat.reduceAdd, Nat.reduceMul, Nat.reduceSub, Nat.reduceBEq, Int.reduceLT, Int.reduceLE, Int.reduceEq, Int.reduceBEq, Int.reduceNeg]
        refine callP (address_ok _) ?_
        simp -dsimp -implicitDefEqProofs only [a4, a5, h2.1, h2.2, go_sem, ↓reduceIte, reduceCtorEq, Nat.reduceLT, Nat.reduceLeDiff, Nat.reduceEqDiff, Nat.reduceAdd, Nat.reduceMul, Nat.reduceSub, Nat.reduceBEq, Int.reduceLT, Int.reduceLE, Int.reduceEq, Int.reduceBEq, Int.reduceNeg]
        refine callP (withB_ok n.B (by omega) _ byPlace_ok b) ?_
        simp -dsimp -implicitDefEqProofs only [go_sem, ↓reduceIte, reduceCtorEq, Nat.reduceLT, Nat.reduceLeDiff, Nat.reduceEqDiff, Nat.reduceAdd, Nat.reduceMul, Nat.reduceSub, Nat.reduceBEq, Int.reduceLT, Int.reduceLE, Int.reduceEq, Int.reduceBEq, Int.reduceNeg]
  · have he : nbendE n b = chkN n := by unfold nbendE; rw [if_neg h0]
    rw [bad _ h0 he, he]
    simp -dsimp -implicitDefEqProofs only [h0, noN, go_sem, ↓reduceIte, reduceCtorEq, Nat.reduceLT, Nat.reduceLeDiff, Nat.reduceEqDiff, Nat.reduceAdd, Nat.reduceMul, Nat.reduceSub, Nat.reduceBEq, Int.reduceLT, Int.reduceLE, Int.reduceEq, Int.reduceBEq, Int.reduceNeg]
end Go.Proofs.YtidnnaobhcffcaaGreatDoor
namespace Go.Proofs.YtidnnaobhcffcaaGreatDoor
open Go.Eng
set_option linter.unusedSimpArgs false
set_option maxRecDepth 10000

theorem mend1_ok (x b : Bn) : Meets Tryz.prog 67 [x.arg, (false, [vD (.pt b.cells)])] (rOne (vB (koP.cmp (kB x) (kB b) == 0))) := by
  refine meets Tryz.func67 rfl rfl Tryz.ntmps67 Tryz.results67 rfl ?_
  simp -dsimp -implicitDefEqProofs only [go_sem, ↓reduceIte, reduceCtorEq, Nat.reduceLT, Nat.reduceLeDiff, Nat.reduceEqDiff, Nat.reduceAdd, Nat.reduceMul, Nat.reduceSub, Nat.reduceBEq, Int.reduceLT, Int.reduceLE, Int.reduceEq, Int.reduceBEq, Int.reduceNeg]
  refine callP (byPlace_ok x b) ?_
  simp -dsimp -implicitDefEqProofs only [go_sem, ↓reduceIte, reduceCtorEq, Nat.reduceLT, Nat.reduceLeDiff, Nat.reduceEqDiff, Nat.reduceAdd, Nat.reduceMul, Nat.reduceSub, Nat.reduceBEq, Int.reduceLT, Int.reduceLE, Int.reduceEq, Int.reduceBEq, Int.reduceNeg]
  rfl
def nmendE (n : Nt) (b : Bn) : Int := if chkN n = 0 then (if (bnF n b).isSome then 0 else 131) else chkN n
def nmendN (n : Nt) (b : Bn) : Nt := if nmendE n b = 0 then { n with B := dropK koP kB n.B (kB b) } else noN
theorem dropK_step {l : List Bn} {j : Nat} {v : Bn} (k : Int × Int) (h : l[j]? = some v) : dropK koP kB (l.take (j + 1)) k = dropK koP kB (l.take j) k ++ (if koP.cmp (kB v) k == 0 then [] else [v]) := by
  unfold dropK
  rw [List.take_add_one, h, List.filter_append]
  congr 1
  cases hc : koP.cmp (kB v) k == 0 <;> simp [hc]
theorem dropK_self {l : List Bn} {k : Int × Int} {i : Nat} (h : ∀ j x, j < i → l[j]? = some x → (koP.cmp (kB x) k == 0) = false) : dropK koP kB (l.take i) k = l.take i := by
  unfold dropK
  rw [List.filter_eq_self]
  intro x hx
  obtain ⟨j, hj⟩ := List.mem_iff_getElem?.1 hx
  rw [List.getElem?_take] at hj
  split at hj
  · rename_i hlt; rw [h j x hlt hj]; rfl
  · cases hj
theorem set_take {l : List Bn} {i : Nat} {v : Bn} (h : i < l.length) : (l.set i v).take (i + 1) = l.take i ++ [v] := by
  rw [List.take_add_one, List.getElem?_set_self h, List.take_set_of_le (Nat.le_refl _)]
  rfl
structure DlInv (l : List Bn) (k : Int × Int) where
  i : Nat
  j : Nat
  X : List Bn
  ij : i ≤ j
  jl : j ≤ l.length
  len : X.length = l.length
  pre : X.take i = dropK koP kB (l.take j) k
  suf : X.drop j = l.drop j
theorem nmend_ok (n : Nt) (hz : Sz n) (b : Bn) : Meets Tryz.prog 27 [n.arg, b.arg]
    (rTup [(true, [vD (svsD (nmendN n b).V), vI (nmendN n b).N, .own 3 46 ((nmendN n b).B.map Bn.cells), vD (cksD (nmendN n b).C)]), (false, [vI (nmendE n b)])]) := by
  have hbl := hz.b
  have bad : ∀ e : Int, e ≠ 0 → nmendE n b = e → nmendN n b = noN := fun e he h => by
    unfold nmendN; rw [if_neg (by rw [h]; exact he)]
  refine meets Tryz.func27 rfl rfl Tryz.ntmps27 Tryz.results27 rfl ?_
  simp -dsimp -implicitDefEqProofs only [go_sem, ↓reduceIte, reduceCtorEq, Nat.reduceLT, Nat.reduceLeDiff, Nat.reduceEqDiff, Nat.reduceAdd, Nat.reduceMul, Nat.reduceSub, Nat.reduceBEq, Int.reduceLT, Int.reduceLE, Int.reduceEq, Int.reduceBEq, Int.reduceNeg]
  refine callP (check_okN n hz) ?_
  by_cases h0 : chkN n = 0
  · simp -dsimp -implicitDefEqProofs only [h0, go_sem, ↓reduceIte, reduceCtorEq, Nat.reduceLT, Nat.reduceLeDiff, Nat.reduceEqDiff, Nat.reduceAdd, Nat.reduceMul, Nat.reduceSub, Nat.reduceBEq, Int.reduceLT, Int.reduceLE, Int.reduceEq, Int.reduceBEq, Int.reduceNeg]
    refine callP (bendF_ok n b (by omega)) ?_
    cases h1 : (bnF n b).isSome with
    | false =>
      have he : nmendE n b = 131 := by unfold nmendE; rw [if_pos h0, h1]; rfl
      rw [bad 131 (by decide) he, he]
      simp -dsimp -implicitDefEqProofs only [h1, noN, go_sem, ↓reduceIte, reduceCtorEq, Nat.reduceLT, Nat.reduceLeDiff, Nat.reduceEqDiff, Nat.reduceAdd, Nat.reduceMul, Nat.reduceSub, Nat.reduceBEq, Int.reduceLT, Int.reduceLE, Int.reduceEq, Int.reduceBEq, Int.reduceNeg]
    | true =>
      have he : nmendE n b = 0 := by unfold nmendE; rw [if_pos h0, h1]; rfl
      have hN : nmendN n b = { n with B := dropK koP kB n.B (kB b) } := by unfold nmendN; rw [if_pos he]
      rw [hN, he]
      simp -dsimp -implicitDefEqProofs only [h1, go_sem, ↓reduceIte, reduceCtorEq, Nat.reduceLT, Nat.reduceLeDiff, Nat.reduceEqDiff, Nat.reduceAdd, Nat.reduceMul, Nat.reduceSub, Nat.reduceBEq, Int.reduceLT, Int.reduceLE, Int.reduceEq, Int.reduceBEq, Int.reduceNeg]
      refine callP (withBcl_ok _ (by simp; omega)) ?_
      simp -dsimp -implicitDefEqProofs only [go_sem, ↓reduceIte, reduceCtorEq, Nat.reduceLT, Nat.reduceLeDiff, Nat.reduceEqDiff, Nat.reduceAdd, Nat.reduceMul, Nat.reduceSub, Nat.reduceBEq, Int.reduceLT, Int.reduceLE, Int.reduceEq, Int.reduceBEq, Int.reduceNeg]
      refine callW rfl Tryz.func65 rfl rfl Tryz.ntmps65 Tryz.results65 rfl ?_
      simp -dsimp -implicitDefEqProofs only [retH, go_sem, ↓reduceIte, reduceCtorEq, Nat.reduceLT, Nat.reduceLeDiff, Nat.reduceEqDiff, Nat.reduceAdd, Nat.reduceMul, Nat.reduceSub, Nat.reduceBEq, Int.reduceLT, Int.reduceLE, Int.reduceEq, Int.reduceBEq, Int.reduceNeg]
      refine callW rfl Tryz.func84 rfl rfl Tryz.ntmps84 Tryz.results84 rfl ?_
      simp -dsimp -implicitDefEqProofs only [retH, go_sem, ↓reduceIte, reduceCtorEq, Nat.reduceLT, Nat.reduceLeDiff, Nat.reduceEqDiff, Nat.reduceAdd, Nat.reduceMul, Nat.reduceSub, Nat.reduceBEq, Int.reduceLT, Int.reduceLE, Int.reduceEq, Int.reduceBEq, Int.reduceNeg]
      refine vfreeze 8 rfl ?_
      simp -dsimp -implicitDefEqProofs only [go_sem, ↓reduceIte, reduceCtorEq, Nat.reduceLT, Nat.reduceLeDiff, Nat.reduceEqDiff, Nat.reduceAdd, Nat.reduceMul, Nat.reduceSub, Nat.reduceBEq, Int.reduceLT, Int.reduceLE, Int.reduceEq, Int.reduceBEq, Int.reduceNeg]
      refine vfor sitOk (ι := IxInv (fun y => koP.cmp (kB y) (kB b) == 0) n.B) (fun v => ⟨19, [(8, aI v.i), (7, aI n.B.length), (6, aO 184), (0, aO 184), (1, .cs false [.clo 67 [.ptr 8 0]])],
        [(184, some (.row 3 46 (n.B.map Bn.cells) true)), (16, some (.var [.nils 2, cI 0, .nils 3, .nils 2] true)), (8, some (.var [cI b.S, cI b.F, cI b.T] false)), (0, some (.var [cD (svsD n.V), cI n.N, cD (bnsD n.B), cD (cksD n.C)] true))], 300⟩) (fun v => n.B.length - v.i) ⟨0, by omega, fun j x hj => by omega⟩ ?_ ?_
      · simp -dsimp -implicitDefEqProofs only [go_sem, ↓reduceIte, reduceCtorEq, Nat.reduceLT, Nat.reduceLeDiff, Nat.reduceEqDiff, Nat.reduceAdd, Nat.reduceMul, Nat.reduceSub, Nat.reduceBEq, Int.reduceLT, Int.reduceLE, Int.reduceEq, Int.reduceBEq, Int.reduceNeg]
      intro ⟨i, hi, hno⟩
      simp -dsimp -implicitDefEqProofs only [go_sem, ↓reduceIte, reduceCtorEq, Nat.reduceLT, Nat.reduceLeDiff, Nat.reduceEqDiff, Nat.reduceAdd, Nat.reduceMul, Nat.reduceSub, Nat.reduceBEq, Int.reduceLT, Int.reduceLE, Int.reduceEq, Int.reduceBEq, Int.reduceNeg]
      refine ⟨fun hlt => ?_, fun hge => ?_⟩
      · have hil : i < n.B.length := by omega
        obtain ⟨y, hx⟩ : ∃ y, n.B[i]? = some y := ⟨_, List.getElem?_eq_getElem hil⟩
        have hw := wrapS hil (by omega)
        simp -dsimp -implicitDefEqProofs only [hx, forall_eq', hw, List.length_map, go_sem, ↓reduceIte, reduceCtorEq, Nat.reduceLT, Nat.reduceLeDiff, Nat.reduceEqDiff, Nat.reduceAdd, Nat.reduceMul, Nat.reduceSub, Nat.reduceBEq, Int.reduceLT, Int.reduceLE, Int.reduceEq, Int.reduceBEq, Int.reduceNeg]
        refine ⟨by omega, hil, callP (mend1_ok y b) ?_⟩
        cases hc : koP.cmp (kB y) (kB b) == 0 with
        | false =>
          simp -dsimp -implicitDefEqProofs only [hw, hc, go_sem, ↓reduceIte, reduceCtorEq, Nat.reduceLT, Nat.reduceLeDiff, Nat.reduceEqDiff, Nat.reduceAdd, Nat.reduceMul, Nat.reduceSub, Nat.reduceBEq, Int.reduceLT, Int.reduceLE, Int.reduceEq, Int.reduceBEq, Int.reduceNeg]
          refine again ⟨i + 1, by omega, fun j z hj hz => ?_⟩ (by simp; omega) ?_
          · by_cases hji : j = i
            · subst hji; rw [hx] at hz; cases hz; exact hc
            · exact hno j z (by omega) hz
          · simp -dsimp -implicitDefEqProofs only [hw, go_sem, ↓reduceIte, reduceCtorEq, Nat.reduceLT, Nat.reduceLeDiff, Nat.reduceEqDiff, Nat.reduceAdd, Nat.reduceMul, Nat.reduceSub, Nat.reduceBEq, Int.reduceLT, Int.reduceLE, Int.reduceEq, Int.reduceBEq, Int.reduceNeg]
        | true =>
          have hm1 : ¬ (i : Int) = -1 := by omega
          simp -dsimp -implicitDefEqProofs only [retH, hw, hc, hm1, go_sem, ↓reduceIte, reduceCtorEq, Nat.reduceLT, Nat.reduceLeDiff, Nat.reduceEqDiff, Nat.reduceAdd, Nat.reduceMul, Nat.reduceSub, Nat.reduceBEq, Int.reduceLT, Int.reduceLE, Int.reduceEq, Int.reduceBEq, Int.reduceNeg]
          have hself := dropK_self (l := n.B) (k := kB b) (i := i) hno
          have hst0 := dropK_step (l := n.B) (kB b) hx
          rw [hc, if_pos rfl, List.append_nil, hself] at hst0
          refine vfor sitOk (ι := DlInv n.B (kB b)) (fun v => ⟨42, [(6, aI v.j), (5, aI v.i), (0, aO 184), (1, .cs false [.clo 67 [.ptr 8 0]])],
            [(184, some (.row 3 46 (v.X.map Bn.cells) true)), (16, some (.var [.nils 2, cI 0, .nils 3, .nils 2] true)), (8, some (.var [cI b.S, cI b.F, cI b.T] false)), (0, some (.var [cD (svsD n.V), cI n.N, cD (bnsD n.B), cD (cksD n.C)] true))], 500⟩) (fun v => n.B.length - v.j)
            ⟨i, i + 1, n.B, by omega, by omega, rfl, hst0.symm, rfl⟩ ?_ ?_
          · simp -dsimp -implicitDefEqProofs only [go_sem, ↓reduceIte, reduceCtorEq, Nat.reduceLT, Nat.reduceLeDiff, Nat.reduceEqDiff, Nat.reduceAdd, Nat.reduceMul, Nat.reduceSub, Nat.reduceBEq, Int.reduceLT, Int.reduceLE, Int.reduceEq, Int.reduceBEq, Int.reduceNeg]
          intro ⟨p, j, X, hpj, hjl, hXl, hpre, hsuf⟩
          simp -dsimp -implicitDefEqProofs only [go_sem, ↓reduceIte, reduceCtorEq, Nat.reduceLT, Nat.reduceLeDiff, Nat.reduceEqDiff, Nat.reduceAdd, Nat.reduceMul, Nat.reduceSub, Nat.reduceBEq, Int.reduceLT, Int.reduceLE, Int.reduceEq, Int.reduceBEq, Int.reduceNeg]
          refine ⟨fun hlt => ?_, fun hge => ?_⟩
          · have hjl2 : j < n.B.length := by simp [hXl] at hlt; omega
            obtain ⟨v, hv⟩ : ∃ v, n.B[j]? = some v := ⟨_, List.getElem?_eq_getElem hjl2⟩
            have hXv : X[j]? = some v := by
              have h2 : (X.drop j)[0]? = (n.B.drop j)[0]? := by rw [hsuf]
              rw [List.getElem?_drop, List.getElem?_drop] at h2
              simpa [hv] using h2
            have hw := wrapS hjl2 (by omega)
            have hwp : IntKind.i64.wrap ((p : Int) + 1) = ((p + 1 : Nat) : Int) := by rw [wrap64] <;> omega
            have hst := dropK_step (l := n.B) (kB b) hv
            have hsuf' : X.drop (j + 1) = n.B.drop (j + 1) := by rw [← List.drop_drop, ← List.drop_drop, hsuf]
            simp -dsimp -implicitDefEqProofs only [hXv, forall_eq', hw, hwp, go_sem, ↓reduceIte, reduceCtorEq, Nat.reduceLT, Nat.reduceLeDiff, Nat.reduceEqDiff, Nat.reduceAdd, Nat.reduceMul, Nat.reduceSub, Nat.reduceBEq, Int.reduceLT, Int.reduceLE, Int.reduceEq, Int.reduceBEq, Int.reduceNeg]
            refine ⟨by omega, by omega, callP (mend1_ok v b) ?_⟩
            cases hcv : koP.cmp (kB v) (kB b) == 0 with
            | true =>
              rw [hcv, if_pos rfl, List.append_nil] at hst
              simp -dsimp -implicitDefEqProofs only [hcv, hw, hwp, go_sem, ↓reduceIte, reduceCtorEq, Nat.reduceLT, Nat.reduceLeDiff, Nat.reduceEqDiff, Nat.reduceAdd, Nat.reduceMul, Nat.reduceSub, Nat.reduceBEq, Int.reduceLT, Int.reduceLE, Int.reduceEq, Int.reduceBEq, Int.reduceNeg]
              refine again ⟨p, j + 1, X, by omega, by omega, hXl, by rw [hst]; exact hpre, hsuf'⟩ (by simp; omega) ?_
              simp -dsimp -implicitDefEqProofs only [hw, go_sem, ↓reduceIte, reduceCtorEq, Nat.reduceLT, Nat.reduceLeDiff, Nat.reduceEqDiff, Nat.reduceAdd, Nat.reduceMul, Nat.reduceSub, Nat.reduceBEq, Int.reduceLT, Int.reduceLE, Int.reduceEq, Int.reduceBEq, Int.reduceNeg]
            | false =>
              rw [hcv, if_neg (by simp)] at hst
              have hset : (X.map Bn.cells).set p [dI v.S, dI v.F, dI v.T] = (X.set p v).map Bn.cells := by rw [List.map_set]; rfl
              simp -dsimp -implicitDefEqProofs only [hcv, hw, hwp, hset, go_sem, ↓reduceIte, reduceCtorEq, Nat.reduceLT, Nat.reduceLeDiff, Nat.reduceEqDiff, Nat.reduceAdd, Nat.reduceMul, Nat.reduceSub, Nat.reduceBEq, Int.reduceLT, Int.reduceLE, Int.reduceEq, Int.reduceBEq, Int.reduceNeg]
              refine ⟨by omega, by omega, fun z hz => ?_⟩
              refine again ⟨p + 1, j + 1, X.set p v, by omega, by omega, by simpa using hXl, by rw [set_take (by omega), hpre, hst], by rw [List.drop_set, if_pos (by omega)]; exact hsuf'⟩ (by simp; omega) ?_
              simp -dsimp -implicitDefEqProofs only [hw, hwp, hset, go_sem, ↓reduceIte, reduceCtorEq, Nat.reduceLT, Nat.reduceLeDiff, Nat.reduceEqDiff, Nat.reduceAdd, Nat.reduceMul, Nat.reduceSub, Nat.reduceBEq, Int.reduceLT, Int.reduceLE, Int.reduceEq, Int.reduceBEq, Int.reduceNeg]
          · have hjl2 : j = n.B.length := by simp [hXl] at hge; omega
            subst hjl2
            rw [List.take_length] at hpre
            simp -dsimp -implicitDefEqProofs only [retH, go_sem, ↓reduceIte, reduceCtorEq, Nat.reduceLT, Nat.reduceLeDiff, Nat.reduceEqDiff, Nat.reduceAdd, Nat.reduceMul, Nat.reduceSub, Nat.reduceBEq, Int.reduceLT, Int.reduceLE, Int.reduceEq, Int.reduceBEq, Int.reduceNeg]
            have hsl : (splice (X.map Bn.cells) p (List.replicate (X.length - p) [dI 0, dI 0, dI 0])).length = X.length := by
              rw [splice_len (by simp; omega)]; simp
            refine ⟨⟨by omega, by omega⟩, by omega, ⟨by omega, by rw [hsl]; omega⟩, by rw [hsl]; omega, ?_⟩
            rw [take_splice _ _ _ (by simp; omega), ← List.map_take, hpre]
      · exfalso
        have hil : i = n.B.length := by omega
        have hnone : bnF n b = none := List.find?_eq_none.2 fun z hz => by
          obtain ⟨j, hj⟩ := List.mem_iff_getElem?.1 hz
          rw [hno j z (by have := (List.getElem?_eq_some_iff.1 hj).1; omega) hj]; simp
        rw [hnone] at h1
        cases h1
  · have he : nmendE n b = chkN n := by unfold nmendE; rw [if_neg h0]
    rw [bad _ h0 he, he]
    simp -dsimp -implicitDefEqProofs only [h0, noN, go_sem, ↓reduceIte, reduceCtorEq, Nat.reduceLT, Nat.reduceLeDiff, Nat.reduceEqDiff, Nat.reduceAdd, Nat.reduceMul, Nat.reduceSub, Nat.reduceBEq, Int.reduceLT, Int.reduceLE, Int.reduceEq, Int.reduceBEq, Int.reduceNeg]
end Go.Proofs.YtidnnaobhcffcaaGreatDoor
