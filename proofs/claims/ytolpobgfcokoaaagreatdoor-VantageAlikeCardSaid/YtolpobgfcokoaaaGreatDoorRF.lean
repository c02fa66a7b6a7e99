
/- The document's net: Check, Server, Clock. The document's net: Server. -/
import Derived.Test.YtolpobgfcokoaaaGreatDoorRE
open Nat renaming reduceLT → rn1, reduceLeDiff → rn2, reduceEqDiff → rn3, reduceAdd → rn4, reduceMul → rn5, reduceSub → rn6, reduceBEq → rn7
open Int renaming reduceLT → ri1, reduceLE → ri2, reduceEq → ri3, reduceBEq → ri4, reduceNeg → ri5
namespace Go.Proofs.YtolpobgfcokoaaaGreatDoor
open Go.Eng
set_option linter.unusedSimpArgs false
set_option maxRecDepth 10000

theorem rservers_okN (n : Nt) (hz : Sz n) : Meets Tryz.prog 119 [(false, [vD (svsD n.V)])] (rOne (vB (svsOk n))) := rservers_ok n.V hz.v hz.z hz.r
structure BgInv (n : Nt) where
  i : Nat
  le : i ≤ n.V.length
  no : ∀ j s, j < i → n.V[j]? = some s → bigZ s = false
theorem rcheck_okN (n : Nt) (hz : Sz n) : Meets Tryz.prog 78 [n.arg] (rOne (vI (chkN n))) := by
  have hvl := hz.v
  have hcl := hz.c
  cases hall : seenB n && svsOk n && bnsOk n && cksOk n with
  | false =>
    have hc : chkN n = 1 := by unfold chkN; rw [hall]; rfl
    rw [hc]
    refine meets Tryz.func78 rfl rfl Tryz.ntmps78 Tryz.results78 rfl ?_
    simp -dsimp -implicitDefEqProofs only [go_sem, ↓reduceIte, reduceCtorEq, rn1, rn2, rn3, rn4, rn5, rn6, rn7, ri1, ri2, ri3, ri4, ri5]
    repeat' (first | with_reducible apply And.intro | with_reducible intro _ | with_reducible exact drawn (by kernel_rfl) | (refine callP (rservers_okN n hz) ?_; simp -dsimp -implicitDefEqProofs only [go_sem, ↓reduceIte, reduceCtorEq, rn1, rn2, rn3, rn4, rn5, rn6, rn7, ri1, ri2, ri3, ri4, ri5]) | (refine callP (rbends_ok n hz) ?_; simp -dsimp -implicitDefEqProofs only [go_sem, ↓reduceIte, reduceCtorEq, rn1, rn2, rn3, rn4, rn5, rn6, rn7, ri1, ri2, ri3, ri4, ri5]) | (refine callP (rclocks_ok n hz) ?_; simp -dsimp -implicitDefEqProofs only [go_sem, ↓reduceIte, reduceCtorEq, rn1, rn2, rn3, rn4, rn5, rn6, rn7, ri1, ri2, ri3, ri4, ri5]) | omega)
    exfalso
    have h1 : seenB n = true := by
      unfold seenB
      rw [Bool.and_eq_true]
      exact ⟨decide_eq_true (by assumption), decide_eq_true (by assumption)⟩
    rw [h1, show svsOk n = true by assumption, show bnsOk n = true by assumption, show cksOk n = true by assumption] at hall
    cases hall
  | true =>
    have hc : chkN n = if manyB n then 2 else 0 := by unfold chkN; rw [hall]; rfl
    rw [hc]
    simp only [Bool.and_eq_true] at hall
    obtain ⟨⟨⟨h1, h2⟩, h3⟩, h4⟩ := hall
    unfold seenB at h1
    simp only [Bool.and_eq_true, decide_eq_true_eq] at h1
    have g1 : ¬ n.N < 0 := by omega
    have g2 : ¬ 8 < n.N := by omega
    refine meets Tryz.func78 rfl rfl Tryz.ntmps78 Tryz.results78 rfl ?_
    simp -dsimp -implicitDefEqProofs only [g1, g2, go_sem, ↓reduceIte, reduceCtorEq, rn1, rn2, rn3, rn4, rn5, rn6, rn7, ri1, ri2, ri3, ri4, ri5]
    refine callP (rservers_okN n hz) ?_
    simp -dsimp -implicitDefEqProofs only [h2, go_sem, ↓reduceIte, reduceCtorEq, rn1, rn2, rn3, rn4, rn5, rn6, rn7, ri1, ri2, ri3, ri4, ri5]
    refine callP (rbends_ok n hz) ?_
    simp -dsimp -implicitDefEqProofs only [h3, go_sem, ↓reduceIte, reduceCtorEq, rn1, rn2, rn3, rn4, rn5, rn6, rn7, ri1, ri2, ri3, ri4, ri5]
    refine callP (rclocks_ok n hz) ?_
    simp -dsimp -implicitDefEqProofs only [h4, go_sem, ↓reduceIte, reduceCtorEq, rn1, rn2, rn3, rn4, rn5, rn6, rn7, ri1, ri2, ri3, ri4, ri5]
    refine vfor sitOk (ι := BgInv n) (fun v => ⟨48, [(3, aI v.i), (1, aP 0 0)], [(0, some (.var [cD (svsD n.V), cI n.N, cD (bnsD n.B), cD (cksD n.C)] true))], 500⟩) (fun v => n.V.length - v.i) ⟨0, by omega, fun j x hj => by omega⟩ ?_ ?_
    · simp -dsimp -implicitDefEqProofs only [go_sem, ↓reduceIte, reduceCtorEq, rn1, rn2, rn3, rn4, rn5, rn6, rn7, ri1, ri2, ri3, ri4, ri5]
    intro ⟨i, hi, hno⟩
    simp -dsimp -implicitDefEqProofs only [go_sem, ↓reduceIte, reduceCtorEq, rn1, rn2, rn3, rn4, rn5, rn6, rn7, ri1, ri2, ri3, ri4, ri5]
    refine ⟨fun hlt => ?_, fun hge => ?_⟩
    · have hil : i < n.V.length := by omega
      refine ⟨by omega, hil, fun x hx => ⟨fun h8 => ?_, fun h8 => ?_⟩⟩
      · have : manyB n = true := by
          unfold manyB
          rw [Bool.or_eq_true]
          exact .inr (List.any_eq_true.2 ⟨x, List.mem_of_getElem? hx, by rw [bigZ_int]; exact decide_eq_true h8⟩)
        rw [this]; rfl
      · have hw := wrapS hil (by omega)
        refine again ⟨i + 1, by omega, fun j y hj hy => ?_⟩ (by simp; omega) ?_
        · by_cases hji : j = i
          · subst hji; rw [hx] at hy; cases hy
            rw [bigZ_int]; exact decide_eq_false (by omega)
          · exact hno j y (by omega) hy
        · simp -dsimp -implicitDefEqProofs only [hw, go_sem, ↓reduceIte, reduceCtorEq, rn1, rn2, rn3, rn4, rn5, rn6, rn7, ri1, ri2, ri3, ri4, ri5]
    · have hil : i = n.V.length := by omega
      subst hil
      have hany : n.V.any bigZ = false := List.any_eq_false.2 fun x hx => by
        obtain ⟨j, hj⟩ := List.mem_iff_getElem?.1 hx
        rw [hno j x (List.getElem?_eq_some_iff.1 hj).1 hj]; simp
      have hm : manyB n = decide (64 < n.C.length) := by unfold manyB; rw [hany, Bool.or_false]
      rw [hm]
      refine ⟨fun h => ?_, fun h => ?_⟩
      · rw [decide_eq_true (by omega)]; rfl
      · rw [decide_eq_false (by omega)]; rfl
end Go.Proofs.YtolpobgfcokoaaaGreatDoor
namespace Go.Proofs.YtolpobgfcokoaaaGreatDoor
open Go.Eng
set_option linter.unusedSimpArgs false
set_option maxRecDepth 10000

theorem chk_parts {n : Nt} (h : chkN n = 0) : 0 ≤ n.N ∧ n.N ≤ 8 ∧ svsOk n = true ∧ bnsOk n = true ∧ cksOk n = true ∧ manyB n = false := by
  unfold chkN at h
  split at h
  · rename_i hall
    simp only [Bool.and_eq_true] at hall
    obtain ⟨⟨⟨h1, h2⟩, h3⟩, h4⟩ := hall
    unfold seenB at h1
    simp only [Bool.and_eq_true, decide_eq_true_eq] at h1
    refine ⟨h1.1, h1.2, h2, h3, h4, ?_⟩
    cases hm : manyB n with
    | false => rfl
    | true => rw [hm] at h; cases h
  · cases h
theorem bns_parts {n : Nt} (h : bnsOk n = true) : (∀ b ∈ n.B, bendB n b = true) ∧ Ris koP kB n.B := rises_iff.1 h
/-- Where the server stands that is asked, the first i bends being looked at. -/
def atAt (n : Nt) (seen addr : Int) (i : Nat) : Int := match findK koP kB (n.B.take i) (seen, addr) with
  | some b => rfI n b.T
  | none => rfI n addr
theorem atAt_step {n : Nt} (hr : Ris koP kB n.B) {seen addr : Int} {i : Nat} {x : Bn} (hx : n.B[i]? = some x) : atAt n seen addr (i + 1) = if x.S = seen ∧ x.F = addr then rfI n x.T else atAt n seen addr i := by
  have ht : n.B.take (i + 1) = n.B.take i ++ [x] := by rw [List.take_add_one, hx]; rfl
  have hf : findK koP kB (n.B.take (i + 1)) (seen, addr) = (findK koP kB (n.B.take i) (seen, addr)).or (if x.S = seen ∧ x.F = addr then some x else none) := by
    unfold findK
    rw [ht, List.find?_append]
    congr 1
    by_cases h : x.S = seen ∧ x.F = addr
    · have : (koP.cmp (kB x) (seen, addr) == 0) = true := by rw [beq_iff_eq]; exact koP.eq0.2 (by rw [← h.1, ← h.2])
      rw [List.find?_cons, this, if_pos h]
    · have : (koP.cmp (kB x) (seen, addr) == 0) = false := by
        rw [beq_eq_false_iff_ne]
        intro e
        have := koP.eq0.1 e
        simp at this
        exact h this
      rw [List.find?_cons, this, if_neg h]
      rfl
  unfold atAt
  rw [hf]
  cases h1 : findK koP kB (n.B.take i) (seen, addr) with
  | none =>
    by_cases h : x.S = seen ∧ x.F = addr
    · rw [if_pos h, if_pos h]; rfl
    · rw [if_neg h, if_neg h]; rfl
  | some b =>
    obtain ⟨hb1, hb2⟩ := find_some h1
    have hne : ¬ (x.S = seen ∧ x.F = addr) := fun h => by
      obtain ⟨j, hj⟩ := List.mem_iff_getElem?.1 hb1
      rw [List.getElem?_take] at hj
      split at hj
      · rename_i hji
        have hlt := ris_at hr hji hj hx
        have e : kB b = kB x := by rw [hb2, ← h.1, ← h.2]
        rw [e] at hlt
        exact koP.irr hlt
      · cases hj
    rw [if_neg hne, if_neg hne]; rfl
theorem at_end {n : Nt} (hb : ∀ b ∈ n.B, bendB n b = true) {seen addr : Int} (ha : (svF n addr).isSome = true) : ∃ (k : Nat) (s : Sv), atAt n seen addr n.B.length = (k : Nat) ∧ n.V[k]? = some s ∧ s.Z = srvZ n seen addr := by
  have hone : ∀ a : Int, (svF n a).isSome = true → ∃ (k : Nat) (s : Sv), rfI n a = (k : Nat) ∧ n.V[k]? = some s ∧ s = svG n a := fun a h => by
    cases hs : svF n a with
    | none => rw [hs] at h; cases h
    | some s =>
      obtain ⟨k, h1, h2⟩ := rfI_some hs
      exact ⟨k, s, h2, h1, by unfold svG; rw [hs]; rfl⟩
  unfold atAt
  rw [List.take_length]
  cases h : bnF n ⟨seen, addr, 0⟩ with
  | none =>
    have h' : findK koP kB n.B (seen, addr) = none := h
    rw [h']
    obtain ⟨k, s, e1, e2, e3⟩ := hone addr ha
    exact ⟨k, s, e1, e2, by unfold srvZ; rw [h, e3]; rfl⟩
  | some b =>
    have h' : findK koP kB n.B (seen, addr) = some b := h
    rw [h']
    have hbb := bendB_iff.1 (hb b (find_some h).1)
    obtain ⟨k, s, e1, e2, e3⟩ := hone b.T (rfI_ge.1 hbb.2.2.2.1)
    exact ⟨k, s, e1, e2, by unfold srvZ bnG; rw [h, e3]; rfl⟩
structure RvInv (n : Nt) where
  i : Nat
  le : i ≤ n.B.length
theorem rsrv_ok (n : Nt) (hz : Sz n) (seen addr : Int) : Meets Tryz.prog 122 [n.arg, (false, [vI seen]), (false, [vI addr])] (rTup [(true, [vI (srvS n seen addr).A, vD (zonesD (srvS n seen addr).Z)]), (false, [vB (srvB n seen addr)])]) := by
  have hvl := hz.v
  have hbl := hz.b
  have bad : srvB n seen addr = false → (0 = (srvS n seen addr).A ∧ [] = List.map Zn.cells (srvS n seen addr).Z) ∧ false = srvB n seen addr := fun h => by
    unfold srvS; rw [h]; exact ⟨⟨rfl, rfl⟩, rfl⟩
  refine meets Tryz.func122 rfl rfl Tryz.ntmps122 Tryz.results122 rfl ?_
  simp -dsimp -implicitDefEqProofs only [go_sem, ↓reduceIte, reduceCtorEq, rn1, rn2, rn3, rn4, rn5, rn6, rn7, ri1, ri2, ri3, ri4, ri5]
  refine callP (rfind_ok n addr (by omega)) ?_
  simp -dsimp -implicitDefEqProofs only [go_sem, ↓reduceIte, reduceCtorEq, rn1, rn2, rn3, rn4, rn5, rn6, rn7, ri1, ri2, ri3, ri4, ri5]
  refine callP (rcheck_okN n hz) ?_
  by_cases h0 : chkN n = 0
  · by_cases h1 : -1 ≤ seen ∧ seen < n.N ∧ 0 ≤ rfI n addr
    · obtain ⟨a1, a2, a3⟩ := h1
      have b1 : ¬ seen < -1 := by omega
      have b2 : ¬ n.N ≤ seen := by omega
      have b3 : ¬ rfI n addr < 0 := by omega
      have hb : srvB n seen addr = true := by unfold srvB; rw [rfI_ge.1 a3, decide_eq_true a1, decide_eq_true a2, h0]; rfl
      have hs : srvS n seen addr = ⟨addr, srvZ n seen addr⟩ := by unfold srvS; rw [hb]; rfl
      obtain ⟨_, _, c1, c2, _, _⟩ := chk_parts h0
      obtain ⟨c3, c4⟩ := bns_parts c2
      rw [hs, hb]
      simp -dsimp -implicitDefEqProofs only [h0, b1, b2, b3, go_sem, ↓reduceIte, reduceCtorEq, rn1, rn2, rn3, rn4, rn5, rn6, rn7, ri1, ri2, ri3, ri4, ri5]
      refine vfor sitOk (ι := RvInv n) (fun v => ⟨72, [(9, aI v.i), (8, aI (atAt n seen addr v.i)), (6, aP 8 0), (3, aP 0 0), (1, aI seen), (2, aI addr)], [(8, some (.var [cI 0, .nils 2] true)), (0, some (.var [cD (svsD n.V), cI n.N, cD (bnsD n.B), cD (cksD n.C)] true))], 500⟩) (fun v => n.B.length - v.i) ⟨0, by omega⟩ ?_ ?_
      · simp -dsimp -implicitDefEqProofs only [go_sem, ↓reduceIte, reduceCtorEq, rn1, rn2, rn3, rn4, rn5, rn6, rn7, ri1, ri2, ri3, ri4, ri5]
        simp [atAt, findK]
      intro ⟨i, hi⟩
      simp -dsimp -implicitDefEqProofs only [go_sem, ↓reduceIte, reduceCtorEq, rn1, rn2, rn3, rn4, rn5, rn6, rn7, ri1, ri2, ri3, ri4, ri5]
      refine ⟨fun hlt => ?_, fun hge => ?_⟩
      · have hil : i < n.B.length := by omega
        obtain ⟨x, hx⟩ : ∃ x, n.B[i]? = some x := ⟨_, List.getElem?_eq_getElem hil⟩
        have hw := wrapS hil (by omega)
        have hst := atAt_step (seen := seen) (addr := addr) c4 hx
        simp -dsimp -implicitDefEqProofs only [hx, forall_eq', hw, go_sem, ↓reduceIte, reduceCtorEq, rn1, rn2, rn3, rn4, rn5, rn6, rn7, ri1, ri2, ri3, ri4, ri5]
        repeat' (first | with_reducible apply And.intro | with_reducible intro _ | with_reducible exact drawn (by kernel_rfl) | (refine callP (rfind_ok n _ (by omega)) ?_; simp -dsimp -implicitDefEqProofs only [hx, forall_eq', hw, go_sem, ↓reduceIte, reduceCtorEq, rn1, rn2, rn3, rn4, rn5, rn6, rn7, ri1, ri2, ri3, ri4, ri5]) | omega)
        all_goals first
          | (have e : atAt n seen addr (i + 1) = rfI n x.T := by rw [hst, if_pos ⟨by assumption, by assumption⟩]
             refine again ⟨i + 1, by omega⟩ (by simp; omega) ?_
             simp -dsimp -implicitDefEqProofs only [hw, e, go_sem, ↓reduceIte, reduceCtorEq, rn1, rn2, rn3, rn4, rn5, rn6, rn7, ri1, ri2, ri3, ri4, ri5]
             done)
          | (have e : atAt n seen addr (i + 1) = atAt n seen addr i := by rw [hst, if_neg (fun h => absurd h.1 (by assumption))]
             refine again ⟨i + 1, by omega⟩ (by simp; omega) ?_
             simp -dsimp -implicitDefEqProofs only [hw, e, go_sem, ↓reduceIte, reduceCtorEq, rn1, rn2, rn3, rn4, rn5, rn6, rn7, ri1, ri2, ri3, ri4, ri5]
             done)
          | (have e : atAt n seen addr (i + 1) = atAt n seen addr i := by rw [hst, if_neg (fun h => absurd h.2 (by assumption))]
             refine again ⟨i + 1, by omega⟩ (by simp; omega) ?_
             simp -dsimp -implicitDefEqProofs only [hw, e, go_sem, ↓reduceIte, reduceCtorEq, rn1, rn2, rn3, rn4, rn5, rn6, rn7, ri1, ri2, ri3, ri4, ri5]
             done)
      · have hil : i = n.B.length := by omega
        subst hil
        obtain ⟨k, s, e1, e2, e3⟩ := at_end c3 (rfI_ge.1 a3) (seen := seen)
        rw [e1]
        refine ⟨by omega, (List.getElem?_eq_some_iff.1 e2).1, fun y hy => ?_⟩
        rw [Int.toNat_natCast, e2] at hy
        cases hy
        rw [e3]
    · have hbb : srvB n seen addr = false := by
        unfold srvB
        rw [Bool.eq_false_iff]
        intro hh
        simp only [Bool.and_eq_true, decide_eq_true_eq] at hh
        exact h1 ⟨hh.1.1.2, hh.1.2, rfI_ge.2 hh.1.1.1⟩
      have hbad := bad hbb
      simp -dsimp -implicitDefEqProofs only [h0, go_sem, ↓reduceIte, reduceCtorEq, rn1, rn2, rn3, rn4, rn5, rn6, rn7, ri1, ri2, ri3, ri4, ri5]
      repeat' (first | with_reducible apply And.intro | with_reducible intro _ | with_reducible exact drawn (by kernel_rfl) | omega)
      all_goals first
        | omega
        | (simp only [hbad.1.1.symm, hbad.1.2.symm, hbad.2.symm]; done)
        | exact hbad
  · simp -dsimp -implicitDefEqProofs only [h0, go_sem, ↓reduceIte, reduceCtorEq, rn1, rn2, rn3, rn4, rn5, rn6, rn7, ri1, ri2, ri3, ri4, ri5]
    exact bad (by unfold srvB; rw [show (chkN n == 0) = false by simpa using h0, Bool.and_false])
end Go.Proofs.YtolpobgfcokoaaaGreatDoor
