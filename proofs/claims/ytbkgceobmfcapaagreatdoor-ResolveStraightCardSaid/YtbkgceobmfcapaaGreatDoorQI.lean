
/- ResolveStands: the law's contract. -/
import Derived.Test.YtbkgceobmfcapaaGreatDoorQG
namespace Go.Proofs.YtbkgceobmfcapaaGreatDoor
open Go.Eng
set_option linter.unusedSimpArgs false
set_option maxRecDepth 10000

theorem svF_addr {n : Nt} {a : Int} (h : chkN n = 0) (hs : (svF n a).isSome = true) : 0 ≤ a ∧ a < 8 := by
  obtain ⟨_, _, hv, _, _, _⟩ := chk_iff.1 h
  cases hf : svF n a with
  | none => rw [hf] at hs; cases hs
  | some s =>
    have h1 := find_some hf
    have h2 := (svs_parts hv).1 s h1.1
    unfold svB addrB at h2
    simp only [Bool.and_eq_true, decide_eq_true_eq] at h2
    have h3 : s.A = a := h1.2
    omega
/-- Where what is found stands. -/
theorem stands_law {n : Nt} {seen now : Int} {name : Bs} {k : Int} (h : findE n seen [] now name k = 0) : findL n seen [] now name k ≠ [] ∧ ∃ (a0 : Nat) (nm : Bs), a0 < 8 ∧ (∀ r ∈ findL n seen [] now name k, r.K = k ∧ r.N = nm ∧
    ∃ (k0 j0 : Nat) (z : Zn), (srvS n seen a0).Z[k0]? = some z ∧ z.R[j0]? = some r) := by
  have g := find_good (by rw [h]; rfl)
  have hn : heldV [] now name k = none := by
    unfold heldV
    rw [if_pos (show chkC [] = 0 from rfl)]
    rfl
  obtain ⟨m1, m2, _⟩ := find_miss g hn
  rw [h] at m1
  obtain ⟨w1, _, _, _, addr, nm, z, hz, hb, hL⟩ := (wayV_ok n seen name k).some m1.symm
  rw [m2]
  refine ⟨w1, ?_⟩
  obtain ⟨hs, _, _, hcn⟩ := srvB_iff.1 hb
  have ha := svF_addr hcn hs
  refine ⟨addr.toNat, nm, by omega, fun r hr => ?_⟩
  rw [hL] at hr
  have hm := mem_ofL hr
  obtain ⟨k0, hk0⟩ := List.mem_iff_getElem?.1 hz
  obtain ⟨j0, hj0⟩ := List.mem_iff_getElem?.1 hm.1
  have e : ((addr.toNat : Nat) : Int) = addr := by omega
  exact ⟨hm.2.2, hm.2.1, k0, j0, z, by rw [e]; exact hk0, hj0⟩
theorem rec_eqb (x y : Rec) : (x.N == y.N && (x.K == y.K && (x.V == y.V && x.L == y.L))) = decide (x = y) := by
  rw [Bool.eq_iff_iff]
  simp only [Bool.and_eq_true, beq_iff_eq, decide_eq_true_eq]
  cases x; cases y
  simp
structure SiInv (l : List Rec) where
  i : Nat
  le : i ≤ l.length
structure SaInv (a0 : Nat) where
  a : Nat
  b : Bool
  le : a ≤ 8
  ok : a0 < a → b = true
structure SzInv (a0 a k0 : Nat) (Z : List Zn) where
  k : Nat
  b : Bool
  le : k ≤ Z.length
  ok : a0 < a ∨ (a0 = a ∧ k0 < k) → b = true
structure SrInv (a0 a k0 k j0 : Nat) (R : List Rec) where
  j : Nat
  b : Bool
  le : j ≤ R.length
  ok : a0 < a ∨ (a0 = a ∧ (k0 < k ∨ (k0 = k ∧ j0 < j))) → b = true
set_option maxHeartbeats 4000000 in
theorem rstands14_ok (n : Nt) (seen : Int) (now : Int) (name : Bs) (k : Int) (hk : ∀ c ∈ n.C, -9223372036854775808 ≤ c.B ∧ c.B ≤ 9223372036854775807) (hw : ∀ c ∈ n.C, c.W.length ≤ 9223372036854775807) :
    Meets Tryz.prog 5 [n.arg, (false, [vI seen]), (false, [vI now]), (false, [vS name]), (false, [vI k])] (rOne (vB true)) := by
  refine meets Tryz.func5 rfl rfl Tryz.ntmps5 Tryz.results5 rfl ?_
  simp -dsimp -implicitDefEqProofs only [go_sem, ↓reduceIte, reduceCtorEq, Nat.reduceLT, Nat.reduceLeDiff, Nat.reduceEqDiff, Nat.reduceAdd, Nat.reduceMul, Nat.reduceSub, Nat.reduceBEq, Int.reduceLT, Int.reduceLE, Int.reduceEq, Int.reduceBEq, Int.reduceNeg]
  refine callP live14_ok ?_
  simp -dsimp -implicitDefEqProofs only [go_sem, ↓reduceIte, reduceCtorEq, Nat.reduceLT, Nat.reduceLeDiff, Nat.reduceEqDiff, Nat.reduceAdd, Nat.reduceMul, Nat.reduceSub, Nat.reduceBEq, Int.reduceLT, Int.reduceLE, Int.reduceEq, Int.reduceBEq, Int.reduceNeg]
  refine callP (few14_ok n [] name) ?_
  cases hf : fewN n && fewC [] && decide (name.length ≤ 200) with
  | false => simp -dsimp -implicitDefEqProofs only [hf, go_sem, ↓reduceIte, reduceCtorEq, Nat.reduceLT, Nat.reduceLeDiff, Nat.reduceEqDiff, Nat.reduceAdd, Nat.reduceMul, Nat.reduceSub, Nat.reduceBEq, Int.reduceLT, Int.reduceLE, Int.reduceEq, Int.reduceBEq, Int.reduceNeg]
  | true =>
    have hf2 := hf
    simp only [Bool.and_eq_true, decide_eq_true_eq] at hf2
    obtain ⟨⟨hfn, _⟩, hfl⟩ := hf2
    have hz := sz_of hfn hk hw
    have hff := find14_ok n hz seen [] nil_cz now name k
    have hll := findL_len n seen nil_cz now name k
    simp -dsimp -implicitDefEqProofs only [hf, go_sem, ↓reduceIte, reduceCtorEq, Nat.reduceLT, Nat.reduceLeDiff, Nat.reduceEqDiff, Nat.reduceAdd, Nat.reduceMul, Nat.reduceSub, Nat.reduceBEq, Int.reduceLT, Int.reduceLE, Int.reduceEq, Int.reduceBEq, Int.reduceNeg]
    refine callP hff ?_
    by_cases he : findE n seen [] now name k = 0
    · obtain ⟨hne, a0, nm, ha0, hall⟩ := stands_law he
      simp -dsimp -implicitDefEqProofs only [he, go_sem, ↓reduceIte, reduceCtorEq, Nat.reduceLT, Nat.reduceLeDiff, Nat.reduceEqDiff, Nat.reduceAdd, Nat.reduceMul, Nat.reduceSub, Nat.reduceBEq, Int.reduceLT, Int.reduceLE, Int.reduceEq, Int.reduceBEq, Int.reduceNeg]
      generalize findL n seen [] now name k = l at *
      refine vfor sitOk (ι := SiInv l) (fun v => ⟨131, [(15, aI v.i), (12, aD (recsD l)), (11, aB true), (5, aP 0 0), (1, aI seen), (4, aI k)], [(0, some (.var [cD (svsD n.V), cI n.N, cD (bnsD n.B), cD (cksD n.C)] true))], 500⟩) (fun v => l.length - v.i) ⟨0, by omega⟩ ?_ ?_
      · simp -dsimp -implicitDefEqProofs only [go_sem, ↓reduceIte, reduceCtorEq, Nat.reduceLT, Nat.reduceLeDiff, Nat.reduceEqDiff, Nat.reduceAdd, Nat.reduceMul, Nat.reduceSub, Nat.reduceBEq, Int.reduceLT, Int.reduceLE, Int.reduceEq, Int.reduceBEq, Int.reduceNeg]
      intro ⟨i, hi⟩
      simp -dsimp -implicitDefEqProofs only [go_sem, ↓reduceIte, reduceCtorEq, Nat.reduceLT, Nat.reduceLeDiff, Nat.reduceEqDiff, Nat.reduceAdd, Nat.reduceMul, Nat.reduceSub, Nat.reduceBEq, Int.reduceLT, Int.reduceLE, Int.reduceEq, Int.reduceBEq, Int.reduceNeg]
      refine ⟨fun hlt => ?_, fun hge => ?_⟩
      · have hil : i < l.length := by omega
        obtain ⟨r, hr⟩ : ∃ r, l[i]? = some r := ⟨_, List.getElem?_eq_getElem hil⟩
        have hwi := wrapS hil (by omega)
        obtain ⟨rK, rN, k0, j0, z0, hz0, hj0⟩ := hall r (List.mem_of_getElem? hr)
        refine vfor sitOk (ι := SaInv a0) (fun v => ⟨131, [(17, aI v.a), (16, aB v.b), (15, aI i), (12, aD (recsD l)), (11, aB true), (5, aP 0 0), (1, aI seen), (4, aI k)], [(0, some (.var [cD (svsD n.V), cI n.N, cD (bnsD n.B), cD (cksD n.C)] true))], 600⟩) (fun v => 8 - v.a) ⟨0, false, by omega, fun h => by omega⟩ ?_ ?_
        · simp -dsimp -implicitDefEqProofs only [go_sem, ↓reduceIte, reduceCtorEq, Nat.reduceLT, Nat.reduceLeDiff, Nat.reduceEqDiff, Nat.reduceAdd, Nat.reduceMul, Nat.reduceSub, Nat.reduceBEq, Int.reduceLT, Int.reduceLE, Int.reduceEq, Int.reduceBEq, Int.reduceNeg]
        intro ⟨a, b, hal, hbo⟩
        simp -dsimp -implicitDefEqProofs only [go_sem, ↓reduceIte, reduceCtorEq, Nat.reduceLT, Nat.reduceLeDiff, Nat.reduceEqDiff, Nat.reduceAdd, Nat.reduceMul, Nat.reduceSub, Nat.reduceBEq, Int.reduceLT, Int.reduceLE, Int.reduceEq, Int.reduceBEq, Int.reduceNeg]
        refine ⟨fun hlt2 => ?_, fun hge2 => ?_⟩
        · have hwa : IntKind.i64.wrap ((a : Int) + 1) = ((a + 1 : Nat) : Int) := by rw [wrap64] <;> omega
          have hsl := srvS_len hz seen (a : Nat)
          refine callP (srv_ok n hz seen (a : Nat)) ?_
          simp -dsimp -implicitDefEqProofs only [go_sem, ↓reduceIte, reduceCtorEq, Nat.reduceLT, Nat.reduceLeDiff, Nat.reduceEqDiff, Nat.reduceAdd, Nat.reduceMul, Nat.reduceSub, Nat.reduceBEq, Int.reduceLT, Int.reduceLE, Int.reduceEq, Int.reduceBEq, Int.reduceNeg]
          have hz0' : a0 = a → (srvS n seen (a : Nat)).Z[k0]? = some z0 := fun e => by rw [← e]; exact hz0
          generalize srvS n seen (a : Nat) = sv at *
          refine vfor sitOk (ι := SzInv a0 a k0 sv.Z) (fun v => ⟨131, [(20, aI v.k), (18, aP 672 0), (17, aI a), (16, aB v.b), (15, aI i), (12, aD (recsD l)), (11, aB true), (5, aP 0 0), (1, aI seen), (4, aI k)],
            [(672, some (.var [cI sv.A, .own 640] true)), (640, some (.row 2 48 (sv.Z.map Zn.cells) true)), (0, some (.var [cD (svsD n.V), cI n.N, cD (bnsD n.B), cD (cksD n.C)] true))], 800⟩) (fun v => sv.Z.length - v.k) ⟨0, b, by omega, fun h => hbo (by omega)⟩ ?_ ?_
          · simp -dsimp -implicitDefEqProofs only [go_sem, ↓reduceIte, reduceCtorEq, Nat.reduceLT, Nat.reduceLeDiff, Nat.reduceEqDiff, Nat.reduceAdd, Nat.reduceMul, Nat.reduceSub, Nat.reduceBEq, Int.reduceLT, Int.reduceLE, Int.reduceEq, Int.reduceBEq, Int.reduceNeg]
          intro ⟨kk, b2, hkl, hbo2⟩
          have hsz := hsl.1
          simp -dsimp -implicitDefEqProofs only [go_sem, ↓reduceIte, reduceCtorEq, Nat.reduceLT, Nat.reduceLeDiff, Nat.reduceEqDiff, Nat.reduceAdd, Nat.reduceMul, Nat.reduceSub, Nat.reduceBEq, Int.reduceLT, Int.reduceLE, Int.reduceEq, Int.reduceBEq, Int.reduceNeg]
          refine ⟨fun hlt3 => ?_, fun hge3 => ?_⟩
          · have hkz : kk < sv.Z.length := by simp at hlt3; omega
            obtain ⟨z, hzk⟩ : ∃ z, sv.Z[kk]? = some z := ⟨_, List.getElem?_eq_getElem hkz⟩
            have hwk := wrapS hkz (by omega)
            have hzr := hsl.2 z (List.mem_of_getElem? hzk)
            have hzz : a0 = a → k0 = kk → z = z0 := fun e1 e2 => by
              have := hz0' e1; rw [e2, hzk] at this; exact Option.some.inj this
            refine vfor sitOk (ι := SrInv a0 a k0 kk j0 z.R) (fun v => ⟨131, [(21, aI v.j), (20, aI kk), (18, aP 672 0), (17, aI a), (16, aB v.b), (15, aI i), (12, aD (recsD l)), (11, aB true), (5, aP 0 0), (1, aI seen), (4, aI k)],
              [(672, some (.var [cI sv.A, .own 640] true)), (640, some (.row 2 48 (sv.Z.map Zn.cells) true)), (0, some (.var [cD (svsD n.V), cI n.N, cD (bnsD n.B), cD (cksD n.C)] true))], 900⟩) (fun v => z.R.length - v.j) ⟨0, b2, by omega, fun h => hbo2 (by omega)⟩ ?_ ?_
            · simp -dsimp -implicitDefEqProofs only [go_sem, ↓reduceIte, reduceCtorEq, Nat.reduceLT, Nat.reduceLeDiff, Nat.reduceEqDiff, Nat.reduceAdd, Nat.reduceMul, Nat.reduceSub, Nat.reduceBEq, Int.reduceLT, Int.reduceLE, Int.reduceEq, Int.reduceBEq, Int.reduceNeg]
            intro ⟨j, b3, hjl, hbo3⟩
            simp -dsimp -implicitDefEqProofs only [hzk, forall_eq', List.length_map, go_sem, ↓reduceIte, reduceCtorEq, Nat.reduceLT, Nat.reduceLeDiff, Nat.reduceEqDiff, Nat.reduceAdd, Nat.reduceMul, Nat.reduceSub, Nat.reduceBEq, Int.reduceLT, Int.reduceLE, Int.reduceEq, Int.reduceBEq, Int.reduceNeg]
            refine ⟨by omega, hkz, fun hlt4 => ?_, fun hge4 => ?_⟩
            · have hjz : j < z.R.length := by omega
              obtain ⟨q, hq⟩ : ∃ q, z.R[j]? = some q := ⟨_, List.getElem?_eq_getElem hjz⟩
              have hwj := wrapS hjz (by omega)
              have hqr : a0 = a → k0 = kk → j0 = j → q = r := fun e1 e2 e3 => by
                have h1 := hzz e1 e2; subst h1; subst e3; rw [hj0] at hq; exact (Option.some.inj hq).symm
              refine ⟨fun hb3 => ⟨by omega, hkz, by omega, hjz, fun x hx => ⟨by omega, hil, fun y hy => ⟨drawn (by kernel_rfl), ?_⟩⟩⟩, fun hb3 => ⟨drawn (by kernel_rfl), ?_⟩⟩
              · have ex : x = q := by rw [hq] at hx; exact (Option.some.inj hx).symm
                have ey : y = r := by rw [hr] at hy; exact (Option.some.inj hy).symm
                subst ex; subst ey
                refine again ⟨j + 1, decide (x = y), by omega, fun h => ?_⟩ (by simp; omega) ?_
                · rw [hb3] at hbo3
                  refine decide_eq_true (Classical.byContradiction fun hne2 => ?_)
                  have h6 : a0 < a ∨ (a0 = a ∧ (k0 < kk ∨ (k0 = kk ∧ j0 < j))) := by
                    rcases h with h | ⟨h1, h2 | ⟨h2, h3⟩⟩
                    · exact .inl h
                    · exact .inr ⟨h1, .inl h2⟩
                    · refine .inr ⟨h1, .inr ⟨h2, ?_⟩⟩
                      rcases Nat.lt_or_eq_of_le (Nat.le_of_lt_succ h3) with h4 | h4
                      · exact h4
                      · exact absurd (hqr h1 h2 h4) hne2
                  exact absurd (hbo3 h6) (by simp)
                · simp -dsimp -implicitDefEqProofs only [hwj, go_sem, ↓reduceIte, reduceCtorEq, Nat.reduceLT, Nat.reduceLeDiff, Nat.reduceEqDiff, Nat.reduceAdd, Nat.reduceMul, Nat.reduceSub, Nat.reduceBEq, Int.reduceLT, Int.reduceLE, Int.reduceEq, Int.reduceBEq, Int.reduceNeg]
                  exact rec_eqb x y
              · refine again ⟨j + 1, true, by omega, fun _ => rfl⟩ (by simp; omega) ?_
                simp -dsimp -implicitDefEqProofs only [hwj, go_sem, ↓reduceIte, reduceCtorEq, Nat.reduceLT, Nat.reduceLeDiff, Nat.reduceEqDiff, Nat.reduceAdd, Nat.reduceMul, Nat.reduceSub, Nat.reduceBEq, Int.reduceLT, Int.reduceLE, Int.reduceEq, Int.reduceBEq, Int.reduceNeg]
            · refine again ⟨kk + 1, b3, by omega, fun h => ?_⟩ (by simp; omega) ?_
              · refine hbo3 ?_
                rcases h with h | ⟨h1, h2⟩
                · exact .inl h
                · refine .inr ⟨h1, ?_⟩
                  rcases Nat.lt_or_eq_of_le (Nat.le_of_lt_succ h2) with h3 | h3
                  · exact .inl h3
                  · refine .inr ⟨h3, ?_⟩
                    have h5 := hzz h1 h3
                    have := (List.getElem?_eq_some_iff.1 hj0).1
                    rw [← h5] at this
                    omega
              · simp -dsimp -implicitDefEqProofs only [hwk, go_sem, ↓reduceIte, reduceCtorEq, Nat.reduceLT, Nat.reduceLeDiff, Nat.reduceEqDiff, Nat.reduceAdd, Nat.reduceMul, Nat.reduceSub, Nat.reduceBEq, Int.reduceLT, Int.reduceLE, Int.reduceEq, Int.reduceBEq, Int.reduceNeg]
          · refine again ⟨a + 1, b2, by omega, fun h => ?_⟩ (by simp; omega) ?_
            · refine hbo2 ?_
              rcases Nat.lt_or_eq_of_le (Nat.le_of_lt_succ h) with h1 | h1
              · exact .inl h1
              · refine .inr ⟨h1, ?_⟩
                have := (List.getElem?_eq_some_iff.1 (hz0' h1)).1
                simp at hge3
                omega
            · simp -dsimp -implicitDefEqProofs only [hwa, go_sem, ↓reduceIte, reduceCtorEq, Nat.reduceLT, Nat.reduceLeDiff, Nat.reduceEqDiff, Nat.reduceAdd, Nat.reduceMul, Nat.reduceSub, Nat.reduceBEq, Int.reduceLT, Int.reduceLE, Int.reduceEq, Int.reduceBEq, Int.reduceNeg]
        · have hb : b = true := hbo (by omega)
          subst hb
          obtain ⟨r0, hr0⟩ : ∃ r0, l[0]? = some r0 := ⟨_, List.getElem?_eq_getElem (by omega)⟩
          have rN0 := (hall r0 (List.mem_of_getElem? hr0)).2.1
          have hpos : 0 < l.length := by omega
          simp -dsimp -implicitDefEqProofs only [hr, hr0, forall_eq', rK, rN, rN0, go_sem, ↓reduceIte, reduceCtorEq, Nat.reduceLT, Nat.reduceLeDiff, Nat.reduceEqDiff, Nat.reduceAdd, Nat.reduceMul, Nat.reduceSub, Nat.reduceBEq, Int.reduceLT, Int.reduceLE, Int.reduceEq, Int.reduceBEq, Int.reduceNeg]
          refine ⟨by omega, hil, by omega, hil, hpos, drawn (by kernel_rfl), again ⟨i + 1, by omega⟩ (by simp; omega) ?_⟩
          simp -dsimp -implicitDefEqProofs only [hwi, go_sem, ↓reduceIte, reduceCtorEq, Nat.reduceLT, Nat.reduceLeDiff, Nat.reduceEqDiff, Nat.reduceAdd, Nat.reduceMul, Nat.reduceSub, Nat.reduceBEq, Int.reduceLT, Int.reduceLE, Int.reduceEq, Int.reduceBEq, Int.reduceNeg]
      · have : 0 < l.length := List.length_pos_iff.2 hne
        omega
    · have hnil : findL n seen [] now name k = [] := by
        cases hok : okF (findE n seen [] now name k) with
        | false => exact (find_bad' hok).1
        | true =>
          have g := find_good hok
          obtain ⟨m1, m2, _⟩ := find_miss g (by unfold heldV; rw [if_pos (show chkC [] = 0 from rfl)]; rfl)
          rw [m2]
          have hwo := wayV_ok n seen name k
          rcases hwo.kind with h | h | h
          · exact absurd (m1.trans h) he
          · rw [hwo.lost h]; rfl
          · rw [hwo.none h]
      have hln : ((findL n seen [] now name k).length : Int) = 0 := by rw [hnil]; rfl
      simp -dsimp -implicitDefEqProofs only [he, hln, go_sem, ↓reduceIte, reduceCtorEq, Nat.reduceLT, Nat.reduceLeDiff, Nat.reduceEqDiff, Nat.reduceAdd, Nat.reduceMul, Nat.reduceSub, Nat.reduceBEq, Int.reduceLT, Int.reduceLE, Int.reduceEq, Int.reduceBEq, Int.reduceNeg]
end Go.Proofs.YtbkgceobmfcapaaGreatDoor
