
/- TopPath: its certificates. TopPath. TopPath, whatever comes in. -/
import Derived.Test.YtijfncaphfaijaaGreatDoorQE
namespace Go.Proofs.YtijfncaphfaijaaGreatDoor
open Go.Eng
set_option linter.unusedSimpArgs false
set_option maxRecDepth 10000

theorem sgn_ca (s : Nat) (c : Ct) (hl : (enc (bodyI c)).length ≤ 10000) (h : ∀ e t, e < 1152921504606845789 → t < 1152921504606845789 → CaOk { c with e := e, s := t }) : CaOk (sgn s c) := by
  obtain ⟨e, t, he, ht, hq⟩ := sgn_eq s c
  rw [hq]
  exact h e t (by rw [he]; exact sigE_lt _ _ hl) (by rw [ht]; exact sigS_lt _ _)
theorem sgn_lf (s : Nat) (c : Ct) (hl : (enc (bodyI c)).length ≤ 10000) (h : ∀ e t, e < 1152921504606845789 → t < 1152921504606845789 → LfOk { c with e := e, s := t }) : LfOk (sgn s c) := by
  obtain ⟨e, t, he, ht, hq⟩ := sgn_eq s c
  rw [hq]
  exact h e t (by rw [he]; exact sigE_lt _ _ hl) (by rw [ht]; exact sigS_lt _ _)
noncomputable def rtC (s1 : Nat) : Ct := auC 1 rootS rootS (pw4 s1) 2 []
noncomputable def mdC (s2 : Nat) (pat : Bs) : Ct := auC 2 rootS midS (pw4 s2) 0 [pat]
theorem rtC_ca (s1 : Nat) (e t : Nat) (he : e < 1152921504606845789) (ht : t < 1152921504606845789) : CaOk { rtC s1 with e := e, s := t } := au_ok 1 rootS (pw4 s1) 2 e t [] (by omega) (.inl rfl) (pw4_pos _) (pw4_lt _) (by omega) he ht (.inl rfl)
theorem mdC_ca (s2 : Nat) (pat : Bs) (hp : patOk pat = true) (e t : Nat) (he : e < 1152921504606845789) (ht : t < 1152921504606845789) : CaOk { mdC s2 pat with e := e, s := t } := au_ok 2 midS (pw4 s2) 0 e t [pat] (by omega) (.inr rfl) (pw4_pos _) (pw4_lt _) (by omega) he ht (.inr ⟨pat, rfl, hp⟩)
theorem rtC_ca0 (s1 : Nat) : CaOk (rtC s1) := rtC_ca s1 0 0 (by decide) (by decide)
theorem mdC_ca0 (s2 : Nat) (pat : Bs) (hp : patOk pat = true) : CaOk (mdC s2 pat) := mdC_ca s2 pat hp 0 0 (by decide) (by decide)
theorem lfC_lf0 (name : Bs) (hn : isName name = true) : LfOk (lfC name) := lfC_ok name 0 0 hn (by decide) (by decide)
theorem trip_ok (s1 s2 : Nat) (name pat : Bs) (hn : isName name = true) (hp : patOk pat = true) : Trip (sgn s1 (rtC s1)) (sgn s1 (mdC s2 pat)) (sgn s2 (lfC name)) name pat := by
  have lr := body_len (rtC_ca0 s1).g.b
  have lm := body_len (mdC_ca0 s2 pat hp).g.b
  have ll := body_len (lfC_lf0 name hn).g.b
  have hr := sgn_ca s1 (rtC s1) (by omega) (rtC_ca s1)
  have hm := sgn_ca s1 (mdC s2 pat) (by omega) (mdC_ca s2 pat hp)
  have hl := sgn_lf s2 (lfC name) (by omega) (fun e t => lfC_ok name e t hn)
  have fr := formed_ca _ hr
  have fm := formed_ca _ hm
  have fl := formed_leaf _ hl
  have cr := ccheck_ok _ fr hr.g.b
  have cm := ccheck_ok _ fm hm.g.b
  have cl := ccheck_ok _ fl hl.g.b
  have bm := cbody_ok _ fm hm.g.b
  have bl := cbody_ok _ fl hl.g.b
  refine ⟨cr, cm, cl, link_ok _ _ s1 cm cr bm (by rw [sgn_body]; omega) rfl rfl rfl (by rw [sgn_body]; exact sgn_e _ _) (by rw [sgn_body]; exact sgn_s _ _),
    link_ok _ _ s2 cl cm bl (by rw [sgn_body]; omega) rfl rfl rfl (by rw [sgn_body]; exact sgn_e _ _) (by rw [sgn_body]; exact sgn_s _ _),
    nolink_ok _ _ cl cr rfl (show midS ≠ rootS by decide), rfl, rfl, rfl, rfl, rfl, rfl, rfl, fun now h => ?_, fun now h => ?_⟩
  all_goals
    have h' : (decide (5 ≤ now) && decide (now < 50)) = true := h
    show (decide (0 ≤ now) && decide (now < 1000)) = true
    simp only [Bool.and_eq_true, decide_eq_true_eq] at h' ⊢
    omega
end Go.Proofs.YtijfncaphfaijaaGreatDoor
namespace Go.Proofs.YtijfncaphfaijaaGreatDoor
open Go.Eng
set_option linter.unusedSimpArgs false
set_option maxRecDepth 10000

theorem topPath_1 (seed : List Int) (name pat : Bs) (now : Nat) (hs : seed.length ≤ 200) (hn : isName name = true) (hp : patOk pat = true) (hw : now ≤ 1099511627776) (hm : matchB pat name = false) :
    Meets Tryz.prog 4 [(false, [vD (byD seed)]), (false, [vS name]), (false, [vS pat]), (false, [vI now])] (rOne (vB true)) := by
  have c1 : ((200 : Int) < (seed.length : Int)) = False := by simp; omega
  have c2 : ((now : Int) < 0) = False := by simp
  have c3 : ((1099511627776 : Int) < (now : Int)) = False := by simp; omega
  have hk := check_ok name
  rw [hn] at hk
  have hpk := patternE_ok pat
  rw [hp] at hpk
  obtain ⟨s1, hs1⟩ : ∃ s1, s1 = secN seed := ⟨_, rfl⟩
  obtain ⟨s2, hs2⟩ : ∃ s2, s2 = secN (seed ++ [1]) := ⟨_, rfl⟩
  have r1 := secN_rng seed (by omega)
  have r2 := secN_rng (seed ++ [1]) (by simp; omega)
  have k1 := secret_ok seed (by omega)
  have k2 := secret_ok (seed ++ [1]) (by simp; omega)
  rw [← hs1] at r1 k1
  rw [← hs2] at r2 k2
  have p1 := public_ok s1 r1.1 r1.2
  have p2 := public_ok s2 r2.1 r2.2
  have a1 := authority_ok 1 rootS s1 (pw4 s1) 2 [] (by omega) (.inl rfl) r1.1 r1.2 (pw4_pos _) (pw4_lt _) (by omega) (.inl rfl)
  have a2 := authority_ok 2 midS s1 (pw4 s2) 0 [pat] (by omega) (.inr rfl) r1.1 r1.2 (pw4_pos _) (pw4_lt _) (by omega) (.inr ⟨pat, rfl, hp⟩)
  have hlf := lfC_lf0 name hn
  have b1 := cbody_ok _ (formed_leaf _ hlf) hlf.g.b
  have hl := body_len hlf.g.b
  have g1 := sign_ok s2 (enc (bodyI (lfC name))) r2.1 r2.2 (by omega)
  have ht := trip_ok s1 s2 name pat hn hp
  have m1 := match_ok pat name
  obtain ⟨R, hR⟩ : ∃ R, R = sgn s1 (rtC s1) := ⟨_, rfl⟩
  obtain ⟨M, hM⟩ : ∃ M, M = sgn s1 (mdC s2 pat) := ⟨_, rfl⟩
  rw [show sgn s1 (auC 1 rootS rootS (pw4 s1) 2 []) = R from hR.symm] at a1
  rw [show sgn s1 (auC 2 rootS midS (pw4 s2) 0 [pat]) = M from hM.symm] at a2
  rw [← hR, ← hM] at ht
  obtain ⟨e, t, he, hte, hq⟩ := sgn_eq s2 (lfC name)
  rw [hq] at ht
  rw [← he, ← hte] at g1
  simp only [byD, List.map_append, List.map_cons, List.map_nil] at k2
  obtain ⟨K1, n1, q1⟩ : ∃ K1 : Nat, K1 ≠ 0 ∧ Meets Tryz.prog 20 [(false, [vD (ctD [R])]), (false, [vD (ctD [{ lfC name with e := e, s := t }])]), (false, [vS name]), (false, [vI now])] (rOne (vI K1)) := ⟨_, by split <;> decide, check1_ok ht now hn hw⟩
  have q2 := check2_ok ht now hn hw
  have x1 : ((K1 : Int) = 0) = False := by simp [n1]
  have lm := ht.lm
  have mr := ht.mr
  rw [hm] at m1 q2
  obtain ⟨K2, n2, q2⟩ : ∃ K2 : Nat, K2 ≠ 0 ∧ Meets Tryz.prog 20 [(false, [vD (ctD [R])]), (false, [vD (ctD [{ lfC name with e := e, s := t }, M])]), (false, [vS name]), (false, [vI now])] (rOne (vI K2)) := ⟨_, by split <;> decide, q2⟩
  have x2 : ((K2 : Int) = 0) = False := by simp [n2]
  have hb := build_no ht now K1 K2 q1 q2 n1 n2
  refine meets Tryz.func4 rfl rfl Tryz.ntmps4 Tryz.results4 rfl ?_
  simp -dsimp -implicitDefEqProofs only [go_sem, ↓reduceIte, reduceCtorEq, Nat.reduceLT, Nat.reduceLeDiff, Nat.reduceEqDiff, Nat.reduceAdd, Nat.reduceMul, Nat.reduceSub, Nat.reduceBEq, Int.reduceLT, Int.reduceLE, Int.reduceEq, Int.reduceBEq, Int.reduceNeg]
  refine callP upT_ok ?_
  simp -dsimp -implicitDefEqProofs only [c1, go_sem, ↓reduceIte, reduceCtorEq, Nat.reduceLT, Nat.reduceLeDiff, Nat.reduceEqDiff, Nat.reduceAdd, Nat.reduceMul, Nat.reduceSub, Nat.reduceBEq, Int.reduceLT, Int.reduceLE, Int.reduceEq, Int.reduceBEq, Int.reduceNeg]
  refine callP hk ?_
  simp -dsimp -implicitDefEqProofs only [go_sem, ↓reduceIte, reduceCtorEq, Nat.reduceLT, Nat.reduceLeDiff, Nat.reduceEqDiff, Nat.reduceAdd, Nat.reduceMul, Nat.reduceSub, Nat.reduceBEq, Int.reduceLT, Int.reduceLE, Int.reduceEq, Int.reduceBEq, Int.reduceNeg]
  refine callP hpk ?_
  simp -dsimp -implicitDefEqProofs only [c2, c3, go_sem, ↓reduceIte, reduceCtorEq, Nat.reduceLT, Nat.reduceLeDiff, Nat.reduceEqDiff, Nat.reduceAdd, Nat.reduceMul, Nat.reduceSub, Nat.reduceBEq, Int.reduceLT, Int.reduceLE, Int.reduceEq, Int.reduceBEq, Int.reduceNeg]
  refine callP k1 ?_
  simp -dsimp -implicitDefEqProofs only [go_sem, ↓reduceIte, reduceCtorEq, Nat.reduceLT, Nat.reduceLeDiff, Nat.reduceEqDiff, Nat.reduceAdd, Nat.reduceMul, Nat.reduceSub, Nat.reduceBEq, Int.reduceLT, Int.reduceLE, Int.reduceEq, Int.reduceBEq, Int.reduceNeg]
  refine ⟨⟨by omega, by omega⟩, ⟨by omega, by omega⟩, callP k2 ?_⟩
  simp -dsimp -implicitDefEqProofs only [go_sem, ↓reduceIte, reduceCtorEq, Nat.reduceLT, Nat.reduceLeDiff, Nat.reduceEqDiff, Nat.reduceAdd, Nat.reduceMul, Nat.reduceSub, Nat.reduceBEq, Int.reduceLT, Int.reduceLE, Int.reduceEq, Int.reduceBEq, Int.reduceNeg]
  refine callP p1 ?_
  simp -dsimp -implicitDefEqProofs only [go_sem, ↓reduceIte, reduceCtorEq, Nat.reduceLT, Nat.reduceLeDiff, Nat.reduceEqDiff, Nat.reduceAdd, Nat.reduceMul, Nat.reduceSub, Nat.reduceBEq, Int.reduceLT, Int.reduceLE, Int.reduceEq, Int.reduceBEq, Int.reduceNeg]
  refine callP p2 ?_
  simp -dsimp -implicitDefEqProofs only [go_sem, ↓reduceIte, reduceCtorEq, Nat.reduceLT, Nat.reduceLeDiff, Nat.reduceEqDiff, Nat.reduceAdd, Nat.reduceMul, Nat.reduceSub, Nat.reduceBEq, Int.reduceLT, Int.reduceLE, Int.reduceEq, Int.reduceBEq, Int.reduceNeg]
  refine callP a1 ?_
  simp -dsimp -implicitDefEqProofs only [go_sem, ↓reduceIte, reduceCtorEq, Nat.reduceLT, Nat.reduceLeDiff, Nat.reduceEqDiff, Nat.reduceAdd, Nat.reduceMul, Nat.reduceSub, Nat.reduceBEq, Int.reduceLT, Int.reduceLE, Int.reduceEq, Int.reduceBEq, Int.reduceNeg]
  refine callP a2 ?_
  simp -dsimp -implicitDefEqProofs only [go_sem, ↓reduceIte, reduceCtorEq, Nat.reduceLT, Nat.reduceLeDiff, Nat.reduceEqDiff, Nat.reduceAdd, Nat.reduceMul, Nat.reduceSub, Nat.reduceBEq, Int.reduceLT, Int.reduceLE, Int.reduceEq, Int.reduceBEq, Int.reduceNeg]
  refine callP b1 ?_
  simp -dsimp -implicitDefEqProofs only [go_sem, ↓reduceIte, reduceCtorEq, Nat.reduceLT, Nat.reduceLeDiff, Nat.reduceEqDiff, Nat.reduceAdd, Nat.reduceMul, Nat.reduceSub, Nat.reduceBEq, Int.reduceLT, Int.reduceLE, Int.reduceEq, Int.reduceBEq, Int.reduceNeg]
  refine callP g1 ?_
  simp -dsimp -implicitDefEqProofs only [go_sem, ↓reduceIte, reduceCtorEq, Nat.reduceLT, Nat.reduceLeDiff, Nat.reduceEqDiff, Nat.reduceAdd, Nat.reduceMul, Nat.reduceSub, Nat.reduceBEq, Int.reduceLT, Int.reduceLE, Int.reduceEq, Int.reduceBEq, Int.reduceNeg]
  refine callP m1 ?_
  simp -dsimp -implicitDefEqProofs only [go_sem, ↓reduceIte, reduceCtorEq, Nat.reduceLT, Nat.reduceLeDiff, Nat.reduceEqDiff, Nat.reduceAdd, Nat.reduceMul, Nat.reduceSub, Nat.reduceBEq, Int.reduceLT, Int.reduceLE, Int.reduceEq, Int.reduceBEq, Int.reduceNeg]
  refine callP hb ?_
  simp -dsimp -implicitDefEqProofs only [go_sem, ↓reduceIte, reduceCtorEq, Nat.reduceLT, Nat.reduceLeDiff, Nat.reduceEqDiff, Nat.reduceAdd, Nat.reduceMul, Nat.reduceSub, Nat.reduceBEq, Int.reduceLT, Int.reduceLE, Int.reduceEq, Int.reduceBEq, Int.reduceNeg]
  refine callP q2 ?_
  simp -dsimp -implicitDefEqProofs only [x2, x1, go_sem, ↓reduceIte, reduceCtorEq, Nat.reduceLT, Nat.reduceLeDiff, Nat.reduceEqDiff, Nat.reduceAdd, Nat.reduceMul, Nat.reduceSub, Nat.reduceBEq, Int.reduceLT, Int.reduceLE, Int.reduceEq, Int.reduceBEq, Int.reduceNeg]
  refine callP q1 ?_
  simp -dsimp -implicitDefEqProofs only [x1, go_sem, ↓reduceIte, reduceCtorEq, Nat.reduceLT, Nat.reduceLeDiff, Nat.reduceEqDiff, Nat.reduceAdd, Nat.reduceMul, Nat.reduceSub, Nat.reduceBEq, Int.reduceLT, Int.reduceLE, Int.reduceEq, Int.reduceBEq, Int.reduceNeg]
  refine callP lm ?_
  simp -dsimp -implicitDefEqProofs only [go_sem, ↓reduceIte, reduceCtorEq, Nat.reduceLT, Nat.reduceLeDiff, Nat.reduceEqDiff, Nat.reduceAdd, Nat.reduceMul, Nat.reduceSub, Nat.reduceBEq, Int.reduceLT, Int.reduceLE, Int.reduceEq, Int.reduceBEq, Int.reduceNeg]
  refine callP mr ?_
  simp -dsimp -implicitDefEqProofs only [go_sem, ↓reduceIte, reduceCtorEq, Nat.reduceLT, Nat.reduceLeDiff, Nat.reduceEqDiff, Nat.reduceAdd, Nat.reduceMul, Nat.reduceSub, Nat.reduceBEq, Int.reduceLT, Int.reduceLE, Int.reduceEq, Int.reduceBEq, Int.reduceNeg]
theorem topPath_2 (seed : List Int) (name pat : Bs) (now : Nat) (hs : seed.length ≤ 200) (hn : isName name = true) (hp : patOk pat = true) (hw : now ≤ 1099511627776) (hm : matchB pat name = true) (h5 : 5 ≤ now) (h50 : now < 50) :
    Meets Tryz.prog 4 [(false, [vD (byD seed)]), (false, [vS name]), (false, [vS pat]), (false, [vI now])] (rOne (vB true)) := by
  have c1 : ((200 : Int) < (seed.length : Int)) = False := by simp; omega
  have c2 : ((now : Int) < 0) = False := by simp
  have c3 : ((1099511627776 : Int) < (now : Int)) = False := by simp; omega
  have hk := check_ok name
  rw [hn] at hk
  have hpk := patternE_ok pat
  rw [hp] at hpk
  obtain ⟨s1, hs1⟩ : ∃ s1, s1 = secN seed := ⟨_, rfl⟩
  obtain ⟨s2, hs2⟩ : ∃ s2, s2 = secN (seed ++ [1]) := ⟨_, rfl⟩
  have r1 := secN_rng seed (by omega)
  have r2 := secN_rng (seed ++ [1]) (by simp; omega)
  have k1 := secret_ok seed (by omega)
  have k2 := secret_ok (seed ++ [1]) (by simp; omega)
  rw [← hs1] at r1 k1
  rw [← hs2] at r2 k2
  have p1 := public_ok s1 r1.1 r1.2
  have p2 := public_ok s2 r2.1 r2.2
  have a1 := authority_ok 1 rootS s1 (pw4 s1) 2 [] (by omega) (.inl rfl) r1.1 r1.2 (pw4_pos _) (pw4_lt _) (by omega) (.inl rfl)
  have a2 := authority_ok 2 midS s1 (pw4 s2) 0 [pat] (by omega) (.inr rfl) r1.1 r1.2 (pw4_pos _) (pw4_lt _) (by omega) (.inr ⟨pat, rfl, hp⟩)
  have hlf := lfC_lf0 name hn
  have b1 := cbody_ok _ (formed_leaf _ hlf) hlf.g.b
  have hl := body_len hlf.g.b
  have g1 := sign_ok s2 (enc (bodyI (lfC name))) r2.1 r2.2 (by omega)
  have ht := trip_ok s1 s2 name pat hn hp
  have m1 := match_ok pat name
  obtain ⟨R, hR⟩ : ∃ R, R = sgn s1 (rtC s1) := ⟨_, rfl⟩
  obtain ⟨M, hM⟩ : ∃ M, M = sgn s1 (mdC s2 pat) := ⟨_, rfl⟩
  rw [show sgn s1 (auC 1 rootS rootS (pw4 s1) 2 []) = R from hR.symm] at a1
  rw [show sgn s1 (auC 2 rootS midS (pw4 s2) 0 [pat]) = M from hM.symm] at a2
  rw [← hR, ← hM] at ht
  obtain ⟨e, t, he, hte, hq⟩ := sgn_eq s2 (lfC name)
  rw [hq] at ht
  rw [← he, ← hte] at g1
  simp only [byD, List.map_append, List.map_cons, List.map_nil] at k2
  obtain ⟨K1, n1, q1⟩ : ∃ K1 : Nat, K1 ≠ 0 ∧ Meets Tryz.prog 20 [(false, [vD (ctD [R])]), (false, [vD (ctD [{ lfC name with e := e, s := t }])]), (false, [vS name]), (false, [vI now])] (rOne (vI K1)) := ⟨_, by split <;> decide, check1_ok ht now hn hw⟩
  have q2 := check2_ok ht now hn hw
  have x1 : ((K1 : Int) = 0) = False := by simp [n1]
  have lm := ht.lm
  have mr := ht.mr
  have e5 : ((5 : Int) ≤ (now : Int)) = True := by simp; omega
  rw [hm] at m1 q2
  have e50 : ((now : Int) < 50) = True := by simp; omega
  have htm : tmB { lfC name with e := e, s := t } now = true := by
    show (decide (5 ≤ now) && decide (now < 50)) = true
    simp; omega
  rw [htm] at q2
  obtain ⟨K2, n2, q2⟩ : ∃ K2 : Nat, K2 = 0 ∧ Meets Tryz.prog 20 [(false, [vD (ctD [R])]), (false, [vD (ctD [{ lfC name with e := e, s := t }, M])]), (false, [vS name]), (false, [vI now])] (rOne (vI K2)) := ⟨0, rfl, q2⟩
  have x2 : ((K2 : Int) = 0) = True := by simp [n2]
  have hb := build_yes ht now K1 K2 q1 q2 n1 n2
  refine meets Tryz.func4 rfl rfl Tryz.ntmps4 Tryz.results4 rfl ?_
  simp -dsimp -implicitDefEqProofs only [go_sem, ↓reduceIte, reduceCtorEq, Nat.reduceLT, Nat.reduceLeDiff, Nat.reduceEqDiff, Nat.reduceAdd, Nat.reduceMul, Nat.reduceSub, Nat.reduceBEq, Int.reduceLT, Int.reduceLE, Int.reduceEq, Int.reduceBEq, Int.reduceNeg]
  refine callP upT_ok ?_
  simp -dsimp -implicitDefEqProofs only [c1, go_sem, ↓reduceIte, reduceCtorEq, Nat.reduceLT, Nat.reduceLeDiff, Nat.reduceEqDiff, Nat.reduceAdd, Nat.reduceMul, Nat.reduceSub, Nat.reduceBEq, Int.reduceLT, Int.reduceLE, Int.reduceEq, Int.reduceBEq, Int.reduceNeg]
  refine callP hk ?_
  simp -dsimp -implicitDefEqProofs only [go_sem, ↓reduceIte, reduceCtorEq, Nat.reduceLT, Nat.reduceLeDiff, Nat.reduceEqDiff, Nat.reduceAdd, Nat.reduceMul, Nat.reduceSub, Nat.reduceBEq, Int.reduceLT, Int.reduceLE, Int.reduceEq, Int.reduceBEq, Int.reduceNeg]
  refine callP hpk ?_
  simp -dsimp -implicitDefEqProofs only [c2, c3, go_sem, ↓reduceIte, reduceCtorEq, Nat.reduceLT, Nat.reduceLeDiff, Nat.reduceEqDiff, Nat.reduceAdd, Nat.reduceMul, Nat.reduceSub, Nat.reduceBEq, Int.reduceLT, Int.reduceLE, Int.reduceEq, Int.reduceBEq, Int.reduceNeg]
  refine callP k1 ?_
  simp -dsimp -implicitDefEqProofs only [go_sem, ↓reduceIte, reduceCtorEq, Nat.reduceLT, Nat.reduceLeDiff, Nat.reduceEqDiff, Nat.reduceAdd, Nat.reduceMul, Nat.reduceSub, Nat.reduceBEq, Int.reduceLT, Int.reduceLE, Int.reduceEq, Int.reduceBEq, Int.reduceNeg]
  refine ⟨⟨by omega, by omega⟩, ⟨by omega, by omega⟩, callP k2 ?_⟩
  simp -dsimp -implicitDefEqProofs only [go_sem, ↓reduceIte, reduceCtorEq, Nat.reduceLT, Nat.reduceLeDiff, Nat.reduceEqDiff, Nat.reduceAdd, Nat.reduceMul, Nat.reduceSub, Nat.reduceBEq, Int.reduceLT, Int.reduceLE, Int.reduceEq, Int.reduceBEq, Int.reduceNeg]
  refine callP p1 ?_
  simp -dsimp -implicitDefEqProofs only [go_sem, ↓reduceIte, reduceCtorEq, Nat.reduceLT, Nat.reduceLeDiff, Nat.reduceEqDiff, Nat.reduceAdd, Nat.reduceMul, Nat.reduceSub, Nat.reduceBEq, Int.reduceLT, Int.reduceLE, Int.reduceEq, Int.reduceBEq, Int.reduceNeg]
  refine callP p2 ?_
  simp -dsimp -implicitDefEqProofs only [go_sem, ↓reduceIte, reduceCtorEq, Nat.reduceLT, Nat.reduceLeDiff, Nat.reduceEqDiff, Nat.reduceAdd, Nat.reduceMul, Nat.reduceSub, Nat.reduceBEq, Int.reduceLT, Int.reduceLE, Int.reduceEq, Int.reduceBEq, Int.reduceNeg]
  refine callP a1 ?_
  simp -dsimp -implicitDefEqProofs only [go_sem, ↓reduceIte, reduceCtorEq, Nat.reduceLT, Nat.reduceLeDiff, Nat.reduceEqDiff, Nat.reduceAdd, Nat.reduceMul, Nat.reduceSub, Nat.reduceBEq, Int.reduceLT, Int.reduceLE, Int.reduceEq, Int.reduceBEq, Int.reduceNeg]
  refine callP a2 ?_
  simp -dsimp -implicitDefEqProofs only [go_sem, ↓reduceIte, reduceCtorEq, Nat.reduceLT, Nat.reduceLeDiff, Nat.reduceEqDiff, Nat.reduceAdd, Nat.reduceMul, Nat.reduceSub, Nat.reduceBEq, Int.reduceLT, Int.reduceLE, Int.reduceEq, Int.reduceBEq, Int.reduceNeg]
  refine callP b1 ?_
  simp -dsimp -implicitDefEqProofs only [go_sem, ↓reduceIte, reduceCtorEq, Nat.reduceLT, Nat.reduceLeDiff, Nat.reduceEqDiff, Nat.reduceAdd, Nat.reduceMul, Nat.reduceSub, Nat.reduceBEq, Int.reduceLT, Int.reduceLE, Int.reduceEq, Int.reduceBEq, Int.reduceNeg]
  refine callP g1 ?_
  simp -dsimp -implicitDefEqProofs only [go_sem, ↓reduceIte, reduceCtorEq, Nat.reduceLT, Nat.reduceLeDiff, Nat.reduceEqDiff, Nat.reduceAdd, Nat.reduceMul, Nat.reduceSub, Nat.reduceBEq, Int.reduceLT, Int.reduceLE, Int.reduceEq, Int.reduceBEq, Int.reduceNeg]
  refine callP m1 ?_
  simp -dsimp -implicitDefEqProofs only [e5, e50, go_sem, ↓reduceIte, reduceCtorEq, Nat.reduceLT, Nat.reduceLeDiff, Nat.reduceEqDiff, Nat.reduceAdd, Nat.reduceMul, Nat.reduceSub, Nat.reduceBEq, Int.reduceLT, Int.reduceLE, Int.reduceEq, Int.reduceBEq, Int.reduceNeg]
  refine callP hb ?_
  simp -dsimp -implicitDefEqProofs only [go_sem, ↓reduceIte, reduceCtorEq, Nat.reduceLT, Nat.reduceLeDiff, Nat.reduceEqDiff, Nat.reduceAdd, Nat.reduceMul, Nat.reduceSub, Nat.reduceBEq, Int.reduceLT, Int.reduceLE, Int.reduceEq, Int.reduceBEq, Int.reduceNeg]
  refine callP q2 ?_
  simp -dsimp -implicitDefEqProofs only [x2, x1, go_sem, ↓reduceIte, reduceCtorEq, Nat.reduceLT, Nat.reduceLeDiff, Nat.reduceEqDiff, Nat.reduceAdd, Nat.reduceMul, Nat.reduceSub, Nat.reduceBEq, Int.reduceLT, Int.reduceLE, Int.reduceEq, Int.reduceBEq, Int.reduceNeg]
  refine callP q1 ?_
  simp -dsimp -implicitDefEqProofs only [x1, go_sem, ↓reduceIte, reduceCtorEq, Nat.reduceLT, Nat.reduceLeDiff, Nat.reduceEqDiff, Nat.reduceAdd, Nat.reduceMul, Nat.reduceSub, Nat.reduceBEq, Int.reduceLT, Int.reduceLE, Int.reduceEq, Int.reduceBEq, Int.reduceNeg]
  refine callP lm ?_
  simp -dsimp -implicitDefEqProofs only [go_sem, ↓reduceIte, reduceCtorEq, Nat.reduceLT, Nat.reduceLeDiff, Nat.reduceEqDiff, Nat.reduceAdd, Nat.reduceMul, Nat.reduceSub, Nat.reduceBEq, Int.reduceLT, Int.reduceLE, Int.reduceEq, Int.reduceBEq, Int.reduceNeg]
  refine callP mr ?_
  simp -dsimp -implicitDefEqProofs only [go_sem, ↓reduceIte, reduceCtorEq, Nat.reduceLT, Nat.reduceLeDiff, Nat.reduceEqDiff, Nat.reduceAdd, Nat.reduceMul, Nat.reduceSub, Nat.reduceBEq, Int.reduceLT, Int.reduceLE, Int.reduceEq, Int.reduceBEq, Int.reduceNeg]
theorem topPath_3 (seed : List Int) (name pat : Bs) (now : Nat) (hs : seed.length ≤ 200) (hn : isName name = true) (hp : patOk pat = true) (hw : now ≤ 1099511627776) (hm : matchB pat name = true) (h5 : 5 ≤ now) (h50 : ¬ now < 50) :
    Meets Tryz.prog 4 [(false, [vD (byD seed)]), (false, [vS name]), (false, [vS pat]), (false, [vI now])] (rOne (vB true)) := by
  have c1 : ((200 : Int) < (seed.length : Int)) = False := by simp; omega
  have c2 : ((now : Int) < 0) = False := by simp
  have c3 : ((1099511627776 : Int) < (now : Int)) = False := by simp; omega
  have hk := check_ok name
  rw [hn] at hk
  have hpk := patternE_ok pat
  rw [hp] at hpk
  obtain ⟨s1, hs1⟩ : ∃ s1, s1 = secN seed := ⟨_, rfl⟩
  obtain ⟨s2, hs2⟩ : ∃ s2, s2 = secN (seed ++ [1]) := ⟨_, rfl⟩
  have r1 := secN_rng seed (by omega)
  have r2 := secN_rng (seed ++ [1]) (by simp; omega)
  have k1 := secret_ok seed (by omega)
  have k2 := secret_ok (seed ++ [1]) (by simp; omega)
  rw [← hs1] at r1 k1
  rw [← hs2] at r2 k2
  have p1 := public_ok s1 r1.1 r1.2
  have p2 := public_ok s2 r2.1 r2.2
  have a1 := authority_ok 1 rootS s1 (pw4 s1) 2 [] (by omega) (.inl rfl) r1.1 r1.2 (pw4_pos _) (pw4_lt _) (by omega) (.inl rfl)
  have a2 := authority_ok 2 midS s1 (pw4 s2) 0 [pat] (by omega) (.inr rfl) r1.1 r1.2 (pw4_pos _) (pw4_lt _) (by omega) (.inr ⟨pat, rfl, hp⟩)
  have hlf := lfC_lf0 name hn
  have b1 := cbody_ok _ (formed_leaf _ hlf) hlf.g.b
  have hl := body_len hlf.g.b
  have g1 := sign_ok s2 (enc (bodyI (lfC name))) r2.1 r2.2 (by omega)
  have ht := trip_ok s1 s2 name pat hn hp
  have m1 := match_ok pat name
  obtain ⟨R, hR⟩ : ∃ R, R = sgn s1 (rtC s1) := ⟨_, rfl⟩
  obtain ⟨M, hM⟩ : ∃ M, M = sgn s1 (mdC s2 pat) := ⟨_, rfl⟩
  rw [show sgn s1 (auC 1 rootS rootS (pw4 s1) 2 []) = R from hR.symm] at a1
  rw [show sgn s1 (auC 2 rootS midS (pw4 s2) 0 [pat]) = M from hM.symm] at a2
  rw [← hR, ← hM] at ht
  obtain ⟨e, t, he, hte, hq⟩ := sgn_eq s2 (lfC name)
  rw [hq] at ht
  rw [← he, ← hte] at g1
  simp only [byD, List.map_append, List.map_cons, List.map_nil] at k2
  obtain ⟨K1, n1, q1⟩ : ∃ K1 : Nat, K1 ≠ 0 ∧ Meets Tryz.prog 20 [(false, [vD (ctD [R])]), (false, [vD (ctD [{ lfC name with e := e, s := t }])]), (false, [vS name]), (false, [vI now])] (rOne (vI K1)) := ⟨_, by split <;> decide, check1_ok ht now hn hw⟩
  have q2 := check2_ok ht now hn hw
  have x1 : ((K1 : Int) = 0) = False := by simp [n1]
  have lm := ht.lm
  have mr := ht.mr
  have e5 : ((5 : Int) ≤ (now : Int)) = True := by simp; omega
  rw [hm] at m1 q2
  have e50 : ((now : Int) < 50) = False := by simp; omega
  have htm : tmB { lfC name with e := e, s := t } now = false := by
    show (decide (5 ≤ now) && decide (now < 50)) = false
    simp; omega
  rw [htm] at q2
  obtain ⟨K2, n2, q2⟩ : ∃ K2 : Nat, K2 ≠ 0 ∧ Meets Tryz.prog 20 [(false, [vD (ctD [R])]), (false, [vD (ctD [{ lfC name with e := e, s := t }, M])]), (false, [vS name]), (false, [vI now])] (rOne (vI K2)) := ⟨190, by decide, q2⟩
  have x2 : ((K2 : Int) = 0) = False := by simp [n2]
  have hb := build_no ht now K1 K2 q1 q2 n1 n2
  refine meets Tryz.func4 rfl rfl Tryz.ntmps4 Tryz.results4 rfl ?_
  simp -dsimp -implicitDefEqProofs only [go_sem, ↓reduceIte, reduceCtorEq, Nat.reduceLT, Nat.reduceLeDiff, Nat.reduceEqDiff, Nat.reduceAdd, Nat.reduceMul, Nat.reduceSub, Nat.reduceBEq, Int.reduceLT, Int.reduceLE, Int.reduceEq, Int.reduceBEq, Int.reduceNeg]
  refine callP upT_ok ?_
  simp -dsimp -implicitDefEqProofs only [c1, go_sem, ↓reduceIte, reduceCtorEq, Nat.reduceLT, Nat.reduceLeDiff, Nat.reduceEqDiff, Nat.reduceAdd, Nat.reduceMul, Nat.reduceSub, Nat.reduceBEq, Int.reduceLT, Int.reduceLE, Int.reduceEq, Int.reduceBEq, Int.reduceNeg]
  refine callP hk ?_
  simp -dsimp -implicitDefEqProofs only [go_sem, ↓reduceIte, reduceCtorEq, Nat.reduceLT, Nat.reduceLeDiff, Nat.reduceEqDiff, Nat.reduceAdd, Nat.reduceMul, Nat.reduceSub, Nat.reduceBEq, Int.reduceLT, Int.reduceLE, Int.reduceEq, Int.reduceBEq, Int.reduceNeg]
  refine callP hpk ?_
  simp -dsimp -implicitDefEqProofs only [c2, c3, go_sem, ↓reduceIte, reduceCtorEq, Nat.reduceLT, Nat.reduceLeDiff, Nat.reduceEqDiff, Nat.reduceAdd, Nat.reduceMul, Nat.reduceSub, Nat.reduceBEq, Int.reduceLT, Int.reduceLE, Int.reduceEq, Int.reduceBEq, Int.reduceNeg]
  refine callP k1 ?_
  simp -dsimp -implicitDefEqProofs only [go_sem, ↓reduceIte, reduceCtorEq, Nat.reduceLT, Nat.reduceLeDiff, Nat.reduceEqDiff, Nat.reduceAdd, Nat.reduceMul, Nat.reduceSub, Nat.reduceBEq, Int.reduceLT, Int.reduceLE, Int.reduceEq, Int.reduceBEq, Int.reduceNeg]
  refine ⟨⟨by omega, by omega⟩, ⟨by omega, by omega⟩, callP k2 ?_⟩
  simp -dsimp -implicitDefEqProofs only [go_sem, ↓reduceIte, reduceCtorEq, Nat.reduceLT, Nat.reduceLeDiff, Nat.reduceEqDiff, Nat.reduceAdd, Nat.reduceMul, Nat.reduceSub, Nat.reduceBEq, Int.reduceLT, Int.reduceLE, Int.reduceEq, Int.reduceBEq, Int.reduceNeg]
  refine callP p1 ?_
  simp -dsimp -implicitDefEqProofs only [go_sem, ↓reduceIte, reduceCtorEq, Nat.reduceLT, Nat.reduceLeDiff, Nat.reduceEqDiff, Nat.reduceAdd, Nat.reduceMul, Nat.reduceSub, Nat.reduceBEq, Int.reduceLT, Int.reduceLE, Int.reduceEq, Int.reduceBEq, Int.reduceNeg]
  refine callP p2 ?_
  simp -dsimp -implicitDefEqProofs only [go_sem, ↓reduceIte, reduceCtorEq, Nat.reduceLT, Nat.reduceLeDiff, Nat.reduceEqDiff, Nat.reduceAdd, Nat.reduceMul, Nat.reduceSub, Nat.reduceBEq, Int.reduceLT, Int.reduceLE, Int.reduceEq, Int.reduceBEq, Int.reduceNeg]
  refine callP a1 ?_
  simp -dsimp -implicitDefEqProofs only [go_sem, ↓reduceIte, reduceCtorEq, Nat.reduceLT, Nat.reduceLeDiff, Nat.reduceEqDiff, Nat.reduceAdd, Nat.reduceMul, Nat.reduceSub, Nat.reduceBEq, Int.reduceLT, Int.reduceLE, Int.reduceEq, Int.reduceBEq, Int.reduceNeg]
  refine callP a2 ?_
  simp -dsimp -implicitDefEqProofs only [go_sem, ↓reduceIte, reduceCtorEq, Nat.reduceLT, Nat.reduceLeDiff, Nat.reduceEqDiff, Nat.reduceAdd, Nat.reduceMul, Nat.reduceSub, Nat.reduceBEq, Int.reduceLT, Int.reduceLE, Int.reduceEq, Int.reduceBEq, Int.reduceNeg]
  refine callP b1 ?_
  simp -dsimp -implicitDefEqProofs only [go_sem, ↓reduceIte, reduceCtorEq, Nat.reduceLT, Nat.reduceLeDiff, Nat.reduceEqDiff, Nat.reduceAdd, Nat.reduceMul, Nat.reduceSub, Nat.reduceBEq, Int.reduceLT, Int.reduceLE, Int.reduceEq, Int.reduceBEq, Int.reduceNeg]
  refine callP g1 ?_
  simp -dsimp -implicitDefEqProofs only [go_sem, ↓reduceIte, reduceCtorEq, Nat.reduceLT, Nat.reduceLeDiff, Nat.reduceEqDiff, Nat.reduceAdd, Nat.reduceMul, Nat.reduceSub, Nat.reduceBEq, Int.reduceLT, Int.reduceLE, Int.reduceEq, Int.reduceBEq, Int.reduceNeg]
  refine callP m1 ?_
  simp -dsimp -implicitDefEqProofs only [e5, e50, go_sem, ↓reduceIte, reduceCtorEq, Nat.reduceLT, Nat.reduceLeDiff, Nat.reduceEqDiff, Nat.reduceAdd, Nat.reduceMul, Nat.reduceSub, Nat.reduceBEq, Int.reduceLT, Int.reduceLE, Int.reduceEq, Int.reduceBEq, Int.reduceNeg]
  refine callP hb ?_
  simp -dsimp -implicitDefEqProofs only [go_sem, ↓reduceIte, reduceCtorEq, Nat.reduceLT, Nat.reduceLeDiff, Nat.reduceEqDiff, Nat.reduceAdd, Nat.reduceMul, Nat.reduceSub, Nat.reduceBEq, Int.reduceLT, Int.reduceLE, Int.reduceEq, Int.reduceBEq, Int.reduceNeg]
  refine callP q2 ?_
  simp -dsimp -implicitDefEqProofs only [x2, x1, go_sem, ↓reduceIte, reduceCtorEq, Nat.reduceLT, Nat.reduceLeDiff, Nat.reduceEqDiff, Nat.reduceAdd, Nat.reduceMul, Nat.reduceSub, Nat.reduceBEq, Int.reduceLT, Int.reduceLE, Int.reduceEq, Int.reduceBEq, Int.reduceNeg]
  refine callP q1 ?_
  simp -dsimp -implicitDefEqProofs only [x1, go_sem, ↓reduceIte, reduceCtorEq, Nat.reduceLT, Nat.reduceLeDiff, Nat.reduceEqDiff, Nat.reduceAdd, Nat.reduceMul, Nat.reduceSub, Nat.reduceBEq, Int.reduceLT, Int.reduceLE, Int.reduceEq, Int.reduceBEq, Int.reduceNeg]
  refine callP lm ?_
  simp -dsimp -implicitDefEqProofs only [go_sem, ↓reduceIte, reduceCtorEq, Nat.reduceLT, Nat.reduceLeDiff, Nat.reduceEqDiff, Nat.reduceAdd, Nat.reduceMul, Nat.reduceSub, Nat.reduceBEq, Int.reduceLT, Int.reduceLE, Int.reduceEq, Int.reduceBEq, Int.reduceNeg]
  refine callP mr ?_
  simp -dsimp -implicitDefEqProofs only [go_sem, ↓reduceIte, reduceCtorEq, Nat.reduceLT, Nat.reduceLeDiff, Nat.reduceEqDiff, Nat.reduceAdd, Nat.reduceMul, Nat.reduceSub, Nat.reduceBEq, Int.reduceLT, Int.reduceLE, Int.reduceEq, Int.reduceBEq, Int.reduceNeg]
theorem topPath_4 (seed : List Int) (name pat : Bs) (now : Nat) (hs : seed.length ≤ 200) (hn : isName name = true) (hp : patOk pat = true) (hw : now ≤ 1099511627776) (hm : matchB pat name = true) (h5 : ¬ 5 ≤ now) :
    Meets Tryz.prog 4 [(false, [vD (byD seed)]), (false, [vS name]), (false, [vS pat]), (false, [vI now])] (rOne (vB true)) := by
  have c1 : ((200 : Int) < (seed.length : Int)) = False := by simp; omega
  have c2 : ((now : Int) < 0) = False := by simp
  have c3 : ((1099511627776 : Int) < (now : Int)) = False := by simp; omega
  have hk := check_ok name
  rw [hn] at hk
  have hpk := patternE_ok pat
  rw [hp] at hpk
  obtain ⟨s1, hs1⟩ : ∃ s1, s1 = secN seed := ⟨_, rfl⟩
  obtain ⟨s2, hs2⟩ : ∃ s2, s2 = secN (seed ++ [1]) := ⟨_, rfl⟩
  have r1 := secN_rng seed (by omega)
  have r2 := secN_rng (seed ++ [1]) (by simp; omega)
  have k1 := secret_ok seed (by omega)
  have k2 := secret_ok (seed ++ [1]) (by simp; omega)
  rw [← hs1] at r1 k1
  rw [← hs2] at r2 k2
  have p1 := public_ok s1 r1.1 r1.2
  have p2 := public_ok s2 r2.1 r2.2
  have a1 := authority_ok 1 rootS s1 (pw4 s1) 2 [] (by omega) (.inl rfl) r1.1 r1.2 (pw4_pos _) (pw4_lt _) (by omega) (.inl rfl)
  have a2 := authority_ok 2 midS s1 (pw4 s2) 0 [pat] (by omega) (.inr rfl) r1.1 r1.2 (pw4_pos _) (pw4_lt _) (by omega) (.inr ⟨pat, rfl, hp⟩)
  have hlf := lfC_lf0 name hn
  have b1 := cbody_ok _ (formed_leaf _ hlf) hlf.g.b
  have hl := body_len hlf.g.b
  have g1 := sign_ok s2 (enc (bodyI (lfC name))) r2.1 r2.2 (by omega)
  have ht := trip_ok s1 s2 name pat hn hp
  have m1 := match_ok pat name
  obtain ⟨R, hR⟩ : ∃ R, R = sgn s1 (rtC s1) := ⟨_, rfl⟩
  obtain ⟨M, hM⟩ : ∃ M, M = sgn s1 (mdC s2 pat) := ⟨_, rfl⟩
  rw [show sgn s1 (auC 1 rootS rootS (pw4 s1) 2 []) = R from hR.symm] at a1
  rw [show sgn s1 (auC 2 rootS midS (pw4 s2) 0 [pat]) = M from hM.symm] at a2
  rw [← hR, ← hM] at ht
  obtain ⟨e, t, he, hte, hq⟩ := sgn_eq s2 (lfC name)
  rw [hq] at ht
  rw [← he, ← hte] at g1
  simp only [byD, List.map_append, List.map_cons, List.map_nil] at k2
  obtain ⟨K1, n1, q1⟩ : ∃ K1 : Nat, K1 ≠ 0 ∧ Meets Tryz.prog 20 [(false, [vD (ctD [R])]), (false, [vD (ctD [{ lfC name with e := e, s := t }])]), (false, [vS name]), (false, [vI now])] (rOne (vI K1)) := ⟨_, by split <;> decide, check1_ok ht now hn hw⟩
  have q2 := check2_ok ht now hn hw
  have x1 : ((K1 : Int) = 0) = False := by simp [n1]
  have lm := ht.lm
  have mr := ht.mr
  rw [hm] at m1 q2
  have e5 : ((5 : Int) ≤ (now : Int)) = False := by simp; omega
  have htm : tmB { lfC name with e := e, s := t } now = false := by
    show (decide (5 ≤ now) && decide (now < 50)) = false
    simp; omega
  rw [htm] at q2
  obtain ⟨K2, n2, q2⟩ : ∃ K2 : Nat, K2 ≠ 0 ∧ Meets Tryz.prog 20 [(false, [vD (ctD [R])]), (false, [vD (ctD [{ lfC name with e := e, s := t }, M])]), (false, [vS name]), (false, [vI now])] (rOne (vI K2)) := ⟨190, by decide, q2⟩
  have x2 : ((K2 : Int) = 0) = False := by simp [n2]
  have hb := build_no ht now K1 K2 q1 q2 n1 n2
  refine meets Tryz.func4 rfl rfl Tryz.ntmps4 Tryz.results4 rfl ?_
  simp -dsimp -implicitDefEqProofs only [go_sem, ↓reduceIte, reduceCtorEq, Nat.reduceLT, Nat.reduceLeDiff, Nat.reduceEqDiff, Nat.reduceAdd, Nat.reduceMul, Nat.reduceSub, Nat.reduceBEq, Int.reduceLT, Int.reduceLE, Int.reduceEq, Int.reduceBEq, Int.reduceNeg]
  refine callP upT_ok ?_
  simp -dsimp -implicitDefEqProofs only [c1, go_sem, ↓reduceIte, reduceCtorEq, Nat.reduceLT, Nat.reduceLeDiff, Nat.reduceEqDiff, Nat.reduceAdd, Nat.reduceMul, Nat.reduceSub, Nat.reduceBEq, Int.reduceLT, Int.reduceLE, Int.reduceEq, Int.reduceBEq, Int.reduceNeg]
  refine callP hk ?_
  simp -dsimp -implicitDefEqProofs only [go_sem, ↓reduceIte, reduceCtorEq, Nat.reduceLT, Nat.reduceLeDiff, Nat.reduceEqDiff, Nat.reduceAdd, Nat.reduceMul, Nat.reduceSub, Nat.reduceBEq, Int.reduceLT, Int.reduceLE, Int.reduceEq, Int.reduceBEq, Int.reduceNeg]
  refine callP hpk ?_
  simp -dsimp -implicitDefEqProofs only [c2, c3, go_sem, ↓reduceIte, reduceCtorEq, Nat.reduceLT, Nat.reduceLeDiff, Nat.reduceEqDiff, Nat.reduceAdd, Nat.reduceMul, Nat.reduceSub, Nat.reduceBEq, Int.reduceLT, Int.reduceLE, Int.reduceEq, Int.reduceBEq, Int.reduceNeg]
  refine callP k1 ?_
  simp -dsimp -implicitDefEqProofs only [go_sem, ↓reduceIte, reduceCtorEq, Nat.reduceLT, Nat.reduceLeDiff, Nat.reduceEqDiff, Nat.reduceAdd, Nat.reduceMul, Nat.reduceSub, Nat.reduceBEq, Int.reduceLT, Int.reduceLE, Int.reduceEq, Int.reduceBEq, Int.reduceNeg]
  refine ⟨⟨by omega, by omega⟩, ⟨by omega, by omega⟩, callP k2 ?_⟩
  simp -dsimp -implicitDefEqProofs only [go_sem, ↓reduceIte, reduceCtorEq, Nat.reduceLT, Nat.reduceLeDiff, Nat.reduceEqDiff, Nat.reduceAdd, Nat.reduceMul, Nat.reduceSub, Nat.reduceBEq, Int.reduceLT, Int.reduceLE, Int.reduceEq, Int.reduceBEq, Int.reduceNeg]
  refine callP p1 ?_
  simp -dsimp -implicitDefEqProofs only [go_sem, ↓reduceIte, reduceCtorEq, Nat.reduceLT, Nat.reduceLeDiff, Nat.reduceEqDiff, Nat.reduceAdd, Nat.reduceMul, Nat.reduceSub, Nat.reduceBEq, Int.reduceLT, Int.reduceLE, Int.reduceEq, Int.reduceBEq, Int.reduceNeg]
  refine callP p2 ?_
  simp -dsimp -implicitDefEqProofs only [go_sem, ↓reduceIte, reduceCtorEq, Nat.reduceLT, Nat.reduceLeDiff, Nat.reduceEqDiff, Nat.reduceAdd, Nat.reduceMul, Nat.reduceSub, Nat.reduceBEq, Int.reduceLT, Int.reduceLE, Int.reduceEq, Int.reduceBEq, Int.reduceNeg]
  refine callP a1 ?_
  simp -dsimp -implicitDefEqProofs only [go_sem, ↓reduceIte, reduceCtorEq, Nat.reduceLT, Nat.reduceLeDiff, Nat.reduceEqDiff, Nat.reduceAdd, Nat.reduceMul, Nat.reduceSub, Nat.reduceBEq, Int.reduceLT, Int.reduceLE, Int.reduceEq, Int.reduceBEq, Int.reduceNeg]
  refine callP a2 ?_
  simp -dsimp -implicitDefEqProofs only [go_sem, ↓reduceIte, reduceCtorEq, Nat.reduceLT, Nat.reduceLeDiff, Nat.reduceEqDiff, Nat.reduceAdd, Nat.reduceMul, Nat.reduceSub, Nat.reduceBEq, Int.reduceLT, Int.reduceLE, Int.reduceEq, Int.reduceBEq, Int.reduceNeg]
  refine callP b1 ?_
  simp -dsimp -implicitDefEqProofs only [go_sem, ↓reduceIte, reduceCtorEq, Nat.reduceLT, Nat.reduceLeDiff, Nat.reduceEqDiff, Nat.reduceAdd, Nat.reduceMul, Nat.reduceSub, Nat.reduceBEq, Int.reduceLT, Int.reduceLE, Int.reduceEq, Int.reduceBEq, Int.reduceNeg]
  refine callP g1 ?_
  simp -dsimp -implicitDefEqProofs only [go_sem, ↓reduceIte, reduceCtorEq, Nat.reduceLT, Nat.reduceLeDiff, Nat.reduceEqDiff, Nat.reduceAdd, Nat.reduceMul, Nat.reduceSub, Nat.reduceBEq, Int.reduceLT, Int.reduceLE, Int.reduceEq, Int.reduceBEq, Int.reduceNeg]
  refine callP m1 ?_
  simp -dsimp -implicitDefEqProofs only [e5, go_sem, ↓reduceIte, reduceCtorEq, Nat.reduceLT, Nat.reduceLeDiff, Nat.reduceEqDiff, Nat.reduceAdd, Nat.reduceMul, Nat.reduceSub, Nat.reduceBEq, Int.reduceLT, Int.reduceLE, Int.reduceEq, Int.reduceBEq, Int.reduceNeg]
  refine callP hb ?_
  simp -dsimp -implicitDefEqProofs only [go_sem, ↓reduceIte, reduceCtorEq, Nat.reduceLT, Nat.reduceLeDiff, Nat.reduceEqDiff, Nat.reduceAdd, Nat.reduceMul, Nat.reduceSub, Nat.reduceBEq, Int.reduceLT, Int.reduceLE, Int.reduceEq, Int.reduceBEq, Int.reduceNeg]
  refine callP q2 ?_
  simp -dsimp -implicitDefEqProofs only [x2, x1, go_sem, ↓reduceIte, reduceCtorEq, Nat.reduceLT, Nat.reduceLeDiff, Nat.reduceEqDiff, Nat.reduceAdd, Nat.reduceMul, Nat.reduceSub, Nat.reduceBEq, Int.reduceLT, Int.reduceLE, Int.reduceEq, Int.reduceBEq, Int.reduceNeg]
  refine callP q1 ?_
  simp -dsimp -implicitDefEqProofs only [x1, go_sem, ↓reduceIte, reduceCtorEq, Nat.reduceLT, Nat.reduceLeDiff, Nat.reduceEqDiff, Nat.reduceAdd, Nat.reduceMul, Nat.reduceSub, Nat.reduceBEq, Int.reduceLT, Int.reduceLE, Int.reduceEq, Int.reduceBEq, Int.reduceNeg]
  refine callP lm ?_
  simp -dsimp -implicitDefEqProofs only [go_sem, ↓reduceIte, reduceCtorEq, Nat.reduceLT, Nat.reduceLeDiff, Nat.reduceEqDiff, Nat.reduceAdd, Nat.reduceMul, Nat.reduceSub, Nat.reduceBEq, Int.reduceLT, Int.reduceLE, Int.reduceEq, Int.reduceBEq, Int.reduceNeg]
  refine callP mr ?_
  simp -dsimp -implicitDefEqProofs only [go_sem, ↓reduceIte, reduceCtorEq, Nat.reduceLT, Nat.reduceLeDiff, Nat.reduceEqDiff, Nat.reduceAdd, Nat.reduceMul, Nat.reduceSub, Nat.reduceBEq, Int.reduceLT, Int.reduceLE, Int.reduceEq, Int.reduceBEq, Int.reduceNeg]
theorem topPath_good (seed : List Int) (name pat : Bs) (now : Nat) (hs : seed.length ≤ 200) (hn : isName name = true) (hp : patOk pat = true) (hw : now ≤ 1099511627776) :
    Meets Tryz.prog 4 [(false, [vD (byD seed)]), (false, [vS name]), (false, [vS pat]), (false, [vI now])] (rOne (vB true)) := by
  cases hm : matchB pat name
  · exact topPath_1 seed name pat now hs hn hp hw hm
  · by_cases h5 : 5 ≤ now
    · by_cases h50 : now < 50
      · exact topPath_2 seed name pat now hs hn hp hw hm h5 h50
      · exact topPath_3 seed name pat now hs hn hp hw hm h5 h50
    · exact topPath_4 seed name pat now hs hn hp hw hm h5
end Go.Proofs.YtijfncaphfaijaaGreatDoor
namespace Go.Proofs.YtijfncaphfaijaaGreatDoor
open Go.Eng
set_option linter.unusedSimpArgs false
set_option maxRecDepth 10000

theorem topPath_ok (seed : List Int) (name pat : Bs) (now : Int) :
    Meets Tryz.prog 4 [(false, [vD (byD seed)]), (false, [vS name]), (false, [vS pat]), (false, [vI now])] (rOne (vB true)) := by
  have hk := check_ok name
  have hpk := patternE_ok pat
  by_cases hs : seed.length ≤ 200
  · have c1 : ((200 : Int) < (seed.length : Int)) = False := by simp; omega
    cases hn : isName name
    · rw [hn] at hk
      refine meets Tryz.func4 rfl rfl Tryz.ntmps4 Tryz.results4 rfl ?_
      simp -dsimp -implicitDefEqProofs only [go_sem, ↓reduceIte, reduceCtorEq, Nat.reduceLT, Nat.reduceLeDiff, Nat.reduceEqDiff, Nat.reduceAdd, Nat.reduceMul, Nat.reduceSub, Nat.reduceBEq, Int.reduceLT, Int.reduceLE, Int.reduceEq, Int.reduceBEq, Int.reduceNeg]
      refine callP upT_ok ?_
      simp -dsimp -implicitDefEqProofs only [c1, go_sem, ↓reduceIte, reduceCtorEq, Nat.reduceLT, Nat.reduceLeDiff, Nat.reduceEqDiff, Nat.reduceAdd, Nat.reduceMul, Nat.reduceSub, Nat.reduceBEq, Int.reduceLT, Int.reduceLE, Int.reduceEq, Int.reduceBEq, Int.reduceNeg]
      refine callP hk ?_
      simp -dsimp -implicitDefEqProofs only [go_sem, ↓reduceIte, reduceCtorEq, Nat.reduceLT, Nat.reduceLeDiff, Nat.reduceEqDiff, Nat.reduceAdd, Nat.reduceMul, Nat.reduceSub, Nat.reduceBEq, Int.reduceLT, Int.reduceLE, Int.reduceEq, Int.reduceBEq, Int.reduceNeg]
    · rw [hn] at hk
      cases hp : patOk pat
      · rw [hp] at hpk
        refine meets Tryz.func4 rfl rfl Tryz.ntmps4 Tryz.results4 rfl ?_
        simp -dsimp -implicitDefEqProofs only [go_sem, ↓reduceIte, reduceCtorEq, Nat.reduceLT, Nat.reduceLeDiff, Nat.reduceEqDiff, Nat.reduceAdd, Nat.reduceMul, Nat.reduceSub, Nat.reduceBEq, Int.reduceLT, Int.reduceLE, Int.reduceEq, Int.reduceBEq, Int.reduceNeg]
        refine callP upT_ok ?_
        simp -dsimp -implicitDefEqProofs only [c1, go_sem, ↓reduceIte, reduceCtorEq, Nat.reduceLT, Nat.reduceLeDiff, Nat.reduceEqDiff, Nat.reduceAdd, Nat.reduceMul, Nat.reduceSub, Nat.reduceBEq, Int.reduceLT, Int.reduceLE, Int.reduceEq, Int.reduceBEq, Int.reduceNeg]
        refine callP hk ?_
        simp -dsimp -implicitDefEqProofs only [go_sem, ↓reduceIte, reduceCtorEq, Nat.reduceLT, Nat.reduceLeDiff, Nat.reduceEqDiff, Nat.reduceAdd, Nat.reduceMul, Nat.reduceSub, Nat.reduceBEq, Int.reduceLT, Int.reduceLE, Int.reduceEq, Int.reduceBEq, Int.reduceNeg]
        refine callP hpk ?_
        simp -dsimp -implicitDefEqProofs only [go_sem, ↓reduceIte, reduceCtorEq, Nat.reduceLT, Nat.reduceLeDiff, Nat.reduceEqDiff, Nat.reduceAdd, Nat.reduceMul, Nat.reduceSub, Nat.reduceBEq, Int.reduceLT, Int.reduceLE, Int.reduceEq, Int.reduceBEq, Int.reduceNeg]
      · rw [hp] at hpk
        by_cases h0 : now < 0
        · have c2 : (now < 0) = True := by simp; omega
          refine meets Tryz.func4 rfl rfl Tryz.ntmps4 Tryz.results4 rfl ?_
          simp -dsimp -implicitDefEqProofs only [go_sem, ↓reduceIte, reduceCtorEq, Nat.reduceLT, Nat.reduceLeDiff, Nat.reduceEqDiff, Nat.reduceAdd, Nat.reduceMul, Nat.reduceSub, Nat.reduceBEq, Int.reduceLT, Int.reduceLE, Int.reduceEq, Int.reduceBEq, Int.reduceNeg]
          refine callP upT_ok ?_
          simp -dsimp -implicitDefEqProofs only [c1, go_sem, ↓reduceIte, reduceCtorEq, Nat.reduceLT, Nat.reduceLeDiff, Nat.reduceEqDiff, Nat.reduceAdd, Nat.reduceMul, Nat.reduceSub, Nat.reduceBEq, Int.reduceLT, Int.reduceLE, Int.reduceEq, Int.reduceBEq, Int.reduceNeg]
          refine callP hk ?_
          simp -dsimp -implicitDefEqProofs only [go_sem, ↓reduceIte, reduceCtorEq, Nat.reduceLT, Nat.reduceLeDiff, Nat.reduceEqDiff, Nat.reduceAdd, Nat.reduceMul, Nat.reduceSub, Nat.reduceBEq, Int.reduceLT, Int.reduceLE, Int.reduceEq, Int.reduceBEq, Int.reduceNeg]
          refine callP hpk ?_
          simp -dsimp -implicitDefEqProofs only [c2, go_sem, ↓reduceIte, reduceCtorEq, Nat.reduceLT, Nat.reduceLeDiff, Nat.reduceEqDiff, Nat.reduceAdd, Nat.reduceMul, Nat.reduceSub, Nat.reduceBEq, Int.reduceLT, Int.reduceLE, Int.reduceEq, Int.reduceBEq, Int.reduceNeg]
        · have c2 : (now < 0) = False := by simp; omega
          by_cases h1 : now ≤ 1099511627776
          · obtain ⟨n, rfl⟩ : ∃ n : Nat, now = n := ⟨now.toNat, by omega⟩
            exact topPath_good seed name pat n hs hn hp (by omega)
          · have c3 : ((1099511627776 : Int) < now) = True := by simp; omega
            refine meets Tryz.func4 rfl rfl Tryz.ntmps4 Tryz.results4 rfl ?_
            simp -dsimp -implicitDefEqProofs only [go_sem, ↓reduceIte, reduceCtorEq, Nat.reduceLT, Nat.reduceLeDiff, Nat.reduceEqDiff, Nat.reduceAdd, Nat.reduceMul, Nat.reduceSub, Nat.reduceBEq, Int.reduceLT, Int.reduceLE, Int.reduceEq, Int.reduceBEq, Int.reduceNeg]
            refine callP upT_ok ?_
            simp -dsimp -implicitDefEqProofs only [c1, go_sem, ↓reduceIte, reduceCtorEq, Nat.reduceLT, Nat.reduceLeDiff, Nat.reduceEqDiff, Nat.reduceAdd, Nat.reduceMul, Nat.reduceSub, Nat.reduceBEq, Int.reduceLT, Int.reduceLE, Int.reduceEq, Int.reduceBEq, Int.reduceNeg]
            refine callP hk ?_
            simp -dsimp -implicitDefEqProofs only [go_sem, ↓reduceIte, reduceCtorEq, Nat.reduceLT, Nat.reduceLeDiff, Nat.reduceEqDiff, Nat.reduceAdd, Nat.reduceMul, Nat.reduceSub, Nat.reduceBEq, Int.reduceLT, Int.reduceLE, Int.reduceEq, Int.reduceBEq, Int.reduceNeg]
            refine callP hpk ?_
            simp -dsimp -implicitDefEqProofs only [c2, c3, go_sem, ↓reduceIte, reduceCtorEq, Nat.reduceLT, Nat.reduceLeDiff, Nat.reduceEqDiff, Nat.reduceAdd, Nat.reduceMul, Nat.reduceSub, Nat.reduceBEq, Int.reduceLT, Int.reduceLE, Int.reduceEq, Int.reduceBEq, Int.reduceNeg]
  · have c1 : ((200 : Int) < (seed.length : Int)) = True := by simp; omega
    refine meets Tryz.func4 rfl rfl Tryz.ntmps4 Tryz.results4 rfl ?_
    simp -dsimp -implicitDefEqProofs only [go_sem, ↓reduceIte, reduceCtorEq, Nat.reduceLT, Nat.reduceLeDiff, Nat.reduceEqDiff, Nat.reduceAdd, Nat.reduceMul, Nat.reduceSub, Nat.reduceBEq, Int.reduceLT, Int.reduceLE, Int.reduceEq, Int.reduceBEq, Int.reduceNeg]
    refine callP upT_ok ?_
    simp -dsimp -implicitDefEqProofs only [c1, go_sem, ↓reduceIte, reduceCtorEq, Nat.reduceLT, Nat.reduceLeDiff, Nat.reduceEqDiff, Nat.reduceAdd, Nat.reduceMul, Nat.reduceSub, Nat.reduceBEq, Int.reduceLT, Int.reduceLE, Int.reduceEq, Int.reduceBEq, Int.reduceNeg]
end Go.Proofs.YtijfncaphfaijaaGreatDoor
