
/- RoutePuts: the law's contract. -/
import Derived.Test.YtidnnaobhcffcaaGreatDoorRJ
namespace Go.Proofs.YtidnnaobhcffcaaGreatDoor
open Go.Eng
set_option linter.unusedSimpArgs false
set_option maxRecDepth 10000

structure WoIn (l : List Zn) where
  i : Nat
  le : i ≤ l.length
structure NoInv (l : List Zn) (z : Zn) where
  i : Nat
  le : i ≤ l.length
  no : ∀ j x, j < i → l[j]? = some x → x ≠ z
theorem one_at {α : Type} {l : List α} {i : Nat} {x : α} (h : l[i]? = some x) : (l.drop i).take 1 = [x] := by
  obtain ⟨h1, h2⟩ := List.getElem?_eq_some_iff.1 h
  rw [List.drop_eq_getElem_cons h1, h2]; rfl
theorem among_ok (l : List Zn) (hl : l.length ≤ 1000) (hr : ∀ x ∈ l, x.R.length ≤ 1000) (z : Zn) : Meets Tryz.prog 30 [(false, [vD (zonesD l)]), z.arg] (rOne (vB (decide (z ∈ l)))) := by
  refine meets Tryz.func30 rfl rfl Tryz.ntmps30 Tryz.results30 rfl ?_
  simp -dsimp -implicitDefEqProofs only [go_sem, ↓reduceIte, reduceCtorEq, Nat.reduceLT, Nat.reduceLeDiff, Nat.reduceEqDiff, Nat.reduceAdd, Nat.reduceMul, Nat.reduceSub, Nat.reduceBEq, Int.reduceLT, Int.reduceLE, Int.reduceEq, Int.reduceBEq, Int.reduceNeg]
  refine vfor sitOk (ι := NoInv l z) (fun v => ⟨20, [(5, aI v.i), (3, aP 0 0), (0, aD (zonesD l))], [(0, some (.var [cS z.A, cD (recsD z.R)] true))], 100⟩) (fun v => l.length - v.i) ⟨0, by omega, fun j x hj => by omega⟩ ?_ ?_
  · simp -dsimp -implicitDefEqProofs only [go_sem, ↓reduceIte, reduceCtorEq, Nat.reduceLT, Nat.reduceLeDiff, Nat.reduceEqDiff, Nat.reduceAdd, Nat.reduceMul, Nat.reduceSub, Nat.reduceBEq, Int.reduceLT, Int.reduceLE, Int.reduceEq, Int.reduceBEq, Int.reduceNeg]
  intro ⟨i, hi, hno⟩
  simp -dsimp -implicitDefEqProofs only [go_sem, ↓reduceIte, reduceCtorEq, Nat.reduceLT, Nat.reduceLeDiff, Nat.reduceEqDiff, Nat.reduceAdd, Nat.reduceMul, Nat.reduceSub, Nat.reduceBEq, Int.reduceLT, Int.reduceLE, Int.reduceEq, Int.reduceBEq, Int.reduceNeg]
  refine ⟨fun hlt => ?_, fun hge => ?_⟩
  · have hil : i < l.length := by omega
    obtain ⟨x, hx⟩ : ∃ x, l[i]? = some x := ⟨_, List.getElem?_eq_getElem hil⟩
    have hw := wrapS hil (by omega)
    have h1 : ((l.map Zn.cells).take (i + 1)).drop i = [x].map Zn.cells := by
      rw [List.drop_take, show i + 1 - i = 1 by omega, one_at (x := x.cells) (by rw [List.getElem?_map, hx]; rfl)]; rfl
    have hs := samez_ok [x] [z] (by simp) (by simpa using hr x (List.mem_of_getElem? hx))
    simp -dsimp -implicitDefEqProofs only [hw, h1, go_sem, ↓reduceIte, reduceCtorEq, Nat.reduceLT, Nat.reduceLeDiff, Nat.reduceEqDiff, Nat.reduceAdd, Nat.reduceMul, Nat.reduceSub, Nat.reduceBEq, Int.reduceLT, Int.reduceLE, Int.reduceEq, Int.reduceBEq, Int.reduceNeg]
    refine ⟨⟨by omega, by omega, by omega⟩, callP hs ?_⟩
    by_cases he : x = z
    · subst he
      have hm : decide (x ∈ l) = true := decide_eq_true (List.mem_of_getElem? hx)
      rw [hm]
      simp -dsimp -implicitDefEqProofs only [decide_true, go_sem, ↓reduceIte, reduceCtorEq, Nat.reduceLT, Nat.reduceLeDiff, Nat.reduceEqDiff, Nat.reduceAdd, Nat.reduceMul, Nat.reduceSub, Nat.reduceBEq, Int.reduceLT, Int.reduceLE, Int.reduceEq, Int.reduceBEq, Int.reduceNeg]
      exact drawn (by kernel_rfl)
    · have hd : decide ([x] = [z]) = false := decide_eq_false (by simpa using he)
      simp -dsimp -implicitDefEqProofs only [hd, go_sem, ↓reduceIte, reduceCtorEq, Nat.reduceLT, Nat.reduceLeDiff, Nat.reduceEqDiff, Nat.reduceAdd, Nat.reduceMul, Nat.reduceSub, Nat.reduceBEq, Int.reduceLT, Int.reduceLE, Int.reduceEq, Int.reduceBEq, Int.reduceNeg]
      refine ⟨drawn (by kernel_rfl), fun h => absurd h he, fun _ => again ⟨i + 1, by omega, fun j y hj hy => by
        by_cases hji : j = i
        · subst hji; rw [hx] at hy; cases hy; exact he
        · exact hno j y (by omega) hy⟩ (by simp; omega) ?_⟩
      simp -dsimp -implicitDefEqProofs only [hw, go_sem, ↓reduceIte, reduceCtorEq, Nat.reduceLT, Nat.reduceLeDiff, Nat.reduceEqDiff, Nat.reduceAdd, Nat.reduceMul, Nat.reduceSub, Nat.reduceBEq, Int.reduceLT, Int.reduceLE, Int.reduceEq, Int.reduceBEq, Int.reduceNeg]
  · have hil : i = l.length := by omega
    subst hil
    have : decide (z ∈ l) = false := decide_eq_false fun h => by
      obtain ⟨j, hj⟩ := List.mem_iff_getElem?.1 h
      exact hno j z (List.getElem?_eq_some_iff.1 hj).1 hj rfl
    rw [this]
theorem metN_step {l : List Zn} {i : Nat} {x : Zn} (hx : l[i]? = some x) (k : Bs) : metN (l.take (i + 1)) k = metN (l.take i) k + if x.A = k then 1 else 0 := by
  unfold metN
  rw [List.take_add_one, hx, List.filter_append, List.length_append]
  congr 1
  by_cases h : x.A = k <;> simp [h]
theorem metN_le (l : List Zn) (k : Bs) : metN l k ≤ l.length := List.length_filter_le _ _
theorem rputs13_ok (n : Nt) (addr : Int) (z : Zn) (other : Int) (hk : ∀ c ∈ n.C, -9223372036854775808 ≤ c.B ∧ c.B ≤ 9223372036854775807) (hw : ∀ c ∈ n.C, c.W.length ≤ 9223372036854775807) :
    Meets Tryz.prog 8 [n.arg, (false, [vI addr]), z.arg, (false, [vI other])] (rOne (vB true)) := by
  refine meets Tryz.func8 rfl rfl Tryz.ntmps8 Tryz.results8 rfl ?_
  simp -dsimp -implicitDefEqProofs only [go_sem, ↓reduceIte, reduceCtorEq, Nat.reduceLT, Nat.reduceLeDiff, Nat.reduceEqDiff, Nat.reduceAdd, Nat.reduceMul, Nat.reduceSub, Nat.reduceBEq, Int.reduceLT, Int.reduceLE, Int.reduceEq, Int.reduceBEq, Int.reduceNeg]
  refine callP live13_ok ?_
  simp -dsimp -implicitDefEqProofs only [go_sem, ↓reduceIte, reduceCtorEq, Nat.reduceLT, Nat.reduceLeDiff, Nat.reduceEqDiff, Nat.reduceAdd, Nat.reduceMul, Nat.reduceSub, Nat.reduceBEq, Int.reduceLT, Int.reduceLE, Int.reduceEq, Int.reduceBEq, Int.reduceNeg]
  refine callP (rfewN_ok n) ?_
  simp -dsimp -implicitDefEqProofs only [go_sem, ↓reduceIte, reduceCtorEq, Nat.reduceLT, Nat.reduceLeDiff, Nat.reduceEqDiff, Nat.reduceAdd, Nat.reduceMul, Nat.reduceSub, Nat.reduceBEq, Int.reduceLT, Int.reduceLE, Int.reduceEq, Int.reduceBEq, Int.reduceNeg]
  intro hf
  refine callP (little_ok z) ?_
  simp -dsimp -implicitDefEqProofs only [go_sem, ↓reduceIte, reduceCtorEq, Nat.reduceLT, Nat.reduceLeDiff, Nat.reduceEqDiff, Nat.reduceAdd, Nat.reduceMul, Nat.reduceSub, Nat.reduceBEq, Int.reduceLT, Int.reduceLE, Int.reduceEq, Int.reduceBEq, Int.reduceNeg]
  intro hl
  have hz := sz_of hf hk hw
  have hfz := few_sz hf
  have hzl := little_len hl
  have hr : z.R.length ≤ 1000 := by omega
  have s1 := put_sz hz (by omega) (fun s hs => by have := hfz.2.2.2.1 s hs; omega) addr hr
  refine callP (nput_ok n hz addr z hr) ?_
  by_cases he : nputE n addr z = 0
  · obtain ⟨a1, a2⟩ := put_again he
    have hc := put_chk he
    obtain ⟨h0, h1, h2, h3, e⟩ := put_ok0 he
    obtain ⟨z1, z2, z3⟩ := zs_ris h0 addr
    obtain ⟨p1, p2⟩ := put_seen he
    obtain ⟨q1, q2⟩ := straight h0 addr
    have l0 := srvS_len hz (-1) addr
    have l1 := srvS_len s1 (-1) addr
    have eZ : (newSv n addr z).Z = withK koS kZ (svG n addr).Z z := rfl
    have eA : (newSv n addr z).A = addr := rfl
    have tZ : (srvS n (-1) addr).Z = (svG n addr).Z := by
      rw [q2]
      cases hs : svF n addr with
      | some s => rfl
      | none => unfold svG; rw [hs]; rfl
    have eB : ((nputN n addr z).B.length : Int) = (n.B.length : Int) := by rw [e]
    have eC : ((nputN n addr z).C.length : Int) = (n.C.length : Int) := by rw [e]
    rw [p2, eZ] at l1
    rw [tZ] at l0
    have hwl := withK_len (o := koS) (key := kZ) (svG n addr).Z z
    simp -dsimp -implicitDefEqProofs only [he, go_sem, ↓reduceIte, reduceCtorEq, Nat.reduceLT, Nat.reduceLeDiff, Nat.reduceEqDiff, Nat.reduceAdd, Nat.reduceMul, Nat.reduceSub, Nat.reduceBEq, Int.reduceLT, Int.reduceLE, Int.reduceEq, Int.reduceBEq, Int.reduceNeg]
    refine callP (nput_ok (nputN n addr z) s1 addr z hr) ?_
    rw [a1, a2]
    simp -dsimp -implicitDefEqProofs only [go_sem, ↓reduceIte, reduceCtorEq, Nat.reduceLT, Nat.reduceLeDiff, Nat.reduceEqDiff, Nat.reduceAdd, Nat.reduceMul, Nat.reduceSub, Nat.reduceBEq, Int.reduceLT, Int.reduceLE, Int.reduceEq, Int.reduceBEq, Int.reduceNeg]
    refine callP (srv_ok (nputN n addr z) s1 (-1) addr) ?_
    rw [p1, p2, eZ, eA]
    simp -dsimp -implicitDefEqProofs only [go_sem, ↓reduceIte, reduceCtorEq, Nat.reduceLT, Nat.reduceLeDiff, Nat.reduceEqDiff, Nat.reduceAdd, Nat.reduceMul, Nat.reduceSub, Nat.reduceBEq, Int.reduceLT, Int.reduceLE, Int.reduceEq, Int.reduceBEq, Int.reduceNeg]
    refine callP (srv_ok n hz (-1) addr) ?_
    rw [tZ]
    simp -dsimp -implicitDefEqProofs only [go_sem, ↓reduceIte, reduceCtorEq, Nat.reduceLT, Nat.reduceLeDiff, Nat.reduceEqDiff, Nat.reduceAdd, Nat.reduceMul, Nat.reduceSub, Nat.reduceBEq, Int.reduceLT, Int.reduceLE, Int.reduceEq, Int.reduceBEq, Int.reduceNeg]
    refine callP (sameN_ok (nputN n addr z) (nputN n addr z) s1) ?_
    simp -dsimp -implicitDefEqProofs only [decide_true, go_sem, ↓reduceIte, reduceCtorEq, Nat.reduceLT, Nat.reduceLeDiff, Nat.reduceEqDiff, Nat.reduceAdd, Nat.reduceMul, Nat.reduceSub, Nat.reduceBEq, Int.reduceLT, Int.reduceLE, Int.reduceEq, Int.reduceBEq, Int.reduceNeg]
    refine callP (check_okN (nputN n addr z) s1) ?_
    simp -dsimp -implicitDefEqProofs only [hc, eB, eC, go_sem, ↓reduceIte, reduceCtorEq, Nat.reduceLT, Nat.reduceLeDiff, Nat.reduceEqDiff, Nat.reduceAdd, Nat.reduceMul, Nat.reduceSub, Nat.reduceBEq, Int.reduceLT, Int.reduceLE, Int.reduceEq, Int.reduceBEq, Int.reduceNeg]
    have hWr := with_ris z1 z
    have hWz : z ∈ withK koS kZ (svG n addr).Z z := (mem_with z1).2 (.inl rfl)
    have hmet := met_with z1 z
    have hin : ∀ x ∈ (svG n addr).Z, x.A ≠ z.A → x ∈ withK koS kZ (svG n addr).Z z := fun x hx hn => (mem_with z1).2 (.inr ⟨hx, hn⟩)
    have hone : srvB n (-1) addr = false → (withK koS kZ (svG n addr).Z z).length = 1 := fun h => by
      rw [q1] at h
      have hg : (svG n addr).Z = [] := by
        unfold svG
        cases hs : svF n addr with
        | some s => rw [hs] at h; cases h
        | none => rfl
      rw [hg, with_filter ris_nil]; rfl
    generalize hW : withK koS kZ (svG n addr).Z z = W at *
    generalize (svG n addr).Z = T at *
    refine vsettle 328 1 ?_
    simp -dsimp -implicitDefEqProofs only [go_sem, ↓reduceIte, reduceCtorEq, Nat.reduceLT, Nat.reduceLeDiff, Nat.reduceEqDiff, Nat.reduceAdd, Nat.reduceMul, Nat.reduceSub, Nat.reduceBEq, Int.reduceLT, Int.reduceLE, Int.reduceEq, Int.reduceBEq, Int.reduceNeg]
    refine vsettle 400 1 ?_
    simp -dsimp -implicitDefEqProofs only [go_sem, ↓reduceIte, reduceCtorEq, Nat.reduceLT, Nat.reduceLeDiff, Nat.reduceEqDiff, Nat.reduceAdd, Nat.reduceMul, Nat.reduceSub, Nat.reduceBEq, Int.reduceLT, Int.reduceLE, Int.reduceEq, Int.reduceBEq, Int.reduceNeg]
    refine vdata 160 0 ?_
    simp -dsimp -implicitDefEqProofs only [go_sem, ↓reduceIte, reduceCtorEq, Nat.reduceLT, Nat.reduceLeDiff, Nat.reduceEqDiff, Nat.reduceAdd, Nat.reduceMul, Nat.reduceSub, Nat.reduceBEq, Int.reduceLT, Int.reduceLE, Int.reduceEq, Int.reduceBEq, Int.reduceNeg]
    refine vfor sitOk (ι := WoIn W) (fun v => ⟨208, [(18, aI v.i), (17, aI (metN (W.take v.i) z.A)), (16, aB (srvB n (-1) addr)), (15, aP 400 0), (13, aP 328 0), (9, aP 160 0), (6, aP 8 0), (4, aP 0 0), (1, aI addr), (3, aI other)],
      [(400, some (.var [cI (srvS n (-1) addr).A, cD (zonesD T)] true)), (328, some (.var [cI addr, cD (zonesD W)] true)), (160, some (.var [cD (svsD (nputN n addr z).V), cI (nputN n addr z).N, cD (bnsD (nputN n addr z).B), cD (cksD (nputN n addr z).C)] true)), (8, some (.var [cS z.A, cD (recsD z.R)] true)), (0, some (.var [cD (svsD n.V), cI n.N, cD (bnsD n.B), cD (cksD n.C)] true))], 1000⟩) (fun v => W.length - v.i) ⟨0, by omega⟩ ?_ ?_
    · simp -dsimp -implicitDefEqProofs only [go_sem, ↓reduceIte, reduceCtorEq, Nat.reduceLT, Nat.reduceLeDiff, Nat.reduceEqDiff, Nat.reduceAdd, Nat.reduceMul, Nat.reduceSub, Nat.reduceBEq, Int.reduceLT, Int.reduceLE, Int.reduceEq, Int.reduceBEq, Int.reduceNeg]
      rfl
    intro ⟨i, hi⟩
    have hml := metN_le (W.take i) z.A
    have htl : (W.take i).length ≤ W.length := by simp; omega
    simp -dsimp -implicitDefEqProofs only [go_sem, ↓reduceIte, reduceCtorEq, Nat.reduceLT, Nat.reduceLeDiff, Nat.reduceEqDiff, Nat.reduceAdd, Nat.reduceMul, Nat.reduceSub, Nat.reduceBEq, Int.reduceLT, Int.reduceLE, Int.reduceEq, Int.reduceBEq, Int.reduceNeg]
    refine ⟨fun hlt => ?_, fun hge => ?_⟩
    · have hil : i < W.length := by omega
      obtain ⟨x, hx⟩ : ∃ x, W[i]? = some x := ⟨_, List.getElem?_eq_getElem hil⟩
      have hwi := wrapS hil (by omega)
      have hst := metN_step hx z.A
      have h1 : ((W.map Zn.cells).take (i + 1)).drop i = [x].map Zn.cells := by
        rw [List.drop_take, show i + 1 - i = 1 by omega, one_at (x := x.cells) (by rw [List.getElem?_map, hx]; rfl)]; rfl
      by_cases hA : x.A = z.A
      · have hxz : x = z := ris_key hWr (List.mem_of_getElem? hx) hWz hA
        subst hxz
        rw [if_pos rfl] at hst
        have hwm : IntKind.i64.wrap ((metN (W.take i) x.A : Int) + 1) = ((metN (W.take (i + 1)) x.A : Nat) : Int) := by rw [hst, wrap64] <;> omega
        have hs := samez_ok [x] [x] (by simp) (by simpa using hr)
        simp -dsimp -implicitDefEqProofs only [hx, forall_eq', hwi, hwm, h1, go_sem, ↓reduceIte, reduceCtorEq, Nat.reduceLT, Nat.reduceLeDiff, Nat.reduceEqDiff, Nat.reduceAdd, Nat.reduceMul, Nat.reduceSub, Nat.reduceBEq, Int.reduceLT, Int.reduceLE, Int.reduceEq, Int.reduceBEq, Int.reduceNeg]
        refine ⟨by omega, hil, drawn (by kernel_rfl), ⟨by omega, by omega, by omega⟩, callP hs ?_⟩
        simp -dsimp -implicitDefEqProofs only [decide_true, go_sem, ↓reduceIte, reduceCtorEq, Nat.reduceLT, Nat.reduceLeDiff, Nat.reduceEqDiff, Nat.reduceAdd, Nat.reduceMul, Nat.reduceSub, Nat.reduceBEq, Int.reduceLT, Int.reduceLE, Int.reduceEq, Int.reduceBEq, Int.reduceNeg]
        refine ⟨drawn (by kernel_rfl), again ⟨i + 1, by omega⟩ (by simp; omega) ?_⟩
        simp -dsimp -implicitDefEqProofs only [hwi, hwm, go_sem, ↓reduceIte, reduceCtorEq, Nat.reduceLT, Nat.reduceLeDiff, Nat.reduceEqDiff, Nat.reduceAdd, Nat.reduceMul, Nat.reduceSub, Nat.reduceBEq, Int.reduceLT, Int.reduceLE, Int.reduceEq, Int.reduceBEq, Int.reduceNeg]
      · rw [if_neg hA, Nat.add_zero] at hst
        simp -dsimp -implicitDefEqProofs only [hx, forall_eq', hwi, hA, go_sem, ↓reduceIte, reduceCtorEq, Nat.reduceLT, Nat.reduceLeDiff, Nat.reduceEqDiff, Nat.reduceAdd, Nat.reduceMul, Nat.reduceSub, Nat.reduceBEq, Int.reduceLT, Int.reduceLE, Int.reduceEq, Int.reduceBEq, Int.reduceNeg]
        refine ⟨by omega, hil, drawn (by kernel_rfl), again ⟨i + 1, by omega⟩ (by simp; omega) ?_⟩
        simp -dsimp -implicitDefEqProofs only [hwi, hst, go_sem, ↓reduceIte, reduceCtorEq, Nat.reduceLT, Nat.reduceLeDiff, Nat.reduceEqDiff, Nat.reduceAdd, Nat.reduceMul, Nat.reduceSub, Nat.reduceBEq, Int.reduceLT, Int.reduceLE, Int.reduceEq, Int.reduceBEq, Int.reduceNeg]
    · have hil : i = W.length := by omega
      subst hil
      rw [List.take_length] at *
      rw [hmet]
      refine vfor sitOk (ι := WoIn T) (fun v => ⟨208, [(19, aI v.i), (17, aI 1), (16, aB (srvB n (-1) addr)), (15, aP 400 0), (13, aP 328 0), (9, aP 160 0), (6, aP 8 0), (4, aP 0 0), (1, aI addr), (3, aI other)],
        [(400, some (.var [cI (srvS n (-1) addr).A, cD (zonesD T)] true)), (328, some (.var [cI addr, cD (zonesD W)] true)), (160, some (.var [cD (svsD (nputN n addr z).V), cI (nputN n addr z).N, cD (bnsD (nputN n addr z).B), cD (cksD (nputN n addr z).C)] true)), (8, some (.var [cS z.A, cD (recsD z.R)] true)), (0, some (.var [cD (svsD n.V), cI n.N, cD (bnsD n.B), cD (cksD n.C)] true))], 2000⟩) (fun v => T.length - v.i) ⟨0, by omega⟩ ?_ ?_
      · simp -dsimp -implicitDefEqProofs only [go_sem, ↓reduceIte, reduceCtorEq, Nat.reduceLT, Nat.reduceLeDiff, Nat.reduceEqDiff, Nat.reduceAdd, Nat.reduceMul, Nat.reduceSub, Nat.reduceBEq, Int.reduceLT, Int.reduceLE, Int.reduceEq, Int.reduceBEq, Int.reduceNeg]
      intro ⟨i, hi⟩
      simp -dsimp -implicitDefEqProofs only [go_sem, ↓reduceIte, reduceCtorEq, Nat.reduceLT, Nat.reduceLeDiff, Nat.reduceEqDiff, Nat.reduceAdd, Nat.reduceMul, Nat.reduceSub, Nat.reduceBEq, Int.reduceLT, Int.reduceLE, Int.reduceEq, Int.reduceBEq, Int.reduceNeg]
      refine ⟨fun hlt => ?_, fun hge => ?_⟩
      · have hil : i < T.length := by omega
        obtain ⟨x, hx⟩ : ∃ x, T[i]? = some x := ⟨_, List.getElem?_eq_getElem hil⟩
        have hwi := wrapS hil (by omega)
        by_cases hA : x.A = z.A
        · simp -dsimp -implicitDefEqProofs only [hx, forall_eq', hwi, hA, go_sem, ↓reduceIte, reduceCtorEq, Nat.reduceLT, Nat.reduceLeDiff, Nat.reduceEqDiff, Nat.reduceAdd, Nat.reduceMul, Nat.reduceSub, Nat.reduceBEq, Int.reduceLT, Int.reduceLE, Int.reduceEq, Int.reduceBEq, Int.reduceNeg]
          refine ⟨by omega, hil, drawn (by kernel_rfl), again ⟨i + 1, by omega⟩ (by simp; omega) ?_⟩
          simp -dsimp -implicitDefEqProofs only [hwi, go_sem, ↓reduceIte, reduceCtorEq, Nat.reduceLT, Nat.reduceLeDiff, Nat.reduceEqDiff, Nat.reduceAdd, Nat.reduceMul, Nat.reduceSub, Nat.reduceBEq, Int.reduceLT, Int.reduceLE, Int.reduceEq, Int.reduceBEq, Int.reduceNeg]
        · have hm := hin x (List.mem_of_getElem? hx) hA
          simp -dsimp -implicitDefEqProofs only [hx, forall_eq', hwi, hA, go_sem, ↓reduceIte, reduceCtorEq, Nat.reduceLT, Nat.reduceLeDiff, Nat.reduceEqDiff, Nat.reduceAdd, Nat.reduceMul, Nat.reduceSub, Nat.reduceBEq, Int.reduceLT, Int.reduceLE, Int.reduceEq, Int.reduceBEq, Int.reduceNeg]
          refine ⟨by omega, hil, by omega, hil, callP (among_ok W (by omega) l1.2 x) ?_⟩
          rw [decide_eq_true hm]
          simp -dsimp -implicitDefEqProofs only [hA, go_sem, ↓reduceIte, reduceCtorEq, Nat.reduceLT, Nat.reduceLeDiff, Nat.reduceEqDiff, Nat.reduceAdd, Nat.reduceMul, Nat.reduceSub, Nat.reduceBEq, Int.reduceLT, Int.reduceLE, Int.reduceEq, Int.reduceBEq, Int.reduceNeg]
          refine ⟨drawn (by kernel_rfl), again ⟨i + 1, by omega⟩ (by simp; omega) ?_⟩
          simp -dsimp -implicitDefEqProofs only [hwi, go_sem, ↓reduceIte, reduceCtorEq, Nat.reduceLT, Nat.reduceLeDiff, Nat.reduceEqDiff, Nat.reduceAdd, Nat.reduceMul, Nat.reduceSub, Nat.reduceBEq, Int.reduceLT, Int.reduceLE, Int.reduceEq, Int.reduceBEq, Int.reduceNeg]
      · have hwT : IntKind.i64.wrap ((T.length : Int) + 1) = ((T.length + 1 : Nat) : Int) := by rw [wrap64] <;> omega
        have fin : ((W.length : Int) ≤ IntKind.i64.wrap ((T.length : Int) + 1) → srvB n (-1) addr = false → (W.length : Int) = 1) ∧ (IntKind.i64.wrap ((T.length : Int) + 1) < (W.length : Int) → False) := by
          rw [hwT]
          exact ⟨fun _ h => by rw [hone h]; rfl, fun h => by omega⟩
        refine callP (srv_ok (nputN n addr z) s1 (-1) other) ?_
        by_cases ho : other = addr
        · simp -dsimp -implicitDefEqProofs only [ho, go_sem, ↓reduceIte, reduceCtorEq, Nat.reduceLT, Nat.reduceLeDiff, Nat.reduceEqDiff, Nat.reduceAdd, Nat.reduceMul, Nat.reduceSub, Nat.reduceBEq, Int.reduceLT, Int.reduceLE, Int.reduceEq, Int.reduceBEq, Int.reduceNeg]
          refine callP (srv_ok n hz (-1) addr) ?_
          simp -dsimp -implicitDefEqProofs only [go_sem, ↓reduceIte, reduceCtorEq, Nat.reduceLT, Nat.reduceLeDiff, Nat.reduceEqDiff, Nat.reduceAdd, Nat.reduceMul, Nat.reduceSub, Nat.reduceBEq, Int.reduceLT, Int.reduceLE, Int.reduceEq, Int.reduceBEq, Int.reduceNeg]
          exact fin
        · obtain ⟨o1, o2⟩ := put_other he ho
          have l3 := srvS_len hz (-1) other
          rw [o1, o2]
          simp -dsimp -implicitDefEqProofs only [go_sem, ↓reduceIte, reduceCtorEq, Nat.reduceLT, Nat.reduceLeDiff, Nat.reduceEqDiff, Nat.reduceAdd, Nat.reduceMul, Nat.reduceSub, Nat.reduceBEq, Int.reduceLT, Int.reduceLE, Int.reduceEq, Int.reduceBEq, Int.reduceNeg]
          refine callP (srv_ok n hz (-1) other) ?_
          simp -dsimp -implicitDefEqProofs only [ho, go_sem, ↓reduceIte, reduceCtorEq, Nat.reduceLT, Nat.reduceLeDiff, Nat.reduceEqDiff, Nat.reduceAdd, Nat.reduceMul, Nat.reduceSub, Nat.reduceBEq, Int.reduceLT, Int.reduceLE, Int.reduceEq, Int.reduceBEq, Int.reduceNeg]
          refine callP (samez_ok _ (srvS n (-1) other).Z l3.1 l3.2) ?_
          simp -dsimp -implicitDefEqProofs only [decide_true, go_sem, ↓reduceIte, reduceCtorEq, Nat.reduceLT, Nat.reduceLeDiff, Nat.reduceEqDiff, Nat.reduceAdd, Nat.reduceMul, Nat.reduceSub, Nat.reduceBEq, Int.reduceLT, Int.reduceLE, Int.reduceEq, Int.reduceBEq, Int.reduceNeg]
          exact fin
  · rw [put_bad he]
    simp -dsimp -implicitDefEqProofs only [he, noN, go_sem, ↓reduceIte, reduceCtorEq, Nat.reduceLT, Nat.reduceLeDiff, Nat.reduceEqDiff, Nat.reduceAdd, Nat.reduceMul, Nat.reduceSub, Nat.reduceBEq, Int.reduceLT, Int.reduceLE, Int.reduceEq, Int.reduceBEq, Int.reduceNeg]
end Go.Proofs.YtidnnaobhcffcaaGreatDoor
