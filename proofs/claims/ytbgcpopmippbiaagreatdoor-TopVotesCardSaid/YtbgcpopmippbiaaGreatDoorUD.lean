/- The net that the statements build. TopFinds: the law's contract. -/
import Derived.Test.YtbgcpopmippbiaaGreatDoorTB
open Nat renaming reduceLT → rn1, reduceLeDiff → rn2, reduceEqDiff → rn3, reduceAdd → rn4, reduceMul → rn5, reduceSub → rn6, reduceBEq → rn7
open Int renaming reduceLT → ri1, reduceLE → ri2, reduceEq → ri3, reduceBEq → ri4, reduceNeg → ri5
namespace Go.Proofs.YtbgcpopmippbiaaGreatDoor
open Go.Eng
set_option linter.unusedSimpArgs false
set_option maxRecDepth 10000

/-! ### Puts of a list of records, those that cannot be put left out -/
def putS (a : Bs) (l : List Rec) (r : Rec) : List Rec := if putE a l r = 0 then putL l r else l
def putsL (a : Bs) (rs : List Rec) : List Rec := rs.foldl (putS a) []
theorem putS_len (a : Bs) (l : List Rec) (r : Rec) : (putS a l r).length ≤ l.length + 1 := by
  unfold putS
  split
  · exact putL_len l r
  · omega
theorem putsL_succ {a : Bs} {rs : List Rec} {i : Nat} (h : i < rs.length) : putsL a (rs.take (i + 1)) = putS a (putsL a (rs.take i)) rs[i] := by
  unfold putsL
  rw [List.take_succ_eq_append_getElem h, List.foldl_append]; rfl
theorem putsL_len (a : Bs) (rs : List Rec) : ∀ i, i ≤ rs.length → (putsL a (rs.take i)).length ≤ i
  | 0, _ => by simp [putsL]
  | i + 1, h => by
    have h1 := putsL_len a rs i (by omega)
    have h2 := putS_len a (putsL a (rs.take i)) (rs[i]'(by omega))
    rw [putsL_succ (by omega)]
    omega
theorem putL_nil (r : Rec) : putL [] r = [r] := by
  have h1 := posR_le [] r
  have h2 : hitR [] r = false := by
    cases h : hitR [] r with
    | false => rfl
    | true => have := hit_lt h; simp at this
  unfold putL
  rw [h2]
  simp
structure PsInv (a : Bs) (rs : List Rec) where
  i : Nat
  hi : i ≤ rs.length
theorem putS_no {a : Bs} {l : List Rec} {r : Rec} (h : ¬ putE a l r = 0) : putS a l r = l := if_neg h
theorem putS_yes {a : Bs} {l : List Rec} {r : Rec} (h : putE a l r = 0) : putS a l r = putL l r ∧ putA a l r = a ∧ putR a l r = putL l r := ⟨if_pos h, if_pos h, if_pos h⟩
theorem nput_vlen (n : Nt) (a : Int) (z : Zn) : (nputN n a z).V.length ≤ n.V.length + 1 := by
  by_cases he : nputE n a z = 0
  · rw [(put_ok0 he).2.2.2.2]
    exact withK_len (o := koI) (key := kS) n.V (newSv n a z)
  · rw [put_bad he]; simp [noN]
theorem nput_zlen {n : Nt} (h : ∀ s ∈ n.V, s.Z.length ≤ 900) (a : Int) (z : Zn) : ∀ s ∈ (nputN n a z).V, s.Z.length ≤ 900 := by
  by_cases he : nputE n a z = 0
  · obtain ⟨h0, _, _, h3, e⟩ := put_ok0 he
    obtain ⟨_, _, c3, _, _, _⟩ := chk_iff.1 h0
    rw [e]
    intro s hs
    rcases (mem_with (svs_parts c3).2).1 hs with rfl | ⟨hs, _⟩
    · omega
    · exact h s hs
  · rw [put_bad he]; simp [noN]
theorem nput_blen (n : Nt) (a : Int) (z : Zn) : (nputN n a z).B.length ≤ n.B.length := by
  by_cases he : nputE n a z = 0
  · rw [(put_ok0 he).2.2.2.2]; exact Nat.le_refl _
  · rw [put_bad he]; simp [noN]
theorem nbend_blen (n : Nt) (b : Bn) : (nbendN n b).B.length ≤ n.B.length + 1 := by
  unfold nbendN
  split
  · exact withK_len (o := koP) (key := kB) n.B b
  · simp [noN]
theorem bends_sz {n : Nt} (hz : Sz n) (hb : n.B.length ≤ 100) : ∀ k, k ≤ 100 → Sz (bendsN n k) ∧ (bendsN n k).B.length ≤ n.B.length + k
  | 0, _ => ⟨hz, Nat.le_refl _⟩
  | k + 1, hk => by
    obtain ⟨h1, h2⟩ := bends_sz hz hb k (by omega)
    have h3 := nbend_blen (bendsN n k) (bnI k)
    rw [bendsN_succ]
    exact ⟨bend_sz h1 (by omega) _, by omega⟩
structure BdInv (n : Nt) (bent : Nat) where
  i : Nat
  hi : i ≤ bent
  ok : ∀ j, j < i → nbendE (bendsN n j) (bnI j) = 0
def ntS (nm : Bs) (R F : List Rec) (seen : Int) : Nat → Nt
  | 0 => net0 seen
  | 1 => net1 nm seen
  | 2 => net2 nm R seen
  | _ => net3 nm R F seen
def nEs (nm : Bs) (R F : List Rec) (seen : Int) : Nat → Int
  | 0 => nputE (net0 seen) 0 (rootZ nm)
  | 1 => nputE (net1 nm seen) 1 ⟨nm, R⟩
  | _ => nputE (net2 nm R seen) 7 ⟨[], F⟩
structure N3Inv (nm : Bs) (R F : List Rec) (seen : Int) where
  i : Nat
  hi : i ≤ 3
  ok : ∀ j, j < i → nEs nm R F seen j = 0
def gdB (nm : Bs) (recs fakes : List Rec) (seen bent : Int) : Bool :=
  decide (nm.length ≤ 200) && decide (recs.length ≤ 20) && decide (fakes.length ≤ 20) && decide (1 ≤ seen) && decide (seen ≤ 8) && decide (0 ≤ bent) && decide (bent ≤ seen) && isName nm
def netB (nm : Bs) (recs fakes : List Rec) (seen bent : Int) : Bool :=
  gdB nm recs fakes seen bent && decide (putE [] [] (nsR nm) = 0) && decide (nputE (net0 seen) 0 (rootZ nm) = 0) && decide (nputE (net1 nm seen) 1 ⟨nm, putsL nm recs⟩ = 0) &&
    decide (nputE (net2 nm (putsL nm recs) seen) 7 ⟨[], putsL [] fakes⟩ = 0) && (List.range bent.toNat).all fun i => decide (nbendE (netK nm (putsL nm recs) (putsL [] fakes) seen i) (bnI i) = 0)
def netV (nm : Bs) (recs fakes : List Rec) (seen bent : Int) : Nt := if netB nm recs fakes seen bent then netK nm (putsL nm recs) (putsL [] fakes) seen bent.toNat else noN

theorem netted_ok (nm : Bs) (recs fakes : List Rec) (seen bent : Int) : Meets Tryz.prog 7 [(false, [vS nm]), (false, [vD (recsD recs)]), (false, [vD (recsD fakes)]), (false, [vI seen]), (false, [vI bent])]
    (rTup [(netV nm recs fakes seen bent).arg, (false, [vB (netB nm recs fakes seen bent)])]) := by
  by_cases g : gdB nm recs fakes seen bent = true
  · have g' := g
    simp only [gdB, Bool.and_eq_true, decide_eq_true_eq] at g'
    obtain ⟨⟨⟨⟨⟨⟨⟨g1, g2⟩, g3⟩, g4⟩, g5⟩, g6⟩, g7⟩, g8⟩ := g'
    have hap : apexB nm = true := by unfold apexB; simp [g8]
    have hap0 : apexB [] = true := rfl
    have d1 : ¬ (200 : Int) < (nm.length : Int) := by omega
    have d2 : ¬ (20 : Int) < (recs.length : Int) := by omega
    have d3 : ¬ (20 : Int) < (fakes.length : Int) := by omega
    have d4 : ¬ seen < 1 := by omega
    have d5 : ¬ 8 < seen := by omega
    have d6 : ¬ bent < 0 := by omega
    have d7 : ¬ seen < bent := by omega
    have z0 : Sz (net0 seen) := ⟨by simp [net0], by simp [net0], by simp [net0], by simp [net0], by simp [net0], by simp [net0], by simp [net0]⟩
    have z1 : Sz (net1 nm seen) := put_sz z0 (by simp [net0]) (by simp [net0]) _ (by simp [rootZ])
    have y1 : ∀ s ∈ (net1 nm seen).V, s.Z.length ≤ 900 := nput_zlen (by simp [net0]) _ _
    refine meetsF Tryz.func7 rfl rfl Tryz.ntmps7 Tryz.results7 rfl ?_
    simp -dsimp -implicitDefEqProofs only [d1, d2, d3, d4, d5, d6, d7, go_sem, ↓reduceIte, reduceCtorEq, rn1, rn2, rn3, rn4, rn5, rn6, rn7, ri1, ri2, ri3, ri4, ri5]
    refine callP (check_ok nm) ?_
    simp -dsimp -implicitDefEqProofs only [g8, go_sem, ↓reduceIte, reduceCtorEq, rn1, rn2, rn3, rn4, rn5, rn6, rn7, ri1, ri2, ri3, ri4, ri5]
    refine callP (new_ok []) ?_
    simp -dsimp -implicitDefEqProofs only [hap0, go_sem, ↓reduceIte, reduceCtorEq, rn1, rn2, rn3, rn4, rn5, rn6, rn7, ri1, ri2, ri3, ri4, ri5]
    refine callP (new_ok nm) ?_
    simp -dsimp -implicitDefEqProofs only [hap, go_sem, ↓reduceIte, reduceCtorEq, rn1, rn2, rn3, rn4, rn5, rn6, rn7, ri1, ri2, ri3, ri4, ri5]
    refine callP (new_ok []) ?_
    simp -dsimp -implicitDefEqProofs only [hap0, go_sem, ↓reduceIte, reduceCtorEq, rn1, rn2, rn3, rn4, rn5, rn6, rn7, ri1, ri2, ri3, ri4, ri5]
    refine callP (put_ok [] [] (nsR nm) (by simp)) ?_
    by_cases p0 : putE [] [] (nsR nm) = 0
    · have q0 : putA [] [] (nsR nm) = [] := if_pos p0
      have q1 : putR [] [] (nsR nm) = [nsR nm] := (if_pos p0).trans (putL_nil _)
      simp -dsimp -implicitDefEqProofs only [p0, q0, q1, go_sem, ↓reduceIte, reduceCtorEq, rn1, rn2, rn3, rn4, rn5, rn6, rn7, ri1, ri2, ri3, ri4, ri5]
      refine vsettle 328 1 ?_
      simp -dsimp -implicitDefEqProofs only [go_sem, ↓reduceIte, reduceCtorEq, rn1, rn2, rn3, rn4, rn5, rn6, rn7, ri1, ri2, ri3, ri4, ri5]
      refine vfor sitOk (ι := PsInv nm recs) (fun v => ⟨183, [(109, aI v.i), (108, aI recs.length), (107, aD (recsD recs)), (16, aP 448 0), (14, aP 392 0), (12, aP 328 0), (11, aB false), (10, aP 0 0), (2, aD (recsD fakes)), (3, aI seen), (4, aI bent)],
        [(328, some (.var [cS [], cD (recsD [nsR nm])] true)), (448, some (.var [cS [], cD (recsD [])] true)), (392, some (.var [cS nm, cD (recsD (putsL nm (recs.take v.i)))] true)), (0, some (.var [AV.nils 2, cI 0, AV.nils 3, AV.nils 2] true))], 700⟩) (fun v => recs.length - v.i) ⟨0, by omega⟩ ?_ ?_
      · simp -dsimp -implicitDefEqProofs only [go_sem, ↓reduceIte, reduceCtorEq, rn1, rn2, rn3, rn4, rn5, rn6, rn7, ri1, ri2, ri3, ri4, ri5]
        rfl
      intro ⟨i, hi⟩
      have hpl := putsL_len nm recs i hi
      simp -dsimp -implicitDefEqProofs only [go_sem, ↓reduceIte, reduceCtorEq, rn1, rn2, rn3, rn4, rn5, rn6, rn7, ri1, ri2, ri3, ri4, ri5]
      refine ⟨fun hlt => ?_, fun hge => ?_⟩
      · have hil : i < recs.length := by omega
        have hst := putsL_succ (a := nm) hil
        refine ⟨by omega, hil, fun x hx => ?_⟩
        obtain ⟨_, rfl⟩ := List.getElem?_eq_some_iff.1 hx
        refine callP (put_ok nm (putsL nm (recs.take i)) recs[i] (by omega)) ?_
        by_cases px : putE nm (putsL nm (recs.take i)) recs[i] = 0
        · obtain ⟨y1, y2, y3⟩ := putS_yes px
          simp -dsimp -implicitDefEqProofs only [px, y2, y3, go_sem, ↓reduceIte, reduceCtorEq, rn1, rn2, rn3, rn4, rn5, rn6, rn7, ri1, ri2, ri3, ri4, ri5]
          refine againS 392 1 ?_
          simp -dsimp -implicitDefEqProofs only [go_sem, ↓reduceIte, reduceCtorEq, rn1, rn2, rn3, rn4, rn5, rn6, rn7, ri1, ri2, ri3, ri4, ri5]
          refine again ⟨i + 1, by omega⟩ (by simp; omega) ?_
          simp -dsimp -implicitDefEqProofs only [hst, y1, wrapS hil (show recs.length ≤ 4611686018427387904 by omega), go_sem, ↓reduceIte, reduceCtorEq, rn1, rn2, rn3, rn4, rn5, rn6, rn7, ri1, ri2, ri3, ri4, ri5]
        · have y1 := putS_no px
          simp -dsimp -implicitDefEqProofs only [px, go_sem, ↓reduceIte, reduceCtorEq, rn1, rn2, rn3, rn4, rn5, rn6, rn7, ri1, ri2, ri3, ri4, ri5]
          refine again ⟨i + 1, by omega⟩ (by simp; omega) ?_
          simp -dsimp -implicitDefEqProofs only [hst, y1, wrapS hil (show recs.length ≤ 4611686018427387904 by omega), go_sem, ↓reduceIte, reduceCtorEq, rn1, rn2, rn3, rn4, rn5, rn6, rn7, ri1, ri2, ri3, ri4, ri5]
      have htk : recs.take i = recs := List.take_of_length_le (by omega)
      have hpl' := putsL_len nm recs recs.length (Nat.le_refl _)
      rw [List.take_length] at hpl'
      rw [htk]
      refine vfor sitOk (ι := PsInv [] fakes) (fun v => ⟨183, [(125, aI v.i), (124, aI fakes.length), (123, aD (recsD fakes)), (16, aP 448 0), (14, aP 392 0), (12, aP 328 0), (11, aB false), (10, aP 0 0), (3, aI seen), (4, aI bent)],
        [(328, some (.var [cS [], cD (recsD [nsR nm])] true)), (448, some (.var [cS [], cD (recsD (putsL [] (fakes.take v.i)))] true)), (392, some (.var [cS nm, cD (recsD (putsL nm recs))] true)), (0, some (.var [AV.nils 2, cI 0, AV.nils 3, AV.nils 2] true))], 750⟩) (fun v => fakes.length - v.i) ⟨0, by omega⟩ ?_ ?_
      · simp -dsimp -implicitDefEqProofs only [go_sem, ↓reduceIte, reduceCtorEq, rn1, rn2, rn3, rn4, rn5, rn6, rn7, ri1, ri2, ri3, ri4, ri5]
        rfl
      intro ⟨j, hj⟩
      have hfl := putsL_len [] fakes j hj
      simp -dsimp -implicitDefEqProofs only [go_sem, ↓reduceIte, reduceCtorEq, rn1, rn2, rn3, rn4, rn5, rn6, rn7, ri1, ri2, ri3, ri4, ri5]
      refine ⟨fun hlt => ?_, fun hge2 => ?_⟩
      · have hil : j < fakes.length := by omega
        have hst := putsL_succ (a := []) hil
        refine ⟨by omega, hil, fun x hx => ?_⟩
        obtain ⟨_, rfl⟩ := List.getElem?_eq_some_iff.1 hx
        refine callP (put_ok [] (putsL [] (fakes.take j)) fakes[j] (by omega)) ?_
        by_cases px : putE [] (putsL [] (fakes.take j)) fakes[j] = 0
        · obtain ⟨y1, y2, y3⟩ := putS_yes px
          simp -dsimp -implicitDefEqProofs only [px, y2, y3, go_sem, ↓reduceIte, reduceCtorEq, rn1, rn2, rn3, rn4, rn5, rn6, rn7, ri1, ri2, ri3, ri4, ri5]
          refine againS 448 1 ?_
          simp -dsimp -implicitDefEqProofs only [go_sem, ↓reduceIte, reduceCtorEq, rn1, rn2, rn3, rn4, rn5, rn6, rn7, ri1, ri2, ri3, ri4, ri5]
          refine again ⟨j + 1, by omega⟩ (by simp; omega) ?_
          simp -dsimp -implicitDefEqProofs only [hst, y1, wrapS hil (show fakes.length ≤ 4611686018427387904 by omega), go_sem, ↓reduceIte, reduceCtorEq, rn1, rn2, rn3, rn4, rn5, rn6, rn7, ri1, ri2, ri3, ri4, ri5]
        · have y1 := putS_no px
          simp -dsimp -implicitDefEqProofs only [px, go_sem, ↓reduceIte, reduceCtorEq, rn1, rn2, rn3, rn4, rn5, rn6, rn7, ri1, ri2, ri3, ri4, ri5]
          refine again ⟨j + 1, by omega⟩ (by simp; omega) ?_
          simp -dsimp -implicitDefEqProofs only [hst, y1, wrapS hil (show fakes.length ≤ 4611686018427387904 by omega), go_sem, ↓reduceIte, reduceCtorEq, rn1, rn2, rn3, rn4, rn5, rn6, rn7, ri1, ri2, ri3, ri4, ri5]
      have hfk : fakes.take j = fakes := List.take_of_length_le (by omega)
      have hfl' := putsL_len [] fakes fakes.length (Nat.le_refl _)
      rw [List.take_length] at hfl'
      have z2 : Sz (net2 nm (putsL nm recs) seen) := put_sz z1 (by have := nput_vlen (net0 seen) 0 (rootZ nm); have : (net0 seen).V.length = 0 := rfl; show (nputN (net0 seen) 0 (rootZ nm)).V.length ≤ 900; omega) y1 _ (by show (putsL nm recs).length ≤ 1000; omega)
      rw [hfk]
      have w1 : IntKind.i64.wrap (((0 : Nat) : Int) + 1) = 1 := by decide
      have w2 : IntKind.i64.wrap (((1 : Nat) : Int) + 1) = 2 := by decide
      have w3 : IntKind.i64.wrap (((2 : Nat) : Int) + 1) = 3 := by decide
      have t1 : Int.toNat 1 = 1 := rfl
      have t2 : Int.toNat 2 = 2 := rfl
      have z3 : Sz (net3 nm (putsL nm recs) (putsL [] fakes) seen) := put_sz z2 (by
        have a1 := nput_vlen (net0 seen) 0 (rootZ nm)
        have a2 := nput_vlen (net1 nm seen) 1 ⟨nm, putsL nm recs⟩
        have a3 : (net0 seen).V.length = 0 := rfl
        have a4 : (nputN (net0 seen) 0 (rootZ nm)).V.length = (net1 nm seen).V.length := rfl
        show (nputN (net1 nm seen) 1 ⟨nm, putsL nm recs⟩).V.length ≤ 900
        omega) (nput_zlen y1 _ _) _ (by show (putsL [] fakes).length ≤ 1000; omega)
      have b3 : (net3 nm (putsL nm recs) (putsL [] fakes) seen).B.length ≤ 0 :=
        Nat.le_trans (nput_blen _ _ _) (Nat.le_trans (nput_blen _ _ _) (nput_blen _ _ _))
      refine vdata 774 0 ?_
      simp -dsimp -implicitDefEqProofs only [go_sem, ↓reduceIte, reduceCtorEq, rn1, rn2, rn3, rn4, rn5, rn6, rn7, ri1, ri2, ri3, ri4, ri5]
      refine vdata 774 2 ?_
      simp -dsimp -implicitDefEqProofs only [go_sem, ↓reduceIte, reduceCtorEq, rn1, rn2, rn3, rn4, rn5, rn6, rn7, ri1, ri2, ri3, ri4, ri5]
      refine vdata 774 3 ?_
      simp -dsimp -implicitDefEqProofs only [go_sem, ↓reduceIte, reduceCtorEq, rn1, rn2, rn3, rn4, rn5, rn6, rn7, ri1, ri2, ri3, ri4, ri5]
      refine vfor sitOk (ι := N3Inv nm (putsL nm recs) (putsL [] fakes) seen) (fun v => ⟨183, [(146, aI v.i), (145, aI 3), (144, aO 814), (27, aP 774 0), (10, aP 0 0), (4, aI bent)],
        [(814, some (.row 2 35 [[dT [], recsD [nsR nm]], [dT nm, recsD (putsL nm recs)], [dT [], recsD (putsL [] fakes)]] true)),
         (774, some (.var [cD (svsD (ntS nm (putsL nm recs) (putsL [] fakes) seen v.i).V), cI (ntS nm (putsL nm recs) (putsL [] fakes) seen v.i).N, cD (bnsD (ntS nm (putsL nm recs) (putsL [] fakes) seen v.i).B), cD (cksD (ntS nm (putsL nm recs) (putsL [] fakes) seen v.i).C)] true)), (0, some (.var [AV.nils 2, cI 0, AV.nils 3, AV.nils 2] true))], 850⟩) (fun v => 3 - v.i) ⟨0, by omega, fun j hj => by omega⟩ ?_ ?_
      · simp -dsimp -implicitDefEqProofs only [go_sem, ↓reduceIte, reduceCtorEq, rn1, rn2, rn3, rn4, rn5, rn6, rn7, ri1, ri2, ri3, ri4, ri5]
        exact ⟨rfl, rfl, rfl, rfl⟩
      intro ⟨k, hk, hok⟩
      rcases (by omega : k = 0 ∨ k = 1 ∨ k = 2 ∨ k = 3) with rfl | rfl | rfl | rfl
      · simp -dsimp -implicitDefEqProofs only [go_sem, ↓reduceIte, reduceCtorEq, rn1, rn2, rn3, rn4, rn5, rn6, rn7, ri1, ri2, ri3, ri4, ri5]
        refine callP (nput_ok (net0 seen) z0 0 (rootZ nm) (by simp [rootZ])) ?_
        by_cases he : nputE (net0 seen) 0 (rootZ nm) = 0
        · simp -dsimp -implicitDefEqProofs only [he, go_sem, ↓reduceIte, reduceCtorEq, rn1, rn2, rn3, rn4, rn5, rn6, rn7, ri1, ri2, ri3, ri4, ri5]
          refine againS 774 0 ?_
          simp -dsimp -implicitDefEqProofs only [go_sem, ↓reduceIte, reduceCtorEq, rn1, rn2, rn3, rn4, rn5, rn6, rn7, ri1, ri2, ri3, ri4, ri5]
          refine again ⟨1, by omega, fun j hj => ?_⟩ (by simp) ?_
          · rcases (by omega : j = 0) with rfl
            · exact he
          simp -dsimp -implicitDefEqProofs only [w1, go_sem, ↓reduceIte, reduceCtorEq, rn1, rn2, rn3, rn4, rn5, rn6, rn7, ri1, ri2, ri3, ri4, ri5]
          exact ⟨rfl, rfl, rfl, rfl, rfl⟩
        · have hB : netB nm recs fakes seen bent = false := by unfold netB; rw [decide_eq_false he]; simp
          have hV : netV nm recs fakes seen bent = noN := by unfold netV; rw [hB]; rfl
          rw [hB, hV]
          simp -dsimp -implicitDefEqProofs only [he, go_sem, ↓reduceIte, reduceCtorEq, rn1, rn2, rn3, rn4, rn5, rn6, rn7, ri1, ri2, ri3, ri4, ri5]
          refine retF [] ?_
          simp -dsimp -implicitDefEqProofs only [noN, go_sem, ↓reduceIte, reduceCtorEq, rn1, rn2, rn3, rn4, rn5, rn6, rn7, ri1, ri2, ri3, ri4, ri5]
      · simp -dsimp -implicitDefEqProofs only [t1, go_sem, ↓reduceIte, reduceCtorEq, rn1, rn2, rn3, rn4, rn5, rn6, rn7, ri1, ri2, ri3, ri4, ri5]
        refine callP (nput_ok (net1 nm seen) z1 1 ⟨nm, putsL nm recs⟩ (by show (putsL nm recs).length ≤ 1000; omega)) ?_
        by_cases he : nputE (net1 nm seen) 1 ⟨nm, putsL nm recs⟩ = 0
        · simp -dsimp -implicitDefEqProofs only [he, go_sem, ↓reduceIte, reduceCtorEq, rn1, rn2, rn3, rn4, rn5, rn6, rn7, ri1, ri2, ri3, ri4, ri5]
          refine againS 774 0 ?_
          simp -dsimp -implicitDefEqProofs only [go_sem, ↓reduceIte, reduceCtorEq, rn1, rn2, rn3, rn4, rn5, rn6, rn7, ri1, ri2, ri3, ri4, ri5]
          refine again ⟨2, by omega, fun j hj => ?_⟩ (by simp) ?_
          · rcases (by omega : j = 0 ∨ j = 1) with rfl | rfl
            · exact hok 0 (by omega)
            · exact he
          simp -dsimp -implicitDefEqProofs only [w2, go_sem, ↓reduceIte, reduceCtorEq, rn1, rn2, rn3, rn4, rn5, rn6, rn7, ri1, ri2, ri3, ri4, ri5]
          exact ⟨rfl, rfl, rfl, rfl, rfl⟩
        · have hB : netB nm recs fakes seen bent = false := by unfold netB; rw [decide_eq_false he]; simp
          have hV : netV nm recs fakes seen bent = noN := by unfold netV; rw [hB]; rfl
          rw [hB, hV]
          simp -dsimp -implicitDefEqProofs only [he, go_sem, ↓reduceIte, reduceCtorEq, rn1, rn2, rn3, rn4, rn5, rn6, rn7, ri1, ri2, ri3, ri4, ri5]
          refine retF [] ?_
          simp -dsimp -implicitDefEqProofs only [noN, go_sem, ↓reduceIte, reduceCtorEq, rn1, rn2, rn3, rn4, rn5, rn6, rn7, ri1, ri2, ri3, ri4, ri5]
      · simp -dsimp -implicitDefEqProofs only [t2, go_sem, ↓reduceIte, reduceCtorEq, rn1, rn2, rn3, rn4, rn5, rn6, rn7, ri1, ri2, ri3, ri4, ri5]
        refine callP (nput_ok (net2 nm (putsL nm recs) seen) z2 7 ⟨[], putsL [] fakes⟩ (by show (putsL [] fakes).length ≤ 1000; omega)) ?_
        by_cases he : nputE (net2 nm (putsL nm recs) seen) 7 ⟨[], putsL [] fakes⟩ = 0
        · simp -dsimp -implicitDefEqProofs only [he, go_sem, ↓reduceIte, reduceCtorEq, rn1, rn2, rn3, rn4, rn5, rn6, rn7, ri1, ri2, ri3, ri4, ri5]
          refine againS 774 0 ?_
          simp -dsimp -implicitDefEqProofs only [go_sem, ↓reduceIte, reduceCtorEq, rn1, rn2, rn3, rn4, rn5, rn6, rn7, ri1, ri2, ri3, ri4, ri5]
          refine again ⟨3, by omega, fun j hj => ?_⟩ (by simp) ?_
          · rcases (by omega : j = 0 ∨ j = 1 ∨ j = 2) with rfl | rfl | rfl
            · exact hok 0 (by omega)
            · exact hok 1 (by omega)
            · exact he
          simp -dsimp -implicitDefEqProofs only [w3, go_sem, ↓reduceIte, reduceCtorEq, rn1, rn2, rn3, rn4, rn5, rn6, rn7, ri1, ri2, ri3, ri4, ri5]
          exact ⟨rfl, rfl, rfl, rfl, rfl⟩
        · have hB : netB nm recs fakes seen bent = false := by unfold netB; rw [decide_eq_false he]; simp
          have hV : netV nm recs fakes seen bent = noN := by unfold netV; rw [hB]; rfl
          rw [hB, hV]
          simp -dsimp -implicitDefEqProofs only [he, go_sem, ↓reduceIte, reduceCtorEq, rn1, rn2, rn3, rn4, rn5, rn6, rn7, ri1, ri2, ri3, ri4, ri5]
          refine retF [] ?_
          simp -dsimp -implicitDefEqProofs only [noN, go_sem, ↓reduceIte, reduceCtorEq, rn1, rn2, rn3, rn4, rn5, rn6, rn7, ri1, ri2, ri3, ri4, ri5]
      · have e1 : nputE (net0 seen) 0 (rootZ nm) = 0 := hok 0 (by omega)
        have e2 : nputE (net1 nm seen) 1 ⟨nm, putsL nm recs⟩ = 0 := hok 1 (by omega)
        have e3 : nputE (net2 nm (putsL nm recs) seen) 7 ⟨[], putsL [] fakes⟩ = 0 := hok 2 (by omega)
        simp -dsimp -implicitDefEqProofs only [go_sem, ↓reduceIte, reduceCtorEq, rn1, rn2, rn3, rn4, rn5, rn6, rn7, ri1, ri2, ri3, ri4, ri5]
        refine vfor sitOk (ι := BdInv (net3 nm (putsL nm recs) (putsL [] fakes) seen) bent.toNat) (fun v => ⟨183, [(167, aI v.i), (166, aI bent), (27, aP 774 0), (10, aP 0 0)],
          [(774, some (.var [cD (svsD (bendsN (net3 nm (putsL nm recs) (putsL [] fakes) seen) v.i).V), cI (bendsN (net3 nm (putsL nm recs) (putsL [] fakes) seen) v.i).N, cD (bnsD (bendsN (net3 nm (putsL nm recs) (putsL [] fakes) seen) v.i).B), cD (cksD (bendsN (net3 nm (putsL nm recs) (putsL [] fakes) seen) v.i).C)] true)), (0, some (.var [AV.nils 2, cI 0, AV.nils 3, AV.nils 2] true))], 950⟩) (fun v => bent.toNat - v.i) ⟨0, by omega, fun j hj => by omega⟩ ?_ ?_
        · simp -dsimp -implicitDefEqProofs only [go_sem, ↓reduceIte, reduceCtorEq, rn1, rn2, rn3, rn4, rn5, rn6, rn7, ri1, ri2, ri3, ri4, ri5]
          exact ⟨rfl, rfl, rfl, rfl⟩
        intro ⟨m, hm, hbd⟩
        obtain ⟨zm, bm⟩ := bends_sz z3 (by omega) m (by omega)
        simp -dsimp -implicitDefEqProofs only [go_sem, ↓reduceIte, reduceCtorEq, rn1, rn2, rn3, rn4, rn5, rn6, rn7, ri1, ri2, ri3, ri4, ri5]
        refine ⟨fun hlt => ?_, fun hge3 => ?_⟩
        · have hmb : m < bent.toNat := by omega
          refine callP (nbend_ok (bendsN (net3 nm (putsL nm recs) (putsL [] fakes) seen) m) zm (bnI m)) ?_
          by_cases he : nbendE (bendsN (net3 nm (putsL nm recs) (putsL [] fakes) seen) m) (bnI m) = 0
          · have hs := bendsN_succ (net3 nm (putsL nm recs) (putsL [] fakes) seen) m
            simp -dsimp -implicitDefEqProofs only [he, go_sem, ↓reduceIte, reduceCtorEq, rn1, rn2, rn3, rn4, rn5, rn6, rn7, ri1, ri2, ri3, ri4, ri5]
            refine againS 774 2 ?_
            simp -dsimp -implicitDefEqProofs only [go_sem, ↓reduceIte, reduceCtorEq, rn1, rn2, rn3, rn4, rn5, rn6, rn7, ri1, ri2, ri3, ri4, ri5]
            refine again ⟨m + 1, by omega, fun j hj => ?_⟩ (by simp; omega) ?_
            · rcases (by omega : j < m ∨ j = m) with h | rfl
              · exact hbd j h
              · exact he
            simp -dsimp -implicitDefEqProofs only [hs, wrapS hmb (show bent.toNat ≤ 4611686018427387904 by omega), go_sem, ↓reduceIte, reduceCtorEq, rn1, rn2, rn3, rn4, rn5, rn6, rn7, ri1, ri2, ri3, ri4, ri5]
          · have hB : netB nm recs fakes seen bent = false := by
              cases h : netB nm recs fakes seen bent with
              | false => rfl
              | true =>
                unfold netB at h
                simp only [Bool.and_eq_true, List.all_eq_true, decide_eq_true_eq, List.mem_range] at h
                exact absurd (h.2 m hmb) he
            have hV : netV nm recs fakes seen bent = noN := by unfold netV; rw [hB]; rfl
            rw [hB, hV]
            simp -dsimp -implicitDefEqProofs only [he, go_sem, ↓reduceIte, reduceCtorEq, rn1, rn2, rn3, rn4, rn5, rn6, rn7, ri1, ri2, ri3, ri4, ri5]
            refine retF [] ?_
            simp -dsimp -implicitDefEqProofs only [noN, go_sem, ↓reduceIte, reduceCtorEq, rn1, rn2, rn3, rn4, rn5, rn6, rn7, ri1, ri2, ri3, ri4, ri5]
        · have hmb : m = bent.toNat := by omega
          have hB : netB nm recs fakes seen bent = true := by
            unfold netB
            rw [g, decide_eq_true p0, decide_eq_true e1, decide_eq_true e2, decide_eq_true e3]
            simp only [Bool.true_and, List.all_eq_true, decide_eq_true_eq, List.mem_range]
            intro j hj
            exact hbd j (by omega)
          have hV : netV nm recs fakes seen bent = bendsN (net3 nm (putsL nm recs) (putsL [] fakes) seen) m := by unfold netV; rw [hB, hmb]; rfl
          rw [hB, hV]
          refine retF [] ?_
          simp -dsimp -implicitDefEqProofs only [go_sem, ↓reduceIte, reduceCtorEq, rn1, rn2, rn3, rn4, rn5, rn6, rn7, ri1, ri2, ri3, ri4, ri5]
    · have hB : netB nm recs fakes seen bent = false := by unfold netB; rw [decide_eq_false p0]; simp
      have hV : netV nm recs fakes seen bent = noN := by unfold netV; rw [hB]; rfl
      rw [hB, hV]
      simp -dsimp -implicitDefEqProofs only [p0, go_sem, ↓reduceIte, reduceCtorEq, rn1, rn2, rn3, rn4, rn5, rn6, rn7, ri1, ri2, ri3, ri4, ri5]
      refine retF [] ?_
      simp -dsimp -implicitDefEqProofs only [noN, go_sem, ↓reduceIte, reduceCtorEq, rn1, rn2, rn3, rn4, rn5, rn6, rn7, ri1, ri2, ri3, ri4, ri5]
  · have hB : netB nm recs fakes seen bent = false := by unfold netB; rw [Bool.eq_false_iff.2 g]; rfl
    have hV : netV nm recs fakes seen bent = noN := by unfold netV; rw [hB]; rfl
    rw [hB, hV]
    refine meetsF Tryz.func7 rfl rfl Tryz.ntmps7 Tryz.results7 rfl ?_
    simp -dsimp -implicitDefEqProofs only [go_sem, ↓reduceIte, reduceCtorEq, rn1, rn2, rn3, rn4, rn5, rn6, rn7, ri1, ri2, ri3, ri4, ri5]
    repeat' (first | with_reducible apply And.intro | with_reducible intro _ | with_reducible exact drawn (by kernel_rfl) | (refine callP (check_ok nm) ?_; simp -dsimp -implicitDefEqProofs only [go_sem, ↓reduceIte, reduceCtorEq, rn1, rn2, rn3, rn4, rn5, rn6, rn7, ri1, ri2, ri3, ri4, ri5]) | omega)
    all_goals first
      | (refine retF [] ?_
         simp -dsimp -implicitDefEqProofs only [noN, go_sem, ↓reduceIte, reduceCtorEq, rn1, rn2, rn3, rn4, rn5, rn6, rn7, ri1, ri2, ri3, ri4, ri5]
         done)
      | (rename_i a1 a2 a3 a4 a5 a6 a7 a8
         exfalso
         apply g
         have a9 : isName nm = true := by
           cases h : isName nm with
           | true => rfl
           | false => rw [h] at a8; simp at a8
         simp only [gdB, Bool.and_eq_true, decide_eq_true_eq]
         refine ⟨⟨⟨⟨⟨⟨⟨?_, ?_⟩, ?_⟩, ?_⟩, ?_⟩, ?_⟩, ?_⟩, a9⟩ <;> omega)
theorem netB_nb {nm : Bs} {recs fakes : List Rec} {seen bent : Int} (h : netB nm recs fakes seen bent = true) : Nb nm (putsL nm recs) (putsL [] fakes) seen bent.toNat ∧ netV nm recs fakes seen bent = netK nm (putsL nm recs) (putsL [] fakes) seen bent.toNat ∧
    nm.length ≤ 200 ∧ 1 ≤ seen ∧ seen ≤ 8 ∧ 0 ≤ bent ∧ bent ≤ seen ∧ isName nm = true ∧ recs.length ≤ 20 ∧ fakes.length ≤ 20 := by
  have hV : netV nm recs fakes seen bent = netK nm (putsL nm recs) (putsL [] fakes) seen bent.toNat := by unfold netV; rw [h]; rfl
  unfold netB at h
  simp only [gdB, Bool.and_eq_true, List.all_eq_true, decide_eq_true_eq, List.mem_range] at h
  obtain ⟨⟨⟨⟨⟨⟨⟨⟨⟨⟨⟨⟨g1, g2⟩, g3⟩, g4⟩, g5⟩, g6⟩, g7⟩, g8⟩, _⟩, e1⟩, e2⟩, e3⟩, eb⟩ := h
  exact ⟨⟨e1, e2, e3, eb⟩, hV, g1, g4, g5, g6, g7, g8, g2, g3⟩
/-- The net's sizes. -/
theorem netK_sz {nm : Bs} {R F : List Rec} {seen : Int} {k : Nat} (hR : R.length ≤ 100) (hF : F.length ≤ 100) (hk : k ≤ 100) : Sz (netK nm R F seen k) := by
  have z0 : Sz (net0 seen) := ⟨by simp [net0], by simp [net0], by simp [net0], by simp [net0], by simp [net0], by simp [net0], by simp [net0]⟩
  have y1 : ∀ s ∈ (net1 nm seen).V, s.Z.length ≤ 900 := nput_zlen (by simp [net0]) _ _
  have a1 := nput_vlen (net0 seen) 0 (rootZ nm)
  have a2 := nput_vlen (net1 nm seen) 1 ⟨nm, R⟩
  have a3 : (net0 seen).V.length = 0 := rfl
  have a4 : (nputN (net0 seen) 0 (rootZ nm)).V.length = (net1 nm seen).V.length := rfl
  have a5 : (nputN (net1 nm seen) 1 ⟨nm, R⟩).V.length = (net2 nm R seen).V.length := rfl
  have z1 : Sz (net1 nm seen) := put_sz z0 (by simp [net0]) (by simp [net0]) _ (by simp [rootZ])
  have z2 : Sz (net2 nm R seen) := put_sz z1 (by omega) y1 _ (by show R.length ≤ 1000; omega)
  have z3 : Sz (net3 nm R F seen) := put_sz z2 (by omega) (nput_zlen y1 _ _) _ (by show F.length ≤ 1000; omega)
  have b3 : (net3 nm R F seen).B.length ≤ 0 := Nat.le_trans (nput_blen _ _ _) (Nat.le_trans (nput_blen _ _ _) (nput_blen _ _ _))
  exact (bends_sz z3 (by omega) k hk).1
theorem putsL_one {a : Bs} {r : Rec} (h : putE a [] r = 0) : putsL a [r] = [r] := by
  show putS a [] r = [r]
  rw [(putS_yes h).1, putL_nil]
end Go.Proofs.YtbgcpopmippbiaaGreatDoor
namespace Go.Proofs.YtbgcpopmippbiaaGreatDoor
open Go.Eng
set_option linter.unusedSimpArgs false
set_option maxRecDepth 10000

structure TfInv (a b : Int) where
  i : Int
  lo : a ≤ i
  hi : i ≤ b
theorem topFinds_ok (nm value : Bs) (fakes : List Rec) (seen bent : Int) (hv : value.length ≤ 9223372036854775807) : Meets Tryz.prog 4 [(false, [vS nm]), (false, [vS value]), (false, [vD (recsD fakes)]), (false, [vI seen]), (false, [vI bent])] (rOne (vB true)) := by
  refine meets Tryz.func4 rfl rfl Tryz.ntmps4 Tryz.results4 rfl ?_
  simp -dsimp -implicitDefEqProofs only [go_sem, ↓reduceIte, reduceCtorEq, rn1, rn2, rn3, rn4, rn5, rn6, rn7, ri1, ri2, ri3, ri4, ri5]
  refine callP upT_ok ?_
  simp -dsimp -implicitDefEqProofs only [go_sem, ↓reduceIte, reduceCtorEq, rn1, rn2, rn3, rn4, rn5, rn6, rn7, ri1, ri2, ri3, ri4, ri5]
  refine callP (netted_ok nm [⟨nm, 1, value, 9⟩] fakes seen bent) ?_
  cases hB : netB nm [⟨nm, 1, value, 9⟩] fakes seen bent with
  | false =>
    simp -dsimp -implicitDefEqProofs only [go_sem, ↓reduceIte, reduceCtorEq, rn1, rn2, rn3, rn4, rn5, rn6, rn7, ri1, ri2, ri3, ri4, ri5]
  | true =>
    obtain ⟨hb, hV, g1, g2, g3, g4, g5, g6, _, g8⟩ := netB_nb hB
    have hap : apexB nm = true := by unfold apexB; simp [g6]
    rw [hV]
    simp -dsimp -implicitDefEqProofs only [go_sem, ↓reduceIte, reduceCtorEq, rn1, rn2, rn3, rn4, rn5, rn6, rn7, ri1, ri2, ri3, ri4, ri5]
    intro hvl
    refine callP (new_ok nm) ?_
    simp -dsimp -implicitDefEqProofs only [hap, go_sem, ↓reduceIte, reduceCtorEq, rn1, rn2, rn3, rn4, rn5, rn6, rn7, ri1, ri2, ri3, ri4, ri5]
    refine callP (put_ok nm [] ⟨nm, 1, value, 9⟩ (by simp)) ?_
    simp -dsimp -implicitDefEqProofs only [go_sem, ↓reduceIte, reduceCtorEq, rn1, rn2, rn3, rn4, rn5, rn6, rn7, ri1, ri2, ri3, ri4, ri5]
    intro pe
    have hz := netK_sz (nm := nm) (R := [(⟨nm, 1, value, 9⟩ : Rec)]) (F := putsL [] fakes) (seen := seen) (k := bent.toNat) (by simp) (by have := putsL_len [] fakes fakes.length (Nat.le_refl _); rw [List.take_length] at this; omega) (by omega)
    rw [putsL_one pe] at hb
    rw [putsL_one pe]
    generalize hn : netK nm [(⟨nm, 1, value, 9⟩ : Rec)] (putsL [] fakes) seen bent.toNat = n at hz
    refine vfor sitOk (ι := TfInv bent seen) (fun v => ⟨91, [(18, aI v.i), (12, aP 144 0), (11, aP 48 0), (10, aB false), (0, aS nm), (3, aI seen), (4, aI bent)],
      [(144, some (.var [cD (svsD n.V), cI n.N, cD (bnsD n.B), cD (cksD n.C)] true)), (48, some (.var [cS nm, cI 1, cS value, cI 9] true))], 400⟩) (fun v => (seen - v.i).toNat) ⟨bent, by omega, by omega⟩ ?_ ?_
    · simp -dsimp -implicitDefEqProofs only [go_sem, ↓reduceIte, reduceCtorEq, rn1, rn2, rn3, rn4, rn5, rn6, rn7, ri1, ri2, ri3, ri4, ri5]
    intro ⟨i, i1, i2⟩
    simp -dsimp -implicitDefEqProofs only [go_sem, ↓reduceIte, reduceCtorEq, rn1, rn2, rn3, rn4, rn5, rn6, rn7, ri1, ri2, ri3, ri4, ri5]
    refine ⟨fun hlt => ?_, fun hge => ?_⟩
    · have td := hn ▸ nb_td hb g6 (a := i) (by omega) hlt
      obtain ⟨f1, f2⟩ := td_finds td rfl (now := 3) (by omega) (by omega) (by show (1 : Int) ≤ 1; omega) (by show (1 : Int) ≤ 5; omega) (by show (1 : Int) ≠ 3; omega) (by show (1 : Int) ≠ 4; omega)
      refine callP (find14_ok n hz i [] ⟨by simp, by simp⟩ 3 nm 1) ?_
      have f1' : findE n i [] 3 nm 1 = 0 := f1
      have f2' : findL n i [] 3 nm 1 = [⟨nm, 1, value, 9⟩] := f2
      simp -dsimp -implicitDefEqProofs only [f1', f2', go_sem, ↓reduceIte, reduceCtorEq, rn1, rn2, rn3, rn4, rn5, rn6, rn7, ri1, ri2, ri3, ri4, ri5]
      have hw : IntKind.i64.wrap (i + 1) = i + 1 := by rw [wrap64] <;> omega
      refine ⟨drawn (by kernel_rfl), again ⟨i + 1, by omega, by omega⟩ (by simp; omega) ?_⟩
      simp -dsimp -implicitDefEqProofs only [hw, go_sem, ↓reduceIte, reduceCtorEq, rn1, rn2, rn3, rn4, rn5, rn6, rn7, ri1, ri2, ri3, ri4, ri5]
    · have hbl := hn ▸ nb_bent hb
      refine callP (bent_ok n (by have := hz.b; omega)) ?_
      simp -dsimp -implicitDefEqProofs only [go_sem, ↓reduceIte, reduceCtorEq, rn1, rn2, rn3, rn4, rn5, rn6, rn7, ri1, ri2, ri3, ri4, ri5]
      omega
end Go.Proofs.YtbgcpopmippbiaaGreatDoor
