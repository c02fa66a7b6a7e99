/- keep. Find. -/
import Derived.Test.YtbgcpopmippbiaaGreatDoorQH
open Nat renaming reduceLT → rn1, reduceLeDiff → rn2, reduceEqDiff → rn3, reduceAdd → rn4, reduceMul → rn5, reduceSub → rn6, reduceBEq → rn7
open Int renaming reduceLT → ri1, reduceLE → ri2, reduceEq → ri3, reduceBEq → ri4, reduceNeg → ri5
namespace Go.Proofs.YtbgcpopmippbiaaGreatDoor
open Go.Eng
set_option linter.unusedSimpArgs false
set_option maxRecDepth 10000


/-- slices.Insert of one. (kins) -/
theorem kins_ok (rows : List (List D)) (x : List D) (i : Nat) (hi : i ≤ rows.length) (hl : rows.length ≤ 1000000) :
    Meets Tryz.prog 115 [(false, [.own 4 113 rows]), (false, [vI i]), (false, [.own 4 113 [x]])] (rOne (.own 4 113 (rows.take i ++ x :: rows.drop i))) := by
  refine meetsA Tryz.func115 rfl rfl Tryz.ntmps115 Tryz.results115 rfl ?_
  refine awp_spread 0 0 [(1, aI i), (2, aO 1)] [(1, some (.row 4 113 [x] true))] (Nat.zero_le _) rfl rfl ?_ ?_ fun junk hj => awp_vc sitOk ?_
  · simp -dsimp -implicitDefEqProofs only [resComps, go_sem, ↓reduceIte, reduceCtorEq, rn1, rn2, rn3, rn4, rn5, rn6, rn7, ri1, ri2, ri3, ri4, ri5]
  · simp -dsimp -implicitDefEqProofs only [resComps, go_sem, ↓reduceIte, reduceCtorEq, rn1, rn2, rn3, rn4, rn5, rn6, rn7, ri1, ri2, ri3, ri4, ri5]
  obtain ⟨R, hR⟩ : ∃ R, R = rows ++ junk := ⟨_, rfl⟩
  have e1 : R.take rows.length = rows := by rw [hR, List.take_left']; rfl
  have e0 : rows.length ≤ R.length := by rw [hR]; simp
  rw [← hR]
  clear hR hj
  have hw1 : IntKind.i64.wrap ((rows.length : Int) + 1) = ((rows.length + 1 : Nat) : Int) := by rw [wrap64] <;> omega
  have hw2 : IntKind.i64.wrap (((rows.length + 1 : Nat) : Int) - i) = ((rows.length + 1 - i : Nat) : Int) := by rw [wrap64] <;> omega
  have hw3 : IntKind.i64.wrap ((i : Int) + 1) = ((i + 1 : Nat) : Int) := by rw [wrap64] <;> omega
  have hc1 : (0 : Int) ≤ ((rows.length + 1 - i : Nat) : Int) := by omega
  have hc2 : ((rows.length + 1 - i : Nat) : Int) ≤ 9223372036854775807 := by omega
  have e2 : (R.take i).length = i := by rw [List.length_take]; omega
  have e3 : i + (rows.length + 1 - i) = rows.length + 1 := by omega
  have e4 : rows.length + 1 - i - 0 = rows.length + 1 - i := by omega
  have e5 : min 1 (rows.length + 1 - i) = 1 := by omega
  have e6 : ∀ z : List D, (splice (R.take i ++ List.replicate (rows.length + 1 - i) z) i [x]).length = rows.length + 1 := fun z => by
    have h : (R.take i ++ List.replicate (rows.length + 1 - i) z).length = rows.length + 1 := by rw [List.length_append, e2, List.length_replicate]; omega
    rw [splice_len (by rw [h, List.length_singleton]; omega), h]
  have e7 : i + (rows.length - i) = rows.length := by omega
  have e8 : (R.drop i).take (rows.length - i) = rows.drop i := by
    have : (R.take rows.length).drop i = rows.drop i := by rw [e1]
    rw [← this, List.drop_take]
  have e9 : rows.length + 1 - (i + 1) = rows.length - i := by omega
  have e10 : (rows.drop i).length = rows.length - i := by simp
  have e11 : (rows.drop i).take (rows.length - i) = rows.drop i := List.take_of_length_le (by simp)
  have e12 : i + 1 + (rows.length - i) = rows.length + 1 := by omega
  have e13 : ((R.drop i).take (rows.length + 1 - i)).take (rows.length - i) = rows.drop i := by rw [List.take_take, Nat.min_eq_left (by omega), e8]
  have e14 : min (rows.length + 1 - i) (rows.length - i) = rows.length - i := by omega
  have e15 : rows.length + 1 - i + i = rows.length + 1 := by omega
  have e16 : i + (rows.length + 1 - i) - i = rows.length + 1 - i := by omega
  have hend : (i : Int) = (rows.length : Int) → rows.take i ++ x :: rows.drop i = rows ++ [x] := fun h => by
    have : i = rows.length := by omega
    subst this
    simp
  by_cases hroom : rows.length + 1 ≤ R.length
  · have e17 : ((R.drop i).take (rows.length + 1 - i)).length = rows.length + 1 - i := by simp; omega
    have hl1 : (splice R (i + 1) (rows.drop i)).length = R.length := splice_len (by simp; omega)
    simp -dsimp -implicitDefEqProofs only [e0, e1, hw1, hw2, hw3, hc1, hc2, e2, e3, e4, e5, e6, e7, e8, e9, e10, e11, e12, e13, e14, e16, Nat.min_self, List.length_replicate, List.length_append, hroom, e17, go_sem, ↓reduceIte, reduceCtorEq, rn1, rn2, rn3, rn4, rn5, rn6, rn7, ri1, ri2, ri3, ri4, ri5]
    repeat' (first | with_reducible apply And.intro | with_reducible intro _ | with_reducible exact drawn (by kernel_rfl) | omega)
    · rw [splice_len (by rw [List.length_singleton]; omega)]; exact hroom
    · rename_i h
      rw [hend h, ins_end R rows x e1 e0]
    · rw [splice_len (by rw [List.length_singleton, hl1]; omega), hl1]; exact hroom
    · exact (ins_room R rows x i e1 hi hroom).symm
  · simp -dsimp -implicitDefEqProofs only [e0, e1, hw1, hw2, hw3, hc1, hc2, e2, e3, e4, e5, e6, e7, e8, e9, e10, e11, e12, e13, e14, e16, Nat.min_self, List.length_replicate, List.length_append, hroom, go_sem, ↓reduceIte, reduceCtorEq, rn1, rn2, rn3, rn4, rn5, rn6, rn7, ri1, ri2, ri3, ri4, ri5]
    repeat' (first | with_reducible apply And.intro | with_reducible intro _ | with_reducible exact drawn (by kernel_rfl) | omega)
    · rename_i h
      exact (hend h).symm
    · exact ins_new R rows x _ i e1 hi
theorem byUntil_ok (a b : Kp) : Meets Tryz.prog 112 [a.arg, b.arg] (rOne (vI (cmpI a.U b.U))) := by
  refine meets Tryz.func112 rfl rfl Tryz.ntmps112 Tryz.results112 rfl ?_
  simp -dsimp -implicitDefEqProofs only [go_sem, ↓reduceIte, reduceCtorEq, rn1, rn2, rn3, rn4, rn5, rn6, rn7, ri1, ri2, ri3, ri4, ri5]
  refine callP (cmpI_ok _ _) ?_
  simp -dsimp -implicitDefEqProofs only [go_sem, ↓reduceIte, reduceCtorEq, rn1, rn2, rn3, rn4, rn5, rn6, rn7, ri1, ri2, ri3, ri4, ri5]
theorem same1_ok (x m : Kp) : Meets Tryz.prog 114 [x.arg, (false, [vD (.pt m.cells)])] (rOne (vB (koQ.cmp (kQ x) (kQ m) == 0))) := by
  refine meets Tryz.func114 rfl rfl Tryz.ntmps114 Tryz.results114 rfl ?_
  simp -dsimp -implicitDefEqProofs only [go_sem, ↓reduceIte, reduceCtorEq, rn1, rn2, rn3, rn4, rn5, rn6, rn7, ri1, ri2, ri3, ri4, ri5]
  refine callP (korder_ok x m) ?_
  simp -dsimp -implicitDefEqProofs only [go_sem, ↓reduceIte, reduceCtorEq, rn1, rn2, rn3, rn4, rn5, rn6, rn7, ri1, ri2, ri3, ri4, ri5]
structure MnInv (L : List Kp) where
  i : Nat
  m : Kp
  le : i ≤ L.length
  eq : minO (L.take i) = some m
theorem minO_step {L : List Kp} {i : Nat} {m x : Kp} (h : minO (L.take i) = some m) (hx : L[i]? = some x) : minO (L.take (i + 1)) = some (if x.U < m.U then x else m) := by
  rw [List.take_add_one, hx]
  show minO (L.take i ++ [x]) = _
  rw [minO_app, h]
  unfold minStep
  simp only
  split <;> rfl
theorem kdropK_step {l : List Kp} {j : Nat} {v : Kp} (k : Bs × Int) (h : l[j]? = some v) : dropK koQ kQ (l.take (j + 1)) k = dropK koQ kQ (l.take j) k ++ (if koQ.cmp (kQ v) k == 0 then [] else [v]) := by
  unfold dropK
  rw [List.take_add_one, h, List.filter_append]
  congr 1
  cases hc : koQ.cmp (kQ v) k == 0 <;> simp [hc]
theorem kdropK_self {l : List Kp} {k : Bs × Int} {i : Nat} (h : ∀ j x, j < i → l[j]? = some x → (koQ.cmp (kQ x) k == 0) = false) : dropK koQ kQ (l.take i) k = l.take i := by
  unfold dropK
  rw [List.filter_eq_self]
  intro x hx
  obtain ⟨j, hj⟩ := List.mem_iff_getElem?.1 hx
  rw [List.getElem?_take] at hj
  split at hj
  · rename_i hlt; rw [h j x hlt hj]; rfl
  · cases hj
theorem kset_take {l : List Kp} {i : Nat} {v : Kp} (h : i < l.length) : (l.set i v).take (i + 1) = l.take i ++ [v] := by
  rw [List.take_add_one, List.getElem?_set_self h, List.take_set_of_le (Nat.le_refl _)]
  rfl
structure DkInv (l : List Kp) (k : Bs × Int) where
  i : Nat
  j : Nat
  X : List Kp
  ij : i ≤ j
  jl : j ≤ l.length
  len : X.length = l.length
  pre : X.take i = dropK koQ kQ (l.take j) k
  suf : X.drop j = l.drop j
theorem hit_drop {L : List Kp} (hr : Ris koQ kQ L) {q k : Bs × Int} (h : hitK koQ kQ L k = false) : hitK koQ kQ (dropK koQ kQ L q) k = false := by
  rw [Bool.eq_false_iff]
  intro hh
  obtain ⟨x, hx, hk⟩ := (hitK_iff (dropK_ris hr q) k).1 hh
  have := (hitK_iff hr k).2 ⟨x, (mem_dropK.1 hx).1, hk⟩
  rw [h] at this; cases this
set_option maxHeartbeats 4000000 in
theorem kdel_ok (L : List Kp) (hl : L.length ≤ 1000000) (m : Kp) (hm : m ∈ L) : Meets Tryz.prog 113 [(false, [.own 4 113 (L.map Kp.cells)]), (false, [vD (.fn 114 [.pt m.cells])])]
    (rOne (.own 4 113 ((dropK koQ kQ L (kQ m)).map Kp.cells))) := by
  refine meets Tryz.func113 rfl rfl Tryz.ntmps113 Tryz.results113 rfl ?_
  simp -dsimp -implicitDefEqProofs only [go_sem, ↓reduceIte, reduceCtorEq, rn1, rn2, rn3, rn4, rn5, rn6, rn7, ri1, ri2, ri3, ri4, ri5]
  refine callW rfl Tryz.func180 rfl rfl Tryz.ntmps180 Tryz.results180 rfl ?_
  simp -dsimp -implicitDefEqProofs only [retH, go_sem, ↓reduceIte, reduceCtorEq, rn1, rn2, rn3, rn4, rn5, rn6, rn7, ri1, ri2, ri3, ri4, ri5]
  refine vfor sitOk (ι := IxInv (fun y => koQ.cmp (kQ y) (kQ m) == 0) L) (fun v => ⟨19, [(8, aI v.i), (7, aI L.length), (6, aO 0), (0, aO 0), (1, aD (.fn 114 [.pt m.cells]))],
    [(0, some (.row 4 113 (L.map Kp.cells) true))], 300⟩) (fun v => L.length - v.i) ⟨0, by omega, fun j x hj => by omega⟩ ?_ ?_
  · simp -dsimp -implicitDefEqProofs only [go_sem, ↓reduceIte, reduceCtorEq, rn1, rn2, rn3, rn4, rn5, rn6, rn7, ri1, ri2, ri3, ri4, ri5]
  intro ⟨i, hi, hno⟩
  simp -dsimp -implicitDefEqProofs only [go_sem, ↓reduceIte, reduceCtorEq, rn1, rn2, rn3, rn4, rn5, rn6, rn7, ri1, ri2, ri3, ri4, ri5]
  refine ⟨fun hlt => ?_, fun hge => ?_⟩
  · have hil : i < L.length := by omega
    obtain ⟨y, hx⟩ : ∃ y, L[i]? = some y := ⟨_, List.getElem?_eq_getElem hil⟩
    have hw := wrapS hil (by omega)
    simp -dsimp -implicitDefEqProofs only [hx, forall_eq', hw, List.length_map, go_sem, ↓reduceIte, reduceCtorEq, rn1, rn2, rn3, rn4, rn5, rn6, rn7, ri1, ri2, ri3, ri4, ri5]
    refine ⟨by omega, hil, callP (same1_ok y m) ?_⟩
    cases hc : koQ.cmp (kQ y) (kQ m) == 0 with
    | false =>
      simp -dsimp -implicitDefEqProofs only [hw, hc, go_sem, ↓reduceIte, reduceCtorEq, rn1, rn2, rn3, rn4, rn5, rn6, rn7, ri1, ri2, ri3, ri4, ri5]
      refine again ⟨i + 1, by omega, fun j z hj hz => ?_⟩ (by simp; omega) ?_
      · by_cases hji : j = i
        · subst hji; rw [hx] at hz; cases hz; exact hc
        · exact hno j z (by omega) hz
      · simp -dsimp -implicitDefEqProofs only [hw, go_sem, ↓reduceIte, reduceCtorEq, rn1, rn2, rn3, rn4, rn5, rn6, rn7, ri1, ri2, ri3, ri4, ri5]
    | true =>
      have hm1 : ¬ (i : Int) = -1 := by omega
      simp -dsimp -implicitDefEqProofs only [retH, hw, hc, hm1, go_sem, ↓reduceIte, reduceCtorEq, rn1, rn2, rn3, rn4, rn5, rn6, rn7, ri1, ri2, ri3, ri4, ri5]
      have hself := kdropK_self (l := L) (k := kQ m) (i := i) hno
      have hst0 := kdropK_step (l := L) (kQ m) hx
      rw [hc, if_pos rfl, List.append_nil, hself] at hst0
      refine vfor sitOk (ι := DkInv L (kQ m)) (fun v => ⟨42, [(6, aI v.j), (5, aI v.i), (0, aO 0), (1, aD (.fn 114 [.pt m.cells]))],
        [(0, some (.row 4 113 (v.X.map Kp.cells) true))], 500⟩) (fun v => L.length - v.j)
        ⟨i, i + 1, L, by omega, by omega, rfl, hst0.symm, rfl⟩ ?_ ?_
      · simp -dsimp -implicitDefEqProofs only [go_sem, ↓reduceIte, reduceCtorEq, rn1, rn2, rn3, rn4, rn5, rn6, rn7, ri1, ri2, ri3, ri4, ri5]
      intro ⟨p, j, X, hpj, hjl, hXl, hpre, hsuf⟩
      simp -dsimp -implicitDefEqProofs only [go_sem, ↓reduceIte, reduceCtorEq, rn1, rn2, rn3, rn4, rn5, rn6, rn7, ri1, ri2, ri3, ri4, ri5]
      refine ⟨fun hlt => ?_, fun hge => ?_⟩
      · have hjl2 : j < L.length := by simp [hXl] at hlt; omega
        obtain ⟨v, hv⟩ : ∃ v, L[j]? = some v := ⟨_, List.getElem?_eq_getElem hjl2⟩
        have hXv : X[j]? = some v := by
          have h2 : (X.drop j)[0]? = (L.drop j)[0]? := by rw [hsuf]
          rw [List.getElem?_drop, List.getElem?_drop] at h2
          simpa [hv] using h2
        have hw := wrapS hjl2 (by omega)
        have hwp : IntKind.i64.wrap ((p : Int) + 1) = ((p + 1 : Nat) : Int) := by rw [wrap64] <;> omega
        have hst := kdropK_step (l := L) (kQ m) hv
        have hsuf' : X.drop (j + 1) = L.drop (j + 1) := by rw [← List.drop_drop, ← List.drop_drop, hsuf]
        simp -dsimp -implicitDefEqProofs only [hXv, forall_eq', hw, hwp, go_sem, ↓reduceIte, reduceCtorEq, rn1, rn2, rn3, rn4, rn5, rn6, rn7, ri1, ri2, ri3, ri4, ri5]
        refine ⟨by omega, by omega, callP (same1_ok v m) ?_⟩
        cases hcv : koQ.cmp (kQ v) (kQ m) == 0 with
        | true =>
          rw [hcv, if_pos rfl, List.append_nil] at hst
          simp -dsimp -implicitDefEqProofs only [hcv, hw, hwp, go_sem, ↓reduceIte, reduceCtorEq, rn1, rn2, rn3, rn4, rn5, rn6, rn7, ri1, ri2, ri3, ri4, ri5]
          refine again ⟨p, j + 1, X, by omega, by omega, hXl, by rw [hst]; exact hpre, hsuf'⟩ (by simp; omega) ?_
          simp -dsimp -implicitDefEqProofs only [hw, go_sem, ↓reduceIte, reduceCtorEq, rn1, rn2, rn3, rn4, rn5, rn6, rn7, ri1, ri2, ri3, ri4, ri5]
        | false =>
          rw [hcv, if_neg (by simp)] at hst
          have hset : (X.map Kp.cells).set p [dT v.N, dI v.K, recsD v.R, dI v.U] = (X.set p v).map Kp.cells := by rw [List.map_set]; rfl
          simp -dsimp -implicitDefEqProofs only [hcv, hw, hwp, hset, go_sem, ↓reduceIte, reduceCtorEq, rn1, rn2, rn3, rn4, rn5, rn6, rn7, ri1, ri2, ri3, ri4, ri5]
          refine ⟨by omega, by omega, fun z hz => ?_⟩
          refine again ⟨p + 1, j + 1, X.set p v, by omega, by omega, by simpa using hXl, by rw [kset_take (by omega), hpre, hst], by rw [List.drop_set, if_pos (by omega)]; exact hsuf'⟩ (by simp; omega) ?_
          simp -dsimp -implicitDefEqProofs only [hw, hwp, hset, go_sem, ↓reduceIte, reduceCtorEq, rn1, rn2, rn3, rn4, rn5, rn6, rn7, ri1, ri2, ri3, ri4, ri5]
      · have hjl2 : j = L.length := by simp [hXl] at hge; omega
        subst hjl2
        rw [List.take_length] at hpre
        have hsl : ∀ z : List D, (splice (X.map Kp.cells) p (List.replicate (X.length - p) z)).length = X.length := fun z => by
          rw [splice_len (by simp; omega)]; simp
        refine ⟨⟨by omega, by omega⟩, by omega, ⟨by omega, by rw [hsl]; omega⟩, by rw [hsl]; omega, ?_⟩
        rw [take_splice _ _ _ (by simp; omega), ← List.map_take, hpre]
  · exfalso
    have hil : i = L.length := by omega
    obtain ⟨j, hj⟩ := List.mem_iff_getElem?.1 hm
    have h3 := hno j m (by have := (List.getElem?_eq_some_iff.1 hj).1; omega) hj
    rw [beq_eq_false_iff_ne] at h3
    exact h3 (koQ.eq0.2 rfl)
set_option maxHeartbeats 4000000 in
theorem keep14_ok (L : List Kp) (hri : Ris koQ kQ L) (hl : L.length ≤ 1000000) (k : Kp) : Meets Tryz.prog 43 [(true, [.own 4 113 (L.map Kp.cells)]), k.arg] (rAgg [.own 4 113 ((keepV L k).map Kp.cells)]) := by
  refine meets Tryz.func43 rfl rfl Tryz.ntmps43 Tryz.results43 rfl ?_
  simp -dsimp -implicitDefEqProofs only [go_sem, ↓reduceIte, reduceCtorEq, rn1, rn2, rn3, rn4, rn5, rn6, rn7, ri1, ri2, ri3, ri4, ri5]
  refine callP (at_ok L hl k.N k.K) ?_
  have hposl := posK_le (o := koQ) (key := kQ) L (kQ k)
  cases hh : hitK koQ kQ L (k.N, k.K) with
  | true =>
    have hlt := hitK_lt hh
    have hkv : keepV L k = L.set (posK koQ kQ L (kQ k)) k := by
      unfold keepV roomL
      rw [show hitK koQ kQ L (kQ k) = true from hh]
      simp only [if_true]
      unfold withK
      rw [if_pos hh]
    have hput : (L.map Kp.cells).set (posK koQ kQ L (k.N, k.K)) [dT k.N, dI k.K, recsD k.R, dI k.U] = (keepV L k).map Kp.cells := by
      rw [hkv, List.map_set]; rfl
    simp -dsimp -implicitDefEqProofs only [hh, go_sem, ↓reduceIte, reduceCtorEq, rn1, rn2, rn3, rn4, rn5, rn6, rn7, ri1, ri2, ri3, ri4, ri5]
    exact ⟨⟨by omega, by omega⟩, hlt, fun x hx => hput⟩
  | false =>
    by_cases h128 : L.length = 128
    · have hL0 : (L.length : Int) = 128 := by omega
      simp -dsimp -implicitDefEqProofs only [hh, hL0, go_sem, ↓reduceIte, reduceCtorEq, rn1, rn2, rn3, rn4, rn5, rn6, rn7, ri1, ri2, ri3, ri4, ri5]
      refine callW rfl Tryz.func111 rfl rfl Tryz.ntmps111 Tryz.results111 rfl ?_
      simp -dsimp -implicitDefEqProofs only [retH, go_sem, ↓reduceIte, reduceCtorEq, rn1, rn2, rn3, rn4, rn5, rn6, rn7, ri1, ri2, ri3, ri4, ri5]
      have hl0 : L[0]? = some L[0] := List.getElem?_eq_getElem (by omega)
      refine ⟨fun h => by omega, fun _ => ⟨by omega, by omega, fun x0 hx0 => ?_⟩⟩
      refine vfor sitOk (ι := MnInv L) (fun v => ⟨33, [(6, aI v.i), (5, aP 241 0), (4, aP 185 0), (0, aO 0), (1, aD (.fn 112 []))], [(241, some (.var [cS v.m.N, cI v.m.K, cD (recsD v.m.R), cI v.m.U] true)), (185, some (.var [cS [], cI 0, .nils 4, cI 0] true)), (17, some (.var [.nils 4] true)), (9, some (.var [cS k.N, cI k.K, cD (recsD k.R), cI k.U] true)), (1, some (.var [.own 0] true)), (0, some (.row 4 113 (L.map Kp.cells) true))], 400⟩) (fun v => L.length - v.i) ⟨1, x0, by omega, ?_⟩ ?_ ?_
      · rw [List.take_add_one, hx0]; rfl
      · simp -dsimp -implicitDefEqProofs only [go_sem, ↓reduceIte, reduceCtorEq, rn1, rn2, rn3, rn4, rn5, rn6, rn7, ri1, ri2, ri3, ri4, ri5]
      intro ⟨i, m, hi, hm⟩
      simp -dsimp -implicitDefEqProofs only [go_sem, ↓reduceIte, reduceCtorEq, rn1, rn2, rn3, rn4, rn5, rn6, rn7, ri1, ri2, ri3, ri4, ri5]
      refine ⟨fun hlt => ?_, fun hge => ?_⟩
      · have hil : i < L.length := by omega
        obtain ⟨x, hx⟩ : ∃ x, L[i]? = some x := ⟨_, List.getElem?_eq_getElem hil⟩
        have hw := wrapS hil (by omega)
        have hst := minO_step hm hx
        simp -dsimp -implicitDefEqProofs only [hx, forall_eq', hw, go_sem, ↓reduceIte, reduceCtorEq, rn1, rn2, rn3, rn4, rn5, rn6, rn7, ri1, ri2, ri3, ri4, ri5]
        refine ⟨⟨by omega, by omega⟩, hil, callP (byUntil_ok x m) ?_⟩
        by_cases hu : x.U < m.U
        · rw [if_pos hu] at hst
          have hc := cmpI_lt.2 hu
          simp -dsimp -implicitDefEqProofs only [hc, hx, forall_eq', go_sem, ↓reduceIte, reduceCtorEq, rn1, rn2, rn3, rn4, rn5, rn6, rn7, ri1, ri2, ri3, ri4, ri5]
          refine ⟨drawn (by kernel_rfl), ⟨by omega, by omega⟩, hil, again ⟨i + 1, x, by omega, hst⟩ (by simp; omega) ?_⟩
          simp -dsimp -implicitDefEqProofs only [hw, go_sem, ↓reduceIte, reduceCtorEq, rn1, rn2, rn3, rn4, rn5, rn6, rn7, ri1, ri2, ri3, ri4, ri5]
        · rw [if_neg hu] at hst
          have hc : ¬ cmpI x.U m.U < 0 := fun h => hu (cmpI_lt.1 h)
          simp -dsimp -implicitDefEqProofs only [hc, go_sem, ↓reduceIte, reduceCtorEq, rn1, rn2, rn3, rn4, rn5, rn6, rn7, ri1, ri2, ri3, ri4, ri5]
          refine ⟨drawn (by kernel_rfl), again ⟨i + 1, m, by omega, hst⟩ (by simp; omega) ?_⟩
          simp -dsimp -implicitDefEqProofs only [hw, go_sem, ↓reduceIte, reduceCtorEq, rn1, rn2, rn3, rn4, rn5, rn6, rn7, ri1, ri2, ri3, ri4, ri5]
      · have hil : i = L.length := by omega
        subst hil
        rw [List.take_length] at hm
        simp -dsimp -implicitDefEqProofs only [retH, go_sem, ↓reduceIte, reduceCtorEq, rn1, rn2, rn3, rn4, rn5, rn6, rn7, ri1, ri2, ri3, ri4, ri5]
        have hmm := minO_mem hm
        refine callZ2 472 [true, false] sitOk rfl ?_
        simp -dsimp -implicitDefEqProofs only [go_sem, ↓reduceIte, reduceCtorEq, rn1, rn2, rn3, rn4, rn5, rn6, rn7, ri1, ri2, ri3, ri4, ri5]
        refine ⟨_, kdel_ok L hl m hmm, ?_⟩
        simp -dsimp -implicitDefEqProofs only [go_sem, ↓reduceIte, reduceCtorEq, rn1, rn2, rn3, rn4, rn5, rn6, rn7, ri1, ri2, ri3, ri4, ri5]
        have hkv : keepV L k = withK koQ kQ (dropK koQ kQ L (kQ m)) k := by
          unfold keepV roomL
          rw [show hitK koQ kQ L (kQ k) = false from hh, if_neg (by simp), if_pos h128, hm]
        have hhd : hitK koQ kQ (dropK koQ kQ L (kQ m)) (kQ k) = false := hit_drop hri hh
        have hdl : (dropK koQ kQ L (kQ m)).length ≤ L.length := List.length_filter_le _ _
        generalize dropK koQ kQ L (kQ m) = M at *
        have hposm := posK_le (o := koQ) (key := kQ) M (kQ k)
        have hput : (M.map Kp.cells).take (posK koQ kQ M (k.N, k.K)) ++ [dT k.N, dI k.K, recsD k.R, dI k.U] :: (M.map Kp.cells).drop (posK koQ kQ M (k.N, k.K)) = (keepV L k).map Kp.cells := by
          rw [hkv]; unfold withK; rw [hhd]; simp [List.map_append, List.map_take, List.map_drop, Kp.cells]
        refine callP (at_ok M (by omega) k.N k.K) ?_
        simp -dsimp -implicitDefEqProofs only [go_sem, ↓reduceIte, reduceCtorEq, rn1, rn2, rn3, rn4, rn5, rn6, rn7, ri1, ri2, ri3, ri4, ri5]
        refine callE [true, false, true] ?_
        simp -dsimp -implicitDefEqProofs only [go_sem, ↓reduceIte, reduceCtorEq, rn1, rn2, rn3, rn4, rn5, rn6, rn7, ri1, ri2, ri3, ri4, ri5]
        refine ⟨_, kins_ok (M.map Kp.cells) [dT k.N, dI k.K, recsD k.R, dI k.U] (posK koQ kQ M (k.N, k.K)) (by simpa using hposm) (by simp; omega), ?_⟩
        simp -dsimp -implicitDefEqProofs only [hput, go_sem, ↓reduceIte, reduceCtorEq, rn1, rn2, rn3, rn4, rn5, rn6, rn7, ri1, ri2, ri3, ri4, ri5]
    · have hL0 : ¬ (L.length : Int) = 128 := by omega
      have hkv : keepV L k = L.take (posK koQ kQ L (kQ k)) ++ k :: L.drop (posK koQ kQ L (kQ k)) := by
        unfold keepV roomL
        rw [show hitK koQ kQ L (kQ k) = false from hh, if_neg (by simp), if_neg h128]
        unfold withK
        rw [show hitK koQ kQ L (kQ k) = false from hh]; rfl
      have hput : (L.map Kp.cells).take (posK koQ kQ L (k.N, k.K)) ++ [dT k.N, dI k.K, recsD k.R, dI k.U] :: (L.map Kp.cells).drop (posK koQ kQ L (k.N, k.K)) = (keepV L k).map Kp.cells := by
        rw [hkv]; simp [List.map_append, List.map_take, List.map_drop, Kp.cells]
      simp -dsimp -implicitDefEqProofs only [hh, hL0, go_sem, ↓reduceIte, reduceCtorEq, rn1, rn2, rn3, rn4, rn5, rn6, rn7, ri1, ri2, ri3, ri4, ri5]
      refine callE [true, false, true] ?_
      simp -dsimp -implicitDefEqProofs only [go_sem, ↓reduceIte, reduceCtorEq, rn1, rn2, rn3, rn4, rn5, rn6, rn7, ri1, ri2, ri3, ri4, ri5]
      refine ⟨_, kins_ok (L.map Kp.cells) [dT k.N, dI k.K, recsD k.R, dI k.U] (posK koQ kQ L (k.N, k.K)) (by simpa using hposl) (by simp; omega), ?_⟩
      simp -dsimp -implicitDefEqProofs only [hput, go_sem, ↓reduceIte, reduceCtorEq, rn1, rn2, rn3, rn4, rn5, rn6, rn7, ri1, ri2, ri3, ri4, ri5]
end Go.Proofs.YtbgcpopmippbiaaGreatDoor
namespace Go.Proofs.YtbgcpopmippbiaaGreatDoor
open Go.Eng
set_option linter.unusedSimpArgs false
set_option maxRecDepth 10000

theorem chkC_vals (L : List Kp) : chkC L = 0 ∨ chkC L = 1 ∨ chkC L = 2 := by
  unfold chkC
  split
  · exact .inr (.inr rfl)
  · split
    · exact .inl rfl
    · exact .inr (.inl rfl)
theorem chkN_vals (n : Nt) : chkN n = 0 ∨ chkN n = 1 ∨ chkN n = 2 := by
  unfold chkN
  split
  · split
    · exact .inr (.inr rfl)
    · exact .inl rfl
  · exact .inr (.inl rfl)
theorem find_bad {n : Nt} {seen : Int} {L : List Kp} {now : Int} {name : Bs} {k : Int} {e : Int} (h : findE n seen L now name k = e) (he : okF e = false) : findL n seen L now name k = [] ∧ findC n seen L now name k = [] ∧ findE n seen L now name k = e := by
  unfold findL findC
  rw [h, he]
  exact ⟨rfl, rfl, rfl⟩
/-- Caches of a size that is looked at. -/
structure Cz (L : List Kp) : Prop where
  l : L.length ≤ 1000
  r : ∀ k ∈ L, k.R.length ≤ 1000
set_option maxHeartbeats 4000000 in
theorem find14_ok (n : Nt) (hz : Sz n) (seen : Int) (L : List Kp) (hc : Cz L) (now : Int) (name : Bs) (k : Int) :
    Meets Tryz.prog 12 [n.arg, (false, [vI seen]), cacheA L, (false, [vI now]), (false, [vS name]), (false, [vI k])]
      (rTup [(false, [vD (recsD (findL n seen L now name k))]), (true, [vD (kpsD (findC n seen L now name k))]), (false, [vI (findE n seen L now name k)])]) := by
  have hcl := hc.l
  have hcr : ∀ x ∈ L, x.R.length ≤ 1000000 := fun x hx => by have := hc.r x hx; omega
  refine meetsF Tryz.func12 rfl rfl Tryz.ntmps12 Tryz.results12 rfl ?_
  simp -dsimp -implicitDefEqProofs only [go_sem, ↓reduceIte, reduceCtorEq, rn1, rn2, rn3, rn4, rn5, rn6, rn7, ri1, ri2, ri3, ri4, ri5]
  refine callP (ccheck_ok L (by omega) hcr) ?_
  by_cases h0 : chkC L = 0
  · simp -dsimp -implicitDefEqProofs only [h0, go_sem, ↓reduceIte, reduceCtorEq, rn1, rn2, rn3, rn4, rn5, rn6, rn7, ri1, ri2, ri3, ri4, ri5]
    refine callP (check_okN n hz) ?_
    by_cases h1 : chkN n = 0
    · simp -dsimp -implicitDefEqProofs only [h1, go_sem, ↓reduceIte, reduceCtorEq, rn1, rn2, rn3, rn4, rn5, rn6, rn7, ri1, ri2, ri3, ri4, ri5]
      refine callP (time_ok now) ?_
      cases hg : goodQ n seen now k with
      | false =>
        have hb := find_bad (n := n) (seen := seen) (L := L) (now := now) (name := name) (k := k) (e := 1) (by unfold findE; rw [if_neg (by omega), if_neg (by omega), if_pos hg]) rfl
        simp -dsimp -implicitDefEqProofs only [go_sem, ↓reduceIte, reduceCtorEq, rn1, rn2, rn3, rn4, rn5, rn6, rn7, ri1, ri2, ri3, ri4, ri5]
        rw [hb.1, hb.2.1, hb.2.2]
        repeat' (first | with_reducible apply And.intro | with_reducible intro _ | with_reducible exact drawn (by kernel_rfl) | (refine callP (kinds_ok k) ?_; simp -dsimp -implicitDefEqProofs only [go_sem, ↓reduceIte, reduceCtorEq, rn1, rn2, rn3, rn4, rn5, rn6, rn7, ri1, ri2, ri3, ri4, ri5]) | omega)
        all_goals first
          | (refine retF [] ?_
             simp -dsimp -implicitDefEqProofs only [go_sem, ↓reduceIte, reduceCtorEq, rn1, rn2, rn3, rn4, rn5, rn6, rn7, ri1, ri2, ri3, ri4, ri5]
             done)
          | (exfalso
             unfold goodQ at hg
             rw [show timeB now = true by assumption, show kindB k = true by assumption, decide_eq_true (show -1 ≤ seen by omega), decide_eq_true (show seen < n.N by omega)] at hg
             cases hg)
      | true =>
        have hg' := hg
        unfold goodQ at hg'
        simp only [Bool.and_eq_true, decide_eq_true_eq] at hg'
        obtain ⟨⟨⟨q1, q2⟩, q3⟩, q4⟩ := hg'
        have q2' : ¬ seen < -1 := by omega
        have q3' : ¬ n.N ≤ seen := by omega
        simp -dsimp -implicitDefEqProofs only [q1, q2, q3, q2', q3', go_sem, ↓reduceIte, reduceCtorEq, rn1, rn2, rn3, rn4, rn5, rn6, rn7, ri1, ri2, ri3, ri4, ri5]
        refine callP (kinds_ok k) ?_
        simp -dsimp -implicitDefEqProofs only [q4, go_sem, ↓reduceIte, reduceCtorEq, rn1, rn2, rn3, rn4, rn5, rn6, rn7, ri1, ri2, ri3, ri4, ri5]
        refine callP (check_ok name) ?_
        cases hnm : isName name with
        | false =>
          have hb := find_bad (n := n) (seen := seen) (L := L) (now := now) (name := name) (k := k) (e := 110) (by unfold findE; rw [if_neg (by omega), if_neg (by omega), if_neg (by simp [hg]), if_pos hnm]) rfl
          simp -dsimp -implicitDefEqProofs only [hnm, Bool.false_eq_true, go_sem, ↓reduceIte, reduceCtorEq, rn1, rn2, rn3, rn4, rn5, rn6, rn7, ri1, ri2, ri3, ri4, ri5]
          rw [hb.1, hb.2.1, hb.2.2]
          refine ⟨drawn (by kernel_rfl), retF [] ?_⟩
          simp -dsimp -implicitDefEqProofs only [go_sem, ↓reduceIte, reduceCtorEq, rn1, rn2, rn3, rn4, rn5, rn6, rn7, ri1, ri2, ri3, ri4, ri5]
        | true =>
          have hE : findE n seen L now name k = match heldV L now name k with
            | some R => if R = [] then 131 else 0
            | none => (wayV n seen name k).E := by
            unfold findE; rw [if_neg (by omega), if_neg (by omega), if_neg (by simp [hg]), if_neg (by simp [hnm])]
            cases heldV L now name k <;> rfl
          simp -dsimp -implicitDefEqProofs only [hnm, go_sem, ↓reduceIte, reduceCtorEq, rn1, rn2, rn3, rn4, rn5, rn6, rn7, ri1, ri2, ri3, ri4, ri5]
          have hho := held_ok L (by omega) hcr now name k
          cases hh : heldV L now name k with
          | some R =>
            rw [hh] at hE
            simp only at hE
            have hR0 : ((heldR (some R)).length : Int) = 0 ↔ R = [] := ⟨fun h => List.eq_nil_of_length_eq_zero (by have : heldR (some R) = R := rfl; rw [this] at h; omega), fun h => by rw [h]; rfl⟩
            have hL : findL n seen L now name k = R := by unfold findL; rw [hE, hh]; by_cases hR : R = [] <;> simp [hR, okF]
            have hC : findC n seen L now name k = L := by unfold findC; rw [hE, hh]; by_cases hR : R = [] <;> simp [hR, okF]
            rw [hE, hL, hC]
            rw [hh] at hho
            refine callP hho ?_
            simp -dsimp -implicitDefEqProofs only [go_sem, ↓reduceIte, reduceCtorEq, rn1, rn2, rn3, rn4, rn5, rn6, rn7, ri1, ri2, ri3, ri4, ri5]
            refine ⟨fun h => ⟨drawn (by kernel_rfl), ?_⟩, fun h => ⟨drawn (by kernel_rfl), ?_⟩⟩
            · have hRe := hR0.1 h
              subst hRe
              rw [if_pos rfl]
              refine retF [] ?_
              simp -dsimp -implicitDefEqProofs only [go_sem, ↓reduceIte, reduceCtorEq, rn1, rn2, rn3, rn4, rn5, rn6, rn7, ri1, ri2, ri3, ri4, ri5]
            · rw [if_neg (fun e => h (hR0.2 e))]
              refine retF [336] ?_
              simp -dsimp -implicitDefEqProofs only [go_sem, ↓reduceIte, reduceCtorEq, rn1, rn2, rn3, rn4, rn5, rn6, rn7, ri1, ri2, ri3, ri4, ri5]
              rfl
          | none =>
            rw [hh] at hE
            simp only at hE
            have hL : findL n seen L now name k = if okF (wayV n seen name k).E then (wayV n seen name k).L else [] := by unfold findL; rw [hE, hh]
            have hC : findC n seen L now name k = if okF (wayV n seen name k).E then (if (wayV n seen name k).E = 130 then L else keepV (trimL L now) (keptOf n seen now name k)) else [] := by unfold findC; rw [hE, hh]
            have hwo := wayV_ok n seen name k
            rw [hh] at hho
            refine callP hho ?_
            simp -dsimp -implicitDefEqProofs only [go_sem, ↓reduceIte, reduceCtorEq, rn1, rn2, rn3, rn4, rn5, rn6, rn7, ri1, ri2, ri3, ri4, ri5]
            refine callP (ask14_ok n hz seen name k) ?_
            by_cases hlost : (wayV n seen name k).E = 130
            · have hw := hwo.lost hlost
              have hL2 : findL n seen L now name k = [] := by rw [hL, hw]; rfl
              have hC2 : findC n seen L now name k = L := by rw [hC, hlost]; rfl
              rw [hE, hL2, hC2]
              simp -dsimp -implicitDefEqProofs only [hlost, go_sem, ↓reduceIte, reduceCtorEq, rn1, rn2, rn3, rn4, rn5, rn6, rn7, ri1, ri2, ri3, ri4, ri5]
              refine ⟨drawn (by kernel_rfl), retF [] ?_⟩
              simp -dsimp -implicitDefEqProofs only [go_sem, ↓reduceIte, reduceCtorEq, rn1, rn2, rn3, rn4, rn5, rn6, rn7, ri1, ri2, ri3, ri4, ri5]
            · have hok : okF (wayV n seen name k).E = true := by
                rcases hwo.kind with h | h | h
                · rw [h]; rfl
                · exact absurd h hlost
                · rw [h]; rfl
              rw [hok, if_pos rfl] at hL
              rw [hok, if_pos rfl, if_neg hlost] at hC
              rw [hE, hL, hC]
              have hF : 1 ≤ (wayV n seen name k).F ∧ (wayV n seen name k).F ≤ 1000 ∧ (wayV n seen name k).L.length ≤ 64 := by
                rcases hwo.kind with h | h | h
                · have := hwo.some h; exact ⟨this.2.1, this.2.2.1, this.2.2.2.1⟩
                · exact absurd h hlost
                · rw [hwo.none h]; simp
              have htm : 0 ≤ now ∧ now ≤ 1099511627776 := by
                unfold timeB at q1; simpa using q1
              have hwr : IntKind.i64.wrap (now + (wayV n seen name k).F) = now + (wayV n seen name k).F := by rw [wrap64] <;> omega
              have hmin : (if 1099511627776 < now + (wayV n seen name k).F then 1099511627776 else now + (wayV n seen name k).F) = min (now + (wayV n seen name k).F) 1099511627776 := by split <;> omega
              have htk := trim_ok h0 now
              obtain ⟨t1, _, t3⟩ := chkC_iff.1 htk
              have hko := keep14_ok (trimL L now) t3 (by omega) (keptOf n seen now name k)
              have hkU : (keptOf n seen now name k).U = min (now + (wayV n seen name k).F) 1099511627776 := rfl
              simp -dsimp -implicitDefEqProofs only [hlost, go_sem, ↓reduceIte, reduceCtorEq, rn1, rn2, rn3, rn4, rn5, rn6, rn7, ri1, ri2, ri3, ri4, ri5]
              refine callP (clone_ok _ (by simp; omega)) ?_
              simp -dsimp -implicitDefEqProofs only [hwr, go_sem, ↓reduceIte, reduceCtorEq, rn1, rn2, rn3, rn4, rn5, rn6, rn7, ri1, ri2, ri3, ri4, ri5]
              refine callP (clone_ok _ (by simp; omega)) ?_
              simp -dsimp -implicitDefEqProofs only [hwr, go_sem, ↓reduceIte, reduceCtorEq, rn1, rn2, rn3, rn4, rn5, rn6, rn7, ri1, ri2, ri3, ri4, ri5]
              refine callP (trim14_ok L (by omega) hcr now) ?_
              simp -dsimp -implicitDefEqProofs only [hwr, hmin, go_sem, ↓reduceIte, reduceCtorEq, rn1, rn2, rn3, rn4, rn5, rn6, rn7, ri1, ri2, ri3, ri4, ri5]
              refine callE [true, false] ?_
              simp -dsimp -implicitDefEqProofs only [hmin, go_sem, ↓reduceIte, reduceCtorEq, rn1, rn2, rn3, rn4, rn5, rn6, rn7, ri1, ri2, ri3, ri4, ri5]
              refine ⟨_, hko, ?_⟩
              simp -dsimp -implicitDefEqProofs only [go_sem, ↓reduceIte, reduceCtorEq, rn1, rn2, rn3, rn4, rn5, rn6, rn7, ri1, ri2, ri3, ri4, ri5]
              refine ⟨drawn (by kernel_rfl), retF [600, 640] ?_⟩
              simp -dsimp -implicitDefEqProofs only [go_sem, ↓reduceIte, reduceCtorEq, rn1, rn2, rn3, rn4, rn5, rn6, rn7, ri1, ri2, ri3, ri4, ri5]
    · have hb := find_bad (n := n) (seen := seen) (L := L) (now := now) (name := name) (k := k) (e := chkN n) (by unfold findE; rw [if_neg (by omega), if_pos h1]) (by rcases chkN_vals n with h | h | h <;> rw [h] <;> first | rfl | exact absurd h h1)
      simp -dsimp -implicitDefEqProofs only [h1, go_sem, ↓reduceIte, reduceCtorEq, rn1, rn2, rn3, rn4, rn5, rn6, rn7, ri1, ri2, ri3, ri4, ri5]
      rw [hb.1, hb.2.1, hb.2.2]
      refine ⟨drawn (by kernel_rfl), retF [] ?_⟩
      simp -dsimp -implicitDefEqProofs only [go_sem, ↓reduceIte, reduceCtorEq, rn1, rn2, rn3, rn4, rn5, rn6, rn7, ri1, ri2, ri3, ri4, ri5]
  · have hb := find_bad (n := n) (seen := seen) (L := L) (now := now) (name := name) (k := k) (e := chkC L) (by unfold findE; rw [if_pos h0]) (by rcases chkC_vals L with h | h | h <;> rw [h] <;> first | rfl | exact absurd h h0)
    simp -dsimp -implicitDefEqProofs only [h0, go_sem, ↓reduceIte, reduceCtorEq, rn1, rn2, rn3, rn4, rn5, rn6, rn7, ri1, ri2, ri3, ri4, ri5]
    rw [hb.1, hb.2.1, hb.2.2]
    refine ⟨drawn (by kernel_rfl), retF [] ?_⟩
    simp -dsimp -implicitDefEqProofs only [go_sem, ↓reduceIte, reduceCtorEq, rn1, rn2, rn3, rn4, rn5, rn6, rn7, ri1, ri2, ri3, ri4, ri5]
end Go.Proofs.YtbgcpopmippbiaaGreatDoor
