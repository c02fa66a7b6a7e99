
/- A walk over bends. Who is redirected: integers sorted, each once. route.Bent; the document's. ResolveStraight: the law's contract. -/
import Derived.Test.YtolpobgfcokoaaaGreatDoorNI
import Derived.Test.YtolpobgfcokoaaaGreatDoorSrt
open Nat renaming reduceLT → rn1, reduceLeDiff → rn2, reduceEqDiff → rn3, reduceAdd → rn4, reduceMul → rn5, reduceSub → rn6, reduceBEq → rn7
open Int renaming reduceLT → ri1, reduceLE → ri2, reduceEq → ri3, reduceBEq → ri4, reduceNeg → ri5
namespace Go.Proofs.YtolpobgfcokoaaaGreatDoor
open Go.Eng
structure WoInv (l : List Bn) where
  i : Nat
  le : i ≤ l.length
end Go.Proofs.YtolpobgfcokoaaaGreatDoor
namespace Go.Proofs.YtolpobgfcokoaaaGreatDoor
open Go.Eng
set_option linter.unusedSimpArgs false
set_option maxRecDepth 10000

abbrev kI (x : Int) : Int := x
theorem mem_sortI {zs : List Int} {x : Int} : x ∈ sortI zs ↔ x ∈ zs := List.mem_mergeSort
theorem sortI_le (zs : List Int) : (sortI zs).Pairwise (fun a b => a ≤ b) := by
  have := List.pairwise_mergeSort (le := fun x y : Int => decide (x ≤ y)) (fun a b c h1 h2 => by simp at *; omega) (fun a b => by simp; omega) zs
  exact this.imp fun h => by simpa using h
/-- What Compact makes of integers that do not fall. -/
theorem compact_spec {zs : List Int} (hs : zs.Pairwise (fun a b => a ≤ b)) : ∀ m, m ≤ zs.length → Ris koI kI (Lib.compactUpTo zs.toArray m) ∧ (∀ x, x ∈ Lib.compactUpTo zs.toArray m ↔ x ∈ zs.take m) := by
  have hget : ∀ i (hi : i < zs.length), zs.toArray[i]! = zs[i] := fun i hi => by rw [getElem!_pos zs.toArray i (by simpa using hi)]; simp
  intro m
  induction m with
  | zero => intro _; exact ⟨by simp [Lib.compactUpTo, Ris], by simp [Lib.compactUpTo]⟩
  | succ m ih =>
    intro hm
    obtain ⟨h1, h2⟩ := ih (by omega)
    have htk : zs.take (m + 1) = zs.take m ++ [zs[m]] := by rw [List.take_add_one, List.getElem?_eq_getElem (by omega)]; rfl
    rw [Lib.compactUpTo_succ]
    cases hk : Lib.keeps zs.toArray m with
    | true =>
      simp only [if_true]
      rw [hget m (by omega)]
      refine ⟨ris_append.2 ⟨h1, ris_cons.2 ⟨by simp, List.Pairwise.nil⟩, fun x hx y hy => ?_⟩, fun x => ?_⟩
      · rw [List.mem_singleton] at hy
        subst hy
        have hxt := (h2 x).1 hx
        obtain ⟨i, hi⟩ := List.mem_iff_getElem?.1 hxt
        rw [List.getElem?_take] at hi
        split at hi
        · rename_i him
          obtain ⟨hi1, hi2⟩ := List.getElem?_eq_some_iff.1 hi
          have hne : zs[m] ≠ zs[m - 1] := by
            unfold Lib.keeps at hk
            rw [decide_eq_true_eq, hget m (by omega), hget (m - 1) (by omega)] at hk
            rcases hk with hk | hk
            · omega
            · exact hk
          have hle1 : zs[m - 1] ≤ zs[m] := List.pairwise_iff_getElem.1 hs (m - 1) m (by omega) (by omega) (by omega)
          have hle2 : x ≤ zs[m - 1] := by
            rcases Nat.lt_or_ge i (m - 1) with h | h
            · rw [← hi2]; exact List.pairwise_iff_getElem.1 hs i (m - 1) (by omega) (by omega) h
            · have : i = m - 1 := by omega
              subst this; omega
          show cmpI x zs[m] < 0
          rw [cmpI_lt]; omega
        · cases hi
      · rw [List.mem_append, htk, List.mem_append, h2]
    | false =>
      simp only [Bool.false_eq_true, if_false, List.append_nil]
      refine ⟨h1, fun x => ?_⟩
      have hm0 : ¬ m = 0 := by
        intro e
        unfold Lib.keeps at hk
        simp [e] at hk
      have he : zs[m] = zs[m - 1] := by
        unfold Lib.keeps at hk
        rw [decide_eq_false_iff_not, hget m (by omega), hget (m - 1) (by omega)] at hk
        exact Classical.byContradiction fun h => hk (.inr h)
      rw [h2, htk, List.mem_append, List.mem_singleton]
      constructor
      · exact .inl
      · rintro (h | h)
        · exact h
        · rw [h, he]
          refine List.mem_iff_getElem?.2 ⟨m - 1, ?_⟩
          rw [List.getElem?_take, if_pos (by omega), List.getElem?_eq_getElem]
/-- Integers, each once, as they rise. -/
def riseI (zs : List Int) : List Int := Lib.compact (sortI zs)
theorem riseI_ris (zs : List Int) : Ris koI kI (riseI zs) := (compact_spec (sortI_le zs) _ (by simp)).1
theorem mem_riseI {zs : List Int} {x : Int} : x ∈ riseI zs ↔ x ∈ zs := by
  unfold riseI Lib.compact
  rw [(compact_spec (sortI_le zs) _ (by simp)).2, List.take_of_length_le (by simp), mem_sortI]
theorem riseI_len (zs : List Int) : (riseI zs).length ≤ zs.length := by
  unfold riseI Lib.compact Lib.compactUpTo
  rw [List.length_map]
  exact Nat.le_trans (List.length_filter_le _ _) (by simp [sortI_len])
theorem riseI_eq {zs l : List Int} (hr : Ris koI kI l) (h : ∀ x, x ∈ l ↔ x ∈ zs) : riseI zs = l := ris_ext (riseI_ris zs) hr fun x => by rw [mem_riseI, h]
def bentL (n : Nt) : List Int := riseI (n.B.map Bn.S)
end Go.Proofs.YtolpobgfcokoaaaGreatDoor
namespace Go.Proofs.YtolpobgfcokoaaaGreatDoor
open Go.Eng
set_option linter.unusedSimpArgs false
set_option maxRecDepth 10000

theorem riseI_nil : riseI [] = [] := by
  have := riseI_len []
  exact List.eq_nil_of_length_eq_zero (by simpa using this)
theorem bent_ok (n : Nt) (hl : n.B.length ≤ 1000000) : Meets Tryz.prog 29 [n.arg] (rOne (.own 1 3 ((bentL n).map rowI))) := by
  refine meets Tryz.func29 rfl rfl Tryz.ntmps29 Tryz.results29 rfl ?_
  simp -dsimp -implicitDefEqProofs only [go_sem, ↓reduceIte, reduceCtorEq, rn1, rn2, rn3, rn4, rn5, rn6, rn7, ri1, ri2, ri3, ri4, ri5]
  refine vownE 3 3 rfl ?_
  refine vforT sitOk 400 3 (ι := WoInv n.B) (fun v => ⟨23, [(9, aI v.i), (8, aI n.B.length), (7, aD (bnsD n.B)), (3, aO 400), (1, aP 0 0)], [(400, some (.row 1 3 (((n.B.take v.i).map Bn.S).map rowI) true)), (0, some (.var [cD (svsD n.V), cI n.N, cD (bnsD n.B), cD (cksD n.C)] true))], 401⟩) (fun v => n.B.length - v.i) ⟨0, by omega⟩ ?_ ?_
  · simp -dsimp -implicitDefEqProofs only [go_sem, ↓reduceIte, reduceCtorEq, rn1, rn2, rn3, rn4, rn5, rn6, rn7, ri1, ri2, ri3, ri4, ri5]
  intro ⟨i, hi⟩
  have htl : (n.B.take i).length = i := by simp; omega
  simp -dsimp -implicitDefEqProofs only [go_sem, ↓reduceIte, reduceCtorEq, rn1, rn2, rn3, rn4, rn5, rn6, rn7, ri1, ri2, ri3, ri4, ri5]
  refine ⟨fun hlt => ?_, fun hge => ?_⟩
  · have hil : i < n.B.length := by omega
    obtain ⟨x, hx⟩ : ∃ x, n.B[i]? = some x := ⟨_, List.getElem?_eq_getElem hil⟩
    have hw := wrapS hil (by omega)
    have hst : ((n.B.take i).map Bn.S).map rowI ++ [[dI x.S]] = ((n.B.take (i + 1)).map Bn.S).map rowI := by
      rw [List.take_add_one, hx]; simp [rowI]
    simp -dsimp -implicitDefEqProofs only [hx, forall_eq', hw, htl, List.length_map, go_sem, ↓reduceIte, reduceCtorEq, rn1, rn2, rn3, rn4, rn5, rn6, rn7, ri1, ri2, ri3, ri4, ri5]
    refine ⟨by omega, hil, by omega, againT 400 3 ⟨i + 1, by omega⟩ (by simp; omega) ?_⟩
    simp -dsimp -implicitDefEqProofs only [hw, hst, go_sem, ↓reduceIte, reduceCtorEq, rn1, rn2, rn3, rn4, rn5, rn6, rn7, ri1, ri2, ri3, ri4, ri5]
  · have hil : i = n.B.length := by omega
    subst hil
    rw [List.take_length] at *
    refine vsort (n.B.map Bn.S) (by simp; omega) rfl rfl ?_
    simp -dsimp -implicitDefEqProofs only [go_sem, ↓reduceIte, reduceCtorEq, rn1, rn2, rn3, rn4, rn5, rn6, rn7, ri1, ri2, ri3, ri4, ri5]
    refine callE [true] ?_
    simp -dsimp -implicitDefEqProofs only [go_sem, ↓reduceIte, reduceCtorEq, rn1, rn2, rn3, rn4, rn5, rn6, rn7, ri1, ri2, ri3, ri4, ri5]
    refine ⟨_, compact_ok (sortI (n.B.map Bn.S)) (by rw [sortI_len]; simp; omega), ?_⟩
    simp -dsimp -implicitDefEqProofs only [go_sem, ↓reduceIte, reduceCtorEq, rn1, rn2, rn3, rn4, rn5, rn6, rn7, ri1, ri2, ri3, ri4, ri5]
    rfl
theorem riseI_next (zs : List Int) (x : Int) : riseI (zs ++ [x]) = withK koI kI (riseI zs) x :=
  riseI_eq (with_ris (riseI_ris zs) x) fun y => by
    rw [mem_with (riseI_ris zs), mem_riseI, List.mem_append, List.mem_singleton]
    constructor
    · rintro (h | ⟨h, _⟩)
      · exact .inr h
      · exact .inl h
    · rintro (h | h)
      · by_cases e : y = x
        · exact .inl e
        · exact .inr ⟨h, e⟩
      · exact .inl h
end Go.Proofs.YtolpobgfcokoaaaGreatDoor
namespace Go.Proofs.YtolpobgfcokoaaaGreatDoor
open Go.Eng
set_option linter.unusedSimpArgs false
set_option maxRecDepth 10000

theorem not_bent14 {n : Nt} {seen : Int} (h : seen ∉ bentL n) (addr t : Int) : bnF n ⟨seen, addr, t⟩ = none := find_none.2 fun b hb e =>
  h (mem_riseI.2 (List.mem_map.2 ⟨b, hb, congrArg Prod.fst e⟩))
/-- Who is not redirected sees what nobody redirected does. -/
theorem straight_seen14 {n : Nt} {seen : Int} (h0 : 0 ≤ seen) (h1 : seen < n.N) (h : seen ∉ bentL n) (addr : Int) : srvB n seen addr = srvB n (-1) addr ∧ srvS n seen addr = srvS n (-1) addr := by
  have e1 : srvB n seen addr = srvB n (-1) addr := by
    unfold srvB
    rw [decide_eq_true (by omega : (-1 : Int) ≤ seen), decide_eq_true h1, decide_eq_true (by omega : (-1 : Int) ≤ -1), decide_eq_true (by omega : (-1 : Int) < n.N)]
  refine ⟨e1, ?_⟩
  unfold srvS
  rw [e1]
  cases hb : srvB n (-1) addr with
  | false => rfl
  | true =>
    have hc := (srvB_iff.1 hb).2.2.2
    have e2 : srvZ n seen addr = srvZ n (-1) addr := by
      unfold srvZ
      rw [not_bent14 h addr 0, no_bend hc (.inl (by omega)) 0]
      rfl
    rw [e2]
theorem straight_way {n : Nt} {seen : Int} (h0 : 0 ≤ seen) (h1 : seen < n.N) (h : seen ∉ bentL n) (k : Int) : ∀ (f : Nat) (addr : Int) (name : Bs) (life : Int), askG n seen k f addr name life = askG n (-1) k f addr name life
  | 0, _, _, _ => rfl
  | f + 1, addr, name, life => by
    have hs : stepA n seen k addr name = stepA n (-1) k addr name := by
      unfold stepA
      rw [(straight_seen14 h0 h1 h addr).1, (straight_seen14 h0 h1 h addr).2]
    unfold askG
    rw [hs]
    cases stepA n (-1) k addr name with
    | none => rfl
    | some a =>
      simp only
      rw [straight_way h0 h1 h k f a.T name _, straight_way h0 h1 h k f 0 a.A _]
theorem straight_find {n : Nt} {seen : Int} (h0 : 0 ≤ seen) (h1 : seen < n.N) (h : seen ∉ bentL n) (L : List Kp) (now : Int) (name : Bs) (k : Int) :
    findE n seen L now name k = findE n (-1) L now name k ∧ findL n seen L now name k = findL n (-1) L now name k ∧ findC n seen L now name k = findC n (-1) L now name k := by
  have hw : wayV n seen name k = wayV n (-1) name k := straight_way h0 h1 h k 12 0 name 1000
  have hq : goodQ n seen now k = goodQ n (-1) now k := by
    unfold goodQ
    rw [decide_eq_true (by omega : -1 ≤ seen), decide_eq_true h1, decide_eq_true (by omega : (-1 : Int) ≤ -1), decide_eq_true (by omega : (-1 : Int) < n.N)]
  have he : findE n seen L now name k = findE n (-1) L now name k := by
    unfold findE; rw [hq, hw]
  refine ⟨he, ?_, ?_⟩
  · unfold findL; rw [he, hw]
  · unfold findC keptOf; rw [he, hw]
structure StInv (seen : Int) (l : List Int) where
  i : Nat
  le : i ≤ l.length
  no : ∀ j x, j < i → l[j]? = some x → x ≠ seen
end Go.Proofs.YtolpobgfcokoaaaGreatDoor
