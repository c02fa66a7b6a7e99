/- Check, at, Held, Trim, keep. at, Held, Trim. -/
import Derived.Test.YtbgcpopmippbiaaGreatDoorQA
open Nat renaming reduceLT → rn1, reduceLeDiff → rn2, reduceEqDiff → rn3, reduceAdd → rn4, reduceMul → rn5, reduceSub → rn6, reduceBEq → rn7
open Int renaming reduceLT → ri1, reduceLE → ri2, reduceEq → ri3, reduceBEq → ri4, reduceNeg → ri5
namespace Go.Proofs.YtbgcpopmippbiaaGreatDoor
open Go.Eng
set_option linter.unusedSimpArgs false
set_option maxRecDepth 10000

theorem ccheck_ok (L : List Kp) (hl : L.length ≤ 1000000) (hr : ∀ k ∈ L, k.R.length ≤ 1000000) : Meets Tryz.prog 37 [cacheA L] (rOne (vI (chkC L))) := by
  refine meets Tryz.func37 rfl rfl Tryz.ntmps37 Tryz.results37 rfl ?_
  simp -dsimp -implicitDefEqProofs only [go_sem, ↓reduceIte, reduceCtorEq, rn1, rn2, rn3, rn4, rn5, rn6, rn7, ri1, ri2, ri3, ri4, ri5]
  refine ⟨fun h => ?_, fun h => ?_⟩
  · unfold chkC; rw [if_pos (by omega)]
  · refine vfor sitOk (ι := RsInv oQ mayB L) (fun v => ⟨36, [(12, aI v.i), (11, aI L.length), (10, aD (kpsD L)), (1, aP 0 0)], [(0, some (.var [cD (kpsD L)] true))], 100⟩) (fun v => L.length - v.i) ⟨0, by omega, fun j hj => by omega⟩ ?_ ?_
    · simp -dsimp -implicitDefEqProofs only [go_sem, ↓reduceIte, reduceCtorEq, rn1, rn2, rn3, rn4, rn5, rn6, rn7, ri1, ri2, ri3, ri4, ri5]
    intro ⟨i, hi, hok⟩
    simp -dsimp -implicitDefEqProofs only [go_sem, ↓reduceIte, reduceCtorEq, rn1, rn2, rn3, rn4, rn5, rn6, rn7, ri1, ri2, ri3, ri4, ri5]
    refine ⟨fun hlt => ?_, fun hge => ?_⟩
    · have hil : i < L.length := by omega
      obtain ⟨x, hx⟩ : ∃ x, L[i]? = some x := ⟨_, List.getElem?_eq_getElem hil⟩
      have hw := wrapS hil (by omega)
      have hxl := hr x (List.mem_of_getElem? hx)
      have bad : risesAt oQ mayB L i = false → 1 = chkC L := fun h2 => by
        unfold chkC cacheOk; rw [if_neg (by omega), rises_bad hil h2]; rfl
      by_cases h0 : i = 0
      · have hat : risesAt oQ mayB L i = mayB x := by subst h0; exact rises_at0 _ _ hx
        have hzz : ¬ (0 : Int) < (i : Int) := by omega
        simp -dsimp -implicitDefEqProofs only [hx, forall_eq', hw, hzz, go_sem, ↓reduceIte, reduceCtorEq, rn1, rn2, rn3, rn4, rn5, rn6, rn7, ri1, ri2, ri3, ri4, ri5]
        refine ⟨by omega, hil, callP (may_ok x hxl) ?_⟩
        simp -dsimp -implicitDefEqProofs only [hx, forall_eq', hw, hzz, go_sem, ↓reduceIte, reduceCtorEq, rn1, rn2, rn3, rn4, rn5, rn6, rn7, ri1, ri2, ri3, ri4, ri5]
        refine ⟨fun hm => ⟨drawn (by kernel_rfl), again ⟨i + 1, by omega, next_at hok (by rw [hat, hm])⟩ (by simp; omega) ?_⟩, fun hm => ⟨drawn (by kernel_rfl), bad (by rw [hat, hm])⟩⟩
        simp -dsimp -implicitDefEqProofs only [hw, go_sem, ↓reduceIte, reduceCtorEq, rn1, rn2, rn3, rn4, rn5, rn6, rn7, ri1, ri2, ri3, ri4, ri5]
      · obtain ⟨p, hp⟩ : ∃ p, L[i - 1]? = some p := ⟨_, List.getElem?_eq_getElem (by omega)⟩
        have hat : risesAt oQ mayB L i = (mayB x && decide (koQ.cmp (kQ p) (kQ x) < 0)) := by
          obtain ⟨k, rfl⟩ : ∃ k, i = k + 1 := ⟨i - 1, by omega⟩
          exact rises_atS _ _ hx hp
        have hw2 : IntKind.i64.wrap ((i : Int) - 1) = ((i - 1 : Nat) : Int) := by rw [wrap64] <;> omega
        have hzz : (0 : Int) < (i : Int) := by omega
        simp -dsimp -implicitDefEqProofs only [hx, forall_eq', hw, hzz, hw2, hp, go_sem, ↓reduceIte, reduceCtorEq, rn1, rn2, rn3, rn4, rn5, rn6, rn7, ri1, ri2, ri3, ri4, ri5]
        refine ⟨by omega, hil, callP (may_ok x hxl) ?_⟩
        simp -dsimp -implicitDefEqProofs only [hx, forall_eq', hw, hzz, hw2, hp, go_sem, ↓reduceIte, reduceCtorEq, rn1, rn2, rn3, rn4, rn5, rn6, rn7, ri1, ri2, ri3, ri4, ri5]
        refine ⟨fun hm => ⟨by omega, by omega, callP (korder_ok p x) ?_⟩, fun hm => ⟨drawn (by kernel_rfl), bad (by rw [hat, hm]; rfl)⟩⟩
        simp -dsimp -implicitDefEqProofs only [hw, go_sem, ↓reduceIte, reduceCtorEq, rn1, rn2, rn3, rn4, rn5, rn6, rn7, ri1, ri2, ri3, ri4, ri5]
        refine ⟨drawn (by kernel_rfl), fun h2 => ?_, fun h2 => ?_⟩
        · exact bad (by rw [hat, hm, decide_eq_false (by omega)]; rfl)
        · refine again ⟨i + 1, by omega, next_at hok (by rw [hat, hm, decide_eq_true (by omega)]; rfl)⟩ (by simp; omega) ?_
          simp -dsimp -implicitDefEqProofs only [hw, go_sem, ↓reduceIte, reduceCtorEq, rn1, rn2, rn3, rn4, rn5, rn6, rn7, ri1, ri2, ri3, ri4, ri5]
    · have hil : i = L.length := by omega
      subst hil
      unfold chkC cacheOk
      rw [if_neg (by omega), risesB_true hok]
      rfl
end Go.Proofs.YtbgcpopmippbiaaGreatDoor
namespace Go.Proofs.YtbgcpopmippbiaaGreatDoor
open Go.Eng
set_option linter.unusedSimpArgs false
set_option maxRecDepth 10000

/-- slices.BinarySearchFunc, whatever compares. (kbs) -/
theorem kbs_ok (l : List Kp) (hl : l.length ≤ 1000000) (r : Kp) (f : FuncId) (c : Kp → Int)
    (hp : ∀ x ∈ l, Meets Tryz.prog f ((true, x.cells.map .d) :: [(true, [vS r.N, vI r.K, vD (recsD r.R), vI r.U])]) (rOne (vI (c x)))) :
    Meets Tryz.prog 171 [(false, [vD (.vec 4 (l.map Kp.cells))]), (true, [vS r.N, vI r.K, vD (recsD r.R), vI r.U]), (false, [vD (.fn f [])])] (rTup [(false, [vI (bs c l 0 l.length : Nat)]), (false, [vB (bsHit c l (bs c l 0 l.length))])]) := by
  refine meets Tryz.func171 rfl rfl Tryz.ntmps171 Tryz.results171 rfl ?_
  simp -dsimp -implicitDefEqProofs only [go_sem, ↓reduceIte, reduceCtorEq, rn1, rn2, rn3, rn4, rn5, rn6, rn7, ri1, ri2, ri3, ri4, ri5]
  refine vfor sitOk (ι := BsInv c l) (fun v => ⟨49, [(10, aI v.hi), (9, aI v.lo), (8, aI l.length), (7, aB false), (6, aI 0), (0, aD (.vec 4 (l.map Kp.cells))), (4, aP 0 0), (1, .cs true [cS r.N, cI r.K, cD (recsD r.R), cI r.U]), (2, aD (.fn f []))], [(0, some (.var [cS r.N, cI r.K, cD (recsD r.R), cI r.U] true))], 1⟩) (fun v => v.hi - v.lo) ⟨0, l.length, by omega, by omega, rfl⟩ ?_ ?_
  · simp -dsimp -implicitDefEqProofs only [go_sem, ↓reduceIte, reduceCtorEq, rn1, rn2, rn3, rn4, rn5, rn6, rn7, ri1, ri2, ri3, ri4, ri5]
  intro ⟨lo, hi, hlh, hhl, hbs⟩
  obtain ⟨mid, hmid⟩ : ∃ mid, (lo + hi) / 2 = mid := ⟨_, rfl⟩
  have hw0 : IntKind.i64.wrap ((lo : Int) + (hi : Int)) = ((lo + hi : Nat) : Int) := by rw [wrap64] <;> omega
  have hw1 : IntKind.u64.wrap ((lo + hi : Nat) : Int) = ((lo + hi : Nat) : Int) := by rw [u64_wrap] <;> omega
  have hw2 : Int.fdiv ((lo + hi : Nat) : Int) (2 ^ (min (Int.toNat 1) 64)) = (mid : Int) := by
    show Int.fdiv ((lo + hi : Nat) : Int) 2 = _
    rw [Int.fdiv_eq_ediv_of_nonneg _ (by omega)]; omega
  have hw3 : IntKind.i64.wrap (mid : Int) = (mid : Int) := by rw [wrap64] <;> omega
  have hw4 : IntKind.i64.wrap ((mid : Int) + 1) = ((mid + 1 : Nat) : Int) := by rw [wrap64] <;> omega
  simp -dsimp -implicitDefEqProofs only [hw0, hw1, hw2, hw3, go_sem, ↓reduceIte, reduceCtorEq, rn1, rn2, rn3, rn4, rn5, rn6, rn7, ri1, ri2, ri3, ri4, ri5]
  refine ⟨fun hlt => ⟨by omega, by omega, fun x hx => callP (hp x (List.mem_of_getElem? hx)) ?_⟩, fun hge => ⟨fun hin => ⟨by omega, by omega, fun x hx => callP (hp x (List.mem_of_getElem? hx)) ?_⟩, fun hout => ?_⟩⟩
  · simp -dsimp -implicitDefEqProofs only [hw4, go_sem, ↓reduceIte, reduceCtorEq, rn1, rn2, rn3, rn4, rn5, rn6, rn7, ri1, ri2, ri3, ri4, ri5]
    refine ⟨drawn (by kernel_rfl),⟨fun c1 => ?_, fun c1 => ?_⟩⟩
    · refine again ⟨mid + 1, hi, by omega, by omega, by rw [hbs, bs, if_pos (by omega), hmid, hx]; simp [c1]⟩ (by simp; omega) ?_
      simp -dsimp -implicitDefEqProofs only [go_sem, ↓reduceIte, reduceCtorEq, rn1, rn2, rn3, rn4, rn5, rn6, rn7, ri1, ri2, ri3, ri4, ri5]
    · have c1' : ¬ c x < 0 := by omega
      refine again ⟨lo, mid, by omega, by omega, by rw [hbs, bs, if_pos (by omega), hmid, hx]; simp [c1']⟩ (by simp; omega) ?_
      simp -dsimp -implicitDefEqProofs only [go_sem, ↓reduceIte, reduceCtorEq, rn1, rn2, rn3, rn4, rn5, rn6, rn7, ri1, ri2, ri3, ri4, ri5]
  · have hend : bs c l 0 l.length = lo := by rw [hbs, bs, if_neg (by omega)]
    simp -dsimp -implicitDefEqProofs only [go_sem, ↓reduceIte, reduceCtorEq, rn1, rn2, rn3, rn4, rn5, rn6, rn7, ri1, ri2, ri3, ri4, ri5]
    refine ⟨drawn (by kernel_rfl), ?_⟩
    simp [hend, bsHit, hx]
  · have hend : bs c l 0 l.length = lo := by rw [hbs, bs, if_neg (by omega)]
    have hx : l[lo]? = none := List.getElem?_eq_none (by omega)
    refine ⟨drawn (by kernel_rfl), ?_⟩
    simp [hend, bsHit, hx]

theorem at_ok (L : List Kp) (hl : L.length ≤ 1000000) (name : Bs) (k : Int) : Meets Tryz.prog 106 [cacheA L, (false, [vS name]), (false, [vI k])] (rTup [(false, [vI (posK koQ kQ L (name, k) : Nat)]), (false, [vB (hitK koQ kQ L (name, k))])]) := by
  refine meets Tryz.func106 rfl rfl Tryz.ntmps106 Tryz.results106 rfl ?_
  simp -dsimp -implicitDefEqProofs only [go_sem, ↓reduceIte, reduceCtorEq, rn1, rn2, rn3, rn4, rn5, rn6, rn7, ri1, ri2, ri3, ri4, ri5]
  refine callP (kbs_ok L hl ⟨name, k, [], 0⟩ _ (fun y => koQ.cmp (kQ y) (name, k)) fun y _ => korder_ok y ⟨name, k, [], 0⟩) ?_
  simp -dsimp -implicitDefEqProofs only [go_sem, ↓reduceIte, reduceCtorEq, rn1, rn2, rn3, rn4, rn5, rn6, rn7, ri1, ri2, ri3, ri4, ri5]
  exact ⟨rfl, rfl⟩
abbrev heldR (o : Option (List Rec)) : List Rec := o.getD []
theorem held_ok (L : List Kp) (hl : L.length ≤ 1000000) (hr : ∀ k ∈ L, k.R.length ≤ 1000000) (now : Int) (name : Bs) (k : Int) : Meets Tryz.prog 41 [cacheA L, (false, [vI now]), (false, [vS name]), (false, [vI k])]
    (rTup [(false, [.own 4 26 ((heldR (heldV L now name k)).map Rec.cells)]), (false, [vB (heldV L now name k).isSome])]) := by
  refine meets Tryz.func41 rfl rfl Tryz.ntmps41 Tryz.results41 rfl ?_
  simp -dsimp -implicitDefEqProofs only [go_sem, ↓reduceIte, reduceCtorEq, rn1, rn2, rn3, rn4, rn5, rn6, rn7, ri1, ri2, ri3, ri4, ri5]
  refine callP (ccheck_ok L hl hr) ?_
  by_cases h0 : chkC L = 0
  · obtain ⟨_, _, hri⟩ := chkC_iff.1 h0
    simp -dsimp -implicitDefEqProofs only [h0, go_sem, ↓reduceIte, reduceCtorEq, rn1, rn2, rn3, rn4, rn5, rn6, rn7, ri1, ri2, ri3, ri4, ri5]
    refine callP (at_ok L hl name k) ?_
    have hhf := hit_find hri (name, k)
    cases hh : hitK koQ kQ L (name, k) with
    | false =>
      have hv : heldV L now name k = none := by
        unfold heldV
        rw [if_pos h0]
        rw [hh] at hhf
        have hf : kpF L name k = none := by
          cases hf : findK koQ kQ L (name, k) with
          | none => exact hf
          | some x => rw [hf] at hhf; cases hhf
        rw [hf]
      rw [hv]
      simp -dsimp -implicitDefEqProofs only [hh, go_sem, ↓reduceIte, reduceCtorEq, rn1, rn2, rn3, rn4, rn5, rn6, rn7, ri1, ri2, ri3, ri4, ri5]
      rfl
    | true =>
      have hlt := hitK_lt hh
      obtain ⟨x, hx⟩ : ∃ x, L[posK koQ kQ L (name, k)]? = some x := ⟨_, List.getElem?_eq_getElem hlt⟩
      have hxk : kQ x = (name, k) := by
        unfold hitK bsHit at hh
        rw [hx] at hh
        simp only [decide_eq_true_eq, beq_iff_eq] at hh
        exact koQ.eq0.1 hh
      have hf : findK koQ kQ L (name, k) = some x := (find_iff hri).2 ⟨List.mem_of_getElem? hx, hxk⟩
      have hv : heldV L now name k = if now < x.U then some x.R else none := by
        unfold heldV
        rw [if_pos h0, show kpF L name k = some x from hf]
      have hxl := hr x (List.mem_of_getElem? hx)
      by_cases hu : now < x.U
      · rw [hv, if_pos hu]
        have hu2 : ¬ x.U ≤ now := by omega
        simp -dsimp -implicitDefEqProofs only [hh, hx, forall_eq', hu, hu2, go_sem, ↓reduceIte, reduceCtorEq, rn1, rn2, rn3, rn4, rn5, rn6, rn7, ri1, ri2, ri3, ri4, ri5]
        refine ⟨by omega, hlt, by omega, hlt, callP (clone_ok _ (by simp; omega)) ?_⟩
        simp -dsimp -implicitDefEqProofs only [go_sem, ↓reduceIte, reduceCtorEq, rn1, rn2, rn3, rn4, rn5, rn6, rn7, ri1, ri2, ri3, ri4, ri5]
        rfl
      · rw [hv, if_neg hu]
        have hu2 : x.U ≤ now := by omega
        simp -dsimp -implicitDefEqProofs only [hh, hx, forall_eq', hu, hu2, go_sem, ↓reduceIte, reduceCtorEq, rn1, rn2, rn3, rn4, rn5, rn6, rn7, ri1, ri2, ri3, ri4, ri5]
        exact ⟨by omega, hlt, rfl⟩
  · have hv : heldV L now name k = none := by unfold heldV; rw [if_neg h0]
    rw [hv]
    simp -dsimp -implicitDefEqProofs only [h0, go_sem, ↓reduceIte, reduceCtorEq, rn1, rn2, rn3, rn4, rn5, rn6, rn7, ri1, ri2, ri3, ri4, ri5]
    rfl
structure TrInv (L : List Kp) where
  i : Nat
  le : i ≤ L.length
theorem trim14_ok (L : List Kp) (hl : L.length ≤ 1000000) (hr : ∀ k ∈ L, k.R.length ≤ 1000000) (now : Int) : Meets Tryz.prog 44 [cacheA L, (false, [vI now])] (rAgg [.own 4 113 ((trimL L now).map Kp.cells)]) := by
  refine meets Tryz.func44 rfl rfl Tryz.ntmps44 Tryz.results44 rfl ?_
  simp -dsimp -implicitDefEqProofs only [go_sem, ↓reduceIte, reduceCtorEq, rn1, rn2, rn3, rn4, rn5, rn6, rn7, ri1, ri2, ri3, ri4, ri5]
  refine callP (ccheck_ok L hl hr) ?_
  by_cases h0 : chkC L = 0
  · have ht : trimL L now = L.filter fun k => decide (now < k.U) := by unfold trimL; rw [if_pos h0]
    rw [ht]
    simp -dsimp -implicitDefEqProofs only [h0, go_sem, ↓reduceIte, reduceCtorEq, rn1, rn2, rn3, rn4, rn5, rn6, rn7, ri1, ri2, ri3, ri4, ri5]
    refine vown 16 0 113 rfl ?_
    simp -dsimp -implicitDefEqProofs only [go_sem, ↓reduceIte, reduceCtorEq, rn1, rn2, rn3, rn4, rn5, rn6, rn7, ri1, ri2, ri3, ri4, ri5]
    refine vforR sitOk [(400, 80)] (ι := TrInv L) (fun v => ⟨35, [(15, aI v.i), (14, aI L.length), (13, aD (kpsD L)), (5, aP 16 0), (4, aP 8 0), (2, aP 0 0), (1, aI now)], [(400, some (.row 4 113 (((L.take v.i).filter fun k => decide (now < k.U)).map Kp.cells) true)), (16, some (.var [.own 400] true)), (8, some (.var [.nils 4] true)), (0, some (.var [cD (kpsD L)] true))], 401⟩) (fun v => L.length - v.i) ⟨0, by omega⟩ ?_ ?_
    · simp -dsimp -implicitDefEqProofs only [go_sem, ↓reduceIte, reduceCtorEq, rn1, rn2, rn3, rn4, rn5, rn6, rn7, ri1, ri2, ri3, ri4, ri5]
      rfl
    intro ⟨i, hi⟩
    have hfl : ((L.take i).filter fun k => decide (now < k.U)).length ≤ i := Nat.le_trans (List.length_filter_le _ _) (by simp; omega)
    simp -dsimp -implicitDefEqProofs only [go_sem, ↓reduceIte, reduceCtorEq, rn1, rn2, rn3, rn4, rn5, rn6, rn7, ri1, ri2, ri3, ri4, ri5]
    refine ⟨fun hlt => ?_, fun hge => ?_⟩
    · have hil : i < L.length := by omega
      obtain ⟨x, hx⟩ : ∃ x, L[i]? = some x := ⟨_, List.getElem?_eq_getElem hil⟩
      have hw := wrapS hil (by omega)
      have hxl := hr x (List.mem_of_getElem? hx)
      have hst : (L.take (i + 1)).filter (fun k => decide (now < k.U)) = (L.take i).filter (fun k => decide (now < k.U)) ++ if now < x.U then [x] else [] := by
        rw [List.take_add_one, hx, List.filter_append]
        congr 1
        by_cases h : now < x.U <;> simp [h]
      have hput : ((L.take i).filter fun k => decide (now < k.U)).map Kp.cells ++ [[dT x.N, dI x.K, recsD x.R, dI x.U]] = ((L.take i).filter (fun k => decide (now < k.U)) ++ [x]).map Kp.cells := by simp [Kp.cells]
      simp -dsimp -implicitDefEqProofs only [hx, forall_eq', hw, go_sem, ↓reduceIte, reduceCtorEq, rn1, rn2, rn3, rn4, rn5, rn6, rn7, ri1, ri2, ri3, ri4, ri5]
      refine ⟨by omega, hil, fun hu => callP (clone_ok _ (by simp; omega)) ?_, fun hu => ?_⟩
      · rw [if_pos hu] at hst
        simp -dsimp -implicitDefEqProofs only [go_sem, ↓reduceIte, reduceCtorEq, rn1, rn2, rn3, rn4, rn5, rn6, rn7, ri1, ri2, ri3, ri4, ri5]
        refine ⟨⟨by omega, by omega⟩, againO 400 16 0 ⟨i + 1, by omega⟩ (by simp; omega) ?_⟩
        simp -dsimp -implicitDefEqProofs only [hw, hst, hput, go_sem, ↓reduceIte, reduceCtorEq, rn1, rn2, rn3, rn4, rn5, rn6, rn7, ri1, ri2, ri3, ri4, ri5]
      · rw [if_neg (by omega), List.append_nil] at hst
        refine againO 400 16 0 ⟨i + 1, by omega⟩ (by simp; omega) ?_
        simp -dsimp -implicitDefEqProofs only [hw, hst, go_sem, ↓reduceIte, reduceCtorEq, rn1, rn2, rn3, rn4, rn5, rn6, rn7, ri1, ri2, ri3, ri4, ri5]
    · have hil : i = L.length := by omega
      subst hil
      rw [List.take_length]
  · have ht : trimL L now = [] := by unfold trimL; rw [if_neg h0]
    rw [ht]
    simp -dsimp -implicitDefEqProofs only [h0, go_sem, ↓reduceIte, reduceCtorEq, rn1, rn2, rn3, rn4, rn5, rn6, rn7, ri1, ri2, ri3, ri4, ri5]
end Go.Proofs.YtbgcpopmippbiaaGreatDoor
